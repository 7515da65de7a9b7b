/-
  The executor's tables of this seat: types, elements' data, functions. Written by a program of this work (genenv.py) out of the seat's translation; no condition.
-/
import Derived.Test.YthmmgoebdcegmaaGreatDoorVgFn
import Derived.KernelRfl
import Derived.Test.YthmmgoebdcegmaaGreatDoorProg
set_option maxRecDepth 100000
set_option maxHeartbeats 4000000
namespace Go.Vg.YthmmgoebdcegmaaGreatDoor
open Go.Vg Go.Proofs
structure Change where
  kind : Int
  a : Int
  b : Int
structure Packet where
  flow : Int
  sub : Int
  number : Int
  data : Int
  size : Int
  sent : Int
  able : Bool
  marked : Bool
structure Record where
  at_ : Int
  kind : Int
  a : Int
  p : Packet
structure Segment where
  from_ : Int
  to_ : Int
  begin_ : Int
  end_ : Int
  records : (List Record)
structure Policy where
  kind : Int
  a : Int
  b : Int
  c : Int
structure Queued where
  p : Packet
  at_ : Int
structure Queue where
  policy : Policy
  room : Int
  lists : (List (List Queued))
  vars : List Int
  seed : Int
structure Link where
  rate : Int
  delay : Int
  queue : Queue
  busy : Bool
  now : Packet
  until_ : Int
structure Path where
  links : (List Int)
  back : Int
  up : Bool
structure Sent where
  number : Int
  data : Int
  at_ : Int
  passed : Int
structure Pacer where
  next_ : Int
  rest : Int
structure Sender where
  vars : (List Int)
  next_ : Int
  flight : (List Sent)
  rtt : Int
  until_ : Int
  pacer : Pacer
structure Receiver where
  next_ : Int
  have_ : (List Int)
structure Flow where
  program : Int
  paths : (List Int)
  size : Int
  window : Int
  start : Int
  hold : Int
  subs : (List Sender)
  recv : Receiver
  data : Int
  again : (List Int)
structure Var where
  name : ByteArray
  unit : Int
  low : Int
  high : Int
  init_ : Int
structure ProgramD where
  name : ByteArray
  vars : (List Var)
  on_0 : (List Unit)
  on_1 : (List Unit)
  on_2 : (List Unit)
  on_3 : (List Unit)
  on_4 : (List Unit)
  window : Int
  pace : Int
structure Ack where
  sub : Int
  number : Int
  next_ : Int
  sent : Int
  marked : Bool
structure ItemD where
  at_ : Int
  number : Int
  kind : Int
  a : Int
  b : Int
  p : Packet
  k : Ack
  change : Change
structure Instr where
  op : Int
  n : Int
  rel : Int
structure step where
  event : Int
  packets : Int
structure boundsError where
  x : Int
  y : Int
  signed : Bool
  code : Int
structure errorAddressString where
  msg : ByteArray
  addr : Int
structure Budget where
  periods : Int
  length : Int
  left : List Int
  choices : (List Change)
structure Agenda where
  list : (List ItemD)
  next_ : Int
structure WorldD where
  now : Int
  links : (List Link)
  paths : (List Path)
  flows : (List Flow)
  programs : (List ProgramD)
  agenda : Agenda
  sent : Int
  delivered : Int
  dropped : Int
  digest : Int
structure state where
  world : WorldD
  records : (List Record)
structure coder where
  read : Bool
  bytes : (List Int)
  at_ : Int
  depth : Int
  bad : Bool
structure full where
  e : Int
structure CodeD where
  on_0 : (List Instr)
  on_1 : (List Instr)
  on_2 : (List Instr)
  on_3 : (List Instr)
  on_4 : (List Instr)
structure writer where
  list : (List Instr)
structure line where
  link : Link
  dropped : (List Packet)
structure state' where
  sender : Sender
  p : ProgramD
  code : CodeD
structure CallD where
  event : Int
  in_ : List Int
structure choice where
  sub : Int
  at_ : Int
  rtt : Int
structure machine where
  vars : (List Var)
  state : (List Int)
  inputs : List Int
  stack : List Int
  height : Int
  at_ : Int
  steps : Int
structure state'' where
  pacer : Pacer
structure checker where
  vars : (List (List Int))
structure line' where
  queue : Queue
structure line'' where
  queue : Queue
  now : Int
structure pair where
  q : Queue
  lists0 : (List Queued)
  lists1 : (List Queued)
  now : Int
  drops : (List Packet)
structure effect where
  takes : Int
  puts : Int
structure Unit' where
  packets : Int
  bytes : Int
  time : Int
def T : Nat → Type
  | 3 => Int
  | 4 => Bool
  | 5 => Int
  | 9 => ByteArray
  | 26 => (List Int)
  | 34 => (List Int)
  | 40 => Packet
  | 42 => Record
  | 51 => Segment
  | 60 => Change
  | 66 => (List ItemD)
  | 102 => Var
  | 107 => ProgramD
  | 110 => (List Queued)
  | 117 => Link
  | 119 => Path
  | 124 => Flow
  | 151 => Sender
  | 163 => ItemD
  | 222 => Sent
  | 229 => Queued
  | 287 => Unit
  | 289 => Unit
  | 345 => step
  | 419 => Unit
  | 426 => Instr
  | 451 => (List Int)
  | _ => Unit
instance : Inhabited Change := ⟨(⟨(0 : Int), (0 : Int), (0 : Int)⟩ : Change)⟩
instance : Inhabited Packet := ⟨(⟨(0 : Int), (0 : Int), (0 : Int), (0 : Int), (0 : Int), (0 : Int), false, false⟩ : Packet)⟩
instance : Inhabited Record := ⟨(⟨(0 : Int), (0 : Int), (0 : Int), (⟨(0 : Int), (0 : Int), (0 : Int), (0 : Int), (0 : Int), (0 : Int), false, false⟩ : Packet)⟩ : Record)⟩
instance : Inhabited Segment := ⟨(⟨(0 : Int), (0 : Int), (0 : Int), (0 : Int), ([] : (List Record))⟩ : Segment)⟩
instance : Inhabited Policy := ⟨(⟨(0 : Int), (0 : Int), (0 : Int), (0 : Int)⟩ : Policy)⟩
instance : Inhabited Queued := ⟨(⟨(⟨(0 : Int), (0 : Int), (0 : Int), (0 : Int), (0 : Int), (0 : Int), false, false⟩ : Packet), (0 : Int)⟩ : Queued)⟩
instance : Inhabited Queue := ⟨(⟨(⟨(0 : Int), (0 : Int), (0 : Int), (0 : Int)⟩ : Policy), (0 : Int), ([] : (List (List Queued))), List.replicate 8 0, (0 : Int)⟩ : Queue)⟩
instance : Inhabited Link := ⟨(⟨(0 : Int), (0 : Int), (⟨(⟨(0 : Int), (0 : Int), (0 : Int), (0 : Int)⟩ : Policy), (0 : Int), ([] : (List (List Queued))), List.replicate 8 0, (0 : Int)⟩ : Queue), false, (⟨(0 : Int), (0 : Int), (0 : Int), (0 : Int), (0 : Int), (0 : Int), false, false⟩ : Packet), (0 : Int)⟩ : Link)⟩
instance : Inhabited Path := ⟨(⟨([] : (List Int)), (0 : Int), false⟩ : Path)⟩
instance : Inhabited Sent := ⟨(⟨(0 : Int), (0 : Int), (0 : Int), (0 : Int)⟩ : Sent)⟩
instance : Inhabited Pacer := ⟨(⟨(0 : Int), (0 : Int)⟩ : Pacer)⟩
instance : Inhabited Sender := ⟨(⟨([] : (List Int)), (0 : Int), ([] : (List Sent)), (0 : Int), (0 : Int), (⟨(0 : Int), (0 : Int)⟩ : Pacer)⟩ : Sender)⟩
instance : Inhabited Receiver := ⟨(⟨(0 : Int), ([] : (List Int))⟩ : Receiver)⟩
instance : Inhabited Flow := ⟨(⟨(0 : Int), ([] : (List Int)), (0 : Int), (0 : Int), (0 : Int), (0 : Int), ([] : (List Sender)), (⟨(0 : Int), ([] : (List Int))⟩ : Receiver), (0 : Int), ([] : (List Int))⟩ : Flow)⟩
instance : Inhabited Var := ⟨(⟨ByteArray.empty, (0 : Int), (0 : Int), (0 : Int), (0 : Int)⟩ : Var)⟩
instance : Inhabited ProgramD := ⟨(⟨ByteArray.empty, ([] : (List Var)), ([] : (List Unit)), ([] : (List Unit)), ([] : (List Unit)), ([] : (List Unit)), ([] : (List Unit)), (0 : Int), (0 : Int)⟩ : ProgramD)⟩
instance : Inhabited Ack := ⟨(⟨(0 : Int), (0 : Int), (0 : Int), (0 : Int), false⟩ : Ack)⟩
instance : Inhabited ItemD := ⟨(⟨(0 : Int), (0 : Int), (0 : Int), (0 : Int), (0 : Int), (⟨(0 : Int), (0 : Int), (0 : Int), (0 : Int), (0 : Int), (0 : Int), false, false⟩ : Packet), (⟨(0 : Int), (0 : Int), (0 : Int), (0 : Int), false⟩ : Ack), (⟨(0 : Int), (0 : Int), (0 : Int)⟩ : Change)⟩ : ItemD)⟩
instance : Inhabited Instr := ⟨(⟨(0 : Int), (0 : Int), (0 : Int)⟩ : Instr)⟩
instance : Inhabited step := ⟨(⟨(0 : Int), (0 : Int)⟩ : step)⟩
instance : Inhabited boundsError := ⟨(⟨(0 : Int), (0 : Int), false, (0 : Int)⟩ : boundsError)⟩
instance : Inhabited errorAddressString := ⟨(⟨ByteArray.empty, (0 : Int)⟩ : errorAddressString)⟩
instance : Inhabited Budget := ⟨(⟨(0 : Int), (0 : Int), List.replicate 6 0, ([] : (List Change))⟩ : Budget)⟩
instance : Inhabited Agenda := ⟨(⟨([] : (List ItemD)), (0 : Int)⟩ : Agenda)⟩
instance : Inhabited WorldD := ⟨(⟨(0 : Int), ([] : (List Link)), ([] : (List Path)), ([] : (List Flow)), ([] : (List ProgramD)), (⟨([] : (List ItemD)), (0 : Int)⟩ : Agenda), (0 : Int), (0 : Int), (0 : Int), (0 : Int)⟩ : WorldD)⟩
instance : Inhabited state := ⟨(⟨(⟨(0 : Int), ([] : (List Link)), ([] : (List Path)), ([] : (List Flow)), ([] : (List ProgramD)), (⟨([] : (List ItemD)), (0 : Int)⟩ : Agenda), (0 : Int), (0 : Int), (0 : Int), (0 : Int)⟩ : WorldD), ([] : (List Record))⟩ : state)⟩
instance : Inhabited coder := ⟨(⟨false, ([] : (List Int)), (0 : Int), (0 : Int), false⟩ : coder)⟩
instance : Inhabited full := ⟨(⟨(0 : Int)⟩ : full)⟩
instance : Inhabited CodeD := ⟨(⟨([] : (List Instr)), ([] : (List Instr)), ([] : (List Instr)), ([] : (List Instr)), ([] : (List Instr))⟩ : CodeD)⟩
instance : Inhabited writer := ⟨(⟨([] : (List Instr))⟩ : writer)⟩
instance : Inhabited line := ⟨(⟨(⟨(0 : Int), (0 : Int), (⟨(⟨(0 : Int), (0 : Int), (0 : Int), (0 : Int)⟩ : Policy), (0 : Int), ([] : (List (List Queued))), List.replicate 8 0, (0 : Int)⟩ : Queue), false, (⟨(0 : Int), (0 : Int), (0 : Int), (0 : Int), (0 : Int), (0 : Int), false, false⟩ : Packet), (0 : Int)⟩ : Link), ([] : (List Packet))⟩ : line)⟩
instance : Inhabited state' := ⟨(⟨(⟨([] : (List Int)), (0 : Int), ([] : (List Sent)), (0 : Int), (0 : Int), (⟨(0 : Int), (0 : Int)⟩ : Pacer)⟩ : Sender), (⟨ByteArray.empty, ([] : (List Var)), ([] : (List Unit)), ([] : (List Unit)), ([] : (List Unit)), ([] : (List Unit)), ([] : (List Unit)), (0 : Int), (0 : Int)⟩ : ProgramD), (⟨([] : (List Instr)), ([] : (List Instr)), ([] : (List Instr)), ([] : (List Instr)), ([] : (List Instr))⟩ : CodeD)⟩ : state')⟩
instance : Inhabited CallD := ⟨(⟨(0 : Int), List.replicate 4 0⟩ : CallD)⟩
instance : Inhabited choice := ⟨(⟨(0 : Int), (0 : Int), (0 : Int)⟩ : choice)⟩
instance : Inhabited machine := ⟨(⟨([] : (List Var)), ([] : (List Int)), List.replicate 4 0, List.replicate 64 0, (0 : Int), (0 : Int), (0 : Int)⟩ : machine)⟩
instance : Inhabited state'' := ⟨(⟨(⟨(0 : Int), (0 : Int)⟩ : Pacer)⟩ : state'')⟩
instance : Inhabited checker := ⟨(⟨([] : (List (List Int)))⟩ : checker)⟩
instance : Inhabited line' := ⟨(⟨(⟨(⟨(0 : Int), (0 : Int), (0 : Int), (0 : Int)⟩ : Policy), (0 : Int), ([] : (List (List Queued))), List.replicate 8 0, (0 : Int)⟩ : Queue)⟩ : line')⟩
instance : Inhabited line'' := ⟨(⟨(⟨(⟨(0 : Int), (0 : Int), (0 : Int), (0 : Int)⟩ : Policy), (0 : Int), ([] : (List (List Queued))), List.replicate 8 0, (0 : Int)⟩ : Queue), (0 : Int)⟩ : line'')⟩
instance : Inhabited pair := ⟨(⟨(⟨(⟨(0 : Int), (0 : Int), (0 : Int), (0 : Int)⟩ : Policy), (0 : Int), ([] : (List (List Queued))), List.replicate 8 0, (0 : Int)⟩ : Queue), ([] : (List Queued)), ([] : (List Queued)), (0 : Int), ([] : (List Packet))⟩ : pair)⟩
instance : Inhabited effect := ⟨(⟨(0 : Int), (0 : Int)⟩ : effect)⟩
instance : Inhabited Unit' := ⟨(⟨(0 : Int), (0 : Int), (0 : Int)⟩ : Unit')⟩
def dflt : ∀ e, T e
  | 3 => ((0 : Int) : Int)
  | 4 => (false : Bool)
  | 5 => ((0 : Int) : Int)
  | 9 => (ByteArray.empty : ByteArray)
  | 26 => (([] : (List Int)) : (List Int))
  | 34 => ((List.replicate 3 0 : List Int) : (List Int))
  | 40 => ((⟨(0 : Int), (0 : Int), (0 : Int), (0 : Int), (0 : Int), (0 : Int), false, false⟩ : Packet) : Packet)
  | 42 => ((⟨(0 : Int), (0 : Int), (0 : Int), (⟨(0 : Int), (0 : Int), (0 : Int), (0 : Int), (0 : Int), (0 : Int), false, false⟩ : Packet)⟩ : Record) : Record)
  | 51 => ((⟨(0 : Int), (0 : Int), (0 : Int), (0 : Int), ([] : (List Record))⟩ : Segment) : Segment)
  | 60 => ((⟨(0 : Int), (0 : Int), (0 : Int)⟩ : Change) : Change)
  | 66 => (([] : (List ItemD)) : (List ItemD))
  | 102 => ((⟨ByteArray.empty, (0 : Int), (0 : Int), (0 : Int), (0 : Int)⟩ : Var) : Var)
  | 107 => ((⟨ByteArray.empty, ([] : (List Var)), ([] : (List Unit)), ([] : (List Unit)), ([] : (List Unit)), ([] : (List Unit)), ([] : (List Unit)), (0 : Int), (0 : Int)⟩ : ProgramD) : ProgramD)
  | 110 => (([] : (List Queued)) : (List Queued))
  | 117 => ((⟨(0 : Int), (0 : Int), (⟨(⟨(0 : Int), (0 : Int), (0 : Int), (0 : Int)⟩ : Policy), (0 : Int), ([] : (List (List Queued))), List.replicate 8 0, (0 : Int)⟩ : Queue), false, (⟨(0 : Int), (0 : Int), (0 : Int), (0 : Int), (0 : Int), (0 : Int), false, false⟩ : Packet), (0 : Int)⟩ : Link) : Link)
  | 119 => ((⟨([] : (List Int)), (0 : Int), false⟩ : Path) : Path)
  | 124 => ((⟨(0 : Int), ([] : (List Int)), (0 : Int), (0 : Int), (0 : Int), (0 : Int), ([] : (List Sender)), (⟨(0 : Int), ([] : (List Int))⟩ : Receiver), (0 : Int), ([] : (List Int))⟩ : Flow) : Flow)
  | 151 => ((⟨([] : (List Int)), (0 : Int), ([] : (List Sent)), (0 : Int), (0 : Int), (⟨(0 : Int), (0 : Int)⟩ : Pacer)⟩ : Sender) : Sender)
  | 163 => ((⟨(0 : Int), (0 : Int), (0 : Int), (0 : Int), (0 : Int), (⟨(0 : Int), (0 : Int), (0 : Int), (0 : Int), (0 : Int), (0 : Int), false, false⟩ : Packet), (⟨(0 : Int), (0 : Int), (0 : Int), (0 : Int), false⟩ : Ack), (⟨(0 : Int), (0 : Int), (0 : Int)⟩ : Change)⟩ : ItemD) : ItemD)
  | 222 => ((⟨(0 : Int), (0 : Int), (0 : Int), (0 : Int)⟩ : Sent) : Sent)
  | 229 => ((⟨(⟨(0 : Int), (0 : Int), (0 : Int), (0 : Int), (0 : Int), (0 : Int), false, false⟩ : Packet), (0 : Int)⟩ : Queued) : Queued)
  | 287 => (() : Unit)
  | 289 => (() : Unit)
  | 345 => ((⟨(0 : Int), (0 : Int)⟩ : step) : step)
  | 419 => (() : Unit)
  | 426 => ((⟨(0 : Int), (0 : Int), (0 : Int)⟩ : Instr) : Instr)
  | 451 => ((List.replicate 3 0 : List Int) : (List Int))
  | _ => by unfold T; split <;> first | exact () | exact (inferInstance : Inhabited _).default
def encChange (x : Change) : List (SV T) := [.int .i64 x.kind, .int .i64 x.a, .int .i64 x.b]
def decChange : List (SV T) → Option Change
  | [.int .i64 x1, .int .i64 x2, .int .i64 x3] => some (⟨x1, x2, x3⟩ : Change)
  | _ => none
theorem encChange_dec {has : Nat → Bool} (_hh : ∀ e ∈ [], has e = true) (cs : List (SV T)) (x : Change) (h : decChange cs = some x) : WkL has cs (encChange x) := by
  unfold decChange at h; split at h
  · cases h; exact (.cons _ (.cons _ (.cons _ .nil)))
  · cases h
def encPacket (x : Packet) : List (SV T) := [.int .i64 x.flow, .int .i64 x.sub, .int .i64 x.number, .int .i64 x.data, .int .i64 x.size, .int .i64 x.sent, .bool x.able, .bool x.marked]
def decPacket : List (SV T) → Option Packet
  | [.int .i64 x1, .int .i64 x2, .int .i64 x3, .int .i64 x4, .int .i64 x5, .int .i64 x6, .bool x7, .bool x8] => some (⟨x1, x2, x3, x4, x5, x6, x7, x8⟩ : Packet)
  | _ => none
theorem encPacket_dec {has : Nat → Bool} (_hh : ∀ e ∈ [], has e = true) (cs : List (SV T)) (x : Packet) (h : decPacket cs = some x) : WkL has cs (encPacket x) := by
  unfold decPacket at h; split at h
  · cases h; exact (.cons _ (.cons _ (.cons _ (.cons _ (.cons _ (.cons _ (.cons _ (.cons _ .nil))))))))
  · cases h
def encRecord (x : Record) : List (SV T) := [.int .i64 x.at_, .int .i64 x.kind, .int .i64 x.a, .int .i64 x.p.flow, .int .i64 x.p.sub, .int .i64 x.p.number, .int .i64 x.p.data, .int .i64 x.p.size, .int .i64 x.p.sent, .bool x.p.able, .bool x.p.marked]
def decRecord : List (SV T) → Option Record
  | [.int .i64 x1, .int .i64 x2, .int .i64 x3, .int .i64 x4, .int .i64 x5, .int .i64 x6, .int .i64 x7, .int .i64 x8, .int .i64 x9, .bool x10, .bool x11] => some (⟨x1, x2, x3, (⟨x4, x5, x6, x7, x8, x9, x10, x11⟩ : Packet)⟩ : Record)
  | _ => none
theorem encRecord_dec {has : Nat → Bool} (_hh : ∀ e ∈ [], has e = true) (cs : List (SV T)) (x : Record) (h : decRecord cs = some x) : WkL has cs (encRecord x) := by
  unfold decRecord at h; split at h
  · cases h; exact (.cons _ (.cons _ (.cons _ (.cons _ (.cons _ (.cons _ (.cons _ (.cons _ (.cons _ (.cons _ (.cons _ .nil)))))))))))
  · cases h
def encSegment (x : Segment) : List (SV T) := [.int .i64 x.from_, .int .i64 x.to_, .int .u64 x.begin_, .int .u64 x.end_, .dat 42 x.records]
def decSegment : List (SV T) → Option Segment
  | [.int .i64 x1, .int .i64 x2, .int .u64 x3, .int .u64 x4, x5] => match asDat 42 x5 with | some x5' => (some (⟨x1, x2, x3, x4, x5'⟩ : Segment)) | none => none
  | _ => none
theorem encSegment_dec {has : Nat → Bool} (_hh : ∀ e ∈ [42], has e = true) (cs : List (SV T)) (x : Segment) (h : decSegment cs = some x) : WkL has cs (encSegment x) := by
  unfold decSegment at h; split at h
  · split at h
    · rename_i h0; cases h; exact (.cons _ (.cons _ (.cons _ (.cons _ (asDat_spec h0 (_hh 42 (by simp)) .nil)))))
    · cases h
  · cases h
def encPolicy (x : Policy) : List (SV T) := [.int .i64 x.kind, .int .i64 x.a, .int .i64 x.b, .int .i64 x.c]
def decPolicy : List (SV T) → Option Policy
  | [.int .i64 x1, .int .i64 x2, .int .i64 x3, .int .i64 x4] => some (⟨x1, x2, x3, x4⟩ : Policy)
  | _ => none
theorem encPolicy_dec {has : Nat → Bool} (_hh : ∀ e ∈ [], has e = true) (cs : List (SV T)) (x : Policy) (h : decPolicy cs = some x) : WkL has cs (encPolicy x) := by
  unfold decPolicy at h; split at h
  · cases h; exact (.cons _ (.cons _ (.cons _ (.cons _ .nil))))
  · cases h
def encQueued (x : Queued) : List (SV T) := [.int .i64 x.p.flow, .int .i64 x.p.sub, .int .i64 x.p.number, .int .i64 x.p.data, .int .i64 x.p.size, .int .i64 x.p.sent, .bool x.p.able, .bool x.p.marked, .int .i64 x.at_]
def decQueued : List (SV T) → Option Queued
  | [.int .i64 x1, .int .i64 x2, .int .i64 x3, .int .i64 x4, .int .i64 x5, .int .i64 x6, .bool x7, .bool x8, .int .i64 x9] => some (⟨(⟨x1, x2, x3, x4, x5, x6, x7, x8⟩ : Packet), x9⟩ : Queued)
  | _ => none
theorem encQueued_dec {has : Nat → Bool} (_hh : ∀ e ∈ [], has e = true) (cs : List (SV T)) (x : Queued) (h : decQueued cs = some x) : WkL has cs (encQueued x) := by
  unfold decQueued at h; split at h
  · cases h; exact (.cons _ (.cons _ (.cons _ (.cons _ (.cons _ (.cons _ (.cons _ (.cons _ (.cons _ .nil)))))))))
  · cases h
def encQueue (x : Queue) : List (SV T) := [.int .i64 x.policy.kind, .int .i64 x.policy.a, .int .i64 x.policy.b, .int .i64 x.policy.c, .int .i64 x.room, .dat 110 x.lists, .arr .i64 8 x.vars, .int .u64 x.seed]
def decQueue : List (SV T) → Option Queue
  | [.int .i64 x1, .int .i64 x2, .int .i64 x3, .int .i64 x4, .int .i64 x5, x6, .arr .i64 8 x7, .int .u64 x8] => match asDat 110 x6 with | some x6' => (some (⟨(⟨x1, x2, x3, x4⟩ : Policy), x5, x6', x7, x8⟩ : Queue)) | none => none
  | _ => none
theorem encQueue_dec {has : Nat → Bool} (_hh : ∀ e ∈ [110], has e = true) (cs : List (SV T)) (x : Queue) (h : decQueue cs = some x) : WkL has cs (encQueue x) := by
  unfold decQueue at h; split at h
  · split at h
    · rename_i h0; cases h; exact (.cons _ (.cons _ (.cons _ (.cons _ (.cons _ (asDat_spec h0 (_hh 110 (by simp)) (.cons _ (.cons _ .nil))))))))
    · cases h
  · cases h
def encLink (x : Link) : List (SV T) := [.int .i64 x.rate, .int .i64 x.delay, .int .i64 x.queue.policy.kind, .int .i64 x.queue.policy.a, .int .i64 x.queue.policy.b, .int .i64 x.queue.policy.c, .int .i64 x.queue.room, .dat 110 x.queue.lists, .arr .i64 8 x.queue.vars, .int .u64 x.queue.seed, .bool x.busy, .int .i64 x.now.flow, .int .i64 x.now.sub, .int .i64 x.now.number, .int .i64 x.now.data, .int .i64 x.now.size, .int .i64 x.now.sent, .bool x.now.able, .bool x.now.marked, .int .i64 x.until_]
def decLink : List (SV T) → Option Link
  | [.int .i64 x1, .int .i64 x2, .int .i64 x3, .int .i64 x4, .int .i64 x5, .int .i64 x6, .int .i64 x7, x8, .arr .i64 8 x9, .int .u64 x10, .bool x11, .int .i64 x12, .int .i64 x13, .int .i64 x14, .int .i64 x15, .int .i64 x16, .int .i64 x17, .bool x18, .bool x19, .int .i64 x20] => match asDat 110 x8 with | some x8' => (some (⟨x1, x2, (⟨(⟨x3, x4, x5, x6⟩ : Policy), x7, x8', x9, x10⟩ : Queue), x11, (⟨x12, x13, x14, x15, x16, x17, x18, x19⟩ : Packet), x20⟩ : Link)) | none => none
  | _ => none
theorem encLink_dec {has : Nat → Bool} (_hh : ∀ e ∈ [110], has e = true) (cs : List (SV T)) (x : Link) (h : decLink cs = some x) : WkL has cs (encLink x) := by
  unfold decLink at h; split at h
  · split at h
    · rename_i h0; cases h; exact (.cons _ (.cons _ (.cons _ (.cons _ (.cons _ (.cons _ (.cons _ (asDat_spec h0 (_hh 110 (by simp)) (.cons _ (.cons _ (.cons _ (.cons _ (.cons _ (.cons _ (.cons _ (.cons _ (.cons _ (.cons _ (.cons _ (.cons _ .nil))))))))))))))))))))
    · cases h
  · cases h
def encPath (x : Path) : List (SV T) := [.dat 3 x.links, .int .i64 x.back, .bool x.up]
def decPath : List (SV T) → Option Path
  | [x1, .int .i64 x2, .bool x3] => match asDat 3 x1 with | some x1' => (some (⟨x1', x2, x3⟩ : Path)) | none => none
  | _ => none
theorem encPath_dec {has : Nat → Bool} (_hh : ∀ e ∈ [3], has e = true) (cs : List (SV T)) (x : Path) (h : decPath cs = some x) : WkL has cs (encPath x) := by
  unfold decPath at h; split at h
  · split at h
    · rename_i h0; cases h; exact (asDat_spec h0 (_hh 3 (by simp)) (.cons _ (.cons _ .nil)))
    · cases h
  · cases h
def encSent (x : Sent) : List (SV T) := [.int .i64 x.number, .int .i64 x.data, .int .i64 x.at_, .int .i64 x.passed]
def decSent : List (SV T) → Option Sent
  | [.int .i64 x1, .int .i64 x2, .int .i64 x3, .int .i64 x4] => some (⟨x1, x2, x3, x4⟩ : Sent)
  | _ => none
theorem encSent_dec {has : Nat → Bool} (_hh : ∀ e ∈ [], has e = true) (cs : List (SV T)) (x : Sent) (h : decSent cs = some x) : WkL has cs (encSent x) := by
  unfold decSent at h; split at h
  · cases h; exact (.cons _ (.cons _ (.cons _ (.cons _ .nil))))
  · cases h
def encPacer (x : Pacer) : List (SV T) := [.int .i64 x.next_, .int .i64 x.rest]
def decPacer : List (SV T) → Option Pacer
  | [.int .i64 x1, .int .i64 x2] => some (⟨x1, x2⟩ : Pacer)
  | _ => none
theorem encPacer_dec {has : Nat → Bool} (_hh : ∀ e ∈ [], has e = true) (cs : List (SV T)) (x : Pacer) (h : decPacer cs = some x) : WkL has cs (encPacer x) := by
  unfold decPacer at h; split at h
  · cases h; exact (.cons _ (.cons _ .nil))
  · cases h
def encSender (x : Sender) : List (SV T) := [.dat 3 x.vars, .int .i64 x.next_, .dat 222 x.flight, .int .i64 x.rtt, .int .i64 x.until_, .int .i64 x.pacer.next_, .int .i64 x.pacer.rest]
def decSender : List (SV T) → Option Sender
  | [x1, .int .i64 x2, x3, .int .i64 x4, .int .i64 x5, .int .i64 x6, .int .i64 x7] => match asDat 3 x1 with | some x1' => (match asDat 222 x3 with | some x3' => (some (⟨x1', x2, x3', x4, x5, (⟨x6, x7⟩ : Pacer)⟩ : Sender)) | none => none) | none => none
  | _ => none
theorem encSender_dec {has : Nat → Bool} (_hh : ∀ e ∈ [3, 222], has e = true) (cs : List (SV T)) (x : Sender) (h : decSender cs = some x) : WkL has cs (encSender x) := by
  unfold decSender at h; split at h
  · split at h
    · rename_i h0; split at h
      · rename_i h1; cases h; exact (asDat_spec h0 (_hh 3 (by simp)) (.cons _ (asDat_spec h1 (_hh 222 (by simp)) (.cons _ (.cons _ (.cons _ (.cons _ .nil)))))))
      · cases h
    · cases h
  · cases h
def encReceiver (x : Receiver) : List (SV T) := [.int .i64 x.next_, .dat 3 x.have_]
def decReceiver : List (SV T) → Option Receiver
  | [.int .i64 x1, x2] => match asDat 3 x2 with | some x2' => (some (⟨x1, x2'⟩ : Receiver)) | none => none
  | _ => none
theorem encReceiver_dec {has : Nat → Bool} (_hh : ∀ e ∈ [3], has e = true) (cs : List (SV T)) (x : Receiver) (h : decReceiver cs = some x) : WkL has cs (encReceiver x) := by
  unfold decReceiver at h; split at h
  · split at h
    · rename_i h0; cases h; exact (.cons _ (asDat_spec h0 (_hh 3 (by simp)) .nil))
    · cases h
  · cases h
def encFlow (x : Flow) : List (SV T) := [.int .i64 x.program, .dat 3 x.paths, .int .i64 x.size, .int .i64 x.window, .int .i64 x.start, .int .i64 x.hold, .dat 151 x.subs, .int .i64 x.recv.next_, .dat 3 x.recv.have_, .int .i64 x.data, .dat 3 x.again]
def decFlow : List (SV T) → Option Flow
  | [.int .i64 x1, x2, .int .i64 x3, .int .i64 x4, .int .i64 x5, .int .i64 x6, x7, .int .i64 x8, x9, .int .i64 x10, x11] => match asDat 3 x2 with | some x2' => (match asDat 151 x7 with | some x7' => (match asDat 3 x9 with | some x9' => (match asDat 3 x11 with | some x11' => (some (⟨x1, x2', x3, x4, x5, x6, x7', (⟨x8, x9'⟩ : Receiver), x10, x11'⟩ : Flow)) | none => none) | none => none) | none => none) | none => none
  | _ => none
theorem encFlow_dec {has : Nat → Bool} (_hh : ∀ e ∈ [3, 151, 3, 3], has e = true) (cs : List (SV T)) (x : Flow) (h : decFlow cs = some x) : WkL has cs (encFlow x) := by
  unfold decFlow at h; split at h
  · split at h
    · rename_i h0; split at h
      · rename_i h1; split at h
        · rename_i h2; split at h
          · rename_i h3; cases h; exact (.cons _ (asDat_spec h0 (_hh 3 (by simp)) (.cons _ (.cons _ (.cons _ (.cons _ (asDat_spec h1 (_hh 151 (by simp)) (.cons _ (asDat_spec h2 (_hh 3 (by simp)) (.cons _ (asDat_spec h3 (_hh 3 (by simp)) .nil)))))))))))
          · cases h
        · cases h
      · cases h
    · cases h
  · cases h
def encVar (x : Var) : List (SV T) := [.str x.name, .int .i64 x.unit, .int .i64 x.low, .int .i64 x.high, .int .i64 x.init_]
def decVar : List (SV T) → Option Var
  | [.str x1, .int .i64 x2, .int .i64 x3, .int .i64 x4, .int .i64 x5] => some (⟨x1, x2, x3, x4, x5⟩ : Var)
  | _ => none
theorem encVar_dec {has : Nat → Bool} (_hh : ∀ e ∈ [], has e = true) (cs : List (SV T)) (x : Var) (h : decVar cs = some x) : WkL has cs (encVar x) := by
  unfold decVar at h; split at h
  · cases h; exact (.cons _ (.cons _ (.cons _ (.cons _ (.cons _ .nil)))))
  · cases h
def encProgramD (x : ProgramD) : List (SV T) := [.str x.name, .dat 102 x.vars, .dat 289 x.on_0, .dat 289 x.on_1, .dat 289 x.on_2, .dat 289 x.on_3, .dat 289 x.on_4, .int .i64 x.window, .int .i64 x.pace]
def decProgramD : List (SV T) → Option ProgramD
  | [.str x1, x2, x3, x4, x5, x6, x7, .int .i64 x8, .int .i64 x9] => match asDat 102 x2 with | some x2' => (match asDat 289 x3 with | some x3' => (match asDat 289 x4 with | some x4' => (match asDat 289 x5 with | some x5' => (match asDat 289 x6 with | some x6' => (match asDat 289 x7 with | some x7' => (some (⟨x1, x2', x3', x4', x5', x6', x7', x8, x9⟩ : ProgramD)) | none => none) | none => none) | none => none) | none => none) | none => none) | none => none
  | _ => none
theorem encProgramD_dec {has : Nat → Bool} (_hh : ∀ e ∈ [102, 289, 289, 289, 289, 289], has e = true) (cs : List (SV T)) (x : ProgramD) (h : decProgramD cs = some x) : WkL has cs (encProgramD x) := by
  unfold decProgramD at h; split at h
  · split at h
    · rename_i h0; split at h
      · rename_i h1; split at h
        · rename_i h2; split at h
          · rename_i h3; split at h
            · rename_i h4; split at h
              · rename_i h5; cases h; exact (.cons _ (asDat_spec h0 (_hh 102 (by simp)) (asDat_spec h1 (_hh 289 (by simp)) (asDat_spec h2 (_hh 289 (by simp)) (asDat_spec h3 (_hh 289 (by simp)) (asDat_spec h4 (_hh 289 (by simp)) (asDat_spec h5 (_hh 289 (by simp)) (.cons _ (.cons _ .nil)))))))))
              · cases h
            · cases h
          · cases h
        · cases h
      · cases h
    · cases h
  · cases h
def encAck (x : Ack) : List (SV T) := [.int .i64 x.sub, .int .i64 x.number, .int .i64 x.next_, .int .i64 x.sent, .bool x.marked]
def decAck : List (SV T) → Option Ack
  | [.int .i64 x1, .int .i64 x2, .int .i64 x3, .int .i64 x4, .bool x5] => some (⟨x1, x2, x3, x4, x5⟩ : Ack)
  | _ => none
theorem encAck_dec {has : Nat → Bool} (_hh : ∀ e ∈ [], has e = true) (cs : List (SV T)) (x : Ack) (h : decAck cs = some x) : WkL has cs (encAck x) := by
  unfold decAck at h; split at h
  · cases h; exact (.cons _ (.cons _ (.cons _ (.cons _ (.cons _ .nil)))))
  · cases h
def encItemD (x : ItemD) : List (SV T) := [.int .i64 x.at_, .int .i64 x.number, .int .i64 x.kind, .int .i64 x.a, .int .i64 x.b, .int .i64 x.p.flow, .int .i64 x.p.sub, .int .i64 x.p.number, .int .i64 x.p.data, .int .i64 x.p.size, .int .i64 x.p.sent, .bool x.p.able, .bool x.p.marked, .int .i64 x.k.sub, .int .i64 x.k.number, .int .i64 x.k.next_, .int .i64 x.k.sent, .bool x.k.marked, .int .i64 x.change.kind, .int .i64 x.change.a, .int .i64 x.change.b]
def decItemD : List (SV T) → Option ItemD
  | [.int .i64 x1, .int .i64 x2, .int .i64 x3, .int .i64 x4, .int .i64 x5, .int .i64 x6, .int .i64 x7, .int .i64 x8, .int .i64 x9, .int .i64 x10, .int .i64 x11, .bool x12, .bool x13, .int .i64 x14, .int .i64 x15, .int .i64 x16, .int .i64 x17, .bool x18, .int .i64 x19, .int .i64 x20, .int .i64 x21] => some (⟨x1, x2, x3, x4, x5, (⟨x6, x7, x8, x9, x10, x11, x12, x13⟩ : Packet), (⟨x14, x15, x16, x17, x18⟩ : Ack), (⟨x19, x20, x21⟩ : Change)⟩ : ItemD)
  | _ => none
theorem encItemD_dec {has : Nat → Bool} (_hh : ∀ e ∈ [], has e = true) (cs : List (SV T)) (x : ItemD) (h : decItemD cs = some x) : WkL has cs (encItemD x) := by
  unfold decItemD at h; split at h
  · cases h; exact (.cons _ (.cons _ (.cons _ (.cons _ (.cons _ (.cons _ (.cons _ (.cons _ (.cons _ (.cons _ (.cons _ (.cons _ (.cons _ (.cons _ (.cons _ (.cons _ (.cons _ (.cons _ (.cons _ (.cons _ (.cons _ .nil)))))))))))))))))))))
  · cases h
def encInstr (x : Instr) : List (SV T) := [.int .i64 x.op, .int .i64 x.n, .int .i64 x.rel]
def decInstr : List (SV T) → Option Instr
  | [.int .i64 x1, .int .i64 x2, .int .i64 x3] => some (⟨x1, x2, x3⟩ : Instr)
  | _ => none
theorem encInstr_dec {has : Nat → Bool} (_hh : ∀ e ∈ [], has e = true) (cs : List (SV T)) (x : Instr) (h : decInstr cs = some x) : WkL has cs (encInstr x) := by
  unfold decInstr at h; split at h
  · cases h; exact (.cons _ (.cons _ (.cons _ .nil)))
  · cases h
def encstep (x : step) : List (SV T) := [.int .i64 x.event, .int .i64 x.packets]
def decstep : List (SV T) → Option step
  | [.int .i64 x1, .int .i64 x2] => some (⟨x1, x2⟩ : step)
  | _ => none
theorem encstep_dec {has : Nat → Bool} (_hh : ∀ e ∈ [], has e = true) (cs : List (SV T)) (x : step) (h : decstep cs = some x) : WkL has cs (encstep x) := by
  unfold decstep at h; split at h
  · cases h; exact (.cons _ (.cons _ .nil))
  · cases h
def encboundsError (x : boundsError) : List (SV T) := [.int .i64 x.x, .int .i64 x.y, .bool x.signed, .int .u8 x.code]
def decboundsError : List (SV T) → Option boundsError
  | [.int .i64 x1, .int .i64 x2, .bool x3, .int .u8 x4] => some (⟨x1, x2, x3, x4⟩ : boundsError)
  | _ => none
theorem encboundsError_dec {has : Nat → Bool} (_hh : ∀ e ∈ [], has e = true) (cs : List (SV T)) (x : boundsError) (h : decboundsError cs = some x) : WkL has cs (encboundsError x) := by
  unfold decboundsError at h; split at h
  · cases h; exact (.cons _ (.cons _ (.cons _ (.cons _ .nil))))
  · cases h
def encerrorAddressString (x : errorAddressString) : List (SV T) := [.str x.msg, .int .u64 x.addr]
def decerrorAddressString : List (SV T) → Option errorAddressString
  | [.str x1, .int .u64 x2] => some (⟨x1, x2⟩ : errorAddressString)
  | _ => none
theorem encerrorAddressString_dec {has : Nat → Bool} (_hh : ∀ e ∈ [], has e = true) (cs : List (SV T)) (x : errorAddressString) (h : decerrorAddressString cs = some x) : WkL has cs (encerrorAddressString x) := by
  unfold decerrorAddressString at h; split at h
  · cases h; exact (.cons _ (.cons _ .nil))
  · cases h
def encBudget (x : Budget) : List (SV T) := [.int .i64 x.periods, .int .i64 x.length, .arr .i64 6 x.left, .dat 60 x.choices]
def decBudget : List (SV T) → Option Budget
  | [.int .i64 x1, .int .i64 x2, .arr .i64 6 x3, x4] => match asDat 60 x4 with | some x4' => (some (⟨x1, x2, x3, x4'⟩ : Budget)) | none => none
  | _ => none
theorem encBudget_dec {has : Nat → Bool} (_hh : ∀ e ∈ [60], has e = true) (cs : List (SV T)) (x : Budget) (h : decBudget cs = some x) : WkL has cs (encBudget x) := by
  unfold decBudget at h; split at h
  · split at h
    · rename_i h0; cases h; exact (.cons _ (.cons _ (.cons _ (asDat_spec h0 (_hh 60 (by simp)) .nil))))
    · cases h
  · cases h
def encAgenda (x : Agenda) : List (SV T) := [.dat 163 x.list, .int .i64 x.next_]
def decAgenda : List (SV T) → Option Agenda
  | [x1, .int .i64 x2] => match asDat 163 x1 with | some x1' => (some (⟨x1', x2⟩ : Agenda)) | none => none
  | _ => none
theorem encAgenda_dec {has : Nat → Bool} (_hh : ∀ e ∈ [163], has e = true) (cs : List (SV T)) (x : Agenda) (h : decAgenda cs = some x) : WkL has cs (encAgenda x) := by
  unfold decAgenda at h; split at h
  · split at h
    · rename_i h0; cases h; exact (asDat_spec h0 (_hh 163 (by simp)) (.cons _ .nil))
    · cases h
  · cases h
def encWorldD (x : WorldD) : List (SV T) := [.int .i64 x.now, .dat 117 x.links, .dat 119 x.paths, .dat 124 x.flows, .dat 107 x.programs, .dat 163 x.agenda.list, .int .i64 x.agenda.next_, .int .i64 x.sent, .int .i64 x.delivered, .int .i64 x.dropped, .int .u64 x.digest]
def decWorldD : List (SV T) → Option WorldD
  | [.int .i64 x1, x2, x3, x4, x5, x6, .int .i64 x7, .int .i64 x8, .int .i64 x9, .int .i64 x10, .int .u64 x11] => match asDat 117 x2 with | some x2' => (match asDat 119 x3 with | some x3' => (match asDat 124 x4 with | some x4' => (match asDat 107 x5 with | some x5' => (match asDat 163 x6 with | some x6' => (some (⟨x1, x2', x3', x4', x5', (⟨x6', x7⟩ : Agenda), x8, x9, x10, x11⟩ : WorldD)) | none => none) | none => none) | none => none) | none => none) | none => none
  | _ => none
theorem encWorldD_dec {has : Nat → Bool} (_hh : ∀ e ∈ [117, 119, 124, 107, 163], has e = true) (cs : List (SV T)) (x : WorldD) (h : decWorldD cs = some x) : WkL has cs (encWorldD x) := by
  unfold decWorldD at h; split at h
  · split at h
    · rename_i h0; split at h
      · rename_i h1; split at h
        · rename_i h2; split at h
          · rename_i h3; split at h
            · rename_i h4; cases h; exact (.cons _ (asDat_spec h0 (_hh 117 (by simp)) (asDat_spec h1 (_hh 119 (by simp)) (asDat_spec h2 (_hh 124 (by simp)) (asDat_spec h3 (_hh 107 (by simp)) (asDat_spec h4 (_hh 163 (by simp)) (.cons _ (.cons _ (.cons _ (.cons _ (.cons _ .nil)))))))))))
            · cases h
          · cases h
        · cases h
      · cases h
    · cases h
  · cases h
def encstate (x : state) : List (SV T) := [.int .i64 x.world.now, .dat 117 x.world.links, .dat 119 x.world.paths, .dat 124 x.world.flows, .dat 107 x.world.programs, .dat 163 x.world.agenda.list, .int .i64 x.world.agenda.next_, .int .i64 x.world.sent, .int .i64 x.world.delivered, .int .i64 x.world.dropped, .int .u64 x.world.digest, .dat 42 x.records]
def decstate : List (SV T) → Option state
  | [.int .i64 x1, x2, x3, x4, x5, x6, .int .i64 x7, .int .i64 x8, .int .i64 x9, .int .i64 x10, .int .u64 x11, x12] => match asDat 117 x2 with | some x2' => (match asDat 119 x3 with | some x3' => (match asDat 124 x4 with | some x4' => (match asDat 107 x5 with | some x5' => (match asDat 163 x6 with | some x6' => (match asDat 42 x12 with | some x12' => (some (⟨(⟨x1, x2', x3', x4', x5', (⟨x6', x7⟩ : Agenda), x8, x9, x10, x11⟩ : WorldD), x12'⟩ : state)) | none => none) | none => none) | none => none) | none => none) | none => none) | none => none
  | _ => none
theorem encstate_dec {has : Nat → Bool} (_hh : ∀ e ∈ [117, 119, 124, 107, 163, 42], has e = true) (cs : List (SV T)) (x : state) (h : decstate cs = some x) : WkL has cs (encstate x) := by
  unfold decstate at h; split at h
  · split at h
    · rename_i h0; split at h
      · rename_i h1; split at h
        · rename_i h2; split at h
          · rename_i h3; split at h
            · rename_i h4; split at h
              · rename_i h5; cases h; exact (.cons _ (asDat_spec h0 (_hh 117 (by simp)) (asDat_spec h1 (_hh 119 (by simp)) (asDat_spec h2 (_hh 124 (by simp)) (asDat_spec h3 (_hh 107 (by simp)) (asDat_spec h4 (_hh 163 (by simp)) (.cons _ (.cons _ (.cons _ (.cons _ (.cons _ (asDat_spec h5 (_hh 42 (by simp)) .nil))))))))))))
              · cases h
            · cases h
          · cases h
        · cases h
      · cases h
    · cases h
  · cases h
def enccoder (x : coder) : List (SV T) := [.bool x.read, .dat 5 x.bytes, .int .i64 x.at_, .int .i64 x.depth, .bool x.bad]
def deccoder : List (SV T) → Option coder
  | [.bool x1, x2, .int .i64 x3, .int .i64 x4, .bool x5] => match asDat 5 x2 with | some x2' => (some (⟨x1, x2', x3, x4, x5⟩ : coder)) | none => none
  | _ => none
theorem enccoder_dec {has : Nat → Bool} (_hh : ∀ e ∈ [5], has e = true) (cs : List (SV T)) (x : coder) (h : deccoder cs = some x) : WkL has cs (enccoder x) := by
  unfold deccoder at h; split at h
  · split at h
    · rename_i h0; cases h; exact (.cons _ (asDat_spec h0 (_hh 5 (by simp)) (.cons _ (.cons _ (.cons _ .nil)))))
    · cases h
  · cases h
def encfull (x : full) : List (SV T) := [.int .i64 x.e]
def decfull : List (SV T) → Option full
  | [.int .i64 x1] => some (⟨x1⟩ : full)
  | _ => none
theorem encfull_dec {has : Nat → Bool} (_hh : ∀ e ∈ [], has e = true) (cs : List (SV T)) (x : full) (h : decfull cs = some x) : WkL has cs (encfull x) := by
  unfold decfull at h; split at h
  · cases h; exact (.cons _ .nil)
  · cases h
def encCodeD (x : CodeD) : List (SV T) := [.dat 426 x.on_0, .dat 426 x.on_1, .dat 426 x.on_2, .dat 426 x.on_3, .dat 426 x.on_4]
def decCodeD : List (SV T) → Option CodeD
  | [x1, x2, x3, x4, x5] => match asDat 426 x1 with | some x1' => (match asDat 426 x2 with | some x2' => (match asDat 426 x3 with | some x3' => (match asDat 426 x4 with | some x4' => (match asDat 426 x5 with | some x5' => (some (⟨x1', x2', x3', x4', x5'⟩ : CodeD)) | none => none) | none => none) | none => none) | none => none) | none => none
  | _ => none
theorem encCodeD_dec {has : Nat → Bool} (_hh : ∀ e ∈ [426, 426, 426, 426, 426], has e = true) (cs : List (SV T)) (x : CodeD) (h : decCodeD cs = some x) : WkL has cs (encCodeD x) := by
  unfold decCodeD at h; split at h
  · split at h
    · rename_i h0; split at h
      · rename_i h1; split at h
        · rename_i h2; split at h
          · rename_i h3; split at h
            · rename_i h4; cases h; exact (asDat_spec h0 (_hh 426 (by simp)) (asDat_spec h1 (_hh 426 (by simp)) (asDat_spec h2 (_hh 426 (by simp)) (asDat_spec h3 (_hh 426 (by simp)) (asDat_spec h4 (_hh 426 (by simp)) .nil)))))
            · cases h
          · cases h
        · cases h
      · cases h
    · cases h
  · cases h
def encwriter (x : writer) : List (SV T) := [.dat 426 x.list]
def decwriter : List (SV T) → Option writer
  | [x1] => match asDat 426 x1 with | some x1' => (some (⟨x1'⟩ : writer)) | none => none
  | _ => none
theorem encwriter_dec {has : Nat → Bool} (_hh : ∀ e ∈ [426], has e = true) (cs : List (SV T)) (x : writer) (h : decwriter cs = some x) : WkL has cs (encwriter x) := by
  unfold decwriter at h; split at h
  · split at h
    · rename_i h0; cases h; exact (asDat_spec h0 (_hh 426 (by simp)) .nil)
    · cases h
  · cases h
def encline (x : line) : List (SV T) := [.int .i64 x.link.rate, .int .i64 x.link.delay, .int .i64 x.link.queue.policy.kind, .int .i64 x.link.queue.policy.a, .int .i64 x.link.queue.policy.b, .int .i64 x.link.queue.policy.c, .int .i64 x.link.queue.room, .dat 110 x.link.queue.lists, .arr .i64 8 x.link.queue.vars, .int .u64 x.link.queue.seed, .bool x.link.busy, .int .i64 x.link.now.flow, .int .i64 x.link.now.sub, .int .i64 x.link.now.number, .int .i64 x.link.now.data, .int .i64 x.link.now.size, .int .i64 x.link.now.sent, .bool x.link.now.able, .bool x.link.now.marked, .int .i64 x.link.until_, .dat 40 x.dropped]
def decline : List (SV T) → Option line
  | [.int .i64 x1, .int .i64 x2, .int .i64 x3, .int .i64 x4, .int .i64 x5, .int .i64 x6, .int .i64 x7, x8, .arr .i64 8 x9, .int .u64 x10, .bool x11, .int .i64 x12, .int .i64 x13, .int .i64 x14, .int .i64 x15, .int .i64 x16, .int .i64 x17, .bool x18, .bool x19, .int .i64 x20, x21] => match asDat 110 x8 with | some x8' => (match asDat 40 x21 with | some x21' => (some (⟨(⟨x1, x2, (⟨(⟨x3, x4, x5, x6⟩ : Policy), x7, x8', x9, x10⟩ : Queue), x11, (⟨x12, x13, x14, x15, x16, x17, x18, x19⟩ : Packet), x20⟩ : Link), x21'⟩ : line)) | none => none) | none => none
  | _ => none
theorem encline_dec {has : Nat → Bool} (_hh : ∀ e ∈ [110, 40], has e = true) (cs : List (SV T)) (x : line) (h : decline cs = some x) : WkL has cs (encline x) := by
  unfold decline at h; split at h
  · split at h
    · rename_i h0; split at h
      · rename_i h1; cases h; exact (.cons _ (.cons _ (.cons _ (.cons _ (.cons _ (.cons _ (.cons _ (asDat_spec h0 (_hh 110 (by simp)) (.cons _ (.cons _ (.cons _ (.cons _ (.cons _ (.cons _ (.cons _ (.cons _ (.cons _ (.cons _ (.cons _ (.cons _ (asDat_spec h1 (_hh 40 (by simp)) .nil)))))))))))))))))))))
      · cases h
    · cases h
  · cases h
def encstate' (x : state') : List (SV T) := [.dat 3 x.sender.vars, .int .i64 x.sender.next_, .dat 222 x.sender.flight, .int .i64 x.sender.rtt, .int .i64 x.sender.until_, .int .i64 x.sender.pacer.next_, .int .i64 x.sender.pacer.rest, .str x.p.name, .dat 102 x.p.vars, .dat 289 x.p.on_0, .dat 289 x.p.on_1, .dat 289 x.p.on_2, .dat 289 x.p.on_3, .dat 289 x.p.on_4, .int .i64 x.p.window, .int .i64 x.p.pace, .dat 426 x.code.on_0, .dat 426 x.code.on_1, .dat 426 x.code.on_2, .dat 426 x.code.on_3, .dat 426 x.code.on_4]
def decstate' : List (SV T) → Option state'
  | [x1, .int .i64 x2, x3, .int .i64 x4, .int .i64 x5, .int .i64 x6, .int .i64 x7, .str x8, x9, x10, x11, x12, x13, x14, .int .i64 x15, .int .i64 x16, x17, x18, x19, x20, x21] => match asDat 3 x1 with | some x1' => (match asDat 222 x3 with | some x3' => (match asDat 102 x9 with | some x9' => (match asDat 289 x10 with | some x10' => (match asDat 289 x11 with | some x11' => (match asDat 289 x12 with | some x12' => (match asDat 289 x13 with | some x13' => (match asDat 289 x14 with | some x14' => (match asDat 426 x17 with | some x17' => (match asDat 426 x18 with | some x18' => (match asDat 426 x19 with | some x19' => (match asDat 426 x20 with | some x20' => (match asDat 426 x21 with | some x21' => (some (⟨(⟨x1', x2, x3', x4, x5, (⟨x6, x7⟩ : Pacer)⟩ : Sender), (⟨x8, x9', x10', x11', x12', x13', x14', x15, x16⟩ : ProgramD), (⟨x17', x18', x19', x20', x21'⟩ : CodeD)⟩ : state')) | none => none) | none => none) | none => none) | none => none) | none => none) | none => none) | none => none) | none => none) | none => none) | none => none) | none => none) | none => none) | none => none
  | _ => none
theorem encstate'_dec {has : Nat → Bool} (_hh : ∀ e ∈ [3, 222, 102, 289, 289, 289, 289, 289, 426, 426, 426, 426, 426], has e = true) (cs : List (SV T)) (x : state') (h : decstate' cs = some x) : WkL has cs (encstate' x) := by
  unfold decstate' at h; split at h
  · split at h
    · rename_i h0; split at h
      · rename_i h1; split at h
        · rename_i h2; split at h
          · rename_i h3; split at h
            · rename_i h4; split at h
              · rename_i h5; split at h
                · rename_i h6; split at h
                  · rename_i h7; split at h
                    · rename_i h8; split at h
                      · rename_i h9; split at h
                        · rename_i h10; split at h
                          · rename_i h11; split at h
                            · rename_i h12; cases h; exact (asDat_spec h0 (_hh 3 (by simp)) (.cons _ (asDat_spec h1 (_hh 222 (by simp)) (.cons _ (.cons _ (.cons _ (.cons _ (.cons _ (asDat_spec h2 (_hh 102 (by simp)) (asDat_spec h3 (_hh 289 (by simp)) (asDat_spec h4 (_hh 289 (by simp)) (asDat_spec h5 (_hh 289 (by simp)) (asDat_spec h6 (_hh 289 (by simp)) (asDat_spec h7 (_hh 289 (by simp)) (.cons _ (.cons _ (asDat_spec h8 (_hh 426 (by simp)) (asDat_spec h9 (_hh 426 (by simp)) (asDat_spec h10 (_hh 426 (by simp)) (asDat_spec h11 (_hh 426 (by simp)) (asDat_spec h12 (_hh 426 (by simp)) .nil)))))))))))))))))))))
                            · cases h
                          · cases h
                        · cases h
                      · cases h
                    · cases h
                  · cases h
                · cases h
              · cases h
            · cases h
          · cases h
        · cases h
      · cases h
    · cases h
  · cases h
def encCallD (x : CallD) : List (SV T) := [.int .i64 x.event, .arr .i64 4 x.in_]
def decCallD : List (SV T) → Option CallD
  | [.int .i64 x1, .arr .i64 4 x2] => some (⟨x1, x2⟩ : CallD)
  | _ => none
theorem encCallD_dec {has : Nat → Bool} (_hh : ∀ e ∈ [], has e = true) (cs : List (SV T)) (x : CallD) (h : decCallD cs = some x) : WkL has cs (encCallD x) := by
  unfold decCallD at h; split at h
  · cases h; exact (.cons _ (.cons _ .nil))
  · cases h
def encchoice (x : choice) : List (SV T) := [.int .i64 x.sub, .int .i64 x.at_, .int .i64 x.rtt]
def decchoice : List (SV T) → Option choice
  | [.int .i64 x1, .int .i64 x2, .int .i64 x3] => some (⟨x1, x2, x3⟩ : choice)
  | _ => none
theorem encchoice_dec {has : Nat → Bool} (_hh : ∀ e ∈ [], has e = true) (cs : List (SV T)) (x : choice) (h : decchoice cs = some x) : WkL has cs (encchoice x) := by
  unfold decchoice at h; split at h
  · cases h; exact (.cons _ (.cons _ (.cons _ .nil)))
  · cases h
def encmachine (x : machine) : List (SV T) := [.dat 102 x.vars, .dat 3 x.state, .arr .i64 4 x.inputs, .arr .i64 64 x.stack, .int .i64 x.height, .int .i64 x.at_, .int .i64 x.steps]
def decmachine : List (SV T) → Option machine
  | [x1, x2, .arr .i64 4 x3, .arr .i64 64 x4, .int .i64 x5, .int .i64 x6, .int .i64 x7] => match asDat 102 x1 with | some x1' => (match asDat 3 x2 with | some x2' => (some (⟨x1', x2', x3, x4, x5, x6, x7⟩ : machine)) | none => none) | none => none
  | _ => none
theorem encmachine_dec {has : Nat → Bool} (_hh : ∀ e ∈ [102, 3], has e = true) (cs : List (SV T)) (x : machine) (h : decmachine cs = some x) : WkL has cs (encmachine x) := by
  unfold decmachine at h; split at h
  · split at h
    · rename_i h0; split at h
      · rename_i h1; cases h; exact (asDat_spec h0 (_hh 102 (by simp)) (asDat_spec h1 (_hh 3 (by simp)) (.cons _ (.cons _ (.cons _ (.cons _ (.cons _ .nil)))))))
      · cases h
    · cases h
  · cases h
def encstate'' (x : state'') : List (SV T) := [.int .i64 x.pacer.next_, .int .i64 x.pacer.rest]
def decstate'' : List (SV T) → Option state''
  | [.int .i64 x1, .int .i64 x2] => some (⟨(⟨x1, x2⟩ : Pacer)⟩ : state'')
  | _ => none
theorem encstate''_dec {has : Nat → Bool} (_hh : ∀ e ∈ [], has e = true) (cs : List (SV T)) (x : state'') (h : decstate'' cs = some x) : WkL has cs (encstate'' x) := by
  unfold decstate'' at h; split at h
  · cases h; exact (.cons _ (.cons _ .nil))
  · cases h
def encchecker (x : checker) : List (SV T) := [.dat 451 x.vars]
def decchecker : List (SV T) → Option checker
  | [x1] => match asDat 451 x1 with | some x1' => (some (⟨x1'⟩ : checker)) | none => none
  | _ => none
theorem encchecker_dec {has : Nat → Bool} (_hh : ∀ e ∈ [451], has e = true) (cs : List (SV T)) (x : checker) (h : decchecker cs = some x) : WkL has cs (encchecker x) := by
  unfold decchecker at h; split at h
  · split at h
    · rename_i h0; cases h; exact (asDat_spec h0 (_hh 451 (by simp)) .nil)
    · cases h
  · cases h
def encline' (x : line') : List (SV T) := [.int .i64 x.queue.policy.kind, .int .i64 x.queue.policy.a, .int .i64 x.queue.policy.b, .int .i64 x.queue.policy.c, .int .i64 x.queue.room, .dat 110 x.queue.lists, .arr .i64 8 x.queue.vars, .int .u64 x.queue.seed]
def decline' : List (SV T) → Option line'
  | [.int .i64 x1, .int .i64 x2, .int .i64 x3, .int .i64 x4, .int .i64 x5, x6, .arr .i64 8 x7, .int .u64 x8] => match asDat 110 x6 with | some x6' => (some (⟨(⟨(⟨x1, x2, x3, x4⟩ : Policy), x5, x6', x7, x8⟩ : Queue)⟩ : line')) | none => none
  | _ => none
theorem encline'_dec {has : Nat → Bool} (_hh : ∀ e ∈ [110], has e = true) (cs : List (SV T)) (x : line') (h : decline' cs = some x) : WkL has cs (encline' x) := by
  unfold decline' at h; split at h
  · split at h
    · rename_i h0; cases h; exact (.cons _ (.cons _ (.cons _ (.cons _ (.cons _ (asDat_spec h0 (_hh 110 (by simp)) (.cons _ (.cons _ .nil))))))))
    · cases h
  · cases h
def encline'' (x : line'') : List (SV T) := [.int .i64 x.queue.policy.kind, .int .i64 x.queue.policy.a, .int .i64 x.queue.policy.b, .int .i64 x.queue.policy.c, .int .i64 x.queue.room, .dat 110 x.queue.lists, .arr .i64 8 x.queue.vars, .int .u64 x.queue.seed, .int .i64 x.now]
def decline'' : List (SV T) → Option line''
  | [.int .i64 x1, .int .i64 x2, .int .i64 x3, .int .i64 x4, .int .i64 x5, x6, .arr .i64 8 x7, .int .u64 x8, .int .i64 x9] => match asDat 110 x6 with | some x6' => (some (⟨(⟨(⟨x1, x2, x3, x4⟩ : Policy), x5, x6', x7, x8⟩ : Queue), x9⟩ : line'')) | none => none
  | _ => none
theorem encline''_dec {has : Nat → Bool} (_hh : ∀ e ∈ [110], has e = true) (cs : List (SV T)) (x : line'') (h : decline'' cs = some x) : WkL has cs (encline'' x) := by
  unfold decline'' at h; split at h
  · split at h
    · rename_i h0; cases h; exact (.cons _ (.cons _ (.cons _ (.cons _ (.cons _ (asDat_spec h0 (_hh 110 (by simp)) (.cons _ (.cons _ (.cons _ .nil)))))))))
    · cases h
  · cases h
def encpair (x : pair) : List (SV T) := [.int .i64 x.q.policy.kind, .int .i64 x.q.policy.a, .int .i64 x.q.policy.b, .int .i64 x.q.policy.c, .int .i64 x.q.room, .dat 110 x.q.lists, .arr .i64 8 x.q.vars, .int .u64 x.q.seed, .dat 229 x.lists0, .dat 229 x.lists1, .int .i64 x.now, .dat 40 x.drops]
def decpair : List (SV T) → Option pair
  | [.int .i64 x1, .int .i64 x2, .int .i64 x3, .int .i64 x4, .int .i64 x5, x6, .arr .i64 8 x7, .int .u64 x8, x9, x10, .int .i64 x11, x12] => match asDat 110 x6 with | some x6' => (match asDat 229 x9 with | some x9' => (match asDat 229 x10 with | some x10' => (match asDat 40 x12 with | some x12' => (some (⟨(⟨(⟨x1, x2, x3, x4⟩ : Policy), x5, x6', x7, x8⟩ : Queue), x9', x10', x11, x12'⟩ : pair)) | none => none) | none => none) | none => none) | none => none
  | _ => none
theorem encpair_dec {has : Nat → Bool} (_hh : ∀ e ∈ [110, 229, 229, 40], has e = true) (cs : List (SV T)) (x : pair) (h : decpair cs = some x) : WkL has cs (encpair x) := by
  unfold decpair at h; split at h
  · split at h
    · rename_i h0; split at h
      · rename_i h1; split at h
        · rename_i h2; split at h
          · rename_i h3; cases h; exact (.cons _ (.cons _ (.cons _ (.cons _ (.cons _ (asDat_spec h0 (_hh 110 (by simp)) (.cons _ (.cons _ (asDat_spec h1 (_hh 229 (by simp)) (asDat_spec h2 (_hh 229 (by simp)) (.cons _ (asDat_spec h3 (_hh 40 (by simp)) .nil))))))))))))
          · cases h
        · cases h
      · cases h
    · cases h
  · cases h
def enceffect (x : effect) : List (SV T) := [.int .i64 x.takes, .int .i64 x.puts]
def deceffect : List (SV T) → Option effect
  | [.int .i64 x1, .int .i64 x2] => some (⟨x1, x2⟩ : effect)
  | _ => none
theorem enceffect_dec {has : Nat → Bool} (_hh : ∀ e ∈ [], has e = true) (cs : List (SV T)) (x : effect) (h : deceffect cs = some x) : WkL has cs (enceffect x) := by
  unfold deceffect at h; split at h
  · cases h; exact (.cons _ (.cons _ .nil))
  · cases h
def encUnit' (x : Unit') : List (SV T) := [.int .i64 x.packets, .int .i64 x.bytes, .int .i64 x.time]
def decUnit' : List (SV T) → Option Unit'
  | [.int .i64 x1, .int .i64 x2, .int .i64 x3] => some (⟨x1, x2, x3⟩ : Unit')
  | _ => none
theorem encUnit'_dec {has : Nat → Bool} (_hh : ∀ e ∈ [], has e = true) (cs : List (SV T)) (x : Unit') (h : decUnit' cs = some x) : WkL has cs (encUnit' x) := by
  unfold decUnit' at h; split at h
  · cases h; exact (.cons _ (.cons _ (.cons _ .nil)))
  · cases h
def encE3 (x : Int) : List (SV T) := [.int .i64 x]
def decE3 : List (SV T) → Option Int
  | [.int .i64 x1] => some x1
  | _ => none
theorem encE3_dec {has : Nat → Bool} (_hh : ∀ e ∈ [], has e = true) (cs : List (SV T)) (x : Int) (h : decE3 cs = some x) : WkL has cs (encE3 x) := by
  unfold decE3 at h; split at h
  · cases h; exact (.cons _ .nil)
  · cases h
def encE4 (x : Bool) : List (SV T) := [.bool x]
def decE4 : List (SV T) → Option Bool
  | [.bool x1] => some x1
  | _ => none
theorem encE4_dec {has : Nat → Bool} (_hh : ∀ e ∈ [], has e = true) (cs : List (SV T)) (x : Bool) (h : decE4 cs = some x) : WkL has cs (encE4 x) := by
  unfold decE4 at h; split at h
  · cases h; exact (.cons _ .nil)
  · cases h
def encE5 (x : Int) : List (SV T) := [.int .u8 x]
def decE5 : List (SV T) → Option Int
  | [.int .u8 x1] => some x1
  | _ => none
theorem encE5_dec {has : Nat → Bool} (_hh : ∀ e ∈ [], has e = true) (cs : List (SV T)) (x : Int) (h : decE5 cs = some x) : WkL has cs (encE5 x) := by
  unfold decE5 at h; split at h
  · cases h; exact (.cons _ .nil)
  · cases h
def encE9 (x : ByteArray) : List (SV T) := [.str x]
def decE9 : List (SV T) → Option ByteArray
  | [.str x1] => some x1
  | _ => none
theorem encE9_dec {has : Nat → Bool} (_hh : ∀ e ∈ [], has e = true) (cs : List (SV T)) (x : ByteArray) (h : decE9 cs = some x) : WkL has cs (encE9 x) := by
  unfold decE9 at h; split at h
  · cases h; exact (.cons _ .nil)
  · cases h
def encE26 (x : (List Int)) : List (SV T) := [.dat 3 x]
def decE26 : List (SV T) → Option (List Int)
  | [x1] => match asDat 3 x1 with | some x1' => (some x1') | none => none
  | _ => none
theorem encE26_dec {has : Nat → Bool} (_hh : ∀ e ∈ [3], has e = true) (cs : List (SV T)) (x : (List Int)) (h : decE26 cs = some x) : WkL has cs (encE26 x) := by
  unfold decE26 at h; split at h
  · split at h
    · rename_i h0; cases h; exact (asDat_spec h0 (_hh 3 (by simp)) .nil)
    · cases h
  · cases h
def encE34 (x : (List Int)) : List (SV T) := [.arr .i64 3 x]
def decE34 : List (SV T) → Option (List Int)
  | [.arr .i64 3 x1] => some x1
  | _ => none
theorem encE34_dec {has : Nat → Bool} (_hh : ∀ e ∈ [], has e = true) (cs : List (SV T)) (x : (List Int)) (h : decE34 cs = some x) : WkL has cs (encE34 x) := by
  unfold decE34 at h; split at h
  · cases h; exact (.cons _ .nil)
  · cases h
def encE66 (x : (List ItemD)) : List (SV T) := [.dat 163 x]
def decE66 : List (SV T) → Option (List ItemD)
  | [x1] => match asDat 163 x1 with | some x1' => (some x1') | none => none
  | _ => none
theorem encE66_dec {has : Nat → Bool} (_hh : ∀ e ∈ [163], has e = true) (cs : List (SV T)) (x : (List ItemD)) (h : decE66 cs = some x) : WkL has cs (encE66 x) := by
  unfold decE66 at h; split at h
  · split at h
    · rename_i h0; cases h; exact (asDat_spec h0 (_hh 163 (by simp)) .nil)
    · cases h
  · cases h
def encE110 (x : (List Queued)) : List (SV T) := [.dat 229 x]
def decE110 : List (SV T) → Option (List Queued)
  | [x1] => match asDat 229 x1 with | some x1' => (some x1') | none => none
  | _ => none
theorem encE110_dec {has : Nat → Bool} (_hh : ∀ e ∈ [229], has e = true) (cs : List (SV T)) (x : (List Queued)) (h : decE110 cs = some x) : WkL has cs (encE110 x) := by
  unfold decE110 at h; split at h
  · split at h
    · rename_i h0; cases h; exact (asDat_spec h0 (_hh 229 (by simp)) .nil)
    · cases h
  · cases h
def encZ287 (_ : Unit) : List (SV T) := [ZC.int .i64, ZC.int .i64, ZC.int .i64, ZC.slice].map zcSV
def decZ287 : List (SV T) → Option Unit := fun _ => none
theorem encZ287_dec {has : Nat → Bool} (_hh : ∀ e ∈ ([] : List Nat), has e = true) (cs : List (SV T)) (x : Unit) (h : decZ287 cs = some x) : WkL has cs (encZ287 x) := by cases h
def encZ289 (_ : Unit) : List (SV T) := [ZC.int .i64, ZC.int .i64, ZC.int .i64, ZC.int .i64, ZC.int .i64, ZC.int .i64, ZC.slice, ZC.int .i64, ZC.int .i64, ZC.int .i64, ZC.slice, ZC.slice, ZC.slice].map zcSV
def decZ289 : List (SV T) → Option Unit := fun _ => none
theorem encZ289_dec {has : Nat → Bool} (_hh : ∀ e ∈ ([] : List Nat), has e = true) (cs : List (SV T)) (x : Unit) (h : decZ289 cs = some x) : WkL has cs (encZ289 x) := by cases h
def encZ419 (_ : Unit) : List (SV T) := [ZC.int .i64, ZC.str, ZC.int .i64, ZC.int .i64, ZC.int .i64, ZC.slice].map zcSV
def decZ419 : List (SV T) → Option Unit := fun _ => none
theorem encZ419_dec {has : Nat → Bool} (_hh : ∀ e ∈ ([] : List Nat), has e = true) (cs : List (SV T)) (x : Unit) (h : decZ419 cs = some x) : WkL has cs (encZ419 x) := by cases h
def encE451 (x : (List Int)) : List (SV T) := [.arr .i64 3 x]
def decE451 : List (SV T) → Option (List Int)
  | [.arr .i64 3 x1] => some x1
  | _ => none
theorem encE451_dec {has : Nat → Bool} (_hh : ∀ e ∈ [], has e = true) (cs : List (SV T)) (x : (List Int)) (h : decE451 cs = some x) : WkL has cs (encE451 x) := by
  unfold decE451 at h; split at h
  · cases h; exact (.cons _ .nil)
  · cases h
def enc : ∀ e, T e → List (SV T)
  | 3, (x : Int) => encE3 x
  | 4, (x : Bool) => encE4 x
  | 5, (x : Int) => encE5 x
  | 9, (x : ByteArray) => encE9 x
  | 26, (x : (List Int)) => encE26 x
  | 34, (x : (List Int)) => encE34 x
  | 40, (x : Packet) => encPacket x
  | 42, (x : Record) => encRecord x
  | 51, (x : Segment) => encSegment x
  | 60, (x : Change) => encChange x
  | 66, (x : (List ItemD)) => encE66 x
  | 102, (x : Var) => encVar x
  | 107, (x : ProgramD) => encProgramD x
  | 110, (x : (List Queued)) => encE110 x
  | 117, (x : Link) => encLink x
  | 119, (x : Path) => encPath x
  | 124, (x : Flow) => encFlow x
  | 151, (x : Sender) => encSender x
  | 163, (x : ItemD) => encItemD x
  | 222, (x : Sent) => encSent x
  | 229, (x : Queued) => encQueued x
  | 287, (x : Unit) => encZ287 x
  | 289, (x : Unit) => encZ289 x
  | 345, (x : step) => encstep x
  | 419, (x : Unit) => encZ419 x
  | 426, (x : Instr) => encInstr x
  | 451, (x : (List Int)) => encE451 x
  | _, _ => []
def dec : ∀ e, List (SV T) → Option (T e)
  | 3, cs => ((decE3 cs) : Option Int)
  | 4, cs => ((decE4 cs) : Option Bool)
  | 5, cs => ((decE5 cs) : Option Int)
  | 9, cs => ((decE9 cs) : Option ByteArray)
  | 26, cs => ((decE26 cs) : Option (List Int))
  | 34, cs => ((decE34 cs) : Option (List Int))
  | 40, cs => ((decPacket cs) : Option Packet)
  | 42, cs => ((decRecord cs) : Option Record)
  | 51, cs => ((decSegment cs) : Option Segment)
  | 60, cs => ((decChange cs) : Option Change)
  | 66, cs => ((decE66 cs) : Option (List ItemD))
  | 102, cs => ((decVar cs) : Option Var)
  | 107, cs => ((decProgramD cs) : Option ProgramD)
  | 110, cs => ((decE110 cs) : Option (List Queued))
  | 117, cs => ((decLink cs) : Option Link)
  | 119, cs => ((decPath cs) : Option Path)
  | 124, cs => ((decFlow cs) : Option Flow)
  | 151, cs => ((decSender cs) : Option Sender)
  | 163, cs => ((decItemD cs) : Option ItemD)
  | 222, cs => ((decSent cs) : Option Sent)
  | 229, cs => ((decQueued cs) : Option Queued)
  | 287, cs => ((decZ287 cs) : Option Unit)
  | 289, cs => ((decZ289 cs) : Option Unit)
  | 345, cs => ((decstep cs) : Option step)
  | 419, cs => ((decZ419 cs) : Option Unit)
  | 426, cs => ((decInstr cs) : Option Instr)
  | 451, cs => ((decE451 cs) : Option (List Int))
  | _, _ => none
def sz : Nat → Nat
  | 3 => 1
  | 4 => 1
  | 5 => 1
  | 9 => 1
  | 26 => 1
  | 34 => 3
  | 40 => 8
  | 42 => 11
  | 51 => 5
  | 60 => 3
  | 66 => 1
  | 102 => 5
  | 107 => 9
  | 110 => 1
  | 117 => 27
  | 119 => 3
  | 124 => 11
  | 151 => 7
  | 163 => 21
  | 222 => 4
  | 229 => 9
  | 287 => 4
  | 289 => 13
  | 345 => 2
  | 419 => 6
  | 426 => 3
  | 451 => 3
  | _ => 0
def elems : List Nat := [3, 4, 5, 9, 26, 34, 40, 42, 51, 60, 66, 102, 107, 110, 117, 119, 124, 151, 163, 222, 229, 287, 289, 345, 419, 426, 451]
def has (e : Nat) : Bool := elems.any (Nat.beq e)
theorem has_mem {e : Nat} (h : has e = true) : e = 3 ∨ e = 4 ∨ e = 5 ∨ e = 9 ∨ e = 26 ∨ e = 34 ∨ e = 40 ∨ e = 42 ∨ e = 51 ∨ e = 60 ∨ e = 66 ∨ e = 102 ∨ e = 107 ∨ e = 110 ∨ e = 117 ∨ e = 119 ∨ e = 124 ∨ e = 151 ∨ e = 163 ∨ e = 222 ∨ e = 229 ∨ e = 287 ∨ e = 289 ∨ e = 345 ∨ e = 419 ∨ e = 426 ∨ e = 451 := by
  simp only [has, elems, List.any_cons, List.any_nil, Bool.or_eq_true, Bool.or_false] at h
  rcases h with h | h | h | h | h | h | h | h | h | h | h | h | h | h | h | h | h | h | h | h | h | h | h | h | h | h | h
  · exact (.inl (Nat.eq_of_beq_eq_true h))
  · exact (.inr (.inl (Nat.eq_of_beq_eq_true h)))
  · exact (.inr (.inr (.inl (Nat.eq_of_beq_eq_true h))))
  · exact (.inr (.inr (.inr (.inl (Nat.eq_of_beq_eq_true h)))))
  · exact (.inr (.inr (.inr (.inr (.inl (Nat.eq_of_beq_eq_true h))))))
  · exact (.inr (.inr (.inr (.inr (.inr (.inl (Nat.eq_of_beq_eq_true h)))))))
  · exact (.inr (.inr (.inr (.inr (.inr (.inr (.inl (Nat.eq_of_beq_eq_true h))))))))
  · exact (.inr (.inr (.inr (.inr (.inr (.inr (.inr (.inl (Nat.eq_of_beq_eq_true h)))))))))
  · exact (.inr (.inr (.inr (.inr (.inr (.inr (.inr (.inr (.inl (Nat.eq_of_beq_eq_true h))))))))))
  · exact (.inr (.inr (.inr (.inr (.inr (.inr (.inr (.inr (.inr (.inl (Nat.eq_of_beq_eq_true h)))))))))))
  · exact (.inr (.inr (.inr (.inr (.inr (.inr (.inr (.inr (.inr (.inr (.inl (Nat.eq_of_beq_eq_true h))))))))))))
  · exact (.inr (.inr (.inr (.inr (.inr (.inr (.inr (.inr (.inr (.inr (.inr (.inl (Nat.eq_of_beq_eq_true h)))))))))))))
  · exact (.inr (.inr (.inr (.inr (.inr (.inr (.inr (.inr (.inr (.inr (.inr (.inr (.inl (Nat.eq_of_beq_eq_true h))))))))))))))
  · exact (.inr (.inr (.inr (.inr (.inr (.inr (.inr (.inr (.inr (.inr (.inr (.inr (.inr (.inl (Nat.eq_of_beq_eq_true h)))))))))))))))
  · exact (.inr (.inr (.inr (.inr (.inr (.inr (.inr (.inr (.inr (.inr (.inr (.inr (.inr (.inr (.inl (Nat.eq_of_beq_eq_true h))))))))))))))))
  · exact (.inr (.inr (.inr (.inr (.inr (.inr (.inr (.inr (.inr (.inr (.inr (.inr (.inr (.inr (.inr (.inl (Nat.eq_of_beq_eq_true h)))))))))))))))))
  · exact (.inr (.inr (.inr (.inr (.inr (.inr (.inr (.inr (.inr (.inr (.inr (.inr (.inr (.inr (.inr (.inr (.inl (Nat.eq_of_beq_eq_true h))))))))))))))))))
  · exact (.inr (.inr (.inr (.inr (.inr (.inr (.inr (.inr (.inr (.inr (.inr (.inr (.inr (.inr (.inr (.inr (.inr (.inl (Nat.eq_of_beq_eq_true h)))))))))))))))))))
  · exact (.inr (.inr (.inr (.inr (.inr (.inr (.inr (.inr (.inr (.inr (.inr (.inr (.inr (.inr (.inr (.inr (.inr (.inr (.inl (Nat.eq_of_beq_eq_true h))))))))))))))))))))
  · exact (.inr (.inr (.inr (.inr (.inr (.inr (.inr (.inr (.inr (.inr (.inr (.inr (.inr (.inr (.inr (.inr (.inr (.inr (.inr (.inl (Nat.eq_of_beq_eq_true h)))))))))))))))))))))
  · exact (.inr (.inr (.inr (.inr (.inr (.inr (.inr (.inr (.inr (.inr (.inr (.inr (.inr (.inr (.inr (.inr (.inr (.inr (.inr (.inr (.inl (Nat.eq_of_beq_eq_true h))))))))))))))))))))))
  · exact (.inr (.inr (.inr (.inr (.inr (.inr (.inr (.inr (.inr (.inr (.inr (.inr (.inr (.inr (.inr (.inr (.inr (.inr (.inr (.inr (.inr (.inl (Nat.eq_of_beq_eq_true h)))))))))))))))))))))))
  · exact (.inr (.inr (.inr (.inr (.inr (.inr (.inr (.inr (.inr (.inr (.inr (.inr (.inr (.inr (.inr (.inr (.inr (.inr (.inr (.inr (.inr (.inr (.inl (Nat.eq_of_beq_eq_true h))))))))))))))))))))))))
  · exact (.inr (.inr (.inr (.inr (.inr (.inr (.inr (.inr (.inr (.inr (.inr (.inr (.inr (.inr (.inr (.inr (.inr (.inr (.inr (.inr (.inr (.inr (.inr (.inl (Nat.eq_of_beq_eq_true h)))))))))))))))))))))))))
  · exact (.inr (.inr (.inr (.inr (.inr (.inr (.inr (.inr (.inr (.inr (.inr (.inr (.inr (.inr (.inr (.inr (.inr (.inr (.inr (.inr (.inr (.inr (.inr (.inr (.inl (Nat.eq_of_beq_eq_true h))))))))))))))))))))))))))
  · exact (.inr (.inr (.inr (.inr (.inr (.inr (.inr (.inr (.inr (.inr (.inr (.inr (.inr (.inr (.inr (.inr (.inr (.inr (.inr (.inr (.inr (.inr (.inr (.inr (.inr (.inl (Nat.eq_of_beq_eq_true h)))))))))))))))))))))))))))
  · exact (.inr (.inr (.inr (.inr (.inr (.inr (.inr (.inr (.inr (.inr (.inr (.inr (.inr (.inr (.inr (.inr (.inr (.inr (.inr (.inr (.inr (.inr (.inr (.inr (.inr (.inr (Nat.eq_of_beq_eq_true h)))))))))))))))))))))))))))
theorem enc_dec (e : Nat) (cs : List (SV T)) (x : T e) (h : has e = true) (hd : dec e cs = some x) : WkL has cs (enc e x) := by
  rcases has_mem h with rfl | rfl | rfl | rfl | rfl | rfl | rfl | rfl | rfl | rfl | rfl | rfl | rfl | rfl | rfl | rfl | rfl | rfl | rfl | rfl | rfl | rfl | rfl | rfl | rfl | rfl | rfl
  · exact encE3_dec (by decide) cs x hd
  · exact encE4_dec (by decide) cs x hd
  · exact encE5_dec (by decide) cs x hd
  · exact encE9_dec (by decide) cs x hd
  · exact encE26_dec (by decide) cs x hd
  · exact encE34_dec (by decide) cs x hd
  · exact encPacket_dec (by decide) cs x hd
  · exact encRecord_dec (by decide) cs x hd
  · exact encSegment_dec (by decide) cs x hd
  · exact encChange_dec (by decide) cs x hd
  · exact encE66_dec (by decide) cs x hd
  · exact encVar_dec (by decide) cs x hd
  · exact encProgramD_dec (by decide) cs x hd
  · exact encE110_dec (by decide) cs x hd
  · exact encLink_dec (by decide) cs x hd
  · exact encPath_dec (by decide) cs x hd
  · exact encFlow_dec (by decide) cs x hd
  · exact encSender_dec (by decide) cs x hd
  · exact encItemD_dec (by decide) cs x hd
  · exact encSent_dec (by decide) cs x hd
  · exact encQueued_dec (by decide) cs x hd
  · exact encZ287_dec (by decide) cs x hd
  · exact encZ289_dec (by decide) cs x hd
  · exact encstep_dec (by decide) cs x hd
  · exact encZ419_dec (by decide) cs x hd
  · exact encInstr_dec (by decide) cs x hd
  · exact encE451_dec (by decide) cs x hd
theorem enc_sz (e : Nat) (x : T e) (h : has e = true) : widths0 (enc e x) = sz e := by
  rcases has_mem h with rfl | rfl | rfl | rfl | rfl | rfl | rfl | rfl | rfl | rfl | rfl | rfl | rfl | rfl | rfl | rfl | rfl | rfl | rfl | rfl | rfl | rfl | rfl | rfl | rfl | rfl | rfl <;> kernel_rfl
theorem enc_data (e : Nat) (x : T e) (h : has e = true) : allData (enc e x) = true := by
  rcases has_mem h with rfl | rfl | rfl | rfl | rfl | rfl | rfl | rfl | rfl | rfl | rfl | rfl | rfl | rfl | rfl | rfl | rfl | rfl | rfl | rfl | rfl | rfl | rfl | rfl | rfl | rfl | rfl <;> kernel_rfl
def tis : List TI := [
  ⟨false, .other, 0, 0, []⟩,
  ⟨true, .other, 1, 8, [ZC.func]⟩,
  ⟨true, .int .i64, 1, 8, [ZC.int .i64]⟩,
  ⟨true, .int .i64, 1, 8, [ZC.int .i64]⟩,
  ⟨true, .bool, 1, 1, [ZC.bool]⟩,
  ⟨true, .int .u8, 1, 1, [ZC.int .u8]⟩,
  ⟨true, .int .u8, 1, 1, [ZC.int .u8]⟩,
  ⟨true, .struct [(0, 1, 2), (1, 1, 3), (2, 1, 4), (3, 1, 6)], 4, 24, [ZC.int .i64, ZC.int .i64, ZC.bool, ZC.int .u8]⟩,
  ⟨true, .struct [(0, 1, 2), (1, 1, 3), (2, 1, 4), (3, 1, 6)], 4, 24, [ZC.int .i64, ZC.int .i64, ZC.bool, ZC.int .u8]⟩,
  ⟨true, .string, 1, 16, [ZC.str]⟩,
  ⟨true, .string, 1, 16, [ZC.str]⟩,
  ⟨true, .string, 1, 16, [ZC.str]⟩,
  ⟨true, .int .u64, 1, 8, [ZC.int .u64]⟩,
  ⟨true, .struct [(0, 1, 9), (1, 1, 12)], 2, 24, [ZC.str, ZC.int .u64]⟩,
  ⟨true, .struct [(0, 1, 9), (1, 1, 12)], 2, 24, [ZC.str, ZC.int .u64]⟩,
  ⟨true, .other, 1, 8, [ZC.ptr]⟩,
  ⟨true, .other, 1, 8, [ZC.ptr]⟩,
  ⟨true, .other, 1, 8, [ZC.ptr]⟩,
  ⟨true, .struct [(0, 1, 17)], 1, 8, [ZC.ptr]⟩,
  ⟨true, .struct [(0, 1, 17)], 1, 8, [ZC.ptr]⟩,
  ⟨false, .other, 0, 0, []⟩,
  ⟨true, .int .i32, 1, 4, [ZC.int .i32]⟩,
  ⟨true, .array 6 3, 6, 48, [ZC.arr .i64 6]⟩,
  ⟨true, .slice 60, 1, 24, [ZC.slice]⟩,
  ⟨true, .struct [(0, 1, 3), (1, 1, 3), (2, 6, 22), (8, 1, 23)], 9, 88, [ZC.int .i64, ZC.int .i64, ZC.arr .i64 6, ZC.slice]⟩,
  ⟨true, .struct [(0, 1, 3), (1, 1, 3), (2, 6, 22), (8, 1, 23)], 9, 88, [ZC.int .i64, ZC.int .i64, ZC.arr .i64 6, ZC.slice]⟩,
  ⟨true, .slice 3, 1, 24, [ZC.slice]⟩,
  ⟨true, .other, 1, 8, [ZC.func]⟩,
  ⟨true, .other, 1, 8, [ZC.func]⟩,
  ⟨true, .other, 1, 8, [ZC.func]⟩,
  ⟨false, .map 3 4, 0, 0, []⟩,
  ⟨true, .other, 1, 8, [ZC.func]⟩,
  ⟨false, .map 34 3, 0, 0, []⟩,
  ⟨true, .slice 26, 1, 24, [ZC.slice]⟩,
  ⟨true, .array 3 3, 3, 24, [ZC.arr .i64 3]⟩,
  ⟨true, .array 6 5, 6, 6, [ZC.arr .u8 6]⟩,
  ⟨true, .other, 1, 8, [ZC.func]⟩,
  ⟨true, .other, 1, 8, [ZC.func]⟩,
  ⟨true, .slice 42, 1, 24, [ZC.slice]⟩,
  ⟨true, .struct [(0, 1, 3), (1, 1, 3), (2, 1, 3), (3, 1, 3), (4, 1, 3), (5, 1, 3), (6, 1, 4), (7, 1, 4)], 8, 56, [ZC.int .i64, ZC.int .i64, ZC.int .i64, ZC.int .i64, ZC.int .i64, ZC.int .i64, ZC.bool, ZC.bool]⟩,
  ⟨true, .struct [(0, 1, 3), (1, 1, 3), (2, 1, 3), (3, 1, 3), (4, 1, 3), (5, 1, 3), (6, 1, 4), (7, 1, 4)], 8, 56, [ZC.int .i64, ZC.int .i64, ZC.int .i64, ZC.int .i64, ZC.int .i64, ZC.int .i64, ZC.bool, ZC.bool]⟩,
  ⟨true, .struct [(0, 1, 3), (1, 1, 3), (2, 1, 3), (3, 8, 40)], 11, 80, [ZC.int .i64, ZC.int .i64, ZC.int .i64, ZC.int .i64, ZC.int .i64, ZC.int .i64, ZC.int .i64, ZC.int .i64, ZC.int .i64, ZC.bool, ZC.bool]⟩,
  ⟨true, .struct [(0, 1, 3), (1, 1, 3), (2, 1, 3), (3, 8, 40)], 11, 80, [ZC.int .i64, ZC.int .i64, ZC.int .i64, ZC.int .i64, ZC.int .i64, ZC.int .i64, ZC.int .i64, ZC.int .i64, ZC.int .i64, ZC.bool, ZC.bool]⟩,
  ⟨true, .int .u64, 1, 8, [ZC.int .u64]⟩,
  ⟨false, .other, 0, 0, []⟩,
  ⟨true, .other, 1, 8, [ZC.func]⟩,
  ⟨true, .other, 1, 8, [ZC.func]⟩,
  ⟨true, .other, 1, 8, [ZC.func]⟩,
  ⟨true, .slice 51, 1, 24, [ZC.slice]⟩,
  ⟨true, .other, 1, 8, [ZC.func]⟩,
  ⟨true, .struct [(0, 1, 3), (1, 1, 3), (2, 1, 43), (3, 1, 43), (4, 1, 38)], 5, 56, [ZC.int .i64, ZC.int .i64, ZC.int .u64, ZC.int .u64, ZC.slice]⟩,
  ⟨true, .struct [(0, 1, 3), (1, 1, 3), (2, 1, 43), (3, 1, 43), (4, 1, 38)], 5, 56, [ZC.int .i64, ZC.int .i64, ZC.int .u64, ZC.int .u64, ZC.slice]⟩,
  ⟨true, .int .i64, 1, 8, [ZC.int .i64]⟩,
  ⟨false, .other, 0, 0, []⟩,
  ⟨true, .other, 1, 8, [ZC.func]⟩,
  ⟨true, .other, 1, 8, [ZC.func]⟩,
  ⟨true, .other, 1, 8, [ZC.func]⟩,
  ⟨true, .other, 1, 8, [ZC.ptr]⟩,
  ⟨true, .other, 1, 8, [ZC.func]⟩,
  ⟨true, .struct [(0, 1, 3), (1, 1, 3), (2, 1, 3)], 3, 24, [ZC.int .i64, ZC.int .i64, ZC.int .i64]⟩,
  ⟨true, .struct [(0, 1, 3), (1, 1, 3), (2, 1, 3)], 3, 24, [ZC.int .i64, ZC.int .i64, ZC.int .i64]⟩,
  ⟨true, .other, 1, 8, [ZC.func]⟩,
  ⟨true, .slice 117, 1, 24, [ZC.slice]⟩,
  ⟨true, .slice 119, 1, 24, [ZC.slice]⟩,
  ⟨true, .slice 124, 1, 24, [ZC.slice]⟩,
  ⟨true, .slice 107, 1, 24, [ZC.slice]⟩,
  ⟨true, .slice 163, 1, 24, [ZC.slice]⟩,
  ⟨true, .struct [(0, 1, 66), (1, 1, 3)], 2, 32, [ZC.slice, ZC.int .i64]⟩,
  ⟨true, .struct [(0, 1, 66), (1, 1, 3)], 2, 32, [ZC.slice, ZC.int .i64]⟩,
  ⟨true, .struct [(0, 1, 3), (1, 1, 62), (2, 1, 63), (3, 1, 64), (4, 1, 65), (5, 2, 68), (7, 1, 3), (8, 1, 3), (9, 1, 3), (10, 1, 43)], 11, 168, [ZC.int .i64, ZC.slice, ZC.slice, ZC.slice, ZC.slice, ZC.slice, ZC.int .i64, ZC.int .i64, ZC.int .i64, ZC.int .i64, ZC.int .u64]⟩,
  ⟨true, .struct [(0, 1, 3), (1, 1, 62), (2, 1, 63), (3, 1, 64), (4, 1, 65), (5, 2, 68), (7, 1, 3), (8, 1, 3), (9, 1, 3), (10, 1, 43)], 11, 168, [ZC.int .i64, ZC.slice, ZC.slice, ZC.slice, ZC.slice, ZC.slice, ZC.int .i64, ZC.int .i64, ZC.int .i64, ZC.int .i64, ZC.int .u64]⟩,
  ⟨false, .other, 0, 0, []⟩,
  ⟨true, .other, 1, 8, [ZC.func]⟩,
  ⟨false, .other, 0, 0, []⟩,
  ⟨true, .other, 1, 8, [ZC.func]⟩,
  ⟨true, .other, 1, 8, [ZC.func]⟩,
  ⟨true, .other, 1, 8, [ZC.func]⟩,
  ⟨true, .other, 1, 8, [ZC.func]⟩,
  ⟨true, .other, 1, 8, [ZC.func]⟩,
  ⟨false, .other, 0, 0, []⟩,
  ⟨true, .other, 1, 8, [ZC.func]⟩,
  ⟨false, .other, 0, 0, []⟩,
  ⟨true, .other, 1, 8, [ZC.func]⟩,
  ⟨true, .other, 1, 8, [ZC.func]⟩,
  ⟨true, .other, 1, 8, [ZC.func]⟩,
  ⟨true, .array 9 3, 9, 72, [ZC.arr .i64 9]⟩,
  ⟨true, .array 10 3, 10, 80, [ZC.arr .i64 10]⟩,
  ⟨true, .other, 1, 8, [ZC.func]⟩,
  ⟨false, .other, 0, 0, []⟩,
  ⟨true, .other, 1, 8, [ZC.func]⟩,
  ⟨true, .slice 5, 1, 24, [ZC.slice]⟩,
  ⟨false, .other, 0, 0, []⟩,
  ⟨true, .other, 1, 8, [ZC.func]⟩,
  ⟨true, .other, 1, 8, [ZC.func]⟩,
  ⟨true, .other, 1, 8, [ZC.func]⟩,
  ⟨true, .other, 1, 8, [ZC.func]⟩,
  ⟨true, .other, 1, 8, [ZC.func]⟩,
  ⟨true, .other, 1, 8, [ZC.func]⟩,
  ⟨true, .other, 1, 8, [ZC.func]⟩,
  ⟨true, .other, 1, 8, [ZC.func]⟩,
  ⟨true, .other, 1, 8, [ZC.func]⟩,
  ⟨true, .struct [(0, 1, 9), (1, 1, 3), (2, 1, 3), (3, 1, 3), (4, 1, 3)], 5, 48, [ZC.str, ZC.int .i64, ZC.int .i64, ZC.int .i64, ZC.int .i64]⟩,
  ⟨true, .struct [(0, 1, 9), (1, 1, 3), (2, 1, 3), (3, 1, 3), (4, 1, 3)], 5, 48, [ZC.str, ZC.int .i64, ZC.int .i64, ZC.int .i64, ZC.int .i64]⟩,
  ⟨true, .slice 102, 1, 24, [ZC.slice]⟩,
  ⟨true, .slice 289, 1, 24, [ZC.slice]⟩,
  ⟨true, .array 5 104, 5, 120, [ZC.slice, ZC.slice, ZC.slice, ZC.slice, ZC.slice]⟩,
  ⟨true, .struct [(0, 1, 9), (1, 1, 103), (2, 5, 105), (7, 1, 3), (8, 1, 3)], 9, 176, [ZC.str, ZC.slice, ZC.slice, ZC.slice, ZC.slice, ZC.slice, ZC.slice, ZC.int .i64, ZC.int .i64]⟩,
  ⟨true, .struct [(0, 1, 9), (1, 1, 103), (2, 5, 105), (7, 1, 3), (8, 1, 3)], 9, 176, [ZC.str, ZC.slice, ZC.slice, ZC.slice, ZC.slice, ZC.slice, ZC.slice, ZC.int .i64, ZC.int .i64]⟩,
  ⟨true, .struct [(0, 1, 3), (1, 1, 3), (2, 1, 3), (3, 1, 3)], 4, 32, [ZC.int .i64, ZC.int .i64, ZC.int .i64, ZC.int .i64]⟩,
  ⟨true, .struct [(0, 1, 3), (1, 1, 3), (2, 1, 3), (3, 1, 3)], 4, 32, [ZC.int .i64, ZC.int .i64, ZC.int .i64, ZC.int .i64]⟩,
  ⟨true, .slice 229, 1, 24, [ZC.slice]⟩,
  ⟨true, .slice 110, 1, 24, [ZC.slice]⟩,
  ⟨true, .array 8 3, 8, 64, [ZC.arr .i64 8]⟩,
  ⟨true, .struct [(0, 4, 109), (4, 1, 3), (5, 1, 111), (6, 8, 112), (14, 1, 43)], 15, 136, [ZC.int .i64, ZC.int .i64, ZC.int .i64, ZC.int .i64, ZC.int .i64, ZC.slice, ZC.arr .i64 8, ZC.int .u64]⟩,
  ⟨true, .struct [(0, 4, 109), (4, 1, 3), (5, 1, 111), (6, 8, 112), (14, 1, 43)], 15, 136, [ZC.int .i64, ZC.int .i64, ZC.int .i64, ZC.int .i64, ZC.int .i64, ZC.slice, ZC.arr .i64 8, ZC.int .u64]⟩,
  ⟨true, .other, 1, 8, [ZC.func]⟩,
  ⟨true, .struct [(0, 1, 3), (1, 1, 3), (2, 15, 114), (17, 1, 4), (18, 8, 40), (26, 1, 3)], 27, 224, [ZC.int .i64, ZC.int .i64, ZC.int .i64, ZC.int .i64, ZC.int .i64, ZC.int .i64, ZC.int .i64, ZC.slice, ZC.arr .i64 8, ZC.int .u64, ZC.bool, ZC.int .i64, ZC.int .i64, ZC.int .i64, ZC.int .i64, ZC.int .i64, ZC.int .i64, ZC.bool, ZC.bool, ZC.int .i64]⟩,
  ⟨true, .struct [(0, 1, 3), (1, 1, 3), (2, 15, 114), (17, 1, 4), (18, 8, 40), (26, 1, 3)], 27, 224, [ZC.int .i64, ZC.int .i64, ZC.int .i64, ZC.int .i64, ZC.int .i64, ZC.int .i64, ZC.int .i64, ZC.slice, ZC.arr .i64 8, ZC.int .u64, ZC.bool, ZC.int .i64, ZC.int .i64, ZC.int .i64, ZC.int .i64, ZC.int .i64, ZC.int .i64, ZC.bool, ZC.bool, ZC.int .i64]⟩,
  ⟨true, .struct [(0, 1, 26), (1, 1, 3), (2, 1, 4)], 3, 40, [ZC.slice, ZC.int .i64, ZC.bool]⟩,
  ⟨true, .struct [(0, 1, 26), (1, 1, 3), (2, 1, 4)], 3, 40, [ZC.slice, ZC.int .i64, ZC.bool]⟩,
  ⟨true, .slice 151, 1, 24, [ZC.slice]⟩,
  ⟨true, .struct [(0, 1, 3), (1, 1, 26)], 2, 32, [ZC.int .i64, ZC.slice]⟩,
  ⟨true, .struct [(0, 1, 3), (1, 1, 26)], 2, 32, [ZC.int .i64, ZC.slice]⟩,
  ⟨true, .struct [(0, 1, 3), (1, 1, 26), (2, 1, 3), (3, 1, 3), (4, 1, 3), (5, 1, 3), (6, 1, 120), (7, 2, 122), (9, 1, 3), (10, 1, 26)], 11, 152, [ZC.int .i64, ZC.slice, ZC.int .i64, ZC.int .i64, ZC.int .i64, ZC.int .i64, ZC.slice, ZC.int .i64, ZC.slice, ZC.int .i64, ZC.slice]⟩,
  ⟨true, .struct [(0, 1, 3), (1, 1, 26), (2, 1, 3), (3, 1, 3), (4, 1, 3), (5, 1, 3), (6, 1, 120), (7, 2, 122), (9, 1, 3), (10, 1, 26)], 11, 152, [ZC.int .i64, ZC.slice, ZC.int .i64, ZC.int .i64, ZC.int .i64, ZC.int .i64, ZC.slice, ZC.int .i64, ZC.slice, ZC.int .i64, ZC.slice]⟩,
  ⟨true, .other, 1, 8, [ZC.func]⟩,
  ⟨true, .other, 1, 8, [ZC.ptr]⟩,
  ⟨true, .other, 1, 8, [ZC.ptr]⟩,
  ⟨true, .other, 1, 8, [ZC.func]⟩,
  ⟨false, .map 3 176, 0, 0, []⟩,
  ⟨true, .other, 1, 8, [ZC.func]⟩,
  ⟨true, .other, 1, 8, [ZC.func]⟩,
  ⟨true, .struct [(0, 11, 70), (11, 1, 38)], 12, 192, [ZC.int .i64, ZC.slice, ZC.slice, ZC.slice, ZC.slice, ZC.slice, ZC.int .i64, ZC.int .i64, ZC.int .i64, ZC.int .i64, ZC.int .u64, ZC.slice]⟩,
  ⟨true, .struct [(0, 11, 70), (11, 1, 38)], 12, 192, [ZC.int .i64, ZC.slice, ZC.slice, ZC.slice, ZC.slice, ZC.slice, ZC.int .i64, ZC.int .i64, ZC.int .i64, ZC.int .i64, ZC.int .u64, ZC.slice]⟩,
  ⟨true, .other, 1, 8, [ZC.func]⟩,
  ⟨true, .other, 1, 8, [ZC.func]⟩,
  ⟨true, .other, 1, 8, [ZC.func]⟩,
  ⟨true, .other, 1, 8, [ZC.func]⟩,
  ⟨true, .other, 1, 8, [ZC.ptr]⟩,
  ⟨true, .struct [(0, 1, 4), (1, 1, 90), (2, 1, 3), (3, 1, 3), (4, 1, 4)], 5, 56, [ZC.bool, ZC.slice, ZC.int .i64, ZC.int .i64, ZC.bool]⟩,
  ⟨true, .struct [(0, 1, 4), (1, 1, 90), (2, 1, 3), (3, 1, 3), (4, 1, 4)], 5, 56, [ZC.bool, ZC.slice, ZC.int .i64, ZC.int .i64, ZC.bool]⟩,
  ⟨true, .other, 1, 8, [ZC.func]⟩,
  ⟨true, .other, 1, 8, [ZC.ptr]⟩,
  ⟨true, .other, 1, 8, [ZC.func]⟩,
  ⟨true, .other, 1, 8, [ZC.func]⟩,
  ⟨true, .other, 1, 8, [ZC.func]⟩,
  ⟨true, .other, 1, 8, [ZC.func]⟩,
  ⟨true, .slice 222, 1, 24, [ZC.slice]⟩,
  ⟨true, .struct [(0, 1, 3), (1, 1, 3)], 2, 16, [ZC.int .i64, ZC.int .i64]⟩,
  ⟨true, .struct [(0, 1, 3), (1, 1, 3)], 2, 16, [ZC.int .i64, ZC.int .i64]⟩,
  ⟨true, .struct [(0, 1, 26), (1, 1, 3), (2, 1, 147), (3, 1, 3), (4, 1, 3), (5, 2, 149)], 7, 88, [ZC.slice, ZC.int .i64, ZC.slice, ZC.int .i64, ZC.int .i64, ZC.int .i64, ZC.int .i64]⟩,
  ⟨true, .struct [(0, 1, 26), (1, 1, 3), (2, 1, 147), (3, 1, 3), (4, 1, 3), (5, 2, 149)], 7, 88, [ZC.slice, ZC.int .i64, ZC.slice, ZC.int .i64, ZC.int .i64, ZC.int .i64, ZC.int .i64]⟩,
  ⟨false, .other, 0, 0, []⟩,
  ⟨true, .other, 1, 8, [ZC.func]⟩,
  ⟨true, .other, 1, 8, [ZC.func]⟩,
  ⟨true, .other, 1, 8, [ZC.func]⟩,
  ⟨true, .other, 1, 8, [ZC.func]⟩,
  ⟨true, .other, 1, 8, [ZC.func]⟩,
  ⟨false, .other, 0, 0, []⟩,
  ⟨true, .other, 1, 8, [ZC.func]⟩,
  ⟨true, .struct [(0, 1, 3), (1, 1, 3), (2, 1, 3), (3, 1, 3), (4, 1, 4)], 5, 40, [ZC.int .i64, ZC.int .i64, ZC.int .i64, ZC.int .i64, ZC.bool]⟩,
  ⟨true, .struct [(0, 1, 3), (1, 1, 3), (2, 1, 3), (3, 1, 3), (4, 1, 4)], 5, 40, [ZC.int .i64, ZC.int .i64, ZC.int .i64, ZC.int .i64, ZC.bool]⟩,
  ⟨true, .struct [(0, 1, 3), (1, 1, 3), (2, 1, 3), (3, 1, 3), (4, 1, 3), (5, 8, 40), (13, 5, 161), (18, 3, 60)], 21, 160, [ZC.int .i64, ZC.int .i64, ZC.int .i64, ZC.int .i64, ZC.int .i64, ZC.int .i64, ZC.int .i64, ZC.int .i64, ZC.int .i64, ZC.int .i64, ZC.int .i64, ZC.bool, ZC.bool, ZC.int .i64, ZC.int .i64, ZC.int .i64, ZC.int .i64, ZC.bool, ZC.int .i64, ZC.int .i64, ZC.int .i64]⟩,
  ⟨true, .struct [(0, 1, 3), (1, 1, 3), (2, 1, 3), (3, 1, 3), (4, 1, 3), (5, 8, 40), (13, 5, 161), (18, 3, 60)], 21, 160, [ZC.int .i64, ZC.int .i64, ZC.int .i64, ZC.int .i64, ZC.int .i64, ZC.int .i64, ZC.int .i64, ZC.int .i64, ZC.int .i64, ZC.int .i64, ZC.int .i64, ZC.bool, ZC.bool, ZC.int .i64, ZC.int .i64, ZC.int .i64, ZC.int .i64, ZC.bool, ZC.int .i64, ZC.int .i64, ZC.int .i64]⟩,
  ⟨true, .other, 1, 8, [ZC.func]⟩,
  ⟨true, .other, 1, 8, [ZC.func]⟩,
  ⟨true, .other, 1, 8, [ZC.func]⟩,
  ⟨true, .other, 1, 8, [ZC.func]⟩,
  ⟨true, .other, 1, 8, [ZC.func]⟩,
  ⟨true, .struct [(0, 1, 52)], 1, 8, [ZC.int .i64]⟩,
  ⟨true, .struct [(0, 1, 52)], 1, 8, [ZC.int .i64]⟩,
  ⟨false, .other, 0, 0, []⟩,
  ⟨true, .other, 1, 8, [ZC.func]⟩,
  ⟨true, .other, 1, 8, [ZC.func]⟩,
  ⟨true, .other, 1, 8, [ZC.ptr]⟩,
  ⟨true, .other, 1, 8, [ZC.func]⟩,
  ⟨true, .other, 1, 8, [ZC.func]⟩,
  ⟨true, .other, 1, 8, [ZC.func]⟩,
  ⟨false, .other, 0, 0, []⟩,
  ⟨true, .other, 1, 8, [ZC.func]⟩,
  ⟨true, .other, 1, 8, [ZC.func]⟩,
  ⟨true, .other, 1, 8, [ZC.ptr]⟩,
  ⟨true, .other, 1, 8, [ZC.func]⟩,
  ⟨true, .other, 1, 8, [ZC.ptr]⟩,
  ⟨true, .other, 1, 8, [ZC.func]⟩,
  ⟨true, .other, 1, 8, [ZC.func]⟩,
  ⟨true, .other, 1, 8, [ZC.ptr]⟩,
  ⟨true, .other, 1, 8, [ZC.func]⟩,
  ⟨true, .other, 1, 8, [ZC.func]⟩,
  ⟨true, .other, 1, 8, [ZC.ptr]⟩,
  ⟨true, .other, 1, 8, [ZC.func]⟩,
  ⟨true, .other, 1, 8, [ZC.func]⟩,
  ⟨true, .other, 1, 8, [ZC.ptr]⟩,
  ⟨true, .other, 1, 8, [ZC.func]⟩,
  ⟨true, .other, 1, 8, [ZC.func]⟩,
  ⟨true, .other, 1, 8, [ZC.ptr]⟩,
  ⟨true, .other, 1, 8, [ZC.func]⟩,
  ⟨true, .other, 1, 8, [ZC.func]⟩,
  ⟨true, .other, 1, 8, [ZC.ptr]⟩,
  ⟨true, .other, 1, 8, [ZC.func]⟩,
  ⟨true, .other, 1, 8, [ZC.func]⟩,
  ⟨true, .other, 1, 8, [ZC.func]⟩,
  ⟨true, .other, 1, 8, [ZC.func]⟩,
  ⟨true, .other, 1, 8, [ZC.func]⟩,
  ⟨true, .other, 1, 8, [ZC.func]⟩,
  ⟨true, .other, 1, 8, [ZC.func]⟩,
  ⟨true, .other, 1, 8, [ZC.func]⟩,
  ⟨true, .other, 1, 8, [ZC.func]⟩,
  ⟨true, .other, 1, 8, [ZC.func]⟩,
  ⟨true, .other, 1, 8, [ZC.func]⟩,
  ⟨true, .slice 426, 1, 24, [ZC.slice]⟩,
  ⟨true, .array 5 210, 5, 120, [ZC.slice, ZC.slice, ZC.slice, ZC.slice, ZC.slice]⟩,
  ⟨true, .struct [(0, 5, 211)], 5, 120, [ZC.slice, ZC.slice, ZC.slice, ZC.slice, ZC.slice]⟩,
  ⟨true, .struct [(0, 5, 211)], 5, 120, [ZC.slice, ZC.slice, ZC.slice, ZC.slice, ZC.slice]⟩,
  ⟨false, .other, 0, 0, []⟩,
  ⟨true, .other, 1, 8, [ZC.func]⟩,
  ⟨true, .other, 1, 8, [ZC.func]⟩,
  ⟨true, .other, 1, 8, [ZC.func]⟩,
  ⟨true, .other, 1, 8, [ZC.func]⟩,
  ⟨true, .other, 1, 8, [ZC.func]⟩,
  ⟨true, .other, 1, 8, [ZC.func]⟩,
  ⟨true, .struct [(0, 1, 3), (1, 1, 3), (2, 1, 3), (3, 1, 3)], 4, 32, [ZC.int .i64, ZC.int .i64, ZC.int .i64, ZC.int .i64]⟩,
  ⟨true, .struct [(0, 1, 3), (1, 1, 3), (2, 1, 3), (3, 1, 3)], 4, 32, [ZC.int .i64, ZC.int .i64, ZC.int .i64, ZC.int .i64]⟩,
  ⟨true, .other, 1, 8, [ZC.func]⟩,
  ⟨false, .other, 0, 0, []⟩,
  ⟨true, .other, 1, 8, [ZC.func]⟩,
  ⟨true, .other, 1, 8, [ZC.func]⟩,
  ⟨true, .other, 1, 8, [ZC.func]⟩,
  ⟨true, .struct [(0, 8, 40), (8, 1, 3)], 9, 64, [ZC.int .i64, ZC.int .i64, ZC.int .i64, ZC.int .i64, ZC.int .i64, ZC.int .i64, ZC.bool, ZC.bool, ZC.int .i64]⟩,
  ⟨true, .struct [(0, 8, 40), (8, 1, 3)], 9, 64, [ZC.int .i64, ZC.int .i64, ZC.int .i64, ZC.int .i64, ZC.int .i64, ZC.int .i64, ZC.bool, ZC.bool, ZC.int .i64]⟩,
  ⟨true, .other, 1, 8, [ZC.func]⟩,
  ⟨true, .other, 1, 8, [ZC.func]⟩,
  ⟨true, .other, 1, 8, [ZC.func]⟩,
  ⟨true, .other, 1, 8, [ZC.func]⟩,
  ⟨true, .other, 1, 8, [ZC.func]⟩,
  ⟨true, .other, 1, 8, [ZC.func]⟩,
  ⟨true, .other, 1, 8, [ZC.func]⟩,
  ⟨true, .other, 1, 8, [ZC.func]⟩,
  ⟨true, .other, 1, 8, [ZC.func]⟩,
  ⟨true, .other, 1, 8, [ZC.func]⟩,
  ⟨true, .other, 1, 8, [ZC.func]⟩,
  ⟨true, .other, 1, 8, [ZC.func]⟩,
  ⟨true, .slice 40, 1, 24, [ZC.slice]⟩,
  ⟨false, .other, 0, 0, []⟩,
  ⟨true, .other, 1, 8, [ZC.func]⟩,
  ⟨true, .other, 1, 8, [ZC.func]⟩,
  ⟨true, .other, 1, 8, [ZC.func]⟩,
  ⟨true, .other, 1, 8, [ZC.func]⟩,
  ⟨true, .other, 1, 8, [ZC.func]⟩,
  ⟨false, .other, 0, 0, []⟩,
  ⟨true, .other, 1, 8, [ZC.func]⟩,
  ⟨false, .other, 0, 0, []⟩,
  ⟨true, .other, 1, 8, [ZC.func]⟩,
  ⟨false, .other, 0, 0, []⟩,
  ⟨true, .other, 1, 8, [ZC.func]⟩,
  ⟨true, .other, 1, 8, [ZC.func]⟩,
  ⟨true, .other, 1, 8, [ZC.func]⟩,
  ⟨true, .other, 1, 8, [ZC.func]⟩,
  ⟨true, .other, 1, 8, [ZC.func]⟩,
  ⟨false, .other, 0, 0, []⟩,
  ⟨true, .other, 1, 8, [ZC.func]⟩,
  ⟨true, .other, 1, 8, [ZC.func]⟩,
  ⟨true, .slice 181, 1, 24, [ZC.slice]⟩,
  ⟨true, .int .u64, 1, 8, [ZC.int .u64]⟩,
  ⟨true, .other, 1, 8, [ZC.ptr]⟩,
  ⟨true, .other, 1, 8, [ZC.func]⟩,
  ⟨true, .other, 1, 8, [ZC.ptr]⟩,
  ⟨true, .other, 1, 8, [ZC.func]⟩,
  ⟨true, .other, 1, 8, [ZC.ptr]⟩,
  ⟨true, .other, 1, 8, [ZC.func]⟩,
  ⟨true, .other, 1, 8, [ZC.ptr]⟩,
  ⟨true, .other, 1, 8, [ZC.ptr]⟩,
  ⟨true, .other, 1, 8, [ZC.func]⟩,
  ⟨true, .other, 1, 8, [ZC.ptr]⟩,
  ⟨true, .other, 1, 8, [ZC.func]⟩,
  ⟨true, .other, 1, 8, [ZC.ptr]⟩,
  ⟨true, .other, 1, 8, [ZC.func]⟩,
  ⟨true, .other, 1, 8, [ZC.ptr]⟩,
  ⟨true, .other, 1, 8, [ZC.func]⟩,
  ⟨true, .other, 1, 8, [ZC.ptr]⟩,
  ⟨true, .other, 1, 8, [ZC.func]⟩,
  ⟨true, .other, 1, 8, [ZC.ptr]⟩,
  ⟨true, .other, 1, 8, [ZC.ptr]⟩,
  ⟨true, .other, 1, 8, [ZC.func]⟩,
  ⟨true, .other, 1, 8, [ZC.func]⟩,
  ⟨true, .slice 287, 1, 24, [ZC.slice]⟩,
  ⟨true, .struct [(0, 1, 3), (1, 1, 3), (2, 1, 3), (3, 1, 285)], 4, 48, [ZC.int .i64, ZC.int .i64, ZC.int .i64, ZC.slice]⟩,
  ⟨true, .struct [(0, 1, 3), (1, 1, 3), (2, 1, 3), (3, 1, 285)], 4, 48, [ZC.int .i64, ZC.int .i64, ZC.int .i64, ZC.slice]⟩,
  ⟨true, .struct [(0, 1, 3), (1, 1, 3), (2, 1, 3), (3, 4, 287), (7, 4, 287), (11, 1, 104), (12, 1, 104)], 13, 168, [ZC.int .i64, ZC.int .i64, ZC.int .i64, ZC.int .i64, ZC.int .i64, ZC.int .i64, ZC.slice, ZC.int .i64, ZC.int .i64, ZC.int .i64, ZC.slice, ZC.slice, ZC.slice]⟩,
  ⟨true, .struct [(0, 1, 3), (1, 1, 3), (2, 1, 3), (3, 4, 287), (7, 4, 287), (11, 1, 104), (12, 1, 104)], 13, 168, [ZC.int .i64, ZC.int .i64, ZC.int .i64, ZC.int .i64, ZC.int .i64, ZC.int .i64, ZC.slice, ZC.int .i64, ZC.int .i64, ZC.int .i64, ZC.slice, ZC.slice, ZC.slice]⟩,
  ⟨true, .other, 1, 8, [ZC.ptr]⟩,
  ⟨true, .other, 1, 8, [ZC.func]⟩,
  ⟨true, .other, 1, 8, [ZC.ptr]⟩,
  ⟨true, .other, 1, 8, [ZC.func]⟩,
  ⟨true, .other, 1, 8, [ZC.func]⟩,
  ⟨true, .other, 1, 8, [ZC.func]⟩,
  ⟨true, .other, 1, 8, [ZC.func]⟩,
  ⟨true, .array 8 4, 8, 8, [ZC.bool, ZC.bool, ZC.bool, ZC.bool, ZC.bool, ZC.bool, ZC.bool, ZC.bool]⟩,
  ⟨true, .other, 1, 8, [ZC.func]⟩,
  ⟨true, .other, 1, 8, [ZC.func]⟩,
  ⟨true, .other, 1, 8, [ZC.func]⟩,
  ⟨true, .other, 1, 8, [ZC.func]⟩,
  ⟨true, .other, 1, 8, [ZC.func]⟩,
  ⟨true, .struct [(0, 1, 210)], 1, 24, [ZC.slice]⟩,
  ⟨true, .struct [(0, 1, 210)], 1, 24, [ZC.slice]⟩,
  ⟨true, .other, 1, 8, [ZC.func]⟩,
  ⟨true, .other, 1, 8, [ZC.func]⟩,
  ⟨true, .other, 1, 8, [ZC.func]⟩,
  ⟨true, .other, 1, 8, [ZC.func]⟩,
  ⟨true, .other, 1, 8, [ZC.func]⟩,
  ⟨true, .other, 1, 8, [ZC.func]⟩,
  ⟨false, .other, 0, 0, []⟩,
  ⟨true, .other, 1, 8, [ZC.func]⟩,
  ⟨true, .other, 1, 8, [ZC.func]⟩,
  ⟨true, .other, 1, 8, [ZC.func]⟩,
  ⟨true, .other, 1, 8, [ZC.func]⟩,
  ⟨true, .other, 1, 8, [ZC.func]⟩,
  ⟨true, .slice 66, 1, 24, [ZC.slice]⟩,
  ⟨true, .other, 1, 8, [ZC.func]⟩,
  ⟨true, .slice 4, 1, 24, [ZC.slice]⟩,
  ⟨false, .other, 0, 0, []⟩,
  ⟨true, .other, 1, 8, [ZC.func]⟩,
  ⟨false, .other, 0, 0, []⟩,
  ⟨true, .other, 1, 8, [ZC.func]⟩,
  ⟨true, .other, 1, 8, [ZC.func]⟩,
  ⟨true, .other, 1, 8, [ZC.func]⟩,
  ⟨true, .other, 1, 8, [ZC.func]⟩,
  ⟨true, .other, 1, 8, [ZC.func]⟩,
  ⟨false, .other, 0, 0, []⟩,
  ⟨true, .other, 1, 8, [ZC.func]⟩,
  ⟨true, .other, 1, 8, [ZC.ptr]⟩,
  ⟨true, .struct [(0, 27, 117), (27, 1, 242)], 28, 248, [ZC.int .i64, ZC.int .i64, ZC.int .i64, ZC.int .i64, ZC.int .i64, ZC.int .i64, ZC.int .i64, ZC.slice, ZC.arr .i64 8, ZC.int .u64, ZC.bool, ZC.int .i64, ZC.int .i64, ZC.int .i64, ZC.int .i64, ZC.int .i64, ZC.int .i64, ZC.bool, ZC.bool, ZC.int .i64, ZC.slice]⟩,
  ⟨true, .struct [(0, 27, 117), (27, 1, 242)], 28, 248, [ZC.int .i64, ZC.int .i64, ZC.int .i64, ZC.int .i64, ZC.int .i64, ZC.int .i64, ZC.int .i64, ZC.slice, ZC.arr .i64 8, ZC.int .u64, ZC.bool, ZC.int .i64, ZC.int .i64, ZC.int .i64, ZC.int .i64, ZC.int .i64, ZC.int .i64, ZC.bool, ZC.bool, ZC.int .i64, ZC.slice]⟩,
  ⟨true, .other, 1, 8, [ZC.func]⟩,
  ⟨true, .other, 1, 8, [ZC.func]⟩,
  ⟨true, .other, 1, 8, [ZC.func]⟩,
  ⟨true, .other, 1, 8, [ZC.func]⟩,
  ⟨true, .other, 1, 8, [ZC.func]⟩,
  ⟨true, .other, 1, 8, [ZC.func]⟩,
  ⟨true, .other, 1, 8, [ZC.ptr]⟩,
  ⟨false, .other, 0, 0, []⟩,
  ⟨true, .other, 1, 8, [ZC.func]⟩,
  ⟨true, .struct [(0, 7, 151), (7, 9, 107), (16, 5, 213)], 21, 384, [ZC.slice, ZC.int .i64, ZC.slice, ZC.int .i64, ZC.int .i64, ZC.int .i64, ZC.int .i64, ZC.str, ZC.slice, ZC.slice, ZC.slice, ZC.slice, ZC.slice, ZC.slice, ZC.int .i64, ZC.int .i64, ZC.slice, ZC.slice, ZC.slice, ZC.slice, ZC.slice]⟩,
  ⟨true, .struct [(0, 7, 151), (7, 9, 107), (16, 5, 213)], 21, 384, [ZC.slice, ZC.int .i64, ZC.slice, ZC.int .i64, ZC.int .i64, ZC.int .i64, ZC.int .i64, ZC.str, ZC.slice, ZC.slice, ZC.slice, ZC.slice, ZC.slice, ZC.slice, ZC.int .i64, ZC.int .i64, ZC.slice, ZC.slice, ZC.slice, ZC.slice, ZC.slice]⟩,
  ⟨true, .struct [(0, 1, 3), (1, 1, 3)], 2, 16, [ZC.int .i64, ZC.int .i64]⟩,
  ⟨true, .struct [(0, 1, 3), (1, 1, 3)], 2, 16, [ZC.int .i64, ZC.int .i64]⟩,
  ⟨true, .slice 345, 1, 24, [ZC.slice]⟩,
  ⟨true, .other, 1, 8, [ZC.func]⟩,
  ⟨true, .other, 1, 8, [ZC.ptr]⟩,
  ⟨true, .array 4 3, 4, 32, [ZC.arr .i64 4]⟩,
  ⟨true, .struct [(0, 1, 3), (1, 4, 349)], 5, 40, [ZC.int .i64, ZC.arr .i64 4]⟩,
  ⟨true, .struct [(0, 1, 3), (1, 4, 349)], 5, 40, [ZC.int .i64, ZC.arr .i64 4]⟩,
  ⟨false, .other, 0, 0, []⟩,
  ⟨true, .other, 1, 8, [ZC.func]⟩,
  ⟨true, .other, 1, 8, [ZC.func]⟩,
  ⟨true, .other, 1, 8, [ZC.ptr]⟩,
  ⟨true, .other, 1, 8, [ZC.ptr]⟩,
  ⟨true, .other, 1, 8, [ZC.func]⟩,
  ⟨true, .other, 1, 8, [ZC.ptr]⟩,
  ⟨true, .other, 1, 8, [ZC.func]⟩,
  ⟨true, .other, 1, 8, [ZC.func]⟩,
  ⟨true, .slice 268, 1, 24, [ZC.slice]⟩,
  ⟨true, .other, 1, 8, [ZC.func]⟩,
  ⟨true, .other, 1, 8, [ZC.func]⟩,
  ⟨true, .other, 1, 8, [ZC.func]⟩,
  ⟨true, .other, 1, 8, [ZC.ptr]⟩,
  ⟨true, .other, 1, 8, [ZC.ptr]⟩,
  ⟨true, .other, 1, 8, [ZC.func]⟩,
  ⟨true, .other, 1, 8, [ZC.func]⟩,
  ⟨true, .other, 1, 8, [ZC.ptr]⟩,
  ⟨true, .other, 1, 8, [ZC.ptr]⟩,
  ⟨true, .other, 1, 8, [ZC.func]⟩,
  ⟨true, .other, 1, 8, [ZC.ptr]⟩,
  ⟨true, .other, 1, 8, [ZC.func]⟩,
  ⟨true, .other, 1, 8, [ZC.ptr]⟩,
  ⟨true, .other, 1, 8, [ZC.func]⟩,
  ⟨true, .other, 1, 8, [ZC.func]⟩,
  ⟨true, .other, 1, 8, [ZC.func]⟩,
  ⟨false, .map 9 4, 0, 0, []⟩,
  ⟨true, .other, 1, 8, [ZC.func]⟩,
  ⟨true, .other, 1, 8, [ZC.func]⟩,
  ⟨true, .other, 1, 8, [ZC.ptr]⟩,
  ⟨true, .other, 1, 8, [ZC.func]⟩,
  ⟨true, .other, 1, 8, [ZC.func]⟩,
  ⟨true, .other, 1, 8, [ZC.func]⟩,
  ⟨true, .other, 1, 8, [ZC.func]⟩,
  ⟨true, .other, 1, 8, [ZC.func]⟩,
  ⟨true, .struct [(0, 1, 3), (1, 1, 309), (2, 1, 385), (3, 1, 386)], 4, 32, [ZC.int .i64, ZC.func, ZC.func, ZC.func]⟩,
  ⟨true, .struct [(0, 1, 3), (1, 1, 309), (2, 1, 385), (3, 1, 386)], 4, 32, [ZC.int .i64, ZC.func, ZC.func, ZC.func]⟩,
  ⟨false, .other, 0, 0, []⟩,
  ⟨true, .other, 1, 8, [ZC.func]⟩,
  ⟨true, .other, 1, 8, [ZC.func]⟩,
  ⟨true, .other, 1, 8, [ZC.func]⟩,
  ⟨true, .struct [(0, 1, 3), (1, 1, 3), (2, 1, 3)], 3, 24, [ZC.int .i64, ZC.int .i64, ZC.int .i64]⟩,
  ⟨true, .struct [(0, 1, 3), (1, 1, 3), (2, 1, 3)], 3, 24, [ZC.int .i64, ZC.int .i64, ZC.int .i64]⟩,
  ⟨false, .other, 0, 0, []⟩,
  ⟨true, .other, 1, 8, [ZC.func]⟩,
  ⟨true, .other, 1, 8, [ZC.func]⟩,
  ⟨true, .other, 1, 8, [ZC.func]⟩,
  ⟨true, .other, 1, 8, [ZC.func]⟩,
  ⟨true, .other, 1, 8, [ZC.func]⟩,
  ⟨true, .other, 1, 8, [ZC.func]⟩,
  ⟨false, .other, 0, 0, []⟩,
  ⟨true, .other, 1, 8, [ZC.func]⟩,
  ⟨true, .other, 1, 8, [ZC.func]⟩,
  ⟨true, .other, 1, 8, [ZC.func]⟩,
  ⟨false, .other, 0, 0, []⟩,
  ⟨false, .other, 0, 0, []⟩,
  ⟨true, .other, 1, 8, [ZC.func]⟩,
  ⟨true, .other, 1, 8, [ZC.ptr]⟩,
  ⟨false, .other, 0, 0, []⟩,
  ⟨true, .other, 1, 8, [ZC.func]⟩,
  ⟨true, .array 64 3, 64, 512, [ZC.arr .i64 64]⟩,
  ⟨true, .struct [(0, 1, 103), (1, 1, 26), (2, 4, 349), (6, 64, 412), (70, 1, 3), (71, 1, 3), (72, 1, 3)], 73, 616, [ZC.slice, ZC.slice, ZC.arr .i64 4, ZC.arr .i64 64, ZC.int .i64, ZC.int .i64, ZC.int .i64]⟩,
  ⟨true, .struct [(0, 1, 103), (1, 1, 26), (2, 4, 349), (6, 64, 412), (70, 1, 3), (71, 1, 3), (72, 1, 3)], 73, 616, [ZC.slice, ZC.slice, ZC.arr .i64 4, ZC.arr .i64 64, ZC.int .i64, ZC.int .i64, ZC.int .i64]⟩,
  ⟨true, .other, 1, 8, [ZC.func]⟩,
  ⟨true, .other, 1, 8, [ZC.ptr]⟩,
  ⟨true, .slice 419, 1, 24, [ZC.slice]⟩,
  ⟨true, .struct [(0, 1, 3), (1, 1, 9), (2, 1, 3), (3, 1, 3), (4, 1, 3), (5, 1, 417)], 6, 72, [ZC.int .i64, ZC.str, ZC.int .i64, ZC.int .i64, ZC.int .i64, ZC.slice]⟩,
  ⟨true, .struct [(0, 1, 3), (1, 1, 9), (2, 1, 3), (3, 1, 3), (4, 1, 3), (5, 1, 417)], 6, 72, [ZC.int .i64, ZC.str, ZC.int .i64, ZC.int .i64, ZC.int .i64, ZC.slice]⟩,
  ⟨true, .other, 1, 8, [ZC.func]⟩,
  ⟨true, .other, 1, 8, [ZC.ptr]⟩,
  ⟨false, .other, 0, 0, []⟩,
  ⟨true, .other, 1, 8, [ZC.func]⟩,
  ⟨true, .other, 1, 8, [ZC.func]⟩,
  ⟨true, .struct [(0, 1, 3), (1, 1, 3), (2, 1, 3)], 3, 24, [ZC.int .i64, ZC.int .i64, ZC.int .i64]⟩,
  ⟨true, .struct [(0, 1, 3), (1, 1, 3), (2, 1, 3)], 3, 24, [ZC.int .i64, ZC.int .i64, ZC.int .i64]⟩,
  ⟨true, .array 11 3, 11, 88, [ZC.arr .i64 11]⟩,
  ⟨true, .array 7 388, 28, 224, [ZC.int .i64, ZC.func, ZC.func, ZC.func, ZC.int .i64, ZC.func, ZC.func, ZC.func, ZC.int .i64, ZC.func, ZC.func, ZC.func, ZC.int .i64, ZC.func, ZC.func, ZC.func, ZC.int .i64, ZC.func, ZC.func, ZC.func, ZC.int .i64, ZC.func, ZC.func, ZC.func, ZC.int .i64, ZC.func, ZC.func, ZC.func]⟩,
  ⟨true, .other, 1, 8, [ZC.func]⟩,
  ⟨true, .other, 1, 8, [ZC.func]⟩,
  ⟨true, .other, 1, 8, [ZC.func]⟩,
  ⟨true, .other, 1, 8, [ZC.func]⟩,
  ⟨true, .other, 1, 8, [ZC.func]⟩,
  ⟨true, .other, 1, 8, [ZC.func]⟩,
  ⟨true, .struct [(0, 2, 149)], 2, 16, [ZC.int .i64, ZC.int .i64]⟩,
  ⟨true, .struct [(0, 2, 149)], 2, 16, [ZC.int .i64, ZC.int .i64]⟩,
  ⟨true, .other, 1, 8, [ZC.func]⟩,
  ⟨true, .other, 1, 8, [ZC.func]⟩,
  ⟨true, .other, 1, 8, [ZC.func]⟩,
  ⟨true, .other, 1, 8, [ZC.func]⟩,
  ⟨false, .other, 0, 0, []⟩,
  ⟨true, .other, 1, 8, [ZC.func]⟩,
  ⟨true, .other, 1, 8, [ZC.func]⟩,
  ⟨true, .other, 1, 8, [ZC.func]⟩,
  ⟨true, .other, 1, 8, [ZC.func]⟩,
  ⟨true, .other, 1, 8, [ZC.func]⟩,
  ⟨true, .other, 1, 8, [ZC.func]⟩,
  ⟨true, .slice 451, 1, 24, [ZC.slice]⟩,
  ⟨true, .struct [(0, 1, 448)], 1, 24, [ZC.slice]⟩,
  ⟨true, .struct [(0, 1, 448)], 1, 24, [ZC.slice]⟩,
  ⟨true, .array 3 3, 3, 24, [ZC.arr .i64 3]⟩,
  ⟨false, .other, 0, 0, []⟩,
  ⟨true, .other, 1, 8, [ZC.func]⟩,
  ⟨true, .other, 1, 8, [ZC.func]⟩,
  ⟨true, .other, 1, 8, [ZC.func]⟩,
  ⟨true, .other, 1, 8, [ZC.func]⟩,
  ⟨true, .other, 1, 8, [ZC.func]⟩,
  ⟨true, .slice 27, 1, 24, [ZC.slice]⟩,
  ⟨true, .other, 1, 8, [ZC.func]⟩,
  ⟨true, .other, 1, 8, [ZC.func]⟩,
  ⟨true, .other, 1, 8, [ZC.func]⟩,
  ⟨true, .other, 1, 8, [ZC.func]⟩,
  ⟨true, .other, 1, 8, [ZC.func]⟩,
  ⟨true, .array 5 451, 15, 120, [ZC.arr .i64 3, ZC.arr .i64 3, ZC.arr .i64 3, ZC.arr .i64 3, ZC.arr .i64 3]⟩,
  ⟨true, .other, 1, 8, [ZC.func]⟩,
  ⟨true, .other, 1, 8, [ZC.func]⟩,
  ⟨true, .other, 1, 8, [ZC.func]⟩,
  ⟨true, .struct [(0, 15, 114)], 15, 136, [ZC.int .i64, ZC.int .i64, ZC.int .i64, ZC.int .i64, ZC.int .i64, ZC.slice, ZC.arr .i64 8, ZC.int .u64]⟩,
  ⟨true, .struct [(0, 15, 114)], 15, 136, [ZC.int .i64, ZC.int .i64, ZC.int .i64, ZC.int .i64, ZC.int .i64, ZC.slice, ZC.arr .i64 8, ZC.int .u64]⟩,
  ⟨true, .other, 1, 8, [ZC.func]⟩,
  ⟨true, .other, 1, 8, [ZC.func]⟩,
  ⟨true, .other, 1, 8, [ZC.func]⟩,
  ⟨true, .other, 1, 8, [ZC.ptr]⟩,
  ⟨true, .struct [(0, 15, 114)], 15, 136, [ZC.int .i64, ZC.int .i64, ZC.int .i64, ZC.int .i64, ZC.int .i64, ZC.slice, ZC.arr .i64 8, ZC.int .u64]⟩,
  ⟨false, .other, 0, 0, []⟩,
  ⟨true, .other, 1, 8, [ZC.func]⟩,
  ⟨true, .other, 1, 8, [ZC.ptr]⟩,
  ⟨false, .other, 0, 0, []⟩,
  ⟨true, .other, 1, 8, [ZC.func]⟩,
  ⟨true, .struct [(0, 15, 114), (15, 1, 3)], 16, 144, [ZC.int .i64, ZC.int .i64, ZC.int .i64, ZC.int .i64, ZC.int .i64, ZC.slice, ZC.arr .i64 8, ZC.int .u64, ZC.int .i64]⟩,
  ⟨true, .struct [(0, 15, 114), (15, 1, 3)], 16, 144, [ZC.int .i64, ZC.int .i64, ZC.int .i64, ZC.int .i64, ZC.int .i64, ZC.slice, ZC.arr .i64 8, ZC.int .u64, ZC.int .i64]⟩,
  ⟨true, .other, 1, 8, [ZC.func]⟩,
  ⟨true, .other, 1, 8, [ZC.ptr]⟩,
  ⟨true, .struct [(0, 15, 114)], 15, 136, [ZC.int .i64, ZC.int .i64, ZC.int .i64, ZC.int .i64, ZC.int .i64, ZC.slice, ZC.arr .i64 8, ZC.int .u64]⟩,
  ⟨false, .other, 0, 0, []⟩,
  ⟨true, .other, 1, 8, [ZC.func]⟩,
  ⟨false, .other, 0, 0, []⟩,
  ⟨true, .other, 1, 8, [ZC.func]⟩,
  ⟨true, .other, 1, 8, [ZC.func]⟩,
  ⟨true, .other, 1, 8, [ZC.func]⟩,
  ⟨false, .other, 0, 0, []⟩,
  ⟨true, .other, 1, 8, [ZC.func]⟩,
  ⟨true, .other, 1, 8, [ZC.func]⟩,
  ⟨true, .other, 1, 8, [ZC.func]⟩,
  ⟨true, .other, 1, 8, [ZC.ptr]⟩,
  ⟨false, .other, 0, 0, []⟩,
  ⟨true, .other, 1, 8, [ZC.func]⟩,
  ⟨true, .array 2 110, 2, 48, [ZC.slice, ZC.slice]⟩,
  ⟨true, .struct [(0, 15, 114), (15, 2, 498), (17, 1, 3), (18, 1, 242)], 19, 216, [ZC.int .i64, ZC.int .i64, ZC.int .i64, ZC.int .i64, ZC.int .i64, ZC.slice, ZC.arr .i64 8, ZC.int .u64, ZC.slice, ZC.slice, ZC.int .i64, ZC.slice]⟩,
  ⟨true, .struct [(0, 15, 114), (15, 2, 498), (17, 1, 3), (18, 1, 242)], 19, 216, [ZC.int .i64, ZC.int .i64, ZC.int .i64, ZC.int .i64, ZC.int .i64, ZC.slice, ZC.arr .i64 8, ZC.int .u64, ZC.slice, ZC.slice, ZC.int .i64, ZC.slice]⟩,
  ⟨true, .other, 1, 8, [ZC.func]⟩,
  ⟨true, .other, 1, 8, [ZC.func]⟩,
  ⟨false, .other, 0, 0, []⟩,
  ⟨true, .struct [(0, 1, 3), (1, 1, 3)], 2, 16, [ZC.int .i64, ZC.int .i64]⟩,
  ⟨true, .struct [(0, 1, 3), (1, 1, 3)], 2, 16, [ZC.int .i64, ZC.int .i64]⟩,
  ⟨true, .array 14 505, 28, 224, [ZC.int .i64, ZC.int .i64, ZC.int .i64, ZC.int .i64, ZC.int .i64, ZC.int .i64, ZC.int .i64, ZC.int .i64, ZC.int .i64, ZC.int .i64, ZC.int .i64, ZC.int .i64, ZC.int .i64, ZC.int .i64, ZC.int .i64, ZC.int .i64, ZC.int .i64, ZC.int .i64, ZC.int .i64, ZC.int .i64, ZC.int .i64, ZC.int .i64, ZC.int .i64, ZC.int .i64, ZC.int .i64, ZC.int .i64, ZC.int .i64, ZC.int .i64]⟩,
  ⟨true, .other, 1, 8, [ZC.func]⟩,
  ⟨true, .other, 1, 8, [ZC.func]⟩,
  ⟨true, .array 7 4, 7, 7, [ZC.bool, ZC.bool, ZC.bool, ZC.bool, ZC.bool, ZC.bool, ZC.bool]⟩,
  ⟨true, .other, 1, 8, [ZC.func]⟩,
  ⟨true, .array 7 3, 7, 56, [ZC.arr .i64 7]⟩,
  ⟨true, .other, 1, 8, [ZC.func]⟩,
  ⟨true, .other, 1, 8, [ZC.func]⟩,
  ⟨true, .other, 1, 8, [ZC.func]⟩,
  ⟨true, .other, 1, 8, [ZC.func]⟩,
  ⟨true, .other, 1, 8, [ZC.ptr]⟩,
  ⟨false, .other, 0, 0, []⟩,
  ⟨true, .other, 1, 8, [ZC.func]⟩,
  ⟨true, .other, 1, 8, [ZC.func]⟩,
  ⟨true, .other, 1, 8, [ZC.func]⟩,
  ⟨true, .other, 1, 8, [ZC.func]⟩,
  ⟨true, .other, 1, 8, [ZC.func]⟩,
  ⟨true, .other, 1, 8, [ZC.func]⟩,
  ⟨true, .struct [(0, 1, 263), (1, 1, 43)], 2, 16, [ZC.int .u64, ZC.int .u64]⟩,
  ⟨true, .array 3 524, 6, 48, [ZC.int .u64, ZC.int .u64, ZC.int .u64, ZC.int .u64, ZC.int .u64, ZC.int .u64]⟩,
  ⟨true, .other, 1, 8, [ZC.func]⟩,
  ⟨true, .slice 9, 1, 24, [ZC.slice]⟩,
  ⟨true, .other, 1, 8, [ZC.func]⟩,
  ⟨true, .struct [(0, 1, 17), (1, 1, 17), (2, 1, 17), (3, 1, 9)], 4, 40, [ZC.ptr, ZC.ptr, ZC.ptr, ZC.str]⟩,
  ⟨true, .struct [(0, 1, 17), (1, 1, 17), (2, 1, 17), (3, 1, 9)], 4, 40, [ZC.ptr, ZC.ptr, ZC.ptr, ZC.str]⟩,
  ⟨true, .array 0 16, 0, 0, []⟩,
  ⟨true, .struct [(0, 0, 531)], 0, 0, []⟩,
  ⟨true, .struct [(0, 0, 531)], 0, 0, []⟩,
  ⟨true, .int .u32, 1, 4, [ZC.int .u32]⟩,
  ⟨true, .int .u8, 1, 1, [ZC.int .u8]⟩,
  ⟨true, .int .u8, 1, 1, [ZC.int .u8]⟩,
  ⟨true, .other, 1, 8, [ZC.func]⟩,
  ⟨true, .int .i32, 1, 4, [ZC.int .i32]⟩,
  ⟨true, .int .i32, 1, 4, [ZC.int .i32]⟩,
  ⟨true, .struct [(0, 1, 12), (1, 1, 12), (2, 1, 534), (3, 1, 535), (4, 1, 5), (5, 1, 5), (6, 1, 536), (7, 1, 537), (8, 1, 370), (9, 1, 538), (10, 1, 539)], 11, 48, [ZC.int .u64, ZC.int .u64, ZC.int .u32, ZC.int .u8, ZC.int .u8, ZC.int .u8, ZC.int .u8, ZC.func, ZC.ptr, ZC.int .i32, ZC.int .i32]⟩,
  ⟨true, .struct [(0, 1, 12), (1, 1, 12), (2, 1, 534), (3, 1, 535), (4, 1, 5), (5, 1, 5), (6, 1, 536), (7, 1, 537), (8, 1, 370), (9, 1, 538), (10, 1, 539)], 11, 48, [ZC.int .u64, ZC.int .u64, ZC.int .u32, ZC.int .u8, ZC.int .u8, ZC.int .u8, ZC.int .u8, ZC.func, ZC.ptr, ZC.int .i32, ZC.int .i32]⟩,
  ⟨true, .other, 1, 8, [ZC.func]⟩,
  ⟨false, .other, 0, 0, []⟩,
  ⟨true, .struct [(0, 1, 3), (1, 1, 3), (2, 1, 3)], 3, 24, [ZC.int .i64, ZC.int .i64, ZC.int .i64]⟩,
  ⟨true, .struct [(0, 1, 3), (1, 1, 3), (2, 1, 3)], 3, 24, [ZC.int .i64, ZC.int .i64, ZC.int .i64]⟩]
def ti (t : Nat) : TI := (nthL tis t).getD ⟨false, .other, 0, 0, []⟩
noncomputable def fns : List Func := [Tryz.f3, Tryz.f4, Tryz.f5, Tryz.f6, Tryz.f7, Tryz.f8, Tryz.f9, Tryz.f10, Tryz.f11, Tryz.f12, Tryz.f13, Tryz.f14, Tryz.f15, Tryz.f16, Tryz.f17, Tryz.f18, Tryz.f19, Tryz.f20, Tryz.f21, Tryz.f22, Tryz.f23, Tryz.f24, Tryz.f25, Tryz.f26, Tryz.f27, Tryz.f28, Tryz.f29, Tryz.f30, Tryz.f31, Tryz.f32, Tryz.f33, Tryz.f34, Tryz.f35, Tryz.f36, Tryz.f37, Tryz.f38, Tryz.f39, Tryz.f40, Tryz.f41, Tryz.f42, Tryz.f43, Tryz.f44, Tryz.f45, Tryz.f46, Tryz.f47, Tryz.f48, Tryz.f49, Tryz.f50, Tryz.f51, Tryz.f52, Tryz.f53, Tryz.f54, Tryz.f55, Tryz.f56, Tryz.f57, Tryz.f58, Tryz.f59, Tryz.f60, Tryz.f61, Tryz.f62, Tryz.f63, Tryz.f64, Tryz.f65, Tryz.f66, Tryz.f67, Tryz.f68, Tryz.f69, Tryz.f70, Tryz.f71, Tryz.f72, Tryz.f73, Tryz.f74, Tryz.f75, Tryz.f76, Tryz.f77, Tryz.f78, Tryz.f79, Tryz.f80, Tryz.f81, Tryz.f82, Tryz.f83, Tryz.f84, Tryz.f85, Tryz.f86, Tryz.f87, Tryz.f88, Tryz.f89, Tryz.f90, Tryz.f91, Tryz.f92, Tryz.f93, Tryz.f94, Tryz.f95, Tryz.f96, Tryz.f97, Tryz.f98, Tryz.f99, Tryz.f100, Tryz.f101, Tryz.f102, Tryz.f103, Tryz.f104, Tryz.f105, Tryz.f106, Tryz.f107, Tryz.f108, Tryz.f109, Tryz.f110, Tryz.f111, Tryz.f112, Tryz.f113, Tryz.f114, Tryz.f115, Tryz.f116, Tryz.f117, Tryz.f118, Tryz.f119, Tryz.f120, Tryz.f121, Tryz.f122, Tryz.f123, Tryz.f124, Tryz.f125, Tryz.f126, Tryz.f127, Tryz.f128, Tryz.f129, Tryz.f130, Tryz.f131, Tryz.f132, Tryz.f133, Tryz.f134, Tryz.f135, Tryz.f136, Tryz.f137, Tryz.f138, Tryz.f139, Tryz.f140, Tryz.f141, Tryz.f142, Tryz.f143, Tryz.f144, Tryz.f145, Tryz.f146, Tryz.f147, Tryz.f148, Tryz.f149, Tryz.f150, Tryz.f151, Tryz.f152, Tryz.f153, Tryz.f154, Tryz.f155, Tryz.f156, Tryz.f157, Tryz.f158, Tryz.f159, Tryz.f160, Tryz.f161, Tryz.f162, Tryz.f163, Tryz.f164, Tryz.f165, Tryz.f166, Tryz.f167, Tryz.f168, Tryz.f169, Tryz.f170, Tryz.f171, Tryz.f172, Tryz.f173, Tryz.f174, Tryz.f175, Tryz.f176, Tryz.f177, Tryz.f178, Tryz.f179, Tryz.f180, Tryz.f181, Tryz.f182, Tryz.f183, Tryz.f184, Tryz.f185, Tryz.f186, Tryz.f187, Tryz.f188, Tryz.f189, Tryz.f190, Tryz.f191, Tryz.f192, Tryz.f193, Tryz.f194, Tryz.f195, Tryz.f196, Tryz.f197, Tryz.f198, Tryz.f199, Tryz.f200, Tryz.f201, Tryz.f202, Tryz.f203, Tryz.f204, Tryz.f205, Tryz.f206, Tryz.f207, Tryz.f208, Tryz.f209, Tryz.f210, Tryz.f211, Tryz.f212, Tryz.f213, Tryz.f214, Tryz.f215, Tryz.f216, Tryz.f217, Tryz.f218, Tryz.f219, Tryz.f220, Tryz.f221, Tryz.f222, Tryz.f223, Tryz.f224, Tryz.f225, Tryz.f226, Tryz.f227, Tryz.f228, Tryz.f229, Tryz.f230, Tryz.f231, Tryz.f232, Tryz.f233, Tryz.f234, Tryz.f235, Tryz.f236, Tryz.f237, Tryz.f238, Tryz.f239, Tryz.f240, Tryz.f241, Tryz.f242, Tryz.f243, Tryz.f244, Tryz.f245, Tryz.f246, Tryz.f247, Tryz.f248, Tryz.f249, Tryz.f250, Tryz.f251, Tryz.f252, Tryz.f253, Tryz.f254, Tryz.f255, Tryz.f256, Tryz.f257, Tryz.f258, Tryz.f259, Tryz.f260, Tryz.f261, Tryz.f262, Tryz.f263, Tryz.f264, Tryz.f265, Tryz.f266, Tryz.f267, Tryz.f268, Tryz.f269, Tryz.f270, Tryz.f271, Tryz.f272, Tryz.f273, Tryz.f274, Tryz.f275, Tryz.f276, Tryz.f277, Tryz.f278, Tryz.f279, Tryz.f280, Tryz.f281, Tryz.f282, Tryz.f283, Tryz.f284, Tryz.f285, Tryz.f286, Tryz.f287, Tryz.f288, Tryz.f289, Tryz.f290, Tryz.f291, Tryz.f292, Tryz.f293, Tryz.f294, Tryz.f295, Tryz.f296, Tryz.f297, Tryz.f298, Tryz.f299, Tryz.f300, Tryz.f301, Tryz.f302, Tryz.f303, Tryz.f304, Tryz.f305, Tryz.f306, Tryz.f307, Tryz.f308, Tryz.f309, Tryz.f310, Tryz.f311, Tryz.f312, Tryz.f313, Tryz.f314, Tryz.f315, Tryz.f316, Tryz.f317, Tryz.f318, Tryz.f319, Tryz.f320, Tryz.f321, Tryz.f322, Tryz.f323, Tryz.f324, Tryz.f325, Tryz.f326, Tryz.f327, Tryz.f328, Tryz.f329, Tryz.f330, Tryz.f331, Tryz.f332, Tryz.f333, Tryz.f334, Tryz.f335, Tryz.f336, Tryz.f337, Tryz.f338, Tryz.f339, Tryz.f340, Tryz.f341, Tryz.f342, Tryz.f343, Tryz.f344, Tryz.f345, Tryz.f346, Tryz.f347, Tryz.f348, Tryz.f349, Tryz.f350, Tryz.f351, Tryz.f352, Tryz.f353, Tryz.f354, Tryz.f355, Tryz.f356, Tryz.f357, Tryz.f358, Tryz.f359, Tryz.f360, Tryz.f361, Tryz.f362, Tryz.f363, Tryz.f364, Tryz.f365, Tryz.f366, Tryz.f367, Tryz.f368, Tryz.f369, Tryz.f370, Tryz.f371, Tryz.f372, Tryz.f373, Tryz.f374, Tryz.f375, Tryz.f376, Tryz.f377, Tryz.f378, Tryz.f379, Tryz.f380, Tryz.f381, Tryz.f382, Tryz.f383, Tryz.f384, Tryz.f385, Tryz.f386, Tryz.f387, Tryz.f388, Tryz.f389, Tryz.f390, Tryz.f391, Tryz.f392, Tryz.f393, Tryz.f394, Tryz.f395, Tryz.f396, Tryz.f397, Tryz.f398, Tryz.f399, Tryz.f400, Tryz.f401, Tryz.f402, Tryz.f403, Tryz.f404, Tryz.f405, Tryz.f406, Tryz.f407, Tryz.f408, Tryz.f409, Tryz.f410, Tryz.f411, Tryz.f412, Tryz.f413, Tryz.f414, Tryz.f415, Tryz.f416, Tryz.f417, Tryz.f418, Tryz.f419, Tryz.f420, Tryz.f421, Tryz.f422, Tryz.f423, Tryz.f424, Tryz.f425, Tryz.f426, Tryz.f427, Tryz.f428, Tryz.f429]
noncomputable def fn (f : Nat) : Option Func := match Nat.ble 3 f with
  | true => nthL fns (f - 3)
  | false => none
def eqts : List Nat := [22, 34, 35, 40, 42, 60, 85, 86, 102, 109, 112, 149, 161, 163, 170, 222, 229, 345, 349, 351, 394, 412, 426, 427, 436, 451, 505, 511, 545]
def eqt (t : Nat) : Bool := memN eqts t
def koks : List Nat := [3, 4, 9, 34]
def kok (t : Nat) : Bool := koks.any (Nat.beq t)
theorem kok_mem {e : Nat} (h : kok e = true) : e = 3 ∨ e = 4 ∨ e = 9 ∨ e = 34 := by
  simp only [kok, koks, List.any_cons, List.any_nil, Bool.or_eq_true, Bool.or_false] at h
  rcases h with h | h | h | h
  · exact (.inl (Nat.eq_of_beq_eq_true h))
  · exact (.inr (.inl (Nat.eq_of_beq_eq_true h)))
  · exact (.inr (.inr (.inl (Nat.eq_of_beq_eq_true h))))
  · exact (.inr (.inr (.inr (Nat.eq_of_beq_eq_true h))))
def ints : Nat → Option IntKind
  | 3 => some .i64
  | 5 => some .u8
  | _ => none
def asL : ∀ e, List (T e) → List Int
  | 3, l => l
  | 5, l => l
  | _, _ => []
theorem ints_asL (e : Nat) (k : IntKind) (l : List (T e)) (h : ints e = some k) : l.flatMap (enc e) = (asL e l).map (SV.int k) ∧ (asL e l).length = l.length := by
  have one : ∀ (k : IntKind) (l : List Int), l.flatMap (fun x => [SV.int (T := T) k x]) = l.map (SV.int k) := by
    intro k l
    induction l with
    | nil => rfl
    | cons x r ih => rw [List.flatMap_cons, ih]; rfl
  unfold ints at h
  split at h
  · cases h; exact ⟨one _ l, rfl⟩
  · cases h; exact ⟨one _ l, rfl⟩
  · cases h
noncomputable def env : Env where
  ti := ti
  fn := fn
  T := T
  d := dflt
  enc := enc
  dec := dec
  sz := sz
  has := has
  eqt := eqt
  kok := kok
  ints := ints
  asL := asL
  enc_dec := enc_dec
  enc_sz := enc_sz
  enc_data := enc_data
  ints_asL := ints_asL
def v3 (x : Int) : SV T := .int .i64 x
def u3 : SV T → Option Int := gI .i64
theorem u3_wk {s : SV T} {x : Int} (h : u3 s = some x) : WkV has s (v3 x) := by rw [gI_spec h]; exact .same _
def v4 (x : Bool) : SV T := .bool x
def u4 : SV T → Option Bool := gB
theorem u4_wk {s : SV T} {x : Bool} (h : u4 s = some x) : WkV has s (v4 x) := by rw [gB_spec h]; exact .same _
def v5 (x : Int) : SV T := .int .u8 x
def u5 : SV T → Option Int := gI .u8
theorem u5_wk {s : SV T} {x : Int} (h : u5 s = some x) : WkV has s (v5 x) := by rw [gI_spec h]; exact .same _
def v8 (x : boundsError) : SV T := .agg (encboundsError x)
def u8 (s : SV T) : Option boundsError := match s with | .agg cs => decboundsError cs | _ => none
theorem u8_wk {s : SV T} {x : boundsError} (h : u8 s = some x) : WkV has s (v8 x) := by
  unfold u8 at h; split at h
  · exact .agg (encboundsError_dec (by decide) _ _ h)
  · cases h
def v9 (x : ByteArray) : SV T := .str x
def u9 : SV T → Option ByteArray := gS
theorem u9_wk {s : SV T} {x : ByteArray} (h : u9 s = some x) : WkV has s (v9 x) := by rw [gS_spec h]; exact .same _
def v10 (x : ByteArray) : SV T := .str x
def u10 : SV T → Option ByteArray := gS
theorem u10_wk {s : SV T} {x : ByteArray} (h : u10 s = some x) : WkV has s (v10 x) := by rw [gS_spec h]; exact .same _
def v11 (x : ByteArray) : SV T := .str x
def u11 : SV T → Option ByteArray := gS
theorem u11_wk {s : SV T} {x : ByteArray} (h : u11 s = some x) : WkV has s (v11 x) := by rw [gS_spec h]; exact .same _
def v14 (x : errorAddressString) : SV T := .agg (encerrorAddressString x)
def u14 (s : SV T) : Option errorAddressString := match s with | .agg cs => decerrorAddressString cs | _ => none
theorem u14_wk {s : SV T} {x : errorAddressString} (h : u14 s = some x) : WkV has s (v14 x) := by
  unfold u14 at h; split at h
  · exact .agg (encerrorAddressString_dec (by decide) _ _ h)
  · cases h
def v22 (x : List Int) : SV T := .agg [.arr .i64 6 x]
def u22 (s : SV T) : Option (List Int) := match s with | .agg [c] => gA .i64 6 c | _ => none
theorem u22_wk {s : SV T} {x : List Int} (h : u22 s = some x) : WkV has s (v22 x) := by
  unfold u22 at h; split at h
  · rw [gA_spec h]; exact .same _
  · cases h
def v23 (x : (List Change)) : SV T := .dat 60 x
def u23 : SV T → Option (List Change) := asDat 60
theorem u23_wk {s : SV T} {x : (List Change)} (h : u23 s = some x) : WkV has s (v23 x) := asDat_wkV h (by decide)
def v25 (x : Budget) : SV T := .agg (encBudget x)
def u25 (s : SV T) : Option Budget := match s with | .agg cs => decBudget cs | _ => none
theorem u25_wk {s : SV T} {x : Budget} (h : u25 s = some x) : WkV has s (v25 x) := by
  unfold u25 at h; split at h
  · exact .agg (encBudget_dec (by decide) _ _ h)
  · cases h
def v26 (x : (List Int)) : SV T := .dat 3 x
def u26 : SV T → Option (List Int) := asDat 3
theorem u26_wk {s : SV T} {x : (List Int)} (h : u26 s = some x) : WkV has s (v26 x) := asDat_wkV h (by decide)
def v35 (x : List Int) : SV T := .agg [.arr .u8 6 x]
def u35 (s : SV T) : Option (List Int) := match s with | .agg [c] => gA .u8 6 c | _ => none
theorem u35_wk {s : SV T} {x : List Int} (h : u35 s = some x) : WkV has s (v35 x) := by
  unfold u35 at h; split at h
  · rw [gA_spec h]; exact .same _
  · cases h
def v38 (x : (List Record)) : SV T := .dat 42 x
def u38 : SV T → Option (List Record) := asDat 42
theorem u38_wk {s : SV T} {x : (List Record)} (h : u38 s = some x) : WkV has s (v38 x) := asDat_wkV h (by decide)
def v40 (x : Packet) : SV T := .agg (encPacket x)
def u40 (s : SV T) : Option Packet := match s with | .agg cs => decPacket cs | _ => none
theorem u40_wk {s : SV T} {x : Packet} (h : u40 s = some x) : WkV has s (v40 x) := by
  unfold u40 at h; split at h
  · exact .agg (encPacket_dec (by decide) _ _ h)
  · cases h
def v42 (x : Record) : SV T := .agg (encRecord x)
def u42 (s : SV T) : Option Record := match s with | .agg cs => decRecord cs | _ => none
theorem u42_wk {s : SV T} {x : Record} (h : u42 s = some x) : WkV has s (v42 x) := by
  unfold u42 at h; split at h
  · exact .agg (encRecord_dec (by decide) _ _ h)
  · cases h
def v43 (x : Int) : SV T := .int .u64 x
def u43 : SV T → Option Int := gI .u64
theorem u43_wk {s : SV T} {x : Int} (h : u43 s = some x) : WkV has s (v43 x) := by rw [gI_spec h]; exact .same _
def v48 (x : (List Segment)) : SV T := .dat 51 x
def u48 : SV T → Option (List Segment) := asDat 51
theorem u48_wk {s : SV T} {x : (List Segment)} (h : u48 s = some x) : WkV has s (v48 x) := asDat_wkV h (by decide)
def v51 (x : Segment) : SV T := .agg (encSegment x)
def u51 (s : SV T) : Option Segment := match s with | .agg cs => decSegment cs | _ => none
theorem u51_wk {s : SV T} {x : Segment} (h : u51 s = some x) : WkV has s (v51 x) := by
  unfold u51 at h; split at h
  · exact .agg (encSegment_dec (by decide) _ _ h)
  · cases h
def v52 (x : Int) : SV T := .int .i64 x
def u52 : SV T → Option Int := gI .i64
theorem u52_wk {s : SV T} {x : Int} (h : u52 s = some x) : WkV has s (v52 x) := by rw [gI_spec h]; exact .same _
def v60 (x : Change) : SV T := .agg (encChange x)
def u60 (s : SV T) : Option Change := match s with | .agg cs => decChange cs | _ => none
theorem u60_wk {s : SV T} {x : Change} (h : u60 s = some x) : WkV has s (v60 x) := by
  unfold u60 at h; split at h
  · exact .agg (encChange_dec (by decide) _ _ h)
  · cases h
def v62 (x : (List Link)) : SV T := .dat 117 x
def u62 : SV T → Option (List Link) := asDat 117
theorem u62_wk {s : SV T} {x : (List Link)} (h : u62 s = some x) : WkV has s (v62 x) := asDat_wkV h (by decide)
def v63 (x : (List Path)) : SV T := .dat 119 x
def u63 : SV T → Option (List Path) := asDat 119
theorem u63_wk {s : SV T} {x : (List Path)} (h : u63 s = some x) : WkV has s (v63 x) := asDat_wkV h (by decide)
def v64 (x : (List Flow)) : SV T := .dat 124 x
def u64 : SV T → Option (List Flow) := asDat 124
theorem u64_wk {s : SV T} {x : (List Flow)} (h : u64 s = some x) : WkV has s (v64 x) := asDat_wkV h (by decide)
def v65 (x : (List ProgramD)) : SV T := .dat 107 x
def u65 : SV T → Option (List ProgramD) := asDat 107
theorem u65_wk {s : SV T} {x : (List ProgramD)} (h : u65 s = some x) : WkV has s (v65 x) := asDat_wkV h (by decide)
def v66 (x : (List ItemD)) : SV T := .dat 163 x
def u66 : SV T → Option (List ItemD) := asDat 163
theorem u66_wk {s : SV T} {x : (List ItemD)} (h : u66 s = some x) : WkV has s (v66 x) := asDat_wkV h (by decide)
def v68 (x : Agenda) : SV T := .agg (encAgenda x)
def u68 (s : SV T) : Option Agenda := match s with | .agg cs => decAgenda cs | _ => none
theorem u68_wk {s : SV T} {x : Agenda} (h : u68 s = some x) : WkV has s (v68 x) := by
  unfold u68 at h; split at h
  · exact .agg (encAgenda_dec (by decide) _ _ h)
  · cases h
def v70 (x : WorldD) : SV T := .agg (encWorldD x)
def u70 (s : SV T) : Option WorldD := match s with | .agg cs => decWorldD cs | _ => none
theorem u70_wk {s : SV T} {x : WorldD} (h : u70 s = some x) : WkV has s (v70 x) := by
  unfold u70 at h; split at h
  · exact .agg (encWorldD_dec (by decide) _ _ h)
  · cases h
def v86 (x : List Int) : SV T := .agg [.arr .i64 10 x]
def u86 (s : SV T) : Option (List Int) := match s with | .agg [c] => gA .i64 10 c | _ => none
theorem u86_wk {s : SV T} {x : List Int} (h : u86 s = some x) : WkV has s (v86 x) := by
  unfold u86 at h; split at h
  · rw [gA_spec h]; exact .same _
  · cases h
def v90 (x : (List Int)) : SV T := .dat 5 x
def u90 : SV T → Option (List Int) := asDat 5
theorem u90_wk {s : SV T} {x : (List Int)} (h : u90 s = some x) : WkV has s (v90 x) := asDat_wkV h (by decide)
def v103 (x : (List Var)) : SV T := .dat 102 x
def u103 : SV T → Option (List Var) := asDat 102
theorem u103_wk {s : SV T} {x : (List Var)} (h : u103 s = some x) : WkV has s (v103 x) := asDat_wkV h (by decide)
def v104 (x : (List Unit)) : SV T := .dat 289 x
def u104 : SV T → Option (List Unit) := asDat 289
theorem u104_wk {s : SV T} {x : (List Unit)} (h : u104 s = some x) : WkV has s (v104 x) := asDat_wkV h (by decide)
def v107 (x : ProgramD) : SV T := .agg (encProgramD x)
def u107 (s : SV T) : Option ProgramD := match s with | .agg cs => decProgramD cs | _ => none
theorem u107_wk {s : SV T} {x : ProgramD} (h : u107 s = some x) : WkV has s (v107 x) := by
  unfold u107 at h; split at h
  · exact .agg (encProgramD_dec (by decide) _ _ h)
  · cases h
def v110 (x : (List Queued)) : SV T := .dat 229 x
def u110 : SV T → Option (List Queued) := asDat 229
theorem u110_wk {s : SV T} {x : (List Queued)} (h : u110 s = some x) : WkV has s (v110 x) := asDat_wkV h (by decide)
def v111 (x : (List (List Queued))) : SV T := .dat 110 x
def u111 : SV T → Option (List (List Queued)) := asDat 110
theorem u111_wk {s : SV T} {x : (List (List Queued))} (h : u111 s = some x) : WkV has s (v111 x) := asDat_wkV h (by decide)
def v112 (x : List Int) : SV T := .agg [.arr .i64 8 x]
def u112 (s : SV T) : Option (List Int) := match s with | .agg [c] => gA .i64 8 c | _ => none
theorem u112_wk {s : SV T} {x : List Int} (h : u112 s = some x) : WkV has s (v112 x) := by
  unfold u112 at h; split at h
  · rw [gA_spec h]; exact .same _
  · cases h
def v114 (x : Queue) : SV T := .agg (encQueue x)
def u114 (s : SV T) : Option Queue := match s with | .agg cs => decQueue cs | _ => none
theorem u114_wk {s : SV T} {x : Queue} (h : u114 s = some x) : WkV has s (v114 x) := by
  unfold u114 at h; split at h
  · exact .agg (encQueue_dec (by decide) _ _ h)
  · cases h
def v117 (x : Link) : SV T := .agg (encLink x)
def u117 (s : SV T) : Option Link := match s with | .agg cs => decLink cs | _ => none
theorem u117_wk {s : SV T} {x : Link} (h : u117 s = some x) : WkV has s (v117 x) := by
  unfold u117 at h; split at h
  · exact .agg (encLink_dec (by decide) _ _ h)
  · cases h
def v119 (x : Path) : SV T := .agg (encPath x)
def u119 (s : SV T) : Option Path := match s with | .agg cs => decPath cs | _ => none
theorem u119_wk {s : SV T} {x : Path} (h : u119 s = some x) : WkV has s (v119 x) := by
  unfold u119 at h; split at h
  · exact .agg (encPath_dec (by decide) _ _ h)
  · cases h
def v120 (x : (List Sender)) : SV T := .dat 151 x
def u120 : SV T → Option (List Sender) := asDat 151
theorem u120_wk {s : SV T} {x : (List Sender)} (h : u120 s = some x) : WkV has s (v120 x) := asDat_wkV h (by decide)
def v122 (x : Receiver) : SV T := .agg (encReceiver x)
def u122 (s : SV T) : Option Receiver := match s with | .agg cs => decReceiver cs | _ => none
theorem u122_wk {s : SV T} {x : Receiver} (h : u122 s = some x) : WkV has s (v122 x) := by
  unfold u122 at h; split at h
  · exact .agg (encReceiver_dec (by decide) _ _ h)
  · cases h
def v124 (x : Flow) : SV T := .agg (encFlow x)
def u124 (s : SV T) : Option Flow := match s with | .agg cs => decFlow cs | _ => none
theorem u124_wk {s : SV T} {x : Flow} (h : u124 s = some x) : WkV has s (v124 x) := by
  unfold u124 at h; split at h
  · exact .agg (encFlow_dec (by decide) _ _ h)
  · cases h
def v147 (x : (List Sent)) : SV T := .dat 222 x
def u147 : SV T → Option (List Sent) := asDat 222
theorem u147_wk {s : SV T} {x : (List Sent)} (h : u147 s = some x) : WkV has s (v147 x) := asDat_wkV h (by decide)
def v149 (x : Pacer) : SV T := .agg (encPacer x)
def u149 (s : SV T) : Option Pacer := match s with | .agg cs => decPacer cs | _ => none
theorem u149_wk {s : SV T} {x : Pacer} (h : u149 s = some x) : WkV has s (v149 x) := by
  unfold u149 at h; split at h
  · exact .agg (encPacer_dec (by decide) _ _ h)
  · cases h
def v151 (x : Sender) : SV T := .agg (encSender x)
def u151 (s : SV T) : Option Sender := match s with | .agg cs => decSender cs | _ => none
theorem u151_wk {s : SV T} {x : Sender} (h : u151 s = some x) : WkV has s (v151 x) := by
  unfold u151 at h; split at h
  · exact .agg (encSender_dec (by decide) _ _ h)
  · cases h
def v161 (x : Ack) : SV T := .agg (encAck x)
def u161 (s : SV T) : Option Ack := match s with | .agg cs => decAck cs | _ => none
theorem u161_wk {s : SV T} {x : Ack} (h : u161 s = some x) : WkV has s (v161 x) := by
  unfold u161 at h; split at h
  · exact .agg (encAck_dec (by decide) _ _ h)
  · cases h
def v163 (x : ItemD) : SV T := .agg (encItemD x)
def u163 (s : SV T) : Option ItemD := match s with | .agg cs => decItemD cs | _ => none
theorem u163_wk {s : SV T} {x : ItemD} (h : u163 s = some x) : WkV has s (v163 x) := by
  unfold u163 at h; split at h
  · exact .agg (encItemD_dec (by decide) _ _ h)
  · cases h
def v210 (x : (List Instr)) : SV T := .dat 426 x
def u210 : SV T → Option (List Instr) := asDat 426
theorem u210_wk {s : SV T} {x : (List Instr)} (h : u210 s = some x) : WkV has s (v210 x) := asDat_wkV h (by decide)
def v213 (x : CodeD) : SV T := .agg (encCodeD x)
def u213 (s : SV T) : Option CodeD := match s with | .agg cs => decCodeD cs | _ => none
theorem u213_wk {s : SV T} {x : CodeD} (h : u213 s = some x) : WkV has s (v213 x) := by
  unfold u213 at h; split at h
  · exact .agg (encCodeD_dec (by decide) _ _ h)
  · cases h
def v222 (x : Sent) : SV T := .agg (encSent x)
def u222 (s : SV T) : Option Sent := match s with | .agg cs => decSent cs | _ => none
theorem u222_wk {s : SV T} {x : Sent} (h : u222 s = some x) : WkV has s (v222 x) := by
  unfold u222 at h; split at h
  · exact .agg (encSent_dec (by decide) _ _ h)
  · cases h
def v229 (x : Queued) : SV T := .agg (encQueued x)
def u229 (s : SV T) : Option Queued := match s with | .agg cs => decQueued cs | _ => none
theorem u229_wk {s : SV T} {x : Queued} (h : u229 s = some x) : WkV has s (v229 x) := by
  unfold u229 at h; split at h
  · exact .agg (encQueued_dec (by decide) _ _ h)
  · cases h
def v242 (x : (List Packet)) : SV T := .dat 40 x
def u242 : SV T → Option (List Packet) := asDat 40
theorem u242_wk {s : SV T} {x : (List Packet)} (h : u242 s = some x) : WkV has s (v242 x) := asDat_wkV h (by decide)
def v285 (x : (List Unit)) : SV T := .dat 287 x
def u285 : SV T → Option (List Unit) := asDat 287
theorem u285_wk {s : SV T} {x : (List Unit)} (h : u285 s = some x) : WkV has s (v285 x) := asDat_wkV h (by decide)
def v317 (x : (List (List ItemD))) : SV T := .dat 66 x
def u317 : SV T → Option (List (List ItemD)) := asDat 66
theorem u317_wk {s : SV T} {x : (List (List ItemD))} (h : u317 s = some x) : WkV has s (v317 x) := asDat_wkV h (by decide)
def v319 (x : (List Bool)) : SV T := .dat 4 x
def u319 : SV T → Option (List Bool) := asDat 4
theorem u319_wk {s : SV T} {x : (List Bool)} (h : u319 s = some x) : WkV has s (v319 x) := asDat_wkV h (by decide)
def v346 (x : (List step)) : SV T := .dat 345 x
def u346 : SV T → Option (List step) := asDat 345
theorem u346_wk {s : SV T} {x : (List step)} (h : u346 s = some x) : WkV has s (v346 x) := asDat_wkV h (by decide)
def v351 (x : CallD) : SV T := .agg (encCallD x)
def u351 (s : SV T) : Option CallD := match s with | .agg cs => decCallD cs | _ => none
theorem u351_wk {s : SV T} {x : CallD} (h : u351 s = some x) : WkV has s (v351 x) := by
  unfold u351 at h; split at h
  · exact .agg (encCallD_dec (by decide) _ _ h)
  · cases h
def v394 (x : choice) : SV T := .agg (encchoice x)
def u394 (s : SV T) : Option choice := match s with | .agg cs => decchoice cs | _ => none
theorem u394_wk {s : SV T} {x : choice} (h : u394 s = some x) : WkV has s (v394 x) := by
  unfold u394 at h; split at h
  · exact .agg (encchoice_dec (by decide) _ _ h)
  · cases h
def v417 (x : (List Unit)) : SV T := .dat 419 x
def u417 : SV T → Option (List Unit) := asDat 419
theorem u417_wk {s : SV T} {x : (List Unit)} (h : u417 s = some x) : WkV has s (v417 x) := asDat_wkV h (by decide)
def v426 (x : Instr) : SV T := .agg (encInstr x)
def u426 (s : SV T) : Option Instr := match s with | .agg cs => decInstr cs | _ => none
theorem u426_wk {s : SV T} {x : Instr} (h : u426 s = some x) : WkV has s (v426 x) := by
  unfold u426 at h; split at h
  · exact .agg (encInstr_dec (by decide) _ _ h)
  · cases h
def v436 (x : state'') : SV T := .agg (encstate'' x)
def u436 (s : SV T) : Option state'' := match s with | .agg cs => decstate'' cs | _ => none
theorem u436_wk {s : SV T} {x : state''} (h : u436 s = some x) : WkV has s (v436 x) := by
  unfold u436 at h; split at h
  · exact .agg (encstate''_dec (by decide) _ _ h)
  · cases h
def v451 (x : List Int) : SV T := .agg [.arr .i64 3 x]
def u451 (s : SV T) : Option (List Int) := match s with | .agg [c] => gA .i64 3 c | _ => none
theorem u451_wk {s : SV T} {x : List Int} (h : u451 s = some x) : WkV has s (v451 x) := by
  unfold u451 at h; split at h
  · rw [gA_spec h]; exact .same _
  · cases h
def v469 (x : line') : SV T := .agg (encline' x)
def u469 (s : SV T) : Option line' := match s with | .agg cs => decline' cs | _ => none
theorem u469_wk {s : SV T} {x : line'} (h : u469 s = some x) : WkV has s (v469 x) := by
  unfold u469 at h; split at h
  · exact .agg (encline'_dec (by decide) _ _ h)
  · cases h
def v527 (x : (List ByteArray)) : SV T := .dat 9 x
def u527 : SV T → Option (List ByteArray) := asDat 9
theorem u527_wk {s : SV T} {x : (List ByteArray)} (h : u527 s = some x) : WkV has s (v527 x) := asDat_wkV h (by decide)
def v536 (x : Int) : SV T := .int .u8 x
def u536 : SV T → Option Int := gI .u8
theorem u536_wk {s : SV T} {x : Int} (h : u536 s = some x) : WkV has s (v536 x) := by rw [gI_spec h]; exact .same _
def v545 (x : Unit') : SV T := .agg (encUnit' x)
def u545 (s : SV T) : Option Unit' := match s with | .agg cs => decUnit' cs | _ => none
theorem u545_wk {s : SV T} {x : Unit'} (h : u545 s = some x) : WkV has s (v545 x) := by
  unfold u545 at h; split at h
  · exact .agg (encUnit'_dec (by decide) _ _ h)
  · cases h
theorem tab : TabOk Tryz.prog env := by
  refine tab_of (N := 546) (by kernel_rfl) (fun t ht => ?_) ?_ (by kernel_rfl) (fun t ht => List.all_eq_true.1 (show eqts.all (fun t => eqZ Tryz.prog (ti t) t) = true from by kernel_rfl) t (memN_spec.1 ht)) ?_
  · show ti t = _
    unfold ti
    have : ∀ (l : List TI) (t : Nat), l.length ≤ t → nthL l t = none := by
      intro l
      induction l with
      | nil => intro t _; rfl
      | cons a r ih => intro t ht; cases t with | zero => simp at ht | succ t => exact ih t (by simpa using ht)
    have h0 : tis.length = 546 := by kernel_rfl
    rw [this tis t (by omega)]; rfl
  · intro f g h
    change fn f = some g at h
    unfold fn at h
    split at h
    · rename_i h3
      have h3 := Nat.le_of_ble_eq_true h3
      rw [nthL_get] at h
      have e : fns = Tryz.prog.funcs.toList.drop 3 := by kernel_rfl
      have hn : fns.all (fun g => !(g.name == "runtime.NumGoroutine")) = true := by kernel_rfl
      refine ⟨?_, ?_⟩
      · rw [e, List.getElem?_drop, Array.getElem?_toList] at h
        rwa [show 3 + (f - 3) = f by omega] at h
      · have := List.all_eq_true.1 hn g (List.mem_of_getElem? h)
        simpa using this
    · cases h
  · intro e h
    rcases kok_mem h with rfl | rfl | rfl | rfl
    · exact ⟨rfl, by kernel_rfl, fun _ => rfl, by kernel_rfl, fun _ _ => ⟨_, rfl⟩, fun _ _ => ⟨_, rfl, rfl⟩⟩
    · exact ⟨rfl, by kernel_rfl, fun _ => rfl, by kernel_rfl, fun _ _ => ⟨_, rfl⟩, fun _ _ => ⟨_, rfl, rfl⟩⟩
    · exact ⟨rfl, by kernel_rfl, fun _ => rfl, by kernel_rfl, fun _ _ => ⟨_, rfl⟩, fun _ _ => ⟨_, rfl, rfl⟩⟩
    · exact ⟨rfl, by kernel_rfl, fun _ => rfl, by kernel_rfl, fun _ _ => ⟨_, rfl⟩, fun h => absurd (show (true : Bool) = false from h) (by decide)⟩
end Go.Vg.YthmmgoebdcegmaaGreatDoor
