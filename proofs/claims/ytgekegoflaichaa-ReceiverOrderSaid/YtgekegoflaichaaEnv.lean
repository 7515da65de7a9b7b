/-
  The executor's tables of this seat: types, elements' data, functions. Written by a program of this work (genenv.py) out of the seat's translation; no condition.
-/
import Derived.Test.YtgekegoflaichaaVgFn
import Derived.KernelRfl
import Derived.Test.YtgekegoflaichaaProg
namespace Go.Vg.Ytgekegoflaichaa
open Go.Vg Go.Proofs
structure Packet where
  flow : Int
  sub : Int
  number : Int
  data : Int
  size : Int
  sent : Int
  able : Bool
  marked : Bool
structure Queued where
  p : Packet
  at_ : Int
structure Step where
  wait : Int
  take : Bool
  p : Packet
structure boundsError where
  x : Int
  y : Int
  signed : Bool
  code : Int
structure errorAddressString where
  msg : ByteArray
  addr : Int
structure Policy where
  kind : Int
  a : Int
  b : Int
  c : Int
structure Queue where
  policy : Policy
  room : Int
  lists : (List (List Queued))
  vars : List Int
  seed : Int
structure Receiver where
  next_ : Int
  have_ : (List Int)
structure Ack where
  sub : Int
  number : Int
  next_ : Int
  sent : Int
  marked : Bool
def T : Nat → Type
  | 3 => Int
  | 5 => Int
  | 30 => Packet
  | 43 => (List Queued)
  | 45 => Queued
  | 48 => Step
  | _ => Unit
instance : Inhabited Packet := ⟨(⟨(0 : Int), (0 : Int), (0 : Int), (0 : Int), (0 : Int), (0 : Int), false, false⟩ : Packet)⟩
instance : Inhabited Queued := ⟨(⟨(⟨(0 : Int), (0 : Int), (0 : Int), (0 : Int), (0 : Int), (0 : Int), false, false⟩ : Packet), (0 : Int)⟩ : Queued)⟩
instance : Inhabited Step := ⟨(⟨(0 : Int), false, (⟨(0 : Int), (0 : Int), (0 : Int), (0 : Int), (0 : Int), (0 : Int), false, false⟩ : Packet)⟩ : Step)⟩
instance : Inhabited boundsError := ⟨(⟨(0 : Int), (0 : Int), false, (0 : Int)⟩ : boundsError)⟩
instance : Inhabited errorAddressString := ⟨(⟨ByteArray.empty, (0 : Int)⟩ : errorAddressString)⟩
instance : Inhabited Policy := ⟨(⟨(0 : Int), (0 : Int), (0 : Int), (0 : Int)⟩ : Policy)⟩
instance : Inhabited Queue := ⟨(⟨(⟨(0 : Int), (0 : Int), (0 : Int), (0 : Int)⟩ : Policy), (0 : Int), ([] : (List (List Queued))), List.replicate 8 0, (0 : Int)⟩ : Queue)⟩
instance : Inhabited Receiver := ⟨(⟨(0 : Int), ([] : (List Int))⟩ : Receiver)⟩
instance : Inhabited Ack := ⟨(⟨(0 : Int), (0 : Int), (0 : Int), (0 : Int), false⟩ : Ack)⟩
def dflt : ∀ e, T e
  | 3 => ((0 : Int) : Int)
  | 5 => ((0 : Int) : Int)
  | 30 => ((⟨(0 : Int), (0 : Int), (0 : Int), (0 : Int), (0 : Int), (0 : Int), false, false⟩ : Packet) : Packet)
  | 43 => (([] : (List Queued)) : (List Queued))
  | 45 => ((⟨(⟨(0 : Int), (0 : Int), (0 : Int), (0 : Int), (0 : Int), (0 : Int), false, false⟩ : Packet), (0 : Int)⟩ : Queued) : Queued)
  | 48 => ((⟨(0 : Int), false, (⟨(0 : Int), (0 : Int), (0 : Int), (0 : Int), (0 : Int), (0 : Int), false, false⟩ : Packet)⟩ : Step) : Step)
  | _ => by unfold T; split <;> first | exact () | exact (inferInstance : Inhabited _).default
def encPacket (x : Packet) : List (SV T) := [.int .i64 x.flow, .int .i64 x.sub, .int .i64 x.number, .int .i64 x.data, .int .i64 x.size, .int .i64 x.sent, .bool x.able, .bool x.marked]
def decPacket : List (SV T) → Option Packet
  | [.int .i64 x1, .int .i64 x2, .int .i64 x3, .int .i64 x4, .int .i64 x5, .int .i64 x6, .bool x7, .bool x8] => some (⟨x1, x2, x3, x4, x5, x6, x7, x8⟩ : Packet)
  | _ => none
theorem encPacket_dec {has : Nat → Bool} (_hh : ∀ e ∈ [], has e = true) (cs : List (SV T)) (x : Packet) (h : decPacket cs = some x) : WkL has cs (encPacket x) := by
  unfold decPacket at h; split at h
  · cases h; exact (.cons _ (.cons _ (.cons _ (.cons _ (.cons _ (.cons _ (.cons _ (.cons _ .nil))))))))
  · cases h
def encQueued (x : Queued) : List (SV T) := [.int .i64 x.p.flow, .int .i64 x.p.sub, .int .i64 x.p.number, .int .i64 x.p.data, .int .i64 x.p.size, .int .i64 x.p.sent, .bool x.p.able, .bool x.p.marked, .int .i64 x.at_]
def decQueued : List (SV T) → Option Queued
  | [.int .i64 x1, .int .i64 x2, .int .i64 x3, .int .i64 x4, .int .i64 x5, .int .i64 x6, .bool x7, .bool x8, .int .i64 x9] => some (⟨(⟨x1, x2, x3, x4, x5, x6, x7, x8⟩ : Packet), x9⟩ : Queued)
  | _ => none
theorem encQueued_dec {has : Nat → Bool} (_hh : ∀ e ∈ [], has e = true) (cs : List (SV T)) (x : Queued) (h : decQueued cs = some x) : WkL has cs (encQueued x) := by
  unfold decQueued at h; split at h
  · cases h; exact (.cons _ (.cons _ (.cons _ (.cons _ (.cons _ (.cons _ (.cons _ (.cons _ (.cons _ .nil)))))))))
  · cases h
def encStep (x : Step) : List (SV T) := [.int .u16 x.wait, .bool x.take, .int .i64 x.p.flow, .int .i64 x.p.sub, .int .i64 x.p.number, .int .i64 x.p.data, .int .i64 x.p.size, .int .i64 x.p.sent, .bool x.p.able, .bool x.p.marked]
def decStep : List (SV T) → Option Step
  | [.int .u16 x1, .bool x2, .int .i64 x3, .int .i64 x4, .int .i64 x5, .int .i64 x6, .int .i64 x7, .int .i64 x8, .bool x9, .bool x10] => some (⟨x1, x2, (⟨x3, x4, x5, x6, x7, x8, x9, x10⟩ : Packet)⟩ : Step)
  | _ => none
theorem encStep_dec {has : Nat → Bool} (_hh : ∀ e ∈ [], has e = true) (cs : List (SV T)) (x : Step) (h : decStep cs = some x) : WkL has cs (encStep x) := by
  unfold decStep at h; split at h
  · cases h; exact (.cons _ (.cons _ (.cons _ (.cons _ (.cons _ (.cons _ (.cons _ (.cons _ (.cons _ (.cons _ .nil))))))))))
  · cases h
def encboundsError (x : boundsError) : List (SV T) := [.int .i64 x.x, .int .i64 x.y, .bool x.signed, .int .u8 x.code]
def decboundsError : List (SV T) → Option boundsError
  | [.int .i64 x1, .int .i64 x2, .bool x3, .int .u8 x4] => some (⟨x1, x2, x3, x4⟩ : boundsError)
  | _ => none
theorem encboundsError_dec {has : Nat → Bool} (_hh : ∀ e ∈ [], has e = true) (cs : List (SV T)) (x : boundsError) (h : decboundsError cs = some x) : WkL has cs (encboundsError x) := by
  unfold decboundsError at h; split at h
  · cases h; exact (.cons _ (.cons _ (.cons _ (.cons _ .nil))))
  · cases h
def encerrorAddressString (x : errorAddressString) : List (SV T) := [.str x.msg, .int .u64 x.addr]
def decerrorAddressString : List (SV T) → Option errorAddressString
  | [.str x1, .int .u64 x2] => some (⟨x1, x2⟩ : errorAddressString)
  | _ => none
theorem encerrorAddressString_dec {has : Nat → Bool} (_hh : ∀ e ∈ [], has e = true) (cs : List (SV T)) (x : errorAddressString) (h : decerrorAddressString cs = some x) : WkL has cs (encerrorAddressString x) := by
  unfold decerrorAddressString at h; split at h
  · cases h; exact (.cons _ (.cons _ .nil))
  · cases h
def encPolicy (x : Policy) : List (SV T) := [.int .i64 x.kind, .int .i64 x.a, .int .i64 x.b, .int .i64 x.c]
def decPolicy : List (SV T) → Option Policy
  | [.int .i64 x1, .int .i64 x2, .int .i64 x3, .int .i64 x4] => some (⟨x1, x2, x3, x4⟩ : Policy)
  | _ => none
theorem encPolicy_dec {has : Nat → Bool} (_hh : ∀ e ∈ [], has e = true) (cs : List (SV T)) (x : Policy) (h : decPolicy cs = some x) : WkL has cs (encPolicy x) := by
  unfold decPolicy at h; split at h
  · cases h; exact (.cons _ (.cons _ (.cons _ (.cons _ .nil))))
  · cases h
def encQueue (x : Queue) : List (SV T) := [.int .i64 x.policy.kind, .int .i64 x.policy.a, .int .i64 x.policy.b, .int .i64 x.policy.c, .int .i64 x.room, .dat 43 x.lists, .arr .i64 8 x.vars, .int .u64 x.seed]
def decQueue : List (SV T) → Option Queue
  | [.int .i64 x1, .int .i64 x2, .int .i64 x3, .int .i64 x4, .int .i64 x5, x6, .arr .i64 8 x7, .int .u64 x8] => match asDat 43 x6 with | some x6' => (some (⟨(⟨x1, x2, x3, x4⟩ : Policy), x5, x6', x7, x8⟩ : Queue)) | none => none
  | _ => none
theorem encQueue_dec {has : Nat → Bool} (_hh : ∀ e ∈ [43], has e = true) (cs : List (SV T)) (x : Queue) (h : decQueue cs = some x) : WkL has cs (encQueue x) := by
  unfold decQueue at h; split at h
  · split at h
    · rename_i h0; cases h; exact (.cons _ (.cons _ (.cons _ (.cons _ (.cons _ (asDat_spec h0 (_hh 43 (by simp)) (.cons _ (.cons _ .nil))))))))
    · cases h
  · cases h
def encReceiver (x : Receiver) : List (SV T) := [.int .i64 x.next_, .dat 3 x.have_]
def decReceiver : List (SV T) → Option Receiver
  | [.int .i64 x1, x2] => match asDat 3 x2 with | some x2' => (some (⟨x1, x2'⟩ : Receiver)) | none => none
  | _ => none
theorem encReceiver_dec {has : Nat → Bool} (_hh : ∀ e ∈ [3], has e = true) (cs : List (SV T)) (x : Receiver) (h : decReceiver cs = some x) : WkL has cs (encReceiver x) := by
  unfold decReceiver at h; split at h
  · split at h
    · rename_i h0; cases h; exact (.cons _ (asDat_spec h0 (_hh 3 (by simp)) .nil))
    · cases h
  · cases h
def encAck (x : Ack) : List (SV T) := [.int .i64 x.sub, .int .i64 x.number, .int .i64 x.next_, .int .i64 x.sent, .bool x.marked]
def decAck : List (SV T) → Option Ack
  | [.int .i64 x1, .int .i64 x2, .int .i64 x3, .int .i64 x4, .bool x5] => some (⟨x1, x2, x3, x4, x5⟩ : Ack)
  | _ => none
theorem encAck_dec {has : Nat → Bool} (_hh : ∀ e ∈ [], has e = true) (cs : List (SV T)) (x : Ack) (h : decAck cs = some x) : WkL has cs (encAck x) := by
  unfold decAck at h; split at h
  · cases h; exact (.cons _ (.cons _ (.cons _ (.cons _ (.cons _ .nil)))))
  · cases h
def encE3 (x : Int) : List (SV T) := [.int .i64 x]
def decE3 : List (SV T) → Option Int
  | [.int .i64 x1] => some x1
  | _ => none
theorem encE3_dec {has : Nat → Bool} (_hh : ∀ e ∈ [], has e = true) (cs : List (SV T)) (x : Int) (h : decE3 cs = some x) : WkL has cs (encE3 x) := by
  unfold decE3 at h; split at h
  · cases h; exact (.cons _ .nil)
  · cases h
def encE5 (x : Int) : List (SV T) := [.int .u8 x]
def decE5 : List (SV T) → Option Int
  | [.int .u8 x1] => some x1
  | _ => none
theorem encE5_dec {has : Nat → Bool} (_hh : ∀ e ∈ [], has e = true) (cs : List (SV T)) (x : Int) (h : decE5 cs = some x) : WkL has cs (encE5 x) := by
  unfold decE5 at h; split at h
  · cases h; exact (.cons _ .nil)
  · cases h
def encE43 (x : (List Queued)) : List (SV T) := [.dat 45 x]
def decE43 : List (SV T) → Option (List Queued)
  | [x1] => match asDat 45 x1 with | some x1' => (some x1') | none => none
  | _ => none
theorem encE43_dec {has : Nat → Bool} (_hh : ∀ e ∈ [45], has e = true) (cs : List (SV T)) (x : (List Queued)) (h : decE43 cs = some x) : WkL has cs (encE43 x) := by
  unfold decE43 at h; split at h
  · split at h
    · rename_i h0; cases h; exact (asDat_spec h0 (_hh 45 (by simp)) .nil)
    · cases h
  · cases h
def enc : ∀ e, T e → List (SV T)
  | 3, (x : Int) => encE3 x
  | 5, (x : Int) => encE5 x
  | 30, (x : Packet) => encPacket x
  | 43, (x : (List Queued)) => encE43 x
  | 45, (x : Queued) => encQueued x
  | 48, (x : Step) => encStep x
  | _, _ => []
def dec : ∀ e, List (SV T) → Option (T e)
  | 3, cs => ((decE3 cs) : Option Int)
  | 5, cs => ((decE5 cs) : Option Int)
  | 30, cs => ((decPacket cs) : Option Packet)
  | 43, cs => ((decE43 cs) : Option (List Queued))
  | 45, cs => ((decQueued cs) : Option Queued)
  | 48, cs => ((decStep cs) : Option Step)
  | _, _ => none
def sz : Nat → Nat
  | 3 => 1
  | 5 => 1
  | 30 => 8
  | 43 => 1
  | 45 => 9
  | 48 => 10
  | _ => 0
def elems : List Nat := [3, 5, 30, 43, 45, 48]
def has (e : Nat) : Bool := elems.any (Nat.beq e)
theorem has_mem {e : Nat} (h : has e = true) : e = 3 ∨ e = 5 ∨ e = 30 ∨ e = 43 ∨ e = 45 ∨ e = 48 := by
  simp only [has, elems, List.any_cons, List.any_nil, Bool.or_eq_true, Bool.or_false] at h
  rcases h with h | h | h | h | h | h
  · exact (.inl (Nat.eq_of_beq_eq_true h))
  · exact (.inr (.inl (Nat.eq_of_beq_eq_true h)))
  · exact (.inr (.inr (.inl (Nat.eq_of_beq_eq_true h))))
  · exact (.inr (.inr (.inr (.inl (Nat.eq_of_beq_eq_true h)))))
  · exact (.inr (.inr (.inr (.inr (.inl (Nat.eq_of_beq_eq_true h))))))
  · exact (.inr (.inr (.inr (.inr (.inr (Nat.eq_of_beq_eq_true h))))))
theorem enc_dec (e : Nat) (cs : List (SV T)) (x : T e) (h : has e = true) (hd : dec e cs = some x) : WkL has cs (enc e x) := by
  rcases has_mem h with rfl | rfl | rfl | rfl | rfl | rfl
  · exact encE3_dec (by decide) cs x hd
  · exact encE5_dec (by decide) cs x hd
  · exact encPacket_dec (by decide) cs x hd
  · exact encE43_dec (by decide) cs x hd
  · exact encQueued_dec (by decide) cs x hd
  · exact encStep_dec (by decide) cs x hd
theorem enc_sz (e : Nat) (x : T e) (h : has e = true) : widths0 (enc e x) = sz e := by
  rcases has_mem h with rfl | rfl | rfl | rfl | rfl | rfl <;> rfl
theorem enc_data (e : Nat) (x : T e) (h : has e = true) : allData (enc e x) = true := by
  rcases has_mem h with rfl | rfl | rfl | rfl | rfl | rfl <;> rfl
def tis : List TI := [
  ⟨false, .other, 0, 0, []⟩,
  ⟨true, .other, 1, 8, [ZC.func]⟩,
  ⟨true, .int .i64, 1, 8, [ZC.int .i64]⟩,
  ⟨true, .int .i64, 1, 8, [ZC.int .i64]⟩,
  ⟨true, .bool, 1, 1, [ZC.bool]⟩,
  ⟨true, .int .u8, 1, 1, [ZC.int .u8]⟩,
  ⟨true, .int .u8, 1, 1, [ZC.int .u8]⟩,
  ⟨true, .struct [(0, 1, 2), (1, 1, 3), (2, 1, 4), (3, 1, 6)], 4, 24, [ZC.int .i64, ZC.int .i64, ZC.bool, ZC.int .u8]⟩,
  ⟨true, .struct [(0, 1, 2), (1, 1, 3), (2, 1, 4), (3, 1, 6)], 4, 24, [ZC.int .i64, ZC.int .i64, ZC.bool, ZC.int .u8]⟩,
  ⟨true, .string, 1, 16, [ZC.str]⟩,
  ⟨true, .string, 1, 16, [ZC.str]⟩,
  ⟨true, .string, 1, 16, [ZC.str]⟩,
  ⟨true, .int .u64, 1, 8, [ZC.int .u64]⟩,
  ⟨true, .struct [(0, 1, 9), (1, 1, 12)], 2, 24, [ZC.str, ZC.int .u64]⟩,
  ⟨true, .struct [(0, 1, 9), (1, 1, 12)], 2, 24, [ZC.str, ZC.int .u64]⟩,
  ⟨true, .other, 1, 8, [ZC.ptr]⟩,
  ⟨true, .other, 1, 8, [ZC.ptr]⟩,
  ⟨true, .other, 1, 8, [ZC.ptr]⟩,
  ⟨true, .struct [(0, 1, 17)], 1, 8, [ZC.ptr]⟩,
  ⟨true, .struct [(0, 1, 17)], 1, 8, [ZC.ptr]⟩,
  ⟨false, .other, 0, 0, []⟩,
  ⟨true, .int .i32, 1, 4, [ZC.int .i32]⟩,
  ⟨true, .struct [(0, 1, 3), (1, 1, 3), (2, 1, 3), (3, 1, 3)], 4, 32, [ZC.int .i64, ZC.int .i64, ZC.int .i64, ZC.int .i64]⟩,
  ⟨true, .struct [(0, 1, 3), (1, 1, 3), (2, 1, 3), (3, 1, 3)], 4, 32, [ZC.int .i64, ZC.int .i64, ZC.int .i64, ZC.int .i64]⟩,
  ⟨true, .slice 43, 1, 24, [ZC.slice]⟩,
  ⟨true, .array 8 3, 8, 64, [ZC.arr .i64 8]⟩,
  ⟨true, .int .u64, 1, 8, [ZC.int .u64]⟩,
  ⟨true, .struct [(0, 4, 23), (4, 1, 3), (5, 1, 24), (6, 8, 25), (14, 1, 26)], 15, 136, [ZC.int .i64, ZC.int .i64, ZC.int .i64, ZC.int .i64, ZC.int .i64, ZC.slice, ZC.arr .i64 8, ZC.int .u64]⟩,
  ⟨true, .struct [(0, 4, 23), (4, 1, 3), (5, 1, 24), (6, 8, 25), (14, 1, 26)], 15, 136, [ZC.int .i64, ZC.int .i64, ZC.int .i64, ZC.int .i64, ZC.int .i64, ZC.slice, ZC.arr .i64 8, ZC.int .u64]⟩,
  ⟨true, .struct [(0, 1, 3), (1, 1, 3), (2, 1, 3), (3, 1, 3), (4, 1, 3), (5, 1, 3), (6, 1, 4), (7, 1, 4)], 8, 56, [ZC.int .i64, ZC.int .i64, ZC.int .i64, ZC.int .i64, ZC.int .i64, ZC.int .i64, ZC.bool, ZC.bool]⟩,
  ⟨true, .struct [(0, 1, 3), (1, 1, 3), (2, 1, 3), (3, 1, 3), (4, 1, 3), (5, 1, 3), (6, 1, 4), (7, 1, 4)], 8, 56, [ZC.int .i64, ZC.int .i64, ZC.int .i64, ZC.int .i64, ZC.int .i64, ZC.int .i64, ZC.bool, ZC.bool]⟩,
  ⟨true, .other, 1, 8, [ZC.func]⟩,
  ⟨true, .other, 1, 8, [ZC.func]⟩,
  ⟨true, .slice 30, 1, 24, [ZC.slice]⟩,
  ⟨true, .int .i64, 1, 8, [ZC.int .i64]⟩,
  ⟨false, .other, 0, 0, []⟩,
  ⟨true, .other, 1, 8, [ZC.func]⟩,
  ⟨false, .other, 0, 0, []⟩,
  ⟨true, .other, 1, 8, [ZC.func]⟩,
  ⟨true, .other, 1, 8, [ZC.func]⟩,
  ⟨true, .other, 1, 8, [ZC.func]⟩,
  ⟨true, .other, 1, 8, [ZC.func]⟩,
  ⟨true, .slice 48, 1, 24, [ZC.slice]⟩,
  ⟨true, .slice 45, 1, 24, [ZC.slice]⟩,
  ⟨true, .struct [(0, 8, 30), (8, 1, 3)], 9, 64, [ZC.int .i64, ZC.int .i64, ZC.int .i64, ZC.int .i64, ZC.int .i64, ZC.int .i64, ZC.bool, ZC.bool, ZC.int .i64]⟩,
  ⟨true, .struct [(0, 8, 30), (8, 1, 3)], 9, 64, [ZC.int .i64, ZC.int .i64, ZC.int .i64, ZC.int .i64, ZC.int .i64, ZC.int .i64, ZC.bool, ZC.bool, ZC.int .i64]⟩,
  ⟨true, .int .u16, 1, 2, [ZC.int .u16]⟩,
  ⟨true, .struct [(0, 1, 46), (1, 1, 4), (2, 8, 30)], 10, 64, [ZC.int .u16, ZC.bool, ZC.int .i64, ZC.int .i64, ZC.int .i64, ZC.int .i64, ZC.int .i64, ZC.int .i64, ZC.bool, ZC.bool]⟩,
  ⟨true, .struct [(0, 1, 46), (1, 1, 4), (2, 8, 30)], 10, 64, [ZC.int .u16, ZC.bool, ZC.int .i64, ZC.int .i64, ZC.int .i64, ZC.int .i64, ZC.int .i64, ZC.int .i64, ZC.bool, ZC.bool]⟩,
  ⟨true, .other, 1, 8, [ZC.func]⟩,
  ⟨true, .other, 1, 8, [ZC.func]⟩,
  ⟨true, .other, 1, 8, [ZC.func]⟩,
  ⟨true, .other, 1, 8, [ZC.func]⟩,
  ⟨true, .other, 1, 8, [ZC.func]⟩,
  ⟨false, .other, 0, 0, []⟩,
  ⟨true, .other, 1, 8, [ZC.func]⟩,
  ⟨true, .other, 1, 8, [ZC.func]⟩,
  ⟨false, .other, 0, 0, []⟩,
  ⟨true, .other, 1, 8, [ZC.func]⟩,
  ⟨true, .other, 1, 8, [ZC.func]⟩,
  ⟨true, .other, 1, 8, [ZC.func]⟩,
  ⟨true, .other, 1, 8, [ZC.func]⟩,
  ⟨true, .slice 5, 1, 24, [ZC.slice]⟩,
  ⟨true, .other, 1, 8, [ZC.func]⟩,
  ⟨true, .other, 1, 8, [ZC.func]⟩,
  ⟨true, .slice 3, 1, 24, [ZC.slice]⟩,
  ⟨true, .struct [(0, 1, 3), (1, 1, 65)], 2, 32, [ZC.int .i64, ZC.slice]⟩,
  ⟨true, .struct [(0, 1, 3), (1, 1, 65)], 2, 32, [ZC.int .i64, ZC.slice]⟩,
  ⟨true, .other, 1, 8, [ZC.func]⟩,
  ⟨true, .struct [(0, 1, 3), (1, 1, 3), (2, 1, 3), (3, 1, 3), (4, 1, 4)], 5, 40, [ZC.int .i64, ZC.int .i64, ZC.int .i64, ZC.int .i64, ZC.bool]⟩,
  ⟨true, .struct [(0, 1, 3), (1, 1, 3), (2, 1, 3), (3, 1, 3), (4, 1, 4)], 5, 40, [ZC.int .i64, ZC.int .i64, ZC.int .i64, ZC.int .i64, ZC.bool]⟩,
  ⟨false, .other, 0, 0, []⟩,
  ⟨true, .other, 1, 8, [ZC.func]⟩,
  ⟨true, .other, 1, 8, [ZC.func]⟩,
  ⟨true, .other, 1, 8, [ZC.func]⟩,
  ⟨true, .other, 1, 8, [ZC.func]⟩,
  ⟨true, .other, 1, 8, [ZC.func]⟩,
  ⟨false, .other, 0, 0, []⟩,
  ⟨true, .other, 1, 8, [ZC.func]⟩,
  ⟨true, .other, 1, 8, [ZC.func]⟩,
  ⟨true, .other, 1, 8, [ZC.func]⟩,
  ⟨false, .other, 0, 0, []⟩,
  ⟨true, .other, 1, 8, [ZC.func]⟩,
  ⟨true, .other, 1, 8, [ZC.func]⟩,
  ⟨true, .other, 1, 8, [ZC.func]⟩,
  ⟨true, .other, 1, 8, [ZC.func]⟩,
  ⟨true, .other, 1, 8, [ZC.func]⟩,
  ⟨true, .other, 1, 8, [ZC.func]⟩,
  ⟨true, .other, 1, 8, [ZC.func]⟩,
  ⟨true, .other, 1, 8, [ZC.func]⟩,
  ⟨true, .other, 1, 8, [ZC.func]⟩,
  ⟨true, .other, 1, 8, [ZC.func]⟩,
  ⟨true, .other, 1, 8, [ZC.func]⟩,
  ⟨true, .other, 1, 8, [ZC.func]⟩,
  ⟨true, .other, 1, 8, [ZC.func]⟩,
  ⟨false, .other, 0, 0, []⟩,
  ⟨true, .other, 1, 8, [ZC.func]⟩,
  ⟨true, .other, 1, 8, [ZC.func]⟩,
  ⟨true, .other, 1, 8, [ZC.func]⟩,
  ⟨true, .other, 1, 8, [ZC.func]⟩,
  ⟨true, .other, 1, 8, [ZC.func]⟩,
  ⟨true, .other, 1, 8, [ZC.func]⟩,
  ⟨true, .other, 1, 8, [ZC.func]⟩,
  ⟨true, .int .u64, 1, 8, [ZC.int .u64]⟩,
  ⟨true, .other, 1, 8, [ZC.func]⟩,
  ⟨true, .other, 1, 8, [ZC.func]⟩,
  ⟨true, .other, 1, 8, [ZC.func]⟩,
  ⟨true, .other, 1, 8, [ZC.func]⟩,
  ⟨true, .other, 1, 8, [ZC.func]⟩,
  ⟨true, .other, 1, 8, [ZC.func]⟩,
  ⟨true, .struct [(0, 1, 17), (1, 1, 17), (2, 1, 17), (3, 1, 9)], 4, 40, [ZC.ptr, ZC.ptr, ZC.ptr, ZC.str]⟩,
  ⟨true, .struct [(0, 1, 17), (1, 1, 17), (2, 1, 17), (3, 1, 9)], 4, 40, [ZC.ptr, ZC.ptr, ZC.ptr, ZC.str]⟩,
  ⟨true, .array 0 16, 0, 0, []⟩,
  ⟨true, .struct [(0, 0, 112)], 0, 0, []⟩,
  ⟨true, .struct [(0, 0, 112)], 0, 0, []⟩,
  ⟨true, .other, 1, 8, [ZC.func]⟩,
  ⟨true, .int .u32, 1, 4, [ZC.int .u32]⟩,
  ⟨true, .int .u8, 1, 1, [ZC.int .u8]⟩,
  ⟨true, .int .u8, 1, 1, [ZC.int .u8]⟩,
  ⟨true, .other, 1, 8, [ZC.func]⟩,
  ⟨true, .other, 1, 8, [ZC.ptr]⟩,
  ⟨true, .int .i32, 1, 4, [ZC.int .i32]⟩,
  ⟨true, .int .i32, 1, 4, [ZC.int .i32]⟩,
  ⟨true, .struct [(0, 1, 12), (1, 1, 12), (2, 1, 116), (3, 1, 117), (4, 1, 5), (5, 1, 5), (6, 1, 118), (7, 1, 119), (8, 1, 120), (9, 1, 121), (10, 1, 122)], 11, 48, [ZC.int .u64, ZC.int .u64, ZC.int .u32, ZC.int .u8, ZC.int .u8, ZC.int .u8, ZC.int .u8, ZC.func, ZC.ptr, ZC.int .i32, ZC.int .i32]⟩,
  ⟨true, .struct [(0, 1, 12), (1, 1, 12), (2, 1, 116), (3, 1, 117), (4, 1, 5), (5, 1, 5), (6, 1, 118), (7, 1, 119), (8, 1, 120), (9, 1, 121), (10, 1, 122)], 11, 48, [ZC.int .u64, ZC.int .u64, ZC.int .u32, ZC.int .u8, ZC.int .u8, ZC.int .u8, ZC.int .u8, ZC.func, ZC.ptr, ZC.int .i32, ZC.int .i32]⟩,
  ⟨false, .other, 0, 0, []⟩]
def ti (t : Nat) : TI := (nthL tis t).getD ⟨false, .other, 0, 0, []⟩
noncomputable def fn : Nat → Option Func
  | 3 => some Try.f3
  | 4 => some Try.f4
  | 5 => some Try.f5
  | 6 => some Try.f6
  | 7 => some Try.f7
  | 8 => some Try.f8
  | 9 => some Try.f9
  | 10 => some Try.f10
  | 11 => some Try.f11
  | 12 => some Try.f12
  | 13 => some Try.f13
  | 14 => some Try.f14
  | 15 => some Try.f15
  | 16 => some Try.f16
  | 17 => some Try.f17
  | 18 => some Try.f18
  | 19 => some Try.f19
  | 20 => some Try.f20
  | 21 => some Try.f21
  | 22 => some Try.f22
  | 23 => some Try.f23
  | 24 => some Try.f24
  | 25 => some Try.f25
  | 26 => some Try.f26
  | 27 => some Try.f27
  | 28 => some Try.f28
  | 29 => some Try.f29
  | 30 => some Try.f30
  | 31 => some Try.f31
  | 32 => some Try.f32
  | 33 => some Try.f33
  | 34 => some Try.f34
  | 35 => some Try.f35
  | 36 => some Try.f36
  | 37 => some Try.f37
  | 38 => some Try.f38
  | 39 => some Try.f39
  | 40 => some Try.f40
  | 41 => some Try.f41
  | 42 => some Try.f42
  | 43 => some Try.f43
  | 44 => some Try.f44
  | 45 => some Try.f45
  | 46 => some Try.f46
  | 47 => some Try.f47
  | 48 => some Try.f48
  | 49 => some Try.f49
  | 50 => some Try.f50
  | 51 => some Try.f51
  | 52 => some Try.f52
  | 53 => some Try.f53
  | 54 => some Try.f54
  | 55 => some Try.f55
  | 56 => some Try.f56
  | 57 => some Try.f57
  | 58 => some Try.f58
  | 59 => some Try.f59
  | 60 => some Try.f60
  | 61 => some Try.f61
  | 62 => some Try.f62
  | 63 => some Try.f63
  | 64 => some Try.f64
  | 65 => some Try.f65
  | 66 => some Try.f66
  | 67 => some Try.f67
  | 68 => some Try.f68
  | 69 => some Try.f69
  | 70 => some Try.f70
  | 71 => some Try.f71
  | 72 => some Try.f72
  | 73 => some Try.f73
  | 74 => some Try.f74
  | 75 => some Try.f75
  | 76 => some Try.f76
  | 77 => some Try.f77
  | 78 => some Try.f78
  | 79 => some Try.f79
  | 80 => some Try.f80
  | 81 => some Try.f81
  | 82 => some Try.f82
  | 83 => some Try.f83
  | 84 => some Try.f84
  | 85 => some Try.f85
  | 86 => some Try.f86
  | 87 => some Try.f87
  | 88 => some Try.f88
  | 89 => some Try.f89
  | 90 => some Try.f90
  | 91 => some Try.f91
  | 92 => some Try.f92
  | 93 => some Try.f93
  | 94 => some Try.f94
  | 95 => some Try.f95
  | 96 => some Try.f96
  | _ => none
def eqts : List Nat := [23, 25, 30, 45, 48, 70]
def eqt (t : Nat) : Bool := memN eqts t
noncomputable def env : Env where
  ti := ti
  fn := fn
  T := T
  d := dflt
  enc := enc
  dec := dec
  sz := sz
  has := has
  eqt := eqt
  enc_dec := enc_dec
  enc_sz := enc_sz
  enc_data := enc_data
def v3 (x : Int) : SV T := .int .i64 x
def u3 : SV T → Option Int := gI .i64
theorem u3_wk {s : SV T} {x : Int} (h : u3 s = some x) : WkV has s (v3 x) := by rw [gI_spec h]; exact .same _
def v4 (x : Bool) : SV T := .bool x
def u4 : SV T → Option Bool := gB
theorem u4_wk {s : SV T} {x : Bool} (h : u4 s = some x) : WkV has s (v4 x) := by rw [gB_spec h]; exact .same _
def v5 (x : Int) : SV T := .int .u8 x
def u5 : SV T → Option Int := gI .u8
theorem u5_wk {s : SV T} {x : Int} (h : u5 s = some x) : WkV has s (v5 x) := by rw [gI_spec h]; exact .same _
def v8 (x : boundsError) : SV T := .agg (encboundsError x)
def u8 (s : SV T) : Option boundsError := match s with | .agg cs => decboundsError cs | _ => none
theorem u8_wk {s : SV T} {x : boundsError} (h : u8 s = some x) : WkV has s (v8 x) := by
  unfold u8 at h; split at h
  · exact .agg (encboundsError_dec (by decide) _ _ h)
  · cases h
def v9 (x : ByteArray) : SV T := .str x
def u9 : SV T → Option ByteArray := gS
theorem u9_wk {s : SV T} {x : ByteArray} (h : u9 s = some x) : WkV has s (v9 x) := by rw [gS_spec h]; exact .same _
def v10 (x : ByteArray) : SV T := .str x
def u10 : SV T → Option ByteArray := gS
theorem u10_wk {s : SV T} {x : ByteArray} (h : u10 s = some x) : WkV has s (v10 x) := by rw [gS_spec h]; exact .same _
def v11 (x : ByteArray) : SV T := .str x
def u11 : SV T → Option ByteArray := gS
theorem u11_wk {s : SV T} {x : ByteArray} (h : u11 s = some x) : WkV has s (v11 x) := by rw [gS_spec h]; exact .same _
def v14 (x : errorAddressString) : SV T := .agg (encerrorAddressString x)
def u14 (s : SV T) : Option errorAddressString := match s with | .agg cs => decerrorAddressString cs | _ => none
theorem u14_wk {s : SV T} {x : errorAddressString} (h : u14 s = some x) : WkV has s (v14 x) := by
  unfold u14 at h; split at h
  · exact .agg (encerrorAddressString_dec (by decide) _ _ h)
  · cases h
def v24 (x : (List (List Queued))) : SV T := .dat 43 x
def u24 : SV T → Option (List (List Queued)) := asDat 43
theorem u24_wk {s : SV T} {x : (List (List Queued))} (h : u24 s = some x) : WkV has s (v24 x) := asDat_wkV h (by decide)
def v25 (x : List Int) : SV T := .agg [.arr .i64 8 x]
def u25 (s : SV T) : Option (List Int) := match s with | .agg [c] => gA .i64 8 c | _ => none
theorem u25_wk {s : SV T} {x : List Int} (h : u25 s = some x) : WkV has s (v25 x) := by
  unfold u25 at h; split at h
  · rw [gA_spec h]; exact .same _
  · cases h
def v28 (x : Queue) : SV T := .agg (encQueue x)
def u28 (s : SV T) : Option Queue := match s with | .agg cs => decQueue cs | _ => none
theorem u28_wk {s : SV T} {x : Queue} (h : u28 s = some x) : WkV has s (v28 x) := by
  unfold u28 at h; split at h
  · exact .agg (encQueue_dec (by decide) _ _ h)
  · cases h
def v30 (x : Packet) : SV T := .agg (encPacket x)
def u30 (s : SV T) : Option Packet := match s with | .agg cs => decPacket cs | _ => none
theorem u30_wk {s : SV T} {x : Packet} (h : u30 s = some x) : WkV has s (v30 x) := by
  unfold u30 at h; split at h
  · exact .agg (encPacket_dec (by decide) _ _ h)
  · cases h
def v33 (x : (List Packet)) : SV T := .dat 30 x
def u33 : SV T → Option (List Packet) := asDat 30
theorem u33_wk {s : SV T} {x : (List Packet)} (h : u33 s = some x) : WkV has s (v33 x) := asDat_wkV h (by decide)
def v34 (x : Int) : SV T := .int .i64 x
def u34 : SV T → Option Int := gI .i64
theorem u34_wk {s : SV T} {x : Int} (h : u34 s = some x) : WkV has s (v34 x) := by rw [gI_spec h]; exact .same _
def v42 (x : (List Step)) : SV T := .dat 48 x
def u42 : SV T → Option (List Step) := asDat 48
theorem u42_wk {s : SV T} {x : (List Step)} (h : u42 s = some x) : WkV has s (v42 x) := asDat_wkV h (by decide)
def v43 (x : (List Queued)) : SV T := .dat 45 x
def u43 : SV T → Option (List Queued) := asDat 45
theorem u43_wk {s : SV T} {x : (List Queued)} (h : u43 s = some x) : WkV has s (v43 x) := asDat_wkV h (by decide)
def v62 (x : (List Int)) : SV T := .dat 5 x
def u62 : SV T → Option (List Int) := asDat 5
theorem u62_wk {s : SV T} {x : (List Int)} (h : u62 s = some x) : WkV has s (v62 x) := asDat_wkV h (by decide)
def v65 (x : (List Int)) : SV T := .dat 3 x
def u65 : SV T → Option (List Int) := asDat 3
theorem u65_wk {s : SV T} {x : (List Int)} (h : u65 s = some x) : WkV has s (v65 x) := asDat_wkV h (by decide)
def v67 (x : Receiver) : SV T := .agg (encReceiver x)
def u67 (s : SV T) : Option Receiver := match s with | .agg cs => decReceiver cs | _ => none
theorem u67_wk {s : SV T} {x : Receiver} (h : u67 s = some x) : WkV has s (v67 x) := by
  unfold u67 at h; split at h
  · exact .agg (encReceiver_dec (by decide) _ _ h)
  · cases h
def v70 (x : Ack) : SV T := .agg (encAck x)
def u70 (s : SV T) : Option Ack := match s with | .agg cs => decAck cs | _ => none
theorem u70_wk {s : SV T} {x : Ack} (h : u70 s = some x) : WkV has s (v70 x) := by
  unfold u70 at h; split at h
  · exact .agg (encAck_dec (by decide) _ _ h)
  · cases h
def v118 (x : Int) : SV T := .int .u8 x
def u118 : SV T → Option Int := gI .u8
theorem u118_wk {s : SV T} {x : Int} (h : u118 s = some x) : WkV has s (v118 x) := by rw [gI_spec h]; exact .same _
theorem tab : TabOk Try.prog env := by
  refine tab_of (N := 126) (by kernel_rfl) (fun t ht => ?_) ?_ (by kernel_rfl) (fun t ht => List.all_eq_true.1 (show eqts.all (fun t => eqZ Try.prog (ti t) t) = true from by kernel_rfl) t (memN_spec.1 ht))
  · show ti t = _
    unfold ti
    have : ∀ (l : List TI) (t : Nat), l.length ≤ t → nthL l t = none := by
      intro l
      induction l with
      | nil => intro t _; rfl
      | cons a r ih => intro t ht; cases t with | zero => simp at ht | succ t => exact ih t (by simpa using ht)
    rw [this tis t (by simpa [tis] using ht)]; rfl
  · intro f g h
    change fn f = some g at h
    unfold fn at h
    split at h
    · cases h; exact ⟨by kernel_rfl, by kernel_rfl⟩
    · cases h; exact ⟨by kernel_rfl, by kernel_rfl⟩
    · cases h; exact ⟨by kernel_rfl, by kernel_rfl⟩
    · cases h; exact ⟨by kernel_rfl, by kernel_rfl⟩
    · cases h; exact ⟨by kernel_rfl, by kernel_rfl⟩
    · cases h; exact ⟨by kernel_rfl, by kernel_rfl⟩
    · cases h; exact ⟨by kernel_rfl, by kernel_rfl⟩
    · cases h; exact ⟨by kernel_rfl, by kernel_rfl⟩
    · cases h; exact ⟨by kernel_rfl, by kernel_rfl⟩
    · cases h; exact ⟨by kernel_rfl, by kernel_rfl⟩
    · cases h; exact ⟨by kernel_rfl, by kernel_rfl⟩
    · cases h; exact ⟨by kernel_rfl, by kernel_rfl⟩
    · cases h; exact ⟨by kernel_rfl, by kernel_rfl⟩
    · cases h; exact ⟨by kernel_rfl, by kernel_rfl⟩
    · cases h; exact ⟨by kernel_rfl, by kernel_rfl⟩
    · cases h; exact ⟨by kernel_rfl, by kernel_rfl⟩
    · cases h; exact ⟨by kernel_rfl, by kernel_rfl⟩
    · cases h; exact ⟨by kernel_rfl, by kernel_rfl⟩
    · cases h; exact ⟨by kernel_rfl, by kernel_rfl⟩
    · cases h; exact ⟨by kernel_rfl, by kernel_rfl⟩
    · cases h; exact ⟨by kernel_rfl, by kernel_rfl⟩
    · cases h; exact ⟨by kernel_rfl, by kernel_rfl⟩
    · cases h; exact ⟨by kernel_rfl, by kernel_rfl⟩
    · cases h; exact ⟨by kernel_rfl, by kernel_rfl⟩
    · cases h; exact ⟨by kernel_rfl, by kernel_rfl⟩
    · cases h; exact ⟨by kernel_rfl, by kernel_rfl⟩
    · cases h; exact ⟨by kernel_rfl, by kernel_rfl⟩
    · cases h; exact ⟨by kernel_rfl, by kernel_rfl⟩
    · cases h; exact ⟨by kernel_rfl, by kernel_rfl⟩
    · cases h; exact ⟨by kernel_rfl, by kernel_rfl⟩
    · cases h; exact ⟨by kernel_rfl, by kernel_rfl⟩
    · cases h; exact ⟨by kernel_rfl, by kernel_rfl⟩
    · cases h; exact ⟨by kernel_rfl, by kernel_rfl⟩
    · cases h; exact ⟨by kernel_rfl, by kernel_rfl⟩
    · cases h; exact ⟨by kernel_rfl, by kernel_rfl⟩
    · cases h; exact ⟨by kernel_rfl, by kernel_rfl⟩
    · cases h; exact ⟨by kernel_rfl, by kernel_rfl⟩
    · cases h; exact ⟨by kernel_rfl, by kernel_rfl⟩
    · cases h; exact ⟨by kernel_rfl, by kernel_rfl⟩
    · cases h; exact ⟨by kernel_rfl, by kernel_rfl⟩
    · cases h; exact ⟨by kernel_rfl, by kernel_rfl⟩
    · cases h; exact ⟨by kernel_rfl, by kernel_rfl⟩
    · cases h; exact ⟨by kernel_rfl, by kernel_rfl⟩
    · cases h; exact ⟨by kernel_rfl, by kernel_rfl⟩
    · cases h; exact ⟨by kernel_rfl, by kernel_rfl⟩
    · cases h; exact ⟨by kernel_rfl, by kernel_rfl⟩
    · cases h; exact ⟨by kernel_rfl, by kernel_rfl⟩
    · cases h; exact ⟨by kernel_rfl, by kernel_rfl⟩
    · cases h; exact ⟨by kernel_rfl, by kernel_rfl⟩
    · cases h; exact ⟨by kernel_rfl, by kernel_rfl⟩
    · cases h; exact ⟨by kernel_rfl, by kernel_rfl⟩
    · cases h; exact ⟨by kernel_rfl, by kernel_rfl⟩
    · cases h; exact ⟨by kernel_rfl, by kernel_rfl⟩
    · cases h; exact ⟨by kernel_rfl, by kernel_rfl⟩
    · cases h; exact ⟨by kernel_rfl, by kernel_rfl⟩
    · cases h; exact ⟨by kernel_rfl, by kernel_rfl⟩
    · cases h; exact ⟨by kernel_rfl, by kernel_rfl⟩
    · cases h; exact ⟨by kernel_rfl, by kernel_rfl⟩
    · cases h; exact ⟨by kernel_rfl, by kernel_rfl⟩
    · cases h; exact ⟨by kernel_rfl, by kernel_rfl⟩
    · cases h; exact ⟨by kernel_rfl, by kernel_rfl⟩
    · cases h; exact ⟨by kernel_rfl, by kernel_rfl⟩
    · cases h; exact ⟨by kernel_rfl, by kernel_rfl⟩
    · cases h; exact ⟨by kernel_rfl, by kernel_rfl⟩
    · cases h; exact ⟨by kernel_rfl, by kernel_rfl⟩
    · cases h; exact ⟨by kernel_rfl, by kernel_rfl⟩
    · cases h; exact ⟨by kernel_rfl, by kernel_rfl⟩
    · cases h; exact ⟨by kernel_rfl, by kernel_rfl⟩
    · cases h; exact ⟨by kernel_rfl, by kernel_rfl⟩
    · cases h; exact ⟨by kernel_rfl, by kernel_rfl⟩
    · cases h; exact ⟨by kernel_rfl, by kernel_rfl⟩
    · cases h; exact ⟨by kernel_rfl, by kernel_rfl⟩
    · cases h; exact ⟨by kernel_rfl, by kernel_rfl⟩
    · cases h; exact ⟨by kernel_rfl, by kernel_rfl⟩
    · cases h; exact ⟨by kernel_rfl, by kernel_rfl⟩
    · cases h; exact ⟨by kernel_rfl, by kernel_rfl⟩
    · cases h; exact ⟨by kernel_rfl, by kernel_rfl⟩
    · cases h; exact ⟨by kernel_rfl, by kernel_rfl⟩
    · cases h; exact ⟨by kernel_rfl, by kernel_rfl⟩
    · cases h; exact ⟨by kernel_rfl, by kernel_rfl⟩
    · cases h; exact ⟨by kernel_rfl, by kernel_rfl⟩
    · cases h; exact ⟨by kernel_rfl, by kernel_rfl⟩
    · cases h; exact ⟨by kernel_rfl, by kernel_rfl⟩
    · cases h; exact ⟨by kernel_rfl, by kernel_rfl⟩
    · cases h; exact ⟨by kernel_rfl, by kernel_rfl⟩
    · cases h; exact ⟨by kernel_rfl, by kernel_rfl⟩
    · cases h; exact ⟨by kernel_rfl, by kernel_rfl⟩
    · cases h; exact ⟨by kernel_rfl, by kernel_rfl⟩
    · cases h; exact ⟨by kernel_rfl, by kernel_rfl⟩
    · cases h; exact ⟨by kernel_rfl, by kernel_rfl⟩
    · cases h; exact ⟨by kernel_rfl, by kernel_rfl⟩
    · cases h; exact ⟨by kernel_rfl, by kernel_rfl⟩
    · cases h; exact ⟨by kernel_rfl, by kernel_rfl⟩
    · cases h; exact ⟨by kernel_rfl, by kernel_rfl⟩
    · cases h
end Go.Vg.Ytgekegoflaichaa
