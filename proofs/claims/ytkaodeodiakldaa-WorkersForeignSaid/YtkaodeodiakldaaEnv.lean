/-
  The executor's tables of this seat: types, elements' data, functions. Written by a program of this work (genenv.py) out of the seat's translation; no condition.
-/
import Derived.Test.YtkaodeodiakldaaVgFn
import Derived.KernelRfl
import Derived.Test.YtkaodeodiakldaaProg
set_option maxRecDepth 100000
set_option maxHeartbeats 4000000
namespace Go.Vg.Ytkaodeodiakldaa
open Go.Vg Go.Proofs
structure Task where
  number : Int
  worker : Int
  from_ : Int
  to_ : Int
structure Packet where
  flow : Int
  sub : Int
  number : Int
  data : Int
  size : Int
  sent : Int
  able : Bool
  marked : Bool
structure Record where
  at_ : Int
  kind : Int
  a : Int
  p : Packet
structure Segment where
  from_ : Int
  to_ : Int
  begin_ : Int
  end_ : Int
  records : (List Record)
structure boundsError where
  x : Int
  y : Int
  signed : Bool
  code : Int
structure errorAddressString where
  msg : ByteArray
  addr : Int
structure stretch where
  from_ : Int
  to_ : Int
def T : Nat → Type
  | 3 => Int
  | 5 => Int
  | 32 => Segment
  | 39 => Task
  | 50 => Record
  | 59 => stretch
  | _ => Unit
instance : Inhabited Task := ⟨(⟨(0 : Int), (0 : Int), (0 : Int), (0 : Int)⟩ : Task)⟩
instance : Inhabited Packet := ⟨(⟨(0 : Int), (0 : Int), (0 : Int), (0 : Int), (0 : Int), (0 : Int), false, false⟩ : Packet)⟩
instance : Inhabited Record := ⟨(⟨(0 : Int), (0 : Int), (0 : Int), (⟨(0 : Int), (0 : Int), (0 : Int), (0 : Int), (0 : Int), (0 : Int), false, false⟩ : Packet)⟩ : Record)⟩
instance : Inhabited Segment := ⟨(⟨(0 : Int), (0 : Int), (0 : Int), (0 : Int), ([] : (List Record))⟩ : Segment)⟩
instance : Inhabited boundsError := ⟨(⟨(0 : Int), (0 : Int), false, (0 : Int)⟩ : boundsError)⟩
instance : Inhabited errorAddressString := ⟨(⟨ByteArray.empty, (0 : Int)⟩ : errorAddressString)⟩
instance : Inhabited stretch := ⟨(⟨(0 : Int), (0 : Int)⟩ : stretch)⟩
def dflt : ∀ e, T e
  | 3 => ((0 : Int) : Int)
  | 5 => ((0 : Int) : Int)
  | 32 => ((⟨(0 : Int), (0 : Int), (0 : Int), (0 : Int), ([] : (List Record))⟩ : Segment) : Segment)
  | 39 => ((⟨(0 : Int), (0 : Int), (0 : Int), (0 : Int)⟩ : Task) : Task)
  | 50 => ((⟨(0 : Int), (0 : Int), (0 : Int), (⟨(0 : Int), (0 : Int), (0 : Int), (0 : Int), (0 : Int), (0 : Int), false, false⟩ : Packet)⟩ : Record) : Record)
  | 59 => ((⟨(0 : Int), (0 : Int)⟩ : stretch) : stretch)
  | _ => by unfold T; split <;> first | exact () | exact (inferInstance : Inhabited _).default
def encTask (x : Task) : List (SV T) := [.int .i64 x.number, .int .i64 x.worker, .int .i64 x.from_, .int .i64 x.to_]
def decTask : List (SV T) → Option Task
  | [.int .i64 x1, .int .i64 x2, .int .i64 x3, .int .i64 x4] => some (⟨x1, x2, x3, x4⟩ : Task)
  | _ => none
theorem encTask_dec {has : Nat → Bool} (_hh : ∀ e ∈ [], has e = true) (cs : List (SV T)) (x : Task) (h : decTask cs = some x) : WkL has cs (encTask x) := by
  unfold decTask at h; split at h
  · cases h; exact (.cons _ (.cons _ (.cons _ (.cons _ .nil))))
  · cases h
def encPacket (x : Packet) : List (SV T) := [.int .i64 x.flow, .int .i64 x.sub, .int .i64 x.number, .int .i64 x.data, .int .i64 x.size, .int .i64 x.sent, .bool x.able, .bool x.marked]
def decPacket : List (SV T) → Option Packet
  | [.int .i64 x1, .int .i64 x2, .int .i64 x3, .int .i64 x4, .int .i64 x5, .int .i64 x6, .bool x7, .bool x8] => some (⟨x1, x2, x3, x4, x5, x6, x7, x8⟩ : Packet)
  | _ => none
theorem encPacket_dec {has : Nat → Bool} (_hh : ∀ e ∈ [], has e = true) (cs : List (SV T)) (x : Packet) (h : decPacket cs = some x) : WkL has cs (encPacket x) := by
  unfold decPacket at h; split at h
  · cases h; exact (.cons _ (.cons _ (.cons _ (.cons _ (.cons _ (.cons _ (.cons _ (.cons _ .nil))))))))
  · cases h
def encRecord (x : Record) : List (SV T) := [.int .i64 x.at_, .int .i64 x.kind, .int .i64 x.a, .int .i64 x.p.flow, .int .i64 x.p.sub, .int .i64 x.p.number, .int .i64 x.p.data, .int .i64 x.p.size, .int .i64 x.p.sent, .bool x.p.able, .bool x.p.marked]
def decRecord : List (SV T) → Option Record
  | [.int .i64 x1, .int .i64 x2, .int .i64 x3, .int .i64 x4, .int .i64 x5, .int .i64 x6, .int .i64 x7, .int .i64 x8, .int .i64 x9, .bool x10, .bool x11] => some (⟨x1, x2, x3, (⟨x4, x5, x6, x7, x8, x9, x10, x11⟩ : Packet)⟩ : Record)
  | _ => none
theorem encRecord_dec {has : Nat → Bool} (_hh : ∀ e ∈ [], has e = true) (cs : List (SV T)) (x : Record) (h : decRecord cs = some x) : WkL has cs (encRecord x) := by
  unfold decRecord at h; split at h
  · cases h; exact (.cons _ (.cons _ (.cons _ (.cons _ (.cons _ (.cons _ (.cons _ (.cons _ (.cons _ (.cons _ (.cons _ .nil)))))))))))
  · cases h
def encSegment (x : Segment) : List (SV T) := [.int .i64 x.from_, .int .i64 x.to_, .int .u64 x.begin_, .int .u64 x.end_, .dat 50 x.records]
def decSegment : List (SV T) → Option Segment
  | [.int .i64 x1, .int .i64 x2, .int .u64 x3, .int .u64 x4, x5] => match asDat 50 x5 with | some x5' => (some (⟨x1, x2, x3, x4, x5'⟩ : Segment)) | none => none
  | _ => none
theorem encSegment_dec {has : Nat → Bool} (_hh : ∀ e ∈ [50], has e = true) (cs : List (SV T)) (x : Segment) (h : decSegment cs = some x) : WkL has cs (encSegment x) := by
  unfold decSegment at h; split at h
  · split at h
    · rename_i h0; cases h; exact (.cons _ (.cons _ (.cons _ (.cons _ (asDat_spec h0 (_hh 50 (by simp)) .nil)))))
    · cases h
  · cases h
def encboundsError (x : boundsError) : List (SV T) := [.int .i64 x.x, .int .i64 x.y, .bool x.signed, .int .u8 x.code]
def decboundsError : List (SV T) → Option boundsError
  | [.int .i64 x1, .int .i64 x2, .bool x3, .int .u8 x4] => some (⟨x1, x2, x3, x4⟩ : boundsError)
  | _ => none
theorem encboundsError_dec {has : Nat → Bool} (_hh : ∀ e ∈ [], has e = true) (cs : List (SV T)) (x : boundsError) (h : decboundsError cs = some x) : WkL has cs (encboundsError x) := by
  unfold decboundsError at h; split at h
  · cases h; exact (.cons _ (.cons _ (.cons _ (.cons _ .nil))))
  · cases h
def encerrorAddressString (x : errorAddressString) : List (SV T) := [.str x.msg, .int .u64 x.addr]
def decerrorAddressString : List (SV T) → Option errorAddressString
  | [.str x1, .int .u64 x2] => some (⟨x1, x2⟩ : errorAddressString)
  | _ => none
theorem encerrorAddressString_dec {has : Nat → Bool} (_hh : ∀ e ∈ [], has e = true) (cs : List (SV T)) (x : errorAddressString) (h : decerrorAddressString cs = some x) : WkL has cs (encerrorAddressString x) := by
  unfold decerrorAddressString at h; split at h
  · cases h; exact (.cons _ (.cons _ .nil))
  · cases h
def encstretch (x : stretch) : List (SV T) := [.int .i64 x.from_, .int .i64 x.to_]
def decstretch : List (SV T) → Option stretch
  | [.int .i64 x1, .int .i64 x2] => some (⟨x1, x2⟩ : stretch)
  | _ => none
theorem encstretch_dec {has : Nat → Bool} (_hh : ∀ e ∈ [], has e = true) (cs : List (SV T)) (x : stretch) (h : decstretch cs = some x) : WkL has cs (encstretch x) := by
  unfold decstretch at h; split at h
  · cases h; exact (.cons _ (.cons _ .nil))
  · cases h
def encE3 (x : Int) : List (SV T) := [.int .i64 x]
def decE3 : List (SV T) → Option Int
  | [.int .i64 x1] => some x1
  | _ => none
theorem encE3_dec {has : Nat → Bool} (_hh : ∀ e ∈ [], has e = true) (cs : List (SV T)) (x : Int) (h : decE3 cs = some x) : WkL has cs (encE3 x) := by
  unfold decE3 at h; split at h
  · cases h; exact (.cons _ .nil)
  · cases h
def encE5 (x : Int) : List (SV T) := [.int .u8 x]
def decE5 : List (SV T) → Option Int
  | [.int .u8 x1] => some x1
  | _ => none
theorem encE5_dec {has : Nat → Bool} (_hh : ∀ e ∈ [], has e = true) (cs : List (SV T)) (x : Int) (h : decE5 cs = some x) : WkL has cs (encE5 x) := by
  unfold decE5 at h; split at h
  · cases h; exact (.cons _ .nil)
  · cases h
def enc : ∀ e, T e → List (SV T)
  | 3, (x : Int) => encE3 x
  | 5, (x : Int) => encE5 x
  | 32, (x : Segment) => encSegment x
  | 39, (x : Task) => encTask x
  | 50, (x : Record) => encRecord x
  | 59, (x : stretch) => encstretch x
  | _, _ => []
def dec : ∀ e, List (SV T) → Option (T e)
  | 3, cs => ((decE3 cs) : Option Int)
  | 5, cs => ((decE5 cs) : Option Int)
  | 32, cs => ((decSegment cs) : Option Segment)
  | 39, cs => ((decTask cs) : Option Task)
  | 50, cs => ((decRecord cs) : Option Record)
  | 59, cs => ((decstretch cs) : Option stretch)
  | _, _ => none
def sz : Nat → Nat
  | 3 => 1
  | 5 => 1
  | 32 => 5
  | 39 => 4
  | 50 => 11
  | 59 => 2
  | _ => 0
def elems : List Nat := [3, 5, 32, 39, 50, 59]
def has (e : Nat) : Bool := elems.any (Nat.beq e)
theorem has_mem {e : Nat} (h : has e = true) : e = 3 ∨ e = 5 ∨ e = 32 ∨ e = 39 ∨ e = 50 ∨ e = 59 := by
  simp only [has, elems, List.any_cons, List.any_nil, Bool.or_eq_true, Bool.or_false] at h
  rcases h with h | h | h | h | h | h
  · exact (.inl (Nat.eq_of_beq_eq_true h))
  · exact (.inr (.inl (Nat.eq_of_beq_eq_true h)))
  · exact (.inr (.inr (.inl (Nat.eq_of_beq_eq_true h))))
  · exact (.inr (.inr (.inr (.inl (Nat.eq_of_beq_eq_true h)))))
  · exact (.inr (.inr (.inr (.inr (.inl (Nat.eq_of_beq_eq_true h))))))
  · exact (.inr (.inr (.inr (.inr (.inr (Nat.eq_of_beq_eq_true h))))))
theorem enc_dec (e : Nat) (cs : List (SV T)) (x : T e) (h : has e = true) (hd : dec e cs = some x) : WkL has cs (enc e x) := by
  rcases has_mem h with rfl | rfl | rfl | rfl | rfl | rfl
  · exact encE3_dec (by decide) cs x hd
  · exact encE5_dec (by decide) cs x hd
  · exact encSegment_dec (by decide) cs x hd
  · exact encTask_dec (by decide) cs x hd
  · exact encRecord_dec (by decide) cs x hd
  · exact encstretch_dec (by decide) cs x hd
theorem enc_sz (e : Nat) (x : T e) (h : has e = true) : widths0 (enc e x) = sz e := by
  rcases has_mem h with rfl | rfl | rfl | rfl | rfl | rfl <;> kernel_rfl
theorem enc_data (e : Nat) (x : T e) (h : has e = true) : allData (enc e x) = true := by
  rcases has_mem h with rfl | rfl | rfl | rfl | rfl | rfl <;> kernel_rfl
def tis : List TI := [
  ⟨false, .other, 0, 0, []⟩,
  ⟨true, .other, 1, 8, [ZC.func]⟩,
  ⟨true, .int .i64, 1, 8, [ZC.int .i64]⟩,
  ⟨true, .int .i64, 1, 8, [ZC.int .i64]⟩,
  ⟨true, .bool, 1, 1, [ZC.bool]⟩,
  ⟨true, .int .u8, 1, 1, [ZC.int .u8]⟩,
  ⟨true, .int .u8, 1, 1, [ZC.int .u8]⟩,
  ⟨true, .struct [(0, 1, 2), (1, 1, 3), (2, 1, 4), (3, 1, 6)], 4, 24, [ZC.int .i64, ZC.int .i64, ZC.bool, ZC.int .u8]⟩,
  ⟨true, .struct [(0, 1, 2), (1, 1, 3), (2, 1, 4), (3, 1, 6)], 4, 24, [ZC.int .i64, ZC.int .i64, ZC.bool, ZC.int .u8]⟩,
  ⟨true, .string, 1, 16, [ZC.str]⟩,
  ⟨true, .string, 1, 16, [ZC.str]⟩,
  ⟨true, .string, 1, 16, [ZC.str]⟩,
  ⟨true, .int .u64, 1, 8, [ZC.int .u64]⟩,
  ⟨true, .struct [(0, 1, 9), (1, 1, 12)], 2, 24, [ZC.str, ZC.int .u64]⟩,
  ⟨true, .struct [(0, 1, 9), (1, 1, 12)], 2, 24, [ZC.str, ZC.int .u64]⟩,
  ⟨true, .other, 1, 8, [ZC.ptr]⟩,
  ⟨true, .other, 1, 8, [ZC.ptr]⟩,
  ⟨true, .other, 1, 8, [ZC.ptr]⟩,
  ⟨true, .struct [(0, 1, 17)], 1, 8, [ZC.ptr]⟩,
  ⟨true, .struct [(0, 1, 17)], 1, 8, [ZC.ptr]⟩,
  ⟨true, .other, 1, 16, [ZC.iface]⟩,
  ⟨true, .int .i32, 1, 4, [ZC.int .i32]⟩,
  ⟨true, .slice 39, 1, 24, [ZC.slice]⟩,
  ⟨true, .slice 32, 1, 24, [ZC.slice]⟩,
  ⟨true, .other, 1, 8, [ZC.func]⟩,
  ⟨true, .other, 1, 8, [ZC.func]⟩,
  ⟨true, .int .i64, 1, 8, [ZC.int .i64]⟩,
  ⟨false, .other, 0, 0, []⟩,
  ⟨true, .other, 1, 8, [ZC.func]⟩,
  ⟨true, .int .u64, 1, 8, [ZC.int .u64]⟩,
  ⟨true, .slice 50, 1, 24, [ZC.slice]⟩,
  ⟨true, .struct [(0, 1, 3), (1, 1, 3), (2, 1, 29), (3, 1, 29), (4, 1, 30)], 5, 56, [ZC.int .i64, ZC.int .i64, ZC.int .u64, ZC.int .u64, ZC.slice]⟩,
  ⟨true, .struct [(0, 1, 3), (1, 1, 3), (2, 1, 29), (3, 1, 29), (4, 1, 30)], 5, 56, [ZC.int .i64, ZC.int .i64, ZC.int .u64, ZC.int .u64, ZC.slice]⟩,
  ⟨false, .other, 0, 0, []⟩,
  ⟨true, .other, 1, 8, [ZC.func]⟩,
  ⟨true, .other, 1, 8, [ZC.func]⟩,
  ⟨true, .other, 1, 8, [ZC.func]⟩,
  ⟨true, .other, 1, 8, [ZC.func]⟩,
  ⟨true, .struct [(0, 1, 3), (1, 1, 3), (2, 1, 3), (3, 1, 3)], 4, 32, [ZC.int .i64, ZC.int .i64, ZC.int .i64, ZC.int .i64]⟩,
  ⟨true, .struct [(0, 1, 3), (1, 1, 3), (2, 1, 3), (3, 1, 3)], 4, 32, [ZC.int .i64, ZC.int .i64, ZC.int .i64, ZC.int .i64]⟩,
  ⟨true, .array 8 3, 8, 64, [ZC.arr .i64 8]⟩,
  ⟨true, .other, 1, 8, [ZC.func]⟩,
  ⟨true, .slice 5, 1, 24, [ZC.slice]⟩,
  ⟨true, .other, 1, 8, [ZC.func]⟩,
  ⟨true, .other, 1, 8, [ZC.func]⟩,
  ⟨true, .other, 1, 8, [ZC.func]⟩,
  ⟨true, .other, 1, 8, [ZC.func]⟩,
  ⟨true, .struct [(0, 1, 3), (1, 1, 3), (2, 1, 3), (3, 1, 3), (4, 1, 3), (5, 1, 3), (6, 1, 4), (7, 1, 4)], 8, 56, [ZC.int .i64, ZC.int .i64, ZC.int .i64, ZC.int .i64, ZC.int .i64, ZC.int .i64, ZC.bool, ZC.bool]⟩,
  ⟨true, .struct [(0, 1, 3), (1, 1, 3), (2, 1, 3), (3, 1, 3), (4, 1, 3), (5, 1, 3), (6, 1, 4), (7, 1, 4)], 8, 56, [ZC.int .i64, ZC.int .i64, ZC.int .i64, ZC.int .i64, ZC.int .i64, ZC.int .i64, ZC.bool, ZC.bool]⟩,
  ⟨true, .struct [(0, 1, 3), (1, 1, 3), (2, 1, 3), (3, 8, 48)], 11, 80, [ZC.int .i64, ZC.int .i64, ZC.int .i64, ZC.int .i64, ZC.int .i64, ZC.int .i64, ZC.int .i64, ZC.int .i64, ZC.int .i64, ZC.bool, ZC.bool]⟩,
  ⟨true, .struct [(0, 1, 3), (1, 1, 3), (2, 1, 3), (3, 8, 48)], 11, 80, [ZC.int .i64, ZC.int .i64, ZC.int .i64, ZC.int .i64, ZC.int .i64, ZC.int .i64, ZC.int .i64, ZC.int .i64, ZC.int .i64, ZC.bool, ZC.bool]⟩,
  ⟨true, .other, 1, 8, [ZC.func]⟩,
  ⟨true, .other, 1, 8, [ZC.func]⟩,
  ⟨true, .other, 1, 8, [ZC.func]⟩,
  ⟨true, .other, 1, 8, [ZC.func]⟩,
  ⟨true, .other, 1, 8, [ZC.func]⟩,
  ⟨true, .other, 1, 8, [ZC.func]⟩,
  ⟨true, .other, 1, 8, [ZC.func]⟩,
  ⟨true, .struct [(0, 1, 3), (1, 1, 3)], 2, 16, [ZC.int .i64, ZC.int .i64]⟩,
  ⟨true, .struct [(0, 1, 3), (1, 1, 3)], 2, 16, [ZC.int .i64, ZC.int .i64]⟩,
  ⟨true, .other, 1, 8, [ZC.func]⟩,
  ⟨true, .other, 1, 8, [ZC.func]⟩,
  ⟨true, .other, 1, 8, [ZC.func]⟩,
  ⟨true, .map 59 3, 1, 8, [ZC.map]⟩,
  ⟨true, .other, 1, 8, [ZC.func]⟩,
  ⟨true, .other, 1, 8, [ZC.func]⟩,
  ⟨false, .other, 0, 0, []⟩,
  ⟨true, .other, 1, 8, [ZC.func]⟩,
  ⟨true, .other, 1, 8, [ZC.func]⟩,
  ⟨true, .other, 1, 8, [ZC.func]⟩,
  ⟨true, .other, 1, 8, [ZC.func]⟩,
  ⟨true, .other, 1, 8, [ZC.func]⟩,
  ⟨true, .slice 3, 1, 24, [ZC.slice]⟩,
  ⟨true, .other, 1, 8, [ZC.func]⟩,
  ⟨true, .other, 1, 8, [ZC.func]⟩,
  ⟨true, .other, 1, 8, [ZC.func]⟩,
  ⟨true, .other, 1, 8, [ZC.func]⟩,
  ⟨true, .other, 1, 8, [ZC.func]⟩,
  ⟨true, .other, 1, 8, [ZC.func]⟩,
  ⟨true, .other, 1, 8, [ZC.func]⟩,
  ⟨true, .other, 1, 8, [ZC.func]⟩,
  ⟨true, .other, 1, 8, [ZC.func]⟩,
  ⟨true, .other, 1, 8, [ZC.func]⟩,
  ⟨true, .other, 1, 8, [ZC.func]⟩,
  ⟨true, .int .u64, 1, 8, [ZC.int .u64]⟩,
  ⟨true, .array 10 3, 10, 80, [ZC.arr .i64 10]⟩,
  ⟨true, .other, 1, 8, [ZC.func]⟩,
  ⟨true, .other, 1, 8, [ZC.func]⟩,
  ⟨true, .int .i64, 1, 8, [ZC.int .i64]⟩,
  ⟨false, .other, 0, 0, []⟩,
  ⟨true, .other, 1, 8, [ZC.func]⟩,
  ⟨true, .other, 1, 8, [ZC.func]⟩,
  ⟨true, .other, 1, 8, [ZC.func]⟩,
  ⟨true, .other, 1, 8, [ZC.func]⟩,
  ⟨true, .other, 1, 8, [ZC.func]⟩,
  ⟨true, .int .u32, 1, 4, [ZC.int .u32]⟩,
  ⟨true, .other, 1, 8, [ZC.func]⟩,
  ⟨true, .int .u64, 1, 8, [ZC.int .u64]⟩,
  ⟨true, .other, 1, 8, [ZC.func]⟩,
  ⟨true, .other, 1, 8, [ZC.func]⟩,
  ⟨true, .other, 1, 8, [ZC.func]⟩,
  ⟨true, .other, 1, 8, [ZC.ptr]⟩,
  ⟨true, .other, 1, 8, [ZC.func]⟩,
  ⟨true, .other, 1, 8, [ZC.ptr]⟩,
  ⟨false, .other, 0, 0, []⟩,
  ⟨true, .other, 1, 8, [ZC.func]⟩,
  ⟨true, .other, 1, 8, [ZC.func]⟩,
  ⟨true, .struct [(0, 1, 17), (1, 1, 17), (2, 1, 17), (3, 1, 9)], 4, 40, [ZC.ptr, ZC.ptr, ZC.ptr, ZC.str]⟩,
  ⟨true, .struct [(0, 1, 17), (1, 1, 17), (2, 1, 17), (3, 1, 9)], 4, 40, [ZC.ptr, ZC.ptr, ZC.ptr, ZC.str]⟩,
  ⟨true, .array 0 16, 0, 0, []⟩,
  ⟨true, .struct [(0, 0, 109)], 0, 0, []⟩,
  ⟨true, .struct [(0, 0, 109)], 0, 0, []⟩,
  ⟨true, .other, 1, 8, [ZC.func]⟩,
  ⟨true, .int .u8, 1, 1, [ZC.int .u8]⟩,
  ⟨true, .int .u8, 1, 1, [ZC.int .u8]⟩,
  ⟨true, .other, 1, 8, [ZC.func]⟩,
  ⟨true, .other, 1, 8, [ZC.ptr]⟩,
  ⟨true, .int .i32, 1, 4, [ZC.int .i32]⟩,
  ⟨true, .int .i32, 1, 4, [ZC.int .i32]⟩,
  ⟨true, .struct [(0, 1, 12), (1, 1, 12), (2, 1, 95), (3, 1, 113), (4, 1, 5), (5, 1, 5), (6, 1, 114), (7, 1, 115), (8, 1, 116), (9, 1, 117), (10, 1, 118)], 11, 48, [ZC.int .u64, ZC.int .u64, ZC.int .u32, ZC.int .u8, ZC.int .u8, ZC.int .u8, ZC.int .u8, ZC.func, ZC.ptr, ZC.int .i32, ZC.int .i32]⟩,
  ⟨true, .struct [(0, 1, 12), (1, 1, 12), (2, 1, 95), (3, 1, 113), (4, 1, 5), (5, 1, 5), (6, 1, 114), (7, 1, 115), (8, 1, 116), (9, 1, 117), (10, 1, 118)], 11, 48, [ZC.int .u64, ZC.int .u64, ZC.int .u32, ZC.int .u8, ZC.int .u8, ZC.int .u8, ZC.int .u8, ZC.func, ZC.ptr, ZC.int .i32, ZC.int .i32]⟩,
  ⟨false, .other, 0, 0, []⟩]
def ti (t : Nat) : TI := (nthL tis t).getD ⟨false, .other, 0, 0, []⟩
noncomputable def fns : List Func := [Try.f3, Try.f4, Try.f5, Try.f6, Try.f7, Try.f8, Try.f9, Try.f10, Try.f11, Try.f12, Try.f13, Try.f14, Try.f15, Try.f16, Try.f17, Try.f18, Try.f19, Try.f20, Try.f21, Try.f22, Try.f23, Try.f24, Try.f25, Try.f26, Try.f27, Try.f28, Try.f29, Try.f30, Try.f31, Try.f32, Try.f33, Try.f34, Try.f35, Try.f36, Try.f37, Try.f38, Try.f39, Try.f40, Try.f41, Try.f42, Try.f43, Try.f44, Try.f45, Try.f46, Try.f47, Try.f48, Try.f49, Try.f50, Try.f51, Try.f52, Try.f53, Try.f54, Try.f55, Try.f56, Try.f57, Try.f58, Try.f59, Try.f60, Try.f61, Try.f62, Try.f63, Try.f64, Try.f65, Try.f66, Try.f67, Try.f68, Try.f69, Try.f70, Try.f71, Try.f72, Try.f73, Try.f74, Try.f75, Try.f76, Try.f77, Try.f78, Try.f79, Try.f80, Try.f81, Try.f82]
noncomputable def fn (f : Nat) : Option Func := match Nat.ble 3 f with
  | true => nthL fns (f - 3)
  | false => none
def eqts : List Nat := [39, 40, 48, 50, 59, 85]
def eqt (t : Nat) : Bool := memN eqts t
def koks : List Nat := [3, 59]
def kok (t : Nat) : Bool := koks.any (Nat.beq t)
theorem kok_mem {e : Nat} (h : kok e = true) : e = 3 ∨ e = 59 := by
  simp only [kok, koks, List.any_cons, List.any_nil, Bool.or_eq_true, Bool.or_false] at h
  rcases h with h | h
  · exact (.inl (Nat.eq_of_beq_eq_true h))
  · exact (.inr (Nat.eq_of_beq_eq_true h))
def ints : Nat → Option IntKind
  | 3 => some .i64
  | 5 => some .u8
  | _ => none
def asL : ∀ e, List (T e) → List Int
  | 3, l => l
  | 5, l => l
  | _, _ => []
theorem ints_asL (e : Nat) (k : IntKind) (l : List (T e)) (h : ints e = some k) : l.flatMap (enc e) = (asL e l).map (SV.int k) ∧ (asL e l).length = l.length := by
  have one : ∀ (k : IntKind) (l : List Int), l.flatMap (fun x => [SV.int (T := T) k x]) = l.map (SV.int k) := by
    intro k l
    induction l with
    | nil => rfl
    | cons x r ih => rw [List.flatMap_cons, ih]; rfl
  unfold ints at h
  split at h
  · cases h; exact ⟨one _ l, rfl⟩
  · cases h; exact ⟨one _ l, rfl⟩
  · cases h
noncomputable def env : Env where
  ti := ti
  fn := fn
  T := T
  d := dflt
  enc := enc
  dec := dec
  sz := sz
  has := has
  eqt := eqt
  kok := kok
  ints := ints
  asL := asL
  enc_dec := enc_dec
  enc_sz := enc_sz
  enc_data := enc_data
  ints_asL := ints_asL
def v3 (x : Int) : SV T := .int .i64 x
def u3 : SV T → Option Int := gI .i64
theorem u3_wk {s : SV T} {x : Int} (h : u3 s = some x) : WkV has s (v3 x) := by rw [gI_spec h]; exact .same _
def v4 (x : Bool) : SV T := .bool x
def u4 : SV T → Option Bool := gB
theorem u4_wk {s : SV T} {x : Bool} (h : u4 s = some x) : WkV has s (v4 x) := by rw [gB_spec h]; exact .same _
def v5 (x : Int) : SV T := .int .u8 x
def u5 : SV T → Option Int := gI .u8
theorem u5_wk {s : SV T} {x : Int} (h : u5 s = some x) : WkV has s (v5 x) := by rw [gI_spec h]; exact .same _
def v8 (x : boundsError) : SV T := .agg (encboundsError x)
def u8 (s : SV T) : Option boundsError := match s with | .agg cs => decboundsError cs | _ => none
theorem u8_wk {s : SV T} {x : boundsError} (h : u8 s = some x) : WkV has s (v8 x) := by
  unfold u8 at h; split at h
  · exact .agg (encboundsError_dec (by decide) _ _ h)
  · cases h
def v9 (x : ByteArray) : SV T := .str x
def u9 : SV T → Option ByteArray := gS
theorem u9_wk {s : SV T} {x : ByteArray} (h : u9 s = some x) : WkV has s (v9 x) := by rw [gS_spec h]; exact .same _
def v10 (x : ByteArray) : SV T := .str x
def u10 : SV T → Option ByteArray := gS
theorem u10_wk {s : SV T} {x : ByteArray} (h : u10 s = some x) : WkV has s (v10 x) := by rw [gS_spec h]; exact .same _
def v11 (x : ByteArray) : SV T := .str x
def u11 : SV T → Option ByteArray := gS
theorem u11_wk {s : SV T} {x : ByteArray} (h : u11 s = some x) : WkV has s (v11 x) := by rw [gS_spec h]; exact .same _
def v14 (x : errorAddressString) : SV T := .agg (encerrorAddressString x)
def u14 (s : SV T) : Option errorAddressString := match s with | .agg cs => decerrorAddressString cs | _ => none
theorem u14_wk {s : SV T} {x : errorAddressString} (h : u14 s = some x) : WkV has s (v14 x) := by
  unfold u14 at h; split at h
  · exact .agg (encerrorAddressString_dec (by decide) _ _ h)
  · cases h
def v22 (x : (List Task)) : SV T := .dat 39 x
def u22 : SV T → Option (List Task) := asDat 39
theorem u22_wk {s : SV T} {x : (List Task)} (h : u22 s = some x) : WkV has s (v22 x) := asDat_wkV h (by decide)
def v23 (x : (List Segment)) : SV T := .dat 32 x
def u23 : SV T → Option (List Segment) := asDat 32
theorem u23_wk {s : SV T} {x : (List Segment)} (h : u23 s = some x) : WkV has s (v23 x) := asDat_wkV h (by decide)
def v26 (x : Int) : SV T := .int .i64 x
def u26 : SV T → Option Int := gI .i64
theorem u26_wk {s : SV T} {x : Int} (h : u26 s = some x) : WkV has s (v26 x) := by rw [gI_spec h]; exact .same _
def v29 (x : Int) : SV T := .int .u64 x
def u29 : SV T → Option Int := gI .u64
theorem u29_wk {s : SV T} {x : Int} (h : u29 s = some x) : WkV has s (v29 x) := by rw [gI_spec h]; exact .same _
def v30 (x : (List Record)) : SV T := .dat 50 x
def u30 : SV T → Option (List Record) := asDat 50
theorem u30_wk {s : SV T} {x : (List Record)} (h : u30 s = some x) : WkV has s (v30 x) := asDat_wkV h (by decide)
def v32 (x : Segment) : SV T := .agg (encSegment x)
def u32 (s : SV T) : Option Segment := match s with | .agg cs => decSegment cs | _ => none
theorem u32_wk {s : SV T} {x : Segment} (h : u32 s = some x) : WkV has s (v32 x) := by
  unfold u32 at h; split at h
  · exact .agg (encSegment_dec (by decide) _ _ h)
  · cases h
def v42 (x : (List Int)) : SV T := .dat 5 x
def u42 : SV T → Option (List Int) := asDat 5
theorem u42_wk {s : SV T} {x : (List Int)} (h : u42 s = some x) : WkV has s (v42 x) := asDat_wkV h (by decide)
def v50 (x : Record) : SV T := .agg (encRecord x)
def u50 (s : SV T) : Option Record := match s with | .agg cs => decRecord cs | _ => none
theorem u50_wk {s : SV T} {x : Record} (h : u50 s = some x) : WkV has s (v50 x) := by
  unfold u50 at h; split at h
  · exact .agg (encRecord_dec (by decide) _ _ h)
  · cases h
def v63 (x : (List (stretch × Int))) : SV T := .mdat 59 3 x
def u63 : SV T → Option (List (stretch × Int)) := gM 59 3
theorem u63_wk {s : SV T} {x : (List (stretch × Int))} (h : u63 s = some x) : WkV has s (v63 x) := by rw [gM_spec h]; exact .same _
def v84 (x : Int) : SV T := .int .u64 x
def u84 : SV T → Option Int := gI .u64
theorem u84_wk {s : SV T} {x : Int} (h : u84 s = some x) : WkV has s (v84 x) := by rw [gI_spec h]; exact .same _
def v85 (x : List Int) : SV T := .agg [.arr .i64 10 x]
def u85 (s : SV T) : Option (List Int) := match s with | .agg [c] => gA .i64 10 c | _ => none
theorem u85_wk {s : SV T} {x : List Int} (h : u85 s = some x) : WkV has s (v85 x) := by
  unfold u85 at h; split at h
  · rw [gA_spec h]; exact .same _
  · cases h
def v88 (x : Int) : SV T := .int .i64 x
def u88 : SV T → Option Int := gI .i64
theorem u88_wk {s : SV T} {x : Int} (h : u88 s = some x) : WkV has s (v88 x) := by rw [gI_spec h]; exact .same _
def v95 (x : Int) : SV T := .int .u32 x
def u95 : SV T → Option Int := gI .u32
theorem u95_wk {s : SV T} {x : Int} (h : u95 s = some x) : WkV has s (v95 x) := by rw [gI_spec h]; exact .same _
def v114 (x : Int) : SV T := .int .u8 x
def u114 : SV T → Option Int := gI .u8
theorem u114_wk {s : SV T} {x : Int} (h : u114 s = some x) : WkV has s (v114 x) := by rw [gI_spec h]; exact .same _
def v36 (x : Nat) : SV T := .fn x []
def u36 (s : SV T) : Option Nat := match s with
  | .fn f [] => some f
  | _ => none
theorem u36_spec {s : SV T} {x : Nat} (h : u36 s = some x) : s = v36 x := by
  unfold u36 at h; split at h
  · cases h; rfl
  · cases h
theorem u36_wk {s : SV T} {x : Nat} (h : u36 s = some x) : WkV has s (v36 x) := by rw [u36_spec h]; exact .same _
def v10003 (x : Int) : SV T := .boxd 3 [v3 x] 0
def u10003 (s : SV T) : Option Int := match s with
  | .boxd t [s0] o => match Nat.beq t 3 with
    | true => match Nat.beq o 0 with
      | true => u3 s0
      | false => none
    | false => none
  | _ => none
theorem u10003_spec {s : SV T} {x : Int} (h : u10003 s = some x) : s = v10003 x := by
  unfold u10003 at h; split at h
  · split at h
    · rename_i ht; split at h
      · rename_i ho; have ht := Nat.eq_of_beq_eq_true ht; subst ht; have ho := Nat.eq_of_beq_eq_true ho; subst ho; unfold v10003; rw [gI_spec h] <;> try rfl
      · cases h
    · cases h
  · cases h
theorem u10003_wk {s : SV T} {x : Int} (h : u10003 s = some x) : WkV has s (v10003 x) := by rw [u10003_spec h]; exact .same _
def v76 (x : (Int × Int × Int)) : SV T := .fn 36 [v10003 x.1, v10003 x.2.1, v10003 x.2.2]
def u76 (s : SV T) : Option (Int × Int × Int) := match s with
  | .fn f [s0, s1, s2] => match Nat.beq f 36, u10003 s0, u10003 s1, u10003 s2 with
    | true, some x0, some x1, some x2 => some (x0, x1, x2)
    | _, _, _, _ => none
  | _ => none
theorem u76_spec {s : SV T} {x : (Int × Int × Int)} (h : u76 s = some x) : s = v76 x := by
  unfold u76 at h; split at h
  · split at h
    · rename_i hb h0 h1 h2; cases h; have hb := Nat.eq_of_beq_eq_true hb; subst hb; unfold v76; rw [u10003_spec h0, u10003_spec h1, u10003_spec h2] <;> try rfl
    · cases h
  · cases h
theorem u76_wk {s : SV T} {x : (Int × Int × Int)} (h : u76 s = some x) : WkV has s (v76 x) := by rw [u76_spec h]; exact .same _
def v10076 (x : (Int × Int × Int)) : SV T := .boxd 76 [v76 x] 0
def u10076 (s : SV T) : Option (Int × Int × Int) := match s with
  | .boxd t [s0] o => match Nat.beq t 76 with
    | true => match Nat.beq o 0 with
      | true => u76 s0
      | false => none
    | false => none
  | _ => none
theorem u10076_spec {s : SV T} {x : (Int × Int × Int)} (h : u10076 s = some x) : s = v10076 x := by
  unfold u10076 at h; split at h
  · split at h
    · rename_i ht; split at h
      · rename_i ho; have ht := Nat.eq_of_beq_eq_true ht; subst ht; have ho := Nat.eq_of_beq_eq_true ho; subst ho; unfold v10076; rw [u76_spec h] <;> try rfl
      · cases h
    · cases h
  · cases h
theorem u10076_wk {s : SV T} {x : (Int × Int × Int)} (h : u10076 s = some x) : WkV has s (v10076 x) := by rw [u10076_spec h]; exact .same _
def v56 (x : (Int × (Int × Int × Int))) : SV T := .fn 37 [v10003 x.1, v10076 x.2]
def u56 (s : SV T) : Option (Int × (Int × Int × Int)) := match s with
  | .fn f [s0, s1] => match Nat.beq f 37, u10003 s0, u10076 s1 with
    | true, some x0, some x1 => some (x0, x1)
    | _, _, _ => none
  | _ => none
theorem u56_spec {s : SV T} {x : (Int × (Int × Int × Int))} (h : u56 s = some x) : s = v56 x := by
  unfold u56 at h; split at h
  · split at h
    · rename_i hb h0 h1; cases h; have hb := Nat.eq_of_beq_eq_true hb; subst hb; unfold v56; rw [u10003_spec h0, u10076_spec h1] <;> try rfl
    · cases h
  · cases h
theorem u56_wk {s : SV T} {x : (Int × (Int × Int × Int))} (h : u56 s = some x) : WkV has s (v56 x) := by rw [u56_spec h]; exact .same _
def v10063 (x : (List (stretch × Int))) : SV T := .boxd 63 [v63 x] 0
def u10063 (s : SV T) : Option (List (stretch × Int)) := match s with
  | .boxd t [s0] o => match Nat.beq t 63 with
    | true => match Nat.beq o 0 with
      | true => u63 s0
      | false => none
    | false => none
  | _ => none
theorem u10063_spec {s : SV T} {x : (List (stretch × Int))} (h : u10063 s = some x) : s = v10063 x := by
  unfold u10063 at h; split at h
  · split at h
    · rename_i ht; split at h
      · rename_i ho; have ht := Nat.eq_of_beq_eq_true ht; subst ht; have ho := Nat.eq_of_beq_eq_true ho; subst ho; unfold v10063; rw [gM_spec h] <;> try rfl
      · cases h
    · cases h
  · cases h
theorem u10063_wk {s : SV T} {x : (List (stretch × Int))} (h : u10063 s = some x) : WkV has s (v10063 x) := by rw [u10063_spec h]; exact .same _
def v65 (x : (List (stretch × Int))) : SV T := .fn 26 [v10063 x]
def u65 (s : SV T) : Option (List (stretch × Int)) := match s with
  | .fn f [s0] => match Nat.beq f 26, u10063 s0 with
    | true, some x0 => some (x0)
    | _, _ => none
  | _ => none
theorem u65_spec {s : SV T} {x : (List (stretch × Int))} (h : u65 s = some x) : s = v65 x := by
  unfold u65 at h; split at h
  · split at h
    · rename_i hb h0; cases h; have hb := Nat.eq_of_beq_eq_true hb; subst hb; unfold v65; rw [u10063_spec h0] <;> try rfl
    · cases h
  · cases h
theorem u65_wk {s : SV T} {x : (List (stretch × Int))} (h : u65 s = some x) : WkV has s (v65 x) := by rw [u65_spec h]; exact .same _
def v10023 (x : (List Segment)) : SV T := .boxd 23 [v23 x] 0
def u10023 (s : SV T) : Option (List Segment) := match s with
  | .boxd t [s0] o => match Nat.beq t 23 with
    | true => match Nat.beq o 0 with
      | true => gD 32 s0
      | false => none
    | false => none
  | _ => none
theorem u10023_spec {s : SV T} {x : (List Segment)} (h : u10023 s = some x) : s = v10023 x := by
  unfold u10023 at h; split at h
  · split at h
    · rename_i ht; split at h
      · rename_i ho; have ht := Nat.eq_of_beq_eq_true ht; subst ht; have ho := Nat.eq_of_beq_eq_true ho; subst ho; unfold v10023; rw [gD_spec h] <;> try rfl
      · cases h
    · cases h
  · cases h
theorem u10023_wk {s : SV T} {x : (List Segment)} (h : u10023 s = some x) : WkV has s (v10023 x) := by rw [u10023_spec h]; exact .same _
def v69 (x : (List Segment)) : SV T := .fn 44 [v10023 x]
def u69 (s : SV T) : Option (List Segment) := match s with
  | .fn f [s0] => match Nat.beq f 44, u10023 s0 with
    | true, some x0 => some (x0)
    | _, _ => none
  | _ => none
theorem u69_spec {s : SV T} {x : (List Segment)} (h : u69 s = some x) : s = v69 x := by
  unfold u69 at h; split at h
  · split at h
    · rename_i hb h0; cases h; have hb := Nat.eq_of_beq_eq_true hb; subst hb; unfold v69; rw [u10023_spec h0] <;> try rfl
    · cases h
  · cases h
theorem u69_wk {s : SV T} {x : (List Segment)} (h : u69 s = some x) : WkV has s (v69 x) := by rw [u69_spec h]; exact .same _
def v10065 (x : (List (stretch × Int))) : SV T := .boxd 65 [v65 x] 0
def u10065 (s : SV T) : Option (List (stretch × Int)) := match s with
  | .boxd t [s0] o => match Nat.beq t 65 with
    | true => match Nat.beq o 0 with
      | true => u65 s0
      | false => none
    | false => none
  | _ => none
theorem u10065_spec {s : SV T} {x : (List (stretch × Int))} (h : u10065 s = some x) : s = v10065 x := by
  unfold u10065 at h; split at h
  · split at h
    · rename_i ht; split at h
      · rename_i ho; have ht := Nat.eq_of_beq_eq_true ht; subst ht; have ho := Nat.eq_of_beq_eq_true ho; subst ho; unfold v10065; rw [u65_spec h] <;> try rfl
      · cases h
    · cases h
  · cases h
theorem u10065_wk {s : SV T} {x : (List (stretch × Int))} (h : u10065 s = some x) : WkV has s (v10065 x) := by rw [u10065_spec h]; exact .same _
def v71 (x : (List (stretch × Int))) : SV T := .fn 29 [v10065 x]
def u71 (s : SV T) : Option (List (stretch × Int)) := match s with
  | .fn f [s0] => match Nat.beq f 29, u10065 s0 with
    | true, some x0 => some (x0)
    | _, _ => none
  | _ => none
theorem u71_spec {s : SV T} {x : (List (stretch × Int))} (h : u71 s = some x) : s = v71 x := by
  unfold u71 at h; split at h
  · split at h
    · rename_i hb h0; cases h; have hb := Nat.eq_of_beq_eq_true hb; subst hb; unfold v71; rw [u10065_spec h0] <;> try rfl
    · cases h
  · cases h
theorem u71_wk {s : SV T} {x : (List (stretch × Int))} (h : u71 s = some x) : WkV has s (v71 x) := by rw [u71_spec h]; exact .same _
theorem tab : TabOk Try.prog env := by
  refine tab_of (N := 122) (by kernel_rfl) (fun t ht => ?_) ?_ (by kernel_rfl) (fun t ht => List.all_eq_true.1 (show eqts.all (fun t => eqZ Try.prog (ti t) t) = true from by kernel_rfl) t (memN_spec.1 ht)) ?_
  · show ti t = _
    unfold ti
    have : ∀ (l : List TI) (t : Nat), l.length ≤ t → nthL l t = none := by
      intro l
      induction l with
      | nil => intro t _; rfl
      | cons a r ih => intro t ht; cases t with | zero => simp at ht | succ t => exact ih t (by simpa using ht)
    have h0 : tis.length = 122 := by kernel_rfl
    rw [this tis t (by omega)]; rfl
  · intro f g h
    change fn f = some g at h
    unfold fn at h
    split at h
    · rename_i h3
      have h3 := Nat.le_of_ble_eq_true h3
      rw [nthL_get] at h
      have e : fns = Try.prog.funcs.toList.drop 3 := by kernel_rfl
      have hn : fns.all (fun g => !(g.name == "runtime.NumGoroutine")) = true := by kernel_rfl
      refine ⟨?_, ?_⟩
      · rw [e, List.getElem?_drop, Array.getElem?_toList] at h
        rwa [show 3 + (f - 3) = f by omega] at h
      · have := List.all_eq_true.1 hn g (List.mem_of_getElem? h)
        simpa using this
    · cases h
  · intro e h
    rcases kok_mem h with rfl | rfl
    · exact ⟨rfl, by kernel_rfl, fun _ => rfl, by kernel_rfl, fun _ _ => ⟨_, rfl⟩, fun _ _ => ⟨_, rfl, rfl⟩⟩
    · exact ⟨rfl, by kernel_rfl, fun _ => rfl, by kernel_rfl, fun _ _ => ⟨_, rfl⟩, fun h => absurd (show (true : Bool) = false from h) (by decide)⟩
end Go.Vg.Ytkaodeodiakldaa
