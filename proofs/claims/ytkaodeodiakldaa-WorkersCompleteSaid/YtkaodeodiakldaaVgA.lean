/-
  An abstract executor over GoSem's code: its values, its states and its single operations. Own work of this seat's sessions; no condition.
-/
import Derived.Below
import Derived.Orders
import Derived.Scope
namespace Go.Vg

/-- An abstract value. 'dat e l': a slice that is only read, its elements (of type number e) are 'l'; 'row id': a slice of the call's own that fills the block named 'id' from its head; 'crow id n': one over a block of n cells that are known one by one; 'arr': n cells of an array of integers; 'aslice id off n': a slice over such an array in a block; 'map id': a map of the call's own; 'mdat': a map's contents, as data; 'boxd t cs off': a pointer to cells that are data. -/
inductive SV (T : Nat → Type) : Type where
  | any
  | int (k : IntKind) (n : Int)
  | bool (b : Bool)
  | str (s : ByteArray)
  | nilp
  | ptr (id : Nat) (off : Nat)
  | aptr (id : Nat) (off : Nat) (n : Nat) (i : Int)
  | nils
  | row (id : Nat)
  | crow (id : Nat) (n : Nat)
  | dat (e : Nat) (l : List (T e))
  | rptr (id : Nat) (i : Int) (off : Nat)
  | eptr (e : Nat) (l : List (T e)) (i : Int) (off : Nat)
  | aeptr (e : Nat) (l : List (T e)) (i : Int) (off : Nat) (n : Nat) (j : Int)
  | fn (f : Nat) (caps : List (SV T))
  | nilf
  | arr (k : IntKind) (n : Nat) (l : List Int)
  | aslice (id : Nat) (off : Nat) (n : Nat)
  | map (id : Nat)
  | mdat (kt vt : Nat) (l : List (T kt × T vt))
  | boxd (t : Nat) (cs : List (SV T)) (off : Nat)
  | yld (id : Nat)
  | agg (cs : List (SV T))
  | tup (vs : List (SV T))

mutual
/-- Data alone: nothing that names a block. -/
def isData {T : Nat → Type} (s : SV T) : Bool :=
  match s with
  | .int _ _ | .bool _ | .str _ | .nils | .dat _ _ | .nilp | .nilf | .arr _ _ _ | .mdat _ _ _ => true
  | .fn _ caps => allData caps
  | .boxd _ cs _ => allData cs
  | _ => false
def allData {T : Nat → Type} (l : List (SV T)) : Bool :=
  match l with
  | [] => true
  | s :: r => isData s && allData r
end
def width {T : Nat → Type} : SV T → Nat
  | .arr _ n _ => n
  | _ => 1
def widths0 {T : Nat → Type} : List (SV T) → Nat
  | [] => 0
  | s :: r => width s + widths0 r

/-- Cells that say as much or less: a nil slice is an empty one. -/
inductive WkL {T : Nat → Type} (has : Nat → Bool) : List (SV T) → List (SV T) → Prop
  | nil : WkL has [] []
  | cons (s) {r r'} : WkL has r r' → WkL has (s :: r) (s :: r')
  | nils (e) {r r'} : has e = true → WkL has r r' → WkL has (.nils :: r) (.dat e [] :: r')

/-- A read slice's elements. -/
def asDat {T : Nat → Type} (e : Nat) : SV T → Option (List (T e))
  | .nils => some []
  | .dat e' l => if h : e' = e then some (h ▸ l) else none
  | _ => none

theorem asDat_spec {T : Nat → Type} {has : Nat → Bool} {e : Nat} {s : SV T} {l : List (T e)} (h : asDat e s = some l) (he : has e = true) {r r' : List (SV T)} (hr : WkL has r r') : WkL has (s :: r) (.dat e l :: r') := by
  unfold asDat at h
  split at h
  · cases h; exact .nils e he hr
  · rename_i e' l'
    split at h
    · rename_i he'; subst he'; cases h; exact .cons _ hr
    · cases h
  · cases h

/-- A zero cell (or n integers' cells). -/
inductive ZC where
  | int (k : IntKind) | bool | str | slice | ptr | func | map | iface | arr (k : IntKind) (n : Nat) | no
/-- A type's kind; a struct's fields: place, size, type. -/
inductive TK where
  | struct (fs : List (Nat × Nat × Nat))
  | array (n e : Nat)
  | slice (e : Nat)
  | int (k : IntKind)
  | bool
  | string
  | map (k v : Nat)
  | other
/-- What the executor knows of a type. -/
structure TI where
  ok : Bool
  kind : TK
  size : Nat
  bytes : Nat
  zero : List ZC

/-- What is known of the types of slices' elements: their data, how they are laid into cells, and back; of types; of functions. -/
structure Env where
  ti : Nat → TI
  fn : Nat → Option Func
  T : Nat → Type
  d : ∀ e, T e
  enc : ∀ e, T e → List (SV T)
  dec : ∀ e, List (SV T) → Option (T e)
  sz : Nat → Nat
  has : Nat → Bool
  eqt : Nat → Bool
  kok : Nat → Bool
  ints : Nat → Option IntKind
  asL : ∀ e, List (T e) → List Int
  enc_dec : ∀ e cs x, has e = true → dec e cs = some x → WkL has cs (enc e x)
  enc_sz : ∀ e x, has e = true → widths0 (enc e x) = sz e
  enc_data : ∀ e x, has e = true → allData (enc e x) = true
  ints_asL : ∀ e k l, ints e = some k → l.flatMap (enc e) = (asL e l).map (SV.int k) ∧ (asL e l).length = l.length

inductive Ex where
  | normal
  | exit (id : Nat)
  | ret

/-- A range over a function that is under way: whose loop (function, first region of its body), how many temporaries its frame has and how many of the saved ones lie under them; ready, busy, done; the jump that is pending. -/
structure LoopI where
  fid : Nat
  rid : Nat
  ntm : Nat
  soff : Nat
  phase : Nat
  jump : Option Ex

inductive Blk (T : Nat → Type) : Type where
  | cells (t : Nat) (cs : List (SV T))
  | row (e : Nat) (l : List (T e))
  | map (kt vt : Nat) (l : List (T kt × T vt))
  | loop (L : LoopI)

inductive HS (T : Nat → Type) : Type where
  | free
  | dead
  | live (b : Blk T)

structure St (T : Nat → Type) : Type where
  tmps : List (SV T)
  heap : List (Nat × HS T)
  next : Nat
  saved : List (SV T)

variable {T : Nat → Type}

def nth : List (SV T) → Nat → SV T
  | [], _ => .any
  | s :: _, 0 => s
  | _ :: r, n + 1 => nth r n

def setNth : List (SV T) → Nat → SV T → List (SV T)
  | [], _, _ => []
  | _ :: r, 0, v => v :: r
  | s :: r, n + 1, v => s :: setNth r n v

def look : List (Nat × HS T) → Nat → HS T
  | [], _ => .free
  | p :: r, i => match Nat.beq p.1 i with
    | true => p.2
    | false => look r i

def setH : List (Nat × HS T) → Nat → HS T → List (Nat × HS T)
  | [], _, _ => []
  | p :: r, i, s => match Nat.beq p.1 i with
    | true => (p.1, s) :: setH r i s
    | false => p :: setH r i s

def St.put (st : St T) (dst : Option Nat) (v : SV T) : St T :=
  match dst with
  | some d => { st with tmps := setNth st.tmps d v }
  | none => st

def St.setBlk (st : St T) (id : Nat) (s : HS T) : St T := { st with heap := setH st.heap id s }

def kEq : IntKind → IntKind → Bool
  | .i8, .i8 | .i16, .i16 | .i32, .i32 | .i64, .i64 | .u8, .u8 | .u16, .u16 | .u32, .u32 | .u64, .u64 => true
  | _, _ => false

theorem kEq_eq {a b : IntKind} (h : kEq a b = true) : a = b := by cases a <;> cases b <;> simp_all [kEq]

def svOf : Value → SV T
  | .int k n => .int k n
  | .bool b => .bool b
  | .string s => .str s
  | .slice none 0 0 => .nils
  | .pointer none => .nilp
  | .nilFunc => .nilf
  | _ => .any

def ev (tmps : List (SV T)) : Operand → SV T
  | .tmp t => nth tmps t
  | .const v => svOf v
  | .func f => .fn f []
  | .global _ => .any

def cellsOfV : SV T → List (SV T)
  | .agg cs => cs
  | v => [v]

abbrev widths (cs : List (SV T)) : Nat := widths0 cs

/-- The entries from cell 'off' on; none where 'off' lies inside an entry. -/
def dropC : List (SV T) → Nat → Option (List (SV T))
  | cs, 0 => some cs
  | [], _ + 1 => none
  | s :: r, off + 1 => match Nat.ble (width s) (off + 1) with
    | true => dropC r (off + 1 - width s)
    | false => none

/-- The first 'n' cells' entries. -/
def takeC : List (SV T) → Nat → Option (List (SV T))
  | _, 0 => some []
  | [], _ + 1 => none
  | s :: r, n + 1 => match Nat.ble (width s) (n + 1) with
    | true => (takeC r (n + 1 - width s)).map (s :: ·)
    | false => none

def subC (cs : List (SV T)) (off n : Nat) : Option (List (SV T)) := (dropC cs off).bind fun r => takeC r n

/-- One cell. -/
def cell1 : List (SV T) → Nat → SV T
  | [], _ => .any
  | s :: r, off => match Nat.ble (width s) off with
    | true => cell1 r (off - width s)
    | false => match s with
      | .arr k _ l => .int k (l.getD off 0)
      | s => s

/-- The entries with those from cell 'off' on replaced by 'new'. -/
def putC : List (SV T) → Nat → List (SV T) → Option (List (SV T))
  | [], off, new => match off, new with
    | 0, [] => some []
    | _, _ => none
  | s :: r, off, new => match Nat.ble (width s) off with
    | true => (putC r (off - width s) new).map (s :: ·)
    | false => match s, new with
      | .arr k n l, [.int k' x] => match kEq k k' with
        | true => some (.arr k n (l.set off x) :: r)
        | false => none
      | _, _ => match off with
        | 0 => (dropC (s :: r) (widths new)).map (new ++ ·)
        | _ => none

/-- The entry that begins at cell 'off' is an array of integers. -/
def arrAt : List (SV T) → Nat → Option (IntKind × Nat × List Int)
  | [], _ => none
  | s :: r, off => match Nat.ble (width s) off with
    | true => arrAt r (off - width s)
    | false => match off, s with
      | 0, .arr k n l => some (k, n, l)
      | _, _ => none

end Go.Vg
