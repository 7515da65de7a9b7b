/-
  The abstract executor: one operation, a region, code, a call. Own work; no condition.
-/
import Derived.Test.YtkaodeodiakldaaVgB
namespace Go.Vg

variable (E : Env)

def sizeB (t : Nat) : Option Nat :=
  match (E.ti t).ok with
  | true => some (E.ti t).size
  | false => none
def bytesB (t : Nat) : Nat := (E.ti t).bytes
def elemB (t : Nat) : Option Nat :=
  match (E.ti t).kind with
  | .slice e => some e
  | _ => none
def arrB (t : Nat) : Option (Nat × Nat) :=
  match (E.ti t).kind with
  | .array n e => some (n, e)
  | _ => none
def intB (t : Nat) : Option IntKind :=
  match (E.ti t).kind with
  | .int k => some k
  | _ => none
def mapB (t : Nat) : Option (Nat × Nat) :=
  match (E.ti t).kind with
  | .map k v => some (k, v)
  | _ => none
def strB (t : Nat) : Bool :=
  match (E.ti t).kind with
  | .string => true
  | _ => false
def boolB (t : Nat) : Bool :=
  match (E.ti t).kind with
  | .bool => true
  | _ => false
def nthL {α : Type} : List α → Nat → Option α
  | [], _ => none
  | a :: _, 0 => some a
  | _ :: r, n + 1 => nthL r n
/-- A field's place, size, type. -/
def fieldB (t j : Nat) : Option (Nat × Nat × Nat) :=
  match (E.ti t).kind with
  | .struct fs => nthL fs j
  | _ => none

def isCell {T : Nat → Type} : SV T → Bool
  | .any | .agg _ | .tup _ | .arr _ _ _ => false
  | _ => true

def zcSV {T : Nat → Type} : ZC → SV T
  | .int k => .int k 0
  | .bool => .bool false
  | .str => .str ByteArray.empty
  | .slice => .nils
  | .ptr => .nilp
  | .func => .nilf
  | .map => .any
  | .iface => .any
  | .arr k n => .arr k n (List.replicate n 0)
  | .no => .any

def zeroB (t : Nat) : Option (List (SV E.T)) :=
  match (E.ti t).ok with
  | true => some ((E.ti t).zero.map zcSV)
  | false => none

def loadFrom (t : Nat) (cs : List (SV E.T)) (off : Nat) : Option (SV E.T) :=
  match isAggB E t with
  | true => (sizeB E t).bind fun n => (subC cs off n).map .agg
  | false => match Nat.blt off (widths cs) with
    | true => some (cell1 cs off)
    | false => none

def allCell {T : Nat → Type} : List (SV T) → Bool
  | [] => true
  | .arr _ _ _ :: r => allCell r
  | s :: r => isCell s && allCell r

/-- The cells of a value that is stored; none where its shape is not known. -/
def cellsB {T : Nat → Type} : SV T → Option (List (SV T))
  | .agg cs => some cs
  | s => match isCell s with
    | true => some [s]
    | false => none

structure Out (T : Nat → Type) where
  cond : Bool
  val : SV T
  upd : List (Nat × HS T)

def oret {T : Nat → Type} (v : SV T) : Option (Out T) := some ⟨true, v, []⟩
def oneed {T : Nat → Type} (c : Bool) (v : SV T) : Option (Out T) := some ⟨c, v, []⟩
/-- 0 ≤ i < n -/
def inb (i n : Int) : Bool := match decide (0 ≤ i) with
  | true => decide (i < n)
  | false => false
/-- i ≤ n -/
def leb (i n : Int) : Bool := decide (i ≤ n)
def andb (a b : Bool) : Bool := match a with
  | true => b
  | false => false

def fillB (t : Nat) (place : Nat → Option (Nat × Nat)) : List (SV E.T) → List (Nat × SV E.T) → Option (List (SV E.T))
  | cs, [] => some cs
  | cs, (i, s) :: rest => match place i, cellsB s with
    | some (off, n), some new => match Nat.beq (widths new) n with
      | true => (putC cs off new).bind fun cs' => fillB t place cs' rest
      | false => none
    | _, _ => none

def chunks (e : Nat) : Nat → List (SV E.T) → Option (List (E.T e))
  | 0, [] => some []
  | 0, _ :: _ => none
  | n + 1, cs => match takeC cs (E.sz e), dropC cs (E.sz e) with
    | some c, some r => match E.dec e c with
      | some x => (chunks e n r).map (x :: ·)
      | none => none
    | _, _ => none

def repC {T : Nat → Type} : Nat → List (SV T) → List (SV T)
  | 0, _ => []
  | n + 1, cs => cs ++ repC n cs

def rowToDat {T : Nat → Type} (H : List (Nat × HS T)) : SV T → SV T
  | .row id => match look H id with
    | .live (.row e l) => .dat e l
    | _ => .any
  | s => s

def rowIds1 {T : Nat → Type} : List (SV T) → List Nat
  | [] => []
  | .row id :: r => id :: rowIds1 r
  | _ :: r => rowIds1 r

def rowIds {T : Nat → Type} : List (SV T) → List Nat
  | [] => []
  | .row id :: r => id :: rowIds r
  | .agg cs :: r => rowIds1 cs ++ rowIds r
  | _ :: r => rowIds r

def toData {T : Nat → Type} (H : List (Nat × HS T)) : SV T → SV T
  | .agg cs => .agg (cs.map (rowToDat H))
  | s => rowToDat H s

def deads {T : Nat → Type} : List Nat → List (Nat × HS T)
  | [] => []
  | id :: r => (id, .dead) :: deads r

/-- A slice's elements as a list, if its elements are of type e. -/
def listOf {T : Nat → Type} (H : List (Nat × HS T)) (e : Nat) : SV T → Option (List (T e))
  | .row id => match look H id with
    | .live (.row e' l) => if h : e' = e then some (h ▸ l) else none
    | _ => none
  | s => asDat e s

def lenB {T : Nat → Type} (H : List (Nat × HS T)) : SV T → Option Nat
  | .nils => some 0
  | .dat _ l => some l.length
  | .row id => match look H id with
    | .live (.row _ l) => some l.length
    | _ => none
  | .str s => some s.size
  | .crow _ n => some n
  | .aslice _ _ n => some n
  | .map id => match look H id with
    | .live (.map _ _ l) => some l.length
    | _ => none
  | _ => none

def uI (k : IntKind) (a : Int) : Nat := (a % (2 ^ k.bits : Nat)).toNat
def andI (k : IntKind) (a b : Int) : Int := k.wrap ((Nat.land (uI k a) (uI k b) : Nat) : Int)
def orI (k : IntKind) (a b : Int) : Int := k.wrap ((Nat.lor (uI k a) (uI k b) : Nat) : Int)
def xorI (k : IntKind) (a b : Int) : Int := k.wrap ((Nat.xor (uI k a) (uI k b) : Nat) : Int)

def binInt (op : BinOp) (k : IntKind) (a b : Int) : Option (Out E.T) :=
  match op with
  | .add => oret (.int k (k.wrap (a + b)))
  | .sub => oret (.int k (k.wrap (a - b)))
  | .mul => oret (.int k (k.wrap (a * b)))
  | .quo => oneed (!(b == 0)) (.int k (k.wrap (a.tdiv b)))
  | .rem => oneed (!(b == 0)) (.int k (a.tmod b))
  | .shl => oneed (leb 0 b) (.int k (k.wrap (a * 2 ^ (min b.toNat k.bits))))
  | .shr => oneed (leb 0 b) (.int k (a.fdiv (2 ^ (min b.toNat k.bits))))
  | .eql => oret (.bool (a == b))
  | .neq => oret (.bool (a != b))
  | .lss => oret (.bool (decide (a < b)))
  | .leq => oret (.bool (decide (a ≤ b)))
  | .gtr => oret (.bool (decide (a > b)))
  | .geq => oret (.bool (decide (a ≥ b)))
  | .and => oret (.int k (andI k a b))
  | .or => oret (.int k (orI k a b))
  | .xor => oret (.int k (xorI k a b))
  | _ => none

/-- Cells that may be compared, of a kind: their equality. -/
def eqS {T : Nat → Type} (z : ZC) (x y : SV T) : Option Bool :=
  match z with
  | .int k0 => match x with
    | .int k a => match y with
      | .int k' b => match kEq k0 k, kEq k0 k' with
        | true, true => some (a == b)
        | _, _ => none
      | _ => none
    | _ => none
  | .bool => match x with
    | .bool a => match y with
      | .bool b => some (a == b)
      | _ => none
    | _ => none
  | .str => match x with
    | .str a => match y with
      | .str b => some (a == b)
      | _ => none
    | _ => none
  | .arr k0 n0 => match x with
    | .arr k n l => match y with
      | .arr k' n' l' => match kEq k0 k && kEq k0 k', Nat.beq n0 n && Nat.beq n0 n' with
        | true, true => some (l == l')
        | _, _ => none
      | _ => none
    | _ => none
  | _ => none
def eqL {T : Nat → Type} : List ZC → List (SV T) → List (SV T) → Option Bool
  | [], x, y => match x, y with
    | [], [] => some true
    | _, _ => none
  | z :: zs, x, y => match x with
    | [] => none
    | x :: r => match y with
      | [] => none
      | y :: r' => match eqS z x y with
        | some a => match zs with
          | [] => match r, r' with
            | [], [] => some a
            | _, _ => none
          | zs => match eqL zs r r' with
            | some b => some (andb a b)
            | none => none
        | none => none

def binB (op : BinOp) (t : Nat) (x y : SV E.T) : Option (Out E.T) :=
  match x, y with
  | .int k a, .int k' b => match kEq k k' with
    | true => binInt E op k a b
    | false => match op with
      | .shl => oneed (leb 0 b) (.int k (k.wrap (a * 2 ^ (min b.toNat k.bits))))
      | .shr => oneed (leb 0 b) (.int k (a.fdiv (2 ^ (min b.toNat k.bits))))
      | _ => none
  | .bool a, .bool b => match boolB E t with
    | true => match op with
      | .eql => oret (.bool (a == b))
      | .neq => oret (.bool (!(a == b)))
      | _ => none
    | false => none
  | .str a, .str b => match strB E t with
    | true => match op with
      | .eql => oret (.bool (a.data.toList == b.data.toList))
      | .neq => oret (.bool (!(a.data.toList == b.data.toList)))
      | _ => none
    | false => none
  | .agg cs, .agg cs' => match E.eqt t, eqL (E.ti t).zero cs cs' with
    | true, some b => match op with
      | .eql => oret (.bool b)
      | .neq => oret (.bool (!b))
      | _ => none
    | _, _ => none
  | _, _ => none

def addrFld (x : SV E.T) (o : Nat) : Option (SV E.T) :=
  match x with
  | .ptr id off => some (.ptr id (off + o))
  | .rptr id i off => some (.rptr id i (off + o))
  | .eptr e l i off => some (.eptr e l i (off + o))
  | .boxd t cs off => some (.boxd t cs (off + o))
  | _ => none

def indexB (H : List (Nat × HS E.T)) (t : Nat) (x : SV E.T) (i : Int) : Option (Out E.T) :=
  match arrB E t with
  | some (n, e) => match sizeB E e with
    | some sz => match x with
      | .ptr id off => match look H id with
        | .live (.cells _ cs) => match arrAt cs off with
          | some (_, n', _) => match Nat.beq n n', Nat.beq sz 1 with
            | true, true => oneed (inb i n) (.aptr id off n i)
            | _, _ => none
          | none => oneed (inb i n) (.ptr id (off + i.toNat * sz))
        | _ => none
      | .eptr e' l j off => match arrAt (E.enc e' (l.getD j.toNat (E.d e'))) off with
        | some (_, n', _) => match Nat.beq n n', Nat.beq sz 1 with
          | true, true => oneed (inb i n) (.aeptr e' l j off n i)
          | _, _ => none
        | none => oneed (inb i n) (.eptr e' l j (off + i.toNat * sz))
      | _ => none
    | none => none
  | none => match elemB E t with
    | some e => match x with
      | .row id => match look H id with
        | .live (.row e' l) => match Nat.beq e e', sizeB E e with
          | true, some sz => match Nat.beq sz (E.sz e) with
            | true => oneed (inb i l.length) (.rptr id i 0)
            | false => none
          | _, _ => none
        | _ => none
      | .dat e' l => match Nat.beq e e', sizeB E e with
        | true, some sz => match Nat.beq sz (E.sz e) with
          | true => oneed (inb i l.length) (.eptr e' l i 0)
          | false => none
        | _, _ => none
      | .crow id n => match sizeB E e with
        | some sz => match Nat.beq sz 1 with
          | true => oneed (inb i n) (.ptr id i.toNat)
          | false => none
        | none => none
      | .aslice id off n => match sizeB E e with
        | some sz => match Nat.beq sz 1 with
          | true => oneed (inb i n) (.aptr id off n i)
          | false => none
        | none => none
      | _ => none
    | none => none

def loadB0 (H : List (Nat × HS E.T)) (t : Nat) (x : SV E.T) : Option (SV E.T) :=
  match x with
  | .ptr id off => match look H id with
    | .live (.cells _ cs) => loadFrom E t cs off
    | _ => none
  | .rptr id i off => match look H id with
    | .live (.row e l) => loadFrom E t (E.enc e (l.getD i.toNat (E.d e))) off
    | _ => none
  | .eptr e l i off => loadFrom E t (E.enc e (l.getD i.toNat (E.d e))) off
  | .boxd _ cs off => loadFrom E t cs off
  | .aptr id off n i => match look H id with
    | .live (.cells _ cs) => match arrAt cs off with
      | some (k, n', l) => match Nat.beq n n', isAggB E t with
        | true, false => some (.int k (l.getD i.toNat 0))
        | _, _ => none
      | none => none
    | _ => none
  | .aeptr e l i off n j => match arrAt (E.enc e (l.getD i.toNat (E.d e))) off with
    | some (k, n', l') => match Nat.beq n n', isAggB E t with
      | true, false => some (.int k (l'.getD j.toNat 0))
      | _, _ => none
    | none => none
  | _ => none

def loadB (H : List (Nat × HS E.T)) (t : Nat) (x : SV E.T) : Option (SV E.T) :=
  match (E.ti t).ok with
  | true => loadB0 E H t x
  | false => none

def oneInt {T : Nat → Type} : List (SV T) → Option (IntKind × Int)
  | [.int k y] => some (k, y)
  | _ => none

theorem oneInt_spec {T : Nat → Type} {l : List (SV T)} {k : IntKind} {y : Int} (h : oneInt l = some (k, y)) : l = [.int k y] := by
  unfold oneInt at h
  split at h
  · cases h; rfl
  · cases h

def storeB (H : List (Nat × HS E.T)) (t : Nat) (x v : SV E.T) : Option (List (Nat × HS E.T)) :=
  match cellsB v, sizeB E t with
  | some new, some n => match Nat.beq (widths new) n with
    | true => match x with
      | .ptr id off => match look H id with
        | .live (.cells t0 cs) => (putC cs off new).map fun cs' => [(id, .live (.cells t0 cs'))]
        | _ => none
      | .rptr id i off => match look H id with
        | .live (.row e l) => match putC (E.enc e (l.getD i.toNat (E.d e))) off (new.map (rowToDat H)) with
          | some cs' => match E.dec e cs' with
            | some y => match (rowIds1 new).all fun j => !(Nat.beq j id) with
              | true => some (deads (rowIds1 new) ++ [(id, .live (.row e (l.set i.toNat y)))])
              | false => none
            | none => none
          | none => none
        | _ => none
      | .aptr id off m i => match look H id with
        | .live (.cells t0 cs) => match arrAt cs off, oneInt new with
          | some (k, n', l), some (k', y) => match Nat.beq m n', kEq k k' with
            | true, true => (putC cs off [.arr k n' (l.set i.toNat y)]).map fun cs' => [(id, .live (.cells t0 cs'))]
            | _, _ => none
          | _, _ => none
        | _ => none
      | _ => none
    | false => none
  | _, _ => none

def optInt {T : Nat → Type} (tmps : List (SV T)) : Option Operand → Option (Option Int)
  | none => some none
  | some o => match ev tmps o with
    | .int _ n => some (some n)
    | _ => none

/-- A slice expression's bounds are in range. -/
def cutOk (lo hi : Option Int) (len : Nat) : Bool :=
  match lo, hi with
  | none, none => true
  | some a, none => andb (leb 0 a) (leb a len)
  | none, some b => andb (leb 0 b) (leb b len)
  | some a, some b => andb (leb 0 a) (andb (leb a b) (leb b len))

def cutL {α : Type} (l : List α) (lo hi : Int) : List α := (l.take hi.toNat).drop lo.toNat

def sliceB (H : List (Nat × HS E.T)) (e : Nat) (x : SV E.T) (lo hi : Option Int) : Option (Out E.T) :=
  match x with
  | .dat e' l => match Nat.beq e e' with
    | true => some ⟨cutOk lo hi l.length, .dat e' (cutL l (lo.getD 0) (hi.getD l.length)), []⟩
    | false => none
  | .row id => match look H id with
    | .live (.row e' l) => match Nat.beq e e' with
      | true => some ⟨cutOk lo hi l.length, .dat e' (cutL l (lo.getD 0) (hi.getD l.length)), [(id, .dead)]⟩
      | false => none
    | _ => none
  | .nils => some ⟨cutOk lo hi 0, .nils, []⟩
  | _ => none

/-- n elements of b bytes have room. -/
def roomB (n b : Nat) : Bool := andb (decide (n * b ≤ 140737488355328)) (decide (n ≤ 140737488355328))

def appendB (H : List (Nat × HS E.T)) (fresh : Nat) (t tx : Nat) (s x : SV E.T) : Option (Out E.T) :=
  match elemB E t, Nat.beq t tx with
  | some e, true => match sizeB E e with
    | some sz => match Nat.beq sz (E.sz e) && Nat.ble 1 sz with
      | true => match listOf H e x with
        | some l2 => match E.has e with
          | false => none
          | true => match s with
          | .nils => some ⟨roomB (l2.length) (bytesB E e), .row fresh, [(fresh, .live (.row e l2))]⟩
          | .row id => match listOf H e (.row id) with
            | some l1 => some ⟨roomB (l1 ++ l2).length (bytesB E e), .row fresh, [(id, .dead), (fresh, .live (.row e (l1 ++ l2)))]⟩
            | none => none
          | _ => none
        | none => none
      | false => none
    | none => none
  | _, _ => none

/-- A copy over integers: the first ones, then what stood there. -/
def cpyL : List Int → List Int → List Int
  | _, [] => []
  | [], y :: l => y :: l
  | x :: s, _ :: l => x :: cpyL s l
/-- copy into a slice over an array of integers. -/
def copyB (H : List (Nat × HS E.T)) (t : Nat) (d x : SV E.T) : Option (Out E.T) :=
  match elemB E t, d with
  | some e, .aslice id off n => match sizeB E e, E.ints e, listOf H e x with
    | some sz, some k, some l2 => match Nat.beq sz 1 && E.has e, look H id with
      | true, .live (.cells t0 cs) => match arrAt cs off with
        | some (k', n', l) => match kEq k k' && Nat.beq n n' with
          | true => (putC cs off [.arr k' n' (cpyL (E.asL e l2) l)]).map fun cs' => ⟨true, .int .i64 (if l2.length < n then l2.length else n), [(id, .live (.cells t0 cs'))]⟩
          | false => none
        | none => none
      | _, _ => none
    | _, _, _ => none
  | _, _ => none

def builtinB (H : List (Nat × HS E.T)) (fresh : Nat) (b : Builtin) (argTypes : List Nat) (args : List (SV E.T)) : Option (Out E.T) :=
  match b, argTypes, args with
  | .len, [t], [x] => match arrB E t with
    | some (n, _) => oret (.int .i64 n)
    | none => match (E.ti t).kind with
      | .slice _ => match x with
        | .str _ => none
        | .map _ => none
        | x => (lenB H x).bind fun n => oret (.int .i64 n)
      | .map _ _ => match x with
        | .map id => (lenB H (.map id)).bind fun n => oret (.int .i64 n)
        | _ => none
      | .string => match x with
        | .str s => oret (.int .i64 s.size)
        | _ => none
      | _ => none
  | .min, _, [.int k a, .int k' b] => match kEq k k' with
    | true => oret (.int k (if b < a then b else a))
    | false => none
  | .max, _, [.int k a, .int k' b] => match kEq k k' with
    | true => oret (.int k (if b > a then b else a))
    | false => none
  | .append, [t, tx], [s, x] => appendB E H fresh t tx s x
  | .copy, [t, _], [d, x] => copyB E H t d x
  | _, _, _ => none

/-! ### Maps -/
/-- A type's value as one value. -/
def oneSV (e : Nat) (x : E.T e) : SV E.T :=
  match isAggB E e with
  | true => .agg (E.enc e x)
  | false => nth (E.enc e x) 0
def fromSV (e : Nat) (s : SV E.T) : Option (E.T e) :=
  match isAggB E e with
  | true => match s with
    | .agg cs => E.dec e cs
    | _ => none
  | false => match isCell s with
    | true => E.dec e [s]
    | false => none
def keyEq (kt : Nat) (x y : E.T kt) : Bool :=
  match eqL (E.ti kt).zero (E.enc kt x) (E.enc kt y) with
  | some b => b
  | none => false
section
variable {α β : Type}
def mIdx (f : α → Bool) : List (α × β) → Nat
  | [] => 0
  | p :: r => match f p.1 with
    | true => 0
    | false => mIdx f r + 1
def mGet (f : α → Bool) (z : β) : List (α × β) → β
  | [] => z
  | p :: r => match f p.1 with
    | true => p.2
    | false => mGet f z r
def mHas (f : α → Bool) : List (α × β) → Bool
  | [] => false
  | p :: r => match f p.1 with
    | true => true
    | false => mHas f r
def mPut (f : α → Bool) (k : α) (v : β) : List (α × β) → List (α × β)
  | [] => [(k, v)]
  | p :: r => match f p.1 with
    | true => (k, v) :: r
    | false => p :: mPut f k v r
def mEnt (f : α → Bool) (k : α) (z : β) : List (α × β) → List (α × β)
  | [] => [(k, z)]
  | p :: r => match f p.1 with
    | true => (k, p.2) :: r
    | false => p :: mEnt f k z r
def mSet : List (α × β) → Nat → β → List (α × β)
  | [], _, _ => []
  | p :: r, 0, v => (p.1, v) :: r
  | p :: r, n + 1, v => p :: mSet r n v
end
/-- A map that is looked at: its block, its contents, a key, the zero value. -/
def mapAt (H : List (Nat × HS E.T)) (t : Nat) (x i : SV E.T) (f : (id kt vt : Nat) → List (E.T kt × E.T vt) → E.T kt → E.T vt → Option (Out E.T)) : Option (Out E.T) :=
  match mapB E t, x with
  | some (k, v), .map id => match look H id with
    | .live (.map kt vt l) => match Nat.beq k kt && Nat.beq v vt, fromSV E kt i, (zeroB E vt).bind (E.dec vt) with
      | true, some key, some z => f id kt vt l key z
      | _, _, _ => none
    | _ => none
  | _, _ => none

def evs {T : Nat → Type} (tmps : List (SV T)) (l : List Operand) : List (SV T) := l.map (ev tmps)

/-- One operation that neither parts nor calls. -/
def core (fresh : Nat) (tmps : List (SV E.T)) (H : List (Nat × HS E.T)) (o : Op) : Option (Out E.T) :=
  match o with
  | .move x | .assign x => oret (ev tmps x)
  | .pick c a b => match ev tmps c with
    | .bool c => match ev tmps a, ev tmps b with
      | .bool x, .bool y => oret (.bool (match c with | true => x | false => y))
      | x, y => match c with
        | true => oret x
        | false => oret y
    | _ => none
  | .alloc t => match zeroB E t with
    | some cs => some ⟨true, .ptr fresh 0, [(fresh, .live (.cells t cs))]⟩
    | none => none
  | .box t x => match cellsB (ev tmps x) with
    | some cs => some ⟨true, .ptr fresh 0, [(fresh, .live (.cells t cs))]⟩
    | none => none
  | .build t parts => match zeroB E t with
    | some zero => match (E.ti t).kind with
      | .struct _ => (fillB E t (fun j => (fieldB E t j).map fun p => (p.1, p.2.1)) zero (parts.toList.map fun p => (p.1, ev tmps p.2))).bind fun cs => oret (.agg cs)
      | .array _ e => match sizeB E e with
        | some n => (fillB E t (fun i => some (i * n, n)) zero (parts.toList.map fun p => (p.1, ev tmps p.2))).bind fun cs => oret (.agg cs)
        | none => none
      | _ => none
    | none => none
  | .buildSlice t len parts => match elemB E t with
    | some e => match sizeB E e, zeroB E e with
      | some n, some zero => match Nat.beq n (E.sz e) && E.has e, Nat.ble (len * n) 16777216, Nat.ble 1 n with
        | true, true, true => (fillB E t (fun i => some (i * n, n)) (repC len zero) (parts.toList.map fun p => (p.1, toData H (ev tmps p.2)))).bind fun cs =>
            (chunks E e len cs).bind fun l => some ⟨true, .row fresh, deads (rowIds (parts.toList.map fun p => ev tmps p.2)) ++ [(fresh, .live (.row e l))]⟩
        | _, _, _ => none
      | _, _ => none
    | none => none
  | .load t a => (loadB E H t (ev tmps a)).bind fun v => oret v
  | .store t a v => (storeB E H t (ev tmps a) (ev tmps v)).bind fun u => some ⟨true, .tup [], u⟩
  | .binOp op t x y _ => binB E op t (ev tmps x) (ev tmps y)
  | .unOp op _ x => match op, ev tmps x with
    | .not, .bool b => oret (.bool (!b))
    | .neg, .int k n => oret (.int k (k.wrap (0 - n)))
    | _, _ => none
  | .convert s t x => match intB E s, intB E t, ev tmps x with
    | some _, some k, .int _ n => oret (.int k (k.wrap n))
    | _, _, _ => none
  | .makeFunc f first captured => match f, first.toList with
    | .func f, [] => oret (.fn f (evs tmps captured.toList))
    | _, _ => none
  | .makeSlice t len cap => match elemB E t, ev tmps len, ev tmps cap with
    | some e, .int _ n, .int _ c => match sizeB E e, zeroB E e with
      | some sz, some zero => match Nat.beq sz (E.sz e) && E.has e, Nat.ble 1 sz, E.dec e zero with
        | true, true, some z => some ⟨andb (leb 0 n) (andb (leb n c) (roomB c.toNat (bytesB E e))), .row fresh, [(fresh, .live (.row e (List.replicate n.toNat z)))]⟩
        | _, _, _ => none
      | _, _ => none
    | _, _, _ => none
  | .makeMap t r => match mapB E t, optInt tmps r with
    | some (k, v), some _ => match E.kok k && E.kok v with
      | true => some ⟨true, .map fresh, [(fresh, .live (.map k v []))]⟩
      | false => none
    | _, _ => none
  | .lookup t x i ok => match ev tmps x with
   | .mdat kt vt l => match mapB E t with
     | some (k, v) => match Nat.beq k kt && Nat.beq v vt && (E.kok kt && E.kok vt), fromSV E kt (ev tmps i), (zeroB E vt).bind (E.dec vt) with
       | true, some key, some z => match ok with
         | true => oret (.tup [oneSV E vt (mGet (keyEq E kt key) z l), .bool (mHas (keyEq E kt key) l)])
         | false => oret (oneSV E vt (mGet (keyEq E kt key) z l))
       | _, _, _ => none
     | none => none
   | x => mapAt E H t x (ev tmps i) fun _ kt vt l key z => match ok with
    | true => oret (.tup [oneSV E vt (mGet (keyEq E kt key) z l), .bool (mHas (keyEq E kt key) l)])
    | false => oret (oneSV E vt (mGet (keyEq E kt key) z l))
  | .mapUpdate t x i y => mapAt E H t (ev tmps x) (ev tmps i) fun id kt vt l key _ => match fromSV E vt (ev tmps y) with
    | some v => some ⟨true, .tup [], [(id, .live (.map kt vt (mPut (keyEq E kt key) key v l)))]⟩
    | none => none
  | .mapEntry t x i => mapAt E H t (ev tmps x) (ev tmps i) fun id kt vt l key z =>
    some ⟨true, .tup [oneSV E vt (mGet (keyEq E kt key) z l), .int .i64 (mIdx (keyEq E kt key) l)], [(id, .live (.map kt vt (mEnt (keyEq E kt key) key z l)))]⟩
  | .entryStore t x s y => match mapB E t, ev tmps x, ev tmps s with
    | some (k, v), .map id, .int _ n => match look H id with
      | .live (.map kt vt l) => match Nat.beq k kt && Nat.beq v vt, fromSV E vt (ev tmps y) with
        | true, some y => some ⟨inb n l.length, .tup [], [(id, .live (.map kt vt (mSet l n.toNat y)))]⟩
        | _, _ => none
      | _ => none
    | _, _, _ => none
  | .slice t x lo hi none => match arrB E t with
   | some (n, e) => match lo, hi, ev tmps x, sizeB E e with
     | none, none, .ptr id off, some sz => match look H id, Nat.beq sz 1 with
       | .live (.cells _ cs), true => match arrAt cs off with
         | some (_, n', _) => match Nat.beq n n' with
           | true => oret (.aslice id off n)
           | false => none
         | none => none
       | _, _ => none
     | _, _, _, _ => none
   | none => match elemB E t, optInt tmps lo, optInt tmps hi with
    | some e, some lo, some hi => match sizeB E e with
      | some sz => match Nat.beq sz (E.sz e) with
        | true => sliceB E H e (ev tmps x) lo hi
        | false => none
      | none => none
    | _, _, _ => none
  | .fieldAddr t x j => match fieldB E t j with
    | some (o, n, _) => match Nat.ble 1 n with
      | true => (addrFld E (ev tmps x) o).bind fun v => oret v
      | false => none
    | none => none
  | .field t x j => match fieldB E t j, ev tmps x with
    | some (o, _, ft), .agg cs => match (E.ti ft).ok with
      | true => (loadFrom E ft cs o).bind fun v => oret v
      | false => none
    | _, _ => none
  | .indexAddr t x i => match ev tmps i with
    | .int _ i => indexB E H t (ev tmps x) i
    | _ => none
  | .index t x i => match ev tmps i, ev tmps x, arrB E t with
    | .int _ i, .agg cs, some (n, e) => match sizeB E e with
      | some sz => match arrAt cs 0 with
        | some (k, n', l) => match Nat.beq n n', Nat.beq sz 1, isAggB E e with
          | true, true, false => oneed (inb i n) (.int k (l.getD i.toNat 0))
          | _, _, _ => none
        | none => (loadFrom E e cs (i.toNat * sz)).bind fun v => oneed (inb i n) v
      | none => none
    | _, _, _ => none
  | .extract t j => match ev tmps t with
    | .tup vs => match Nat.blt j vs.length with
      | true => oret (nth vs j)
      | false => none
    | _ => none
  | .call c => match c.callee with
    | .builtin b => builtinB E H fresh b c.argTypes.toList (evs tmps c.args.toList)
    | _ => none
  | _ => none

end Go.Vg
