/-
  What an abstract value and an abstract state say of a value and of a world; the small laws. Own work; no condition.
-/
import Derived.Test.YtkaodeodiakldaaVgA
import Derived.Laws.AppendOwn
import Derived.Laws.MakeOwn
import Derived.Laws.CopyRow
import Derived.Great.BuildSlice
namespace Go.Vg
open Go.RowKit
variable {E : Env}

def isAggB (E : Env) (t : Nat) : Bool :=
  match (E.ti t).kind with
  | .struct _ => true
  | .array _ _ => true
  | _ => false

/-- A cell of a map's key or value, as it is. -/
inductive KRel {T : Nat → Type} : SV T → Value → Prop
  | int (k n) : KRel (.int k n) (.int k n)
  | bool (b) : KRel (.bool b) (.bool b)
  | str (s) : KRel (.str s) (.string s)
inductive KRelC {T : Nat → Type} : List (SV T) → List Value → Prop
  | nil : KRelC [] []
  | cons {s v r vs} : KRel s v → KRelC r vs → KRelC (s :: r) (v :: vs)
  | arr {k n l r vs} : l.length = n → KRelC r vs → KRelC (.arr k n l :: r) (l.map (Value.int k) ++ vs)
/-- A key's or a value's datum. -/
def KVal (E : Env) (e : Nat) (x : E.T e) (v : Value) : Prop :=
  (isAggB E e = true → ∃ vs : Array Value, v = .agg vs ∧ KRelC (E.enc e x) vs.toList) ∧ (isAggB E e = false → ∃ s, E.enc e x = [s] ∧ KRel s v)
def MapK (E : Env) (kt vt : Nat) (l : List (E.T kt × E.T vt)) (es : List MapEntry) : Prop :=
  es.length = l.length ∧ ∀ (i : Nat) (p : E.T kt × E.T vt), l[i]? = some p → ∃ en : MapEntry, es[i]? = some en ∧ en.born = i ∧ KVal E kt p.1 en.key ∧ KVal E vt p.2 en.val

mutual
/-- The value is as the abstract one says. 'S': the blocks that data may lean on. -/
inductive RelS (E : Env) (H : List (Nat × HS E.T)) (σ : Nat → Option Nat) (w : World) (S : Nat → Prop) : SV E.T → Value → Prop
  | any (v) : RelS E H σ w S .any v
  | int (k n) : RelS E H σ w S (.int k n) (.int k n)
  | bool (b) : RelS E H σ w S (.bool b) (.bool b)
  | str (s) : RelS E H σ w S (.str s) (.string s)
  | nilp : RelS E H σ w S .nilp (.pointer none)
  | nilf : RelS E H σ w S .nilf .nilFunc
  | nils : RelS E H σ w S .nils (.slice none 0 0)
  | ptr (id off k) : look H id ≠ .free → σ id = some k → RelS E H σ w S (.ptr id off) (.pointer (some ⟨k, off, none⟩))
  | aptr (id off) (n : Nat) (i k) : look H id ≠ .free → σ id = some k → 0 ≤ i → i < (n : Int) → RelS E H σ w S (.aptr id off n i) (.pointer (some ⟨k, off + i.toNat, none⟩))
  | row_nil (id) : look H id ≠ .free → σ id = none → RelS E H σ w S (.row id) (.slice none 0 0)
  | row (id k n c) : look H id ≠ .free → σ id = some k →
      (∀ e l, look H id = .live (.row e l) → l.length = n ∧ n ≤ c ∧ c ≤ maxLen ∧ ∃ arr, w.heap[k]? = some (.cells arr e (0, 0)) ∧ arr.size = c * E.sz e) →
      RelS E H σ w S (.row id) (.slice (some ⟨k, 0, none⟩) n c)
  | crow (id n k) : look H id ≠ .free → σ id = some k → RelS E H σ w S (.crow id n) (.slice (some ⟨k, 0, none⟩) n n)
  | aslice (id off n k) : look H id ≠ .free → σ id = some k → RelS E H σ w S (.aslice id off n) (.slice (some ⟨k, off, none⟩) n n)
  | map (id k) : look H id ≠ .free → σ id = some k → RelS E H σ w S (.map id) (.map (some k))
  | yld (id k) : look H id ≠ .free → σ id = some k → RelS E H σ w S (.yld id) (.func (.yield k) #[] #[])
  | rptr (id i off k) (sz : Nat) : look H id ≠ .free → σ id = some k → 0 ≤ i → (∀ e l, look H id = .live (.row e l) → E.sz e = sz ∧ i < (l.length : Int)) →
      RelS E H σ w S (.rptr id i off) (.pointer (some ⟨k, i.toNat * sz + off, none⟩))
  | dat_nil (e) : E.has e = true → RelS E H σ w S (.dat e []) (.slice none 0 0)
  | dat (e l) (a : Addr) (c) (vss : Nat → List Value) : E.has e = true → (l ≠ [] → S a.block) → l.length ≤ c →
      (∀ i x, l[i]? = some x → RelC E H σ w S (E.enc e x) (vss i)) →
      (∀ i x, l[i]? = some x → ∀ j v, (vss i)[j]? = some v → w.cell? (a.add (i * E.sz e + j)) = some v) →
      RelS E H σ w S (.dat e l) (.slice (some a) l.length c)
  | eptr (e l i off) (a : Addr) (vss : Nat → List Value) : E.has e = true → 0 ≤ i → i < (l.length : Int) → (l ≠ [] → S a.block) →
      (∀ i x, l[i]? = some x → RelC E H σ w S (E.enc e x) (vss i)) →
      (∀ i x, l[i]? = some x → ∀ j v, (vss i)[j]? = some v → w.cell? (a.add (i * E.sz e + j)) = some v) →
      RelS E H σ w S (.eptr e l i off) (.pointer (some (a.add (i.toNat * E.sz e + off))))
  | aeptr (e l i off) (n : Nat) (j) (a : Addr) (vss : Nat → List Value) : E.has e = true → 0 ≤ i → i < (l.length : Int) → 0 ≤ j → j < (n : Int) → (l ≠ [] → S a.block) →
      (∀ i x, l[i]? = some x → RelC E H σ w S (E.enc e x) (vss i)) →
      (∀ i x, l[i]? = some x → ∀ j v, (vss i)[j]? = some v → w.cell? (a.add (i * E.sz e + j)) = some v) →
      RelS E H σ w S (.aeptr e l i off n j) (.pointer (some (a.add (i.toNat * E.sz e + (off + j.toNat)))))
  | mdat (kt vt l k) (es : Array MapEntry) : S k → w.heap[k]? = some (.map es es.size) → MapK E kt vt l es.toList → RelS E H σ w S (.mdat kt vt l) (.map (some k))
  | boxd (t cs off k) (arr : Array Value) : S k → w.heap[k]? = some (.cells arr t (0, 0)) → RelC E H σ w S cs arr.toList → RelS E H σ w S (.boxd t cs off) (.pointer (some ⟨k, off, none⟩))
  | fn (f caps) (vs : Array Value) : RelL E H σ w S caps vs.toList → RelS E H σ w S (.fn f caps) (.func (.func f) #[] vs)
  | agg (cs) (vs : Array Value) : RelC E H σ w S cs vs.toList → RelS E H σ w S (.agg cs) (.agg vs)
  | tup (cs) (vs : Array Value) : RelL E H σ w S cs vs.toList → RelS E H σ w S (.tup cs) (.tuple vs)
inductive RelC (E : Env) (H : List (Nat × HS E.T)) (σ : Nat → Option Nat) (w : World) (S : Nat → Prop) : List (SV E.T) → List Value → Prop
  | nil : RelC E H σ w S [] []
  | cons {s v r vs} : width s = 1 → v.oneCell' = true → RelS E H σ w S s v → RelC E H σ w S r vs → RelC E H σ w S (s :: r) (v :: vs)
  | arr {k n l r vs} : l.length = n → RelC E H σ w S r vs → RelC E H σ w S (.arr k n l :: r) (l.map (Value.int k) ++ vs)
inductive RelL (E : Env) (H : List (Nat × HS E.T)) (σ : Nat → Option Nat) (w : World) (S : Nat → Prop) : List (SV E.T) → List Value → Prop
  | nil : RelL E H σ w S [] []
  | cons {s v r vs} : RelS E H σ w S s v → RelL E H σ w S r vs → RelL E H σ w S (s :: r) (v :: vs)
end

section mono
variable {H H' : List (Nat × HS E.T)} {σ σ' : Nat → Option Nat} {w w' : World} {S S' : Nat → Prop}

/-- How heap and names may go on. -/
structure Goes (E : Env) (H : List (Nat × HS E.T)) (σ : Nat → Option Nat) (w : World) (S : Nat → Prop) (H' : List (Nat × HS E.T)) (σ' : Nat → Option Nat) (w' : World) (S' : Nat → Prop) : Prop where
  sup : ∀ k, S k → S' k ∧ w'.heap[k]? = w.heap[k]?
  free : ∀ id, look H id ≠ .free → look H' id ≠ .free ∧ σ' id = σ id
  row : ∀ id e l, look H id ≠ .free → look H' id = .live (.row e l) → ∃ l0, look H id = .live (.row e l0) ∧ l0.length = l.length ∧
    ∀ k arr, σ id = some k → w.heap[k]? = some (.cells arr e (0, 0)) → ∃ arr', w'.heap[k]? = some (.cells arr' e (0, 0)) ∧ arr'.size = arr.size

theorem cell_same {a : Addr} (h : w'.heap[a.block]? = w.heap[a.block]?) : w'.cell? a = w.cell? a := by
  simp [World.cell?, h]

theorem add_block (a : Addr) (n : Nat) : (a.add n).block = a.block := by unfold Addr.add; split <;> rfl

mutual
theorem RelS.goes (g : Goes E H σ w S H' σ' w' S') {s : SV E.T} {v : Value} : RelS E H σ w S s v → RelS E H' σ' w' S' s v
  | .any v => .any v
  | .int k n => .int k n
  | .bool b => .bool b
  | .str s => .str s
  | .nilp => .nilp
  | .nilf => .nilf
  | .nils => .nils
  | .ptr id off k h1 h2 => .ptr id off k (g.free id h1).1 ((g.free id h1).2.trans h2)
  | .aptr id off n i k h1 h2 h3 h4 => .aptr id off n i k (g.free id h1).1 ((g.free id h1).2.trans h2) h3 h4
  | .row_nil id h1 h2 => .row_nil id (g.free id h1).1 ((g.free id h1).2.trans h2)
  | .row id k n c h1 h2 h3 => .row id k n c (g.free id h1).1 ((g.free id h1).2.trans h2) (fun e l hl => by
      obtain ⟨l0, h4, h5, h6⟩ := g.row id e l h1 hl
      obtain ⟨h7, hx, hy, arr, h8, h9⟩ := h3 e l0 h4
      obtain ⟨arr', h10, h11⟩ := h6 k arr h2 h8
      exact ⟨h5 ▸ h7, hx, hy, arr', h10, h11.trans h9⟩)
  | .crow id n k h1 h2 => .crow id n k (g.free id h1).1 ((g.free id h1).2.trans h2)
  | .aslice id off n k h1 h2 => .aslice id off n k (g.free id h1).1 ((g.free id h1).2.trans h2)
  | .yld id k h1 h2 => .yld id k (g.free id h1).1 ((g.free id h1).2.trans h2)
  | .map id k h1 h2 => .map id k (g.free id h1).1 ((g.free id h1).2.trans h2)
  | .rptr id i off k sz h1 h2 h3 h5 => .rptr id i off k sz (g.free id h1).1 ((g.free id h1).2.trans h2) h3 (fun e l hl => by
      obtain ⟨l0, h4, h6, _⟩ := g.row id e l h1 hl
      rw [← h6]; exact h5 e l0 h4)
  | .dat_nil e h => .dat_nil e h
  | .dat e l a c vss h0 h1 h2 h3 h4 => .dat e l a c vss h0 (fun hl => (g.sup _ (h1 hl)).1) h2 (fun i x hx => RelC.goes g (h3 i x hx))
      (fun i x hx j v hv => by
        have hl : l ≠ [] := fun h0 => by rw [h0] at hx; simp at hx
        exact (cell_same (w := w) (w' := w') (a := a.add (i * E.sz e + j)) (by rw [add_block]; exact (g.sup _ (h1 hl)).2)).trans (h4 i x hx j v hv))
  | .eptr e l i off a vss h0 b1 b2 h1 h3 h4 => .eptr e l i off a vss h0 b1 b2 (fun hl => (g.sup _ (h1 hl)).1) (fun i x hx => RelC.goes g (h3 i x hx))
      (fun i x hx j v hv => by
        have hl : l ≠ [] := fun h0 => by rw [h0] at hx; simp at hx
        exact (cell_same (w := w) (w' := w') (a := a.add (i * E.sz e + j)) (by rw [add_block]; exact (g.sup _ (h1 hl)).2)).trans (h4 i x hx j v hv))
  | .aeptr e l i off n j a vss h0 b1 b2 b3 b4 h1 h3 h4 => .aeptr e l i off n j a vss h0 b1 b2 b3 b4 (fun hl => (g.sup _ (h1 hl)).1) (fun i x hx => RelC.goes g (h3 i x hx))
      (fun i x hx j v hv => by
        have hl : l ≠ [] := fun h0 => by rw [h0] at hx; simp at hx
        exact (cell_same (w := w) (w' := w') (a := a.add (i * E.sz e + j)) (by rw [add_block]; exact (g.sup _ (h1 hl)).2)).trans (h4 i x hx j v hv))
  | .mdat kt vt l k es h1 h2 h3 => .mdat kt vt l k es (g.sup k h1).1 ((g.sup k h1).2.trans h2) h3
  | .boxd t cs off k arr h1 h2 h3 => .boxd t cs off k arr (g.sup k h1).1 ((g.sup k h1).2.trans h2) (RelC.goes g h3)
  | .fn f caps vs h => .fn f caps vs (RelL.goes g h)
  | .agg cs vs h => .agg cs vs (RelC.goes g h)
  | .tup cs vs h => .tup cs vs (RelL.goes g h)
theorem RelC.goes (g : Goes E H σ w S H' σ' w' S') {cs : List (SV E.T)} {vs : List Value} : RelC E H σ w S cs vs → RelC E H' σ' w' S' cs vs
  | .nil => .nil
  | .cons h0 h00 h1 h2 => .cons h0 h00 (RelS.goes g h1) (RelC.goes g h2)
  | .arr h1 h2 => .arr h1 (RelC.goes g h2)
theorem RelL.goes (g : Goes E H σ w S H' σ' w' S') {cs : List (SV E.T)} {vs : List Value} : RelL E H σ w S cs vs → RelL E H' σ' w' S' cs vs
  | .nil => .nil
  | .cons h1 h2 => .cons (RelS.goes g h1) (RelL.goes g h2)
end
end mono
end Go.Vg
