/-
  Draws never fall along an operation; what has not turned below a block, with that word. Own work; no condition.
-/
import Derived.Test.YtkaodeodiakldaaVgE
namespace Go.Vg

theorem ask_drawn {α : Type} : ∀ (m : Ask α) (w : World), w.drawn ≤ (w.ask m).2.drawn
  | .done _, _ => Nat.le_refl _
  | .ask what range k, w => by
    unfold World.ask
    dsimp only
    split
    · exact ask_drawn (k 0) w
    · exact Nat.le_trans (Nat.le_succ _) (ask_drawn (k _) { w with drawn := w.drawn + 1 })

theorem viewStore_drawn {p : Program} {w w' : World} {at_ k : Addr} {u : TypeId} {v : Value} {b : Bool} {l : List Addr} (h : w.viewStore p at_ u k v b = .ok (w', l)) : w'.drawn = w.drawn := by
  unfold World.viewStore at h
  simp only [bind, Except.bind, pure, Except.pure] at h
  repeat (split at h <;> try (cases h; done))
  all_goals first | (cases h; rfl) | skip

theorem farStore_drawn {p : Program} {w w' : World} {a : Addr} {v : Value} {b : Bool} {l : List Addr} (h : w.farStore p a v b = .ok (w', l)) : w'.drawn = w.drawn := by
  unfold World.farStore at h
  split at h
  · split at h
    · rename_i hr
      cases h
      exact viewStore_drawn hr
    · cases h
  · cases h

theorem run_drawn {α : Type} (P : Program) : ∀ (m : Sem α) (w : World) (a : α) (w' : World), m.run P w = .ok a w' → w.drawn ≤ w'.drawn := by
  intro m
  induction m with
  | pure a => intro w b w' h; cases h; exact Nat.le_refl _
  | load m a k ih =>
    intro w b w' h
    simp only [Sem.run] at h
    split at h
    · exact ih _ _ _ _ h
    · split at h
      · exact ih _ _ _ _ h
      · cases h
  | store m a v k ih =>
    intro w b w' h
    have go : (match w.cell? a with
        | some _ => if w.frozen? a then Result.halt (.unsupported (.unsafePointer "a write to bytes that a string shares")) w else k.run P (w.setCell a v)
        | none => match w.farStore P a v (m == Mode.atomic) with
          | .ok (w, _) => k.run P w
          | .error h => Result.halt h w) = .ok b w' → w.drawn ≤ w'.drawn := by
      intro h
      split at h
      · split at h
        · cases h
        · exact ih (w.setCell a v) _ _ h
      · split at h
        · rename_i hf
          have := ih _ _ _ h
          rw [farStore_drawn hf] at this
          exact this
        · cases h
    cases v <;> first | (cases h; done) | exact go h
  | new o k ih => intro w b w' h; exact ih w.heap.size { w with heap := w.heap.push o } _ _ h
  | shape r k ih => intro w b w' h; exact ih _ _ _ _ h
  | freeze a n k ih =>
    intro w b w' h
    have := ih _ _ _ h
    unfold World.freeze at this
    split at this <;> exact this
  | frozen a k ih => intro w b w' h; exact ih _ _ _ _ h
  | getObj r k ih =>
    intro w b w' h
    simp only [Sem.run] at h
    split at h
    · cases h
    · exact ih _ _ _ _ h
    · cases h
  | setObj r o k ih =>
    intro w b w' h
    simp only [Sem.run] at h
    split at h
    · cases h
    · exact ih { w with heap := w.heap.setIfInBounds r o } _ _ h
    · cases h
  | choose q k ih =>
    intro w b w' h
    simp only [Sem.run] at h
    split at h
    · exact ih _ _ _ _ h
    · exact Nat.le_trans (Nat.le_succ _) (ih _ _ _ _ h)
  | sys c k ih =>
    intro w b w' h
    have h1 := ih _ _ _ _ h
    refine Nat.le_trans ?_ h1
    unfold World.sys
    split
    · exact Nat.le_refl _
    · rename_i r os w2 heq
      have := ask_drawn (Kernel.perform c w.os) w
      rw [heq] at this
      exact this
  | program k ih => intro w b w' h; exact ih _ _ _ _ h
  | mark m k ih => intro w b w' h; exact ih _ _ _ h
  | halt h => intro w b w' hh; cases hh

/-- As the kit's word of that name, and the count of draws has not fallen. -/
structure Below (B : Nat) (w w' : World) : Prop where
  os : w'.os = w.os
  tape : w'.tape = w.tape
  output : w'.output = w.output
  size : w.heap.size ≤ w'.heap.size
  block : ∀ k, k < B → w'.heap[k]? = w.heap[k]?
  dr : w.drawn ≤ w'.drawn

theorem Below.kit {B : Nat} {w w' : World} (h : Below B w w') : Go.RowKit.Below B w w' := ⟨h.os, h.tape, h.output, h.size, h.block⟩
theorem Below.of {B : Nat} {w w' : World} (h : Go.RowKit.Below B w w') (hd : w.drawn ≤ w'.drawn) : Below B w w' := ⟨h.os, h.tape, h.output, h.size, h.block, hd⟩
theorem Below.refl (B : Nat) (w : World) : Below B w w := .of (Go.RowKit.Below.refl _ _) (Nat.le_refl _)
theorem Below.trans {B : Nat} {a b c : World} (h : Below B a b) (k : Below B b c) : Below B a c := .of (h.kit.trans k.kit) (Nat.le_trans h.dr k.dr)
theorem Below.mono {B B' : Nat} {w w' : World} (h : Below B w w') (hB : B' ≤ B) : Below B' w w' := .of (h.kit.mono hB) h.dr
theorem Below.drew {B : Nat} {a w : World} (h : Below B a w) : Below B a w.drew := .of h.kit.drew (Nat.le_trans h.dr (Nat.le_succ _))
theorem Below.alloc {B : Nat} {a w : World} (h : Below B a w) (hB : B ≤ w.heap.size) (o : Obj) : Below B a (w.alloc o) := .of (h.kit.alloc hB o) h.dr
theorem Below.grown {B : Nat} {a w w' : World} {row : Option Nat} (h : Below B a w) (hg : w.grownBy w' row) (hd : w.drawn ≤ w'.drawn) (hB : B ≤ w.heap.size) (hr : ∀ k, row = some k → B ≤ k) : Below B a w' :=
  .of (h.kit.grown hg hB hr) (Nat.le_trans h.dr hd)

end Go.Vg
