/-
  Entailment of states is right. Own work; no condition.
-/
import Derived.Test.YtkaodeodiakldaaVgQ
namespace Go.Vg
open Go.RowKit
variable {P : Program} {E : Env}

/-- A longer renaming. -/
def RExt (r r' : Ren) : Prop := ∀ i j, renLook r i = some j → renLook r' i = some j
theorem RExt.refl (r : Ren) : RExt r r := fun _ _ h => h
theorem RExt.trans {r r' r'' : Ren} (h : RExt r r') (k : RExt r' r'') : RExt r r'' := fun i j hi => k i j (h i j hi)

theorem rext_cons {r : Ren} {i : Nat} {j : Option Nat} (h : renLook r i = none) : RExt r ((i, j) :: r) := by
  intro i' j' h'
  simp only [renLook]
  split
  · rename_i hb; have := Nat.eq_of_beq_eq_true hb; subst this; rw [h] at h'; cases h'
  · exact h'

theorem look_cons (r : Ren) (i : Nat) (j : Option Nat) : renLook ((i, j) :: r) i = some j := by simp [renLook]

theorem renBind_spec {r r' : Ren} {i : Nat} {j : Option Nat} (h : renBind r i j = some r') : RExt r r' ∧ renLook r' i = some j := by
  unfold renBind at h
  split at h
  · rename_i hn; cases h; exact ⟨rext_cons hn, look_cons _ _ _⟩
  · rename_i j' hj
    split at h
    · split at h
      · rename_i hb; cases h; have := Nat.eq_of_beq_eq_true hb; subst this; exact ⟨RExt.refl _, hj⟩
      · cases h
    · cases h; exact ⟨RExt.refl _, hj⟩
    · cases h

theorem renFix_spec {r r' : Ren} {i : Nat} {j : Option Nat} (h : renFix r i = (r', j)) : RExt r r' ∧ renLook r' i = some j := by
  unfold renFix at h
  split at h
  · rename_i j' hj; cases h; exact ⟨RExt.refl _, hj⟩
  · rename_i hn; cases h; exact ⟨rext_cons hn, look_cons _ _ _⟩

theorem andEnt_spec {x : EntR} {k : Ren → EntR} {r : Ren} {ps : List Prop} (h : andEnt x k = some (r, ps)) : ∃ r1 p q, x = some (r1, p) ∧ k r1 = some (r, q) ∧ ps = p ++ q := by
  unfold andEnt at h
  split at h
  · rename_i r1 p
    split at h
    · rename_i r' q hk; cases h; exact ⟨r1, p, q, rfl, hk, rfl⟩
    · cases h
  · cases h

mutual
theorem entS_ext {has : Nat → Bool} : ∀ (t s : SV E.T) (r r' : Ren) (ps : List Prop), entS has t s r = some (r', ps) → RExt r r'
  | .any, s, r, r', ps, h => by cases s <;> simp only [entS, reduceCtorEq, Option.some.injEq, Prod.mk.injEq] at h <;> (obtain ⟨rfl, _⟩ := h; exact RExt.refl _)
  | .int _ _, s, r, r', ps, h => by
      cases s <;> simp only [entS, reduceCtorEq] at h
      split at h
      · cases h; exact RExt.refl _
      · cases h
  | .bool _, s, r, r', ps, h => by cases s <;> simp only [entS, reduceCtorEq, Option.some.injEq, Prod.mk.injEq] at h; (obtain ⟨rfl, _⟩ := h; exact RExt.refl _)
  | .str _, s, r, r', ps, h => by cases s <;> simp only [entS, reduceCtorEq, Option.some.injEq, Prod.mk.injEq] at h; (obtain ⟨rfl, _⟩ := h; exact RExt.refl _)
  | .nilp, s, r, r', ps, h => by cases s <;> simp only [entS, reduceCtorEq, Option.some.injEq, Prod.mk.injEq] at h; (obtain ⟨rfl, _⟩ := h; exact RExt.refl _)
  | .nilf, s, r, r', ps, h => by cases s <;> simp only [entS, reduceCtorEq, Option.some.injEq, Prod.mk.injEq] at h; (obtain ⟨rfl, _⟩ := h; exact RExt.refl _)
  | .nils, s, r, r', ps, h => by cases s <;> simp only [entS, reduceCtorEq, Option.some.injEq, Prod.mk.injEq] at h; (obtain ⟨rfl, _⟩ := h; exact RExt.refl _)
  | .ptr i' o', s, r, r', ps, h => by
      cases s <;> simp only [entS, reduceCtorEq] at h
      split at h
      · obtain ⟨r1, h1, h2⟩ := Option.map_eq_some_iff.1 h; cases h2; exact (renBind_spec h1).1
      · cases h
  | .row i', s, r, r', ps, h => by
      cases s <;> simp only [entS, reduceCtorEq] at h <;> (obtain ⟨r1, h1, h2⟩ := Option.map_eq_some_iff.1 h; cases h2; exact (renBind_spec h1).1)
  | .dat _ _, s, r, r', ps, h => by
      cases s <;> simp only [entS, reduceCtorEq] at h
      · split at h
        · cases h; exact RExt.refl _
        · cases h
      · split at h
        · cases h; exact RExt.refl _
        · cases h
  | .agg cs', s, r, r', ps, h => by cases s <;> simp only [entS, reduceCtorEq] at h; exact entL_ext cs' _ _ _ _ h
  | .tup cs', s, r, r', ps, h => by cases s <;> simp only [entS, reduceCtorEq] at h; exact entL_ext cs' _ _ _ _ h
  | .fn _ cs', s, r, r', ps, h => by
      cases s <;> simp only [entS, reduceCtorEq] at h
      split at h
      · exact entL_ext cs' _ _ _ _ h
      · cases h
  | .boxd _ cs' _, s, r, r', ps, h => by
      cases s <;> simp only [entS, reduceCtorEq] at h
      split at h
      · exact entL_ext cs' _ _ _ _ h
      · cases h
  | .arr _ _ _, s, r, r', ps, h => by
      cases s <;> simp only [entS, reduceCtorEq] at h
      split at h
      · cases h; exact RExt.refl _
      · cases h
  | .yld i', s, r, r', ps, h => by
      cases s <;> simp only [entS, reduceCtorEq] at h
      obtain ⟨r1, h1, h2⟩ := Option.map_eq_some_iff.1 h; cases h2; exact (renBind_spec h1).1
  | .map i', s, r, r', ps, h => by
      cases s <;> simp only [entS, reduceCtorEq] at h
      obtain ⟨r1, h1, h2⟩ := Option.map_eq_some_iff.1 h; cases h2; exact (renBind_spec h1).1
  | .aslice i' _ _, s, r, r', ps, h => by
      cases s <;> simp only [entS, reduceCtorEq] at h
      split at h
      · obtain ⟨r1, h1, h2⟩ := Option.map_eq_some_iff.1 h; cases h2; exact (renBind_spec h1).1
      · cases h
  | .mdat _ _ _, s, r, r', ps, h => by
      cases s <;> simp only [entS, reduceCtorEq] at h
      split at h
      · cases h; exact RExt.refl _
      · cases h
  | .aptr _ _ _ _, s, r, r', ps, h => by simp only [entS, reduceCtorEq] at h
  | .rptr _ _ _, s, r, r', ps, h => by simp only [entS, reduceCtorEq] at h
  | .eptr _ _ _ _, s, r, r', ps, h => by simp only [entS, reduceCtorEq] at h
  | .aeptr _ _ _ _ _ _, s, r, r', ps, h => by simp only [entS, reduceCtorEq] at h
theorem entL_ext {has : Nat → Bool} : ∀ (t s : List (SV E.T)) (r r' : Ren) (ps : List Prop), entL has t s r = some (r', ps) → RExt r r'
  | [], s, r, r', ps, h => by
      cases s <;> simp only [entL, reduceCtorEq, Option.some.injEq, Prod.mk.injEq] at h
      obtain ⟨rfl, _⟩ := h; exact RExt.refl _
  | b :: t, s, r, r', ps, h => by
      cases s with
      | nil => simp only [entL, reduceCtorEq] at h
      | cons a s =>
        simp only [entL] at h
        obtain ⟨r1, p, q, h1, h2, _⟩ := andEnt_spec h
        exact (entS_ext b a _ _ _ h1).trans (entL_ext t s _ _ _ h2)
end

theorem entH_ext {has : Nat → Bool} {H : List (Nat × HS E.T)} : ∀ (H' : List (Nat × HS E.T)) (r r' : Ren) (ps : List Prop), entH has H H' r = some (r', ps) → RExt r r' := by
  intro H'
  induction H' with
  | nil => intro r r' ps h; simp only [entH, Option.some.injEq, Prod.mk.injEq] at h; obtain ⟨rfl, _⟩ := h; exact RExt.refl _
  | cons p H' ih =>
    obtain ⟨id, s⟩ := p
    intro r r' ps h
    cases s with
    | free => exact ih _ _ _ h
    | dead => exact ih _ _ _ h
    | live b =>
      simp only [entH] at h
      split at h
      · rename_i r1 i hf
        refine (renFix_spec hf).1.trans ?_
        split at h
        · split at h
          · split at h
            · split at h
              · obtain ⟨r2, p, q, h1, h2, _⟩ := andEnt_spec h
                exact (entL_ext _ _ _ _ _ h1).trans (ih _ _ _ h2)
              · cases h
            · cases h
          · split at h
            · split at h
              · obtain ⟨r2, p, q, h1, h2, _⟩ := andEnt_spec h
                cases h1
                exact ih _ _ _ h2
              · cases h
            · cases h
          · split at h
            · split at h
              · obtain ⟨r2, p, q, h1, h2, _⟩ := andEnt_spec h
                cases h1
                exact ih _ _ _ h2
              · cases h
            · cases h
          · split at h
            · split at h
              · obtain ⟨r2, p, q, h1, h2, _⟩ := andEnt_spec h
                cases h1
                exact ih _ _ _ h2
              · cases h
            · cases h
        · cases h
      · rename_i r1 hf
        refine (renFix_spec hf).1.trans ?_
        split at h
        · split at h
          · obtain ⟨r2, p, q, h1, h2, _⟩ := andEnt_spec h
            cases h1
            exact ih _ _ _ h2
          · cases h
        · cases h

/-- What the renaming must bring. -/
structure RenOk (E : Env) (R : Ren) (H H' : List (Nat × HS E.T)) (σ σ' : Nat → Option Nat) (w : World) (S S' : Nat → Prop) : Prop where
  live : ∀ i j, renLook R i = some j → look H' i ≠ .free
  nam : ∀ i j, renLook R i = some (some j) → σ' i = σ j
  nil : ∀ i, renLook R i = some none → σ' i = none
  row : ∀ i j e l, renLook R i = some (some j) → look H' i = .live (.row e l) → look H j = .live (.row e l)
  sup : ∀ k, S k → S' k

theorem RelS.dataAny {H H' : List (Nat × HS E.T)} {σ σ' : Nat → Option Nat} {w : World} {S S' : Nat → Prop} (hS : ∀ k, S k → S' k) {s : SV E.T} {v : Value} (h : RelS E H σ w S s v) (hd : isData s = true) : RelS E H' σ' w S' s v :=
  (RelS.data (H' := H') (σ' := σ') h hd).goes (goes_more (fun k hk => ⟨hS k hk, rfl⟩) (fun _ _ => rfl))

section
variable {R : Ren} {H H' : List (Nat × HS E.T)} {σ σ' : Nat → Option Nat} {w : World} {S S' : Nat → Prop}

theorem entS_arr {has : Nat → Bool} {t : SV E.T} {k : IntKind} {n : Nat} {l : List Int} {r r' : Ren} {ps : List Prop} (h : entS has t (.arr k n l) r = some (r', ps)) : ∃ l', t = .arr k n l' ∧ ps = [l = l'] := by
  cases t <;> simp only [entS, reduceCtorEq] at h
  split at h
  · rename_i h1 h2; cases h; have := kEq_eq h1; subst this; have := Nat.eq_of_beq_eq_true h2; subst this; exact ⟨_, rfl, rfl⟩
  · cases h

theorem entS_width {has : Nat → Bool} {t s : SV E.T} {r r' : Ren} {ps : List Prop} (h : entS has t s r = some (r', ps)) (hs : ∀ k n l, s ≠ .arr k n l) : width t = 1 := by
  cases t <;> try rfl
  cases s <;> simp only [entS, reduceCtorEq] at h
  exact absurd rfl (hs _ _ _)

mutual
theorem entS_sound (ok : RenOk E R H H' σ σ' w S S') : ∀ (t s : SV E.T) (r r' : Ren) (ps : List Prop) (v : Value), entS E.has t s r = some (r', ps) → RExt r' R → (∀ p ∈ ps, p) → RelS E H σ w S s v → RelS E H' σ' w S' t v
  | .any, s, r, r', ps, v, h, hx, hp, hr => .any v
  | .int _ _, s, r, r', ps, v, h, hx, hp, hr => by
      cases s <;> simp only [entS, reduceCtorEq] at h
      split at h
      · rename_i hk; cases h; have hk := kEq_eq hk; have := hp _ List.mem_cons_self; subst hk; subst this; cases hr; exact .int _ _
      · cases h
  | .bool _, s, r, r', ps, v, h, hx, hp, hr => by
      cases s <;> simp only [entS, reduceCtorEq, Option.some.injEq, Prod.mk.injEq] at h
      obtain ⟨_, rfl⟩ := h; have := hp _ List.mem_cons_self; subst this; cases hr; exact .bool _
  | .str _, s, r, r', ps, v, h, hx, hp, hr => by
      cases s <;> simp only [entS, reduceCtorEq, Option.some.injEq, Prod.mk.injEq] at h
      obtain ⟨_, rfl⟩ := h; have := hp _ List.mem_cons_self; subst this; cases hr; exact .str _
  | .nilp, s, r, r', ps, v, h, hx, hp, hr => by cases s <;> simp only [entS, reduceCtorEq] at h; cases hr; exact .nilp
  | .nilf, s, r, r', ps, v, h, hx, hp, hr => by cases s <;> simp only [entS, reduceCtorEq] at h; cases hr; exact .nilf
  | .nils, s, r, r', ps, v, h, hx, hp, hr => by cases s <;> simp only [entS, reduceCtorEq] at h; cases hr; exact .nils
  | .ptr i' o', s, r, r', ps, v, h, hx, hp, hr => by
      cases s <;> simp only [entS, reduceCtorEq] at h
      split at h
      · rename_i hb
        have hb := Nat.eq_of_beq_eq_true hb
        subst hb
        obtain ⟨r1, h1, h2⟩ := Option.map_eq_some_iff.1 h; cases h2
        have hl := hx _ _ (renBind_spec h1).2
        cases hr with
        | ptr _ _ k h3 h4 => exact .ptr _ _ k (ok.live _ _ hl) ((ok.nam _ _ hl).trans h4)
      · cases h
  | .row i', s, r, r', ps, v, h, hx, hp, hr => by
      cases s <;> simp only [entS, reduceCtorEq] at h
      · obtain ⟨r1, h1, h2⟩ := Option.map_eq_some_iff.1 h; cases h2
        have hl := hx _ _ (renBind_spec h1).2
        cases hr
        exact .row_nil _ (ok.live _ _ hl) (ok.nil _ hl)
      · obtain ⟨r1, h1, h2⟩ := Option.map_eq_some_iff.1 h; cases h2
        have hl := hx _ _ (renBind_spec h1).2
        cases hr with
        | row_nil _ h3 h4 => exact .row_nil _ (ok.live _ _ hl) ((ok.nam _ _ hl).trans h4)
        | row _ k n c h3 h4 h5 => exact .row _ k n c (ok.live _ _ hl) ((ok.nam _ _ hl).trans h4) (fun e l he => h5 e l (ok.row _ _ _ _ hl he))
  | .dat _ _, s, r, r', ps, v, h, hx, hp, hr => by
      cases s <;> simp only [entS, reduceCtorEq] at h
      · split at h
        · rename_i hh; cases h; have := hp _ List.mem_cons_self; subst this; cases hr; exact .dat_nil _ hh
        · cases h
      · split at h
        · rename_i hh; cases h; subst hh; have := hp _ List.mem_cons_self; subst this; exact hr.dataAny ok.sup rfl
        · cases h
  | .agg cs', s, r, r', ps, v, h, hx, hp, hr => by
      cases s <;> simp only [entS, reduceCtorEq] at h
      cases hr with
      | agg _ vs hc => exact .agg _ _ (entC_sound ok cs' _ _ _ _ _ h hx hp hc)
  | .tup cs', s, r, r', ps, v, h, hx, hp, hr => by
      cases s <;> simp only [entS, reduceCtorEq] at h
      cases hr with
      | tup _ vs hc => exact .tup _ _ (entL_sound ok cs' _ _ _ _ _ h hx hp hc)
  | .fn _ cs', s, r, r', ps, v, h, hx, hp, hr => by
      cases s <;> simp only [entS, reduceCtorEq] at h
      split at h
      · rename_i hb
        have hb := Nat.eq_of_beq_eq_true hb
        subst hb
        cases hr with
        | fn _ _ vs hc => exact .fn _ _ _ (entL_sound ok cs' _ _ _ _ _ h hx hp hc)
      · cases h
  | .boxd _ cs' _, s, r, r', ps, v, h, hx, hp, hr => by
      cases s <;> simp only [entS, reduceCtorEq] at h
      split at h
      · rename_i hb
        rw [Bool.and_eq_true] at hb
        have hb1 := Nat.eq_of_beq_eq_true hb.1
        have hb2 := Nat.eq_of_beq_eq_true hb.2
        subst hb1 hb2
        cases hr with
        | boxd _ _ _ k arr h3 h4 hc => exact .boxd _ _ _ k arr (ok.sup _ h3) h4 (entC_sound ok cs' _ _ _ _ _ h hx hp hc)
      · cases h
  | .arr _ _ _, s, r, r', ps, v, h, hx, hp, hr => by
      cases s <;> simp only [entS, reduceCtorEq] at h
      cases hr
  | .yld i', s, r, r', ps, v, h, hx, hp, hr => by
      cases s <;> simp only [entS, reduceCtorEq] at h
      obtain ⟨r1, h1, h2⟩ := Option.map_eq_some_iff.1 h; cases h2
      have hl := hx _ _ (renBind_spec h1).2
      cases hr with
      | yld _ k h3 h4 => exact .yld _ k (ok.live _ _ hl) ((ok.nam _ _ hl).trans h4)
  | .map i', s, r, r', ps, v, h, hx, hp, hr => by
      cases s <;> simp only [entS, reduceCtorEq] at h
      obtain ⟨r1, h1, h2⟩ := Option.map_eq_some_iff.1 h; cases h2
      have hl := hx _ _ (renBind_spec h1).2
      cases hr with
      | map _ k h3 h4 => exact .map _ k (ok.live _ _ hl) ((ok.nam _ _ hl).trans h4)
  | .aslice i' _ _, s, r, r', ps, v, h, hx, hp, hr => by
      cases s <;> simp only [entS, reduceCtorEq] at h
      split at h
      · rename_i hb
        rw [Bool.and_eq_true] at hb
        have hb1 := Nat.eq_of_beq_eq_true hb.1
        have hb2 := Nat.eq_of_beq_eq_true hb.2
        subst hb1 hb2
        obtain ⟨r1, h1, h2⟩ := Option.map_eq_some_iff.1 h; cases h2
        have hl := hx _ _ (renBind_spec h1).2
        cases hr with
        | aslice _ _ _ k h3 h4 => exact .aslice _ _ _ k (ok.live _ _ hl) ((ok.nam _ _ hl).trans h4)
      · cases h
  | .mdat _ _ _, s, r, r', ps, v, h, hx, hp, hr => by
      cases s <;> simp only [entS, reduceCtorEq] at h
      split at h
      · rename_i hh; cases h; obtain ⟨h1, h2⟩ := hh; subst h1 h2; have := hp _ List.mem_cons_self; subst this; exact hr.dataAny ok.sup rfl
      · cases h
  | .aptr _ _ _ _, s, r, r', ps, v, h, hx, hp, hr => by simp only [entS, reduceCtorEq] at h
  | .rptr _ _ _, s, r, r', ps, v, h, hx, hp, hr => by simp only [entS, reduceCtorEq] at h
  | .eptr _ _ _ _, s, r, r', ps, v, h, hx, hp, hr => by simp only [entS, reduceCtorEq] at h
  | .aeptr _ _ _ _ _ _, s, r, r', ps, v, h, hx, hp, hr => by simp only [entS, reduceCtorEq] at h
theorem entL_sound (ok : RenOk E R H H' σ σ' w S S') : ∀ (t s : List (SV E.T)) (r r' : Ren) (ps : List Prop) (vs : List Value), entL E.has t s r = some (r', ps) → RExt r' R → (∀ p ∈ ps, p) → RelL E H σ w S s vs → RelL E H' σ' w S' t vs
  | [], s, r, r', ps, vs, h, hx, hp, hr => by
      cases s <;> simp only [entL, reduceCtorEq] at h
      cases hr; exact .nil
  | b :: t, s, r, r', ps, vs, h, hx, hp, hr => by
      cases s with
      | nil => simp only [entL, reduceCtorEq] at h
      | cons a s =>
        simp only [entL] at h
        obtain ⟨r1, p, q, h1, h2, rfl⟩ := andEnt_spec h
        have hx1 := (entL_ext t s _ _ _ h2).trans hx
        cases hr with
        | cons h3 h4 => exact .cons (entS_sound ok b a _ _ _ _ h1 hx1 (fun x hx' => hp x (by simp [hx'])) h3) (entL_sound ok t s _ _ _ _ h2 hx (fun x hx' => hp x (by simp [hx'])) h4)
theorem entC_sound (ok : RenOk E R H H' σ σ' w S S') : ∀ (t s : List (SV E.T)) (r r' : Ren) (ps : List Prop) (vs : List Value), entL E.has t s r = some (r', ps) → RExt r' R → (∀ p ∈ ps, p) → RelC E H σ w S s vs → RelC E H' σ' w S' t vs
  | [], s, r, r', ps, vs, h, hx, hp, hr => by
      cases s <;> simp only [entL, reduceCtorEq] at h
      cases hr; exact .nil
  | b :: t, s, r, r', ps, vs, h, hx, hp, hr => by
      cases s with
      | nil => simp only [entL, reduceCtorEq] at h
      | cons a s =>
        simp only [entL] at h
        obtain ⟨r1, p, q, h1, h2, rfl⟩ := andEnt_spec h
        have hx1 := (entL_ext t s _ _ _ h2).trans hx
        cases hr with
        | cons h0 h00 h3 h4 =>
          have hw : width b = 1 := entS_width h1 (fun k n l e => by subst e; cases h3)
          exact .cons hw h00 (entS_sound ok b a _ _ _ _ h1 hx1 (fun x hx' => hp x (by simp [hx'])) h3) (entC_sound ok t s _ _ _ _ h2 hx (fun x hx' => hp x (by simp [hx'])) h4)
        | arr h3 h4 =>
          obtain ⟨l', rfl, rfl⟩ := entS_arr h1
          have := hp _ (List.mem_append_left _ List.mem_cons_self); subst this
          exact .arr h3 (entC_sound ok t s _ _ _ _ h2 hx (fun x hx' => hp x (by simp [hx'])) h4)
end
end
end Go.Vg
