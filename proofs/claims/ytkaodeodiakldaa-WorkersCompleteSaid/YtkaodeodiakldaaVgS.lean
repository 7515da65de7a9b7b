/-
  Entailment of states is right: blocks, states. Own work; no condition.
-/
import Derived.Test.YtkaodeodiakldaaVgR
namespace Go.Vg
open Go.RowKit
variable {P : Program} {E : Env}

def BlkEnt (E : Env) (R : Ren) (H : List (Nat × HS E.T)) (id : Nat) (b : Blk E.T) : Prop :=
  (∃ i b0, renLook R id = some (some i) ∧ look H i = .live b0 ∧
    ((∃ t cs cs0, b = .cells t cs ∧ b0 = .cells t cs0 ∧ ∃ r r' ps, entL E.has cs cs0 r = some (r', ps) ∧ RExt r' R ∧ ∀ p ∈ ps, p) ∨ (∃ e l, b = .row e l ∧ b0 = .row e l) ∨ (∃ kt vt l, b = .map kt vt l ∧ b0 = .map kt vt l) ∨ (∃ L, b = .loop L ∧ b0 = .loop L))) ∨
  (renLook R id = some none ∧ ∃ e, b = .row e [] ∧ E.has e = true)

theorem entH_spec {R : Ren} {H : List (Nat × HS E.T)} : ∀ (H' : List (Nat × HS E.T)) (r r' : Ren) (ps : List Prop), entH E.has H H' r = some (r', ps) → RExt r' R → (∀ p ∈ ps, p) → ∀ id b, (id, HS.live b) ∈ H' → BlkEnt E R H id b := by
  intro H'
  induction H' with
  | nil => intro r r' ps _ _ _ id b hm; cases hm
  | cons p H' ih =>
    obtain ⟨id, s⟩ := p
    intro r r' ps h hx hp id' b' hm
    cases s with
    | free => rcases List.mem_cons.1 hm with e | hm
              · cases e
              · exact ih _ _ _ h hx hp _ _ hm
    | dead => rcases List.mem_cons.1 hm with e | hm
              · cases e
              · exact ih _ _ _ h hx hp _ _ hm
    | live b =>
      simp only [entH] at h
      split at h
      · rename_i r1 i hf
        obtain ⟨_, hl1⟩ := renFix_spec hf
        split at h
        · rename_i b0 hb0
          split at h
          · rename_i t cs
            split at h
            · rename_i t0 cs0
              split at h
              · rename_i hb
                have hb := Nat.eq_of_beq_eq_true hb
                subst hb
                obtain ⟨r2, p, q, h1, h2, rfl⟩ := andEnt_spec h
                have e2 := (entH_ext _ _ _ _ h2).trans hx
                rcases List.mem_cons.1 hm with e | hm
                · cases e
                  exact .inl ⟨i, _, ((entL_ext _ _ _ _ _ h1).trans e2) _ _ hl1, hb0, .inl ⟨_, _, _, rfl, rfl, _, _, _, h1, e2, fun x hx' => hp x (by simp [hx'])⟩⟩
                · exact ih _ _ _ h2 hx (fun x hx' => hp x (by simp [hx'])) _ _ hm
              · cases h
            · cases h
          · rename_i e l
            split at h
            · rename_i e0 l0
              split at h
              · rename_i he
                subst he
                obtain ⟨r2, p, q, h1, h2, rfl⟩ := andEnt_spec h
                cases h1
                have e2 := (entH_ext _ _ _ _ h2).trans hx
                have := hp _ (List.mem_append_left _ List.mem_cons_self)
                subst this
                rcases List.mem_cons.1 hm with e | hm
                · cases e
                  exact .inl ⟨i, _, e2 _ _ hl1, hb0, .inr (.inl ⟨_, _, rfl, rfl⟩)⟩
                · exact ih _ _ _ h2 hx (fun x hx' => hp x (by simp [hx'])) _ _ hm
              · cases h
            · cases h
          · rename_i kt vt l
            split at h
            · rename_i kt0 vt0 l0
              split at h
              · rename_i he
                obtain ⟨he1, he2⟩ := he
                subst he1 he2
                obtain ⟨r2, p, q, h1, h2, rfl⟩ := andEnt_spec h
                cases h1
                have e2 := (entH_ext _ _ _ _ h2).trans hx
                have := hp _ (List.mem_append_left _ List.mem_cons_self)
                subst this
                rcases List.mem_cons.1 hm with e | hm
                · cases e
                  exact .inl ⟨i, _, e2 _ _ hl1, hb0, .inr (.inr (.inl ⟨_, _, _, rfl, rfl⟩))⟩
                · exact ih _ _ _ h2 hx (fun x hx' => hp x (by simp [hx'])) _ _ hm
              · cases h
            · cases h
          · rename_i L
            split at h
            · rename_i L0
              split at h
              · rename_i he
                have he := liEq_eq he
                subst he
                obtain ⟨r2, p, q, h1, h2, rfl⟩ := andEnt_spec h
                cases h1
                have e2 := (entH_ext _ _ _ _ h2).trans hx
                rcases List.mem_cons.1 hm with e | hm
                · cases e
                  exact .inl ⟨i, _, e2 _ _ hl1, hb0, .inr (.inr (.inr ⟨_, rfl, rfl⟩))⟩
                · exact ih _ _ _ h2 hx (fun x hx' => hp x (by simp [hx'])) _ _ hm
              · cases h
            · cases h
        · cases h
      · rename_i r1 hf
        obtain ⟨_, hl1⟩ := renFix_spec hf
        split at h
        · rename_i e l
          split at h
          · rename_i he
            obtain ⟨r2, p, q, h1, h2, rfl⟩ := andEnt_spec h
            cases h1
            have e2 := (entH_ext _ _ _ _ h2).trans hx
            have := hp _ (List.mem_append_left _ List.mem_cons_self)
            subst this
            rcases List.mem_cons.1 hm with e' | hm
            · cases e'
              exact .inr ⟨e2 _ _ hl1, _, rfl, he⟩
            · exact ih _ _ _ h2 hx (fun x hx' => hp x (by simp [hx'])) _ _ hm
          · cases h
        · cases h

theorem renLook_mem {R : Ren} {i : Nat} {j : Option Nat} (h : renLook R i = some j) : ∃ p ∈ R, p.1 = i := by
  induction R with
  | nil => cases h
  | cons p r ih =>
    simp only [renLook] at h
    split at h
    · rename_i hb; exact ⟨p, by simp, Nat.eq_of_beq_eq_true hb⟩
    · obtain ⟨q, h1, h2⟩ := ih h; exact ⟨q, by simp [h1], h2⟩

theorem look_mem {T : Nat → Type} {H : List (Nat × HS T)} {i : Nat} {b : Blk T} (h : look H i = .live b) : (i, HS.live b) ∈ H := by
  induction H with
  | nil => cases h
  | cons p r ih =>
    obtain ⟨j, s⟩ := p
    simp only [look] at h
    split at h
    · rename_i hb; have hb : j = i := Nat.eq_of_beq_eq_true hb; have h : s = .live b := h; subst hb; subst h; simp
    · exact List.mem_cons_of_mem _ (ih h)

theorem mem_liveIds {T : Nat → Type} {H : List (Nat × HS T)} {i : Nat} {b : Blk T} (h : (i, HS.live b) ∈ H) : i ∈ liveIds H := by
  induction H with
  | nil => cases h
  | cons p r ih =>
    obtain ⟨j, s⟩ := p
    rcases List.mem_cons.1 h with e | h
    · cases e; simp [liveIds]
    · have := ih h
      cases s <;> simp [liveIds, this]

theorem noTwice_spec {R : Ren} : ∀ {L : List Nat}, noTwice (srcs R L) = true → ∀ i ∈ L, ∀ j ∈ L, ∀ x, renLook R i = some (some x) → renLook R j = some (some x) → i = j := by
  intro L
  have aux : ∀ (L : List Nat) (x j : Nat), j ∈ L → renLook R j = some (some x) → some x ∈ srcs R L := by
    intro L x j hj hr
    induction L with
    | nil => cases hj
    | cons l L ih =>
      rcases List.mem_cons.1 hj with rfl | hj
      · simp [srcs, hr]
      · simp [srcs, ih hj]
  induction L with
  | nil => intro _ i hi; cases hi
  | cons l L ih =>
    intro h i hi j hj x h1 h2
    have key : ∀ k ∈ L, renLook R l = some (some x) → renLook R k = some (some x) → False := by
      intro k hk hl hk2
      simp only [srcs, hl, noTwice, Bool.and_eq_true, List.all_eq_true] at h
      have := h.1 _ (aux L x k hk hk2)
      simp at this
    have hr : noTwice (srcs R L) = true := by
      have aux2 : ∀ (o : Option Nat) r, noTwice (o :: r) = true → noTwice r = true := fun o r h => by
        cases o with
        | none => simpa [noTwice] using h
        | some y => simp only [noTwice, Bool.and_eq_true] at h; exact h.2
      exact aux2 _ _ h
    rcases List.mem_cons.1 hi with e1 | hi <;> rcases List.mem_cons.1 hj with e2 | hj
    · rw [e1, e2]
    · rw [e1] at h1; exact (key j hj h1 h2).elim
    · rw [e2] at h2; exact (key i hi h2 h1).elim
    · exact ih hr i hi j hj x h1 h2

theorem keysLt_spec {T : Nat → Type} {n : Nat} : ∀ {H : List (Nat × HS T)}, keysLt n H = true → ∀ id, look H id ≠ .free → id < n := by
  intro H
  induction H with
  | nil => intro _ id h; exact absurd rfl h
  | cons p r ih =>
    obtain ⟨j, s⟩ := p
    intro h id hl
    have : Nat.blt j n = true ∧ keysLt n r = true := by cases s <;> simp only [keysLt, Bool.and_eq_true] at h <;> first | exact h | exact ⟨h.2, h.1⟩
    simp only [look] at hl
    split at hl
    · rename_i hb; have hb : j = id := Nat.eq_of_beq_eq_true hb; subst hb; simpa [Nat.blt_eq] using this.1
    · exact ih this.2 id hl

theorem conj_all : ∀ {ps : List Prop}, conj ps → ∀ p ∈ ps, p
  | [], _, p, h => by cases h
  | [q], hq, p, h => by rcases List.mem_cons.1 h with rfl | h; exact hq; cases h
  | q :: q' :: r, hq, p, h => by
      rcases List.mem_cons.1 h with rfl | h
      · exact hq.1
      · exact conj_all hq.2 p h

theorem allData_flat (e : Nat) (he : E.has e = true) : ∀ (l : List (E.T e)), allData (l.flatMap (E.enc e)) = true := by
  intro l
  induction l with
  | nil => rfl
  | cons x r ih =>
    rw [List.flatMap_cons]
    have : ∀ (xs ys : List (SV E.T)), allData xs = true → allData ys = true → allData (xs ++ ys) = true := by
      intro xs ys
      induction xs with
      | nil => intro _ h; exact h
      | cons x xs ih => intro h1 h2; simp only [allData, Bool.and_eq_true, List.cons_append] at h1 ⊢; exact ⟨h1.1, ih h1.2 h2⟩
    exact this _ _ (E.enc_data e x he) ih

section
variable {B : Nat} {S0 : Nat → Prop} {w0 : World} {gv : Gv} {σ : Nat → Option Nat} {st st' : St E.T} {a : Act} {w : World}

theorem ent_sound (g : Gam E B S0 w0 gv σ st a w) (h : ent E.has st st') : ∃ σ', Gam E B S0 w0 gv σ' st' a w := by
  unfold ent at h
  split at h
  · rename_i hlt
    split at h
    · rename_i R ps hent
      split at h
      · rename_i hno hment
        have hp := conj_all h
        obtain ⟨r1, p1, q1, h1, h2, rfl⟩ := andEnt_spec hent
        obtain ⟨r2, p2, q2, h3, h4, rfl⟩ := andEnt_spec h2
        have x2 := entH_ext _ _ _ _ h4
        have x1 := (entL_ext _ _ _ _ _ h3).trans x2
        have hb : ∀ id b, look st'.heap id = .live b → BlkEnt E R st.heap id b := fun id b hl => entH_spec _ _ _ _ h4 (RExt.refl _) (fun p hp' => hp p (by simp [hp'])) id b (look_mem hl)
        let σ' : Nat → Option Nat := fun i => match renLook R i with | some (some j) => σ j | _ => none
        have hs1 : ∀ i j, renLook R i = some (some j) → σ' i = σ j := fun i j h => by simp [σ', h]
        have hs2 : ∀ i, renLook R i = some none → σ' i = none := fun i h => by simp [σ', h]
        have hsup : ∀ k, sup E B S0 st.heap σ w k → sup E B S0 st'.heap σ' w k := fun k hk => ⟨hk.1, hk.2.1, fun id b hl => by
          rcases hb id b hl with ⟨i, b0, hr, hl0, _⟩ | ⟨hr, _⟩
          · rw [hs1 id i hr]; exact hk.2.2 i b0 hl0
          · rw [hs2 id hr]; simp⟩
        have ok : RenOk E R st.heap st'.heap σ σ' w (sup E B S0 st.heap σ w) (sup E B S0 st'.heap σ' w) := by
          refine ⟨fun i j hr => ?_, hs1, hs2, fun i j e l hr hl => ?_, hsup⟩
          · obtain ⟨p, hpm, rfl⟩ := renLook_mem hr
            have := List.all_eq_true.1 hment p hpm
            intro hf
            rw [hf] at this
            simp at this
          · rcases hb i _ hl with ⟨i', b0, hr', hl0, h5⟩ | ⟨hr', _⟩
            · rw [hr] at hr'; cases hr'
              rcases h5 with ⟨t, cs, cs0, h6, _⟩ | ⟨e', l', h6, h7⟩ | ⟨_, _, _, h6, _⟩ | ⟨_, h6, _⟩
              · cases h6
              · cases h6; rw [hl0, h7]
              · cases h6
              · cases h6
            · rw [hr] at hr'; cases hr'
        refine ⟨σ', g.below, g.hB, (let ⟨Ds, d1, d2, d3⟩ := g.defs; ⟨Ds, d1, d2, fun D hD => ⟨⟨(d3 D hD).1.1, hsup D (d3 D hD).1.2⟩, (d3 D hD).2⟩⟩), ?_, ?_, fun id b hl => ?_, fun i j b c k hi hj h5 h6 => ?_, keysLt_spec hlt⟩
        · exact entL_sound ok _ _ _ _ _ _ h1 x1 (fun p hp' => hp p (by simp [hp'])) g.tmp
        · exact entL_sound ok _ _ _ _ _ _ h3 x2 (fun p hp' => hp p (by simp [hp'])) g.sav
        · rcases hb id b hl with ⟨i, b0, hr, hl0, h5⟩ | ⟨hr, e, rfl, he⟩
          · have hgb := g.blk i b0 hl0
            rcases h5 with ⟨t, cs, cs0, rfl, rfl, r, r', ps, h6, h7, h8⟩ | ⟨e, l, rfl, rfl⟩ | ⟨kt, vt, l, rfl, rfl⟩ | ⟨L, rfl, rfl⟩
            · obtain ⟨k, arr, h9, h10, h11, h12⟩ := hgb
              exact ⟨k, arr, (hs1 id i hr).trans h9, h10, h11, entC_sound ok _ _ _ _ _ _ h6 h7 h8 h12⟩
            · obtain ⟨he, hgb⟩ := hgb
              refine ⟨he, ?_⟩
              rcases hgb with ⟨h9, h10⟩ | ⟨k, arr, h9, h10, h11, h12, h13⟩
              · exact .inl ⟨(hs1 id i hr).trans h9, h10⟩
              · exact .inr ⟨k, arr, (hs1 id i hr).trans h9, h10, h11, h12, (RelC.data (H' := st'.heap) (σ' := σ') h13 (allData_flat e he l)).goes (goes_more (fun k hk => ⟨hsup k hk, rfl⟩) (fun _ _ => rfl))⟩
            · obtain ⟨hk1, hk2, k, es, h9, h10⟩ := hgb
              exact ⟨hk1, hk2, k, es, (hs1 id i hr).trans h9, h10⟩
            · obtain ⟨k, r, pre, post, h9, h10⟩ := hgb
              exact ⟨k, r, pre, post, (hs1 id i hr).trans h9, h10⟩
          · exact ⟨he, .inl ⟨hs2 id hr, rfl⟩⟩
        · rcases hb i b hi with ⟨i0, b0, hr, hl0, _⟩ | ⟨hr, _⟩
          · rcases hb j c hj with ⟨j0, c0, hr', hl0', _⟩ | ⟨hr', _⟩
            · rw [hs1 i i0 hr] at h5
              rw [hs1 j j0 hr'] at h6
              have := g.inj i0 j0 b0 c0 k hl0 hl0' h5 h6
              subst this
              exact noTwice_spec hno i (mem_liveIds (look_mem hi)) j (mem_liveIds (look_mem hj)) i0 hr hr'
            · rw [hs2 j hr'] at h6; cases h6
          · rw [hs2 i hr] at h5; cases h5
      · exact h.elim
    · exact h.elim
  · exact h.elim
end
end Go.Vg
