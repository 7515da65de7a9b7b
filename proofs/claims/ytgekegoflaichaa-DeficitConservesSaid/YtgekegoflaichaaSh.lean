/-
  What the walked functions of the reference come to (2): Valid, refused, with, Put. Own work; no condition.
-/
import Derived.Test.YtgekegoflaichaaSg
set_option maxRecDepth 10000
namespace Go.Vg.Ytgekegoflaichaa
open Go.Vg Go.Proofs

/-- A queue's numbers, as any call has them. -/
structure QFit (q : Queue) : Prop where
  len : q.vars.length = 8
  fit : ∀ x ∈ q.vars, -9223372036854775808 ≤ x ∧ x ≤ 9223372036854775807
theorem QFit.get {q : Queue} (h : QFit q) (i : Nat) : -9223372036854775808 ≤ q.vars.getD i 0 ∧ q.vars.getD i 0 ≤ 9223372036854775807 := by
  by_cases hi : i < q.vars.length
  · rw [List.getD_eq_getElem?_getD, List.getElem?_eq_getElem hi]
    exact h.fit _ (List.getElem_mem hi)
  · rw [List.getD_eq_getElem?_getD, List.getElem?_eq_none (by omega)]; simp

theorem l2220_spec {x1 : Bool} {fl : Int} {l : List Queued} (hl : l.length ≤ 1000000) {a1 a2 a3 a4 a5 sd : Int} {ls : List (List Queued)} {v : List Int} {kr : Bool → Prop} {k2 : Bool → Int → Int → Int → Int → Int → Int → List (List Queued) → List Int → Int → Prop} :
    ∀ (d : List Queued) (i : Nat), l.drop i = d → ((d.all fun x => x.p.flow == fl) = true → k2 x1 fl a1 a2 a3 a4 a5 ls v sd) → ((d.all fun x => x.p.flow == fl) = false → kr false) → ∃ k, l_22_20 k x1 fl l i a1 a2 a3 a4 a5 ls v sd kr k2 := by
  intro d
  induction d with
  | nil =>
    intro i hd h1 h2
    have : l.length ≤ i := by simpa using hd
    exact ⟨1, br_false (by simp; omega) (h1 rfl)⟩
  | cons x r ih =>
    intro i hd h1 h2
    have hlt := lt_drop hd
    have hg : l.getD (i : Int).toNat (env.d 45) = x := getD_drop (by simpa using hd)
    have hw : IntKind.i64.wrap ((i : Int) + 1) = ((i + 1 : Nat) : Int) := by rw [wrapi (by omega) (by omega)]; rfl
    rw [List.all_cons] at h1 h2
    by_cases e : (x.p.flow == fl) = true
    · rw [e, Bool.true_and] at h1 h2
      obtain ⟨k, hk⟩ := ih (i + 1) (drop_next hd) h1 h2
      refine ⟨k + 1, br_true (by simpa using hlt) (br_true (inb_of (by omega) (by omega)) (br_false ?_ ?_))⟩
      · rw [hg]; simpa using e
      · rw [hw]; exact hk
    · have e : (x.p.flow == fl) = false := by simpa using e
      refine ⟨1, br_true (by simpa using hlt) (br_true (inb_of (by omega) (by omega)) (br_true ?_ (h2 (by rw [e]; rfl))))⟩
      rw [hg]; simpa using e

theorem s2216_spec {x1 : Bool} {i : Nat} {l : List Queued} (hl : l.length ≤ 1000000) {d : Int} {a1 a2 a3 a4 a5 sd : Int} {ls : List (List Queued)} {v : List Int} {kr : Bool → Prop} {kn : Bool → Int → Int → Int → Int → Int → Int → List (List Queued) → List Int → Int → Prop}
    (h1 : (headOk (v.getD 1 0 == 1 && v.getD 0 0 == (i : Int)) d l && l.all fun x => x.p.flow == (i : Int)) = true → kn x1 i a1 a2 a3 a4 a5 ls v sd)
    (h2 : (headOk (v.getD 1 0 == 1 && v.getD 0 0 == (i : Int)) d l && l.all fun x => x.p.flow == (i : Int)) = false → kr false) : s_22_16 x1 i l d a1 a2 a3 a4 a5 ls v sd kr kn := by
  have s17 : ∀ b : Bool, (v.getD 1 0 == 1 && v.getD 0 0 == (i : Int)) = b → s_22_17 x1 i l d b a1 a2 a3 a4 a5 ls v sd kr kn := by
    intro b hb
    rw [hb] at h1 h2
    have s19 : (headOk b d l = true) → s_22_19 x1 i l a1 a2 a3 a4 a5 ls v sd kr kn := fun e => by
      rw [e, Bool.true_and] at h1 h2
      exact l2220_spec hl l 0 rfl h1 h2
    unfold s_22_17
    cases l with
    | nil => exact br_false rfl (s19 rfl)
    | cons x r =>
      refine br_true (by simp) (br_of (fun e => ?_) (fun e => ?_))
      · have e := bool_not e
        subst e
        refine br_true (inb_of (by omega) (by simp)) (br_of (fun e2 => ?_) (fun e2 => ?_))
        · have e2 : d ≥ x.p.size := of_decide_eq_true e2
          exact h2 (by simp only [headOk, Bool.false_or]; rw [decide_eq_false (by omega)]; rfl)
        · have e2 : ¬ d ≥ x.p.size := of_decide_eq_false e2
          exact s19 (by simp only [headOk, Bool.false_or]; rw [decide_eq_true (by omega)])
      · have e := bool_nn e
        subst e
        exact s19 rfl
  unfold s_22_16
  refine br_of (fun e => ?_) (fun e => ?_)
  · exact s17 _ (by rw [e, Bool.and_true])
  · exact s17 _ (by rw [e, Bool.and_false])

def flowR (v : List Int) (i : Nat) (l : List Queued) : Bool :=
  okT (v.getD 7 0) 0 l && decide (0 ≤ v.getD (2 + i / 2) 0) && decide ((defS v).getD i 0 ≤ 19999) && (decide (l.length ≠ 0) || (defS v).getD i 0 == 0) && (headOk (v.getD 1 0 == 1 && v.getD 0 0 == (i : Int)) ((defS v).getD i 0) l && l.all fun x => x.p.flow == (i : Int))
def flowsR (v : List Int) (ls : List (List Queued)) : Nat → Nat → Bool
  | _, 0 => true
  | i, n + 1 => flowR v i (ls.getD i []) && flowsR v ls (i + 1) n

theorem l229_spec {x1 : Bool} {a1 a2 a3 a4 a5 sd : Int} {ls : List (List Queued)} {v : List Int} (hs : Small ls) (hl : ls.length = 8) {kr : Bool → Prop} {k0 : Bool → Int → Int → Int → Int → Int → List (List Queued) → List Int → Int → Prop} :
    ∀ (n i : Nat), i + n = 8 → (flowsR v ls i n = true → k0 x1 a1 a2 a3 a4 a5 ls v sd) → (flowsR v ls i n = false → kr false) → ∃ k, l_22_9 k x1 i a1 a2 a3 a4 a5 ls v sd kr k0 := by
  intro n
  induction n with
  | zero =>
    intro i hi h1 h2
    obtain rfl : i = 8 := by omega
    exact ⟨1, h1 rfl⟩
  | succ n ih =>
    intro i hi h1 h2
    have hlt : i < 8 := by omega
    have hw : IntKind.i64.wrap ((i : Int) + 1) = ((i + 1 : Nat) : Int) := by rw [wrapi (by omega) (by omega)]; rfl
    have hti : (i : Int).toNat = i := by omega
    have hlen := sumLen_getD ls i
    have hsum := hs.sum
    obtain ⟨l, hld⟩ : ∃ l, ls.getD i [] = l := ⟨_, rfl⟩
    have hld' : ls.getD i (env.d 43) = l := hld
    rw [hld] at hlen
    simp only [flowsR, hld] at h1 h2
    have hin : inb (i : Int) (ls.length : Int) = true := inb_of (by omega) (by omega)
    have hv2 : IntKind.i64.wrap (2 + IntKind.i64.wrap ((i : Int).tdiv 2)) = ((2 + i / 2 : Nat) : Int) := by
      have : (i : Int).tdiv 2 = ((i / 2 : Nat) : Int) := by rw [Int.tdiv_eq_ediv_of_nonneg (by omega)]; rfl
      rw [this, wrapi (n := ((i / 2 : Nat) : Int)) (by omega) (by omega), wrapi (by omega) (by omega)]; omega
    have step : ∀ k, (flowR v i l = true → l_22_9 k x1 (i + 1 : Nat) a1 a2 a3 a4 a5 ls v sd kr k0) → (flowR v i l = false → kr false) → l_22_9 (k + 1) x1 i a1 a2 a3 a4 a5 ls v sd kr k0 := by
      intro k hk hkr
      refine br_true (by simp; omega) (br_true hin ?_)
      rw [hti, hld', hv2]
      refine V57_spec (by omega) (V54_spec (q := ⟨⟨a1, a2, a3, a4⟩, a5, ls, v, sd⟩) hlt (br_of (fun e => ?_) (fun e => ?_)))
      · exact hkr (by unfold flowR; rw [bool_not e]; rfl)
      have e1 := bool_nn e
      refine br_true (inb_of (by omega) (by show ((2 + i / 2 : Nat) : Int) < 8; omega)) (br_of (fun e => ?_) (fun e => ?_))
      · have e : v.getD (2 + i / 2) 0 < 0 := of_decide_eq_true e
        exact hkr (by unfold flowR; rw [e1, decide_eq_false (by omega)]; rfl)
      have e2 : ¬ v.getD (2 + i / 2) 0 < 0 := of_decide_eq_false e
      refine br_of (fun e => ?_) (fun e => ?_)
      · have e : (defS v).getD i 0 > 19999 := of_decide_eq_true e
        exact hkr (by unfold flowR; rw [e1, decide_eq_true (show 0 ≤ v.getD (2 + i / 2) 0 by omega), decide_eq_false (by omega)]; rfl)
      have e3 : ¬ (defS v).getD i 0 > 19999 := of_decide_eq_false e
      have tail : (decide (l.length ≠ 0) || (defS v).getD i 0 == 0) = true → s_22_16 x1 i l ((defS v).getD i 0) a1 a2 a3 a4 a5 ls v sd kr fun y16 y17 y18 y19 y20 y21 y22 y23 y24 y25 ↦ l_22_9 k y16 (IntKind.i64.wrap (y17 + 1)) y18 y19 y20 y21 y22 y23 y24 y25 kr k0 := by
        intro e4
        refine s2216_spec (by omega) (fun e5 => ?_) (fun e5 => ?_)
        · rw [hw]
          exact hk (by unfold flowR; rw [e1, decide_eq_true (show 0 ≤ v.getD (2 + i / 2) 0 by omega), decide_eq_true (show (defS v).getD i 0 ≤ 19999 by omega), e4, e5]; rfl)
        · exact hkr (by unfold flowR; rw [e1, decide_eq_true (show 0 ≤ v.getD (2 + i / 2) 0 by omega), decide_eq_true (show (defS v).getD i 0 ≤ 19999 by omega), e4, e5]; rfl)
      refine br_of (fun e => ?_) (fun e => ?_)
      · have hl0 : l.length = 0 := by
          have : (l.length : Int) = 0 := by simpa using e
          omega
        refine br_of (fun e5 => ?_) (fun e5 => ?_)
        · have : ((defS v).getD i 0 == 0) = false := by simpa using e5
          exact hkr (by unfold flowR; rw [this, hl0]; simp)
        · have : ((defS v).getD i 0 == 0) = true := by simpa using e5
          exact tail (by rw [this, Bool.or_true])
      · have hl0 : l.length ≠ 0 := fun h0 => by rw [h0] at e; cases e
        exact tail (by rw [decide_eq_true hl0, Bool.true_or])
    by_cases hf : flowR v i l = true
    · rw [hf, Bool.true_and] at h1 h2
      obtain ⟨k, hk⟩ := ih (i + 1) (by omega) h1 h2
      exact ⟨k + 1, step k (fun _ => hk) (fun e => by rw [hf] at e; cases e)⟩
    · have hf : flowR v i l = false := by simpa using hf
      exact ⟨1, step 0 (fun e => by rw [hf] at e; cases e) (fun _ => h2 (by rw [hf]; rfl))⟩

theorem flowsR_iff {v : List Int} {ls : List (List Queued)} : ∀ (n i : Nat), flowsR v ls i n = true ↔ ∀ j, i ≤ j → j < i + n → flowR v j (ls.getD j []) = true
  | 0, i => ⟨fun _ j h1 h2 => by omega, fun _ => rfl⟩
  | n + 1, i => by
    simp only [flowsR, Bool.and_eq_true]
    rw [flowsR_iff n (i + 1)]
    constructor
    · rintro ⟨h1, h2⟩ j h3 h4
      rcases Nat.eq_or_lt_of_le h3 with rfl | h5
      · exact h1
      · exact h2 j h5 (by omega)
    · intro h
      exact ⟨h i (by omega) (by omega), fun j h3 h4 => h j (by omega) (by omega)⟩

theorem defS_nonneg {q : Queue} (hq : QFit q) (h2 : 0 ≤ q.vars.getD 2 0) (h3 : 0 ≤ q.vars.getD 3 0) (h4 : 0 ≤ q.vars.getD 4 0) (h5 : 0 ≤ q.vars.getD 5 0) : ∀ i, i < 8 → 0 ≤ (defS q.vars).getD i 0 := by
  have one : ∀ {x : Int}, 0 ≤ x → x ≤ 9223372036854775807 → 0 ≤ IntKind.i64.wrap (x.tdiv 32768) ∧ 0 ≤ x.tmod 32768 := fun h1 h2 => by
    rw [Int.tdiv_eq_ediv_of_nonneg h1, Int.tmod_eq_emod_of_nonneg h1, wrapi (by omega) (by omega)]; omega
  have a2 := one h2 (hq.get 2).2; have a3 := one h3 (hq.get 3).2; have a4 := one h4 (hq.get 4).2; have a5 := one h5 (hq.get 5).2
  intro i hi
  have : i = 0 ∨ i = 1 ∨ i = 2 ∨ i = 3 ∨ i = 4 ∨ i = 5 ∨ i = 6 ∨ i = 7 := by omega
  rcases this with rfl | rfl | rfl | rfl | rfl | rfl | rfl | rfl
  · exact a2.1
  · exact a2.2
  · exact a3.1
  · exact a3.2
  · exact a4.1
  · exact a4.2
  · exact a5.1
  · exact a5.2

/-- Both ways of looking come to the same. -/
theorem valid4_eq {q : Queue} (hq : QFit q) (h7 : 0 ≤ q.vars.getD 7 0 ∧ q.vars.getD 7 0 ≤ 10000000) : valid4 q.room q.lists q.vars = (flowsR q.vars q.lists 0 8 && decide ((sumLen q.lists : Int) ≤ q.room)) := by
  unfold valid4
  congr 1
  rw [Bool.eq_iff_iff, flowsR_iff]
  have one : ∀ i, i < 8 → 0 ≤ (defS q.vars).getD i 0 → 0 ≤ q.vars.getD (2 + i / 2) 0 → (flowOk (q.vars.getD 0 0) (q.vars.getD 1 0) (q.vars.getD 7 0) i ((defS q.vars).getD i 0) (q.lists.getD i []) = flowR q.vars i (q.lists.getD i [])) := by
    intro i hi h0 hv
    unfold flowOk flowR
    rw [← okT_okList h7.2 (flow := (i : Int)) (Int.le_refl 0), decide_eq_true hv]
    have : inS ((defS q.vars).getD i 0) 0 19999 = decide ((defS q.vars).getD i 0 ≤ 19999) := by
      unfold inS; rw [decide_eq_true h0, Bool.true_and]
    rw [this]
    generalize okT (q.vars.getD 7 0) 0 (q.lists.getD i []) = b1
    generalize decide ((defS q.vars).getD i 0 ≤ 19999) = b2
    generalize (decide (List.length (q.lists.getD i []) ≠ 0) || (defS q.vars).getD i 0 == 0) = b3
    generalize headOk _ _ _ = b4
    generalize List.all _ _ = b5
    cases b1 <;> cases b2 <;> cases b3 <;> cases b4 <;> cases b5 <;> rfl
  constructor
  · intro h
    simp only [Bool.and_eq_true, decide_eq_true_eq] at h
    obtain ⟨⟨⟨⟨h2, h3⟩, h4⟩, h5⟩, h⟩ := h
    intro j _ hj
    have hj : j < 8 := by omega
    have hv : 0 ≤ q.vars.getD (2 + j / 2) 0 := by
      have : j / 2 = 0 ∨ j / 2 = 1 ∨ j / 2 = 2 ∨ j / 2 = 3 := by omega
      rcases this with e | e | e | e <;> rw [e] <;> assumption
    rw [← one j hj (defS_nonneg hq h2 h3 h4 h5 j hj) hv]
    exact flowsOk_get 8 0 h j (by omega) (by omega)
  · intro h
    have hv : ∀ j, j < 8 → 0 ≤ q.vars.getD (2 + j / 2) 0 := fun j hj => by
      have := h j (by omega) (by omega)
      simp only [flowR, Bool.and_eq_true, decide_eq_true_eq] at this
      exact this.1.1.1.2
    have h2 := hv 0 (by omega); have h3 := hv 2 (by omega); have h4 := hv 4 (by omega); have h5 := hv 6 (by omega)
    simp only [Bool.and_eq_true, decide_eq_true_eq]
    refine ⟨⟨⟨⟨h2, h3⟩, h4⟩, h5⟩, flowsOk_mk 8 0 (fun j _ hj => ?_)⟩
    have hj : j < 8 := by omega
    rw [one j hj (defS_nonneg hq h2 h3 h4 h5 j hj) (hv j hj)]
    exact h j (by omega) (by omega)

theorem s228_spec {x1 : Bool} {a1 a2 a3 a4 a5 sd : Int} {ls : List (List Queued)} {v : List Int} (hs : Small ls) (hl : ls.length = 8) {kr : Bool → Prop} (h : kr (flowsR v ls 0 8 && decide ((sumLen ls : Int) ≤ a5))) : s_22_8 x1 a1 a2 a3 a4 a5 ls v sd kr := by
  unfold s_22_8
  refine l229_spec hs hl 8 0 rfl (fun e => ?_) (fun e => by rw [show flowsR v ls 0 8 = false from e] at h; exact h)
  rw [show flowsR v ls 0 8 = true from e, Bool.true_and] at h
  exact ⟨_, V27_spec (q := ⟨⟨a1, a2, a3, a4⟩, a5, ls, v, sd⟩) hs rfl, h⟩

theorem s223_spec {q : Queue} {x1 : Bool} (hq : QFit q) (hs : Small q.lists) (hl : q.lists.length = 8) {kr : Bool → Prop}
    (h : kr (inS (q.vars.getD 0 0) 0 7 && inS (q.vars.getD 1 0) 0 1 && (!(q.vars.getD 1 0 == 1) || decide ((q.lists.getD (q.vars.getD 0 0).toNat []).length ≠ 0)) && inS (q.vars.getD 7 0) 0 10000000 && valid4 q.room q.lists q.vars)) :
    s_22_3 x1 q.policy.kind q.policy.a q.policy.b q.policy.c q.room q.lists q.vars q.seed kr := by
  unfold s_22_3
  refine V29_spec (br_of (fun e => ?_) (fun e => ?_))
  · rw [bool_not e, Bool.and_false, Bool.false_and] at h; exact h
  have e7 := bool_nn e
  rw [e7, Bool.and_true, valid4_eq hq (inS_iff.1 e7)] at h
  refine br_of (fun e => ?_) (fun e => ?_)
  · rw [show inS (q.vars.getD 0 0) 0 7 = false by simp [inS] at e ⊢; omega] at h; exact h
  refine br_of (fun e2 => ?_) (fun e2 => ?_)
  · rw [show inS (q.vars.getD 0 0) 0 7 = false by simp [inS] at e2 ⊢; omega] at h; exact h
  have e0 : inS (q.vars.getD 0 0) 0 7 = true := by simp [inS] at e e2 ⊢; omega
  rw [e0, Bool.true_and] at h
  refine br_of (fun e => ?_) (fun e => ?_)
  · rw [show inS (q.vars.getD 1 0) 0 1 = false by simp [inS] at e ⊢; omega] at h; exact h
  refine br_of (fun e2 => ?_) (fun e2 => ?_)
  · rw [show inS (q.vars.getD 1 0) 0 1 = false by simp [inS] at e2 ⊢; omega] at h; exact h
  have e1 : inS (q.vars.getD 1 0) 0 1 = true := by simp [inS] at e e2 ⊢; omega
  rw [e1, Bool.true_and] at h
  have g0 := inS_iff.1 e0
  unfold s_22_6
  refine br_of (fun e => ?_) (fun e => ?_)
  · rw [e] at h
    refine br_true (inb_of g0.1 (by omega)) (br_of (fun e3 => ?_) (fun e3 => ?_))
    · have : (q.lists.getD (q.vars.getD 0 0).toNat []).length = 0 := by
        have : ((List.length (q.lists.getD (q.vars.getD 0 0).toNat (env.d 43)) : Int) == 0) = true := e3
        simp only [beq_iff_eq] at this
        exact Int.ofNat.inj this
      simp only [this] at h
      exact h
    · have : (q.lists.getD (q.vars.getD 0 0).toNat []).length ≠ 0 := fun h0 => by
        have h1 : ((List.length (q.lists.getD (q.vars.getD 0 0).toNat []) : Int) == 0) = false := e3
        rw [h0] at h1
        cases h1
      rw [show (!true || decide ((q.lists.getD (q.vars.getD 0 0).toNat []).length ≠ 0)) = true by rw [decide_eq_true this]; rfl, Bool.true_and] at h
      exact s228_spec hs hl h
  · rw [e] at h
    exact s228_spec hs hl h

theorem V22_spec {q : Queue} (hq : QFit q) {K : Bool → Prop} (hs : Small q.lists) (h : K (validS q)) : V22 q K := by
  rw [V22_eq]; unfold B22
  rw [validS_eq] at h
  refine br_of (fun e => ?_) (fun e => ?_)
  · have : (q.policy.kind == 5) = false := by simpa using e
    rw [this] at h; exact h
  have e0 : (q.policy.kind == 5) = true := by simpa using e
  rw [e0, Bool.true_and] at h
  refine br_of (fun e => ?_) (fun e => ?_)
  · rw [show inS q.policy.a 100 10000 = false by simp [inS] at e ⊢; omega] at h; exact h
  refine br_of (fun e2 => ?_) (fun e2 => ?_)
  · rw [show inS q.policy.a 100 10000 = false by simp [inS] at e2 ⊢; omega] at h; exact h
  rw [show inS q.policy.a 100 10000 = true by simp [inS] at e e2 ⊢; omega, Bool.true_and] at h
  refine br_of (fun e => ?_) (fun e => ?_)
  · have : (q.policy.b == 0) = false := by simpa using e
    rw [this] at h; exact h
  have e0 : (q.policy.b == 0) = true := by simpa using e
  rw [e0, Bool.true_and] at h
  refine br_of (fun e => ?_) (fun e => ?_)
  · have : (q.policy.c == 0) = false := by simpa using e
    rw [this] at h; exact h
  have e0 : (q.policy.c == 0) = true := by simpa using e
  rw [e0, Bool.true_and] at h
  refine br_of (fun e => ?_) (fun e => ?_)
  · rw [show inS q.room 1 500 = false by simp [inS] at e ⊢; omega] at h; exact h
  refine br_of (fun e2 => ?_) (fun e2 => ?_)
  · rw [show inS q.room 1 500 = false by simp [inS] at e2 ⊢; omega] at h; exact h
  rw [show inS q.room 1 500 = true by simp [inS] at e e2 ⊢; omega, Bool.true_and] at h
  refine br_of (fun e => ?_) (fun e => ?_)
  · have : q.lists.length ≠ 8 := fun h0 => by rw [h0] at e; cases e
    rw [show decide (q.lists.length = 8) = false by simp [this]] at h; exact h
  have hl : q.lists.length = 8 := by
    have : (q.lists.length : Int) = 8 := by simpa using e
    omega
  rw [show decide (q.lists.length = 8) = true by simp [hl], Bool.true_and] at h
  refine br_of (fun e => ?_) (fun e => ?_)
  · have : (q.seed == 0) = false := by simpa using e
    rw [this] at h; exact h
  have e0 : (q.seed == 0) = true := by simpa using e
  rw [e0, Bool.true_and] at h
  refine br_of (fun e => ?_) (fun e => ?_)
  · have : (q.vars.getD 6 0 == 0) = false := by simpa using e
    rw [this] at h; exact h
  have e0 : (q.vars.getD 6 0 == 0) = true := by simpa using e
  rw [e0, Bool.true_and] at h
  exact s223_spec hq hs hl h

theorem V48_spec {q : Queue} (hq : QFit q) {now : Int} {K : Int → Prop} (hs : Small q.lists) (h : K (openS q now)) : V48 q now K := by
  rw [V48_eq]; unfold B48
  refine V22_spec hq hs (V29_spec (br_of (fun e => ?_) (fun e => ?_)))
  · rw [openS_1 (bool_not e)] at h; exact h
  have e1 := bool_nn e
  refine br_of (fun e => ?_) (fun e => ?_)
  · rw [openS_2 e1 (bool_not e)] at h; exact h
  have e2 := bool_nn e
  unfold s_48_5
  refine br_of (fun e => ?_) (fun e => ?_)
  · rw [openS_3 e1 e2 (by simpa using e)] at h; exact h
  · rw [openS_0 e1 e2 (by simpa using e)] at h; exact h

end Go.Vg.Ytgekegoflaichaa
