/-
  The laws on plans, in plain Lean: more (PlotMore). Own work; no condition.
-/
import Derived.Test.YthmmgoebdcegmaaGreatDoorSc
namespace Go.Vg.YthmmgoebdcegmaaGreatDoor
open Go.Vg Go.Proofs

theorem fit_u8 {n : Int} (h : fitI .u8 n) : 0 ≤ n ∧ n ≤ 255 := by
  have h : (decide (IntKind.u8.min ≤ n) && decide (n ≤ IntKind.u8.max)) = true := h
  simp only [Bool.and_eq_true, decide_eq_true_eq] at h
  have h1 : IntKind.u8.min = 0 := by kernel_rfl
  have h2 : IntKind.u8.max = 255 := by kernel_rfl
  rw [h1, h2] at h
  exact h

/-- Fitting, by what is used of each kind. -/
theorem spend_iff {ch : List Change} (hch : ch.all okC = true) : ∀ (p l : List Int), l.length = 6 → (∀ j, 0 ≤ l.getD j 0) → ((spend ch l p).isSome = true ↔ p.all (inR ch.length) = true ∧ ∀ κ : Nat, κ < 6 → (cnt ch κ p : Int) ≤ l.getD κ 0)
  | [], l, _, h0 => by
    simp only [spend, Option.isSome_some, List.all_nil, true_and, true_iff, cnt]
    exact fun κ _ => h0 κ
  | n :: p, l, h6, h0 => by
    by_cases ha : n < -1 ∨ n ≥ ch.length
    · have e : inR ch.length n = false := by
        simp only [inR, Bool.and_eq_false_iff, decide_eq_false_iff_not]; omega
      simp [spend, ha, e]
    have e : inR ch.length n = true := by
      simp only [inR, Bool.and_eq_true, decide_eq_true_eq]; omega
    by_cases hn : n < 0
    · have hn2 : ¬ 0 ≤ n := by omega
      simp only [spend, ha, hn, if_true, if_false, List.all_cons, e, Bool.true_and, cnt, hn2, false_and, Nat.zero_add]
      exact spend_iff hch p l h6 h0
    · have hn2 : 0 ≤ n := by omega
      have hk := kind_lt hch hn2 (by omega : n < ch.length)
      have hkl : kindAt ch n < l.length := by unfold kindAt; omega
      have hkk : ((kindAt ch n : Nat) : Int) = (ch.getD n.toNat dc).kind := by unfold kindAt; omega
      have hc : ∀ κ : Nat, cnt ch κ (n :: p) = (if κ = kindAt ch n then 1 else 0) + cnt ch κ p := fun κ => by
        simp only [cnt]
        congr 1
        by_cases hκ : κ = kindAt ch n
        · rw [if_pos hκ, if_pos ⟨hn2, by rw [hκ, hkk]⟩]
        · rw [if_neg hκ, if_neg (fun h => hκ (by omega))]
      by_cases hz : l.getD (kindAt ch n) 0 ≤ 0
      · simp only [spend, ha, hn, hz, if_true, if_false, Option.isSome_none, Bool.false_eq_true, false_iff, not_and]
        intro _ hall
        have := hall (kindAt ch n) (by omega)
        rw [hc, if_pos rfl] at this
        omega
      · have ih := spend_iff hch p (l.set (kindAt ch n) (l.getD (kindAt ch n) 0 - 1)) (by simpa using h6) (fun j => by
          rw [getD_set hkl]
          split
          · omega
          · exact h0 j)
        have hs : spend ch l (n :: p) = spend ch (l.set (kindAt ch n) (l.getD (kindAt ch n) 0 - 1)) p := by simp only [spend, ha, hn, hz, if_false]
        rw [hs, ih]
        simp only [List.all_cons, e, Bool.true_and]
        constructor
        · rintro ⟨h1, h2⟩
          refine ⟨h1, fun κ hκ => ?_⟩
          have := h2 κ hκ
          rw [getD_set hkl] at this
          rw [hc]
          split at this
          · rename_i hh; rw [if_pos hh]; rw [hh] at this ⊢; omega
          · rename_i hh; rw [if_neg hh]; omega
        · rintro ⟨h1, h2⟩
          refine ⟨h1, fun κ hκ => ?_⟩
          have := h2 κ hκ
          rw [hc] at this
          rw [getD_set hkl]
          split at this
          · rename_i hh; rw [if_pos hh]; rw [hh] at this ⊢; omega
          · rename_i hh; rw [if_neg hh]; omega

theorem fits_iff {b : Budget} {p : List Int} (h6 : b.left.length = 6) : fitsB b p = true ↔ validB b = true ∧ (p.length : Int) ≤ b.periods ∧ p.all (inR b.choices.length) = true ∧ ∀ κ : Nat, κ < 6 → (cnt b.choices κ p : Int) ≤ b.left.getD κ 0 := by
  unfold fitsB leftOf
  by_cases hv : validB b = true ∧ (p.length : Int) ≤ b.periods
  · rw [if_pos hv]
    obtain ⟨h1, h2⟩ := hv
    obtain ⟨_, _, _, h4, h5⟩ := valid_parts h1
    have := spend_iff h5 p b.left h6 (fun j => (getD_ok h4 j).1)
    constructor
    · intro h
      refine ⟨h1, h2, this.1 ?_⟩
      split at h
      · rename_i o ho; rw [ho]; rfl
      · cases h
    · rintro ⟨_, _, h3⟩
      have := this.2 h3
      split
      · rfl
      · rename_i ho; rw [ho] at this; cases this
  · rw [if_neg hv]
    simp only [Bool.false_eq_true, false_iff]
    rintro ⟨h1, h2, _⟩
    exact hv ⟨h1, h2⟩

theorem cnt_perm {ch : List Change} {κ : Int} {p q : List Int} (h : p.Perm q) : cnt ch κ p = cnt ch κ q := by
  induction h with
  | nil => rfl
  | cons x _ ih => simp only [cnt, ih]
  | swap x y l => simp only [cnt]; omega
  | trans _ _ ih1 ih2 => exact ih1.trans ih2
theorem fits_perm {b : Budget} {p q : List Int} (h6 : b.left.length = 6) (h : p.Perm q) : fitsB b p = fitsB b q := by
  apply Bool.eq_iff_iff.2
  rw [fits_iff h6, fits_iff h6, h.length_eq]
  have e1 : p.all (inR b.choices.length) = q.all (inR b.choices.length) := by
    apply Bool.eq_iff_iff.2
    simp only [List.all_eq_true]
    exact ⟨fun hh x hx => hh x (h.mem_iff.2 hx), fun hh x hx => hh x (h.mem_iff.1 hx)⟩
  have e2 : ∀ κ : Nat, cnt b.choices κ p = cnt b.choices κ q := fun κ => cnt_perm h
  simp only [e1, e2]

/-- Wider: at no kind less. -/
structure Wide (l w : List Int) : Prop where
  len : w.length = 6
  zero : w.getD 0 0 = l.getD 0 0
  ok : w.all okN = true
  le : ∀ j, l.getD j 0 ≤ w.getD j 0

theorem l57_spec {p : List Int} {by_ : Int} {b2 b3 : Bool} {pe le : Int} {l : List Int} {ch : List Change} {more : List Int} {wp wl : Int} {wc : List Change} {k0 : List Int → Int → Bool → Bool → Int → Int → List Int → List Change → Int → Int → List Int → List Change → Prop}
    (hmo : ∀ j, 0 ≤ more.getD j 0 ∧ more.getD j 0 ≤ 255) (hl : l.all okN = true) (h : ∀ w, Wide l w → k0 p by_ b2 b3 pe le l ch wp wl w wc) :
    ∀ (n i : Nat) (w : List Int), i + n = 6 → 1 ≤ i → Wide l w → ∃ k, l_5_7 k p by_ b2 b3 i pe le l ch more wp wl w wc k0 := by
  intro n
  induction n with
  | zero =>
    intro i w hi _ hw
    exact ⟨1, br_false (by simp; omega) (h w hw)⟩
  | succ n ih =>
    intro i w hi h1 hw
    have hmi := hmo i
    have hli := getD_ok hl i
    have ew : IntKind.i64.wrap (more.getD i 0) = more.getD i 0 := wrapi (by omega) (by omega)
    have ev : IntKind.i64.wrap (l.getD i 0 + more.getD i 0) = l.getD i 0 + more.getD i 0 := wrapi (by omega) (by omega)
    have hwi : IntKind.i64.wrap ((i : Int) + 1) = ((i + 1 : Nat) : Int) := by rw [wrapi (by omega) (by omega)]; rfl
    have hin : inb (i : Int) 6 = true := inb_of (by omega) (by omega)
    generalize hv : (if l.getD i 0 + more.getD i 0 < 6 then l.getD i 0 + more.getD i 0 else 6) = v
    have hv1 : 0 ≤ v ∧ v ≤ 6 ∧ l.getD i 0 ≤ v := by
      rw [← hv]; split <;> omega
    have hlen : i < w.length := by rw [hw.len]; omega
    obtain ⟨k, hk⟩ := ih (i + 1) (w.set i v) (by omega) (by omega) ⟨by simpa using hw.len, by
      rw [getD_set hlen, if_neg (by omega)]; exact hw.zero, set_ok hw.ok (by simp only [okN, Bool.and_eq_true, decide_eq_true_eq]; omega), fun j => by
      rw [getD_set hlen]
      split
      · rename_i hj; rw [hj]; exact hv1.2.2
      · exact hw.le j⟩
    refine ⟨k + 1, br_true (by simp; omega) (br_true hin (br_true hin (br_true hin ?_)))⟩
    show l_5_7 k p by_ b2 b3 (IntKind.i64.wrap ((i : Int) + 1)) pe le l ch more wp wl (w.set i (if IntKind.i64.wrap (l.getD i 0 + IntKind.i64.wrap (more.getD i 0)) < 6 then IntKind.i64.wrap (l.getD i 0 + IntKind.i64.wrap (more.getD i 0)) else 6)) wc k0
    rw [ew, ev, hv, hwi]; exact hk

theorem l519_spec {p : List Int} {b2 b3 : Bool} {b : Budget} {kr : Bool → Prop} {k2 : Bool → Bool → Prop} (h6 : b.left.length = 6) (hp : p.length ≤ 1000) (h : k2 b2 b3) :
    ∀ (n i : Nat), i + n = 6 → ∃ k, l_5_19 k p b2 b3 i b.periods b.length b.left b.choices kr k2 := by
  intro n
  induction n with
  | zero =>
    intro i hi
    exact ⟨1, br_false (by simp; omega) h⟩
  | succ n ih =>
    intro i hi
    obtain ⟨k, hk⟩ := ih (i + 1) (by omega)
    have hwi : IntKind.i64.wrap ((i : Int) + 1) = ((i + 1 : Nat) : Int) := by rw [wrapi (by omega) (by omega)]; rfl
    have hk : l_5_19 k p b2 b3 (IntKind.i64.wrap ((i : Int) + 1)) b.periods b.length b.left b.choices kr k2 := by rw [hwi]; exact hk
    refine ⟨k + 1, br_true (by simp; omega) (V14_spec (by omega) (fun _ => ?_) (fun _ => br_false (by simp) hk))⟩
    have hle := cnt_le (ch := b.choices) (kind := i) p
    have hw : IntKind.i64.wrap ((cnt b.choices i p : Int) - 1) = (cnt b.choices i p : Int) - 1 := wrapi (by omega) (by omega)
    refine br_of (fun e => br_true (inb_of (by omega) (by omega)) (V12_spec (by simpa using h6) (br_false ?_ hk))) (fun _ => hk)
    have e : (cnt b.choices i p : Int) > 0 := by simpa using e
    rw [hw]
    cases hf : fitsB (Budget.mk b.periods b.length (b.left.set i ((cnt b.choices i p : Int) - 1)) b.choices) p with
    | false => exact hf
    | true =>
      have := (fits_iff (by simpa using h6)).1 hf
      have := this.2.2.2 i (by omega)
      have hlt : i < b.left.length := by omega
      have this : (cnt b.choices i p : Int) ≤ (b.left.set i ((cnt b.choices i p : Int) - 1)).getD i 0 := this
      rw [getD_set hlt, if_pos rfl] at this
      omega

theorem cut_perm {p : List Int} {k : Int} : ([] ++ cutL p k (p.length : Int) ++ cutL p 0 k).Perm p := by
  have e1 : cutL p k (p.length : Int) = p.drop k.toNat := by simp [cutL]
  have e2 : cutL p 0 k = p.take k.toNat := by simp [cutL]
  rw [e1, e2, List.nil_append]
  exact List.perm_append_comm.trans (by rw [List.take_append_drop])

theorem s518_spec {p : List Int} {b2 : Bool} {b : Budget} {kr : Bool → Prop} (h6 : b.left.length = 6) (hp : p.length ≤ 1000) (h : kr true) : s_5_18 p b2 true b.periods b.length b.left b.choices kr :=
  l519_spec h6 hp h 5 1 rfl

theorem s513_spec {p : List Int} {by_ : Int} {b2 : Bool} {b : Budget} {kr : Bool → Prop} (h6 : b.left.length = 6) (hp : p.length ≤ 1000) (hby : 0 ≤ by_ ∧ by_ ≤ 255) (h : kr true) : s_5_13 p by_ b2 true (fitsB b p) b.periods b.length b.left b.choices kr := by
  refine br_of (fun e => ?_) (fun _ => s518_spec h6 hp h)
  have e : (p.length : Int) > 0 := by simpa using e
  have hw : IntKind.i64.wrap by_ = by_ := wrapi (by omega) (by omega)
  have hm0 : 0 ≤ by_.tmod (p.length : Int) := Int.tmod_nonneg _ hby.1
  have hm1 : by_.tmod (p.length : Int) < p.length := Int.tmod_lt_of_pos _ e
  rw [hw]
  have hne : ((p.length : Int) == 0) = false := by rw [beq_eq_false_iff_ne]; omega
  have hlen : (cutL p (by_.tmod (p.length : Int)) (p.length : Int)).length ≤ p.length := by
    have : cutL p (by_.tmod (p.length : Int)) (p.length : Int) = p.drop (by_.tmod (p.length : Int)).toNat := by simp [cutL]
    rw [this]; simp
  have hall := (cut_perm (p := p) (k := by_.tmod (p.length : Int))).length_eq
  refine br_true (by rw [hne]; rfl) (br_true ?_ (br_true (room3 ?_) (br_true ?_ (br_true (room3 ?_) (V12_spec h6 (br_false ?_ (s518_spec h6 hp h)))))))
  · show andb (leb 0 _) (leb _ (p.length : Int)) = true
    simp only [leb, decide_eq_true hm0, decide_eq_true (Int.le_of_lt hm1)]; rfl
  · show ([] ++ cutL p (by_.tmod (p.length : Int)) (p.length : Int)).length ≤ 1000000
    simp only [List.nil_append]; omega
  · show andb (leb 0 _) (leb _ (p.length : Int)) = true
    simp only [leb, decide_eq_true hm0, decide_eq_true (Int.le_of_lt hm1)]; rfl
  · show ([] ++ cutL p (by_.tmod (p.length : Int)) (p.length : Int) ++ cutL p 0 (by_.tmod (p.length : Int))).length ≤ 1000000
    omega
  · show (!(fitsB b ([] ++ cutL p (by_.tmod (p.length : Int)) (p.length : Int) ++ cutL p 0 (by_.tmod (p.length : Int))) == fitsB b p)) = false
    rw [fits_perm h6 cut_perm]
    simp

theorem purePlotMore (b : Budget) (p : List Int) (more : List Int) (periods by_ : Int) (hb : fitBudget b) (_ : (∀ z0 ∈ p, fitI .i64 z0) ∧ List.length p ≤ 9223372036854775807) (hm : fitA .u8 6 more) (hpe : fitI .u8 periods) (hby : fitI .u8 by_) : V5 b p more periods by_ (fun r => r = true) := by
  have h6 : b.left.length = 6 := hb.left.1
  have hby := fit_u8 hby
  have hpe := fit_u8 hpe
  have hmo : ∀ j, 0 ≤ more.getD j 0 ∧ more.getD j 0 ≤ 255 := fun j => by
    rcases Nat.lt_or_ge j more.length with h1 | h1
    · rw [getD_lt h1]
      exact fit_u8 (hm.2 _ (List.getElem_mem h1))
    · rw [List.getD_eq_getElem?_getD, List.getElem?_eq_none h1]; simp
  rw [V5_eq]; unfold B5
  refine V9_spec ?_
  refine V10_spec (fun x hx => br_of (fun _ => rfl) (fun e => ?_))
  have e : x = true := by simpa using e
  obtain ⟨hp, hc⟩ := hx e
  refine V13_spec h6 (br_of (fun _ => rfl) (fun hv => ?_))
  have hv : validB b = true := by simpa using hv
  obtain ⟨h1, h2, _, h4, h5⟩ := valid_parts hv
  have ew : IntKind.i64.wrap periods = periods := wrapi (by omega) (by omega)
  have ev : IntKind.i64.wrap (b.periods + periods) = b.periods + periods := wrapi (by omega) (by omega)
  refine l57_spec (l := b.left) hmo h4 (fun w hw => ?_) 5 1 b.left rfl (by omega) ⟨h6, rfl, h4, fun _ => Int.le_refl _⟩
  rw [ew, ev]
  generalize hwp : (if b.periods + periods < 6 then b.periods + periods else 6) = wp
  have hwp1 : b.periods ≤ wp ∧ wp ≤ 6 := by rw [← hwp]; split <;> omega
  refine V12_spec h6 (br_of (fun hf => ?_) (fun hf => ?_))
  · have hwv : validB (Budget.mk wp b.length w b.choices) = true := by
      simp only [validB, Bool.and_eq_true, decide_eq_true_eq] at hv ⊢
      obtain ⟨⟨⟨⟨⟨⟨⟨_, _⟩, q3⟩, q4⟩, q5⟩, q6⟩, _⟩, q8⟩ := hv
      exact ⟨⟨⟨⟨⟨⟨⟨by omega, by omega⟩, q3⟩, q4⟩, by rw [hw.zero]; exact q5⟩, q6⟩, hw.ok⟩, q8⟩
    have hwf : fitsB (Budget.mk wp b.length w b.choices) p = true := by
      obtain ⟨_, g2, g3, g4⟩ := (fits_iff h6).1 hf
      exact (fits_iff hw.len).2 ⟨hwv, by show (p.length : Int) ≤ wp; omega, g3, fun κ hκ => Int.le_trans (g4 κ hκ) (hw.le κ)⟩
    refine V12_spec hw.len (br_false ?_ ?_)
    · show (!fitsB (Budget.mk wp b.length w b.choices) p) = false
      rw [hwf]; rfl
    · exact s513_spec h6 (by omega) hby rfl
  · exact s513_spec h6 (by omega) hby rfl
end Go.Vg.YthmmgoebdcegmaaGreatDoor
