/-
  The reference's Merge is the plain one. Own work; no condition.
-/
import Derived.Test.YtkaodeodiakldaaSa
import Derived.Test.YtkaodeodiakldaaSf
namespace Go.Vg.Ytkaodeodiakldaa
open Go.Vg Go.Proofs

theorem pred_w {i n : Nat} (h0 : 0 < i) (h : i < n) (hn : n ≤ 9223372036854775807) : IntKind.i64.wrap ((i : Int) - 1) = ((i - 1 : Nat) : Int) := by
  rw [wrap_i (by omega) (by omega)]; omega

/-! ### Tasks -/
theorem l30_2 {l : List Task} (hl : l.length ≤ 9223372036854775807) {x2 : Bool} {kr : Bool → Prop} {k0 : List Task → Bool → Prop} : ∀ (m i : Nat), i + m = l.length → ((∀ j, i ≤ j → j < l.length → tOk l j) → k0 l x2) → ((∃ j, i ≤ j ∧ j < l.length ∧ ¬ tOk l j) → kr false) → l_30_2 (m + 1) l x2 i kr k0
  | 0, i, hi, hg, _ => by
    unfold l_30_2
    rw [ge_n (by omega)]
    exact hg fun j _ _ => by omega
  | m + 1, i, hi, hg, hb => by
    have hlt : i < l.length := by omega
    unfold l_30_2
    rw [lt_n hlt, in_n hlt, brT, brT, g39 hlt]
    have g : l[i] = l.getD i zT := by simp [List.getD, hlt]
    have bad : ¬ tOk l i → kr false := fun h => hb ⟨i, Nat.le_refl _, hlt, h⟩
    have next : tOk l i → l_30_2 (m + 1) l x2 (IntKind.i64.wrap ((i : Int) + 1)) kr k0 := fun h => by
      rw [succ_w hlt hl]
      refine l30_2 hl m (i + 1) (by omega) (fun ha => hg fun j h1 h2 => ?_) fun ⟨j, h1, h2, h3⟩ => hb ⟨j, by omega, h2, h3⟩
      by_cases hj : j = i
      · rw [hj]; exact h
      · exact ha j (by omega) h2
    rw [g]
    have hto : tOk l i ↔ ((l.getD i zT).number = i ∧ 0 ≤ (l.getD i zT).worker ∧ (l.getD i zT).worker ≤ 7 ∧ 0 ≤ (l.getD i zT).from_ ∧ (l.getD i zT).from_ < (l.getD i zT).to_ ∧ (l.getD i zT).to_ ≤ 10000000 ∧ (0 < i → (l.getD i zT).from_ = (l.getD (i - 1) zT).to_)) := Iff.rfl
    generalize tOk l i = T at hto bad next
    generalize l.getD i zT = x at hto ⊢
    clear hg hb g
    refine V22_spec (V22_spec ?_)
    refine br_i (fun c => bad fun h => ?_) fun c1 => ?_
    · have := hto.1 h
      simp at c
      omega
    refine br_i (fun c => bad fun h => ?_) fun c2 => ?_
    · have := hto.1 h
      simp at c
      omega
    refine br_i (fun c => bad fun h => ?_) fun c3 => ?_
    · have := hto.1 h
      simp at c
      omega
    refine br_i (fun c => bad fun h => ?_) fun c4 => ?_
    · have := (hto.1 h).1
      simp [this] at c
    refine br_i (fun c => bad fun h => ?_) fun c5 => ?_
    · have := hto.1 h
      simp at c
      omega
    refine br_i (fun c => bad fun h => ?_) fun c6 => ?_
    · have := hto.1 h
      simp at c
      omega
    unfold s_30_9
    refine br_i (fun c7 => ?_) fun c7 => ?_
    · have hi0 : 0 < i := by simp at c7; omega
      have hlt' : i - 1 < l.length := by omega
      rw [pred_w hi0 hlt hl, in_n hlt', brT, g39 hlt']
      have g' : l[i - 1] = l.getD (i - 1) zT := by simp [List.getD, hlt']
      rw [g']
      generalize l.getD (i - 1) zT = p at hto ⊢
      refine br_i (fun c => bad fun h => ?_) fun c8 => next ?_
      · have := (hto.1 h).2.2.2.2.2.2 hi0
        simp [this] at c
      · simp at c1 c2 c3 c4 c5 c6 c8
        exact hto.2 ⟨c4, by omega, by omega, by omega, by omega, by omega, fun _ => c8.symm⟩
    · refine next ?_
      simp at c1 c2 c3 c4 c5 c6 c7
      exact hto.2 ⟨c4, by omega, by omega, by omega, by omega, by omega, fun _ => by omega⟩

theorem V30_spec {l : List Task} (hl : l.length ≤ 9223372036854775807) {K : Bool → Prop} (h : K (tasksB l)) : V30 l K := by
  rw [V30_eq]
  unfold B30
  refine ⟨l.length + 1, l30_2 hl l.length 0 (by omega) (fun hg => ?_) fun ⟨j, _, h2, h3⟩ => ?_⟩
  · refine br_i (fun c => ?_) fun c => ?_
    · have : decide ((l.length : Int) ≤ 32) = tasksB l := by
        rw [Bool.eq_iff_iff, tasksB_iff]
        simp only [decide_eq_true_eq] at c ⊢
        exact ⟨fun b => ⟨fun i hi => hg i (by omega) hi, by omega, by omega⟩, fun ⟨_, a, b⟩ => by omega⟩
      rw [this]
      exact h
    · rw [tasksB_not (fun hh => by have := hh.2.1; have := of_decide_eq_false c; omega)] at h
      exact h
  · rw [tasksB_not (fun hh => h3 (hh.1 j h2))] at h
    exact h

/-! ### Digests -/
theorem l35_3 {x2 : Int} {k0 : Int → Int → Prop} : ∀ (m i : Nat) (d x : Int), i + m = 8 → k0 (eightD m d x) x2 → l_35_3 (m + 1) d x2 x i k0
  | 0, i, d, x, hi, h => by
    unfold l_35_3
    rw [decide_eq_false (by omega)]
    exact h
  | m + 1, i, d, x, hi, h => by
    unfold l_35_3
    rw [decide_eq_true (by omega), succ_w (n := 8) (by omega) (by omega)]
    exact l35_3 m (i + 1) _ _ (by omega) h
theorem V35_spec {d n : Int} {K : Int → Prop} (h : K (eightD 8 d (IntKind.u64.wrap n))) : V35 d n K := by
  rw [V35_eq]
  exact ⟨9, l35_3 8 0 d _ rfl h⟩
theorem g3 {l : List Int} {i : Nat} (h : i < l.length) : l.getD (i : Int).toNat (env.d 3) = l[i] := getD_at h
theorem l17_8 {x2 : Int} {l : List Int} (hl : l.length ≤ 9223372036854775807) {k0 : Int → Int → Prop} : ∀ (m i : Nat) (d : Int), i + m = l.length → k0 (foldD d (l.drop i)) x2 → l_17_8 (m + 1) d x2 i l k0
  | 0, i, d, hi, h => by
    unfold l_17_8
    rw [ge_n (by omega)]
    rw [List.drop_of_length_le (by omega)] at h
    exact h
  | m + 1, i, d, hi, h => by
    have hlt : i < l.length := by omega
    unfold l_17_8
    rw [lt_n hlt, in_n hlt, brT, brT, g3 hlt]
    rw [List.drop_eq_getElem_cons hlt] at h
    refine V35_spec ?_
    rw [succ_w hlt hl]
    exact l17_8 hl m (i + 1) _ (by omega) h
theorem V17_spec {d : Int} {r : Record} {K : Int → Prop} (h : K (digS d r)) : V17 d r K := by
  rw [V17_eq]
  unfold B17 s_17_4 s_17_6
  have e : IntKind.i64.wrap (1 + 2) = 3 := by decide
  have e' : IntKind.i64.wrap (0 + 2) = 2 := by decide
  rw [e, e']
  unfold digS numS at h
  rcases h1 : r.p.able <;> rcases h2 : r.p.marked <;> simp only [br] <;> rw [h1, h2] at h <;> exact ⟨11, l17_8 (by simp) 10 0 d rfl h⟩

/-! ### Segments -/
theorem l31_5 {l : List Record} (hl : l.length ≤ 5000) {x1 : Bool} {to_ fr b e : Int} {kr : Bool → Prop} {k0 : Bool → Int → Int → Int → Int → Int → List Record → Prop} : ∀ (m i : Nat) (d a : Int), i + m = l.length → fr ≤ a → a = (if h : 0 < i ∧ i ≤ l.length then (l[i - 1]'(by omega)).at_ else fr) → (∀ d', recS to_ a d (l.drop i) = some d' → k0 x1 d' fr to_ b e l) → (recS to_ a d (l.drop i) = none → kr false) → l_31_5 (m + 1) x1 d i fr to_ b e l kr k0
  | 0, i, d, a, hi, _, _, hg, _ => by
    unfold l_31_5
    rw [ge_n (by omega)]
    rw [List.drop_of_length_le (by omega)] at hg
    exact hg d rfl
  | m + 1, i, d, a, hi, hfa, ha, hg, hb => by
    have hlt : i < l.length := by omega
    unfold l_31_5
    rw [lt_n hlt, in_n hlt]
    rw [List.drop_eq_getElem_cons hlt] at hg hb
    simp only [recS] at hg hb
    rw [g50 hlt, brT, brT]
    have next : ¬ l[i].at_ < a → ¬ l[i].at_ ≥ to_ → V17 d l[i] fun y => l_31_5 (m + 1) x1 y (IntKind.i64.wrap ((i : Int) + 1)) fr to_ b e l kr k0 := fun c1 c2 => by
      rw [if_neg (by omega)] at hg hb
      refine V17_spec ?_
      rw [succ_w hlt (by omega)]
      refine l31_5 hl m (i + 1) _ l[i].at_ (by omega) (by omega) ?_ hg hb
      rw [dif_pos ⟨by omega, by omega⟩]
      rfl
    have bad : l[i].at_ < a ∨ to_ ≤ l[i].at_ → kr false := fun c => by rw [if_pos c] at hb; exact hb rfl
    refine br_i (fun c => ?_) fun c1 => ?_
    · simp at c
      exact bad (Or.inl (by omega))
    refine br_i (fun c => ?_) fun c2 => ?_
    · simp at c
      exact bad (Or.inr c)
    simp at c1 c2
    refine br_i (fun c3 => ?_) fun c3 => ?_
    · simp at c3
      have hlt' : i - 1 < l.length := by omega
      rw [pred_w (by omega) hlt (by omega), in_n hlt', brT, g50 hlt']
      rw [dif_pos ⟨by omega, by omega⟩] at ha
      refine br_i (fun c => ?_) fun c4 => ?_
      · simp at c
        exact bad (Or.inl (by omega))
      · simp at c4
        exact next (by omega) (by omega)
    · simp at c3
      rw [dif_neg (by omega)] at ha
      exact next (by omega) (by omega)

theorem V31_spec {s : Segment} {K : Bool → Prop} (h : K (validS s)) : V31 s K := by
  rw [V31_eq]
  unfold B31
  unfold validS at h
  refine br_i (fun c => ?_) fun c1 => ?_
  · rw [show decide (0 ≤ s.from_) = false by simp at c ⊢; omega] at h; exact h
  refine br_i (fun c => ?_) fun c2 => ?_
  · rw [show decide (s.from_ ≤ s.to_) = false by simp at c ⊢; omega] at h; simpa using h
  refine br_i (fun c => ?_) fun c3 => ?_
  · rw [show decide (s.to_ ≤ 10000000) = false by simp at c ⊢; omega] at h; simpa using h
  refine br_i (fun c => ?_) fun c4 => ?_
  · rw [show decide (s.records.length ≤ 5000) = false by simp at c ⊢; omega] at h; simpa using h
  have hl : s.records.length ≤ 5000 := by simp at c4; omega
  rw [show decide (0 ≤ s.from_) = true by simp at c1 ⊢; omega, show decide (s.from_ ≤ s.to_) = true by simp at c2 ⊢; omega, show decide (s.to_ ≤ 10000000) = true by simp at c3 ⊢; omega, decide_eq_true hl] at h
  simp only [Bool.true_and] at h
  unfold s_31_3
  refine ⟨s.records.length + 1, l31_5 hl s.records.length 0 s.begin_ s.from_ (by omega) (Int.le_refl _) (by simp) (fun d' hd => ?_) fun hd => ?_⟩
  · rw [List.drop_zero] at hd
    rw [hd] at h
    have : (d' == s.end_) = decide (some d' = some s.end_) := by rw [Bool.eq_iff_iff]; simp
    rw [this]
    exact h
  · rw [List.drop_zero] at hd
    rw [hd] at h
    simpa using h

/-! ### Join -/
def lastT (l : List Segment) (i : Nat) : Int := if i = 0 then 0 else (l.getD (i - 1) zS).to_
def lastE (l : List Segment) (i : Nat) : Int := if i = 0 then 0 else (l.getD (i - 1) zS).end_
theorem l33_5 {l : List Segment} (hl : l.length ≤ 32) {x2 x4 x5 x6 x7 x8 x10 : Int} {kr : Int → Int → Int → Int → Int → Prop} {k0 : List Segment → Int → Int → Int → Int → Int → Int → Int → Int → Int → List Record → Prop} : ∀ (m i : Nat) (acc : List Record), i + m = l.length → acc.length ≤ i * 5000 → ((l.drop i).all validS = true → k0 l x2 x4 x5 x6 x7 x8 (lastT l l.length) x10 (lastE l l.length) (acc ++ recordsS (l.drop i))) → ((l.drop i).all validS = false → kr 1 0 0 0 0) → l_33_5 (m + 1) l x2 i x4 x5 x6 x7 x8 (lastT l i) x10 (lastE l i) acc kr k0
  | 0, i, acc, hi, _, hg, _ => by
    unfold l_33_5
    rw [ge_n (by omega), show i = l.length by omega]
    rw [List.drop_of_length_le (by omega), show recordsS [] = [] from rfl, List.append_nil] at hg
    exact hg rfl
  | m + 1, i, acc, hi, ha, hg, hb => by
    have hlt : i < l.length := by omega
    unfold l_33_5
    rw [lt_n hlt, in_n hlt, brT, brT, g32 hlt]
    rw [List.drop_eq_getElem_cons hlt, List.all_cons] at hg hb
    refine V31_spec ?_
    rcases hv : validS l[i]
    · rw [hv] at hb
      exact hb rfl
    · rw [hv] at hg hb
      have hr := valid_len hv
      have hlen : (acc ++ l[i].records).length ≤ (i + 1) * 5000 := by rw [List.length_append]; omega
      rw [Bool.not_true, brF, brT, brT, brT, room50 (by omega), brT, succ_w hlt (by omega)]
      have e1 : l[i].to_ = lastT l (i + 1) := by simp [lastT, List.getD, hlt]
      have e2 : l[i].end_ = lastE l (i + 1) := by simp [lastE, List.getD, hlt]
      rw [e1, e2]
      refine l33_5 hl m (i + 1) _ (by omega) hlen (fun h => ?_) hb
      have := hg h
      rw [show recordsS (l[i] :: l.drop (i + 1)) = l[i].records ++ recordsS (l.drop (i + 1)) from rfl, ← List.append_assoc] at this
      exact this

theorem l33_14 {l : List Segment} (hl : l.length ≤ 32) {x2 x4 x5 x6 x7 x8 x9 x10 x11 : Int} {x12 : List Record} {kr : Int → Int → Int → Int → Int → Prop} {k2 : List Segment → Int → Int → Int → Int → Int → Int → Int → Int → Int → List Record → Prop} : ∀ (m i : Nat), i + m = l.length → 0 < i → ((∀ j, i ≤ j → j < l.length → timeS (l.getD (j - 1) zS) (l.getD j zS) = true) → k2 l x2 x4 x5 x6 x7 x8 x9 x10 x11 x12) → ((∃ j, i ≤ j ∧ j < l.length ∧ timeS (l.getD (j - 1) zS) (l.getD j zS) = false) → kr 18 0 0 0 0) → l_33_14 (m + 1) l x2 i x4 x5 x6 x7 x8 x9 x10 x11 x12 kr k2
  | 0, i, hi, h0, hg, _ => by
    unfold l_33_14
    rw [ge_n (by omega)]
    exact hg fun j _ _ => by omega
  | m + 1, i, hi, h0, hg, hb => by
    have hlt : i < l.length := by omega
    have hlt' : i - 1 < l.length := by omega
    unfold l_33_14
    rw [lt_n hlt, in_n hlt, pred_w h0 hlt (by omega), in_n hlt', brT, brT, brT, g32 hlt, g32 hlt', succ_w hlt (by omega)]
    have g1 : l.getD i zS = l[i] := by simp [List.getD, hlt]
    have g2 : l.getD (i - 1) zS = l[i - 1] := by simp [List.getD, hlt']
    have e : (l[i].from_ != l[i - 1].to_) = !timeS l[i - 1] l[i] := by rw [Bool.eq_iff_iff]; simp [timeS]; exact ⟨fun h q => h q.symm, fun h q => h q.symm⟩
    rw [e]
    rcases hc : timeS l[i - 1] l[i]
    · exact hb ⟨i, Nat.le_refl _, hlt, by rw [g1, g2]; exact hc⟩
    · refine l33_14 hl m (i + 1) (by omega) (by omega) (fun ha => hg fun j h1 h2 => ?_) fun ⟨j, h1, h2, h3⟩ => hb ⟨j, by omega, h2, h3⟩
      by_cases hj : j = i
      · rw [hj, g1, g2]; exact hc
      · exact ha j (by omega) h2
theorem l33_19 {l : List Segment} (hl : l.length ≤ 32) {x2 x4 x5 x6 x7 x8 x9 x10 x11 : Int} {x12 : List Record} {kr : Int → Int → Int → Int → Int → Prop} {k4 : Int → Int → Int → Int → Int → Int → Int → Int → Int → List Record → Prop} : ∀ (m i : Nat), i + m = l.length → 0 < i → ((∀ j, i ≤ j → j < l.length → sumS (l.getD (j - 1) zS) (l.getD j zS) = true) → k4 x2 x4 x5 x6 x7 x8 x9 x10 x11 x12) → ((∃ j, i ≤ j ∧ j < l.length ∧ sumS (l.getD (j - 1) zS) (l.getD j zS) = false) → kr 11 0 0 0 0) → l_33_19 (m + 1) l x2 i x4 x5 x6 x7 x8 x9 x10 x11 x12 kr k4
  | 0, i, hi, h0, hg, _ => by
    unfold l_33_19
    rw [ge_n (by omega)]
    exact hg fun j _ _ => by omega
  | m + 1, i, hi, h0, hg, hb => by
    have hlt : i < l.length := by omega
    have hlt' : i - 1 < l.length := by omega
    unfold l_33_19
    rw [lt_n hlt, in_n hlt, pred_w h0 hlt (by omega), in_n hlt', brT, brT, brT, g32 hlt, g32 hlt', succ_w hlt (by omega)]
    have g1 : l.getD i zS = l[i] := by simp [List.getD, hlt]
    have g2 : l.getD (i - 1) zS = l[i - 1] := by simp [List.getD, hlt']
    have e : (l[i].begin_ != l[i - 1].end_) = !sumS l[i - 1] l[i] := by rw [Bool.eq_iff_iff]; simp [sumS]; exact ⟨fun h q => h q.symm, fun h q => h q.symm⟩
    rw [e]
    rcases hc : sumS l[i - 1] l[i]
    · exact hb ⟨i, Nat.le_refl _, hlt, by rw [g1, g2]; exact hc⟩
    · refine l33_19 hl m (i + 1) (by omega) (by omega) (fun ha => hg fun j h1 h2 => ?_) fun ⟨j, h1, h2, h3⟩ => hb ⟨j, by omega, h2, h3⟩
      by_cases hj : j = i
      · rw [hj, g1, g2]; exact hc
      · exact ha j (by omega) h2

theorem adj_all' {p : Segment → Segment → Bool} {l : List Segment} (h : ∀ j, 1 ≤ j → j < l.length → p (l.getD (j - 1) zS) (l.getD j zS) = true) : adjB p l = true := adjB_iff.2 fun i hi => h (i + 1) (by omega) (by omega)
theorem adj_not' {p : Segment → Segment → Bool} {l : List Segment} (h : ∃ j, 1 ≤ j ∧ j < l.length ∧ p (l.getD (j - 1) zS) (l.getD j zS) = false) : adjB p l = false := by
  obtain ⟨j, h1, h2, h3⟩ := h
  refine Bool.eq_false_iff.2 fun ht => ?_
  have := adjB_iff.1 ht (j - 1) (by omega)
  rw [show j - 1 + 1 = j by omega, h3] at this
  cases this

theorem V33_spec {l : List Segment} {K : Segment × Int → Prop} (h : K (joinS l)) : V33 l K := by
  rw [V33_eq]
  unfold B33
  unfold joinS at h
  refine br_i (fun c => ?_) fun c1 => ?_
  · rw [if_pos (Or.inl (by have := of_decide_eq_true c; omega))] at h; exact h
  refine br_i (fun c => ?_) fun c2 => ?_
  · rw [if_pos (Or.inr (by simp at c; omega))] at h; exact h
  have h0 : 1 ≤ l.length := by simp only [decide_eq_false_iff_not] at c1; omega
  have hl : l.length ≤ 32 := by simp at c2; omega
  rw [if_neg (by omega)] at h
  unfold s_33_3
  have z0 : l.getD 0 (env.d 32) = l.getD 0 zS := by
    have : 0 < l.length := by omega
    have e := g32 this
    rw [show ((0 : Nat) : Int).toNat = 0 from rfl] at e
    rw [e]
    simp [List.getD, this]
  rw [show inb 0 (l.length : Int) = true from inbT (by omega) (by omega), brT, brT, z0]
  refine ⟨l.length + 1, l33_5 hl l.length 0 [] (by omega) (by simp) (fun hv => ?_) fun hv => ?_⟩
  · rw [List.drop_zero] at hv ⊢
    rw [hv, if_neg (by decide)] at h
    rw [List.nil_append]
    refine ⟨l.length - 1 + 1, l33_14 hl (l.length - 1) 1 (by omega) (by omega) (fun ht => ?_) fun ht => ?_⟩
    · rw [adj_all' ht, if_neg (by decide)] at h
      refine ⟨l.length - 1 + 1, l33_19 hl (l.length - 1) 1 (by omega) (by omega) (fun hs => ?_) fun hs => ?_⟩
      · rw [adj_all' hs, if_neg (by decide)] at h
        have e1 : lastT l l.length = (l.getD (l.length - 1) zS).to_ := by unfold lastT; rw [if_neg (by omega)]
        have e2 : lastE l l.length = (l.getD (l.length - 1) zS).end_ := by unfold lastE; rw [if_neg (by omega)]
        rw [e1, e2]
        refine br_i (fun c => ?_) fun c => ?_
        · rw [if_pos (by simp at c; omega)] at h; exact h
        · rw [if_neg (by simp at c; omega)] at h; exact h
      · rw [adj_not' hs, if_pos rfl] at h
        exact h
    · rw [adj_not' ht, if_pos rfl] at h
      exact h
  · rw [List.drop_zero] at hv
    rw [hv, if_pos rfl] at h
    exact h

end Go.Vg.Ytkaodeodiakldaa
