/-
  Lists of tasks, segments that are valid, and what joins them, as plain functions. Own work; no condition.
-/
import Derived.Test.YtkaodeodiakldaaSb
namespace Go.Vg.Ytkaodeodiakldaa
open Go.Vg Go.Proofs

theorem br_i {b : Bool} {A B : Prop} (h1 : b = true → A) (h2 : b = false → B) : br b A B := by
  cases b
  · exact h2 rfl
  · exact h1 rfl
theorem getD_at {α : Type} {l : List α} {d : α} {i : Nat} (h : i < l.length) : l.getD (i : Int).toNat d = l[i] := by
  simp [List.getD, h]
theorem g39 {l : List Task} {i : Nat} (h : i < l.length) : l.getD (i : Int).toNat (env.d 39) = l[i] := getD_at h
theorem g50 {l : List Record} {i : Nat} (h : i < l.length) : l.getD (i : Int).toNat (env.d 50) = l[i] := getD_at h
theorem g32 {l : List Segment} {i : Nat} (h : i < l.length) : l.getD (i : Int).toNat (env.d 32) = l[i] := getD_at h
theorem lt_n {i n : Nat} (h : i < n) : decide ((i : Int) < n) = true := decide_eq_true (by omega)
theorem ge_n {i n : Nat} (h : n ≤ i) : decide ((i : Int) < n) = false := decide_eq_false (by omega)
theorem in_n {i n : Nat} (h : i < n) : inb (i : Int) (n : Int) = true := inbT (by omega) (by omega)
theorem succ_w {i n : Nat} (h : i < n) (hn : n ≤ 9223372036854775807) : IntKind.i64.wrap ((i : Int) + 1) = ((i + 1 : Nat) : Int) := by
  rw [wrap_i (by omega) (by omega)]; omega

theorem V20_s {x lo hi : Int} {K : Bool → Prop} (h : K (decide (lo ≤ x) && decide (x ≤ hi))) : V20 x lo hi K := by
  rw [V20_eq]
  unfold B20
  by_cases h0 : lo ≤ x
  · simp only [ge_iff_le, h0, decide_true, br]; simpa [h0] using h
  · simp only [ge_iff_le, h0, decide_false, br]; simpa [h0] using h

/-! ### Lists of tasks -/
def zT : Task := Task.mk 0 0 0 0
def zS : Segment := Segment.mk 0 0 0 0 []
/-- The i-th task is good. -/
def tOk (l : List Task) (i : Nat) : Prop :=
  (l.getD i zT).number = i ∧ 0 ≤ (l.getD i zT).worker ∧ (l.getD i zT).worker ≤ 7 ∧ 0 ≤ (l.getD i zT).from_ ∧ (l.getD i zT).from_ < (l.getD i zT).to_ ∧ (l.getD i zT).to_ ≤ 10000000 ∧ (0 < i → (l.getD i zT).from_ = (l.getD (i - 1) zT).to_)
instance (l : List Task) (i : Nat) : Decidable (tOk l i) := by unfold tOk; infer_instance
def TasksOk (l : List Task) : Prop := (∀ i, i < l.length → tOk l i) ∧ 1 ≤ l.length ∧ l.length ≤ 32
open Classical in
noncomputable def tasksB (l : List Task) : Bool := decide (TasksOk l)

open Classical in
theorem tasksB_iff {l : List Task} : tasksB l = true ↔ TasksOk l := by
  unfold tasksB
  exact decide_eq_true_iff
open Classical in
theorem tasksB_not {l : List Task} (h : ¬ TasksOk l) : tasksB l = false := by
  unfold tasksB
  exact decide_eq_false h

theorem l23_2 {l : List Task} (hl : l.length ≤ 9223372036854775807) {x2 : Bool} {kr : Bool → Prop} {k0 : List Task → Bool → Prop} : ∀ (m i : Nat), i + m = l.length → ((∀ j, i ≤ j → j < l.length → tOk l j) → k0 l x2) → ((∃ j, i ≤ j ∧ j < l.length ∧ ¬ tOk l j) → kr false) → l_23_2 (m + 1) l x2 l l.length i kr k0
  | 0, i, hi, hg, _ => by
    unfold l_23_2
    rw [ge_n (by omega)]
    exact hg fun j _ _ => by omega
  | m + 1, i, hi, hg, hb => by
    have hlt : i < l.length := by omega
    unfold l_23_2
    rw [lt_n hlt, in_n hlt, brT, brT, g39 hlt]
    have g : l[i] = l.getD i zT := by simp [List.getD, hlt]
    have bad : ¬ tOk l i → kr false := fun h => hb ⟨i, Nat.le_refl _, hlt, h⟩
    have next : tOk l i → l_23_2 (m + 1) l x2 l l.length (IntKind.i64.wrap ((i : Int) + 1)) kr k0 := fun h => by
      rw [succ_w hlt hl]
      refine l23_2 hl m (i + 1) (by omega) (fun ha => hg fun j h1 h2 => ?_) fun ⟨j, h1, h2, h3⟩ => hb ⟨j, by omega, h2, h3⟩
      by_cases hj : j = i
      · rw [hj]; exact h
      · exact ha j (by omega) h2
    rw [g]
    have hto : tOk l i ↔ ((l.getD i zT).number = i ∧ 0 ≤ (l.getD i zT).worker ∧ (l.getD i zT).worker ≤ 7 ∧ 0 ≤ (l.getD i zT).from_ ∧ (l.getD i zT).from_ < (l.getD i zT).to_ ∧ (l.getD i zT).to_ ≤ 10000000 ∧ (0 < i → (l.getD i zT).from_ = (l.getD (i - 1) zT).to_)) := Iff.rfl
    generalize tOk l i = T at hto bad next
    generalize l.getD i zT = x at hto ⊢
    clear hg hb g
    refine br_i (fun c => bad fun h => ?_) fun c1 => ?_
    · have := (hto.1 h).1
      simp [this] at c
    refine ⟨_, V20_s rfl, ?_⟩
    refine br_i (fun c => bad fun h => ?_) fun c2 => ?_
    · have := (hto.1 h).2
      simp at c
      omega
    refine br_i (fun c => bad fun h => ?_) fun c3 => ?_
    · have := (hto.1 h).2
      simp at c
      omega
    refine br_i (fun c => bad fun h => ?_) fun c4 => ?_
    · have := (hto.1 h).2
      simp at c
      omega
    refine br_i (fun c => bad fun h => ?_) fun c5 => ?_
    · have := (hto.1 h).2
      simp at c
      omega
    refine br_i (fun c6 => ?_) fun c6 => ?_
    · have hi0 : 0 < i := by simp at c6; omega
      have e : IntKind.i64.wrap ((i : Int) - 1) = ((i - 1 : Nat) : Int) := by
        rw [wrap_i (by omega) (by omega)]; omega
      have hlt' : i - 1 < l.length := by omega
      rw [e, in_n hlt', brT, g39 hlt']
      have g' : l[i - 1] = l.getD (i - 1) zT := by simp [List.getD, hlt']
      rw [g']
      generalize l.getD (i - 1) zT = p at hto ⊢
      refine br_i (fun c => bad fun h => ?_) fun c7 => next ?_
      · have := (hto.1 h).2.2.2.2.2.2 hi0
        simp [this] at c
      · simp at c1 c2 c3 c4 c5 c7
        exact hto.2 ⟨c1, by omega, by omega, by omega, by omega, by omega, fun _ => c7⟩
    · refine next ?_
      simp at c1 c2 c3 c4 c5 c6
      exact hto.2 ⟨c1, by omega, by omega, by omega, by omega, by omega, fun _ => by omega⟩

theorem V23_spec {l : List Task} (hl : l.length ≤ 9223372036854775807) {K : Bool → Prop} (h : K (tasksB l)) : V23 l K := by
  rw [V23_eq]
  unfold B23
  refine ⟨l.length + 1, l23_2 hl l.length 0 (by omega) (fun hg => V20_s ?_) fun ⟨j, _, h2, h3⟩ => ?_⟩
  · have : (decide ((1 : Int) ≤ l.length) && decide ((l.length : Int) ≤ 32)) = tasksB l := by
      rw [Bool.eq_iff_iff, tasksB_iff]
      simp only [Bool.and_eq_true, decide_eq_true_eq]
      exact ⟨fun ⟨a, b⟩ => ⟨fun i hi => hg i (by omega) hi, by omega, by omega⟩, fun ⟨_, a, b⟩ => by omega⟩
    rw [this]
    exact h
  · rw [tasksB_not (fun hh => h3 (hh.1 j h2))] at h
    exact h

/-! ### Segments -/
def recS (to_ : Int) : Int → Int → List Record → Option Int
  | _, d, [] => some d
  | a, d, r :: rs => if r.at_ < a ∨ to_ ≤ r.at_ then none else recS to_ r.at_ (digS d r) rs
def validS (s : Segment) : Bool := decide (0 ≤ s.from_) && decide (s.from_ ≤ s.to_) && decide (s.to_ ≤ 10000000) && decide (s.records.length ≤ 5000) && decide (recS s.to_ s.from_ s.begin_ s.records = some s.end_)

theorem l38_5 {l : List Record} (hl : l.length ≤ 5000) {x1 : Bool} {to_ fr b e : Int} {kr : Bool → Prop} {k0 : Bool → Int → Int → Int → Int → Int → List Record → Prop} : ∀ (m i : Nat) (d a : Int), i + m = l.length → (∀ d', recS to_ a d (l.drop i) = some d' → k0 x1 d' fr to_ b e l) → (recS to_ a d (l.drop i) = none → kr false) → l_38_5 (m + 1) x1 d a l l.length i fr to_ b e l kr k0
  | 0, i, d, a, hi, hg, _ => by
    unfold l_38_5
    rw [ge_n (by omega)]
    rw [List.drop_of_length_le (by omega)] at hg
    exact hg d rfl
  | m + 1, i, d, a, hi, hg, hb => by
    have hlt : i < l.length := by omega
    unfold l_38_5
    rw [lt_n hlt, in_n hlt]
    rw [List.drop_eq_getElem_cons hlt] at hg hb
    simp only [recS] at hg hb
    rw [g50 hlt]
    simp only [br]
    by_cases c1 : l[i].at_ < a
    · rw [if_pos (Or.inl c1)] at hb
      rw [decide_eq_true c1]
      exact hb rfl
    · rw [decide_eq_false c1]
      by_cases c2 : l[i].at_ ≥ to_
      · rw [if_pos (Or.inr c2)] at hb
        rw [decide_eq_true c2]
        exact hb rfl
      · rw [decide_eq_false c2]
        rw [if_neg (by omega)] at hg hb
        unfold s_38_9
        refine ⟨_, V45_spec (r := l[i]) rfl, ?_⟩
        show l_38_5 (m + 1) _ _ _ _ _ (IntKind.i64.wrap ((i : Int) + 1)) _ _ _ _ _ kr k0
        rw [succ_w hlt (by omega)]
        exact l38_5 hl m (i + 1) _ _ (by omega) hg hb

theorem V38_spec {s : Segment} {K : Bool → Prop} (h : K (validS s)) : V38 s K := by
  rw [V38_eq]
  unfold B38
  unfold validS at h
  refine br_i (fun c => ?_) fun c1 => ?_
  · rw [show decide (0 ≤ s.from_) = false by simp at c ⊢; omega] at h; exact h
  refine br_i (fun c => ?_) fun c2 => ?_
  · rw [show decide (s.from_ ≤ s.to_) = false by simp at c ⊢; omega] at h; simpa using h
  refine br_i (fun c => ?_) fun c3 => ?_
  · rw [show decide (s.to_ ≤ 10000000) = false by simp at c ⊢; omega] at h; simpa using h
  refine br_i (fun c => ?_) fun c4 => ?_
  · rw [show decide (s.records.length ≤ 5000) = false by simp at c ⊢; omega] at h; simpa using h
  have hl : s.records.length ≤ 5000 := by simp at c4; omega
  rw [show decide (0 ≤ s.from_) = true by simp at c1 ⊢; omega, show decide (s.from_ ≤ s.to_) = true by simp at c2 ⊢; omega, show decide (s.to_ ≤ 10000000) = true by simp at c3 ⊢; omega, decide_eq_true hl] at h
  simp only [Bool.true_and] at h
  unfold s_38_3
  refine ⟨s.records.length + 1, l38_5 hl s.records.length 0 s.begin_ s.from_ (by omega) (fun d' hd => ?_) fun hd => ?_⟩
  · rw [List.drop_zero] at hd
    rw [hd] at h
    have : (d' == s.end_) = decide (some d' = some s.end_) := by rw [Bool.eq_iff_iff]; simp
    rw [this]
    exact h
  · rw [List.drop_zero] at hd
    rw [hd] at h
    simpa using h

/-! ### Neighbours -/
def adjB (p : Segment → Segment → Bool) (l : List Segment) : Bool := (List.range (l.length - 1)).all fun i => p (l.getD i zS) (l.getD (i + 1) zS)
theorem adjB_iff {p : Segment → Segment → Bool} {l : List Segment} : adjB p l = true ↔ ∀ i, i + 1 < l.length → p (l.getD i zS) (l.getD (i + 1) zS) = true := by
  unfold adjB
  simp only [List.all_eq_true, List.mem_range]
  exact ⟨fun h i hi => h i (by omega), fun h i hi => h i (by omega)⟩
def timeS (a b : Segment) : Bool := a.to_ == b.from_
def sumS (a b : Segment) : Bool := a.end_ == b.begin_

theorem V40_s {a b : Segment} {K : Bool → Prop} (h : K (timeS a b)) : V40 a b K := by rw [V40_eq]; exact h
theorem V41_s {a b : Segment} {K : Bool → Prop} (h : K (sumS a b)) : V41 a b K := by rw [V41_eq]; exact h

theorem l39a {l : List Segment} (hl : l.length ≤ 32) {x2 : Bool} {kr k0 : Bool → Prop} : ∀ (m i : Nat), i + m = l.length - 1 → ((∀ j, i ≤ j → j < l.length - 1 → timeS (l.getD j zS) (l.getD (j + 1) zS) = true) → k0 x2) → ((∃ j, i ≤ j ∧ j < l.length - 1 ∧ timeS (l.getD j zS) (l.getD (j + 1) zS) = false) → kr false) → l_39ax39_2 (m + 1) l x2 ((l.length - 1 : Nat) : Int) i kr k0
  | 0, i, hi, hg, _ => by
    unfold l_39ax39_2
    rw [ge_n (by omega)]
    exact hg fun j _ _ => by omega
  | m + 1, i, hi, hg, hb => by
    have hlt : i < l.length - 1 := by omega
    unfold l_39ax39_2
    rw [lt_n hlt, in_n (show i < l.length by omega), succ_w hlt (by omega), in_n (show i + 1 < l.length by omega), g32 (show i < l.length by omega), g32 (show i + 1 < l.length by omega)]
    simp only [br]
    have g1 : l.getD i zS = l[i] := by simp [List.getD, show i < l.length by omega]
    have g2 : l.getD (i + 1) zS = l[i + 1] := by simp [List.getD, show i + 1 < l.length by omega]
    refine ⟨_, V40_s rfl, ?_⟩
    rcases hc : timeS l[i] l[i + 1]
    · exact hb ⟨i, Nat.le_refl _, hlt, by rw [g1, g2]; exact hc⟩
    · refine l39a hl m (i + 1) (by omega) (fun ha => hg fun j h1 h2 => ?_) fun ⟨j, h1, h2, h3⟩ => hb ⟨j, by omega, h2, h3⟩
      by_cases hj : j = i
      · rw [hj, g1, g2]; exact hc
      · exact ha j (by omega) h2
theorem l39b {l : List Segment} (hl : l.length ≤ 32) {x2 : Bool} {kr k0 : Bool → Prop} : ∀ (m i : Nat), i + m = l.length - 1 → ((∀ j, i ≤ j → j < l.length - 1 → sumS (l.getD j zS) (l.getD (j + 1) zS) = true) → k0 x2) → ((∃ j, i ≤ j ∧ j < l.length - 1 ∧ sumS (l.getD j zS) (l.getD (j + 1) zS) = false) → kr false) → l_39bx39_2 (m + 1) l x2 ((l.length - 1 : Nat) : Int) i kr k0
  | 0, i, hi, hg, _ => by
    unfold l_39bx39_2
    rw [ge_n (by omega)]
    exact hg fun j _ _ => by omega
  | m + 1, i, hi, hg, hb => by
    have hlt : i < l.length - 1 := by omega
    unfold l_39bx39_2
    rw [lt_n hlt, in_n (show i < l.length by omega), succ_w hlt (by omega), in_n (show i + 1 < l.length by omega), g32 (show i < l.length by omega), g32 (show i + 1 < l.length by omega)]
    simp only [br]
    have g1 : l.getD i zS = l[i] := by simp [List.getD, show i < l.length by omega]
    have g2 : l.getD (i + 1) zS = l[i + 1] := by simp [List.getD, show i + 1 < l.length by omega]
    refine ⟨_, V41_s rfl, ?_⟩
    rcases hc : sumS l[i] l[i + 1]
    · exact hb ⟨i, Nat.le_refl _, hlt, by rw [g1, g2]; exact hc⟩
    · refine l39b hl m (i + 1) (by omega) (fun ha => hg fun j h1 h2 => ?_) fun ⟨j, h1, h2, h3⟩ => hb ⟨j, by omega, h2, h3⟩
      by_cases hj : j = i
      · rw [hj, g1, g2]; exact hc
      · exact ha j (by omega) h2

theorem adj_all {p : Segment → Segment → Bool} {l : List Segment} (h : ∀ j, 0 ≤ j → j < l.length - 1 → p (l.getD j zS) (l.getD (j + 1) zS) = true) : adjB p l = true := adjB_iff.2 fun i hi => h i (by omega) (by omega)
theorem adj_not {p : Segment → Segment → Bool} {l : List Segment} (h : ∃ j, 0 ≤ j ∧ j < l.length - 1 ∧ p (l.getD j zS) (l.getD (j + 1) zS) = false) : adjB p l = false := by
  obtain ⟨j, _, h2, h3⟩ := h
  refine Bool.eq_false_iff.2 fun ht => ?_
  rw [adjB_iff.1 ht j (by omega)] at h3
  cases h3

theorem V39_time {l : List Segment} (h0 : 1 ≤ l.length) (hl : l.length ≤ 32) {K : Bool → Prop} (h : K (adjB timeS l)) : V39 40 l K := by
  rw [V39_eq]
  refine Or.inl ⟨rfl, ?_⟩
  rw [V39a_eq]
  unfold B39a
  refine ⟨l.length, ?_⟩
  rw [wrap_i (by omega) (by omega), show (l.length : Int) - 1 = ((l.length - 1 : Nat) : Int) by omega]
  have := l39a (l := l) hl (x2 := false) (kr := K) (k0 := fun _ => K true) (l.length - 1) 0 (by omega) (fun hg => by rw [adj_all hg] at h; exact h) (fun hb => by rw [adj_not hb] at h; exact h)
  rw [show l.length - 1 + 1 = l.length by omega] at this
  exact this
theorem V39_sum {l : List Segment} (h0 : 1 ≤ l.length) (hl : l.length ≤ 32) {K : Bool → Prop} (h : K (adjB sumS l)) : V39 41 l K := by
  rw [V39_eq]
  refine Or.inr (Or.inl ⟨rfl, ?_⟩)
  rw [V39b_eq]
  unfold B39b
  refine ⟨l.length, ?_⟩
  rw [wrap_i (by omega) (by omega), show (l.length : Int) - 1 = ((l.length - 1 : Nat) : Int) by omega]
  have := l39b (l := l) hl (x2 := false) (kr := K) (k0 := fun _ => K true) (l.length - 1) 0 (by omega) (fun hg => by rw [adj_all hg] at h; exact h) (fun hb => by rw [adj_not hb] at h; exact h)
  rw [show l.length - 1 + 1 = l.length by omega] at this
  exact this

end Go.Vg.Ytkaodeodiakldaa
