/-
  Comparisons, another order, and the fixed examples. Own work; no condition.
-/
import Derived.Test.YtkaodeodiakldaaSh
namespace Go.Vg.Ytkaodeodiakldaa
open Go.Vg Go.Proofs

theorem l14_4 {l : List Task} (hl : l.length ≤ 9223372036854775807) {x3 : Bool} {kr k0 : Bool → Prop} (h : k0 x3) : ∀ (m i : Nat), i + m = l.length → l_14_4 (m + 1) l l x3 i kr k0
  | 0, i, hi => by
    unfold l_14_4
    rw [ge_n (by omega)]
    exact h
  | m + 1, i, hi => by
    have hlt : i < l.length := by omega
    unfold l_14_4
    rw [lt_n hlt, in_n hlt, brT, brT, brT, g39 hlt, succ_w hlt hl]
    simp only [beq_self_eq_true, andb, Bool.not_true, brF]
    exact l14_4 hl h m (i + 1) (by omega)
theorem V14_same {l : List Task} (hl : l.length ≤ 9223372036854775807) {K : Bool → Prop} (h : K true) : V14 l l K := by
  rw [V14_eq]
  unfold B14
  rw [bne_self_eq_false, brF]
  exact ⟨l.length + 1, l14_4 (k0 := fun _ => K true) hl h l.length 0 (by omega)⟩

theorem l34_4 {l : List Record} (hl : l.length ≤ 9223372036854775807) {x3 : Bool} {kr k0 : Bool → Prop} (h : k0 x3) : ∀ (m i : Nat), i + m = l.length → l_34_4 (m + 1) l l x3 i kr k0
  | 0, i, hi => by
    unfold l_34_4
    rw [ge_n (by omega)]
    exact h
  | m + 1, i, hi => by
    have hlt : i < l.length := by omega
    unfold l_34_4
    rw [lt_n hlt, in_n hlt, brT, brT, brT, g50 hlt, succ_w hlt hl]
    simp only [beq_self_eq_true, andb, Bool.not_true, brF]
    exact l34_4 hl h m (i + 1) (by omega)
theorem V34_same {l : List Record} (hl : l.length ≤ 9223372036854775807) {K : Bool → Prop} (h : K true) : V34 l l K := by
  rw [V34_eq]
  unfold B34
  rw [bne_self_eq_false, brF]
  exact ⟨l.length + 1, l34_4 (k0 := fun _ => K true) hl h l.length 0 (by omega)⟩
theorem V15_same {s : Segment} (hl : s.records.length ≤ 9223372036854775807) {K : Bool → Prop} (h : K true) : V15 s s K := by
  rw [V15_eq]
  unfold B15
  simp only [beq_self_eq_true, brT]
  exact V34_same hl h

theorem V18_spec {a b : Int} {K : Segment → Prop} (h : K (Segment.mk a b 7 7 [])) : V18 a b K := by rw [V18_eq]; exact h

/-- There are few of both. -/
def fewS (ts : List Task) (l : List Segment) : Bool := l.all (fun s => decide (s.records.length ≤ 5100)) && (decide (ts.length ≤ 40) && decide (l.length ≤ 40))
theorem V19_spec {s : Segment} {K : Bool → Prop} (h : K (decide (s.records.length ≤ 5100))) : V19 s K := by
  rw [V19_eq]
  unfold B19
  have : decide ((s.records.length : Int) ≤ 5100) = decide (s.records.length ≤ 5100) := decide_eq_decide.2 (by omega)
  rw [this]
  exact h
theorem l9_2 {ts : List Task} {l : List Segment} (hl : l.length ≤ 9223372036854775807) {x3 : Bool} {kr : Bool → Prop} {k0 : List Task → List Segment → Bool → Prop} : ∀ (m i : Nat), i + m = l.length → ((l.drop i).all (fun s => decide (s.records.length ≤ 5100)) = true → k0 ts l x3) → ((l.drop i).all (fun s => decide (s.records.length ≤ 5100)) = false → kr false) → l_9_2 (m + 1) ts l x3 i kr k0
  | 0, i, hi, hg, _ => by
    unfold l_9_2
    rw [ge_n (by omega)]
    rw [List.drop_of_length_le (by omega)] at hg
    exact hg rfl
  | m + 1, i, hi, hg, hb => by
    have hlt : i < l.length := by omega
    unfold l_9_2
    rw [lt_n hlt, in_n hlt, brT, brT, g32 hlt]
    rw [List.drop_eq_getElem_cons hlt, List.all_cons] at hg hb
    refine V19_spec ?_
    rcases hv : decide (l[i].records.length ≤ 5100)
    · rw [hv] at hb
      exact hb rfl
    · rw [hv] at hg hb
      rw [Bool.not_true, brF, succ_w hlt hl]
      exact l9_2 hl m (i + 1) (by omega) hg hb
theorem V9_spec {ts : List Task} {l : List Segment} (hl : l.length ≤ 9223372036854775807) {K : Bool → Prop} (h : K (fewS ts l)) : V9 ts l K := by
  rw [V9_eq]
  unfold B9
  unfold fewS at h
  refine ⟨l.length + 1, l9_2 hl l.length 0 (by omega) (fun hv => ?_) fun hv => ?_⟩
  · rw [List.drop_zero] at hv
    rw [hv, Bool.true_and] at h
    refine br_i (fun c => ?_) fun c => ?_
    · have c := of_decide_eq_true c
      rw [decide_eq_true (show ts.length ≤ 40 by omega), Bool.true_and] at h
      have : decide ((l.length : Int) ≤ 40) = decide (l.length ≤ 40) := decide_eq_decide.2 (by omega)
      rw [this]
      exact h
    · have c := of_decide_eq_false c
      rw [decide_eq_false (show ¬ ts.length ≤ 40 by omega), Bool.false_and] at h
      exact h
  · rw [List.drop_zero] at hv
    rw [hv] at h
    exact h
theorem few_iff {ts : List Task} {l : List Segment} (h : fewS ts l = true) : ts.length ≤ 40 ∧ l.length ≤ 40 ∧ ∀ s ∈ l, s.records.length ≤ 5100 := by
  unfold fewS at h
  simp only [Bool.and_eq_true, decide_eq_true_eq, List.all_eq_true] at h
  exact ⟨h.2.1, h.2.2, h.1⟩

/-! ### Another order -/
theorem g5 {l : List Int} {i : Nat} (h : i < l.length) : l.getD (i : Int).toNat (env.d 5) = l[i] := getD_at h
theorem tmod_n {x : Int} {n : Nat} (hx : 0 ≤ x) (hn : 0 < n) : ∃ j : Nat, j < n ∧ x.tmod (n : Int) = j := by
  obtain ⟨y, rfl⟩ := Int.eq_ofNat_of_zero_le hx
  refine ⟨y % n, Nat.mod_lt _ hn, ?_⟩
  rw [Int.tmod_eq_emod_of_nonneg (by omega)]
  omega
theorem l16_3 {us : List Int} (hu : ∀ u ∈ us, 0 ≤ u ∧ u < 256) (hul : us.length ≤ 40) {k0 : List Segment → Prop} {l : List Segment} (h : ∀ l', l'.Perm l → k0 l') : ∀ (m i : Nat) (out : List Segment), i + m = us.length → out.length ≤ 40 → out.Perm l → l_16_3 (m + 1) us i out k0
  | 0, i, out, hi, _, hp => by
    unfold l_16_3
    rw [ge_n (by omega)]
    exact h out hp
  | m + 1, i, out, hi, ho, hp => by
    have hlt : i < us.length := by omega
    unfold l_16_3
    rw [lt_n hlt, brT]
    refine br_i (fun c => ?_) fun _ => h out hp
    have c : 0 < out.length := by have := of_decide_eq_true c; omega
    unfold s_16_5
    have hz : (!(out.length : Int) == 0) = true := by simp; intro q; rw [q] at c; simp at c
    have hr := hu us[i] (List.getElem_mem hlt)
    obtain ⟨a, ha, ea⟩ := tmod_n (x := (i : Int)) (by omega) c
    obtain ⟨b, hb, eb⟩ := tmod_n (x := us[i]) hr.1 c
    rw [in_n hlt, brT, hz, brT, brT, g5 hlt, wrap_i (by omega) (by omega), ea, eb, in_n ha, in_n hb, brT, brT, brT, List.length_set, in_n ha, brT, g32 ha, g32 hb, succ_w hlt (by omega), Int.toNat_natCast, Int.toNat_natCast]
    refine l16_3 hu hul h m (i + 1) _ (by omega) (by rw [List.length_set, List.length_set]; exact ho) (List.Perm.trans ?_ hp)
    exact List.set_set_perm hb ha
theorem V16_spec {l : List Segment} (hl : l.length ≤ 40) {us : List Int} (hu : ∀ u ∈ us, 0 ≤ u ∧ u < 256) (hul : us.length ≤ 40) {K : List Segment → Prop} (h : ∀ l', l'.Perm l → K l') : V16 l us K := by
  rw [V16_eq]
  unfold B16
  rw [show List.replicate 0 (Segment.mk 0 0 0 0 []) ++ l = l from rfl, Int.toNat_natCast, room32 (by omega), show leb 0 (l.length : Int) = true from decide_eq_true (by omega)]
  exact ⟨us.length + 1, l16_3 hu hul h us.length 0 l (by omega) hl (List.Perm.refl _)⟩

/-! ### The fixed examples -/
instance (l : List Task) : Decidable (TasksOk l) := by unfold TasksOk; infer_instance
def exT : List Task := [Task.mk 0 0 0 3, Task.mk 1 1 3 6, Task.mk 2 0 6 10]
def em (a b : Int) : Segment := Segment.mk a b 7 7 []
theorem exT_ok : tasksB exT = true := tasksB_iff.2 (by decide)
theorem ex1 : mergeS exT [em 6 10, em 0 3, em 3 6] = (em 0 10, 0) := by unfold mergeS; rw [exT_ok]; rfl
theorem ex2 : (mergeS exT [em 6 10, em 0 3]).2 = 4 := by unfold mergeS; rw [exT_ok]; rfl
theorem ex3 : (mergeS exT [em 0 3, em 0 3]).2 = 5 := by unfold mergeS; rw [exT_ok]; rfl
theorem ex4 : (mergeS exT [em 0 4]).2 = 18 := by unfold mergeS; rw [exT_ok]; rfl
theorem ex5 : (mergeS exT [em 4 3]).2 = 1 := by unfold mergeS; rw [exT_ok]; rfl
theorem exA : assignS 0 10 3 2 = (exT, 0) := by rfl
theorem exB : assignS 5 7 3 1 = ([], 1) := by rfl

theorem V8_spec {K : Bool → Prop} (h : K true) : V8 K := by
  rw [V8_eq]
  unfold B8
  refine V10_spec ?_
  rw [exA]
  refine V10_spec ?_
  rw [exB]
  refine V14_same (l := exT) (by decide) ?_
  unfold s_8_4
  refine V18_spec (V18_spec (V18_spec (V12_spec (by decide) ?_)))
  rw [show mergeS exT [Segment.mk 6 10 7 7 [], Segment.mk 0 3 7 7 [], Segment.mk 3 6 7 7 []] = (em 0 10, 0) from ex1]
  refine V18_spec (V18_spec (V12_spec (by decide) ?_))
  refine V18_spec (V18_spec (V12_spec (by decide) ?_))
  refine V18_spec (V12_spec (by decide) ?_)
  refine V18_spec (V12_spec (by decide) ?_)
  have e2 : (mergeS exT [Segment.mk 6 10 7 7 [], Segment.mk 0 3 7 7 []]).2 = 4 := ex2
  have e3 : (mergeS exT [Segment.mk 0 3 7 7 [], Segment.mk 0 3 7 7 []]).2 = 5 := ex3
  have e4 : (mergeS exT [Segment.mk 0 4 7 7 []]).2 = 18 := ex4
  have e5 : (mergeS exT [Segment.mk 4 3 7 7 []]).2 = 1 := ex5
  refine ⟨_, V18_spec rfl, true, V15_same (by decide) rfl, ?_⟩
  show br ((mergeS exT [Segment.mk 6 10 7 7 [], Segment.mk 0 3 7 7 []]).2 == 4) (br ((mergeS exT [Segment.mk 0 3 7 7 [], Segment.mk 0 3 7 7 []]).2 == 5) (br ((mergeS exT [Segment.mk 0 4 7 7 []]).2 == 18) (K ((mergeS exT [Segment.mk 4 3 7 7 []]).2 == 1)) (K false)) (K false)) (K false)
  rw [e2, e3, e4, e5]
  exact h

end Go.Vg.Ytkaodeodiakldaa
