/-
  Assign and its reference, as one plain function. Own work; no condition.
-/
import Derived.Test.YtkaodeodiakldaaWF
namespace Go.Vg.Ytkaodeodiakldaa
open Go.Vg Go.Proofs

theorem wrap_id {z : Int} (h1 : -9223372036854775808 ≤ z) (h2 : z < 9223372036854775808) : IntKind.i64.wrap z = z := by
  simp [IntKind.wrap, IntKind.bits, IntKind.signed]; omega

/-- Where part k begins. -/
def atS (a b n k : Int) : Int := IntKind.i64.wrap (a + IntKind.i64.wrap ((IntKind.i64.wrap (IntKind.i64.wrap (b - a) * k)).tdiv n))
def taskS (a b n w k : Int) : Task := Task.mk k (k.tmod w) (atS a b n k) (atS a b n (IntKind.i64.wrap (k + 1)))
def tasksS (a b n w : Int) : List Task := (List.range n.toNat).map fun k : Nat => taskS a b n w k
def badS (a b n w : Int) : Bool := !(decide (0 ≤ a) && decide (a ≤ 10000000)) || !(decide (0 ≤ b) && decide (b ≤ 10000000)) || !(decide (1 ≤ w) && decide (w ≤ 8)) || !(decide (1 ≤ n) && decide (n ≤ min (b - a) 32))
def assignS (a b n w : Int) : List Task × Int := if badS a b n w then ([], 1) else (tasksS a b n w, 0)

theorem room39 {n : Nat} (h : n ≤ 1000) : roomB n (bytesB env 39) = true := by
  have : bytesB env 39 = 32 := by kernel_rfl
  rw [this]
  unfold roomB
  rw [decide_eq_true (show n * 32 ≤ 140737488355328 by omega), decide_eq_true (show n ≤ 140737488355328 by omega)]
  rfl

theorem of_br_room {l : List Task} {p : Prop} (h : l.length ≤ 1000) (hp : p) : br (roomB l.length (bytesB env 39)) p False := by rw [room39 h]; exact hp

theorem tasks_succ (a b n w : Int) (j : Nat) : ((List.range j).map fun k : Nat => taskS a b n w k) ++ [taskS a b n w j] = (List.range (j + 1)).map fun k : Nat => taskS a b n w k := by
  rw [List.range_succ, List.map_append]; rfl

/-- The reference's loop. -/
theorem l11 {a b n w x5 : Int} (hn : 1 ≤ n ∧ n ≤ 32) (hw : 1 ≤ w) {k0 : Int → List Task → Prop} (hk : k0 x5 (tasksS a b n w)) : ∀ (m j : Nat), j + m = n.toNat → l_11_7 (m + 1) a b n w x5 j ((List.range j).map fun k : Nat => taskS a b n w k) k0
  | 0, j, hj => by
    have h1 : ¬ ((j : Int) < n) := by omega
    unfold l_11_7
    simp only [h1, decide_false, br]
    rw [show j = n.toNat by omega]
    exact hk
  | m + 1, j, hj => by
    have h1 : (j : Int) < n := by omega
    have h2 : (!w == 0) = true := by simp; omega
    have h3 : (!n == 0) = true := by simp; omega
    have e : IntKind.i64.wrap ((j : Int) + 1) = ((j + 1 : Nat) : Int) := by rw [wrap_id (by omega) (by omega)]; omega
    unfold l_11_7
    simp only [h1, h2, h3, decide_true, br]
    refine of_br_room ?_ ?_
    · simp; omega
    · rw [e]
      have := l11 hn hw hk m (j + 1) (by omega)
      rw [← tasks_succ] at this
      simpa [taskS, atS, e] using this

theorem V22_spec {x : Int} {K : Bool → Prop} (h : K (decide (0 ≤ x) && decide (x ≤ 10000000))) : V22 x K := by
  rw [V22_eq]
  unfold B22
  by_cases h0 : 0 ≤ x
  · simp only [ge_iff_le, h0, decide_true, br]; simpa [h0] using h
  · simp only [ge_iff_le, h0, decide_false, br]; simpa [h0] using h

theorem V11_spec {a b n w : Int} {K : List Task × Int → Prop} (hk : K (assignS a b n w)) : V11 a b n w K := by
  rw [V11_eq]
  unfold B11
  refine V22_spec (V22_spec ?_)
  unfold assignS badS at hk
  by_cases ha : (decide (0 ≤ a) && decide (a ≤ 10000000)) = true
  · by_cases hb : (decide (0 ≤ b) && decide (b ≤ 10000000)) = true
    · rw [ha, hb]
      simp only [ha, hb, Bool.not_true, Bool.false_or] at hk
      simp only [Bool.and_eq_true, decide_eq_true_eq] at ha hb
      have e : IntKind.i64.wrap (b - a) = b - a := wrap_id (by omega) (by omega)
      rw [e]
      by_cases hw : 1 ≤ w ∧ w ≤ 8
      · by_cases hn : 1 ≤ n ∧ n ≤ 32 ∧ n ≤ b - a
        · have q1 : ¬ w < 1 := by omega
          have q2 : ¬ w > 8 := by omega
          have q3 : ¬ n < 1 := by omega
          have q4 : ¬ n > 32 := by omega
          have q5 : ¬ n > b - a := by omega
          simp only [q1, q2, q3, q4, q5, decide_false, br, Bool.not_true]
          unfold s_11_5
          refine ⟨n.toNat + 1, l11 ⟨hn.1, hn.2.1⟩ hw.1 ?_ n.toNat 0 (by omega)⟩
          rw [if_neg (by simp; omega)] at hk
          exact hk
        · rw [if_pos (by simp; omega)] at hk
          simp only [Bool.not_true, br]
          repeat' (split <;> first | exact hk | skip)
          all_goals (exfalso; simp_all; try omega)
      · rw [if_pos (by simp; omega)] at hk
        simp only [Bool.not_true, br]
        repeat' (split <;> first | exact hk | skip)
        all_goals (exfalso; simp_all; try omega)
    · have hb : (decide (0 ≤ b) && decide (b ≤ 10000000)) = false := by simpa using hb
      rw [ha, hb]
      rw [if_pos (by simp [hb])] at hk
      simp only [Bool.not_true, Bool.not_false, br]
      exact hk
  · have ha : (decide (0 ≤ a) && decide (a ≤ 10000000)) = false := by simpa using ha
    rw [ha]
    rw [if_pos (by simp [ha])] at hk
    simp only [Bool.not_false, br]
    exact hk

theorem V36_spec {k a b n : Int} (hn : 1 ≤ n) {K : Int → Prop} (h : K (atS a b n k)) : V36 k a b n K := by
  rw [V36_eq]
  unfold B36
  have h3 : (!n == 0) = true := by simp; omega
  rw [h3]
  exact h

/-- Assign's own loop, over its iterator. -/
theorem l10 {a b n w : Int} (hn : 1 ≤ n ∧ n ≤ 32) (hw : 1 ≤ w) {s1 s2 s3 s4 s5 s6 s7 s8 s9 s10 s11 : Int} {k0 : Int → Int → Int → Int → Int → Int → Int → Int → Int → Int → Int → Int → List Task → Prop} (hk : k0 s1 s2 s3 s4 s5 s6 s7 s8 s9 s10 s11 w (tasksS a b n w)) :
    ∀ (m j : Nat), j + m = n.toNat → l_10x37_1 (m + 1) a b n n j s1 s2 s3 s4 s5 s6 s7 s8 s9 s10 s11 w ((List.range j).map fun k : Nat => taskS a b n w k) k0
  | 0, j, hj => by
    have h1 : ¬ ((j : Int) < n) := by omega
    unfold l_10x37_1
    simp only [h1, decide_false, br]
    rw [show j = n.toNat by omega]
    exact hk
  | m + 1, j, hj => by
    have h1 : (j : Int) < n := by omega
    have h2 : (!w == 0) = true := by simp; omega
    have e : IntKind.i64.wrap ((j : Int) + 1) = ((j + 1 : Nat) : Int) := by rw [wrap_id (by omega) (by omega)]; omega
    unfold l_10x37_1
    simp only [h1, h2, decide_true, br]
    refine ⟨atS a b n j, V36_spec hn.1 rfl, atS a b n (IntKind.i64.wrap ((j : Int) + 1)), V36_spec hn.1 rfl, ?_⟩
    refine of_br_room ?_ ?_
    · simp; omega
    · rw [e]
      have := l10 hn hw hk m (j + 1) (by omega)
      rw [← tasks_succ] at this
      simpa [taskS, atS, e] using this

theorem V20_spec {x lo hi : Int} {K : Bool → Prop} (h : K (decide (lo ≤ x) && decide (x ≤ hi))) : V20 x lo hi K := by
  rw [V20_eq]
  unfold B20
  by_cases h0 : lo ≤ x
  · simp only [ge_iff_le, h0, decide_true, br]; simpa [h0] using h
  · simp only [ge_iff_le, h0, decide_false, br]; simpa [h0] using h

theorem V10_spec {a b n w : Int} {K : List Task × Int → Prop} (hk : K (assignS a b n w)) : V10 a b n w K := by
  rw [V10_eq]
  unfold B10
  refine V20_spec ?_
  unfold assignS badS at hk
  by_cases ha : (decide (0 ≤ a) && decide (a ≤ 10000000)) = true
  · rw [ha]
    simp only [Bool.not_true, br]
    refine V20_spec ?_
    by_cases hb : (decide (0 ≤ b) && decide (b ≤ 10000000)) = true
    · rw [hb]
      simp only [Bool.not_true]
      refine V20_spec ?_
      simp only [ha, hb, Bool.not_true, Bool.false_or] at hk
      simp only [Bool.and_eq_true, decide_eq_true_eq] at ha hb
      have e : IntKind.i64.wrap (b - a) = b - a := wrap_id (by omega) (by omega)
      rw [e]
      by_cases hw : (decide (1 ≤ w) && decide (w ≤ 8)) = true
      · rw [hw]
        simp only [Bool.not_true]
        refine V20_spec ?_
        have hm : (if b - a < 32 then b - a else 32) = min (b - a) 32 := by split <;> omega
        rw [hm]
        by_cases hn : (decide (1 ≤ n) && decide (n ≤ min (b - a) 32)) = true
        · rw [hn]
          simp only [Bool.not_true]
          rw [if_neg (by simp [hw, hn])] at hk
          simp only [Bool.and_eq_true, decide_eq_true_eq] at hw hn
          unfold s_10_3
          rw [V21_eq]
          exact ⟨n.toNat + 1, l10 ⟨hn.1, by omega⟩ hw.1 hk n.toNat 0 (by omega)⟩
        · have hn : (decide (1 ≤ n) && decide (n ≤ min (b - a) 32)) = false := by simpa using hn
          rw [hn]
          rw [if_pos (by simp [hn])] at hk
          exact hk
      · have hw : (decide (1 ≤ w) && decide (w ≤ 8)) = false := by simpa using hw
        rw [hw]
        rw [if_pos (by simp [hw])] at hk
        exact hk
    · have hb : (decide (0 ≤ b) && decide (b ≤ 10000000)) = false := by simpa using hb
      rw [hb]
      rw [if_pos (by simp [hb])] at hk
      exact hk
  · have ha : (decide (0 ≤ a) && decide (a ≤ 10000000)) = false := by simpa using ha
    rw [ha]
    rw [if_pos (by simp [ha])] at hk
    exact hk

end Go.Vg.Ytkaodeodiakldaa
