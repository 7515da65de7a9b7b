/-
  The laws WorkersMatchesReference and WorkersCover as plain statements. Own work; no condition.
-/
import Derived.Test.YtkaodeodiakldaaSi
import Derived.Test.YtkaodeodiakldaaOpen
namespace Go.Vg.Ytkaodeodiakldaa
open Go.Vg Go.Proofs

theorem join_len (l : List Segment) : (joinS l).1.records.length ≤ 5000 := by
  unfold joinS
  split
  · simp [zS]
  split
  · simp [zS]
  split
  · simp [zS]
  split
  · simp [zS]
  split
  · simp [zS]
  · show (recordsS l).length ≤ 5000
    omega
theorem merge_len (ts : List Task) (l : List Segment) : (mergeS ts l).1.records.length ≤ 5000 := by
  unfold mergeS
  split
  · simp [zS]
  split
  · simp [zS]
  split
  · simp [zS]
  split
  · simp [zS]
  split
  · simp [zS]
  · exact join_len _
theorem bad_not {a b n w : Int} (h : badS a b n w = false) : 0 ≤ a ∧ a ≤ 10000000 ∧ 0 ≤ b ∧ b ≤ 10000000 ∧ 1 ≤ w ∧ w ≤ 8 ∧ 1 ≤ n ∧ n ≤ 32 ∧ n ≤ b - a := by
  unfold badS at h
  simp only [Bool.or_eq_false_iff, Bool.not_eq_false', Bool.and_eq_true, decide_eq_true_eq] at h
  omega
theorem assign_len (a b n w : Int) : (assignS a b n w).1.length ≤ 32 := by
  unfold assignS
  rcases h : badS a b n w
  · have := bad_not h
    simp [tasksS]
    omega
  · simp

theorem pureWorkersMatchesReference (x0 x1 x2 x3 : Int) (ts : List Task) (l : List Segment) (_ : fitI .i64 x0) (_ : fitI .i64 x1) (_ : fitI .i64 x2) (_ : fitI .i64 x3) (ht : (∀ z0 ∈ ts, fitTask z0) ∧ List.length ts ≤ 9223372036854775807) (hl : (∀ z0 ∈ l, fitSegment z0) ∧ List.length l ≤ 9223372036854775807) : V3 x0 x1 x2 x3 ts l (fun b => b = true) := by
  rw [V3_eq]
  unfold B3
  refine V8_spec (V9_spec hl.2 ?_)
  refine br_i (fun _ => rfl) fun _ => ?_
  refine V10_spec (V11_spec (V12_spec ht.2 (V13_spec ht.2 ?_)))
  rw [brT]
  refine V14_same (by have := assign_len x0 x1 x2 x3; omega) ?_
  rw [brT, beq_self_eq_true, brT]
  refine V15_same (by have := merge_len ts l; omega) ?_
  rw [brT, beq_self_eq_true]

/-! ### Cover -/
theorem at_eq {a b n : Int} (ha : 0 ≤ a ∧ a ≤ 10000000) (hb : 0 ≤ b ∧ b ≤ 10000000) (hn : 1 ≤ n ∧ n ≤ 32 ∧ n ≤ b - a) (k : Nat) (hk : (k : Int) ≤ n) : atS a b n k = a + (((b - a).toNat * k / n.toNat : Nat) : Int) := by
  obtain ⟨W, hW⟩ := Int.eq_ofNat_of_zero_le (show 0 ≤ b - a by omega)
  obtain ⟨m, rfl⟩ := Int.eq_ofNat_of_zero_le (show 0 ≤ n by omega)
  have h1 : W * k ≤ 10000000 * 32 := Nat.mul_le_mul (by omega) (by omega)
  have h2 : W * k ≤ W * m := Nat.mul_le_mul (Nat.le_refl _) (by omega)
  have h3 : W * k / m ≤ W := Nat.div_le_of_le_mul (by rw [Nat.mul_comm m W]; exact h2)
  unfold atS
  rw [wrap_id (z := b - a) (by omega) (by omega), hW, Int.toNat_natCast, Int.toNat_natCast, ← Int.natCast_mul, wrap_id (z := ((W * k : Nat) : Int)) (by omega) (by omega), Int.tdiv_eq_ediv_of_nonneg (by omega), ← Int.natCast_ediv]
  generalize W * k / m = u at *
  rw [wrap_id (z := (u : Int)) (by omega) (by omega), wrap_id (by omega) (by omega)]
theorem step_len (W n k : Nat) (hn : 1 ≤ n) : W * k / n + W / n ≤ W * (k + 1) / n ∧ W * (k + 1) / n ≤ W * k / n + W / n + 1 := by
  rw [Nat.mul_add, Nat.mul_one]
  generalize W * k = x
  constructor
  · refine (Nat.le_div_iff_mul_le (by omega)).2 ?_
    have h1 := Nat.div_mul_le_self x n
    have h2 := Nat.div_mul_le_self W n
    rw [Nat.add_mul]
    omega
  · have h1 := Nat.div_add_mod x n
    have h2 := Nat.div_add_mod W n
    have h3 := Nat.mod_lt x (show n > 0 by omega)
    have h4 := Nat.mod_lt W (show n > 0 by omega)
    have : (x + W) / n < x / n + W / n + 2 := by
      refine Nat.div_lt_of_lt_mul ?_
      rw [Nat.mul_add, Nat.mul_add]
      omega
    omega

theorem wk_step {w i q r : Nat} (hw : 1 ≤ w) (hq : i / w = q) (hr : i % w = r) : (r + 1 < w → (i + 1) / w = q ∧ (i + 1) % w = r + 1) ∧ (r + 1 = w → (i + 1) / w = q + 1 ∧ (i + 1) % w = 0) := by
  have h := Nat.div_add_mod i w
  rw [hq, hr] at h
  constructor
  · intro h1
    rw [show i + 1 = (r + 1) + w * q by omega, Nat.add_mul_div_left _ _ (by omega), Nat.add_mul_mod_self_left, Nat.div_eq_of_lt h1, Nat.mod_eq_of_lt h1]
    omega
  · intro h1
    rw [show i + 1 = w * (q + 1) by rw [Nat.mul_add]; omega, Nat.mul_div_cancel_left _ (by omega), Nat.mul_mod_right]
    exact ⟨rfl, rfl⟩

/-- How many tasks a worker has after i. -/
def hasS (w i k : Nat) : Nat := i / w + if k < i % w then 1 else 0
theorem has_step {w i k : Nat} (hw : 1 ≤ w) (hk : k < w) : hasS w (i + 1) k = hasS w i k + if k = i % w then 1 else 0 := by
  have hs := wk_step (i := i) hw rfl rfl
  have hm := Nat.mod_lt i (show w > 0 by omega)
  unfold hasS
  by_cases h : i % w + 1 < w
  · rw [(hs.1 h).1, (hs.1 h).2]
    split <;> split <;> split <;> omega
  · rw [(hs.2 (by omega)).1, (hs.2 (by omega)).2]
    split <;> split <;> split <;> omega
theorem has_bal {w i k k' : Nat} : (hasS w i k : Int) - hasS w i k' ≤ 1 := by
  unfold hasS
  split <;> split <;> omega

theorem l4_11 {a b : Int} {n w : Nat} (ha : 0 ≤ a ∧ a ≤ 10000000) (hb : 0 ≤ b ∧ b ≤ 10000000) (hw : 1 ≤ w ∧ w ≤ 8) (hn : 1 ≤ n ∧ n ≤ 32 ∧ (n : Int) ≤ b - a) {x2 x3 : Bool} {kr : Bool → Prop} {k0 : Int → Bool → Bool → Int → Int → List Int → Prop}
    (hk : ∀ (sh lo : Int) (has : List Int), ((((b - a).toNat / n : Nat) : Int) ≤ sh ∧ sh ≤ 10000000) → (0 ≤ lo ∧ lo ≤ (((b - a).toNat / n : Nat) : Int) + 1) → has.length = 8 → (∀ k, k < w → has.getD k 0 = hasS w n k) → k0 w x2 x3 sh lo has) :
    ∀ (m i : Nat) (sh lo : Int) (has : List Int), i + m = n → ((((b - a).toNat / n : Nat) : Int) ≤ sh ∧ sh ≤ 10000000) → (0 ≤ lo ∧ lo ≤ (((b - a).toNat / n : Nat) : Int) + 1) → has.length = 8 → (∀ k, k < w → has.getD k 0 = hasS w i k) → l_4_11 (m + 1) w x2 x3 (tasksS a b n w) sh lo i has kr k0
  | 0, i, sh, lo, has, hi, h1, h2, h3, h4 => by
    have ln : (tasksS a b n w).length = n := by simp [tasksS]
    unfold l_4_11
    rw [ge_n (by omega)]
    exact hk sh lo has h1 h2 h3 (by rw [show n = i by omega]; exact h4)
  | m + 1, i, sh, lo, has, hi, h1, h2, h3, h4 => by
    have ln : (tasksS a b n w).length = n := by simp [tasksS]
    have hlt : i < (tasksS a b n w).length := by omega
    have el : ∀ j, (hj : j < (tasksS a b n w).length) → (tasksS a b n w)[j] = taskS a b n w j := fun j hj => by simp [tasksS]
    have ats : ∀ j : Nat, (j : Int) ≤ n → atS a b n j = a + (((b - a).toNat * j / n : Nat) : Int) := fun j hj => by
      have := at_eq ha hb ⟨by omega, by omega, hn.2.2⟩ j hj
      rwa [Int.toNat_natCast] at this
    unfold l_4_11
    rw [lt_n hlt, in_n hlt, brT, brT, g39 hlt, el i hlt]
    have e1 : (taskS a b n w i).number = i := rfl
    have e2 : (taskS a b n w i).worker = ((i % w : Nat) : Int) := by
      show (i : Int).tmod w = _
      rw [Int.tmod_eq_emod_of_nonneg (by omega)]
      omega
    have e3 : (taskS a b n w i).from_ = atS a b n i := rfl
    have e4 : (taskS a b n w i).to_ = atS a b n ((i + 1 : Nat) : Int) := by
      show atS a b n (IntKind.i64.wrap ((i : Int) + 1)) = _
      rw [wrap_id (by omega) (by omega)]
      rfl
    have hmod := Nat.mod_lt i (show w > 0 by omega)
    have c := has_step (w := w) (i := i) hw.1 hmod
    have next : s_4_16 w x2 x3 (tasksS a b n w) sh lo i has (taskS a b n w i).number (taskS a b n w i).worker (taskS a b n w i).from_ (taskS a b n w i).to_ fun y12 y13 y14 y15 y16 y17 y18 y19 => l_4_11 (m + 1) y12 y13 y14 y15 y16 y17 (IntKind.i64.wrap (y18 + 1)) y19 kr k0 := by
      unfold s_4_16
      rw [e2, e3, e4, show inb ((i % w : Nat) : Int) (↑8 : Int) = true from inbT (by omega) (by omega), brT, brT, ats i (by omega), ats (i + 1) (by omega)]
      show l_4_11 (m + 1) _ _ _ _ _ _ (IntKind.i64.wrap ((i : Int) + 1)) _ kr k0
      rw [succ_w hlt (by omega), Int.toNat_natCast, h4 _ hmod]
      have st := step_len (b - a).toNat n i hn.1
      have hbig : (b - a).toNat * (i + 1) / n ≤ 10000000 := by
        have : (b - a).toNat * (i + 1) ≤ 10000000 * n := Nat.mul_le_mul (by omega) (by omega)
        exact Nat.div_le_of_le_mul (by rw [Nat.mul_comm n]; exact this)
      have hc : hasS w i (i % w) ≤ i + 1 := by
        unfold hasS
        have := Nat.div_le_self i w
        split <;> omega
      generalize (b - a).toNat * (i + 1) / n = u at *
      generalize (b - a).toNat * i / n = v at *
      rw [wrap_id (z := a + (u : Int) - (a + (v : Int))) (by omega) (by omega), wrap_id (z := (hasS w i (i % w) : Int) + 1) (by omega) (by omega)]
      refine l4_11 ha hb hw hn hk m (i + 1) _ _ _ (by omega) ?_ ?_ (by rw [List.length_set]; exact h3) ?_
      · split <;> omega
      · split <;> omega
      · intro k hkw
        have s := has_step (w := w) (i := i) hw.1 hkw
        by_cases hki : k = i % w
        · rw [if_pos hki] at s
          rw [s, hki]
          simp [List.getD, show i % w < has.length by omega]
        · rw [if_neg hki] at s
          rw [s, Nat.add_zero, ← h4 k hkw]
          simp only [List.getD]
          rw [List.getElem?_set_ne (fun q => hki q.symm)]
    rw [show ((taskS a b n w i).number != (i : Int)) = false by rw [e1]; simp, brF, decide_eq_false (by rw [e2]; omega), brF, decide_eq_false (by rw [e2]; omega), brF, decide_eq_false (by omega), brF]
    refine br_i (fun c => ?_) fun _ => next
    have hi0 : 0 < i := by have := of_decide_eq_true c; omega
    have hlt' : i - 1 < (tasksS a b n w).length := by omega
    rw [pred_w hi0 hlt (by omega), in_n hlt', brT, g39 hlt', el _ hlt']
    have e5 : (taskS a b n w ((i - 1 : Nat) : Int)).to_ = atS a b n i := by
      show atS a b n (IntKind.i64.wrap (((i - 1 : Nat) : Int) + 1)) = _
      rw [wrap_id (by omega) (by omega)]
      congr 1
      omega
    rw [show ((taskS a b n w i).from_ != (taskS a b n w ((i - 1 : Nat) : Int)).to_) = false by rw [e3, e5]; simp, brF]
    exact next

theorem l4_23 {w n i : Nat} (hw : 1 ≤ w ∧ w ≤ 8) (hi : i < w) {has : List Int} (hl : has.length = 8) (hn : n ≤ 32) (hh : ∀ k, k < w → has.getD k 0 = hasS w n k) {x2 : Bool} {x4 x5 : Int} {k4 : Int → Bool → Bool → Int → Int → Int → List Int → Prop} (hk : k4 w x2 true x4 x5 i has) : ∀ (m j : Nat), j + m = w → l_4_23 (m + 1) w x2 true x4 x5 i j has k4
  | 0, j, hj => by
    unfold l_4_23
    rw [ge_n (by omega)]
    exact hk
  | m + 1, j, hj => by
    have hjw : j < w := by omega
    unfold l_4_23
    rw [lt_n hjw, show inb (i : Int) (↑8 : Int) = true from inbT (by omega) (by omega), show inb (j : Int) (↑8 : Int) = true from inbT (by omega) (by omega), brT, brT, brT, brT, Int.toNat_natCast, Int.toNat_natCast, hh i hi, hh j hjw, succ_w hjw (by omega)]
    have b := has_bal (w := w) (i := n) (k := i) (k' := j)
    have u : ∀ k, hasS w n k ≤ 33 := fun k => by
      unfold hasS
      have := Nat.div_le_self n w
      split <;> omega
    have u1 := u i
    have u2 := u j
    rw [wrap_id (by omega) (by omega), decide_eq_true b]
    exact l4_23 hw hi hl hn hh hk m (j + 1) (by omega)
theorem l4_20 {w n : Nat} (hw : 1 ≤ w ∧ w ≤ 8) {has : List Int} (hl : has.length = 8) (hn : n ≤ 32) (hh : ∀ k, k < w → has.getD k 0 = hasS w n k) {x2 : Bool} {x4 x5 : Int} {k2 : Bool → Bool → Int → Int → Prop} (hk : k2 x2 true x4 x5) : ∀ (m i : Nat), i + m = w → l_4_20 (m + 1) w x2 true x4 x5 i has k2
  | 0, i, hi => by
    unfold l_4_20
    rw [ge_n (by omega)]
    exact hk
  | m + 1, i, hi => by
    have hiw : i < w := by omega
    unfold l_4_20
    rw [lt_n hiw, brT]
    refine ⟨w + 1, l4_23 hw hiw hl hn hh ?_ w 0 (by omega)⟩
    rw [succ_w hiw (by omega)]
    exact l4_20 hw hl hn hh hk m (i + 1) (by omega)

theorem pureWorkersCover (x0 x1 x2 x3 : Int) (_ : fitI .i64 x0) (_ : fitI .i64 x1) (_ : fitI .i64 x2) (_ : fitI .i64 x3) : V4 x0 x1 x2 x3 (fun b => b = true) := by
  rw [V4_eq]
  unfold B4
  refine V8_spec (V10_spec ?_)
  unfold assignS
  rcases hb : badS x0 x1 x2 x3
  · rw [if_neg (by simp)]
    obtain ⟨a1, a2, b1, b2, w1, w2, n1, n2, n3⟩ := bad_not hb
    obtain ⟨n, rfl⟩ := Int.eq_ofNat_of_zero_le (show 0 ≤ x2 by omega)
    obtain ⟨w, rfl⟩ := Int.eq_ofNat_of_zero_le (show 0 ≤ x3 by omega)
    have ln : (tasksS x0 x1 n w).length = n := by simp [tasksS]
    have el : ∀ j, (hj : j < (tasksS x0 x1 n w).length) → (tasksS x0 x1 n w)[j] = taskS x0 x1 n w j := fun j hj => by simp [tasksS]
    have hn1 : 1 ≤ n := by omega
    have ats : ∀ j : Nat, (j : Int) ≤ n → atS x0 x1 n j = x0 + (((x1 - x0).toNat * j / n : Nat) : Int) := fun j hj => by
      have := at_eq ⟨a1, a2⟩ ⟨b1, b2⟩ ⟨n1, n2, n3⟩ j hj
      rwa [Int.toNat_natCast] at this
    show br ((0 : Int) != 0) _ _
    rw [bne_self_eq_false, brF]
    show br (((tasksS x0 x1 n w).length : Int) != n) _ _
    rw [ln, bne_self_eq_false, brF, decide_eq_false (by omega), brF, show inb 0 (n : Int) = true from inbT (by omega) (by omega), brT]
    have z0 : (tasksS x0 x1 n w).getD 0 (env.d 39) = (tasksS x0 x1 n w)[0]'(by omega) := by
      have e := g39 (l := tasksS x0 x1 n w) (i := 0) (by omega)
      rwa [show ((0 : Nat) : Int).toNat = 0 from rfl] at e
    have f0 : (taskS x0 x1 n w ((0 : Nat) : Int)).from_ = x0 := by
      show atS x0 x1 n ((0 : Nat) : Int) = _
      rw [ats 0 (by omega)]
      simp
    have fn : (taskS x0 x1 n w ((n - 1 : Nat) : Int)).to_ = x1 := by
      show atS x0 x1 n (IntKind.i64.wrap (((n - 1 : Nat) : Int) + 1)) = _
      rw [wrap_id (by omega) (by omega), show ((n - 1 : Nat) : Int) + 1 = (n : Int) by omega, ats n (by omega), Nat.mul_div_cancel _ (by omega)]
      omega
    rw [z0, el 0 (by omega), f0, bne_self_eq_false, brF, wrap_id (by omega) (by omega), show (n : Int) - 1 = ((n - 1 : Nat) : Int) by omega, in_n (show n - 1 < n by omega), brT, g39 (show n - 1 < (tasksS x0 x1 n w).length by omega), el _ (by omega), fn, bne_self_eq_false, brF]
    unfold s_4_7
    have q1 : 1 ≤ (x1 - x0).toNat / n := (Nat.le_div_iff_mul_le (by omega)).2 (by omega)
    have q2 : (x1 - x0).toNat / n ≤ (x1 - x0).toNat := Nat.div_le_self _ _
    rw [wrap_id (by omega) (by omega)]
    refine ⟨n + 1, l4_11 ⟨a1, a2⟩ ⟨b1, b2⟩ ⟨by omega, by omega⟩ ⟨hn1, by omega, n3⟩ (fun sh lo has h1 h2 h3 h4 => ?_) n 0 _ _ _ (by omega) ⟨by omega, by omega⟩ ⟨by omega, by omega⟩ rfl fun k hk => ?_⟩
    · refine ⟨w + 1, l4_20 ⟨by omega, by omega⟩ h3 (by omega) h4 ?_ w 0 (by omega)⟩
      rw [brT, decide_eq_true (by omega), brT, wrap_id (by omega) (by omega)]
      exact decide_eq_true (by omega)
    · have : k < 8 := by omega
      unfold hasS
      rw [Nat.zero_div, Nat.zero_mod]
      rcases k with _ | _ | _ | _ | _ | _ | _ | _ | k
      all_goals first | rfl | omega
  · rw [if_pos rfl]
    rfl

end Go.Vg.Ytkaodeodiakldaa
