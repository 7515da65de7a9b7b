/-
  The laws on plans, in plain Lean: choices, more (PlotChoices, PlotMore). Own work; no condition.
-/
import Derived.Test.YthmmgoebdcegmaaGreatDoorSb
import Derived.Test.YthmmgoebdcegmaaGreatDoorOpen
namespace Go.Vg.YthmmgoebdcegmaaGreatDoor
open Go.Vg Go.Proofs

/-! ### The head -/
abbrev w0 : WorldD := WorldD.mk 0 [] [] [] [] (Agenda.mk [] 0) 0 0 0 0
theorem V44_nil {x : WorldD} {K : Bool → Prop} (h : x.links = []) (hK : K false) : V44 x K := by
  rw [V44_eq]; unfold B44
  rw [h]
  refine .inl ?_
  show V44v x K
  rw [V44v_eq]; unfold B44v
  exact br_of (fun _ => br_of (fun _ => hK) (fun _ => hK)) (fun _ => hK)
theorem V23_spec {b : Budget} {p : List Int} {K : WorldD × Int → Prop} (h6 : b.left.length = 6) (h : K (w0, 1)) : V23 w0 b p K := by
  rw [V23_eq]; unfold B23
  refine .inl ?_
  show V23v w0 b p K
  rw [V23v_eq]; unfold B23v
  refine V12_spec h6 ?_
  exact br_of (fun _ => h) (fun _ => V44_nil rfl (br_true rfl h))
abbrev b0 : Budget := Budget.mk 2 100 [0, 0, 0, 0, 1, 0] [Change.mk 4 0 3, Change.mk 1 0 500]
theorem V9_spec {K : Bool → Prop} (h : K true) : V9 K := by
  rw [V9_eq]; unfold B9
  refine V11_spec rfl ?_
  rw [show choicesOf b0 [] = [-1, 0] by kernel_rfl]
  refine V22_spec (by simp) (br_true (by decide) ?_)
  refine V11_spec rfl ?_
  rw [show choicesOf b0 [-1] = [-1, 0] by kernel_rfl]
  refine V22_spec (by simp) (br_true (by decide) ?_)
  refine V11_spec rfl ?_
  rw [show choicesOf b0 [0] = [-1] by kernel_rfl]
  refine V22_spec (by simp) ?_
  refine V23_spec rfl ?_
  refine br_true (by decide) ?_
  refine V11_spec rfl ?_
  rw [show choicesOf b0 [0, -1] = [] by kernel_rfl]
  refine br_true (by decide) ?_
  refine V11_spec rfl ?_
  rw [show choicesOf b0 [0, 0] = [] by kernel_rfl]
  refine br_true (by decide) ?_
  refine V12_spec rfl ?_
  rw [show fitsB b0 [0, -1] = true by kernel_rfl]
  refine br_true rfl ?_
  refine V12_spec rfl ?_
  rw [show fitsB b0 [0, 0] = false by kernel_rfl]
  refine br_true rfl ?_
  refine V13_spec rfl ?_
  rw [show validB b0 = true by kernel_rfl]
  refine br_true rfl ?_
  refine V13_spec rfl ?_
  rw [show validB (Budget.mk 0 0 [0, 0, 0, 0, 0, 0] []) = false by kernel_rfl]
  exact br_true rfl h

/-! ### Choices -/
theorem spend_append {ch : List Change} {q : List Int} : ∀ (p l : List Int), spend ch l (p ++ q) = (spend ch l p).bind (fun o => spend ch o q)
  | [], l => rfl
  | n :: p, l => by
    simp only [List.cons_append, spend]
    split
    · rfl
    · split
      · exact spend_append p l
      · split
        · rfl
        · exact spend_append p _

theorem mem_pick {rest : List Int} {x : Int} : ∀ (r : List Change) (i : Nat), x ∈ pick rest r i ↔ ∃ t : Nat, ∃ h : t < r.length, x = ((i + t : Nat) : Int) ∧ rest.getD r[t].kind.toNat 0 > 0
  | [], i => by simp [pick]
  | c :: r, i => by
    have ih := mem_pick (rest := rest) (x := x) r (i + 1)
    constructor
    · intro h
      have h : (x = (i : Int) ∧ rest.getD c.kind.toNat 0 > 0) ∨ x ∈ pick rest r (i + 1) := by
        simp only [pick] at h
        split at h
        · rename_i hc
          rcases List.mem_cons.1 h with h | h
          · exact .inl ⟨h, hc⟩
          · exact .inr h
        · exact .inr h
      rcases h with ⟨h1, h2⟩ | h
      · exact ⟨0, by simp, by simpa using h1, by simpa using h2⟩
      · obtain ⟨t, ht, h1, h2⟩ := ih.1 h
        exact ⟨t + 1, by simpa using ht, by rw [h1]; congr 1; omega, by simpa using h2⟩
    · rintro ⟨t, ht, h1, h2⟩
      cases t with
      | zero =>
        have h2 : rest.getD c.kind.toNat 0 > 0 := by simpa using h2
        simp only [pick, h2, if_true]
        exact List.mem_cons.2 (.inl (by simpa using h1))
      | succ t =>
        have : x ∈ pick rest r (i + 1) := ih.2 ⟨t, by simpa using ht, by rw [h1]; congr 1; omega, by simpa using h2⟩
        simp only [pick]
        split
        · exact List.mem_cons.2 (.inr this)
        · exact this
theorem pick_ge {rest : List Int} {x : Int} {r : List Change} {i : Nat} (h : x ∈ pick rest r i) : (i : Int) ≤ x := by
  obtain ⟨t, _, h1, _⟩ := (mem_pick r i).1 h
  omega
theorem pick_sorted {rest : List Int} : ∀ (r : List Change) (i : Nat), (pick rest r i).Pairwise (· < ·)
  | [], _ => by simp [pick]
  | c :: r, i => by
    have ih := pick_sorted (rest := rest) r (i + 1)
    simp only [pick]
    split
    · refine List.pairwise_cons.2 ⟨fun x hx => ?_, ih⟩
      have := pick_ge hx
      omega
    · exact ih

theorem fits_snoc {b : Budget} {p : List Int} (hf : fitsB b p = true) (hlt : (p.length : Int) < b.periods) (n : Int) : fitsB b (p ++ [n]) = decide (n ∈ choicesOf b p) := by
  obtain ⟨hv, _, hs⟩ := left_parts hf
  have hc : choicesOf b p = -1 :: pick (leftOf b p).1 b.choices 0 := by
    have : (leftOf b p).2 = true := hf
    simp [choicesOf, this, hlt]
  have h1 : ((p ++ [n]).length : Int) ≤ b.periods := by simp; omega
  have hsp : spend b.choices b.left (p ++ [n]) = spend b.choices (leftOf b p).1 [n] := by rw [spend_append, hs]; rfl
  have hfi : fitsB b (p ++ [n]) = (spend b.choices (leftOf b p).1 [n]).isSome := by
    unfold fitsB
    rw [leftOf, if_pos ⟨hv, h1⟩, hsp]
    cases spend b.choices (leftOf b p).1 [n] <;> rfl
  rw [hfi, hc]
  generalize (leftOf b p).1 = o
  by_cases ha : n < -1 ∨ n ≥ b.choices.length
  · have e : (spend b.choices o [n]).isSome = false := by simp [spend, ha]
    rw [e]
    symm
    rw [decide_eq_false_iff_not]
    intro hm
    rcases List.mem_cons.1 hm with h | h
    · omega
    · obtain ⟨t, ht, h1, _⟩ := (mem_pick _ _).1 h
      omega
  by_cases hn : n < 0
  · have e : (spend b.choices o [n]).isSome = true := by simp [spend, ha, hn]
    rw [e]
    symm
    rw [decide_eq_true_eq]
    exact List.mem_cons.2 (.inl (by omega))
  · have hl : n.toNat < b.choices.length := by omega
    have hk : kindAt b.choices n = (b.choices[n.toNat]).kind.toNat := by
      unfold kindAt
      rw [List.getD_eq_getElem?_getD, List.getElem?_eq_getElem hl]; rfl
    have e : (spend b.choices o [n]).isSome = decide (o.getD (b.choices[n.toNat]).kind.toNat 0 > 0) := by
      simp only [spend, ha, hn, if_false, hk]
      split
      · rename_i h; symm; rw [Option.isSome_none, decide_eq_false_iff_not]; omega
      · rename_i h; symm; rw [Option.isSome_some, decide_eq_true_eq]; omega
    rw [e]
    congr 1
    apply propext
    constructor
    · intro h
      exact List.mem_cons.2 (.inr ((mem_pick _ _).2 ⟨n.toNat, hl, by omega, h⟩))
    · intro hm
      rcases List.mem_cons.1 hm with h | h
      · omega
      · obtain ⟨t, ht, h1, h2⟩ := (mem_pick _ _).1 h
        have : t = n.toNat := by omega
        subst this
        exact h2

theorem getD_lt {α : Type} {l : List α} {i : Nat} {d : α} (h : i < l.length) : l.getD i d = l[i] := by simp [h]
theorem key3 (x y : Int) : keyEq env 3 x y = (x == y) := by kernel_rfl
theorem mGet_mPut {j k : Int} {z v : Bool} : ∀ m : List (Int × Bool), mGet (keyEq env 3 j) z (mPut (keyEq env 3 k) k v m) = if j = k then v else mGet (keyEq env 3 j) z m
  | [] => by
    simp only [mPut, mGet, key3]
    by_cases h : j = k
    · simp [h]
    · have : (j == k) = false := beq_eq_false_iff_ne.2 h
      simp [h, this]
  | q :: r => by
    have ih := mGet_mPut (j := j) (k := k) (z := z) (v := v) r
    simp only [mPut, mGet, key3] at ih ⊢
    by_cases h : k = q.1
    · have e : (k == q.1) = true := beq_iff_eq.2 h
      simp only [e, mGet, key3]
      by_cases h2 : j = k
      · simp [h2]
      · have : (j == k) = false := beq_eq_false_iff_ne.2 h2
        have e2 : (j == q.1) = false := beq_eq_false_iff_ne.2 (fun e => h2 (by rw [e, h]))
        simp [h2, this, e2]
    · have e : (k == q.1) = false := beq_eq_false_iff_ne.2 h
      simp only [e, mGet, key3]
      by_cases h2 : j = q.1
      · have e2 : (j == q.1) = true := beq_iff_eq.2 h2
        have : ¬ j = k := fun e => h (by rw [← e, h2])
        simp [e2, this]
      · have e2 : (j == q.1) = false := beq_eq_false_iff_ne.2 h2
        simp only [e2]
        exact ih

theorem l39_spec {p : List Int} {b2 b3 : Bool} {L : List Int} {x8 x9 : Int} {x10 : List Int} {x11 : List Change} {kr : Bool → Prop} {k0 : List Int → Bool → Bool → List Int → Int → Int → List Int → List Change → List (Int × Bool) → Prop} (hL : L.length ≤ 100000) (hs : L.Pairwise (· < ·)) (hz : ∀ x r, L = x :: r → x = -1)
    (hk : ∀ m, (∀ j : Int, mGet (keyEq env 3 j) false m = decide (j ∈ L)) → k0 p b2 b3 L x8 x9 x10 x11 m) :
    ∀ (r : List Int) (i : Nat) (m : List (Int × Bool)), L.drop i = r → (∀ j : Int, mGet (keyEq env 3 j) false m = decide (j ∈ L.take i)) → ∃ k, l_3_9 k p b2 b3 L L L.length i x8 x9 x10 x11 m kr k0 := by
  intro r
  induction r with
  | nil =>
    intro i m hdr hm
    have : L.length ≤ i := by simpa using hdr
    rw [List.take_of_length_le this] at hm
    exact ⟨1, br_false (by simp; omega) (hk m hm)⟩
  | cons x r ih =>
    intro i m hdr hm
    have hlt := lt_drop hdr
    have hg : L.getD (i : Int).toNat (env.d 3) = x := getD_drop (by simpa using hdr)
    have hwi : IntKind.i64.wrap ((i : Int) + 1) = ((i + 1 : Nat) : Int) := by rw [wrapi (by omega) (by omega)]; rfl
    have hin : inb (i : Int) (L.length : Int) = true := inb_of (by omega) (by omega)
    obtain ⟨k, hk1⟩ := ih (i + 1) (mPut (keyEq env 3 x) x true m) (drop_next hdr) (fun j => by
      refine (mGet_mPut (j := j) (k := x) m).trans ?_
      rw [take_next hdr]
      by_cases h : j = x
      · rw [if_pos h]; symm; simp [h]
      · rw [if_neg h]; exact (hm j).trans (by simp [h]))
    have tail : l_3_9 k p b2 b3 L L L.length (IntKind.i64.wrap ((i : Int) + 1)) x8 x9 x10 x11 (mPut (keyEq env 3 (L.getD (i : Int).toNat (env.d 3))) (L.getD (i : Int).toNat (env.d 3)) true m) kr k0 := by
      rw [hg, hwi]; exact hk1
    cases i with
    | zero =>
      have hx := hz x r (by simpa using hdr)
      refine ⟨k + 1, br_true (by simpa using hlt) (br_true hin (br_true rfl (br_false ?_ (br_false rfl tail))))⟩
      rw [hg, hx]; rfl
    | succ i =>
      have hwm : IntKind.i64.wrap (((i + 1 : Nat) : Int) - 1) = (i : Int) := by rw [wrapi (by omega) (by omega)]; omega
      have hp : L.getD (i : Int).toNat (env.d 3) < x := by
        have h1 : i < L.length := by omega
        have h2 : L.getD (i : Int).toNat (env.d 3) = L[i] := getD_lt h1
        have h3 : x = L[i + 1] := hg.symm.trans (getD_lt hlt)
        rw [h2, h3]
        exact List.pairwise_iff_getElem.1 hs i (i + 1) _ _ (by omega)
      have big : br (decide (((i + 1 : Nat) : Int) > 0)) (br (inb (IntKind.i64.wrap (((i + 1 : Nat) : Int) - 1)) (↑L.length : Int)) (br (decide (L.getD ((i + 1 : Nat) : Int).toNat (env.d 3) ≤ L.getD (IntKind.i64.wrap (((i + 1 : Nat) : Int) - 1)).toNat (env.d 3))) (kr false) (l_3_9 k p b2 b3 L L L.length (IntKind.i64.wrap (((i + 1 : Nat) : Int) + 1)) x8 x9 x10 x11 (mPut (keyEq env 3 (L.getD ((i + 1 : Nat) : Int).toNat (env.d 3))) (L.getD ((i + 1 : Nat) : Int).toNat (env.d 3)) true m) kr k0)) False) (l_3_9 k p b2 b3 L L L.length (IntKind.i64.wrap (((i + 1 : Nat) : Int) + 1)) x8 x9 x10 x11 (mPut (keyEq env 3 (L.getD ((i + 1 : Nat) : Int).toNat (env.d 3))) (L.getD ((i + 1 : Nat) : Int).toNat (env.d 3)) true m) kr k0) := by
        refine br_true (by simp <;> omega) (br_true ?_ (br_false ?_ tail))
        · rw [hwm]; exact inb_of (by omega) (by omega)
        · rw [hwm, hg, decide_eq_false_iff_not]; omega
      have hne : (((i + 1 : Nat) : Int) == 0) = false := by rw [beq_eq_false_iff_ne]; omega
      exact ⟨k + 1, br_true (by simp; omega) (br_true hin (br_false hne big))⟩

theorem l316_spec {p : List Int} {b2 b3 : Bool} {L : List Int} {B : Budget} {m : List (Int × Bool)} {kr : Bool → Prop} {k2 : Bool → Bool → List Int → Prop} (h6 : B.left.length = 6) (hp : p.length ≤ 1000) (hc : B.choices.length ≤ 1000) (hm : ∀ n : Int, fitsB B (p ++ [n]) = mGet (keyEq env 3 n) false m) (h : k2 b2 b3 L) :
    ∀ (d : Nat) (n : Int), n + d = B.choices.length + 1 → -2 ≤ n → ∃ k, l_3_16 k p b2 b3 L n B.periods B.length B.left B.choices m kr k2 := by
  intro d
  induction d with
  | zero =>
    intro n hn _
    exact ⟨1, br_false (by simp; omega) h⟩
  | succ d ih =>
    intro n hn h2
    obtain ⟨k, hk⟩ := ih (n + 1) (by omega) (by omega)
    have hwi : IntKind.i64.wrap (n + 1) = n + 1 := wrapi (by omega) (by omega)
    refine ⟨k + 1, br_true (by simp; omega) (br_true (room3 (by simp; omega)) (br_true (room3 (by simp; omega)) ⟨fitsB B (p ++ [n]), V12_spec h6 rfl, br_false ?_ ?_⟩))⟩
    · rw [hm n]; simp
    · rw [hwi]; exact hk

theorem purePlotChoices (b : Budget) (p : List Int) (hb : fitBudget b) (_ : (∀ z0 ∈ p, fitI .i64 z0) ∧ List.length p ≤ 9223372036854775807) : V3 b p (fun r => r = true) := by
  have h6 : b.left.length = 6 := hb.left.1
  rw [V3_eq]; unfold B3
  refine V9_spec ?_
  refine V10_spec (fun x hx => br_of (fun _ => rfl) (fun e => ?_))
  have e : x = true := by simpa using e
  obtain ⟨hp, hc⟩ := hx e
  refine V11_spec h6 (V12_spec h6 (br_of (fun e => ?_) (fun e => ?_)))
  · have e : (leftOf b p).2 = false := by simpa [fitsB] using e
    have hn : choicesOf b p = [] := by simp [choicesOf, e]
    rw [hn]
    exact br_true rfl (br_true rfl rfl)
  · have e : fitsB b p = true := by simpa using e
    refine br_of (fun e2 => ?_) (fun e2 => ?_)
    · have e2 : ¬ (p.length : Int) < b.periods := by simp at e2; omega
      have hn : choicesOf b p = [] := by simp [choicesOf, e2]
      rw [hn]
      exact br_true rfl rfl
    · have e2 : (p.length : Int) < b.periods := by simp at e2; omega
      have hn : choicesOf b p = -1 :: pick (leftOf b p).1 b.choices 0 := by
        have : (leftOf b p).2 = true := e
        simp [choicesOf, this, e2]
      have hlen : (choicesOf b p).length ≤ 100 := by
        rw [hn]
        have := pick_len (rest := (leftOf b p).1) b.choices 0
        simp; omega
      refine l39_spec (by omega) ?_ (fun x r hx => by rw [hn] at hx; cases hx; rfl) (fun m hm => ?_) (choicesOf b p) 0 [] rfl (fun j => by simp [mGet])
      · rw [hn]
        refine List.pairwise_cons.2 ⟨fun x hx => ?_, pick_sorted _ _⟩
        have := pick_ge hx
        omega
      · refine l316_spec (B := b) h6 (by omega) (by omega) (fun n => by rw [fits_snoc e e2, hm n]) ?_ (b.choices.length + 3) (-2) (by omega) (by omega)
        refine br_true rfl ?_
        show decide (((choicesOf b p).length : Int) > 0) = true
        rw [hn]; simp
end Go.Vg.YthmmgoebdcegmaaGreatDoor
