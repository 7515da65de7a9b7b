/-
  What the walked functions of the budgets and plans come to (1): validity, what is left, what may be chosen, what is used. Own work; no condition.
-/
import Derived.Test.YthmmgoebdcegmaaGreatDoorTc
namespace Go.Vg.YthmmgoebdcegmaaGreatDoor
open Go.Vg Go.Proofs

theorem wrapi {n : Int} (h1 : -9223372036854775808 ≤ n) (h2 : n ≤ 9223372036854775807) : IntKind.i64.wrap n = n := by
  simp only [IntKind.wrap, IntKind.signed, IntKind.bits, show (2 : Int) ^ 64 = 18446744073709551616 from rfl, show (2 : Int) ^ (64 - 1) = 9223372036854775808 from rfl, Bool.true_and, decide_eq_true_eq]
  split <;> omega
theorem inb_of {i n : Int} (h1 : 0 ≤ i) (h2 : i < n) : inb i n = true := by simp [inb, h1, h2]
theorem br_of {b : Bool} {A B : Prop} (h1 : b = true → A) (h2 : b = false → B) : br b A B := by cases b <;> simp_all [br]
theorem br_true {b : Bool} {A B : Prop} (hb : b = true) (h : A) : br b A B := by rw [hb]; exact h
theorem br_false {b : Bool} {A B : Prop} (hb : b = false) (h : B) : br b A B := by rw [hb]; exact h
theorem room3 {n : Nat} (h : n ≤ 1000000) : roomB n (bytesB env 3) = true := by
  have e : bytesB env 3 = 8 := by kernel_rfl
  have h1 : decide (n * 8 ≤ 140737488355328) = true := decide_eq_true (by omega)
  have h2 : decide (n ≤ 140737488355328) = true := decide_eq_true (by omega)
  unfold roomB
  rw [e, h1, h2]
  rfl
theorem getD_drop {α : Type} {l : List α} {i : Nat} {x : α} {r : List α} {d : α} (h : l.drop i = x :: r) : l.getD i d = x := by
  have := congrArg (fun l => l[0]?) h
  simp at this
  simp [this]
theorem lt_drop {α : Type} {l : List α} {i : Nat} {x : α} {r : List α} (h : l.drop i = x :: r) : i < l.length := by
  rcases Nat.lt_or_ge i l.length with h' | h'
  · exact h'
  · rw [List.drop_eq_nil_of_le h'] at h; cases h
theorem drop_next {α : Type} {l : List α} {i : Nat} {x : α} {r : List α} (h : l.drop i = x :: r) : l.drop (i + 1) = r := by
  rw [← List.tail_drop, h]; rfl
theorem take_next {α : Type} {l : List α} {i : Nat} {x : α} {r : List α} (h : l.drop i = x :: r) : l.take (i + 1) = l.take i ++ [x] := by
  rw [List.take_add_one]
  have := congrArg (fun l => l[0]?) h
  simp at this
  simp [this]
theorem mem_drop {α : Type} {l : List α} {i : Nat} {x : α} {r : List α} (h : l.drop i = x :: r) : x ∈ l := by
  have : x ∈ l.drop i := by rw [h]; simp
  exact List.mem_of_mem_drop this

/-! ### Validity -/
def okN (n : Int) : Bool := decide (0 ≤ n) && decide (n ≤ 6)
def okC (c : Change) : Bool := decide (1 ≤ c.kind) && decide (c.kind < 6)
def validB (x : Budget) : Bool := decide (0 ≤ x.periods) && decide (x.periods ≤ 6) && decide (1 ≤ x.length) && decide (x.length ≤ 1000000) && (x.left.getD 0 0 == 0) && decide (x.choices.length ≤ 8) && x.left.all okN && x.choices.all okC

theorem l47_spec {x1 : Int} {x4 x5 : Bool} {x6 x7 : Int} {x8 : List Int} {x9 : List Change} {kr k0 : Int → Bool → Bool → Int → Int → List Int → List Change → Prop} (h8 : x8.length = 6) (hk : ∀ i : Nat, x8.all okN = false → kr i x4 x5 x6 x7 x8 x9) (h0 : x8.all okN = true → k0 x1 x4 x5 x6 x7 x8 x9) : ∀ (r : List Int) (i : Nat), x8.drop i = r → (x8.take i).all okN = true → ∃ k, l_13x47_2 k x1 6 i x4 x5 x6 x7 x8 x9 kr k0 := by
  intro r
  induction r with
  | nil =>
    intro i hdr ha
    have : x8.length ≤ i := by simpa using hdr
    rw [List.take_of_length_le this] at ha
    exact ⟨1, br_false (by simp; omega) (h0 ha)⟩
  | cons x r ih =>
    intro i hdr ha
    have hlt := lt_drop hdr
    have hg : x8.getD (i : Int).toNat 0 = x := getD_drop (by simpa using hdr)
    have hwi : IntKind.i64.wrap ((i : Int) + 1) = ((i + 1 : Nat) : Int) := by rw [wrapi (by omega) (by omega)]; rfl
    have hin : inb (i : Int) 6 = true := inb_of (by omega) (by omega)
    cases hx : okN x with
    | true =>
      obtain ⟨k, hk1⟩ := ih (i + 1) (drop_next hdr) (by rw [take_next hdr]; simp only [List.all_append, ha, List.all_cons, hx, List.all_nil, Bool.and_true])
      simp only [okN, Bool.and_eq_true, decide_eq_true_eq] at hx
      refine ⟨k + 1, br_true (by simp; omega) (br_true hin (br_false (by rw [hg]; simp; omega) (br_false (by rw [hg]; simp; omega) ?_)))⟩
      rw [hwi]; exact hk1
    | false =>
      have hb : x8.all okN = false := by
        rw [List.all_eq_false]
        exact ⟨x, mem_drop hdr, by simp [hx]⟩
      refine ⟨1, br_true (by simp; omega) (br_true hin (br_of (fun _ => hk i hb) (fun e => br_true ?_ (hk i hb))))⟩
      rw [hg] at e ⊢
      simp only [okN, Bool.and_eq_false_iff, decide_eq_false_iff_not] at hx
      simp only [decide_eq_false_iff_not] at e
      simp only [decide_eq_true_eq]; omega

theorem l48_spec {x1 : List Change} (h8 : x1.length ≤ 1000000) {x2 : Int} {x5 : List Change} {x6 : Bool} {x7 : List Change} {x8 x9 x10 x11 : Bool} {x12 : List Change} {x13 x14 : Int} {x15 : List Int} {x16 : List Change}
    {kr k0 : Int → List Change → Bool → List Change → Bool → Bool → Bool → Bool → List Change → Int → Int → List Int → List Change → Prop}
    (hk : ∀ i : Nat, x1.all okC = false → kr i x5 x6 x7 x8 x9 x10 x11 x12 x13 x14 x15 x16) (h0 : x1.all okC = true → k0 x2 x5 x6 x7 x8 x9 x10 x11 x12 x13 x14 x15 x16) :
    ∀ (r : List Change) (i : Nat), x1.drop i = r → (x1.take i).all okC = true → ∃ k, l_13x48_2 k x1 x2 x1.length i x5 x6 x7 x8 x9 x10 x11 x12 x13 x14 x15 x16 kr k0 := by
  intro r
  induction r with
  | nil =>
    intro i hdr ha
    have : x1.length ≤ i := by simpa using hdr
    rw [List.take_of_length_le this] at ha
    exact ⟨1, br_false (by simp; omega) (h0 ha)⟩
  | cons x r ih =>
    intro i hdr ha
    have hlt := lt_drop hdr
    have hg : x1.getD (i : Int).toNat (env.d 60) = x := getD_drop (by simpa using hdr)
    have hwi : IntKind.i64.wrap ((i : Int) + 1) = ((i + 1 : Nat) : Int) := by rw [wrapi (by omega) (by omega)]; rfl
    have hin : inb (i : Int) (x1.length : Int) = true := inb_of (by omega) (by omega)
    cases hx : okC x with
    | true =>
      obtain ⟨k, hk1⟩ := ih (i + 1) (drop_next hdr) (by rw [take_next hdr]; simp only [List.all_append, ha, List.all_cons, hx, List.all_nil, Bool.and_true])
      simp only [okC, Bool.and_eq_true, decide_eq_true_eq] at hx
      refine ⟨k + 1, br_true (by simp; omega) (br_true hin (br_false (by rw [hg]; simp; omega) (br_false (by rw [hg]; simp; omega) ?_)))⟩
      rw [hwi]; exact hk1
    | false =>
      have hb : x1.all okC = false := by
        rw [List.all_eq_false]
        exact ⟨x, mem_drop hdr, by simp [hx]⟩
      refine ⟨1, br_true (by simp; omega) (br_true hin (br_of (fun _ => hk i hb) (fun e => br_true ?_ (hk i hb))))⟩
      rw [hg] at e ⊢
      simp only [okC, Bool.and_eq_false_iff, decide_eq_false_iff_not] at hx
      simp only [decide_eq_false_iff_not] at e
      simp only [decide_eq_true_eq]; omega

theorem s13_spec {pe le : Int} {l : List Int} {ch : List Change} {K : Bool → Prop} (h6 : l.length = 6) (h8 : ch.length ≤ 8) (h : K (l.all okN && ch.all okC)) : s_13_3 false pe le l ch K := by
  refine l47_spec h6 (fun i hb => ?_) (fun ha => ?_) l 0 rfl rfl
  · rw [hb] at h
    exact br_false (by simp) h
  · rw [ha] at h
    refine l48_spec (by omega) (fun i hb => ?_) (fun ha2 => ?_) ch 0 rfl rfl
    · rw [hb] at h
      refine br_true rfl ?_
      have e : (!decide ((i : Int) ≥ 0)) = false := by simp
      rw [e]; exact h
    · rw [ha2] at h
      exact br_true rfl h

theorem V13_spec {x : Budget} {K : Bool → Prop} (h6 : x.left.length = 6) (h : K (validB x)) : V13 x K := by
  rw [V13_eq]; unfold B13
  refine br_of (fun e => ?_) (fun e1 => br_of (fun e => ?_) (fun e2 => br_of (fun e => ?_) (fun e3 => br_of (fun e => ?_) (fun e4 => br_of (fun e => ?_) (fun e5 => br_of (fun e => ?_) (fun e6 => ?_))))))
  · have : validB x = false := by simp only [decide_eq_true_eq] at e; have : decide (0 ≤ x.periods) = false := decide_eq_false (by omega); simp [validB, this]
    rwa [this] at h
  · have : validB x = false := by simp only [decide_eq_true_eq] at e; have : decide (x.periods ≤ 6) = false := decide_eq_false (by omega); simp [validB, this]
    rwa [this] at h
  · have : validB x = false := by simp only [decide_eq_true_eq] at e; have : decide (1 ≤ x.length) = false := decide_eq_false (by omega); simp [validB, this]
    rwa [this] at h
  · have : validB x = false := by simp only [decide_eq_true_eq] at e; have : decide (x.length ≤ 1000000) = false := decide_eq_false (by omega); simp [validB, this]
    rwa [this] at h
  · have : validB x = false := by
      have e : (x.left.getD 0 0 == 0) = false := by simpa [bne] using e
      simp only [validB, e, Bool.and_false, Bool.false_and]
    rwa [this] at h
  · have : validB x = false := by simp only [decide_eq_true_eq] at e; have : decide (x.choices.length ≤ 8) = false := decide_eq_false (by omega); simp [validB, this]
    rwa [this] at h
  · simp only [decide_eq_false_iff_not] at e1 e2 e3 e4 e6
    refine s13_spec h6 (by omega) ?_
    have e5 : (x.left.getD 0 0 == 0) = true := by simpa [bne] using e5
    have : validB x = (x.left.all okN && x.choices.all okC) := by
      have a1 : decide (0 ≤ x.periods) = true := decide_eq_true (by omega)
      have a2 : decide (x.periods ≤ 6) = true := decide_eq_true (by omega)
      have a3 : decide (1 ≤ x.length) = true := decide_eq_true (by omega)
      have a4 : decide (x.length ≤ 1000000) = true := decide_eq_true (by omega)
      have a6 : decide (x.choices.length ≤ 8) = true := decide_eq_true (by omega)
      simp only [validB, a1, a2, a3, a4, a6, e5, Bool.true_and]
    rwa [this] at h
end Go.Vg.YthmmgoebdcegmaaGreatDoor
