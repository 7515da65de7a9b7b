/-
  What the walked functions of chapter 30 come to (2): the reference, comparison, what was played. Own work; no condition.
-/
import Derived.Test.YtgekegoflaichaaUa
import Derived.Test.YtgekegoflaichaaTc
namespace Go.Vg.Ytgekegoflaichaa
open Go.Vg Go.Proofs

theorem getD_some {α : Type} {l : List α} {i : Nat} {d x : α} (h : l[i]? = some x) : l.getD i d = x := by simp [h]

theorem V59_spec {n : Int} {K : Bool → Prop} (h : K (inS n 0 1000000000)) : V59 n K := by
  rw [V59_eq]; unfold B59
  unfold inS at h
  refine br_of (fun h1 => ?_) (fun h1 => ?_)
  · have : decide (0 ≤ n) = true := by simpa using h1
    rw [this] at h; exact h
  · have : decide (0 ≤ n) = false := by simpa using h1
    rw [this] at h; exact h
theorem V29_spec {n : Int} {K : Bool → Prop} (h : K (inS n 0 10000000)) : V29 n K := by
  rw [V29_eq]; unfold B29
  unfold inS at h
  refine br_of (fun h1 => ?_) (fun h1 => ?_)
  · have : decide (0 ≤ n) = true := by simpa using h1
    rw [this] at h; exact h
  · have : decide (0 ≤ n) = false := by simpa using h1
    rw [this] at h; exact h
theorem V70_spec {n : Int} {K : Bool → Prop} (h : K (inS n 1 1000)) : V70 n K := by
  rw [V70_eq]; unfold B70
  unfold inS at h
  refine br_of (fun h1 => ?_) (fun h1 => ?_)
  · have : decide (1 ≤ n) = true := by simpa using h1
    rw [this] at h; exact h
  · have : decide (1 ≤ n) = false := by simpa using h1
    rw [this] at h; exact h
theorem V26_spec {p : Packet} {K : Bool → Prop} (h : K (isPacketS p)) : V26 p K := by
  rw [V26_eq]; unfold B26
  have bad : isPacketS p = false → K false := fun e => by rw [e] at h; exact h
  have out : ∀ {q : Prop}, ¬ q → (isPacketS p = true → q) → K false := fun hq hi => bad (by
    cases e : isPacketS p with
    | false => rfl
    | true => exact absurd (hi e) hq)
  have all : isPacketS p = true → (0 ≤ p.flow ∧ p.flow ≤ 7) ∧ (0 ≤ p.sub ∧ p.sub ≤ 3) ∧ (0 ≤ p.number ∧ p.number ≤ 1000000000) ∧ (0 ≤ p.data ∧ p.data ≤ 1000000000) ∧ (1 ≤ p.size ∧ p.size ≤ 10000) ∧ (0 ≤ p.sent ∧ p.sent ≤ 10000000) := by
    intro e
    simp only [isPacketS, inS, Bool.and_eq_true, decide_eq_true_eq] at e
    omega
  refine br_of (fun h1 => ?_) (fun h1 => out (q := 0 ≤ p.flow) (by simpa using h1) (fun e => (all e).1.1))
  refine br_of (fun h2 => ?_) (fun h2 => out (q := p.flow < 8) (by simpa using h2) (fun e => by have := (all e).1.2; omega))
  refine br_of (fun h3 => ?_) (fun h3 => out (q := 0 ≤ p.sub) (by simpa using h3) (fun e => (all e).2.1.1))
  refine br_of (fun h4 => ?_) (fun h4 => out (q := p.sub < 4) (by simpa using h4) (fun e => by have := (all e).2.1.2; omega))
  refine V59_spec (br_of (fun h5 => ?_) (fun h5 => ?_))
  · refine V59_spec (br_of (fun h6 => ?_) (fun h6 => ?_))
    · refine br_of (fun h7 => ?_) (fun h7 => out (q := 1 ≤ p.size) (by simpa using h7) (fun e => (all e).2.2.2.2.1.1))
      refine br_of (fun h8 => ?_) (fun h8 => out (q := p.size ≤ 10000) (by simpa using h8) (fun e => (all e).2.2.2.2.1.2))
      refine V29_spec ?_
      have e1 : inS p.flow 0 7 = true := by simp only [inS, Bool.and_eq_true, decide_eq_true_eq] at h1 h2 ⊢; omega
      have e2 : inS p.sub 0 3 = true := by simp only [inS, Bool.and_eq_true, decide_eq_true_eq] at h3 h4 ⊢; omega
      have e3 : inS p.size 1 10000 = true := by simp only [inS, Bool.and_eq_true, decide_eq_true_eq] at h7 h8 ⊢; omega
      unfold isPacketS at h
      rw [e1, e2, h5, h6, e3] at h
      exact h
    · exact out (q := inS p.data 0 1000000000 = true) (by simp [h6]) (fun e => by simp only [inS, Bool.and_eq_true, decide_eq_true_eq]; exact (all e).2.2.2.1)
  · exact out (q := inS p.number 0 1000000000 = true) (by simp [h5]) (fun e => by simp only [inS, Bool.and_eq_true, decide_eq_true_eq]; exact (all e).2.2.1)

theorem l40_spec {l : List Int} (hl : l.length ≤ 1000000) {next w : Int} (hn : 0 ≤ next ∧ next ≤ 1000000000) (hw : 1 ≤ w ∧ w ≤ 1000) {x2 : Bool} {kr k0 : Bool → Prop} :
    ∀ (d : List Int) (i : Nat) (last : Int), l.drop i = d → (i = 0 → last = next) → (∀ j, i = j + 1 → l[j]? = some last) → next ≤ last → (chain last (hiS next w) d = true → k0 x2) → (chain last (hiS next w) d = false → kr false) →
    ∃ k, l_40_4 k w x2 i next l kr k0 := by
  intro d
  induction d with
  | nil =>
    intro i last hd _ _ _ h1 _
    have : l.length ≤ i := by simpa using hd
    exact ⟨1, br_false (by simp; omega) (h1 rfl)⟩
  | cons x r ih =>
    intro i last hd hi0 hi1 hge h1 h2
    have hlt := lt_drop hd
    have hg : l.getD (i : Int).toNat (env.d 3) = x := getD_drop (by simpa using hd)
    have hwi : IntKind.i64.wrap ((i : Int) + 1) = ((i + 1 : Nat) : Int) := by rw [wrapi (by omega) (by omega)]; rfl
    have e2 : IntKind.i64.wrap (next + w) = next + w := wrapi (by omega) (by omega)
    have hin : inb (i : Int) (l.length : Int) = true := inb_of (by omega) (by omega)
    have step : ∀ k, (last < x → x < hiS next w → l_40_4 k w x2 (i + 1 : Nat) next l kr k0) → l_40_4 (k + 1) w x2 i next l kr k0 := by
      intro k hk
      have bad : (¬ last < x ∨ ¬ x < hiS next w) → kr false := fun h => h2 (by simp only [chain, Bool.and_eq_false_iff, decide_eq_false_iff_not]; omega)
      refine br_true (by simpa using hlt) (br_true hin ?_)
      rw [hg, e2]
      refine br_of (fun e => bad (.inl (by have : x ≤ next := by simpa using e
                                           omega))) (fun e => br_true hin ?_)
      have e : next < x := by simpa using e
      refine br_of (fun e' => bad (.inr (by have : next + w ≤ x := by simpa using e'
                                            unfold hiS; split <;> omega))) (fun e' => br_true hin ?_)
      have e' : x < next + w := by simpa using e'
      refine br_of (fun e'' => bad (.inr (by have : 1000000000 ≤ x := by simpa using e''
                                             unfold hiS; split <;> omega))) (fun e'' => ?_)
      have e'' : x < 1000000000 := by simpa using e''
      have hh : x < hiS next w := by unfold hiS; split <;> omega
      refine br_of (fun h0 => br_true hin ?_) (fun h0 => ?_)
      · have h0 : 0 < i := by simpa using h0
        obtain ⟨j, rfl⟩ : ∃ j, i = j + 1 := ⟨i - 1, by omega⟩
        have hm1 : IntKind.i64.wrap (((j + 1 : Nat) : Int) - 1) = (j : Int) := by rw [wrapi (by omega) (by omega)]; omega
        rw [hm1]
        refine br_true (inb_of (by omega) (by omega)) ?_
        have hj := hi1 j rfl
        have hgj : l.getD (j : Int).toNat (env.d 3) = last := getD_some hj
        rw [hgj]
        refine br_of (fun h => bad (.inl (by have : x ≤ last := by simpa using h
                                             omega))) (fun h => ?_)
        have h : last < x := by simpa using h
        rw [hwi]; exact hk h hh
      · have h0 : i = 0 := by simpa using h0
        rw [hwi]; exact hk (by rw [hi0 h0]; exact e) hh
    by_cases hx : last < x ∧ x < hiS next w
    · have hc : chain last (hiS next w) (x :: r) = chain x (hiS next w) r := by simp [chain, hx.1, hx.2]
      have hgx : l[i]? = some x := by
        have := congrArg (fun l => l[0]?) hd
        simpa using this
      obtain ⟨k, hk⟩ := ih (i + 1) x (drop_next hd) (fun h => by omega) (fun j hj => (show i = j by omega) ▸ hgx) (by omega) (fun h => h1 (hc.trans h)) (fun h => h2 (hc.trans h))
      exact ⟨k + 1, step k fun _ _ => hk⟩
    · exact ⟨1, step 0 fun h h' => absurd ⟨h, h'⟩ hx⟩

theorem V40_spec {r : Receiver} {w : Int} (hl : r.have_.length ≤ 1000000) {K : Bool → Prop} (h : K (validS r w)) : V40 r w K := by
  rw [V40_eq]; unfold B40
  unfold validS at h
  refine V70_spec (br_of (fun e => ?_) (fun e => ?_))
  · have e : inS w 1 1000 = false := by simpa using e
    rw [e] at h; exact h
  · have e : inS w 1 1000 = true := by simpa using e
    rw [e] at h
    refine br_of (fun e' => ?_) (fun e1 => br_of (fun e' => ?_) (fun e2 => ?_))
    · have : inS r.next_ 0 1000000000 = false := by
        simp only [decide_eq_true_eq] at e'
        simp only [inS, Bool.and_eq_false_iff, decide_eq_false_iff_not]; omega
      rw [this] at h; exact h
    · have : inS r.next_ 0 1000000000 = false := by
        simp only [gt_iff_lt, decide_eq_true_eq] at e'
        simp only [inS, Bool.and_eq_false_iff, decide_eq_false_iff_not]; omega
      rw [this] at h; exact h
    · have e' : inS r.next_ 0 1000000000 = true := by
        simp only [gt_iff_lt, decide_eq_false_iff_not] at e1 e2
        simp only [inS, Bool.and_eq_true, decide_eq_true_eq]; omega
      rw [e'] at h
      simp only [inS, Bool.and_eq_true, decide_eq_true_eq] at e e'
      refine l40_spec hl e' e r.have_ 0 r.next_ rfl (fun _ => rfl) (fun j hj => by omega) (Int.le_refl _) (fun hc => ?_) (fun hc => ?_)
      · rw [hc] at h; exact h
      · rw [hc] at h; exact h

/-- What a receiver has. -/
def hasS (r : Receiver) (n : Int) : Bool := decide (n < r.next_) || decide (n ∈ r.have_)
theorem l44_spec {l : List Int} (hl : l.length ≤ 1000000) {t : Int} {x2 : Bool} {x4 : Int} {kr k0 : Bool → Prop} : ∀ (d : List Int) (i : Nat), l.drop i = d → (t ∈ d → kr true) → (t ∉ d → k0 x2) → ∃ k, l_44_4 k t x2 i x4 l kr k0 := by
  intro d
  induction d with
  | nil =>
    intro i hd _ h2
    have : l.length ≤ i := by simpa using hd
    exact ⟨1, br_false (by simp; omega) (h2 (by simp))⟩
  | cons x r ih =>
    intro i hd h1 h2
    have hlt := lt_drop hd
    have hg : l.getD (i : Int).toNat (env.d 3) = x := getD_drop (by simpa using hd)
    have hwi : IntKind.i64.wrap ((i : Int) + 1) = ((i + 1 : Nat) : Int) := by rw [wrapi (by omega) (by omega)]; rfl
    have step : ∀ k, (x ≠ t → l_44_4 k t x2 (i + 1 : Nat) x4 l kr k0) → l_44_4 (k + 1) t x2 i x4 l kr k0 := by
      intro k hk
      refine br_true (by simpa using hlt) (br_true (inb_of (by omega) (by omega)) ?_)
      rw [hg, hwi]
      exact br_of (fun e => h1 (by have : x = t := by simpa using e
                                   simp [this])) (fun e => hk (by simpa using e))
    by_cases hx : x = t
    · exact ⟨1, step 0 fun h => absurd hx h⟩
    · obtain ⟨k, hk⟩ := ih (i + 1) (drop_next hd) (fun h => h1 (by simp [h])) (fun h => h2 (by simp [h, Ne.symm hx]))
      exact ⟨k + 1, step k fun _ => hk⟩
theorem V44_spec {r : Receiver} {t : Int} (hl : r.have_.length ≤ 1000000) {K : Bool → Prop} (h : K (hasS r t)) : V44 r t K := by
  rw [V44_eq]; unfold B44
  unfold hasS at h
  refine br_of (fun e => ?_) (fun e => ?_)
  · rw [e] at h; exact h
  · rw [e] at h
    refine l44_spec hl r.have_ 0 rfl (fun hm => ?_) (fun hm => ?_)
    · rw [decide_eq_true hm] at h; exact h
    · rw [decide_eq_false hm] at h; exact h

theorem V36_spec {r : Receiver} {K : Bool → Prop} (h : K (decide (r.have_.length ≤ 1100))) : V36 r K := by
  rw [V36_eq]; unfold B36
  have : decide ((r.have_.length : Int) ≤ 1100) = decide (r.have_.length ≤ 1100) := by
    apply decide_eq_decide.2; omega
  rw [this]; exact h

theorem l41_spec {l m : List Int} (hl : l.length ≤ 1000000) (hlm : l.length = m.length) {x1 : Bool} {x3 x5 : Int} {kr k0 : Bool → Prop} : ∀ (d d' : List Int) (i : Nat), l.drop i = d → m.drop i = d' → (d = d' → k0 x1) → (d ≠ d' → kr false) → ∃ k, l_41_4 k x1 i x3 l x5 m kr k0 := by
  intro d
  induction d with
  | nil =>
    intro d' i hd hd' h1 _
    have : l.length ≤ i := by simpa using hd
    have : d' = [] := by rw [← hd']; exact List.drop_eq_nil_of_le (by omega)
    exact ⟨1, br_false (by simp; omega) (h1 this.symm)⟩
  | cons x r ih =>
    intro d' i hd hd' h1 h2
    have hlt := lt_drop hd
    cases d' with
    | nil => have : m.length ≤ i := by simpa using hd'
             omega
    | cons y r' =>
    have hg : l.getD (i : Int).toNat (env.d 3) = x := getD_drop (by simpa using hd)
    have hg' : m.getD (i : Int).toNat (env.d 3) = y := getD_drop (by simpa using hd')
    have hwi : IntKind.i64.wrap ((i : Int) + 1) = ((i + 1 : Nat) : Int) := by rw [wrapi (by omega) (by omega)]; rfl
    have step : ∀ k, (x = y → l_41_4 k x1 (i + 1 : Nat) x3 l x5 m kr k0) → l_41_4 (k + 1) x1 i x3 l x5 m kr k0 := by
      intro k hk
      refine br_true (by simpa using hlt) (br_true (inb_of (by omega) (by omega)) (br_true (inb_of (by omega) (by omega)) ?_))
      rw [hg, hg', hwi]
      exact br_of (fun e => h2 (by have : x ≠ y := by simpa using e
                                   simp [this])) (fun e => hk (by simpa using e))
    by_cases hx : x = y
    · obtain ⟨k, hk⟩ := ih r' (i + 1) (drop_next hd) (drop_next hd') (fun h => h1 (by simp [hx, h])) (fun h => h2 (by simp [h]))
      exact ⟨k + 1, step k fun _ => hk⟩
    · exact ⟨1, step 0 fun h => absurd h hx⟩
theorem V41_spec {a b : Receiver} (hl : a.have_.length ≤ 1000000) {K : Bool → Prop} (h1 : a = b → K true) (h2 : a ≠ b → K false) : V41 a b K := by
  rw [V41_eq]; unfold B41
  obtain ⟨n, l⟩ := a
  obtain ⟨n', l'⟩ := b
  refine br_of (fun e => h2 (fun h => by cases h; simp at e)) (fun e => ?_)
  have e : n = n' := by simpa using e
  refine br_of (fun e' => h2 (fun h => by cases h; simp at e')) (fun e' => ?_)
  have e' : l.length = l'.length := by simp at e'; omega
  exact l41_spec hl e' l l' 0 rfl rfl (fun h => h1 (by rw [e, h])) (fun h => h2 (fun h' => h (by cases h'; rfl)))

def dataS (n : Int) : Packet := Packet.mk 0 0 (IntKind.i64.wrap (n + 100)) n 1 3 false (n.tmod 2 == 1)
theorem V60_spec {n : Int} {K : Packet → Prop} (h : K (dataS n)) : V60 n K := by
  rw [V60_eq]; unfold B60; exact h

end Go.Vg.Ytgekegoflaichaa
