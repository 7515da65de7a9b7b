/-
  What the walked functions of the reference come to (1): validity. Own work; no condition.
-/
import Derived.Test.YtgekegoflaichaaSf
import Derived.Test.YtgekegoflaichaaB
set_option maxRecDepth 10000
namespace Go.Vg.Ytgekegoflaichaa
open Go.Vg Go.Proofs

theorem V59_spec {n : Int} {K : Bool → Prop} (h : K (inS n 0 1000000000)) : V59 n K := by
  rw [V59_eq]; unfold B59
  unfold inS at h
  refine br_of (fun h1 => ?_) (fun h1 => ?_)
  · rw [show decide (0 ≤ n) = true by simpa using h1] at h; exact h
  · rw [show decide (0 ≤ n) = false by simpa using h1] at h; exact h
theorem V29_spec {n : Int} {K : Bool → Prop} (h : K (inS n 0 10000000)) : V29 n K := by
  rw [V29_eq]; unfold B29
  unfold inS at h
  refine br_of (fun h1 => ?_) (fun h1 => ?_)
  · rw [show decide (0 ≤ n) = true by simpa using h1] at h; exact h
  · rw [show decide (0 ≤ n) = false by simpa using h1] at h; exact h

theorem V26_spec {p : Packet} {K : Bool → Prop} (h : K (isPacketS p)) : V26 p K := by
  rw [V26_eq]; unfold B26
  unfold isPacketS at h
  have no : ∀ {n a b : Int} {r1 r2 r3 r4 r5 r6 : Bool}, (inS n a b = false) → (inS n a b && r1) = false := fun h => by rw [h]; rfl
  refine br_of (fun e1 => ?_) (fun e1 => ?_)
  rotate_left
  · rw [show inS p.flow 0 7 = false by simp [inS] at e1 ⊢; omega] at h; exact h
  refine br_of (fun e2 => ?_) (fun e2 => ?_)
  rotate_left
  · rw [show inS p.flow 0 7 = false by simp [inS] at e2 ⊢; omega] at h; exact h
  rw [show inS p.flow 0 7 = true by simp [inS] at e1 e2 ⊢; omega, Bool.true_and] at h
  refine br_of (fun e1 => ?_) (fun e1 => ?_)
  rotate_left
  · rw [show inS p.sub 0 3 = false by simp [inS] at e1 ⊢; omega] at h; exact h
  refine br_of (fun e2 => ?_) (fun e2 => ?_)
  rotate_left
  · rw [show inS p.sub 0 3 = false by simp [inS] at e2 ⊢; omega] at h; exact h
  rw [show inS p.sub 0 3 = true by simp [inS] at e1 e2 ⊢; omega, Bool.true_and] at h
  refine V59_spec (br_of (fun e => ?_) (fun e => ?_))
  rotate_left
  · rw [e] at h; exact h
  rw [e, Bool.true_and] at h
  refine V59_spec (br_of (fun e => ?_) (fun e => ?_))
  rotate_left
  · rw [e] at h; exact h
  rw [e, Bool.true_and] at h
  refine br_of (fun e1 => ?_) (fun e1 => ?_)
  rotate_left
  · rw [show inS p.size 1 10000 = false by simp [inS] at e1 ⊢; omega] at h; exact h
  refine br_of (fun e2 => ?_) (fun e2 => ?_)
  rotate_left
  · rw [show inS p.size 1 10000 = false by simp [inS] at e2 ⊢; omega] at h; exact h
  rw [show inS p.size 1 10000 = true by simp [inS] at e1 e2 ⊢; omega, Bool.true_and] at h
  exact V29_spec h

/-- In order up to a time. -/
def okT (last : Int) : Int → List Queued → Bool
  | _, [] => true
  | prev, x :: r => isPacketS x.p && inS x.at_ 0 10000000 && decide (x.at_ ≤ last) && decide (prev ≤ x.at_) && okT last x.at_ r

theorem l57_spec {last : Int} {res : Bool} {l : List Queued} (hl : l.length ≤ 1000000) {kr k0 : Bool → Prop} : ∀ (d : List Queued) (i : Nat) (prev : Int), l.drop i = d → (i = 0 → prev = 0) → (0 < i → (l.getD (i - 1) (env.d 45)).at_ = prev) → (okT last prev d = true → k0 res) → (okT last prev d = false → kr false) →
    ∃ k, l_57_2 k l last res i kr k0 := by
  intro d
  induction d with
  | nil =>
    intro i prev hd hp0 hp h1 h2
    have : l.length ≤ i := by simpa using hd
    exact ⟨1, br_false (by simp; omega) (h1 rfl)⟩
  | cons x r ih =>
    intro i prev hd hp0 hp h1 h2
    have hlt := lt_drop hd
    have hg : l.getD (i : Int).toNat (env.d 45) = x := getD_drop (by simpa using hd)
    have hw : IntKind.i64.wrap ((i : Int) + 1) = ((i + 1 : Nat) : Int) := by rw [wrapi (by omega) (by omega)]; rfl
    have hin : inb (i : Int) (l.length : Int) = true := inb_of (by omega) (by omega)
    have step : ∀ k, (isPacketS x.p = true → inS x.at_ 0 10000000 = true → x.at_ ≤ last → prev ≤ x.at_ → l_57_2 k l last res (i + 1 : Nat) kr k0) → l_57_2 (k + 1) l last res i kr k0 := by
      intro k hk
      refine br_true (by simpa using hlt) (br_true hin ?_)
      rw [hg]
      refine ⟨isPacketS x.p, V26_spec rfl, br_of (fun e => ?_) (fun e => ?_)⟩
      · exact h2 (by unfold okT; rw [bool_not e]; rfl)
      have e1 := bool_nn e
      refine br_true hin ⟨inS x.at_ 0 10000000, V29_spec rfl, br_of (fun e => ?_) (fun e => ?_)⟩
      · exact h2 (by unfold okT; rw [bool_not e, e1]; rfl)
      have e2 := bool_nn e
      refine br_true hin (br_of (fun e => ?_) (fun e => ?_))
      · exact h2 (by unfold okT; rw [show decide (x.at_ ≤ last) = false by simp at e ⊢; omega, e1, e2]; rfl)
      have e3 : x.at_ ≤ last := by simp at e; omega
      by_cases h0 : 0 < i
      · have hg1 : l.getD (IntKind.i64.wrap ((i : Int) - 1)).toNat (env.d 45) = l.getD (i - 1) (env.d 45) := by
          rw [wrapi (by omega) (by omega)]
          congr 1; omega
        refine br_true (by simpa using h0) (br_true hin (br_true ?_ ?_))
        · rw [wrapi (by omega) (by omega)]; exact inb_of (by omega) (by omega)
        rw [hg1, hp h0]
        refine br_of (fun e => ?_) (fun e => ?_)
        · exact h2 (by unfold okT; rw [show decide (prev ≤ x.at_) = false by simp at e ⊢; omega, e1, e2, decide_eq_true e3]; rfl)
        · rw [hw]; exact hk e1 e2 e3 (by simp at e; omega)
      · refine br_false (by simp; omega) ?_
        rw [hw]
        have := hp0 (by omega)
        exact hk e1 e2 e3 (by rw [this]; exact (inS_iff.1 e2).1)
    by_cases hall : isPacketS x.p = true ∧ inS x.at_ 0 10000000 = true ∧ x.at_ ≤ last ∧ prev ≤ x.at_
    · obtain ⟨a1, a2, a3, a4⟩ := hall
      have e : okT last prev (x :: r) = okT last x.at_ r := by
        conv => lhs; unfold okT
        rw [a1, a2, decide_eq_true a3, decide_eq_true a4]; rfl
      rw [e] at h1 h2
      obtain ⟨k, hk⟩ := ih (i + 1) x.at_ (drop_next hd) (fun h => by omega) (fun _ => by
        have : l.getD (i + 1 - 1) (env.d 45) = x := hg
        rw [this]) h1 h2
      exact ⟨k + 1, step k (fun _ _ _ _ => hk)⟩
    · exact ⟨1, step 0 (fun a1 a2 a3 a4 => absurd ⟨a1, a2, a3, a4⟩ hall)⟩

theorem V57_spec {l : List Queued} {last : Int} {K : Bool → Prop} (hl : l.length ≤ 1000000) (h : K (okT last 0 l)) : V57 l last K := by
  rw [V57_eq]; unfold B57
  exact l57_spec (res := false) hl l 0 0 rfl (fun _ => rfl) (fun h => by omega) (fun e => by rw [e] at h; exact h) (fun e => by rw [e] at h; exact h)

theorem okT_okList {last : Int} (hlast : last ≤ 10000000) {flow : Int} : ∀ {l : List Queued} {prev : Int}, 0 ≤ prev → (okT last prev l && l.all fun x => x.p.flow == flow) = okList flow last prev l
  | [], _, _ => rfl
  | x :: r, prev, hp => by
    unfold okT okList
    rw [List.all_cons]
    by_cases e : prev ≤ x.at_ ∧ x.at_ ≤ last
    · have := okT_okList hlast (flow := flow) (l := r) (prev := x.at_) (by omega)
      rw [← this, inS_true (n := x.at_) (a := 0) (by omega) (by omega), inS_true e.1 e.2, decide_eq_true e.1, decide_eq_true e.2]
      cases isPacketS x.p <;> cases (x.p.flow == flow) <;> simp
    · have h1 : inS x.at_ prev last = false := by
        cases h : inS x.at_ prev last
        · rfl
        · exact absurd (inS_iff.1 h) e
      have h2 : (decide (x.at_ ≤ last) && decide (prev ≤ x.at_)) = false := by
        rw [Bool.and_eq_false_iff, decide_eq_false_iff_not, decide_eq_false_iff_not]; omega
      rw [h1]
      have : (isPacketS x.p && inS x.at_ 0 10000000 && decide (x.at_ ≤ last) && decide (prev ≤ x.at_)) = false := by
        rw [Bool.and_assoc, h2, Bool.and_false]
      rw [this]
      simp

theorem V54_spec {q : Queue} {i : Nat} {K : Int → Prop} (hi : i < 8) (h : K ((defS q.vars).getD i 0)) : V54 q i K := by
  rw [V54_eq]; unfold B54
  have : i = 0 ∨ i = 1 ∨ i = 2 ∨ i = 3 ∨ i = 4 ∨ i = 5 ∨ i = 6 ∨ i = 7 := by omega
  rcases this with rfl | rfl | rfl | rfl | rfl | rfl | rfl | rfl <;> exact h

theorem l27_spec {j : Int} {ls : List (List Queued)} {a1 a2 a3 a4 a5 sd : Int} {v : List Int} (h1 : ls.length ≤ 1000) {k0 : Int → Int → Prop} : ∀ (d : List (List Queued)) (i : Nat) (acc : Int), ls.drop i = d → 0 ≤ acc → acc + sumLen d ≤ 1000000 → k0 j (acc + sumLen d) →
    ∃ k, l_27_3 k j acc i a1 a2 a3 a4 a5 ls v sd k0 := by
  intro d
  induction d with
  | nil =>
    intro i acc hd h0 h2 hk
    have : ls.length ≤ i := by simpa using hd
    refine ⟨1, br_false (by simp; omega) ?_⟩
    simpa [sumLen] using hk
  | cons x r ih =>
    intro i acc hd h0 h2 hk
    have hlt := lt_drop hd
    have hg : ls.getD (i : Int).toNat (env.d 43) = x := getD_drop (by simpa using hd)
    rw [sumLen_cons] at h2 hk
    have hw : IntKind.i64.wrap ((i : Int) + 1) = ((i + 1 : Nat) : Int) := by rw [wrapi (by omega) (by omega)]; rfl
    have hw2 : IntKind.i64.wrap (acc + (x.length : Int)) = acc + x.length := wrapi (by omega) (by omega)
    obtain ⟨k, hk⟩ := ih (i + 1) (acc + x.length) (drop_next hd) (by omega) (by omega) (by rw [show acc + (x.length : Int) + (sumLen r : Int) = acc + ((x.length + sumLen r : Nat) : Int) by omega]; exact hk)
    refine ⟨k + 1, br_true (by simpa using hlt) (br_true (inb_of (by omega) (by omega)) ?_)⟩
    rw [hg, hw, hw2]
    exact hk

theorem V27_spec {q : Queue} {K : Int → Prop} (hs : Small q.lists) (h : K (sumLen q.lists)) : V27 q K := by
  rw [V27_eq]; unfold B27
  exact l27_spec hs.len q.lists 0 0 rfl (by omega) (by have := hs.sum; omega) (by simpa using h)

end Go.Vg.Ytgekegoflaichaa
