/-
  What the walked functions of chapter 22 come to (1): packets, lists, sizes. Own work; no condition.
-/
import Derived.Test.YtgekegoflaichaaA
namespace Go.Vg.Ytgekegoflaichaa
open Go.Vg Go.Proofs

theorem wrapi {n : Int} (h1 : -9223372036854775808 ≤ n) (h2 : n ≤ 9223372036854775807) : IntKind.i64.wrap n = n := by
  simp only [IntKind.wrap, IntKind.signed, IntKind.bits, show (2 : Int) ^ 64 = 18446744073709551616 from rfl, show (2 : Int) ^ (64 - 1) = 9223372036854775808 from rfl, Bool.true_and, decide_eq_true_eq]
  split <;> omega

theorem inb_of {i n : Int} (h1 : 0 ≤ i) (h2 : i < n) : inb i n = true := by simp [inb, h1, h2]

theorem br_of {b : Bool} {A B : Prop} (h1 : b = true → A) (h2 : b = false → B) : br b A B := by cases b <;> simp_all [br]
theorem br_t {A B : Prop} (h : A) : br true A B := h
theorem br_f {A B : Prop} (h : B) : br false A B := h
theorem br_true {b : Bool} {A B : Prop} (hb : b = true) (h : A) : br b A B := by rw [hb]; exact h
theorem br_false {b : Bool} {A B : Prop} (hb : b = false) (h : B) : br b A B := by rw [hb]; exact h

/-- A number is in a range. -/
def inS (n low high : Int) : Bool := decide (low ≤ n) && decide (n ≤ high)

theorem V55_spec {n low high : Int} {K : Bool → Prop} (h : K (inS n low high)) : V55 n low high K := by
  rw [V55_eq]; unfold B55
  unfold inS at h
  refine br_of (fun h1 => ?_) (fun h1 => ?_)
  · have : decide (low ≤ n) = true := by simpa using h1
    rw [this] at h; exact h
  · have : decide (low ≤ n) = false := by simpa using h1
    rw [this] at h; exact h

def isPacketS (p : Packet) : Bool := inS p.flow 0 7 && inS p.sub 0 3 && inS p.number 0 1000000000 && inS p.data 0 1000000000 && inS p.size 1 10000 && inS p.sent 0 10000000

theorem V45_spec {p : Packet} {K : Bool → Prop} (h : K (isPacketS p)) : V45 p K := by
  rw [V45_eq]; unfold B45
  unfold isPacketS at h
  repeat (refine V55_spec ?_; refine br_of (fun e => ?_) (fun e => ?_) <;> simp only [e, Bool.true_and, Bool.false_and] at h <;> try exact h)
  exact V55_spec h

theorem getD_drop {α : Type} {l : List α} {i : Nat} {x : α} {r : List α} {d : α} (h : l.drop i = x :: r) : l.getD i d = x := by
  have := congrArg (fun l => l[0]?) h
  simp at this
  simp [this]
theorem lt_drop {α : Type} {l : List α} {i : Nat} {x : α} {r : List α} (h : l.drop i = x :: r) : i < l.length := by
  rcases Nat.lt_or_ge i l.length with h' | h'
  · exact h'
  · rw [List.drop_eq_nil_of_le h'] at h; cases h
theorem drop_next {α : Type} {l : List α} {i : Nat} {x : α} {r : List α} (h : l.drop i = x :: r) : l.drop (i + 1) = r := by
  rw [← List.tail_drop, h]; rfl

def okList (flow last : Int) : Int → List Queued → Bool
  | _, [] => true
  | at_, x :: r => isPacketS x.p && x.p.flow == flow && inS x.at_ at_ last && okList flow last x.at_ r

theorem l56_spec {flow last : Int} {res : Bool} {l : List Queued} (hl : l.length ≤ 281474976710656) {kr : Bool → Prop} {k0 : Bool → Prop} : ∀ (d : List Queued) (i : Nat) (at_ : Int), l.drop i = d → (okList flow last at_ d = true → k0 res) → (okList flow last at_ d = false → kr false) →
    ∃ k, l_56_3 k flow last res at_ l l.length i kr k0 := by
  intro d
  induction d with
  | nil =>
    intro i at_ hd h1 h2
    have : l.length ≤ i := by simpa using hd
    exact ⟨1, br_false (by simp; omega) (h1 rfl)⟩
  | cons x r ih =>
    intro i at_ hd h1 h2
    have hlt := lt_drop hd
    have hg : l.getD (i : Int).toNat (env.d 45) = x := getD_drop (by simpa using hd)
    have hw : IntKind.i64.wrap ((i : Int) + 1) = ((i + 1 : Nat) : Int) := by rw [wrapi (by omega) (by omega)]; rfl
    have step : ∀ k, (isPacketS x.p = true → (x.p.flow == flow) = true → inS x.at_ at_ last = true → l_56_3 k flow last res x.at_ l l.length (i + 1 : Nat) kr k0) → l_56_3 (k + 1) flow last res at_ l l.length i kr k0 := by
      intro k hk
      refine br_true (by simpa using hlt) (br_true (inb_of (by omega) (by omega)) ?_)
      rw [hg]
      refine V45_spec (br_of (fun e => ?_) (fun e => ?_))
      · exact h2 (by simp only [Bool.not_eq_true'] at e; simp [okList, e])
      · have e1 : isPacketS x.p = true := by simpa using e
        refine br_of (fun e => ?_) (fun e => ?_)
        · exact h2 (by have : (x.p.flow == flow) = false := by simpa using e
                       simp [okList, this])
        · have e2 : (x.p.flow == flow) = true := by simpa using e
          refine V55_spec (br_of (fun e => ?_) (fun e => ?_))
          · exact h2 (by simp only [Bool.not_eq_true'] at e; simp [okList, e])
          · have e3 : inS x.at_ at_ last = true := by simpa using e
            rw [hw]
            exact hk e1 e2 e3
    by_cases hall : isPacketS x.p = true ∧ (x.p.flow == flow) = true ∧ inS x.at_ at_ last = true
    · obtain ⟨a1, a2, a3⟩ := hall
      obtain ⟨k, hk⟩ := ih (i + 1) x.at_ (drop_next hd) (fun h => h1 (by simp only [okList, a1, a2, a3, h]; rfl)) (fun h => h2 (by simp only [okList, a1, a2, a3, h]; rfl))
      exact ⟨k + 1, step k (fun _ _ _ => hk)⟩
    · exact ⟨1, step 0 (fun a1 a2 a3 => absurd ⟨a1, a2, a3⟩ hall)⟩

theorem V56_spec {l : List Queued} {flow last : Int} {K : Bool → Prop} (hl : l.length ≤ 281474976710656) (h : K (okList flow last 0 l)) : V56 l flow last K := by
  rw [V56_eq]; unfold B56
  exact l56_spec (res := false) hl l 0 0 rfl (fun e => by rw [e] at h; exact h) (fun e => by rw [e] at h; exact h)

end Go.Vg.Ytgekegoflaichaa
