/-
  What the walked functions of chapter 22 come to (3): deficit.Valid. Own work; no condition.
-/
import Derived.Test.YtgekegoflaichaaSb
namespace Go.Vg.Ytgekegoflaichaa
open Go.Vg Go.Proofs

theorem l217_spec {x1 : Bool} {a1 a2 a3 a4 a5 sd : Int} {ls : List (List Queued)} {v : List Int} {kr : Bool → Prop} {k0 : Bool → Int → Int → Int → Int → Int → List (List Queued) → List Int → Int → List Int → Prop}
    (h1 : (decide (0 ≤ v.getD 2 0) && decide (0 ≤ v.getD 3 0) && decide (0 ≤ v.getD 4 0) && decide (0 ≤ v.getD 5 0)) = true → k0 x1 a1 a2 a3 a4 a5 ls v sd v)
    (h2 : (decide (0 ≤ v.getD 2 0) && decide (0 ≤ v.getD 3 0) && decide (0 ≤ v.getD 4 0) && decide (0 ≤ v.getD 5 0)) = false → kr false) : ∃ k, l_21_7 k x1 0 a1 a2 a3 a4 a5 ls v sd v kr k0 := by
  refine ⟨5, ?_⟩
  have one : ∀ {n : Nat} {A B : Prop}, (0 ≤ v.getD n 0 → B) → (v.getD n 0 < 0 → A) → br (decide (v.getD n 0 < 0)) A B := fun hB hA => br_of (fun e => hA (by simpa using e)) (fun e => hB (by simpa using e))
  have fin : ∀ {n : Nat}, (n = 2 ∨ n = 3 ∨ n = 4 ∨ n = 5) → v.getD n 0 < 0 → kr false := by
    intro n hn hlt
    refine h2 ?_
    rcases hn with rfl | rfl | rfl | rfl <;> simp only [Bool.and_eq_false_iff, decide_eq_false_iff_not, Int.not_le] <;> simp only [hlt, true_or, or_true]
  refine one (n := 2) (fun e2 => ?_) (fin (by simp))
  refine one (n := 3) (fun e3 => ?_) (fin (by simp))
  refine one (n := 4) (fun e4 => ?_) (fin (by simp))
  refine one (n := 5) (fun e5 => ?_) (fin (by simp))
  refine h1 ?_
  simp only [Bool.and_eq_true, decide_eq_true_eq]
  exact ⟨⟨⟨e2, e3⟩, e4⟩, e5⟩

theorem defS_len (v : List Int) : (defS v).length = 8 := rfl

def valid4 (room : Int) (ls : List (List Queued)) (v : List Int) : Bool :=
  (decide (0 ≤ v.getD 2 0) && decide (0 ≤ v.getD 3 0) && decide (0 ≤ v.getD 4 0) && decide (0 ≤ v.getD 5 0)) &&
  flowsOk (v.getD 0 0) (v.getD 1 0) (v.getD 7 0) (defS v) ls 0 8 && decide ((sumLen ls : Int) ≤ room)

theorem s216_spec {x1 : Bool} {a1 a2 a3 a4 a5 sd : Int} {ls : List (List Queued)} {v : List Int} (hs : Small ls) (hl : ls.length = 8) {kr : Bool → Prop} (h : kr (valid4 a5 ls v)) : s_21_6 x1 a1 a2 a3 a4 a5 ls v sd v kr := by
  unfold valid4 at h
  refine l217_spec (fun e => ?_) (fun e => by rw [e] at h; exact h)
  rw [e, Bool.true_and] at h
  refine V50_spec ?_
  refine l2113_spec hs hl rfl 8 0 rfl (fun e2 => ?_) (fun e2 => by rw [show flowsOk (v.getD 0 0) (v.getD 1 0) (v.getD 7 0) (defS v) ls 0 8 = false from e2] at h; exact h)
  rw [e2, Bool.true_and] at h
  exact ⟨_, V47_spec (q := ⟨⟨a1, a2, a3, a4⟩, a5, ls, v, sd⟩) hs rfl, h⟩

theorem validS_eq (q : Queue) : validS q = (q.policy.kind == 5 && inS q.policy.a 100 10000 && q.policy.b == 0 && q.policy.c == 0 && inS q.room 1 500 && decide (q.lists.length = 8) && q.seed == 0 && q.vars.getD 6 0 == 0 &&
  inS (q.vars.getD 0 0) 0 7 && inS (q.vars.getD 1 0) 0 1 && (!(q.vars.getD 1 0 == 1) || decide ((q.lists.getD (q.vars.getD 0 0).toNat []).length ≠ 0)) && inS (q.vars.getD 7 0) 0 10000000 && valid4 q.room q.lists q.vars) := by
  unfold validS valid4
  simp only [Bool.and_assoc]

theorem s214_spec {x1 : Bool} {a1 a2 a3 a4 a5 sd : Int} {ls : List (List Queued)} {v : List Int} (hs : Small ls) (hl : ls.length = 8) {kr : Bool → Prop}
    (h : kr (inS (v.getD 0 0) 0 7 && inS (v.getD 1 0) 0 1 && (!(v.getD 1 0 == 1) || decide ((ls.getD (v.getD 0 0).toNat []).length ≠ 0)) && inS (v.getD 7 0) 0 10000000 && valid4 a5 ls v)) : s_21_4 x1 a1 a2 a3 a4 a5 ls v sd v kr := by
  refine V55_spec (br_of (fun e => ?_) (fun e => ?_))
  · have e : inS (v.getD 0 0) 0 7 = false := by simpa using e
    rw [e] at h; exact h
  have e0 : inS (v.getD 0 0) 0 7 = true := by simpa using e
  rw [e0, Bool.true_and] at h
  refine V55_spec (br_of (fun e => ?_) (fun e => ?_))
  · have e : inS (v.getD 1 0) 0 1 = false := by simpa using e
    rw [e] at h; exact h
  have e1 : inS (v.getD 1 0) 0 1 = true := by simpa using e
  rw [e1, Bool.true_and] at h
  have tail : kr (inS (v.getD 7 0) 0 10000000 && valid4 a5 ls v) → V55 (v.getD 7 0) 0 10000000 fun y15 ↦ br (!y15) (kr false) (s_21_6 x1 a1 a2 a3 a4 a5 ls v sd v kr) := by
    intro h
    refine V55_spec (br_of (fun e => ?_) (fun e => ?_))
    · have e : inS (v.getD 7 0) 0 10000000 = false := by simpa using e
      rw [e] at h; exact h
    · have e : inS (v.getD 7 0) 0 10000000 = true := by simpa using e
      rw [e, Bool.true_and] at h
      exact s216_spec hs hl h
  have g0 := inS_iff.1 e0
  refine br_of (fun e => ?_) (fun e => ?_)
  · rw [e] at h
    refine br_true (inb_of g0.1 (by omega)) (br_of (fun e3 => ?_) (fun e3 => ?_))
    · have : (ls.getD (v.getD 0 0).toNat []).length = 0 := by
        have : ((List.length (ls.getD (v.getD 0 0).toNat (env.d 43)) : Int) == 0) = true := e3
        simp only [beq_iff_eq] at this
        exact Int.ofNat.inj this
      simp only [this] at h
      exact h
    · have : (ls.getD (v.getD 0 0).toNat []).length ≠ 0 := fun h0 => by
        have h1 : ((List.length (ls.getD (v.getD 0 0).toNat []) : Int) == 0) = false := e3
        rw [h0] at h1
        cases h1
      rw [show (!true || decide ((ls.getD (v.getD 0 0).toNat []).length ≠ 0)) = true by rw [decide_eq_true this]; rfl, Bool.true_and] at h
      exact tail h
  · rw [e] at h
    exact tail h

theorem V21_spec {q : Queue} {K : Bool → Prop} (hs : Small q.lists) (h : K (validS q)) : V21 q K := by
  rw [V21_eq]; unfold B21
  rw [validS_eq] at h
  refine br_of (fun e => ?_) (fun e => ?_)
  · have : (q.policy.kind == 5) = false := by simpa using e
    rw [this] at h; exact h
  have e0 : (q.policy.kind == 5) = true := by simpa using e
  rw [e0, Bool.true_and] at h
  refine V55_spec (br_of (fun e => ?_) (fun e => ?_))
  · have e : inS q.policy.a 100 10000 = false := by simpa using e
    rw [e] at h; exact h
  have e0 : inS q.policy.a 100 10000 = true := by simpa using e
  rw [e0, Bool.true_and] at h
  refine br_of (fun e => ?_) (fun e => ?_)
  · have : (q.policy.b == 0) = false := by simpa using e
    rw [this] at h; exact h
  have e0 : (q.policy.b == 0) = true := by simpa using e
  rw [e0, Bool.true_and] at h
  refine br_of (fun e => ?_) (fun e => ?_)
  · have : (q.policy.c == 0) = false := by simpa using e
    rw [this] at h; exact h
  have e0 : (q.policy.c == 0) = true := by simpa using e
  rw [e0, Bool.true_and] at h
  refine V55_spec (br_of (fun e => ?_) (fun e => ?_))
  · have e : inS q.room 1 500 = false := by simpa using e
    rw [e] at h; exact h
  have e0 : inS q.room 1 500 = true := by simpa using e
  rw [e0, Bool.true_and] at h
  refine br_of (fun e => ?_) (fun e => ?_)
  · have : q.lists.length ≠ 8 := fun h0 => by rw [h0] at e; cases e
    rw [show decide (q.lists.length = 8) = false by simp [this]] at h; exact h
  have hl : q.lists.length = 8 := by
    have : (q.lists.length : Int) = 8 := by simpa using e
    omega
  rw [show decide (q.lists.length = 8) = true by simp [hl], Bool.true_and] at h
  refine br_of (fun e => ?_) (fun e => ?_)
  · have : (q.seed == 0) = false := by simpa using e
    rw [this] at h; exact h
  have e0 : (q.seed == 0) = true := by simpa using e
  rw [e0, Bool.true_and] at h
  refine br_of (fun e => ?_) (fun e => ?_)
  · have : (q.vars.getD 6 0 == 0) = false := by simpa using e
    rw [this] at h; exact h
  have e0 : (q.vars.getD 6 0 == 0) = true := by simpa using e
  rw [e0, Bool.true_and] at h
  exact s214_spec hs hl h

end Go.Vg.Ytgekegoflaichaa
