/-
  The laws of chapter 22: the example, and DeficitMatchesReference. Own work; no condition.
-/
import Derived.Test.YtgekegoflaichaaSj
import Derived.Test.YtgekegoflaichaaL
import Derived.Test.YtgekegoflaichaaOpen
set_option maxRecDepth 10000
namespace Go.Vg.Ytgekegoflaichaa
open Go.Vg Go.Proofs

theorem V34_spec {a b c : Int} {K : Packet → Prop} (h : K ⟨a, 0, b, 0, c, 0, false, false⟩) : V34 a b c K := by
  rw [V34_eq]; exact h
def emptyS (a room : Int) : Queue := ⟨⟨5, a, 0, 0⟩, room, List.replicate 8 [], List.replicate 8 0, 0⟩
theorem V31_spec {a b : Int} {K : Queue → Prop} (h : K (emptyS a b)) : V31 a b K := by
  rw [V31_eq]; exact h

def exL : List Packet := [⟨0, 0, 1, 0, 300, 0, false, false⟩, ⟨0, 0, 2, 0, 300, 0, false, false⟩, ⟨0, 0, 3, 0, 300, 0, false, false⟩, ⟨3, 0, 1, 0, 1000, 0, false, false⟩, ⟨3, 0, 2, 0, 100, 0, false, false⟩]
def exP : Packet := ⟨1, 0, 1, 0, 50, 0, false, false⟩
def exF : Queue × Bool := fillS (emptyS 500 5) exL
def exT : Queue × List Packet := takenS 6 exF.1 []

def smallB (ls : List (List Queued)) : Bool := Nat.ble ls.length 1000 && Nat.ble (sumLen ls) 1000000
theorem smallB_spec {ls : List (List Queued)} (h : smallB ls = true) : Small ls := by
  simp only [smallB, Bool.and_eq_true] at h
  exact ⟨Nat.le_of_ble_eq_true h.1, Nat.le_of_ble_eq_true h.2⟩

theorem exF_small : Small exF.1.lists := smallB_spec (by kernel_rfl)
theorem exT_small : Small exT.1.lists := smallB_spec (by kernel_rfl)
theorem exF_len : exF.1.vars.length = 8 := by kernel_rfl
theorem exT_len : exT.1.vars.length = 8 := by kernel_rfl

theorem V15_spec {K : Bool → Prop} (h : K true) : V15 K := by
  rw [V15_eq]; unfold B15
  refine V34_spec (V34_spec (V34_spec (V34_spec (V34_spec (V31_spec ?_)))))
  refine V30_spec (q := emptyS 500 5) (l := exL) (by simp [exL]) (smallB_spec (by kernel_rfl)) ?_
  show V32 exF.1 6 _
  refine V32_spec (n := 6) (by omega) exF_small exF_len ?_
  refine ⟨exP, V34_spec rfl, putS exF.1 exP 0, V17_spec exF_small rfl, ?_⟩
  refine V19_spec (q := exT.1) exT_small exT_len ?_
  refine V17_spec (q := exF.1) exF_small ?_
  refine br_true (show exF.2 = true by kernel_rfl) (br_true (by kernel_rfl) (br_true (show ((takeS exT.1 5).2.2.2.2 == 0) = true by kernel_rfl) (br_true (show ((putS exF.1 zeroP 0).2.2 == 1) = true by kernel_rfl) (br_true (show (!(takeS exT.1 5).2.2.1) = true by kernel_rfl) ?_))))
  have e1 : exT.2 = exL := by kernel_rfl
  show V24 exT.2 exL _
  rw [e1]
  refine V24_refl (by simp [exL]) (br_true rfl ?_)
  refine V34_spec ?_
  have e2 : (putS exF.1 exP 0).2.1 = [exP] := by kernel_rfl
  show V24 (putS exF.1 exP 0).2.1 [exP] _
  rw [e2]
  refine V24_refl (by simp) ?_
  unfold s_15_8
  refine br_true rfl ?_
  refine V21_spec (q := exF.1) exF_small (br_true (by kernel_rfl) ?_)
  refine V21_spec (q := exT.1) exT_small (br_true (by kernel_rfl) ?_)
  refine V31_spec (V21_spec (q := emptyS 99 5) (smallB_spec (by kernel_rfl)) ?_)
  have e3 : validS (emptyS 99 5) = false := by kernel_rfl
  rw [e3]
  exact h

theorem fit_i64 {n : Int} (h : fitI .i64 n) : -9223372036854775808 ≤ n ∧ n ≤ 9223372036854775807 := by
  have h : (decide (IntKind.i64.min ≤ n) && decide (n ≤ IntKind.i64.max)) = true := h
  simp only [Bool.and_eq_true, decide_eq_true_eq] at h
  have h1 : IntKind.i64.min = -9223372036854775808 := by kernel_rfl
  have h2 : IntKind.i64.max = 9223372036854775807 := by kernel_rfl
  rw [h1, h2] at h
  exact h

theorem fit_q {q : Queue} (h : fitQueue q) : QFit q := ⟨h.vars.1, fun x hx => fit_i64 (h.vars.2 x hx)⟩

theorem pureDeficitMatchesReference (q : Queue) (p : Packet) (now : Int) (hq : fitQueue q) (_ : fitPacket p) (_ : fitI .i64 now) : V3 q p now (fun b => b = true) := by
  rw [V3_eq]; unfold B3
  refine V15_spec (V16_spec hq.lists.2 (br_of (fun _ => rfl) (fun e => ?_)))
  have hs := few_small (bool_nn e)
  have hf := fit_q hq
  refine V17_spec hs (V18_spec hf hs (V19_spec hs hf.len (V20_spec hf hs (br_true rfl ?_))))
  refine ⟨validS q, V21_spec hs rfl, validS q, V22_spec hf hs rfl, br_true (by simp) ?_⟩
  refine ⟨true, V23_refl (put_small hs) rfl, br_true rfl ?_⟩
  have hlen : (putS q p now).2.1.length ≤ 1000000000 := by
    rcases putS_cases q p now with ⟨_, h⟩ | ⟨_, _, h⟩ | ⟨_, _, _, h⟩ | ⟨_, _, _, h⟩ <;> rw [h] <;> simp
  refine ⟨true, V24_refl hlen rfl, br_true rfl (br_true (by simp) ?_)⟩
  refine ⟨true, V23_refl (take_small hs) rfl, br_true rfl (br_true (packet_same _) (br_true (by simp) ?_))⟩
  have hlen : (takeS q now).2.2.2.1.length ≤ 1000000000 := by
    rcases takeS_cases q now with ⟨_, h⟩ | ⟨_, _, h⟩ | ⟨_, _, t, d, x, r, _, _, _, _, h⟩ <;> rw [h] <;> simp
  exact ⟨true, V24_refl hlen rfl, br_true rfl (by simp)⟩

end Go.Vg.Ytgekegoflaichaa
