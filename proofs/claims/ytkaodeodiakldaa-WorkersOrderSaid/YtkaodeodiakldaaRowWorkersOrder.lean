/-
  The row of the law WorkersOrder: for every input it returns true, and its arguments read as they did. Out of the walked law and its plain statement; no condition.
-/
import Derived.Test.YtkaodeodiakldaaRows
import Derived.Test.YtkaodeodiakldaaOpen
import Derived.Test.YtkaodeodiakldaaSk
import Derived.WalkKit
import Derived.ProofKit
import Derived.OpenShut
import Derived.ShutString
import Derived.ChangeOld
import Derived.Below
import Derived.SizedLaws
import Derived.Carry
namespace Go.Proofs.Ytkaodeodiakldaa.workersOrder
open Go.ChangeShapes Go.WideShapes Go.ChangeAt Go.RowKit Go.Vg Go.Vg.Ytkaodeodiakldaa
theorem own : ownKnob Try.prog.godebug = none := by kernel_rfl
theorem laidOut : laidOutB Try.prog = true := by kernel_rfl
set_option maxRecDepth 100000 in
theorem lifted (os : Os) (started : os.Started) (H : Type) (enc : TypeId × Value → H) :
    ReturnsInHanded {} Try.checked os 5 .any (Rows.workersOrderSpec.pre6 enc Try.prog Try.f5 Rows.workersOrderRow.domain false) (Rows.workersOrderSpec.post enc Try.prog Try.f5 false true false false) := by
  refine returnsInHanded_of_change_sized (C := Try.checked) own started (by kernel_rfl) Try.func5
    (ChangeSpec.witness6 (enc := enc) (C := Try.checked) false ⟨#[], #[.slice none 0 0, .slice none 0 0, .slice none 0 0, .int .u8 0], []⟩ 12 (by kernel_rfl) (by kernel_rfl) (by kernel_rfl) (by kernel_rfl)) ?_
  intro W base args ds gs before hval0 hW hcnd hsz0 _
  have hval : ∀ (j : Nat) t v, Try.f5.params[j]? = some t → args[j]? = some v → Value.okWide Try.prog W .any base t v := hval0
  have hW' := hW
  obtain ⟨p, q, hA0, hV, rfl, hfz, hnd⟩ := hW
  have hA : DataW.TrodAll enc Try.prog W 0 (fun _ => true) true Try.f5.params.toList args.toList ds p := hA0
  rw [Try.params5] at hA hval
  obtain ⟨v0, vs0, d0, ds0, p0, q0, hargs, rfl, rfl, h0, r0⟩ := trodAll_cons hA
  obtain ⟨v1, vs1, d1, ds1, p1, q1, rfl, rfl, rfl, h1, r1⟩ := trodAll_cons r0
  obtain ⟨v2, vs2, d2, ds2, p2, q2, rfl, rfl, rfl, h2, r2⟩ := trodAll_cons r1
  obtain ⟨v3, vs3, d3, ds3, p3, q3, rfl, rfl, rfl, h3, r3⟩ := trodAll_cons r2
  obtain ⟨rfl, rfl, rfl⟩ := trodAll_nil r3
  obtain rfl : args = #[v0, v1, v2, v3] := by cases args; simp_all
  obtain ⟨rfl, rfl⟩ := trodVars_none hV
  have k0 := h0
  have lt0 : ∀ x ∈ p0, x.block < W.heap.size := by obtain ⟨m, hm⟩ := k0; exact DataW.trod_lt m _ _ _ hm
  obtain ⟨y0, e0, g0⟩ := arg22 (Value.okWide_any_base (hval 0 22 v0 rfl rfl)) (h0.elim fun m hm => ⟨m, _, hm⟩)
  have k1 := h1
  have lt1 : ∀ x ∈ p1, x.block < W.heap.size := by obtain ⟨m, hm⟩ := k1; exact DataW.trod_lt m _ _ _ hm
  obtain ⟨y1, e1, g1⟩ := arg23 (Value.okWide_any_base (hval 1 23 v1 rfl rfl)) (h1.elim fun m hm => ⟨m, _, hm⟩)
  have k2 := h2
  have lt2 : ∀ x ∈ p2, x.block < W.heap.size := by obtain ⟨m, hm⟩ := k2; exact DataW.trod_lt m _ _ _ hm
  obtain ⟨y2, e2, g2⟩ := arg42 (Value.okWide_any_base (hval 2 42 v2 rfl rfl)) (h2.elim fun m hm => ⟨m, _, hm⟩)
  have k3 := h3
  have lt3 : ∀ x ∈ p3, x.block < W.heap.size := by obtain ⟨m, hm⟩ := k3; exact DataW.trod_lt m _ _ _ hm
  obtain ⟨y3, e3, g3⟩ := arg5 (Value.okWide_any_base (hval 3 5 v3 rfl rfl)) (h3.elim fun m hm => ⟨m, _, hm⟩)
  refine (law_end (W := W) Go.Vg.Ytkaodeodiakldaa.r5 (args := [Go.Vg.Ytkaodeodiakldaa.v22 y0, Go.Vg.Ytkaodeodiakldaa.v23 y1, Go.Vg.Ytkaodeodiakldaa.v42 y2, Go.Vg.Ytkaodeodiakldaa.v5 y3]) (x := (y0, y1, y2, y3)) (K := fun b => b = true) rfl (pureWorkersOrder y0 y1 y2 y3 g0 g1 g2 g3) (.cons e0 (.cons e1 (.cons e2 (.cons e3 .nil))))).mono fun e W' hh => ?_
  obtain ⟨v, y, rfl, hy, bel, hrel⟩ := hh
  subst hy
  have hrel : RelS env [] (fun _ => none) W' _ (.bool true) v := hrel
  cases hrel
  exact ⟨_, rfl, _, _, _, [], _, [], hW', trodAll_mk1 (shut_bool Try.underlying4 _), (trodAll_cons_mk (Below.trod laidOut (by kernel_rfl) (of_decide_eq_true (by kernel_rfl)) k0 bel lt0) (trodAll_cons_mk (Below.trod laidOut (by kernel_rfl) (of_decide_eq_true (by kernel_rfl)) k1 bel lt1) (trodAll_cons_mk (Below.trod laidOut (by kernel_rfl) (of_decide_eq_true (by kernel_rfl)) k2 bel lt2) (trodAll_cons_mk (Below.trod laidOut (by kernel_rfl) (of_decide_eq_true (by kernel_rfl)) k3 bel lt3) trodAll_mk0)))), rfl, bel.frame _, fun h => by cases h⟩
theorem over : Rows.workersOrderRow.holds Try.pinned (OpenSpec.ofChange Rows.workersOrderSpec) :=
  OpenClaim.holds_of_wide 5 Try.f5 rfl rfl rfl rfl rfl rfl rfl ⟨rfl, rfl, rfl, rfl, rfl⟩ rfl rfl rfl rfl rfl (by kernel_rfl) Try.func5 (by kernel_rfl)
    (of_decide_eq_true (by kernel_rfl)) (by unfold Func.isWrapper; first | (rw [if_pos (by decide +kernel)]; kernel_rfl) | (rw [if_neg (by decide +kernel)]; exact ⟨rfl, rfl⟩))
    (fun os started H enc _ => lifted os started H enc)
theorem proved : Rows.WorkersOrderSaid := over
#print axioms proved
end Go.Proofs.Ytkaodeodiakldaa.workersOrder
namespace Go.Proofs.Ytkaodeodiakldaa
/-- The row, under a short name, for the claim. -/
theorem workersOrder_holds : Rows.WorkersOrderSaid := workersOrder.proved
end Go.Proofs.Ytkaodeodiakldaa
