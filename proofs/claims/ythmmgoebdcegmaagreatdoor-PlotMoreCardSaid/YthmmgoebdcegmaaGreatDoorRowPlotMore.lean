/-
  The row of the law PlotMore: for every input it returns true, and its arguments read as they did. Out of the walked law and its plain statement; no condition.
-/
import Derived.Test.YthmmgoebdcegmaaGreatDoorRowPlotMoreF3
import Derived.Test.YthmmgoebdcegmaaGreatDoorRowPlotMoreF4
import Derived.Test.YthmmgoebdcegmaaGreatDoorRowPlotMoreF5
import Derived.Test.YthmmgoebdcegmaaGreatDoorRows
import Derived.Test.YthmmgoebdcegmaaGreatDoorOpen
import Derived.Test.YthmmgoebdcegmaaGreatDoorSd
import Derived.Test.YthmmgoebdcegmaaGreatDoorCards
import Derived.Test.YthmmgoebdcegmaaGreatDoorTie
import Derived.LaidMore
import Derived.SevenTiedAt
import Derived.Stop.Joined
import Derived.WalkKit
import Derived.ProofKit
import Derived.OpenShut
import Derived.ShutString
import Derived.ChangeOld
import Derived.Below
import Derived.SizedLaws
import Derived.Carry
namespace Go.Proofs.YthmmgoebdcegmaaGreatDoor.plotMore
open Go.ChangeShapes Go.WideShapes Go.ChangeAt Go.RowKit Go.Vg Go.Vg.YthmmgoebdcegmaaGreatDoor
theorem own : ownKnob Tryz.prog.godebug = none := by kernel_rfl
theorem laidOut : laidOutB Tryz.prog = true := by kernel_rfl
abbrev laidL : List (String × DataW Unit) := [("queuelab/random.mixing", Rows.laid_queuelab_random_mixing), ("queuelab/machine.least", Rows.laid_queuelab_machine_least), ("queuelab/machine.most", Rows.laid_queuelab_machine_most)]
set_option maxRecDepth 100000 in
theorem door_met (os : Os) (args : Array Value) : laidMetH Tryz.prog laidL ((World.doorLaid Tryz.prog 400 os).forCall (fun _ _ => 0) ⟨#[], args, []⟩).memory :=
  laidMetH_of_parts3 (fuel := 8) (laidMet_of_run' 8 (by kernel_rfl) (by kernel_rfl)) (by kernel_rfl) (by kernel_rfl)
set_option maxRecDepth 100000 in
theorem lifted (os : Os) (started : os.Started) (H : Type) (enc : TypeId × Value → H) :
    ReturnsInHanded {} Tryz.checked os 5 .any (fun w args => (Rows.plotMoreSpec.pre enc Tryz.prog Tryz.f5 [] false w args ∧ laidMetH Tryz.prog laidL w) ∧ sizedMet enc Tryz.prog Tryz.f5 (OpenSpec.ofChange Rows.plotMoreSpec) false w args) (Rows.plotMoreSpec.post enc Tryz.prog Tryz.f5 false true false false) := by
  refine returnsInHanded_of_change_and (C := Tryz.checked) (X := fun w _ => laidMetH Tryz.prog laidL w) (fun _ _ _ hh h => h.of_heap hh) own started (by kernel_rfl) Tryz.func5
    (ChangeSpec.witness_shaped (enc := enc) (C := Tryz.checked) (os := os) (X := fun w _ => laidMetH Tryz.prog laidL w) false (World.doorLaid Tryz.prog 400 os) #[.agg #[.int .i64 0, .int .i64 0, .int .i64 0, .int .i64 0, .int .i64 0, .int .i64 0, .int .i64 0, .int .i64 0, .slice none 0 0], .slice none 0 0, .agg #[.int .u8 0, .int .u8 0, .int .u8 0, .int .u8 0, .int .u8 0, .int .u8 0], .int .u8 0, .int .u8 0] 12 rfl (World.shaped_of_RefB (by kernel_rfl) (by kernel_rfl)) (by kernel_rfl) (by kernel_rfl) (by kernel_rfl) (door_met os _)) ?_
  intro W base args ds gs before hval0 hW _ _ _ _
  have hval : ∀ (j : Nat) t v, Tryz.f5.params[j]? = some t → args[j]? = some v → Value.okWide Tryz.prog W .any base t v := hval0
  have hW' := hW
  obtain ⟨p, q, hA0, hV, rfl, hfz, hnd⟩ := hW
  have hA : DataW.TrodAll enc Tryz.prog W 0 (fun _ => true) true Tryz.f5.params.toList args.toList ds p := hA0
  rw [Tryz.params5] at hA hval
  obtain ⟨v0, vs0, d0, ds0, p0, q0, hargs, rfl, rfl, h0, r0⟩ := trodAll_cons hA
  obtain ⟨v1, vs1, d1, ds1, p1, q1, rfl, rfl, rfl, h1, r1⟩ := trodAll_cons r0
  obtain ⟨v2, vs2, d2, ds2, p2, q2, rfl, rfl, rfl, h2, r2⟩ := trodAll_cons r1
  obtain ⟨v3, vs3, d3, ds3, p3, q3, rfl, rfl, rfl, h3, r3⟩ := trodAll_cons r2
  obtain ⟨v4, vs4, d4, ds4, p4, q4, rfl, rfl, rfl, h4, r4⟩ := trodAll_cons r3
  obtain ⟨rfl, rfl, rfl⟩ := trodAll_nil r4
  obtain rfl : args = #[v0, v1, v2, v3, v4] := by cases args; simp_all
  obtain ⟨rfl, rfl⟩ := trodVars_none hV
  have k0 := h0
  have lt0 : ∀ x ∈ p0, x.block < W.heap.size := by obtain ⟨m, hm⟩ := k0; exact DataW.trod_lt m _ _ _ hm
  obtain ⟨y0, e0, g0⟩ := arg25 (Value.okWide_any_base (hval 0 25 v0 rfl rfl)) (h0.elim fun m hm => ⟨m, _, hm⟩)
  have k1 := h1
  have lt1 : ∀ x ∈ p1, x.block < W.heap.size := by obtain ⟨m, hm⟩ := k1; exact DataW.trod_lt m _ _ _ hm
  obtain ⟨y1, e1, g1⟩ := arg26 (Value.okWide_any_base (hval 1 26 v1 rfl rfl)) (h1.elim fun m hm => ⟨m, _, hm⟩)
  have k2 := h2
  have lt2 : ∀ x ∈ p2, x.block < W.heap.size := by obtain ⟨m, hm⟩ := k2; exact DataW.trod_lt m _ _ _ hm
  obtain ⟨y2, e2, g2⟩ := arg35 (Value.okWide_any_base (hval 2 35 v2 rfl rfl)) (h2.elim fun m hm => ⟨m, _, hm⟩)
  have k3 := h3
  have lt3 : ∀ x ∈ p3, x.block < W.heap.size := by obtain ⟨m, hm⟩ := k3; exact DataW.trod_lt m _ _ _ hm
  obtain ⟨y3, e3, g3⟩ := arg5 (Value.okWide_any_base (hval 3 5 v3 rfl rfl)) (h3.elim fun m hm => ⟨m, _, hm⟩)
  have k4 := h4
  have lt4 : ∀ x ∈ p4, x.block < W.heap.size := by obtain ⟨m, hm⟩ := k4; exact DataW.trod_lt m _ _ _ hm
  obtain ⟨y4, e4, g4⟩ := arg5 (Value.okWide_any_base (hval 4 5 v4 rfl rfl)) (h4.elim fun m hm => ⟨m, _, hm⟩)
  refine (law_end (W := W) r5 (args := [Go.Vg.YthmmgoebdcegmaaGreatDoor.v25 y0, Go.Vg.YthmmgoebdcegmaaGreatDoor.v26 y1, Go.Vg.YthmmgoebdcegmaaGreatDoor.v35 y2, Go.Vg.YthmmgoebdcegmaaGreatDoor.v5 y3, Go.Vg.YthmmgoebdcegmaaGreatDoor.v5 y4]) (x := (y0, y1, y2, y3, y4)) (K := fun b => b = true) rfl (purePlotMore y0 y1 y2 y3 y4 g0 g1 g2 g3 g4) (.cons e0 (.cons e1 (.cons e2 (.cons e3 (.cons e4 .nil)))))).mono fun e W' hh => ?_
  obtain ⟨v, y, rfl, hy, bel, hrel⟩ := hh
  subst hy
  have hrel : RelS env [] (fun _ => none) W' _ (.bool true) v := hrel
  cases hrel
  exact ⟨_, rfl, _, _, _, [], _, [], hW', trodAll_mk1 (shut_bool Tryz.underlying4 _), (trodAll_cons_mk (Below.trod laidOut (by kernel_rfl) (of_decide_eq_true (by kernel_rfl)) k0 bel lt0) (trodAll_cons_mk (Below.trod laidOut (by kernel_rfl) (of_decide_eq_true (by kernel_rfl)) k1 bel lt1) (trodAll_cons_mk (Below.trod laidOut (by kernel_rfl) (of_decide_eq_true (by kernel_rfl)) k2 bel lt2) (trodAll_cons_mk (Below.trod laidOut (by kernel_rfl) (of_decide_eq_true (by kernel_rfl)) k3 bel lt3) (trodAll_cons_mk (Below.trod laidOut (by kernel_rfl) (of_decide_eq_true (by kernel_rfl)) k4 bel lt4) trodAll_mk0))))), rfl, bel.frame _, fun h => by cases h⟩
theorem over : Rows.plotMoreRow.holds Tryz.pinned (OpenSpec.ofChange Rows.plotMoreSpec) :=
  OpenClaim.holds_of_wide 5 Tryz.f5 rfl rfl rfl rfl rfl rfl rfl ⟨rfl, rfl, rfl, rfl, rfl⟩ rfl rfl rfl rfl rfl fJ Tryz.func5 closed
    (of_decide_eq_true (by kernel_rfl)) (by unfold Func.isWrapper; first | (rw [if_pos (by decide +kernel)]; kernel_rfl) | (rw [if_neg (by decide +kernel)]; exact ⟨rfl, rfl⟩))
    (fun os started H enc _ => lifted os started H enc)
set_option maxRecDepth 100000 in
theorem proved : Rows.PlotMoreCardSaid :=
  Claim7.holds_tied_plain_at .later [] [.data, .data, .data] true (true, "09c6d068473cc65f03dc25663a3f8aaa6f69c9f254112c4ea2a007dd4beeb211") true over (fun _ h => by cases h) fW (fun _ h => by cases h) plotMore_row_tie rfl ⟨rfl, rfl⟩ fM rfl
    (fun f fn hf hfn => by
      obtain rfl : f = 5 := (Option.some.inj (fJ.symm.trans hf)).symm
      obtain rfl : fn = Tryz.f5 := (Option.some.inj (Tryz.func5.symm.trans hfn)).symm
      exact ⟨fL, fun j t ht => by
        rw [Tryz.params5] at ht
        have hm : t ∈ [25, 26, 35, 5, 5] := by simpa using Array.mem_of_getElem? ht
        exact (show Tryz.prog.wantsStandIn t = false by simpa using List.all_eq_true.1 fS t hm)⟩)
    fG
#print axioms proved
end Go.Proofs.YthmmgoebdcegmaaGreatDoor.plotMore
namespace Go.Proofs.YthmmgoebdcegmaaGreatDoor
/-- The row, under a short name, for the claim. -/
theorem plotMore_holds : Rows.PlotMoreCardSaid := plotMore.proved
end Go.Proofs.YthmmgoebdcegmaaGreatDoor
