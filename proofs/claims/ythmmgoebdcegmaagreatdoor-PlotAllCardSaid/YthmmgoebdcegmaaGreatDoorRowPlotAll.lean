/-
  The row of the law PlotAll: for every input it returns true, and its arguments read as they did. Out of the walked law and its plain statement; no condition.
-/
import Derived.Test.YthmmgoebdcegmaaGreatDoorRowPlotAllF3
import Derived.Test.YthmmgoebdcegmaaGreatDoorRowPlotAllF4
import Derived.Test.YthmmgoebdcegmaaGreatDoorRowPlotAllF5
import Derived.Test.YthmmgoebdcegmaaGreatDoorRows
import Derived.Test.YthmmgoebdcegmaaGreatDoorOpen
import Derived.Test.YthmmgoebdcegmaaGreatDoorSg
import Derived.Test.YthmmgoebdcegmaaGreatDoorCards
import Derived.Test.YthmmgoebdcegmaaGreatDoorTie
import Derived.LaidMore
import Derived.SevenTiedAt
import Derived.Stop.Joined
import Derived.WalkKit
import Derived.ProofKit
import Derived.OpenShut
import Derived.ShutString
import Derived.ChangeOld
import Derived.Below
import Derived.SizedLaws
import Derived.Carry
namespace Go.Proofs.YthmmgoebdcegmaaGreatDoor.plotAll
open Go.ChangeShapes Go.WideShapes Go.ChangeAt Go.RowKit Go.Vg Go.Vg.YthmmgoebdcegmaaGreatDoor
theorem own : ownKnob Tryz.prog.godebug = none := by kernel_rfl
theorem laidOut : laidOutB Tryz.prog = true := by kernel_rfl
abbrev laidL : List (String × DataW Unit) := [("queuelab/random.mixing", Rows.laid_queuelab_random_mixing), ("queuelab/machine.least", Rows.laid_queuelab_machine_least), ("queuelab/machine.most", Rows.laid_queuelab_machine_most)]
set_option maxRecDepth 100000 in
theorem door_met (os : Os) (args : Array Value) : laidMetH Tryz.prog laidL ((World.doorLaid Tryz.prog 400 os).forCall (fun _ _ => 0) ⟨#[], args, []⟩).memory :=
  laidMetH_of_parts3 (fuel := 8) (laidMet_of_run' 8 (by kernel_rfl) (by kernel_rfl)) (by kernel_rfl) (by kernel_rfl)
set_option maxRecDepth 100000 in
theorem lifted (os : Os) (started : os.Started) (H : Type) (enc : TypeId × Value → H) :
    ReturnsInHanded {} Tryz.checked os 4 .any (fun w args => (Rows.plotAllSpec.pre enc Tryz.prog Tryz.f4 [] false w args ∧ laidMetH Tryz.prog laidL w) ∧ sizedMet enc Tryz.prog Tryz.f4 (OpenSpec.ofChange Rows.plotAllSpec) false w args) (Rows.plotAllSpec.post enc Tryz.prog Tryz.f4 false true false false) := by
  refine returnsInHanded_of_change_and (C := Tryz.checked) (X := fun w _ => laidMetH Tryz.prog laidL w) (fun _ _ _ hh h => h.of_heap hh) own started (by kernel_rfl) Tryz.func4
    (ChangeSpec.witness_shaped (enc := enc) (C := Tryz.checked) (os := os) (X := fun w _ => laidMetH Tryz.prog laidL w) false (World.doorLaid Tryz.prog 400 os) #[.agg #[.int .i64 0, .int .i64 0, .int .i64 0, .int .i64 0, .int .i64 0, .int .i64 0, .int .i64 0, .int .i64 0, .slice none 0 0]] 12 rfl (World.shaped_of_RefB (by kernel_rfl) (by kernel_rfl)) (by kernel_rfl) (by kernel_rfl) (by kernel_rfl) (door_met os _)) ?_
  intro W base args ds gs before hval0 hW _ _ _ _
  have hval : ∀ (j : Nat) t v, Tryz.f4.params[j]? = some t → args[j]? = some v → Value.okWide Tryz.prog W .any base t v := hval0
  have hW' := hW
  obtain ⟨p, q, hA0, hV, rfl, hfz, hnd⟩ := hW
  have hA : DataW.TrodAll enc Tryz.prog W 0 (fun _ => true) true Tryz.f4.params.toList args.toList ds p := hA0
  rw [Tryz.params4] at hA hval
  obtain ⟨v0, vs0, d0, ds0, p0, q0, hargs, rfl, rfl, h0, r0⟩ := trodAll_cons hA
  obtain ⟨rfl, rfl, rfl⟩ := trodAll_nil r0
  obtain rfl : args = #[v0] := by cases args; simp_all
  obtain ⟨rfl, rfl⟩ := trodVars_none hV
  have k0 := h0
  have lt0 : ∀ x ∈ p0, x.block < W.heap.size := by obtain ⟨m, hm⟩ := k0; exact DataW.trod_lt m _ _ _ hm
  obtain ⟨y0, e0, g0⟩ := arg25 (Value.okWide_any_base (hval 0 25 v0 rfl rfl)) (h0.elim fun m hm => ⟨m, _, hm⟩)
  refine (law_end (W := W) r4 (args := [Go.Vg.YthmmgoebdcegmaaGreatDoor.v25 y0]) (x := y0) (K := fun b => b = true) rfl (purePlotAll y0 g0) (.cons e0 .nil)).mono fun e W' hh => ?_
  obtain ⟨v, y, rfl, hy, bel, hrel⟩ := hh
  subst hy
  have hrel : RelS env [] (fun _ => none) W' _ (.bool true) v := hrel
  cases hrel
  exact ⟨_, rfl, _, _, _, [], _, [], hW', trodAll_mk1 (shut_bool Tryz.underlying4 _), (trodAll_cons_mk (Below.trod laidOut (by kernel_rfl) (of_decide_eq_true (by kernel_rfl)) k0 bel lt0) trodAll_mk0), rfl, bel.frame _, fun h => by cases h⟩
theorem over : Rows.plotAllRow.holds Tryz.pinned (OpenSpec.ofChange Rows.plotAllSpec) :=
  OpenClaim.holds_of_wide 4 Tryz.f4 rfl rfl rfl rfl rfl rfl rfl ⟨rfl, rfl, rfl, rfl, rfl⟩ rfl rfl rfl rfl rfl fJ Tryz.func4 closed
    (of_decide_eq_true (by kernel_rfl)) (by unfold Func.isWrapper; first | (rw [if_pos (by decide +kernel)]; kernel_rfl) | (rw [if_neg (by decide +kernel)]; exact ⟨rfl, rfl⟩))
    (fun os started H enc _ => lifted os started H enc)
set_option maxRecDepth 100000 in
theorem proved : Rows.PlotAllCardSaid :=
  Claim7.holds_tied_plain_at .later [] [.data, .data, .data] true (true, "09c6d068473cc65f03dc25663a3f8aaa6f69c9f254112c4ea2a007dd4beeb211") true over (fun _ h => by cases h) fW (fun _ h => by cases h) plotAll_row_tie rfl ⟨rfl, rfl⟩ fM rfl
    (fun f fn hf hfn => by
      obtain rfl : f = 4 := (Option.some.inj (fJ.symm.trans hf)).symm
      obtain rfl : fn = Tryz.f4 := (Option.some.inj (Tryz.func4.symm.trans hfn)).symm
      exact ⟨fL, fun j t ht => by
        rw [Tryz.params4] at ht
        have hm : t ∈ [25] := by simpa using Array.mem_of_getElem? ht
        exact (show Tryz.prog.wantsStandIn t = false by simpa using List.all_eq_true.1 fS t hm)⟩)
    fG
#print axioms proved
end Go.Proofs.YthmmgoebdcegmaaGreatDoor.plotAll
namespace Go.Proofs.YthmmgoebdcegmaaGreatDoor
/-- The row, under a short name, for the claim. -/
theorem plotAll_holds : Rows.PlotAllCardSaid := plotAll.proved
end Go.Proofs.YthmmgoebdcegmaaGreatDoor
