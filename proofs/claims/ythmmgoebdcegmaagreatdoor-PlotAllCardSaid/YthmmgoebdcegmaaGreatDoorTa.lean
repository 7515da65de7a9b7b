/-
  Walked functions of the program: predicate transformers and their rules. Written by a program of this work (gen.py, VgGen.lean) out of the executor's own reduction; no condition.
-/
import Derived.Test.YthmmgoebdcegmaaGreatDoorEnv
set_option maxRecDepth 100000
set_option maxHeartbeats 4000000
namespace Go.Vg.YthmmgoebdcegmaaGreatDoor
open Go.Vg Go.Proofs
noncomputable def R0 : List (Nat × Rule env) := []
theorem R0_ok : AllOk Tryz.prog env R0 := trivial
noncomputable def f25 : Func := Tryz.f25
noncomputable def b25 : Code := (Tryz.f25.body).getD .skip
theorem hb25 : f25.body = some b25 := by kernel_rfl
noncomputable def f47 : Func := Tryz.f47
noncomputable def b47 : Code := (Tryz.f47.body).getD .skip
theorem hb47 : f47.body = some b47 := by kernel_rfl
noncomputable def f26 : Func := Tryz.f26
noncomputable def b26 : Code := (Tryz.f26.body).getD .skip
theorem hb26 : f26.body = some b26 := by kernel_rfl
noncomputable def f27 : Func := Tryz.f27
noncomputable def b27 : Code := (Tryz.f27.body).getD .skip
theorem hb27 : f27.body = some b27 := by kernel_rfl
noncomputable def f48 : Func := Tryz.f48
noncomputable def b48 : Code := (Tryz.f48.body).getD .skip
theorem hb48 : f48.body = some b48 := by kernel_rfl
noncomputable def f28 : Func := Tryz.f28
noncomputable def b28 : Code := (Tryz.f28.body).getD .skip
theorem hb28 : f28.body = some b28 := by kernel_rfl
-- 13 queuelab/plot.Valid
noncomputable def f13 : Func := Tryz.f13
noncomputable def b13 : Code := (Tryz.f13.body).getD .skip
abbrev X13 := Budget
def encA13 (x : X13) : List (SV env.T) := [v25 x]
def decA13 (l : List (SV env.T)) : Option X13 := match l with
  | [s0] => match u25 s0 with
    | some x0 => some (x0)
    | _ => none
  | _ => none
theorem hA13 (l : List (SV env.T)) (x : X13) (h : decA13 l = some x) : WkA env.has l (encA13 x) := by
  unfold decA13 at h; split at h
  · split at h
    · rename_i h0; cases h; exact (.cons (u25_wk h0) .nil)
    · cases h
  · cases h
abbrev Y13 := Bool
def encR13 (x : Y13) : List (SV env.T) := [v4 x]
def decR13 (l : List (SV env.T)) : Option Y13 := match l with
  | [s0] => match u4 s0 with
    | some x0 => some (x0)
    | _ => none
  | _ => none
theorem hR13 (l : List (SV env.T)) (x : Y13) (h : decR13 l = some x) : WkA env.has l (encR13 x) := by
  unfold decR13 at h; split at h
  · split at h
    · rename_i h0; cases h; exact (.cons (u4_wk h0) .nil)
    · cases h
  · cases h
theorem hD13 (y : Y13) : isDataV (tupV (encR13 y)) = true := rfl
theorem hb13 : f13.body = some b13 := by kernel_rfl
def l_13x47_2 : Nat → Int → Int → Int → Bool → Bool → Int → Int → (List Int) → (List Change) → (Int → Bool → Bool → Int → Int → (List Int) → (List Change) → Prop) → (Int → Bool → Bool → Int → Int → (List Int) → (List Change) → Prop) → Prop
  | 0 => fun _ _ _ _ _ _ _ _ _ _ _ => False
  | k + 1 => fun x1 x2 x3 x4 x5 x6 x7 x8 x9 kr k0 ↦ br (decide (x3 < x2)) (br (inb x3 (↑6 : Int)) (br (decide (x8.getD x3.toNat 0 < 0)) (kr x3 x4 x5 x6 x7 x8 x9) (br (decide (x8.getD x3.toNat 0 > 6)) (kr x3 x4 x5 x6 x7 x8 x9) (l_13x47_2 k x1 x2 (IntKind.i64.wrap (x3 + 1)) x4 x5 x6 x7 x8 x9 kr k0))) False) (k0 x1 x4 x5 x6 x7 x8 x9)
def w_13x47_2 (k : Nat) (vs : List (SV env.T)) (K : Ex → List (SV env.T) → Prop) : Prop :=
  dCI .i64 vs fun x1 vs => dCI .i64 vs fun x2 vs => dCI .i64 vs fun x3 vs => dCB vs fun x4 vs => dCB vs fun x5 vs => dCI .i64 vs fun x6 vs => dCI .i64 vs fun x7 vs => dCA .i64 6 vs fun x8 vs => dCD 60 vs fun x9 vs => dCE vs (l_13x47_2 k x1 x2 x3 x4 x5 x6 x7 x8 x9 (fun y1 y2 y3 y4 y5 y6 y7 => K .ret [.int .i64 y1, .bool y2, .bool y3, .int .i64 y4, .int .i64 y5, .arr .i64 6 y6, .dat 60 y7]) (fun y1 y2 y3 y4 y5 y6 y7 => K (.exit 0) [.int .i64 y1, .bool y2, .bool y3, .int .i64 y4, .int .i64 y5, .arr .i64 6 y6, .dat 60 y7]))
def p_13x47_2 : Piece env := ⟨⟨[.aslice 0 2 6, .fn 26 [], .any, .any, .hole, .any, .any, .hole, .hole, .any, .any, .any, .any, .any, .any, .any, .any, .any, .any], [.aslice 0 2 6, .fn 26 [], .any, .any, .hole, .aslice 0 2 6, .fn 26 [], .tup0, .tup0, .any, .ptr 0 0, .hole, .any, .any, .any, .any, .any, .any, .any, .any, .any, .any, .any, .any, .any, .any, .any, .any, .any, .any, .any, .any, .any, .any, .any, .any, .any, .any, .any, .any, .any, .any, .ptr 0 2, .aslice 0 2 6, .any, .any, .any, .any, .any, .any, .any, .any], [(0, .cells 25 [.hole, .hole, .hole, .holeD 60])], 1⟩, exitF none [(0, ⟨[.any, .any, .any, .any, .hole, .any, .any, .any, .any, .any, .any, .any, .any, .any, .any, .any, .any, .any, .any], [.aslice 0 2 6, .fn 26 [], .any, .any, .hole, .aslice 0 2 6, .fn 26 [], .tup0, .tup0, .any, .ptr 0 0, .hole, .any, .any, .any, .any, .any, .any, .any, .any, .any, .any, .any, .any, .any, .any, .any, .any, .any, .any, .any, .any, .any, .any, .any, .any, .any, .any, .any, .any, .any, .any, .ptr 0 2, .aslice 0 2 6, .any, .any, .any, .any, .any, .any, .any, .any], [(0, .cells 25 [.hole, .hole, .hole, .holeD 60])], 1⟩)] (some ⟨[.any, .any, .any, .any, .hole, .any, .any, .any, .any, .any, .any, .any, .any, .any, .any, .any, .any, .any, .any], [.aslice 0 2 6, .fn 26 [], .any, .any, .hole, .aslice 0 2 6, .fn 26 [], .tup0, .tup0, .any, .ptr 0 0, .hole, .any, .any, .any, .any, .any, .any, .any, .any, .any, .any, .any, .any, .any, .any, .any, .any, .any, .any, .any, .any, .any, .any, .any, .any, .any, .any, .any, .any, .any, .any, .ptr 0 2, .aslice 0 2 6, .any, .any, .any, .any, .any, .any, .any, .any], [(0, .cells 25 [.hole, .hole, .hole, .holeD 60])], 1⟩), fun vs K => ∃ k, w_13x47_2 k vs K⟩
def l_13x48_2 : Nat → (List Change) → Int → Int → Int → (List Change) → Bool → (List Change) → Bool → Bool → Bool → Bool → (List Change) → Int → Int → (List Int) → (List Change) → (Int → (List Change) → Bool → (List Change) → Bool → Bool → Bool → Bool → (List Change) → Int → Int → (List Int) → (List Change) → Prop) → (Int → (List Change) → Bool → (List Change) → Bool → Bool → Bool → Bool → (List Change) → Int → Int → (List Int) → (List Change) → Prop) → Prop
  | 0 => fun _ _ _ _ _ _ _ _ _ _ _ _ _ _ _ _ _ _ => False
  | k + 1 => fun x1 x2 x3 x4 x5 x6 x7 x8 x9 x10 x11 x12 x13 x14 x15 x16 kr k0 ↦ br (decide (x4 < x3)) (br (inb x4 (↑x1.length : Int)) (br (decide ((x1.getD x4.toNat (env.d 60)).kind < 1)) (kr x4 x5 x6 x7 x8 x9 x10 x11 x12 x13 x14 x15 x16) (br (decide ((x1.getD x4.toNat (env.d 60)).kind ≥ 6)) (kr x4 x5 x6 x7 x8 x9 x10 x11 x12 x13 x14 x15 x16) (l_13x48_2 k x1 x2 x3 (IntKind.i64.wrap (x4 + 1)) x5 x6 x7 x8 x9 x10 x11 x12 x13 x14 x15 x16 kr k0))) False) (k0 x2 x5 x6 x7 x8 x9 x10 x11 x12 x13 x14 x15 x16)
def w_13x48_2 (k : Nat) (vs : List (SV env.T)) (K : Ex → List (SV env.T) → Prop) : Prop :=
  dCD 60 vs fun x1 vs => dCI .i64 vs fun x2 vs => dCI .i64 vs fun x3 vs => dCI .i64 vs fun x4 vs => dCD 60 vs fun x5 vs => dCB vs fun x6 vs => dCD 60 vs fun x7 vs => dCB vs fun x8 vs => dCB vs fun x9 vs => dCB vs fun x10 vs => dCB vs fun x11 vs => dCD 60 vs fun x12 vs => dCI .i64 vs fun x13 vs => dCI .i64 vs fun x14 vs => dCA .i64 6 vs fun x15 vs => dCD 60 vs fun x16 vs => dCE vs (l_13x48_2 k x1 x2 x3 x4 x5 x6 x7 x8 x9 x10 x11 x12 x13 x14 x15 x16 (fun y1 y2 y3 y4 y5 y6 y7 y8 y9 y10 y11 y12 y13 => K .ret [.int .i64 y1, .dat 60 y2, .bool y3, .dat 60 y4, .bool y5, .bool y6, .bool y7, .bool y8, .dat 60 y9, .int .i64 y10, .int .i64 y11, .arr .i64 6 y12, .dat 60 y13]) (fun y1 y2 y3 y4 y5 y6 y7 y8 y9 y10 y11 y12 y13 => K (.exit 0) [.int .i64 y1, .dat 60 y2, .bool y3, .dat 60 y4, .bool y5, .bool y6, .bool y7, .bool y8, .dat 60 y9, .int .i64 y10, .int .i64 y11, .arr .i64 6 y12, .dat 60 y13]))
def p_13x48_2 : Piece env := ⟨⟨[.holeD 60, .fn 28 [], .any, .any, .hole, .any, .any, .hole, .hole, .any, .any, .any, .any, .any, .any, .any, .any, .any, .any], [.holeD 60, .fn 28 [], .any, .any, .hole, .holeD 60, .fn 28 [], .tup0, .tup0, .any, .ptr 0 0, .hole, .any, .any, .any, .any, .any, .any, .any, .any, .any, .any, .any, .any, .any, .any, .any, .any, .any, .any, .any, .any, .any, .any, .any, .any, .any, .any, .any, .any, .any, .any, .ptr 0 2, .aslice 0 2 6, .hole, .hole, .hole, .ptr 0 8, .holeD 60, .any, .any, .any], [(0, .cells 25 [.hole, .hole, .hole, .holeD 60])], 1⟩, exitF none [(0, ⟨[.any, .any, .any, .any, .hole, .any, .any, .any, .any, .any, .any, .any, .any, .any, .any, .any, .any, .any, .any], [.holeD 60, .fn 28 [], .any, .any, .hole, .holeD 60, .fn 28 [], .tup0, .tup0, .any, .ptr 0 0, .hole, .any, .any, .any, .any, .any, .any, .any, .any, .any, .any, .any, .any, .any, .any, .any, .any, .any, .any, .any, .any, .any, .any, .any, .any, .any, .any, .any, .any, .any, .any, .ptr 0 2, .aslice 0 2 6, .hole, .hole, .hole, .ptr 0 8, .holeD 60, .any, .any, .any], [(0, .cells 25 [.hole, .hole, .hole, .holeD 60])], 1⟩)] (some ⟨[.any, .any, .any, .any, .hole, .any, .any, .any, .any, .any, .any, .any, .any, .any, .any, .any, .any, .any, .any], [.holeD 60, .fn 28 [], .any, .any, .hole, .holeD 60, .fn 28 [], .tup0, .tup0, .any, .ptr 0 0, .hole, .any, .any, .any, .any, .any, .any, .any, .any, .any, .any, .any, .any, .any, .any, .any, .any, .any, .any, .any, .any, .any, .any, .any, .any, .any, .any, .any, .any, .any, .any, .ptr 0 2, .aslice 0 2 6, .hole, .hole, .hole, .ptr 0 8, .holeD 60, .any, .any, .any], [(0, .cells 25 [.hole, .hole, .hole, .holeD 60])], 1⟩), fun vs K => ∃ k, w_13x48_2 k vs K⟩
def s_13_3 : Bool → Int → Int → (List Int) → (List Change) → (Bool → Prop) → Prop :=
  fun x1 x2 x3 x4 x5 kr ↦ ∃ k8, l_13x47_2 k8 0 (↑6 : Int) 0 false x1 x2 x3 x4 x5 (fun y9 _ y11 y12 y13 y14 y15 ↦ br (!decide (y9 ≥ 0)) (∃ k16, l_13x48_2 k16 y15 0 (↑y15.length : Int) 0 y15 false y15 y11 (decide (y9 ≥ 0)) (!decide (y9 ≥ 0)) true y15 y12 y13 y14 y15 (fun y17 _ _ _ _ _ _ y24 _ _ _ _ _ ↦ br y24 (kr !decide (y17 ≥ 0)) (kr false)) fun _ _ _ _ _ _ _ y24 _ _ _ _ _ ↦ br y24 (kr !decide (-1 ≥ 0)) (kr false)) (kr false)) fun _ _ y11 y12 y13 y14 y15 ↦ ∃ k16, l_13x48_2 k16 y15 0 (↑y15.length : Int) 0 y15 false y15 y11 (decide (-1 ≥ 0)) (!decide (-1 ≥ 0)) true y15 y12 y13 y14 y15 (fun y17 _ _ _ _ _ _ y24 _ _ _ _ _ ↦ br y24 (kr !decide (y17 ≥ 0)) (kr false)) fun _ _ _ _ _ _ _ y24 _ _ _ _ _ ↦ br y24 (kr !decide (-1 ≥ 0)) (kr false)
def v_13_3 (vs : List (SV env.T)) (K : Ex → List (SV env.T) → Prop) : Prop :=
  dCB vs fun x1 vs => dCI .i64 vs fun x2 vs => dCI .i64 vs fun x3 vs => dCA .i64 6 vs fun x4 vs => dCD 60 vs fun x5 vs => dCE vs (s_13_3 x1 x2 x3 x4 x5 (fun y1 => K .ret [.bool y1]))
def q_13_3 : Piece env := ⟨⟨[.any, .ptr 0 0, .hole, .any, .any, .any, .any, .any, .any, .any, .any, .any, .any, .any, .any, .any, .any, .any, .any, .any, .any, .any, .any, .any, .any, .any, .any, .any, .any, .any, .any, .any, .any, .any, .any, .any, .any, .any, .any, .any, .any, .any, .any], [], [(0, .cells 25 [.hole, .hole, .hole, .holeD 60])], 1⟩, exitF none [] (some ⟨[.any, .any, .hole, .any, .any, .any, .any, .any, .any, .any, .any, .any, .any, .any, .any, .any, .any, .any, .any, .any, .any, .any, .any, .any, .any, .any, .any, .any, .any, .any, .any, .any, .any, .any, .any, .any, .any, .any, .any, .any, .any, .any, .any], [], [], 0⟩), v_13_3⟩
noncomputable def B13 : Budget → (Y13 → Prop) → Prop :=
  fun x0 K ↦ br (decide (x0.periods < 0)) (K false) (br (decide (x0.periods > 6)) (K false) (br (decide (x0.length < 1)) (K false) (br (decide (x0.length > 1000000)) (K false) (br (x0.left.getD 0 0 != 0) (K false) (br (decide ((↑x0.choices.length : Int) > 8)) (K false) (s_13_3 false x0.periods x0.length x0.left x0.choices K))))))
theorem V13_ex : ∃ V : Budget → (Y13 → Prop) → Prop, V = B13 := ⟨_, rfl⟩
noncomputable def V13 : Budget → (Y13 → Prop) → Prop := Classical.choose V13_ex
theorem V13_eq : V13 = B13 := Classical.choose_spec V13_ex
theorem pook_13x47_2_47 : PiecesOk Tryz.prog env (ctxG env false [] R0 [] []) 47 b47 :=
  pieces_at (L := []) (S := []) (fun _ => rfl) (fun _ => rfl) (by kernel_rfl) (by kernel_rfl) (fun _ hq => by cases hq) (fun _ hq => by cases hq)
theorem book_13x47_2 : BodiesOk Tryz.prog env (ctxG env false [] R0 [] []) := bodies_okG (ks := []) (by kernel_rfl) (fun _ hq => by cases hq)
theorem stok_13x47_2 (k : Nat) (x1 : Int) (x2 : Int) (x3 : Int) (x4 : Bool) (x5 : Bool) (x6 : Int) (x7 : Int) (x8 : (List Int)) (x9 : (List Change)) (K : Ex → List (SV env.T) → Prop) : l_13x47_2 (k + 1) x1 x2 x3 x4 x5 x6 x7 x8 x9 (fun y1 y2 y3 y4 y5 y6 y7 => K .ret [.int .i64 y1, .bool y2, .bool y3, .int .i64 y4, .int .i64 y5, .arr .i64 6 y6, .dat 60 y7]) (fun y1 y2 y3 y4 y5 y6 y7 => K (.exit 0) [.int .i64 y1, .bool y2, .bool y3, .int .i64 y4, .int .i64 y5, .arr .i64 6 y6, .dat 60 y7]) = vcCode env (ctxG env false [] R0 [] []) 2000 47 (loopAt b47 2) (insSt p_13x47_2.head [.int .i64 x1, .int .i64 x2, .int .i64 x3, .bool x4, .bool x5, .int .i64 x6, .int .i64 x7, .arr .i64 6 x8, .dat 60 x9]) (stepK p_13x47_2 (w_13x47_2 k) K) := by kernel_rfl
theorem wiok_13x47_2 (k : Nat) (vs : List (SV env.T)) (K : Ex → List (SV env.T) → Prop) (h : w_13x47_2 k vs K) : ∃ x1 : Int, ∃ x2 : Int, ∃ x3 : Int, ∃ x4 : Bool, ∃ x5 : Bool, ∃ x6 : Int, ∃ x7 : Int, ∃ x8 : (List Int), ∃ x9 : (List Change), vs = [.int .i64 x1, .int .i64 x2, .int .i64 x3, .bool x4, .bool x5, .int .i64 x6, .int .i64 x7, .arr .i64 6 x8, .dat 60 x9] ∧ l_13x47_2 k x1 x2 x3 x4 x5 x6 x7 x8 x9 (fun y1 y2 y3 y4 y5 y6 y7 => K .ret [.int .i64 y1, .bool y2, .bool y3, .int .i64 y4, .int .i64 y5, .arr .i64 6 y6, .dat 60 y7]) (fun y1 y2 y3 y4 y5 y6 y7 => K (.exit 0) [.int .i64 y1, .bool y2, .bool y3, .int .i64 y4, .int .i64 y5, .arr .i64 6 y6, .dat 60 y7]) := by
  unfold w_13x47_2 at h
  replace h := dCI_spec h
  obtain ⟨x1, vs0, e0, h⟩ := h
  replace h := dCI_spec h
  obtain ⟨x2, vs1, e1, h⟩ := h
  replace h := dCI_spec h
  obtain ⟨x3, vs2, e2, h⟩ := h
  replace h := dCB_spec h
  obtain ⟨x4, vs3, e3, h⟩ := h
  replace h := dCB_spec h
  obtain ⟨x5, vs4, e4, h⟩ := h
  replace h := dCI_spec h
  obtain ⟨x6, vs5, e5, h⟩ := h
  replace h := dCI_spec h
  obtain ⟨x7, vs6, e6, h⟩ := h
  replace h := dCA_spec h
  obtain ⟨x8, vs7, e7, h⟩ := h
  replace h := dCD_spec h
  obtain ⟨x9, vs8, e8, h⟩ := h
  replace h := dCE_spec h
  obtain ⟨e, h⟩ := h
  exact ⟨x1, x2, x3, x4, x5, x6, x7, x8, x9, by rw [e0, e1, e2, e3, e4, e5, e6, e7, e8, e], h⟩
theorem zeok_13x47_2 (x1 : Int) (x2 : Int) (x3 : Int) (x4 : Bool) (x5 : Bool) (x6 : Int) (x7 : Int) (x8 : (List Int)) (x9 : (List Change)) (K : Ex → List (SV env.T) → Prop) : l_13x47_2 0 x1 x2 x3 x4 x5 x6 x7 x8 x9 (fun y1 y2 y3 y4 y5 y6 y7 => K .ret [.int .i64 y1, .bool y2, .bool y3, .int .i64 y4, .int .i64 y5, .arr .i64 6 y6, .dat 60 y7]) (fun y1 y2 y3 y4 y5 y6 y7 => K (.exit 0) [.int .i64 y1, .bool y2, .bool y3, .int .i64 y4, .int .i64 y5, .arr .i64 6 y6, .dat 60 y7]) = False := by kernel_rfl
theorem ok_13x47_2 : PieceOk Tryz.prog env p_13x47_2 (.loop (loopAt b47 2)) := by
  refine loop_step (Wn := w_13x47_2) tab (ctxG_ok R0_ok false [] _ _) book_13x47_2 (pieces_sub pook_13x47_2_47 (by kernel_rfl)) rfl ?_ 2000 ?_
  · intro vs K h
    obtain ⟨x1, x2, x3, x4, x5, x6, x7, x8, x9, _, h⟩ := wiok_13x47_2 0 vs K h
    exact Eq.mp (zeok_13x47_2 x1 x2 x3 x4 x5 x6 x7 x8 x9 K) h
  · intro k vs K h
    obtain ⟨x1, x2, x3, x4, x5, x6, x7, x8, x9, rfl, h⟩ := wiok_13x47_2 (k + 1) vs K h
    exact Eq.mp (stok_13x47_2 k x1 x2 x3 x4 x5 x6 x7 x8 x9 K) h
theorem pook_13x48_2_47 : PiecesOk Tryz.prog env (ctxG env false [] R0 [(47, [(2, p_13x47_2)])] []) 47 b47 :=
  pieces_at (L := [(2, p_13x47_2)]) (S := []) (fun _ => rfl) (fun _ => rfl) (by kernel_rfl) (by kernel_rfl) (List.forall_mem_cons.2 ⟨fun _ => ok_13x47_2, (fun _ hq => by cases hq)⟩) (fun _ hq => by cases hq)
theorem pook_13x48_2_48 : PiecesOk Tryz.prog env (ctxG env false [] R0 [(47, [(2, p_13x47_2)])] []) 48 b48 :=
  pieces_at (L := []) (S := []) (fun _ => rfl) (fun _ => rfl) (by kernel_rfl) (by kernel_rfl) (fun _ hq => by cases hq) (fun _ hq => by cases hq)
theorem book_13x48_2 : BodiesOk Tryz.prog env (ctxG env false [] R0 [(47, [(2, p_13x47_2)])] []) := bodies_okG (ks := [47]) (by kernel_rfl) (List.forall_mem_cons.2 ⟨body_at (fn := f47) (body := b47) rfl hb47 pook_13x48_2_47, (fun _ hq => by cases hq)⟩)
theorem stok_13x48_2 (k : Nat) (x1 : (List Change)) (x2 : Int) (x3 : Int) (x4 : Int) (x5 : (List Change)) (x6 : Bool) (x7 : (List Change)) (x8 : Bool) (x9 : Bool) (x10 : Bool) (x11 : Bool) (x12 : (List Change)) (x13 : Int) (x14 : Int) (x15 : (List Int)) (x16 : (List Change)) (K : Ex → List (SV env.T) → Prop) : l_13x48_2 (k + 1) x1 x2 x3 x4 x5 x6 x7 x8 x9 x10 x11 x12 x13 x14 x15 x16 (fun y1 y2 y3 y4 y5 y6 y7 y8 y9 y10 y11 y12 y13 => K .ret [.int .i64 y1, .dat 60 y2, .bool y3, .dat 60 y4, .bool y5, .bool y6, .bool y7, .bool y8, .dat 60 y9, .int .i64 y10, .int .i64 y11, .arr .i64 6 y12, .dat 60 y13]) (fun y1 y2 y3 y4 y5 y6 y7 y8 y9 y10 y11 y12 y13 => K (.exit 0) [.int .i64 y1, .dat 60 y2, .bool y3, .dat 60 y4, .bool y5, .bool y6, .bool y7, .bool y8, .dat 60 y9, .int .i64 y10, .int .i64 y11, .arr .i64 6 y12, .dat 60 y13]) = vcCode env (ctxG env false [] R0 [(47, [(2, p_13x47_2)])] []) 2000 48 (loopAt b48 2) (insSt p_13x48_2.head [.dat 60 x1, .int .i64 x2, .int .i64 x3, .int .i64 x4, .dat 60 x5, .bool x6, .dat 60 x7, .bool x8, .bool x9, .bool x10, .bool x11, .dat 60 x12, .int .i64 x13, .int .i64 x14, .arr .i64 6 x15, .dat 60 x16]) (stepK p_13x48_2 (w_13x48_2 k) K) := by kernel_rfl
theorem wiok_13x48_2 (k : Nat) (vs : List (SV env.T)) (K : Ex → List (SV env.T) → Prop) (h : w_13x48_2 k vs K) : ∃ x1 : (List Change), ∃ x2 : Int, ∃ x3 : Int, ∃ x4 : Int, ∃ x5 : (List Change), ∃ x6 : Bool, ∃ x7 : (List Change), ∃ x8 : Bool, ∃ x9 : Bool, ∃ x10 : Bool, ∃ x11 : Bool, ∃ x12 : (List Change), ∃ x13 : Int, ∃ x14 : Int, ∃ x15 : (List Int), ∃ x16 : (List Change), vs = [.dat 60 x1, .int .i64 x2, .int .i64 x3, .int .i64 x4, .dat 60 x5, .bool x6, .dat 60 x7, .bool x8, .bool x9, .bool x10, .bool x11, .dat 60 x12, .int .i64 x13, .int .i64 x14, .arr .i64 6 x15, .dat 60 x16] ∧ l_13x48_2 k x1 x2 x3 x4 x5 x6 x7 x8 x9 x10 x11 x12 x13 x14 x15 x16 (fun y1 y2 y3 y4 y5 y6 y7 y8 y9 y10 y11 y12 y13 => K .ret [.int .i64 y1, .dat 60 y2, .bool y3, .dat 60 y4, .bool y5, .bool y6, .bool y7, .bool y8, .dat 60 y9, .int .i64 y10, .int .i64 y11, .arr .i64 6 y12, .dat 60 y13]) (fun y1 y2 y3 y4 y5 y6 y7 y8 y9 y10 y11 y12 y13 => K (.exit 0) [.int .i64 y1, .dat 60 y2, .bool y3, .dat 60 y4, .bool y5, .bool y6, .bool y7, .bool y8, .dat 60 y9, .int .i64 y10, .int .i64 y11, .arr .i64 6 y12, .dat 60 y13]) := by
  unfold w_13x48_2 at h
  replace h := dCD_spec h
  obtain ⟨x1, vs0, e0, h⟩ := h
  replace h := dCI_spec h
  obtain ⟨x2, vs1, e1, h⟩ := h
  replace h := dCI_spec h
  obtain ⟨x3, vs2, e2, h⟩ := h
  replace h := dCI_spec h
  obtain ⟨x4, vs3, e3, h⟩ := h
  replace h := dCD_spec h
  obtain ⟨x5, vs4, e4, h⟩ := h
  replace h := dCB_spec h
  obtain ⟨x6, vs5, e5, h⟩ := h
  replace h := dCD_spec h
  obtain ⟨x7, vs6, e6, h⟩ := h
  replace h := dCB_spec h
  obtain ⟨x8, vs7, e7, h⟩ := h
  replace h := dCB_spec h
  obtain ⟨x9, vs8, e8, h⟩ := h
  replace h := dCB_spec h
  obtain ⟨x10, vs9, e9, h⟩ := h
  replace h := dCB_spec h
  obtain ⟨x11, vs10, e10, h⟩ := h
  replace h := dCD_spec h
  obtain ⟨x12, vs11, e11, h⟩ := h
  replace h := dCI_spec h
  obtain ⟨x13, vs12, e12, h⟩ := h
  replace h := dCI_spec h
  obtain ⟨x14, vs13, e13, h⟩ := h
  replace h := dCA_spec h
  obtain ⟨x15, vs14, e14, h⟩ := h
  replace h := dCD_spec h
  obtain ⟨x16, vs15, e15, h⟩ := h
  replace h := dCE_spec h
  obtain ⟨e, h⟩ := h
  exact ⟨x1, x2, x3, x4, x5, x6, x7, x8, x9, x10, x11, x12, x13, x14, x15, x16, by rw [e0, e1, e2, e3, e4, e5, e6, e7, e8, e9, e10, e11, e12, e13, e14, e15, e], h⟩
theorem zeok_13x48_2 (x1 : (List Change)) (x2 : Int) (x3 : Int) (x4 : Int) (x5 : (List Change)) (x6 : Bool) (x7 : (List Change)) (x8 : Bool) (x9 : Bool) (x10 : Bool) (x11 : Bool) (x12 : (List Change)) (x13 : Int) (x14 : Int) (x15 : (List Int)) (x16 : (List Change)) (K : Ex → List (SV env.T) → Prop) : l_13x48_2 0 x1 x2 x3 x4 x5 x6 x7 x8 x9 x10 x11 x12 x13 x14 x15 x16 (fun y1 y2 y3 y4 y5 y6 y7 y8 y9 y10 y11 y12 y13 => K .ret [.int .i64 y1, .dat 60 y2, .bool y3, .dat 60 y4, .bool y5, .bool y6, .bool y7, .bool y8, .dat 60 y9, .int .i64 y10, .int .i64 y11, .arr .i64 6 y12, .dat 60 y13]) (fun y1 y2 y3 y4 y5 y6 y7 y8 y9 y10 y11 y12 y13 => K (.exit 0) [.int .i64 y1, .dat 60 y2, .bool y3, .dat 60 y4, .bool y5, .bool y6, .bool y7, .bool y8, .dat 60 y9, .int .i64 y10, .int .i64 y11, .arr .i64 6 y12, .dat 60 y13]) = False := by kernel_rfl
theorem ok_13x48_2 : PieceOk Tryz.prog env p_13x48_2 (.loop (loopAt b48 2)) := by
  refine loop_step (Wn := w_13x48_2) tab (ctxG_ok R0_ok false [] _ _) book_13x48_2 (pieces_sub pook_13x48_2_48 (by kernel_rfl)) rfl ?_ 2000 ?_
  · intro vs K h
    obtain ⟨x1, x2, x3, x4, x5, x6, x7, x8, x9, x10, x11, x12, x13, x14, x15, x16, _, h⟩ := wiok_13x48_2 0 vs K h
    exact Eq.mp (zeok_13x48_2 x1 x2 x3 x4 x5 x6 x7 x8 x9 x10 x11 x12 x13 x14 x15 x16 K) h
  · intro k vs K h
    obtain ⟨x1, x2, x3, x4, x5, x6, x7, x8, x9, x10, x11, x12, x13, x14, x15, x16, rfl, h⟩ := wiok_13x48_2 (k + 1) vs K h
    exact Eq.mp (stok_13x48_2 k x1 x2 x3 x4 x5 x6 x7 x8 x9 x10 x11 x12 x13 x14 x15 x16 K) h
theorem pooq_13_3_13 : PiecesOk Tryz.prog env (ctxG env false [] R0 [(47, [(2, p_13x47_2)]), (48, [(2, p_13x48_2)])] []) 13 b13 :=
  pieces_at (L := []) (S := []) (fun _ => rfl) (fun _ => rfl) (by kernel_rfl) (by kernel_rfl) (fun _ hq => by cases hq) (fun _ hq => by cases hq)
theorem pooq_13_3_47 : PiecesOk Tryz.prog env (ctxG env false [] R0 [(47, [(2, p_13x47_2)]), (48, [(2, p_13x48_2)])] []) 47 b47 :=
  pieces_at (L := [(2, p_13x47_2)]) (S := []) (fun _ => rfl) (fun _ => rfl) (by kernel_rfl) (by kernel_rfl) (List.forall_mem_cons.2 ⟨fun _ => ok_13x47_2, (fun _ hq => by cases hq)⟩) (fun _ hq => by cases hq)
theorem pooq_13_3_48 : PiecesOk Tryz.prog env (ctxG env false [] R0 [(47, [(2, p_13x47_2)]), (48, [(2, p_13x48_2)])] []) 48 b48 :=
  pieces_at (L := [(2, p_13x48_2)]) (S := []) (fun _ => rfl) (fun _ => rfl) (by kernel_rfl) (by kernel_rfl) (List.forall_mem_cons.2 ⟨fun _ => ok_13x48_2, (fun _ hq => by cases hq)⟩) (fun _ hq => by cases hq)
theorem booq_13_3 : BodiesOk Tryz.prog env (ctxG env false [] R0 [(47, [(2, p_13x47_2)]), (48, [(2, p_13x48_2)])] []) := bodies_okG (ks := [47, 48]) (by kernel_rfl) (List.forall_mem_cons.2 ⟨body_at (fn := f47) (body := b47) rfl hb47 pooq_13_3_47, (List.forall_mem_cons.2 ⟨body_at (fn := f48) (body := b48) rfl hb48 pooq_13_3_48, (fun _ hq => by cases hq)⟩)⟩)
theorem stoq_13_3 (x1 : Bool) (x2 : Int) (x3 : Int) (x4 : (List Int)) (x5 : (List Change)) (K : Ex → List (SV env.T) → Prop) : s_13_3  x1 x2 x3 x4 x5 (fun y1 => K .ret [.bool y1]) = vcCode env (ctxG env false [] R0 [(47, [(2, p_13x47_2)]), (48, [(2, p_13x48_2)])] []) 2000 13 (seqAt b13 3) (insSt q_13_3.head [.bool x1, .int .i64 x2, .int .i64 x3, .arr .i64 6 x4, .dat 60 x5]) (outP env q_13_3 K) := by kernel_rfl
theorem wioq_13_3 (vs : List (SV env.T)) (K : Ex → List (SV env.T) → Prop) (h : v_13_3 vs K) : ∃ x1 : Bool, ∃ x2 : Int, ∃ x3 : Int, ∃ x4 : (List Int), ∃ x5 : (List Change), vs = [.bool x1, .int .i64 x2, .int .i64 x3, .arr .i64 6 x4, .dat 60 x5] ∧ s_13_3  x1 x2 x3 x4 x5 (fun y1 => K .ret [.bool y1]) := by
  unfold v_13_3 at h
  replace h := dCB_spec h
  obtain ⟨x1, vs0, e0, h⟩ := h
  replace h := dCI_spec h
  obtain ⟨x2, vs1, e1, h⟩ := h
  replace h := dCI_spec h
  obtain ⟨x3, vs2, e2, h⟩ := h
  replace h := dCA_spec h
  obtain ⟨x4, vs3, e3, h⟩ := h
  replace h := dCD_spec h
  obtain ⟨x5, vs4, e4, h⟩ := h
  replace h := dCE_spec h
  obtain ⟨e, h⟩ := h
  exact ⟨x1, x2, x3, x4, x5, by rw [e0, e1, e2, e3, e4, e], h⟩
theorem oq_13_3 : PieceOk Tryz.prog env q_13_3 (seqAt b13 3) := by
  refine seq_step tab (ctxG_ok R0_ok false [] _ _) booq_13_3 (pieces_subS pooq_13_3_13 (by kernel_rfl)) 2000 ?_
  intro vs K h
  obtain ⟨x1, x2, x3, x4, x5, rfl, h⟩ := wioq_13_3 vs K h
  exact Eq.mp (stoq_13_3 x1 x2 x3 x4 x5 K) h
theorem po_13_13 : PiecesOk Tryz.prog env (ctxG env false [] R0 [(47, [(2, p_13x47_2)]), (48, [(2, p_13x48_2)])] [(13, [(3, q_13_3)])]) 13 b13 :=
  pieces_at (L := []) (S := [(3, q_13_3)]) (fun _ => rfl) (fun _ => rfl) (by kernel_rfl) (by kernel_rfl) (fun _ hq => by cases hq) (List.forall_mem_cons.2 ⟨fun _ => oq_13_3, (fun _ hq => by cases hq)⟩)
theorem po_13_47 : PiecesOk Tryz.prog env (ctxG env false [] R0 [(47, [(2, p_13x47_2)]), (48, [(2, p_13x48_2)])] [(13, [(3, q_13_3)])]) 47 b47 :=
  pieces_at (L := [(2, p_13x47_2)]) (S := []) (fun _ => rfl) (fun _ => rfl) (by kernel_rfl) (by kernel_rfl) (List.forall_mem_cons.2 ⟨fun _ => ok_13x47_2, (fun _ hq => by cases hq)⟩) (fun _ hq => by cases hq)
theorem po_13_48 : PiecesOk Tryz.prog env (ctxG env false [] R0 [(47, [(2, p_13x47_2)]), (48, [(2, p_13x48_2)])] [(13, [(3, q_13_3)])]) 48 b48 :=
  pieces_at (L := [(2, p_13x48_2)]) (S := []) (fun _ => rfl) (fun _ => rfl) (by kernel_rfl) (by kernel_rfl) (List.forall_mem_cons.2 ⟨fun _ => ok_13x48_2, (fun _ hq => by cases hq)⟩) (fun _ hq => by cases hq)
theorem bo_13 : BodiesOk Tryz.prog env (ctxG env false [] R0 [(47, [(2, p_13x47_2)]), (48, [(2, p_13x48_2)])] [(13, [(3, q_13_3)])]) := bodies_okG (ks := [13, 47, 48]) (by kernel_rfl) (List.forall_mem_cons.2 ⟨body_at (fn := f13) (body := b13) rfl hb13 po_13_13, (List.forall_mem_cons.2 ⟨body_at (fn := f47) (body := b47) rfl hb47 po_13_47, (List.forall_mem_cons.2 ⟨body_at (fn := f48) (body := b48) rfl hb48 po_13_48, (fun _ hq => by cases hq)⟩)⟩)⟩)
theorem eq_13 (x0 : Budget) (K : Y13 → Prop) : vcCode env (ctxG env false [] R0 [(47, [(2, p_13x47_2)]), (48, [(2, p_13x48_2)])] [(13, [(3, q_13_3)])]) 2000 13 b13 (entry env f13 [v25 x0]) (finR env f13 decR13 K) = B13 x0 K := by kernel_rfl
noncomputable def rule13 : Nat × Rule env := (13, ruleF env decA13 encR13 fun x => V13 x)
theorem r13 : RuleOk Tryz.prog env 13 rule13.2 :=
  rule_fun tab (ctxG_ok R0_ok false [] _ _) bo_13 (f := 13) (fn := f13) rfl hb13 po_13_13 2000 encA13 hA13 hR13 hD13 (fun _ => of_decide_eq_true (by kernel_rfl)) (fun x K => (eq_13 x K).trans (by rw [V13_eq]))
noncomputable def R13 : List (Nat × Rule env) := rule13 :: R0
theorem R13_ok : AllOk Tryz.prog env R13 := ⟨r13, R0_ok⟩
noncomputable def f46 : Func := Tryz.f46
noncomputable def b46 : Code := (Tryz.f46.body).getD .skip
theorem hb46 : f46.body = some b46 := by kernel_rfl
-- 24 queuelab/plot.left
noncomputable def f24 : Func := Tryz.f24
noncomputable def b24 : Code := (Tryz.f24.body).getD .skip
abbrev X24 := Budget × (List Int)
def encA24 (x : X24) : List (SV env.T) := [v25 x.1, v26 x.2]
def decA24 (l : List (SV env.T)) : Option X24 := match l with
  | [s0, s1] => match u25 s0, u26 s1 with
    | some x0, some x1 => some (x0, x1)
    | _, _ => none
  | _ => none
theorem hA24 (l : List (SV env.T)) (x : X24) (h : decA24 l = some x) : WkA env.has l (encA24 x) := by
  unfold decA24 at h; split at h
  · split at h
    · rename_i h0 h1; cases h; exact (.cons (u25_wk h0) (.cons (u26_wk h1) .nil))
    · cases h
  · cases h
abbrev Y24 := (List Int) × Bool
def encR24 (x : Y24) : List (SV env.T) := [v22 x.1, v4 x.2]
def decR24 (l : List (SV env.T)) : Option Y24 := match l with
  | [s0, s1] => match u22 s0, u4 s1 with
    | some x0, some x1 => some (x0, x1)
    | _, _ => none
  | _ => none
theorem hR24 (l : List (SV env.T)) (x : Y24) (h : decR24 l = some x) : WkA env.has l (encR24 x) := by
  unfold decR24 at h; split at h
  · split at h
    · rename_i h0 h1; cases h; exact (.cons (u22_wk h0) (.cons (u4_wk h1) .nil))
    · cases h
  · cases h
theorem hD24 (y : Y24) : isDataV (tupV (encR24 y)) = true := rfl
theorem hb24 : f24.body = some b24 := by kernel_rfl
def l_24_6 : Nat → Bool → (List Int) → Int → Int → (List Int) → (List Int) → Int → Int → (List Int) → (List Change) → (Bool → (List Int) → Prop) → (Bool → (List Int) → (List Int) → Prop) → Prop
  | 0 => fun _ _ _ _ _ _ _ _ _ _ _ _ => False
  | k + 1 => fun x1 x2 x3 x4 x5 x6 x7 x8 x9 x10 kr k0 ↦ br (decide (x4 < x3)) (br (inb x4 (↑x2.length : Int)) (br (decide (x2.getD x4.toNat (env.d 3) < -1)) (kr false [0, 0, 0, 0, 0, 0]) (br (decide (x2.getD x4.toNat (env.d 3) ≥ (↑x10.length : Int))) (kr false [0, 0, 0, 0, 0, 0]) (br (decide (x2.getD x4.toNat (env.d 3) ≥ 0)) (br (inb (x2.getD x4.toNat (env.d 3)) (↑x10.length : Int)) (br (inb (x10.getD (Int.toNat (x2.getD x4.toNat (env.d 3))) (env.d 60)).kind (↑6 : Int)) (br (inb (x10.getD (Int.toNat (x2.getD x4.toNat (env.d 3))) (env.d 60)).kind (↑6 : Int)) (br (inb (x2.getD x4.toNat (env.d 3)) (↑x10.length : Int)) (br (inb (x10.getD (Int.toNat (x2.getD x4.toNat (env.d 3))) (env.d 60)).kind (↑6 : Int)) (br (!decide ((x6.set (x10.getD (Int.toNat (x2.getD x4.toNat (env.d 3))) (env.d 60)).kind.toNat (IntKind.i64.wrap (x6.getD (x10.getD (Int.toNat (x2.getD x4.toNat (env.d 3))) (env.d 60)).kind.toNat 0 - 1))).getD (x10.getD (Int.toNat (x2.getD x4.toNat (env.d 3))) (env.d 60)).kind.toNat 0 ≥ 0)) (kr false [0, 0, 0, 0, 0, 0]) (l_24_6 k x1 x2 x3 (IntKind.i64.wrap (x4 + 1)) x5 (x6.set (x10.getD (Int.toNat (x2.getD x4.toNat (env.d 3))) (env.d 60)).kind.toNat (IntKind.i64.wrap (x6.getD (x10.getD (Int.toNat (x2.getD x4.toNat (env.d 3))) (env.d 60)).kind.toNat 0 - 1))) x7 x8 x9 x10 kr k0)) False) False) False) False) False) (l_24_6 k x1 x2 x3 (IntKind.i64.wrap (x4 + 1)) x5 x6 x7 x8 x9 x10 kr k0)))) False) (k0 x1 x5 x6)
def w_24_6 (k : Nat) (vs : List (SV env.T)) (K : Ex → List (SV env.T) → Prop) : Prop :=
  dCB vs fun x1 vs => dCD 3 vs fun x2 vs => dCI .i64 vs fun x3 vs => dCI .i64 vs fun x4 vs => dCA .i64 6 vs fun x5 vs => dCA .i64 6 vs fun x6 vs => dCI .i64 vs fun x7 vs => dCI .i64 vs fun x8 vs => dCA .i64 6 vs fun x9 vs => dCD 60 vs fun x10 vs => dCE vs (l_24_6 k x1 x2 x3 x4 x5 x6 x7 x8 x9 x10 (fun y1 y2 => K .ret [.bool y1, .arr .i64 6 y2]) (fun y1 y2 y3 => K (.exit 0) [.bool y1, .arr .i64 6 y2, .arr .i64 6 y3]))
def p_24_6 : Piece env := ⟨⟨[.any, .any, .any, .any, .ptr 0 0, .hole, .ptr 1 0, .fn 46 [.ptr 2 0, .ptr 1 0], .any, .any, .any, .any, .any, .any, .any, .any, .any, .any, .any, .any, .any, .any, .any, .any, .holeD 3, .hole, .hole, .any, .any, .any, .any, .any, .any, .any, .any, .any, .any], [], [(0, .cells 22 [.hole]), (1, .cells 22 [.hole]), (2, .cells 25 [.hole, .hole, .hole, .holeD 60])], 3⟩, exitF none [(0, ⟨[.any, .any, .any, .any, .ptr 0 0, .hole, .ptr 1 0, .any, .any, .any, .any, .any, .any, .any, .any, .any, .any, .any, .any, .any, .any, .any, .any, .any, .any, .any, .any, .any, .any, .any, .any, .any, .any, .any, .any, .any, .any], [], [(0, .cells 22 [.hole]), (1, .cells 22 [.hole])], 2⟩)] (some ⟨[.any, .any, .any, .any, .ptr 0 0, .hole, .any, .any, .any, .any, .any, .any, .any, .any, .any, .any, .any, .any, .any, .any, .any, .any, .any, .any, .any, .any, .any, .any, .any, .any, .any, .any, .any, .any, .any, .any, .any], [], [(0, .cells 22 [.hole])], 1⟩), fun vs K => ∃ k, w_24_6 k vs K⟩
def s_24_4 : (List Int) → Bool → Int → Int → (List Int) → (List Change) → (List Int) → (List Int) → (Bool → (List Int) → Prop) → Prop :=
  fun x1 x2 x3 x4 x5 x6 x7 x8 kr ↦ ∃ k11, l_24_6 k11 x2 x1 (↑x1.length : Int) 0 x7 x8 x3 x4 x5 x6 kr fun _ _ ↦ kr true
def v_24_4 (vs : List (SV env.T)) (K : Ex → List (SV env.T) → Prop) : Prop :=
  dCD 3 vs fun x1 vs => dCB vs fun x2 vs => dCI .i64 vs fun x3 vs => dCI .i64 vs fun x4 vs => dCA .i64 6 vs fun x5 vs => dCD 60 vs fun x6 vs => dCA .i64 6 vs fun x7 vs => dCA .i64 6 vs fun x8 vs => dCE vs (s_24_4 x1 x2 x3 x4 x5 x6 x7 x8 (fun y1 y2 => K .ret [.bool y1, .arr .i64 6 y2]))
def q_24_4 : Piece env := ⟨⟨[.any, .holeD 3, .ptr 0 0, .any, .ptr 1 0, .hole, .ptr 2 0, .any, .any, .any, .any, .any, .any, .any, .any, .any, .any, .any, .any, .any, .any, .any, .any, .any, .any, .any, .any, .any, .any, .any, .any, .any, .any, .any, .any, .any, .any], [], [(0, .cells 25 [.hole, .hole, .hole, .holeD 60]), (1, .cells 22 [.hole]), (2, .cells 22 [.hole])], 3⟩, exitF none [] (some ⟨[.any, .any, .any, .any, .ptr 0 0, .hole, .any, .any, .any, .any, .any, .any, .any, .any, .any, .any, .any, .any, .any, .any, .any, .any, .any, .any, .any, .any, .any, .any, .any, .any, .any, .any, .any, .any, .any, .any, .any], [], [(0, .cells 22 [.hole])], 1⟩), v_24_4⟩
noncomputable def B24 : Budget → (List Int) → (Y24 → Prop) → Prop :=
  fun x0 x1 K ↦ V13 x0 fun y3 ↦ br (!y3) (K ([0, 0, 0, 0, 0, 0], false)) (br (decide ((↑x1.length : Int) > x0.periods)) (K ([0, 0, 0, 0, 0, 0], false)) (s_24_4 x1 false x0.periods x0.length x0.left x0.choices [0, 0, 0, 0, 0, 0] x0.left fun y4 y5 ↦ K (y5, y4)))
theorem V24_ex : ∃ V : Budget → (List Int) → (Y24 → Prop) → Prop, V = B24 := ⟨_, rfl⟩
noncomputable def V24 : Budget → (List Int) → (Y24 → Prop) → Prop := Classical.choose V24_ex
theorem V24_eq : V24 = B24 := Classical.choose_spec V24_ex
theorem pook_24_6_24 : PiecesOk Tryz.prog env (ctxG env false [] R13 [] []) 24 b24 :=
  pieces_at (L := []) (S := []) (fun _ => rfl) (fun _ => rfl) (by kernel_rfl) (by kernel_rfl) (fun _ hq => by cases hq) (fun _ hq => by cases hq)
theorem book_24_6 : BodiesOk Tryz.prog env (ctxG env false [] R13 [] []) := bodies_okG (ks := []) (by kernel_rfl) (fun _ hq => by cases hq)
theorem stok_24_6 (k : Nat) (x1 : Bool) (x2 : (List Int)) (x3 : Int) (x4 : Int) (x5 : (List Int)) (x6 : (List Int)) (x7 : Int) (x8 : Int) (x9 : (List Int)) (x10 : (List Change)) (K : Ex → List (SV env.T) → Prop) : l_24_6 (k + 1) x1 x2 x3 x4 x5 x6 x7 x8 x9 x10 (fun y1 y2 => K .ret [.bool y1, .arr .i64 6 y2]) (fun y1 y2 y3 => K (.exit 0) [.bool y1, .arr .i64 6 y2, .arr .i64 6 y3]) = vcCode env (ctxG env false [] R13 [] []) 2000 24 (loopAt b24 6) (insSt p_24_6.head [.bool x1, .dat 3 x2, .int .i64 x3, .int .i64 x4, .arr .i64 6 x5, .arr .i64 6 x6, .int .i64 x7, .int .i64 x8, .arr .i64 6 x9, .dat 60 x10]) (stepK p_24_6 (w_24_6 k) K) := by kernel_rfl
theorem wiok_24_6 (k : Nat) (vs : List (SV env.T)) (K : Ex → List (SV env.T) → Prop) (h : w_24_6 k vs K) : ∃ x1 : Bool, ∃ x2 : (List Int), ∃ x3 : Int, ∃ x4 : Int, ∃ x5 : (List Int), ∃ x6 : (List Int), ∃ x7 : Int, ∃ x8 : Int, ∃ x9 : (List Int), ∃ x10 : (List Change), vs = [.bool x1, .dat 3 x2, .int .i64 x3, .int .i64 x4, .arr .i64 6 x5, .arr .i64 6 x6, .int .i64 x7, .int .i64 x8, .arr .i64 6 x9, .dat 60 x10] ∧ l_24_6 k x1 x2 x3 x4 x5 x6 x7 x8 x9 x10 (fun y1 y2 => K .ret [.bool y1, .arr .i64 6 y2]) (fun y1 y2 y3 => K (.exit 0) [.bool y1, .arr .i64 6 y2, .arr .i64 6 y3]) := by
  unfold w_24_6 at h
  replace h := dCB_spec h
  obtain ⟨x1, vs0, e0, h⟩ := h
  replace h := dCD_spec h
  obtain ⟨x2, vs1, e1, h⟩ := h
  replace h := dCI_spec h
  obtain ⟨x3, vs2, e2, h⟩ := h
  replace h := dCI_spec h
  obtain ⟨x4, vs3, e3, h⟩ := h
  replace h := dCA_spec h
  obtain ⟨x5, vs4, e4, h⟩ := h
  replace h := dCA_spec h
  obtain ⟨x6, vs5, e5, h⟩ := h
  replace h := dCI_spec h
  obtain ⟨x7, vs6, e6, h⟩ := h
  replace h := dCI_spec h
  obtain ⟨x8, vs7, e7, h⟩ := h
  replace h := dCA_spec h
  obtain ⟨x9, vs8, e8, h⟩ := h
  replace h := dCD_spec h
  obtain ⟨x10, vs9, e9, h⟩ := h
  replace h := dCE_spec h
  obtain ⟨e, h⟩ := h
  exact ⟨x1, x2, x3, x4, x5, x6, x7, x8, x9, x10, by rw [e0, e1, e2, e3, e4, e5, e6, e7, e8, e9, e], h⟩
theorem zeok_24_6 (x1 : Bool) (x2 : (List Int)) (x3 : Int) (x4 : Int) (x5 : (List Int)) (x6 : (List Int)) (x7 : Int) (x8 : Int) (x9 : (List Int)) (x10 : (List Change)) (K : Ex → List (SV env.T) → Prop) : l_24_6 0 x1 x2 x3 x4 x5 x6 x7 x8 x9 x10 (fun y1 y2 => K .ret [.bool y1, .arr .i64 6 y2]) (fun y1 y2 y3 => K (.exit 0) [.bool y1, .arr .i64 6 y2, .arr .i64 6 y3]) = False := by kernel_rfl
theorem ok_24_6 : PieceOk Tryz.prog env p_24_6 (.loop (loopAt b24 6)) := by
  refine loop_step (Wn := w_24_6) tab (ctxG_ok R13_ok false [] _ _) book_24_6 (pieces_sub pook_24_6_24 (by kernel_rfl)) rfl ?_ 2000 ?_
  · intro vs K h
    obtain ⟨x1, x2, x3, x4, x5, x6, x7, x8, x9, x10, _, h⟩ := wiok_24_6 0 vs K h
    exact Eq.mp (zeok_24_6 x1 x2 x3 x4 x5 x6 x7 x8 x9 x10 K) h
  · intro k vs K h
    obtain ⟨x1, x2, x3, x4, x5, x6, x7, x8, x9, x10, rfl, h⟩ := wiok_24_6 (k + 1) vs K h
    exact Eq.mp (stok_24_6 k x1 x2 x3 x4 x5 x6 x7 x8 x9 x10 K) h
theorem pooq_24_4_24 : PiecesOk Tryz.prog env (ctxG env false [] R13 [(24, [(6, p_24_6)])] []) 24 b24 :=
  pieces_at (L := [(6, p_24_6)]) (S := []) (fun _ => rfl) (fun _ => rfl) (by kernel_rfl) (by kernel_rfl) (List.forall_mem_cons.2 ⟨fun _ => ok_24_6, (fun _ hq => by cases hq)⟩) (fun _ hq => by cases hq)
theorem booq_24_4 : BodiesOk Tryz.prog env (ctxG env false [] R13 [(24, [(6, p_24_6)])] []) := bodies_okG (ks := [24]) (by kernel_rfl) (List.forall_mem_cons.2 ⟨body_at (fn := f24) (body := b24) rfl hb24 pooq_24_4_24, (fun _ hq => by cases hq)⟩)
theorem stoq_24_4 (x1 : (List Int)) (x2 : Bool) (x3 : Int) (x4 : Int) (x5 : (List Int)) (x6 : (List Change)) (x7 : (List Int)) (x8 : (List Int)) (K : Ex → List (SV env.T) → Prop) : s_24_4  x1 x2 x3 x4 x5 x6 x7 x8 (fun y1 y2 => K .ret [.bool y1, .arr .i64 6 y2]) = vcCode env (ctxG env false [] R13 [(24, [(6, p_24_6)])] []) 2000 24 (seqAt b24 4) (insSt q_24_4.head [.dat 3 x1, .bool x2, .int .i64 x3, .int .i64 x4, .arr .i64 6 x5, .dat 60 x6, .arr .i64 6 x7, .arr .i64 6 x8]) (outP env q_24_4 K) := by kernel_rfl
theorem wioq_24_4 (vs : List (SV env.T)) (K : Ex → List (SV env.T) → Prop) (h : v_24_4 vs K) : ∃ x1 : (List Int), ∃ x2 : Bool, ∃ x3 : Int, ∃ x4 : Int, ∃ x5 : (List Int), ∃ x6 : (List Change), ∃ x7 : (List Int), ∃ x8 : (List Int), vs = [.dat 3 x1, .bool x2, .int .i64 x3, .int .i64 x4, .arr .i64 6 x5, .dat 60 x6, .arr .i64 6 x7, .arr .i64 6 x8] ∧ s_24_4  x1 x2 x3 x4 x5 x6 x7 x8 (fun y1 y2 => K .ret [.bool y1, .arr .i64 6 y2]) := by
  unfold v_24_4 at h
  replace h := dCD_spec h
  obtain ⟨x1, vs0, e0, h⟩ := h
  replace h := dCB_spec h
  obtain ⟨x2, vs1, e1, h⟩ := h
  replace h := dCI_spec h
  obtain ⟨x3, vs2, e2, h⟩ := h
  replace h := dCI_spec h
  obtain ⟨x4, vs3, e3, h⟩ := h
  replace h := dCA_spec h
  obtain ⟨x5, vs4, e4, h⟩ := h
  replace h := dCD_spec h
  obtain ⟨x6, vs5, e5, h⟩ := h
  replace h := dCA_spec h
  obtain ⟨x7, vs6, e6, h⟩ := h
  replace h := dCA_spec h
  obtain ⟨x8, vs7, e7, h⟩ := h
  replace h := dCE_spec h
  obtain ⟨e, h⟩ := h
  exact ⟨x1, x2, x3, x4, x5, x6, x7, x8, by rw [e0, e1, e2, e3, e4, e5, e6, e7, e], h⟩
theorem oq_24_4 : PieceOk Tryz.prog env q_24_4 (seqAt b24 4) := by
  refine seq_step tab (ctxG_ok R13_ok false [] _ _) booq_24_4 (pieces_subS pooq_24_4_24 (by kernel_rfl)) 2000 ?_
  intro vs K h
  obtain ⟨x1, x2, x3, x4, x5, x6, x7, x8, rfl, h⟩ := wioq_24_4 vs K h
  exact Eq.mp (stoq_24_4 x1 x2 x3 x4 x5 x6 x7 x8 K) h
theorem po_24_24 : PiecesOk Tryz.prog env (ctxG env false [] R13 [(24, [(6, p_24_6)])] [(24, [(4, q_24_4)])]) 24 b24 :=
  pieces_at (L := [(6, p_24_6)]) (S := [(4, q_24_4)]) (fun _ => rfl) (fun _ => rfl) (by kernel_rfl) (by kernel_rfl) (List.forall_mem_cons.2 ⟨fun _ => ok_24_6, (fun _ hq => by cases hq)⟩) (List.forall_mem_cons.2 ⟨fun _ => oq_24_4, (fun _ hq => by cases hq)⟩)
theorem bo_24 : BodiesOk Tryz.prog env (ctxG env false [] R13 [(24, [(6, p_24_6)])] [(24, [(4, q_24_4)])]) := bodies_okG (ks := [24]) (by kernel_rfl) (List.forall_mem_cons.2 ⟨body_at (fn := f24) (body := b24) rfl hb24 po_24_24, (fun _ hq => by cases hq)⟩)
theorem eq_24 (x0 : Budget) (x1 : (List Int)) (K : Y24 → Prop) : vcCode env (ctxG env false [] R13 [(24, [(6, p_24_6)])] [(24, [(4, q_24_4)])]) 2000 24 b24 (entry env f24 [v25 x0, v26 x1]) (finR env f24 decR24 K) = B24 x0 x1 K := by kernel_rfl
noncomputable def rule24 : Nat × Rule env := (24, ruleF env decA24 encR24 fun x => V24 x.1 x.2)
theorem r24 : RuleOk Tryz.prog env 24 rule24.2 :=
  rule_fun tab (ctxG_ok R13_ok false [] _ _) bo_24 (f := 24) (fn := f24) rfl hb24 po_24_24 2000 encA24 hA24 hR24 hD24 (fun _ => of_decide_eq_true (by kernel_rfl)) (fun x K => (eq_24 x.1 x.2 K).trans (by rw [V24_eq]))
noncomputable def R24 : List (Nat × Rule env) := rule24 :: R13
theorem R24_ok : AllOk Tryz.prog env R24 := ⟨r24, R13_ok⟩
-- 12 queuelab/plot.Fits
noncomputable def f12 : Func := Tryz.f12
noncomputable def b12 : Code := (Tryz.f12.body).getD .skip
abbrev X12 := Budget × (List Int)
def encA12 (x : X12) : List (SV env.T) := [v25 x.1, v26 x.2]
def decA12 (l : List (SV env.T)) : Option X12 := match l with
  | [s0, s1] => match u25 s0, u26 s1 with
    | some x0, some x1 => some (x0, x1)
    | _, _ => none
  | _ => none
theorem hA12 (l : List (SV env.T)) (x : X12) (h : decA12 l = some x) : WkA env.has l (encA12 x) := by
  unfold decA12 at h; split at h
  · split at h
    · rename_i h0 h1; cases h; exact (.cons (u25_wk h0) (.cons (u26_wk h1) .nil))
    · cases h
  · cases h
abbrev Y12 := Bool
def encR12 (x : Y12) : List (SV env.T) := [v4 x]
def decR12 (l : List (SV env.T)) : Option Y12 := match l with
  | [s0] => match u4 s0 with
    | some x0 => some (x0)
    | _ => none
  | _ => none
theorem hR12 (l : List (SV env.T)) (x : Y12) (h : decR12 l = some x) : WkA env.has l (encR12 x) := by
  unfold decR12 at h; split at h
  · split at h
    · rename_i h0; cases h; exact (.cons (u4_wk h0) .nil)
    · cases h
  · cases h
theorem hD12 (y : Y12) : isDataV (tupV (encR12 y)) = true := rfl
theorem hb12 : f12.body = some b12 := by kernel_rfl
noncomputable def B12 : Budget → (List Int) → (Y12 → Prop) → Prop :=
  fun x0 x1 K ↦ V24 x0 x1 fun y3 ↦ K y3.snd
theorem V12_ex : ∃ V : Budget → (List Int) → (Y12 → Prop) → Prop, V = B12 := ⟨_, rfl⟩
noncomputable def V12 : Budget → (List Int) → (Y12 → Prop) → Prop := Classical.choose V12_ex
theorem V12_eq : V12 = B12 := Classical.choose_spec V12_ex
theorem po_12_12 : PiecesOk Tryz.prog env (ctxG env false [] R24 [] []) 12 b12 :=
  pieces_at (L := []) (S := []) (fun _ => rfl) (fun _ => rfl) (by kernel_rfl) (by kernel_rfl) (fun _ hq => by cases hq) (fun _ hq => by cases hq)
theorem bo_12 : BodiesOk Tryz.prog env (ctxG env false [] R24 [] []) := bodies_okG (ks := []) (by kernel_rfl) (fun _ hq => by cases hq)
theorem eq_12 (x0 : Budget) (x1 : (List Int)) (K : Y12 → Prop) : vcCode env (ctxG env false [] R24 [] []) 2000 12 b12 (entry env f12 [v25 x0, v26 x1]) (finR env f12 decR12 K) = B12 x0 x1 K := by kernel_rfl
noncomputable def rule12 : Nat × Rule env := (12, ruleF env decA12 encR12 fun x => V12 x.1 x.2)
theorem r12 : RuleOk Tryz.prog env 12 rule12.2 :=
  rule_fun tab (ctxG_ok R24_ok false [] _ _) bo_12 (f := 12) (fn := f12) rfl hb12 po_12_12 2000 encA12 hA12 hR12 hD12 (fun _ => of_decide_eq_true (by kernel_rfl)) (fun x K => (eq_12 x.1 x.2 K).trans (by rw [V12_eq]))
noncomputable def R12 : List (Nat × Rule env) := rule12 :: R24
theorem R12_ok : AllOk Tryz.prog env R12 := ⟨r12, R24_ok⟩
-- 11 queuelab/plot.Choices
noncomputable def f11 : Func := Tryz.f11
noncomputable def b11 : Code := (Tryz.f11.body).getD .skip
abbrev X11 := Budget × (List Int)
def encA11 (x : X11) : List (SV env.T) := [v25 x.1, v26 x.2]
def decA11 (l : List (SV env.T)) : Option X11 := match l with
  | [s0, s1] => match u25 s0, u26 s1 with
    | some x0, some x1 => some (x0, x1)
    | _, _ => none
  | _ => none
theorem hA11 (l : List (SV env.T)) (x : X11) (h : decA11 l = some x) : WkA env.has l (encA11 x) := by
  unfold decA11 at h; split at h
  · split at h
    · rename_i h0 h1; cases h; exact (.cons (u25_wk h0) (.cons (u26_wk h1) .nil))
    · cases h
  · cases h
abbrev Y11 := (List Int)
def encR11 (x : Y11) : List (SV env.T) := [v26 x]
def decR11 (l : List (SV env.T)) : Option Y11 := match l with
  | [s0] => match u26 s0 with
    | some x0 => some (x0)
    | _ => none
  | _ => none
theorem hR11 (l : List (SV env.T)) (x : Y11) (h : decR11 l = some x) : WkA env.has l (encR11 x) := by
  unfold decR11 at h; split at h
  · split at h
    · rename_i h0; cases h; exact (.cons (u26_wk h0) .nil)
    · cases h
  · cases h
theorem hD11 (y : Y11) : isDataV (tupV (encR11 y)) = true := rfl
theorem hb11 : f11.body = some b11 := by kernel_rfl
def l_11_8 : Nat → (List Change) → Int → Int → (List Int) → (List Int) → ((List Int) → Prop) → Prop
  | 0 => fun _ _ _ _ _ _ => False
  | k + 1 => fun x1 x2 x3 x4 x5 k0 ↦ br (decide (x3 < x2)) (br (inb x3 (↑x1.length : Int)) (br (inb (x1.getD x3.toNat (env.d 60)).kind (↑6 : Int)) (br (decide (x4.getD (x1.getD x3.toNat (env.d 60)).kind.toNat 0 > 0)) (br (roomB (x5 ++ [x3]).length (bytesB env 3)) (l_11_8 k x1 x2 (IntKind.i64.wrap (x3 + 1)) x4 (x5 ++ [x3]) k0) False) (l_11_8 k x1 x2 (IntKind.i64.wrap (x3 + 1)) x4 x5 k0)) False) False) (k0 x5)
def w_11_8 (k : Nat) (vs : List (SV env.T)) (K : Ex → List (SV env.T) → Prop) : Prop :=
  dCN vs fun vs => dCD 60 vs fun x1 vs => dCI .i64 vs fun x2 vs => dCI .i64 vs fun x3 vs => dCA .i64 6 vs fun x4 vs => dCD 3 vs fun x5 vs => dCE vs (l_11_8 k x1 x2 x3 x4 x5 (fun y1 => K (.exit 0) [.nils, .dat 3 y1]))
def p_11_8 : Piece env := ⟨⟨[.any, .any, .any, .any, .hole, .ptr 0 0, .any, .row 1, .any, .any, .any, .any, .any, .any, .any, .any, .any, .any, .any, .any, .any, .any, .any, .any, .any, .any, .any, .any, .any, .any, .any, .holeD 60, .hole, .hole, .any, .any, .any, .any, .any, .any, .any, .any, .any, .any, .any, .any, .any, .any, .any], [], [(0, .cells 22 [.hole]), (1, .row 3)], 2⟩, exitF none [(0, ⟨[.any, .any, .any, .any, .hole, .any, .any, .row 0, .any, .any, .any, .any, .any, .any, .any, .any, .any, .any, .any, .any, .any, .any, .any, .any, .any, .any, .any, .any, .any, .any, .any, .any, .any, .any, .any, .any, .any, .any, .any, .any, .any, .any, .any, .any, .any, .any, .any, .any, .any], [], [(0, .row 3)], 1⟩)] none, fun vs K => ∃ k, w_11_8 k vs K⟩
def s_11_4 : Int → Int → (List Int) → (List Change) → (List Int) → ((List Int) → Prop) → Prop :=
  fun _ _ _ x4 x5 kr ↦ br (x5 == List.replicate 6 0) (kr [-1]) (∃ k8, l_11_8 k8 x4 (↑x4.length : Int) 0 x5 [-1] kr)
def v_11_4 (vs : List (SV env.T)) (K : Ex → List (SV env.T) → Prop) : Prop :=
  dCN vs fun vs => dCI .i64 vs fun x1 vs => dCI .i64 vs fun x2 vs => dCA .i64 6 vs fun x3 vs => dCD 60 vs fun x4 vs => dCA .i64 6 vs fun x5 vs => dCE vs (s_11_4 x1 x2 x3 x4 x5 (fun y1 => K .ret [.dat 3 y1]))
def q_11_4 : Piece env := ⟨⟨[.any, .any, .ptr 0 0, .any, .hole, .ptr 1 0, .any, .any, .any, .any, .any, .any, .any, .any, .any, .any, .any, .any, .any, .any, .any, .any, .any, .any, .any, .any, .any, .any, .any, .any, .any, .any, .any, .any, .any, .any, .any, .any, .any, .any, .any, .any, .any, .any, .any, .any, .any, .any, .any], [], [(0, .cells 25 [.hole, .hole, .hole, .holeD 60]), (1, .cells 22 [.hole])], 2⟩, exitF none [] (some ⟨[.any, .any, .any, .any, .row 0, .any, .any, .any, .any, .any, .any, .any, .any, .any, .any, .any, .any, .any, .any, .any, .any, .any, .any, .any, .any, .any, .any, .any, .any, .any, .any, .any, .any, .any, .any, .any, .any, .any, .any, .any, .any, .any, .any, .any, .any, .any, .any, .any, .any], [], [(0, .row 3)], 1⟩), v_11_4⟩
noncomputable def B11 : Budget → (List Int) → (Y11 → Prop) → Prop :=
  fun x0 x1 K ↦ V24 x0 x1 fun y3 ↦ br (!y3.snd) (K []) (br (decide ((↑x1.length : Int) ≥ x0.periods)) (K []) (s_11_4 x0.periods x0.length x0.left x0.choices y3.fst K))
theorem V11_ex : ∃ V : Budget → (List Int) → (Y11 → Prop) → Prop, V = B11 := ⟨_, rfl⟩
noncomputable def V11 : Budget → (List Int) → (Y11 → Prop) → Prop := Classical.choose V11_ex
theorem V11_eq : V11 = B11 := Classical.choose_spec V11_ex
theorem pook_11_8_11 : PiecesOk Tryz.prog env (ctxG env false [] R12 [] []) 11 b11 :=
  pieces_at (L := []) (S := []) (fun _ => rfl) (fun _ => rfl) (by kernel_rfl) (by kernel_rfl) (fun _ hq => by cases hq) (fun _ hq => by cases hq)
theorem book_11_8 : BodiesOk Tryz.prog env (ctxG env false [] R12 [] []) := bodies_okG (ks := []) (by kernel_rfl) (fun _ hq => by cases hq)
theorem stok_11_8 (k : Nat) (x1 : (List Change)) (x2 : Int) (x3 : Int) (x4 : (List Int)) (x5 : (List Int)) (K : Ex → List (SV env.T) → Prop) : l_11_8 (k + 1) x1 x2 x3 x4 x5 (fun y1 => K (.exit 0) [.nils, .dat 3 y1]) = vcCode env (ctxG env false [] R12 [] []) 2000 11 (loopAt b11 8) (insSt p_11_8.head [.nils, .dat 60 x1, .int .i64 x2, .int .i64 x3, .arr .i64 6 x4, .dat 3 x5]) (stepK p_11_8 (w_11_8 k) K) := by kernel_rfl
theorem wiok_11_8 (k : Nat) (vs : List (SV env.T)) (K : Ex → List (SV env.T) → Prop) (h : w_11_8 k vs K) : ∃ x1 : (List Change), ∃ x2 : Int, ∃ x3 : Int, ∃ x4 : (List Int), ∃ x5 : (List Int), vs = [.nils, .dat 60 x1, .int .i64 x2, .int .i64 x3, .arr .i64 6 x4, .dat 3 x5] ∧ l_11_8 k x1 x2 x3 x4 x5 (fun y1 => K (.exit 0) [.nils, .dat 3 y1]) := by
  unfold w_11_8 at h
  replace h := dCN_spec h
  obtain ⟨vs0, e0, h⟩ := h
  replace h := dCD_spec h
  obtain ⟨x1, vs1, e1, h⟩ := h
  replace h := dCI_spec h
  obtain ⟨x2, vs2, e2, h⟩ := h
  replace h := dCI_spec h
  obtain ⟨x3, vs3, e3, h⟩ := h
  replace h := dCA_spec h
  obtain ⟨x4, vs4, e4, h⟩ := h
  replace h := dCD_spec h
  obtain ⟨x5, vs5, e5, h⟩ := h
  replace h := dCE_spec h
  obtain ⟨e, h⟩ := h
  exact ⟨x1, x2, x3, x4, x5, by rw [e0, e1, e2, e3, e4, e5, e], h⟩
theorem zeok_11_8 (x1 : (List Change)) (x2 : Int) (x3 : Int) (x4 : (List Int)) (x5 : (List Int)) (K : Ex → List (SV env.T) → Prop) : l_11_8 0 x1 x2 x3 x4 x5 (fun y1 => K (.exit 0) [.nils, .dat 3 y1]) = False := by kernel_rfl
theorem ok_11_8 : PieceOk Tryz.prog env p_11_8 (.loop (loopAt b11 8)) := by
  refine loop_step (Wn := w_11_8) tab (ctxG_ok R12_ok false [] _ _) book_11_8 (pieces_sub pook_11_8_11 (by kernel_rfl)) rfl ?_ 2000 ?_
  · intro vs K h
    obtain ⟨x1, x2, x3, x4, x5, _, h⟩ := wiok_11_8 0 vs K h
    exact Eq.mp (zeok_11_8 x1 x2 x3 x4 x5 K) h
  · intro k vs K h
    obtain ⟨x1, x2, x3, x4, x5, rfl, h⟩ := wiok_11_8 (k + 1) vs K h
    exact Eq.mp (stok_11_8 k x1 x2 x3 x4 x5 K) h
theorem pooq_11_4_11 : PiecesOk Tryz.prog env (ctxG env false [] R12 [(11, [(8, p_11_8)])] []) 11 b11 :=
  pieces_at (L := [(8, p_11_8)]) (S := []) (fun _ => rfl) (fun _ => rfl) (by kernel_rfl) (by kernel_rfl) (List.forall_mem_cons.2 ⟨fun _ => ok_11_8, (fun _ hq => by cases hq)⟩) (fun _ hq => by cases hq)
theorem booq_11_4 : BodiesOk Tryz.prog env (ctxG env false [] R12 [(11, [(8, p_11_8)])] []) := bodies_okG (ks := [11]) (by kernel_rfl) (List.forall_mem_cons.2 ⟨body_at (fn := f11) (body := b11) rfl hb11 pooq_11_4_11, (fun _ hq => by cases hq)⟩)
theorem stoq_11_4 (x1 : Int) (x2 : Int) (x3 : (List Int)) (x4 : (List Change)) (x5 : (List Int)) (K : Ex → List (SV env.T) → Prop) : s_11_4  x1 x2 x3 x4 x5 (fun y1 => K .ret [.dat 3 y1]) = vcCode env (ctxG env false [] R12 [(11, [(8, p_11_8)])] []) 2000 11 (seqAt b11 4) (insSt q_11_4.head [.nils, .int .i64 x1, .int .i64 x2, .arr .i64 6 x3, .dat 60 x4, .arr .i64 6 x5]) (outP env q_11_4 K) := by kernel_rfl
theorem wioq_11_4 (vs : List (SV env.T)) (K : Ex → List (SV env.T) → Prop) (h : v_11_4 vs K) : ∃ x1 : Int, ∃ x2 : Int, ∃ x3 : (List Int), ∃ x4 : (List Change), ∃ x5 : (List Int), vs = [.nils, .int .i64 x1, .int .i64 x2, .arr .i64 6 x3, .dat 60 x4, .arr .i64 6 x5] ∧ s_11_4  x1 x2 x3 x4 x5 (fun y1 => K .ret [.dat 3 y1]) := by
  unfold v_11_4 at h
  replace h := dCN_spec h
  obtain ⟨vs0, e0, h⟩ := h
  replace h := dCI_spec h
  obtain ⟨x1, vs1, e1, h⟩ := h
  replace h := dCI_spec h
  obtain ⟨x2, vs2, e2, h⟩ := h
  replace h := dCA_spec h
  obtain ⟨x3, vs3, e3, h⟩ := h
  replace h := dCD_spec h
  obtain ⟨x4, vs4, e4, h⟩ := h
  replace h := dCA_spec h
  obtain ⟨x5, vs5, e5, h⟩ := h
  replace h := dCE_spec h
  obtain ⟨e, h⟩ := h
  exact ⟨x1, x2, x3, x4, x5, by rw [e0, e1, e2, e3, e4, e5, e], h⟩
theorem oq_11_4 : PieceOk Tryz.prog env q_11_4 (seqAt b11 4) := by
  refine seq_step tab (ctxG_ok R12_ok false [] _ _) booq_11_4 (pieces_subS pooq_11_4_11 (by kernel_rfl)) 2000 ?_
  intro vs K h
  obtain ⟨x1, x2, x3, x4, x5, rfl, h⟩ := wioq_11_4 vs K h
  exact Eq.mp (stoq_11_4 x1 x2 x3 x4 x5 K) h
theorem po_11_11 : PiecesOk Tryz.prog env (ctxG env false [] R12 [(11, [(8, p_11_8)])] [(11, [(4, q_11_4)])]) 11 b11 :=
  pieces_at (L := [(8, p_11_8)]) (S := [(4, q_11_4)]) (fun _ => rfl) (fun _ => rfl) (by kernel_rfl) (by kernel_rfl) (List.forall_mem_cons.2 ⟨fun _ => ok_11_8, (fun _ hq => by cases hq)⟩) (List.forall_mem_cons.2 ⟨fun _ => oq_11_4, (fun _ hq => by cases hq)⟩)
theorem bo_11 : BodiesOk Tryz.prog env (ctxG env false [] R12 [(11, [(8, p_11_8)])] [(11, [(4, q_11_4)])]) := bodies_okG (ks := [11]) (by kernel_rfl) (List.forall_mem_cons.2 ⟨body_at (fn := f11) (body := b11) rfl hb11 po_11_11, (fun _ hq => by cases hq)⟩)
theorem eq_11 (x0 : Budget) (x1 : (List Int)) (K : Y11 → Prop) : vcCode env (ctxG env false [] R12 [(11, [(8, p_11_8)])] [(11, [(4, q_11_4)])]) 2000 11 b11 (entry env f11 [v25 x0, v26 x1]) (finR env f11 decR11 K) = B11 x0 x1 K := by kernel_rfl
noncomputable def rule11 : Nat × Rule env := (11, ruleF env decA11 encR11 fun x => V11 x.1 x.2)
theorem r11 : RuleOk Tryz.prog env 11 rule11.2 :=
  rule_fun tab (ctxG_ok R12_ok false [] _ _) bo_11 (f := 11) (fn := f11) rfl hb11 po_11_11 2000 encA11 hA11 hR11 hD11 (fun _ => of_decide_eq_true (by kernel_rfl)) (fun x K => (eq_11 x.1 x.2 K).trans (by rw [V11_eq]))
noncomputable def R11 : List (Nat × Rule env) := rule11 :: R12
theorem R11_ok : AllOk Tryz.prog env R11 := ⟨r11, R12_ok⟩
-- 10 queuelab/queuelabref38.Few
noncomputable def f10 : Func := Tryz.f10
noncomputable def b10 : Code := (Tryz.f10.body).getD .skip
abbrev X10 := Budget × (List Int)
def encA10 (x : X10) : List (SV env.T) := [v25 x.1, v26 x.2]
def decA10 (l : List (SV env.T)) : Option X10 := match l with
  | [s0, s1] => match u25 s0, u26 s1 with
    | some x0, some x1 => some (x0, x1)
    | _, _ => none
  | _ => none
theorem hA10 (l : List (SV env.T)) (x : X10) (h : decA10 l = some x) : WkA env.has l (encA10 x) := by
  unfold decA10 at h; split at h
  · split at h
    · rename_i h0 h1; cases h; exact (.cons (u25_wk h0) (.cons (u26_wk h1) .nil))
    · cases h
  · cases h
abbrev Y10 := Bool
def encR10 (x : Y10) : List (SV env.T) := [v4 x]
def decR10 (l : List (SV env.T)) : Option Y10 := match l with
  | [s0] => match u4 s0 with
    | some x0 => some (x0)
    | _ => none
  | _ => none
theorem hR10 (l : List (SV env.T)) (x : Y10) (h : decR10 l = some x) : WkA env.has l (encR10 x) := by
  unfold decR10 at h; split at h
  · split at h
    · rename_i h0; cases h; exact (.cons (u4_wk h0) .nil)
    · cases h
  · cases h
theorem hD10 (y : Y10) : isDataV (tupV (encR10 y)) = true := rfl
theorem hb10 : f10.body = some b10 := by kernel_rfl
noncomputable def B10 : Budget → (List Int) → (Y10 → Prop) → Prop :=
  fun x0 x1 K ↦ br (decide ((↑x0.choices.length : Int) ≤ 20)) (K (decide ((↑x1.length : Int) ≤ 20))) (K false)
theorem V10_ex : ∃ V : Budget → (List Int) → (Y10 → Prop) → Prop, V = B10 := ⟨_, rfl⟩
noncomputable def V10 : Budget → (List Int) → (Y10 → Prop) → Prop := Classical.choose V10_ex
theorem V10_eq : V10 = B10 := Classical.choose_spec V10_ex
theorem po_10_10 : PiecesOk Tryz.prog env (ctxG env false [] R11 [] []) 10 b10 :=
  pieces_at (L := []) (S := []) (fun _ => rfl) (fun _ => rfl) (by kernel_rfl) (by kernel_rfl) (fun _ hq => by cases hq) (fun _ hq => by cases hq)
theorem bo_10 : BodiesOk Tryz.prog env (ctxG env false [] R11 [] []) := bodies_okG (ks := []) (by kernel_rfl) (fun _ hq => by cases hq)
theorem eq_10 (x0 : Budget) (x1 : (List Int)) (K : Y10 → Prop) : vcCode env (ctxG env false [] R11 [] []) 2000 10 b10 (entry env f10 [v25 x0, v26 x1]) (finR env f10 decR10 K) = B10 x0 x1 K := by kernel_rfl
noncomputable def rule10 : Nat × Rule env := (10, ruleF env decA10 encR10 fun x => V10 x.1 x.2)
theorem r10 : RuleOk Tryz.prog env 10 rule10.2 :=
  rule_fun tab (ctxG_ok R11_ok false [] _ _) bo_10 (f := 10) (fn := f10) rfl hb10 po_10_10 2000 encA10 hA10 hR10 hD10 (fun _ => of_decide_eq_true (by kernel_rfl)) (fun x K => (eq_10 x.1 x.2 K).trans (by rw [V10_eq]))
noncomputable def R10 : List (Nat × Rule env) := rule10 :: R11
theorem R10_ok : AllOk Tryz.prog env R10 := ⟨r10, R11_ok⟩
-- 14 queuelab/queuelabref38.Used
noncomputable def f14 : Func := Tryz.f14
noncomputable def b14 : Code := (Tryz.f14.body).getD .skip
abbrev X14 := Budget × (List Int) × Int
def encA14 (x : X14) : List (SV env.T) := [v25 x.1, v26 x.2.1, v3 x.2.2]
def decA14 (l : List (SV env.T)) : Option X14 := match l with
  | [s0, s1, s2] => match u25 s0, u26 s1, u3 s2 with
    | some x0, some x1, some x2 => some (x0, x1, x2)
    | _, _, _ => none
  | _ => none
theorem hA14 (l : List (SV env.T)) (x : X14) (h : decA14 l = some x) : WkA env.has l (encA14 x) := by
  unfold decA14 at h; split at h
  · split at h
    · rename_i h0 h1 h2; cases h; exact (.cons (u25_wk h0) (.cons (u26_wk h1) (.cons (u3_wk h2) .nil)))
    · cases h
  · cases h
abbrev Y14 := Int
def encR14 (x : Y14) : List (SV env.T) := [v3 x]
def decR14 (l : List (SV env.T)) : Option Y14 := match l with
  | [s0] => match u3 s0 with
    | some x0 => some (x0)
    | _ => none
  | _ => none
theorem hR14 (l : List (SV env.T)) (x : Y14) (h : decR14 l = some x) : WkA env.has l (encR14 x) := by
  unfold decR14 at h; split at h
  · split at h
    · rename_i h0; cases h; exact (.cons (u3_wk h0) .nil)
    · cases h
  · cases h
theorem hD14 (y : Y14) : isDataV (tupV (encR14 y)) = true := rfl
theorem hb14 : f14.body = some b14 := by kernel_rfl
def s_14_7 : (List Int) → Int → Int → Int → Int → Int → Int → (List Int) → (List Change) → ((List Int) → Int → Int → Int → Int → Int → Int → (List Int) → (List Change) → Prop) → Prop :=
  fun x1 x2 x3 x4 x5 x6 x7 x8 x9 kn ↦ br (inb x5 (↑x1.length : Int)) (br (decide (x1.getD x5.toNat (env.d 3) ≥ 0)) (br (inb x5 (↑x1.length : Int)) (br (inb (x1.getD x5.toNat (env.d 3)) (↑x9.length : Int)) (br ((x9.getD (Int.toNat (x1.getD x5.toNat (env.d 3))) (env.d 60)).kind == x2) (kn x1 x2 x3 (IntKind.i64.wrap (x4 + 1)) x5 x6 x7 x8 x9) (kn x1 x2 x3 x4 x5 x6 x7 x8 x9)) False) False) (kn x1 x2 x3 x4 x5 x6 x7 x8 x9)) False
def v_14_7 (vs : List (SV env.T)) (K : Ex → List (SV env.T) → Prop) : Prop :=
  dCD 3 vs fun x1 vs => dCI .i64 vs fun x2 vs => dCI .i64 vs fun x3 vs => dCI .i64 vs fun x4 vs => dCI .i64 vs fun x5 vs => dCI .i64 vs fun x6 vs => dCI .i64 vs fun x7 vs => dCA .i64 6 vs fun x8 vs => dCD 60 vs fun x9 vs => dCE vs (s_14_7 x1 x2 x3 x4 x5 x6 x7 x8 x9 (fun y1 y2 y3 y4 y5 y6 y7 y8 y9 => K .normal [.dat 3 y1, .int .i64 y2, .int .i64 y3, .int .i64 y4, .int .i64 y5, .int .i64 y6, .int .i64 y7, .arr .i64 6 y8, .dat 60 y9]))
def q_14_7 : Piece env := ⟨⟨[.any, .holeD 3, .hole, .ptr 0 0, .any, .any, .hole, .hole, .hole, .any, .any, .any, .any, .any, .any, .any, .any, .any, .any, .any, .any, .any, .any, .any, .any, .any, .any, .any, .any, .any, .any, .any, .any, .any, .any, .any, .any, .any, .any, .any, .any, .any, .any, .any, .any, .any, .any, .any, .any, .any, .any], [], [(0, .cells 25 [.hole, .hole, .hole, .holeD 60])], 1⟩, exitF (some ⟨[.any, .holeD 3, .hole, .ptr 0 0, .any, .any, .hole, .hole, .hole, .any, .any, .any, .any, .any, .any, .any, .any, .any, .any, .any, .any, .any, .any, .any, .any, .any, .any, .any, .any, .any, .any, .any, .any, .any, .any, .any, .any, .any, .any, .any, .any, .any, .any, .any, .any, .any, .any, .any, .any, .any, .any], [], [(0, .cells 25 [.hole, .hole, .hole, .holeD 60])], 1⟩) [] none, v_14_7⟩
def l_14_3 : Nat → (List Int) → Int → Int → Int → Int → Int → Int → (List Int) → (List Change) → (Int → Prop) → (Int → Int → Prop) → Prop
  | 0 => fun _ _ _ _ _ _ _ _ _ _ _ => False
  | k + 1 => fun x1 x2 x3 x4 x5 x6 x7 x8 x9 kr k0 ↦ br (decide (x5 < (↑x1.length : Int))) (br (inb x5 (↑x1.length : Int)) (br (decide (x1.getD x5.toNat (env.d 3) < -1)) (kr (-1)) (br (inb x5 (↑x1.length : Int)) (br (decide (x1.getD x5.toNat (env.d 3) ≥ (↑x9.length : Int))) (kr (-1)) (s_14_7 x1 x2 x3 x4 x5 x6 x7 x8 x9 fun y13 y14 y15 y16 y17 y18 y19 y20 y21 ↦ l_14_3 k y13 y14 y15 y16 (IntKind.i64.wrap (y17 + 1)) y18 y19 y20 y21 kr k0)) False)) False) (k0 x3 x4)
def w_14_3 (k : Nat) (vs : List (SV env.T)) (K : Ex → List (SV env.T) → Prop) : Prop :=
  dCD 3 vs fun x1 vs => dCI .i64 vs fun x2 vs => dCI .i64 vs fun x3 vs => dCI .i64 vs fun x4 vs => dCI .i64 vs fun x5 vs => dCI .i64 vs fun x6 vs => dCI .i64 vs fun x7 vs => dCA .i64 6 vs fun x8 vs => dCD 60 vs fun x9 vs => dCE vs (l_14_3 k x1 x2 x3 x4 x5 x6 x7 x8 x9 (fun y1 => K .ret [.int .i64 y1]) (fun y1 y2 => K (.exit 0) [.int .i64 y1, .int .i64 y2]))
def p_14_3 : Piece env := ⟨⟨[.any, .holeD 3, .hole, .ptr 0 0, .any, .any, .hole, .hole, .hole, .any, .any, .any, .any, .any, .any, .any, .any, .any, .any, .any, .any, .any, .any, .any, .any, .any, .any, .any, .any, .any, .any, .any, .any, .any, .any, .any, .any, .any, .any, .any, .any, .any, .any, .any, .any, .any, .any, .any, .any, .any, .any], [], [(0, .cells 25 [.hole, .hole, .hole, .holeD 60])], 1⟩, exitF none [(0, ⟨[.any, .any, .any, .any, .any, .any, .hole, .hole, .any, .any, .any, .any, .any, .any, .any, .any, .any, .any, .any, .any, .any, .any, .any, .any, .any, .any, .any, .any, .any, .any, .any, .any, .any, .any, .any, .any, .any, .any, .any, .any, .any, .any, .any, .any, .any, .any, .any, .any, .any, .any, .any], [], [], 0⟩)] (some ⟨[.any, .any, .any, .any, .any, .any, .hole, .any, .any, .any, .any, .any, .any, .any, .any, .any, .any, .any, .any, .any, .any, .any, .any, .any, .any, .any, .any, .any, .any, .any, .any, .any, .any, .any, .any, .any, .any, .any, .any, .any, .any, .any, .any, .any, .any, .any, .any, .any, .any, .any, .any], [], [], 0⟩), fun vs K => ∃ k, w_14_3 k vs K⟩
noncomputable def B14 : Budget → (List Int) → Int → (Y14 → Prop) → Prop :=
  fun x0 x1 x2 K ↦ ∃ k4, l_14_3 k4 x1 x2 0 0 0 x0.periods x0.length x0.left x0.choices K fun _ ↦ K
theorem V14_ex : ∃ V : Budget → (List Int) → Int → (Y14 → Prop) → Prop, V = B14 := ⟨_, rfl⟩
noncomputable def V14 : Budget → (List Int) → Int → (Y14 → Prop) → Prop := Classical.choose V14_ex
theorem V14_eq : V14 = B14 := Classical.choose_spec V14_ex
theorem pooq_14_7_14 : PiecesOk Tryz.prog env (ctxG env false [] R10 [] []) 14 b14 :=
  pieces_at (L := []) (S := []) (fun _ => rfl) (fun _ => rfl) (by kernel_rfl) (by kernel_rfl) (fun _ hq => by cases hq) (fun _ hq => by cases hq)
theorem booq_14_7 : BodiesOk Tryz.prog env (ctxG env false [] R10 [] []) := bodies_okG (ks := []) (by kernel_rfl) (fun _ hq => by cases hq)
theorem stoq_14_7 (x1 : (List Int)) (x2 : Int) (x3 : Int) (x4 : Int) (x5 : Int) (x6 : Int) (x7 : Int) (x8 : (List Int)) (x9 : (List Change)) (K : Ex → List (SV env.T) → Prop) : s_14_7  x1 x2 x3 x4 x5 x6 x7 x8 x9 (fun y1 y2 y3 y4 y5 y6 y7 y8 y9 => K .normal [.dat 3 y1, .int .i64 y2, .int .i64 y3, .int .i64 y4, .int .i64 y5, .int .i64 y6, .int .i64 y7, .arr .i64 6 y8, .dat 60 y9]) = vcCode env (ctxG env false [] R10 [] []) 2000 14 (seqAt b14 7) (insSt q_14_7.head [.dat 3 x1, .int .i64 x2, .int .i64 x3, .int .i64 x4, .int .i64 x5, .int .i64 x6, .int .i64 x7, .arr .i64 6 x8, .dat 60 x9]) (outP env q_14_7 K) := by kernel_rfl
theorem wioq_14_7 (vs : List (SV env.T)) (K : Ex → List (SV env.T) → Prop) (h : v_14_7 vs K) : ∃ x1 : (List Int), ∃ x2 : Int, ∃ x3 : Int, ∃ x4 : Int, ∃ x5 : Int, ∃ x6 : Int, ∃ x7 : Int, ∃ x8 : (List Int), ∃ x9 : (List Change), vs = [.dat 3 x1, .int .i64 x2, .int .i64 x3, .int .i64 x4, .int .i64 x5, .int .i64 x6, .int .i64 x7, .arr .i64 6 x8, .dat 60 x9] ∧ s_14_7  x1 x2 x3 x4 x5 x6 x7 x8 x9 (fun y1 y2 y3 y4 y5 y6 y7 y8 y9 => K .normal [.dat 3 y1, .int .i64 y2, .int .i64 y3, .int .i64 y4, .int .i64 y5, .int .i64 y6, .int .i64 y7, .arr .i64 6 y8, .dat 60 y9]) := by
  unfold v_14_7 at h
  replace h := dCD_spec h
  obtain ⟨x1, vs0, e0, h⟩ := h
  replace h := dCI_spec h
  obtain ⟨x2, vs1, e1, h⟩ := h
  replace h := dCI_spec h
  obtain ⟨x3, vs2, e2, h⟩ := h
  replace h := dCI_spec h
  obtain ⟨x4, vs3, e3, h⟩ := h
  replace h := dCI_spec h
  obtain ⟨x5, vs4, e4, h⟩ := h
  replace h := dCI_spec h
  obtain ⟨x6, vs5, e5, h⟩ := h
  replace h := dCI_spec h
  obtain ⟨x7, vs6, e6, h⟩ := h
  replace h := dCA_spec h
  obtain ⟨x8, vs7, e7, h⟩ := h
  replace h := dCD_spec h
  obtain ⟨x9, vs8, e8, h⟩ := h
  replace h := dCE_spec h
  obtain ⟨e, h⟩ := h
  exact ⟨x1, x2, x3, x4, x5, x6, x7, x8, x9, by rw [e0, e1, e2, e3, e4, e5, e6, e7, e8, e], h⟩
theorem oq_14_7 : PieceOk Tryz.prog env q_14_7 (seqAt b14 7) := by
  refine seq_step tab (ctxG_ok R10_ok false [] _ _) booq_14_7 (pieces_subS pooq_14_7_14 (by kernel_rfl)) 2000 ?_
  intro vs K h
  obtain ⟨x1, x2, x3, x4, x5, x6, x7, x8, x9, rfl, h⟩ := wioq_14_7 vs K h
  exact Eq.mp (stoq_14_7 x1 x2 x3 x4 x5 x6 x7 x8 x9 K) h
theorem pook_14_3_14 : PiecesOk Tryz.prog env (ctxG env false [] R10 [] [(14, [(7, q_14_7)])]) 14 b14 :=
  pieces_at (L := []) (S := [(7, q_14_7)]) (fun _ => rfl) (fun _ => rfl) (by kernel_rfl) (by kernel_rfl) (fun _ hq => by cases hq) (List.forall_mem_cons.2 ⟨fun _ => oq_14_7, (fun _ hq => by cases hq)⟩)
theorem book_14_3 : BodiesOk Tryz.prog env (ctxG env false [] R10 [] [(14, [(7, q_14_7)])]) := bodies_okG (ks := [14]) (by kernel_rfl) (List.forall_mem_cons.2 ⟨body_at (fn := f14) (body := b14) rfl hb14 pook_14_3_14, (fun _ hq => by cases hq)⟩)
theorem stok_14_3 (k : Nat) (x1 : (List Int)) (x2 : Int) (x3 : Int) (x4 : Int) (x5 : Int) (x6 : Int) (x7 : Int) (x8 : (List Int)) (x9 : (List Change)) (K : Ex → List (SV env.T) → Prop) : l_14_3 (k + 1) x1 x2 x3 x4 x5 x6 x7 x8 x9 (fun y1 => K .ret [.int .i64 y1]) (fun y1 y2 => K (.exit 0) [.int .i64 y1, .int .i64 y2]) = vcCode env (ctxG env false [] R10 [] [(14, [(7, q_14_7)])]) 2000 14 (loopAt b14 3) (insSt p_14_3.head [.dat 3 x1, .int .i64 x2, .int .i64 x3, .int .i64 x4, .int .i64 x5, .int .i64 x6, .int .i64 x7, .arr .i64 6 x8, .dat 60 x9]) (stepK p_14_3 (w_14_3 k) K) := by kernel_rfl
theorem wiok_14_3 (k : Nat) (vs : List (SV env.T)) (K : Ex → List (SV env.T) → Prop) (h : w_14_3 k vs K) : ∃ x1 : (List Int), ∃ x2 : Int, ∃ x3 : Int, ∃ x4 : Int, ∃ x5 : Int, ∃ x6 : Int, ∃ x7 : Int, ∃ x8 : (List Int), ∃ x9 : (List Change), vs = [.dat 3 x1, .int .i64 x2, .int .i64 x3, .int .i64 x4, .int .i64 x5, .int .i64 x6, .int .i64 x7, .arr .i64 6 x8, .dat 60 x9] ∧ l_14_3 k x1 x2 x3 x4 x5 x6 x7 x8 x9 (fun y1 => K .ret [.int .i64 y1]) (fun y1 y2 => K (.exit 0) [.int .i64 y1, .int .i64 y2]) := by
  unfold w_14_3 at h
  replace h := dCD_spec h
  obtain ⟨x1, vs0, e0, h⟩ := h
  replace h := dCI_spec h
  obtain ⟨x2, vs1, e1, h⟩ := h
  replace h := dCI_spec h
  obtain ⟨x3, vs2, e2, h⟩ := h
  replace h := dCI_spec h
  obtain ⟨x4, vs3, e3, h⟩ := h
  replace h := dCI_spec h
  obtain ⟨x5, vs4, e4, h⟩ := h
  replace h := dCI_spec h
  obtain ⟨x6, vs5, e5, h⟩ := h
  replace h := dCI_spec h
  obtain ⟨x7, vs6, e6, h⟩ := h
  replace h := dCA_spec h
  obtain ⟨x8, vs7, e7, h⟩ := h
  replace h := dCD_spec h
  obtain ⟨x9, vs8, e8, h⟩ := h
  replace h := dCE_spec h
  obtain ⟨e, h⟩ := h
  exact ⟨x1, x2, x3, x4, x5, x6, x7, x8, x9, by rw [e0, e1, e2, e3, e4, e5, e6, e7, e8, e], h⟩
theorem zeok_14_3 (x1 : (List Int)) (x2 : Int) (x3 : Int) (x4 : Int) (x5 : Int) (x6 : Int) (x7 : Int) (x8 : (List Int)) (x9 : (List Change)) (K : Ex → List (SV env.T) → Prop) : l_14_3 0 x1 x2 x3 x4 x5 x6 x7 x8 x9 (fun y1 => K .ret [.int .i64 y1]) (fun y1 y2 => K (.exit 0) [.int .i64 y1, .int .i64 y2]) = False := by kernel_rfl
theorem ok_14_3 : PieceOk Tryz.prog env p_14_3 (.loop (loopAt b14 3)) := by
  refine loop_step (Wn := w_14_3) tab (ctxG_ok R10_ok false [] _ _) book_14_3 (pieces_sub pook_14_3_14 (by kernel_rfl)) rfl ?_ 2000 ?_
  · intro vs K h
    obtain ⟨x1, x2, x3, x4, x5, x6, x7, x8, x9, _, h⟩ := wiok_14_3 0 vs K h
    exact Eq.mp (zeok_14_3 x1 x2 x3 x4 x5 x6 x7 x8 x9 K) h
  · intro k vs K h
    obtain ⟨x1, x2, x3, x4, x5, x6, x7, x8, x9, rfl, h⟩ := wiok_14_3 (k + 1) vs K h
    exact Eq.mp (stok_14_3 k x1 x2 x3 x4 x5 x6 x7 x8 x9 K) h
theorem po_14_14 : PiecesOk Tryz.prog env (ctxG env false [] R10 [(14, [(3, p_14_3)])] [(14, [(7, q_14_7)])]) 14 b14 :=
  pieces_at (L := [(3, p_14_3)]) (S := [(7, q_14_7)]) (fun _ => rfl) (fun _ => rfl) (by kernel_rfl) (by kernel_rfl) (List.forall_mem_cons.2 ⟨fun _ => ok_14_3, (fun _ hq => by cases hq)⟩) (List.forall_mem_cons.2 ⟨fun _ => oq_14_7, (fun _ hq => by cases hq)⟩)
theorem bo_14 : BodiesOk Tryz.prog env (ctxG env false [] R10 [(14, [(3, p_14_3)])] [(14, [(7, q_14_7)])]) := bodies_okG (ks := [14]) (by kernel_rfl) (List.forall_mem_cons.2 ⟨body_at (fn := f14) (body := b14) rfl hb14 po_14_14, (fun _ hq => by cases hq)⟩)
theorem eq_14 (x0 : Budget) (x1 : (List Int)) (x2 : Int) (K : Y14 → Prop) : vcCode env (ctxG env false [] R10 [(14, [(3, p_14_3)])] [(14, [(7, q_14_7)])]) 2000 14 b14 (entry env f14 [v25 x0, v26 x1, v3 x2]) (finR env f14 decR14 K) = B14 x0 x1 x2 K := by kernel_rfl
noncomputable def rule14 : Nat × Rule env := (14, ruleF env decA14 encR14 fun x => V14 x.1 x.2.1 x.2.2)
theorem r14 : RuleOk Tryz.prog env 14 rule14.2 :=
  rule_fun tab (ctxG_ok R10_ok false [] _ _) bo_14 (f := 14) (fn := f14) rfl hb14 po_14_14 2000 encA14 hA14 hR14 hD14 (fun _ => of_decide_eq_true (by kernel_rfl)) (fun x K => (eq_14 x.1 x.2.1 x.2.2 K).trans (by rw [V14_eq]))
noncomputable def R14 : List (Nat × Rule env) := rule14 :: R10
theorem R14_ok : AllOk Tryz.prog env R14 := ⟨r14, R10_ok⟩
-- 22 queuelab/queuelabref08.Ints
noncomputable def f22 : Func := Tryz.f22
noncomputable def b22 : Code := (Tryz.f22.body).getD .skip
abbrev X22 := (List Int) × (List Int)
def encA22 (x : X22) : List (SV env.T) := [v26 x.1, v26 x.2]
def decA22 (l : List (SV env.T)) : Option X22 := match l with
  | [s0, s1] => match u26 s0, u26 s1 with
    | some x0, some x1 => some (x0, x1)
    | _, _ => none
  | _ => none
theorem hA22 (l : List (SV env.T)) (x : X22) (h : decA22 l = some x) : WkA env.has l (encA22 x) := by
  unfold decA22 at h; split at h
  · split at h
    · rename_i h0 h1; cases h; exact (.cons (u26_wk h0) (.cons (u26_wk h1) .nil))
    · cases h
  · cases h
abbrev Y22 := Bool
def encR22 (x : Y22) : List (SV env.T) := [v4 x]
def decR22 (l : List (SV env.T)) : Option Y22 := match l with
  | [s0] => match u4 s0 with
    | some x0 => some (x0)
    | _ => none
  | _ => none
theorem hR22 (l : List (SV env.T)) (x : Y22) (h : decR22 l = some x) : WkA env.has l (encR22 x) := by
  unfold decR22 at h; split at h
  · split at h
    · rename_i h0; cases h; exact (.cons (u4_wk h0) .nil)
    · cases h
  · cases h
theorem hD22 (y : Y22) : isDataV (tupV (encR22 y)) = true := rfl
theorem hb22 : f22.body = some b22 := by kernel_rfl
def l_22_4 : Nat → (List Int) → (List Int) → Bool → Int → (Bool → Prop) → (Bool → Prop) → Prop
  | 0 => fun _ _ _ _ _ _ => False
  | k + 1 => fun x1 x2 x3 x4 kr k0 ↦ br (decide (x4 < (↑x1.length : Int))) (br (inb x4 (↑x1.length : Int)) (br (inb x4 (↑x2.length : Int)) (br (x1.getD x4.toNat (env.d 3) != x2.getD x4.toNat (env.d 3)) (kr false) (l_22_4 k x1 x2 x3 (IntKind.i64.wrap (x4 + 1)) kr k0)) False) False) (k0 x3)
def w_22_4 (k : Nat) (vs : List (SV env.T)) (K : Ex → List (SV env.T) → Prop) : Prop :=
  dCD 3 vs fun x1 vs => dCD 3 vs fun x2 vs => dCB vs fun x3 vs => dCI .i64 vs fun x4 vs => dCE vs (l_22_4 k x1 x2 x3 x4 (fun y1 => K .ret [.bool y1]) (fun y1 => K (.exit 0) [.bool y1]))
def p_22_4 : Piece env := ⟨⟨[.holeD 3, .holeD 3, .any, .any, .hole, .hole, .any, .any, .any, .any, .any, .any, .any, .any, .any, .any, .any, .any, .any, .any, .any, .any, .any, .any, .any, .any], [], [], 0⟩, exitF none [(0, ⟨[.any, .any, .any, .any, .hole, .any, .any, .any, .any, .any, .any, .any, .any, .any, .any, .any, .any, .any, .any, .any, .any, .any, .any, .any, .any, .any], [], [], 0⟩)] (some ⟨[.any, .any, .any, .any, .hole, .any, .any, .any, .any, .any, .any, .any, .any, .any, .any, .any, .any, .any, .any, .any, .any, .any, .any, .any, .any, .any], [], [], 0⟩), fun vs K => ∃ k, w_22_4 k vs K⟩
noncomputable def B22 : (List Int) → (List Int) → (Y22 → Prop) → Prop :=
  fun x0 x1 K ↦ br ((↑x0.length : Int) != (↑x1.length : Int)) (K false) (∃ k3, l_22_4 k3 x0 x1 false 0 K fun _ ↦ K true)
theorem V22_ex : ∃ V : (List Int) → (List Int) → (Y22 → Prop) → Prop, V = B22 := ⟨_, rfl⟩
noncomputable def V22 : (List Int) → (List Int) → (Y22 → Prop) → Prop := Classical.choose V22_ex
theorem V22_eq : V22 = B22 := Classical.choose_spec V22_ex
theorem pook_22_4_22 : PiecesOk Tryz.prog env (ctxG env false [] R14 [] []) 22 b22 :=
  pieces_at (L := []) (S := []) (fun _ => rfl) (fun _ => rfl) (by kernel_rfl) (by kernel_rfl) (fun _ hq => by cases hq) (fun _ hq => by cases hq)
theorem book_22_4 : BodiesOk Tryz.prog env (ctxG env false [] R14 [] []) := bodies_okG (ks := []) (by kernel_rfl) (fun _ hq => by cases hq)
theorem stok_22_4 (k : Nat) (x1 : (List Int)) (x2 : (List Int)) (x3 : Bool) (x4 : Int) (K : Ex → List (SV env.T) → Prop) : l_22_4 (k + 1) x1 x2 x3 x4 (fun y1 => K .ret [.bool y1]) (fun y1 => K (.exit 0) [.bool y1]) = vcCode env (ctxG env false [] R14 [] []) 2000 22 (loopAt b22 4) (insSt p_22_4.head [.dat 3 x1, .dat 3 x2, .bool x3, .int .i64 x4]) (stepK p_22_4 (w_22_4 k) K) := by kernel_rfl
theorem wiok_22_4 (k : Nat) (vs : List (SV env.T)) (K : Ex → List (SV env.T) → Prop) (h : w_22_4 k vs K) : ∃ x1 : (List Int), ∃ x2 : (List Int), ∃ x3 : Bool, ∃ x4 : Int, vs = [.dat 3 x1, .dat 3 x2, .bool x3, .int .i64 x4] ∧ l_22_4 k x1 x2 x3 x4 (fun y1 => K .ret [.bool y1]) (fun y1 => K (.exit 0) [.bool y1]) := by
  unfold w_22_4 at h
  replace h := dCD_spec h
  obtain ⟨x1, vs0, e0, h⟩ := h
  replace h := dCD_spec h
  obtain ⟨x2, vs1, e1, h⟩ := h
  replace h := dCB_spec h
  obtain ⟨x3, vs2, e2, h⟩ := h
  replace h := dCI_spec h
  obtain ⟨x4, vs3, e3, h⟩ := h
  replace h := dCE_spec h
  obtain ⟨e, h⟩ := h
  exact ⟨x1, x2, x3, x4, by rw [e0, e1, e2, e3, e], h⟩
theorem zeok_22_4 (x1 : (List Int)) (x2 : (List Int)) (x3 : Bool) (x4 : Int) (K : Ex → List (SV env.T) → Prop) : l_22_4 0 x1 x2 x3 x4 (fun y1 => K .ret [.bool y1]) (fun y1 => K (.exit 0) [.bool y1]) = False := by kernel_rfl
theorem ok_22_4 : PieceOk Tryz.prog env p_22_4 (.loop (loopAt b22 4)) := by
  refine loop_step (Wn := w_22_4) tab (ctxG_ok R14_ok false [] _ _) book_22_4 (pieces_sub pook_22_4_22 (by kernel_rfl)) rfl ?_ 2000 ?_
  · intro vs K h
    obtain ⟨x1, x2, x3, x4, _, h⟩ := wiok_22_4 0 vs K h
    exact Eq.mp (zeok_22_4 x1 x2 x3 x4 K) h
  · intro k vs K h
    obtain ⟨x1, x2, x3, x4, rfl, h⟩ := wiok_22_4 (k + 1) vs K h
    exact Eq.mp (stok_22_4 k x1 x2 x3 x4 K) h
theorem po_22_22 : PiecesOk Tryz.prog env (ctxG env false [] R14 [(22, [(4, p_22_4)])] []) 22 b22 :=
  pieces_at (L := [(4, p_22_4)]) (S := []) (fun _ => rfl) (fun _ => rfl) (by kernel_rfl) (by kernel_rfl) (List.forall_mem_cons.2 ⟨fun _ => ok_22_4, (fun _ hq => by cases hq)⟩) (fun _ hq => by cases hq)
theorem bo_22 : BodiesOk Tryz.prog env (ctxG env false [] R14 [(22, [(4, p_22_4)])] []) := bodies_okG (ks := [22]) (by kernel_rfl) (List.forall_mem_cons.2 ⟨body_at (fn := f22) (body := b22) rfl hb22 po_22_22, (fun _ hq => by cases hq)⟩)
theorem eq_22 (x0 : (List Int)) (x1 : (List Int)) (K : Y22 → Prop) : vcCode env (ctxG env false [] R14 [(22, [(4, p_22_4)])] []) 2000 22 b22 (entry env f22 [v26 x0, v26 x1]) (finR env f22 decR22 K) = B22 x0 x1 K := by kernel_rfl
noncomputable def rule22 : Nat × Rule env := (22, ruleF env decA22 encR22 fun x => V22 x.1 x.2)
theorem r22 : RuleOk Tryz.prog env 22 rule22.2 :=
  rule_fun tab (ctxG_ok R14_ok false [] _ _) bo_22 (f := 22) (fn := f22) rfl hb22 po_22_22 2000 encA22 hA22 hR22 hD22 (fun _ => of_decide_eq_true (by kernel_rfl)) (fun x K => (eq_22 x.1 x.2 K).trans (by rw [V22_eq]))
noncomputable def R22 : List (Nat × Rule env) := rule22 :: R14
theorem R22_ok : AllOk Tryz.prog env R22 := ⟨r22, R14_ok⟩
end Go.Vg.YthmmgoebdcegmaaGreatDoor
