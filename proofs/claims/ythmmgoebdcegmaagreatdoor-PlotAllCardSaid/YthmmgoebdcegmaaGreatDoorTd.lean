/-
  Walked functions of the program: predicate transformers and their rules. Written by a program of this work (gen.py, VgGen.lean) out of the executor's own reduction; no condition.
-/
import Derived.Test.YthmmgoebdcegmaaGreatDoorTc
set_option maxRecDepth 100000
set_option maxHeartbeats 4000000
namespace Go.Vg.YthmmgoebdcegmaaGreatDoor
open Go.Vg Go.Proofs
-- 4 queuelab/queuelablaw38.PlotAll
noncomputable def f4 : Func := Tryz.f4
noncomputable def b4 : Code := (Tryz.f4.body).getD .skip
abbrev X4 := Budget
def encA4 (x : X4) : List (SV env.T) := [v25 x]
def decA4 (l : List (SV env.T)) : Option X4 := match l with
  | [s0] => match u25 s0 with
    | some x0 => some (x0)
    | _ => none
  | _ => none
theorem hA4 (l : List (SV env.T)) (x : X4) (h : decA4 l = some x) : WkA env.has l (encA4 x) := by
  unfold decA4 at h; split at h
  · split at h
    · rename_i h0; cases h; exact (.cons (u25_wk h0) .nil)
    · cases h
  · cases h
abbrev Y4 := Bool
def encR4 (x : Y4) : List (SV env.T) := [v4 x]
def decR4 (l : List (SV env.T)) : Option Y4 := match l with
  | [s0] => match u4 s0 with
    | some x0 => some (x0)
    | _ => none
  | _ => none
theorem hR4 (l : List (SV env.T)) (x : Y4) (h : decR4 l = some x) : WkA env.has l (encR4 x) := by
  unfold decR4 at h; split at h
  · split at h
    · rename_i h0; cases h; exact (.cons (u4_wk h0) .nil)
    · cases h
  · cases h
theorem hD4 (y : Y4) : isDataV (tupV (encR4 y)) = true := rfl
theorem hb4 : f4.body = some b4 := by kernel_rfl
def l_4_13 : Nat → Bool → Bool → (List Int) → Int → Int → Int → Int → (List Int) → Int → Int → Int → Int → (List Int) → (List Change) → (List ((List Int) × Int)) → (List (List Int)) → (List (List Int)) → (Bool → Bool → Int → Int → Int → Int → Int → Int → (List Int) → (List Change) → (List ((List Int) × Int)) → (List (List Int)) → (List (List Int)) → Prop) → Prop
  | 0 => fun _ _ _ _ _ _ _ _ _ _ _ _ _ _ _ _ _ _ => False
  | k + 1 => fun x1 x2 x3 x4 x5 x6 x7 x8 x9 x10 x11 x12 x13 x14 x15 x16 x17 k4 ↦ br (decide (x10 < x9)) (br (inb x10 (↑x8.length : Int)) (br (roomB ([] ++ x3).length (bytesB env 3)) (br (roomB ([] ++ x3 ++ [x8.getD x10.toNat (env.d 3)]).length (bytesB env 3)) (br (roomB (x17 ++ [[] ++ x3 ++ [x8.getD x10.toNat (env.d 3)]]).length (bytesB env 26)) (l_4_13 k x1 x2 x3 x4 x5 x6 x7 x8 x9 (IntKind.i64.wrap (x10 + 1)) x11 x12 x13 x14 x15 x16 (x17 ++ [[] ++ x3 ++ [x8.getD x10.toNat (env.d 3)]]) k4) False) False) False) False) (k4 x1 x2 x4 x5 x6 x7 x11 x12 x13 x14 x15 x16 x17)
def w_4_13 (k : Nat) (vs : List (SV env.T)) (K : Ex → List (SV env.T) → Prop) : Prop :=
  dCB vs fun x1 vs => dCB vs fun x2 vs => dCD 3 vs fun x3 vs => dCI .i64 vs fun x4 vs => dCI .i64 vs fun x5 vs => dCI .i64 vs fun x6 vs => dCI .i64 vs fun x7 vs => dCD 3 vs fun x8 vs => dCI .i64 vs fun x9 vs => dCI .i64 vs fun x10 vs => dCI .i64 vs fun x11 vs => dCI .i64 vs fun x12 vs => dCA .i64 6 vs fun x13 vs => dCD 60 vs fun x14 vs => dCM 34 3 vs fun x15 vs => dCD 26 vs fun x16 vs => dCD 26 vs fun x17 vs => dCE vs (l_4_13 k x1 x2 x3 x4 x5 x6 x7 x8 x9 x10 x11 x12 x13 x14 x15 x16 x17 (fun y1 y2 y3 y4 y5 y6 y7 y8 y9 y10 y11 y12 y13 => K (.exit 4) [.bool y1, .bool y2, .int .i64 y3, .int .i64 y4, .int .i64 y5, .int .i64 y6, .int .i64 y7, .int .i64 y8, .arr .i64 6 y9, .dat 60 y10, .mdat 34 3 y11, .dat 26 y12, .dat 26 y13]))
def p_4_13 : Piece env := ⟨⟨[.any, .ptr 0 0, .hole, .hole, .map 1, .row 2, .row 3, .any, .holeD 3, .any, .any, .any, .any, .any, .any, .any, .any, .any, .any, .any, .any, .any, .any, .any, .any, .any, .any, .any, .any, .any, .any, .any, .any, .any, .any, .any, .any, .any, .any, .any, .any, .any, .any, .any, .any, .any, .hole, .hole, .any, .row 2, .hole, .hole, .any, .any, .any, .any, .any, .holeD 3, .hole, .hole, .any, .any, .any, .any, .any, .any, .any, .any, .any, .any, .any, .any, .any, .any, .any, .any, .any, .any, .any, .any, .any, .any, .any, .any, .any, .any, .any, .any, .any, .any, .any, .any, .any, .any, .any, .any, .any, .any, .any, .any, .any, .any, .any, .any, .any, .any, .any, .any, .any, .any, .any, .any, .any, .any, .any, .any, .any, .any, .any, .any, .any, .any, .any, .any, .any, .any, .any, .any, .any, .any, .any, .any, .any, .any, .any, .any, .any, .any, .any, .any, .any, .any, .any, .any, .any, .any, .any, .any, .any, .any, .any, .any, .any, .any, .any, .any, .any, .any, .any], [], [(0, .cells 25 [.hole, .hole, .hole, .holeD 60]), (1, .map 34 3), (2, .row 26), (3, .row 26)], 4⟩, exitF none [(4, ⟨[.any, .ptr 0 0, .hole, .hole, .map 1, .row 2, .row 3, .any, .any, .any, .any, .any, .any, .any, .any, .any, .any, .any, .any, .any, .any, .any, .any, .any, .any, .any, .any, .any, .any, .any, .any, .any, .any, .any, .any, .any, .any, .any, .any, .any, .any, .any, .any, .any, .any, .any, .hole, .hole, .any, .row 2, .hole, .hole, .any, .any, .any, .any, .any, .any, .any, .any, .any, .any, .any, .any, .any, .any, .any, .any, .any, .any, .any, .any, .any, .any, .any, .any, .any, .any, .any, .any, .any, .any, .any, .any, .any, .any, .any, .any, .any, .any, .any, .any, .any, .any, .any, .any, .any, .any, .any, .any, .any, .any, .any, .any, .any, .any, .any, .any, .any, .any, .any, .any, .any, .any, .any, .any, .any, .any, .any, .any, .any, .any, .any, .any, .any, .any, .any, .any, .any, .any, .any, .any, .any, .any, .any, .any, .any, .any, .any, .any, .any, .any, .any, .any, .any, .any, .any, .any, .any, .any, .any, .any, .any, .any, .any, .any, .any, .any, .any], [], [(0, .cells 25 [.hole, .hole, .hole, .holeD 60]), (1, .map 34 3), (2, .row 26), (3, .row 26)], 4⟩)] none, fun vs K => ∃ k, w_4_13 k vs K⟩
def l_4_10 : Nat → Bool → Bool → Int → Int → Int → Int → Int → Int → (List Int) → (List Change) → (List ((List Int) × Int)) → (List (List Int)) → (List (List Int)) → (Bool → Bool → Int → Int → Int → Int → (List Int) → (List Change) → (List ((List Int) × Int)) → (List (List Int)) → (List (List Int)) → Prop) → Prop
  | 0 => fun _ _ _ _ _ _ _ _ _ _ _ _ _ _ => False
  | k + 1 => fun x1 x2 x3 x4 x5 x6 x7 x8 x9 x10 x11 x12 x13 k2 ↦ br (decide (x6 < x5)) (br (inb x6 (↑x12.length : Int)) (V11 (Budget.mk x7 x8 x9 x10) (x12.getD x6.toNat (env.d 26)) fun y16 ↦ ∃ k17, l_4_13 k17 x1 x2 (x12.getD x6.toNat (env.d 26)) x3 x4 x5 x6 y16 (↑(List.length y16) : Int) 0 x7 x8 x9 x10 x11 x12 x13 fun y18 y19 y20 y21 y22 y23 y24 y25 y26 y27 y28 y29 y30 ↦ l_4_10 k y18 y19 y20 y21 y22 (IntKind.i64.wrap (y23 + 1)) y24 y25 y26 y27 y28 y29 y30 k2) False) (k2 x1 x2 x3 x4 x7 x8 x9 x10 x11 x12 x13)
def w_4_10 (k : Nat) (vs : List (SV env.T)) (K : Ex → List (SV env.T) → Prop) : Prop :=
  dCB vs fun x1 vs => dCB vs fun x2 vs => dCI .i64 vs fun x3 vs => dCI .i64 vs fun x4 vs => dCI .i64 vs fun x5 vs => dCI .i64 vs fun x6 vs => dCI .i64 vs fun x7 vs => dCI .i64 vs fun x8 vs => dCA .i64 6 vs fun x9 vs => dCD 60 vs fun x10 vs => dCM 34 3 vs fun x11 vs => dCD 26 vs fun x12 vs => dCD 26 vs fun x13 vs => dCE vs (l_4_10 k x1 x2 x3 x4 x5 x6 x7 x8 x9 x10 x11 x12 x13 (fun y1 y2 y3 y4 y5 y6 y7 y8 y9 y10 y11 => K (.exit 2) [.bool y1, .bool y2, .int .i64 y3, .int .i64 y4, .int .i64 y5, .int .i64 y6, .arr .i64 6 y7, .dat 60 y8, .mdat 34 3 y9, .dat 26 y10, .dat 26 y11]))
def p_4_10 : Piece env := ⟨⟨[.any, .ptr 0 0, .hole, .hole, .map 1, .row 2, .row 3, .any, .any, .any, .any, .any, .any, .any, .any, .any, .any, .any, .any, .any, .any, .any, .any, .any, .any, .any, .any, .any, .any, .any, .any, .any, .any, .any, .any, .any, .any, .any, .any, .any, .any, .any, .any, .any, .any, .any, .hole, .hole, .any, .row 2, .hole, .hole, .any, .any, .any, .any, .any, .any, .any, .any, .any, .any, .any, .any, .any, .any, .any, .any, .any, .any, .any, .any, .any, .any, .any, .any, .any, .any, .any, .any, .any, .any, .any, .any, .any, .any, .any, .any, .any, .any, .any, .any, .any, .any, .any, .any, .any, .any, .any, .any, .any, .any, .any, .any, .any, .any, .any, .any, .any, .any, .any, .any, .any, .any, .any, .any, .any, .any, .any, .any, .any, .any, .any, .any, .any, .any, .any, .any, .any, .any, .any, .any, .any, .any, .any, .any, .any, .any, .any, .any, .any, .any, .any, .any, .any, .any, .any, .any, .any, .any, .any, .any, .any, .any, .any, .any, .any, .any, .any], [], [(0, .cells 25 [.hole, .hole, .hole, .holeD 60]), (1, .map 34 3), (2, .row 26), (3, .row 26)], 4⟩, exitF none [(2, ⟨[.any, .ptr 0 0, .hole, .hole, .map 1, .row 2, .row 3, .any, .any, .any, .any, .any, .any, .any, .any, .any, .any, .any, .any, .any, .any, .any, .any, .any, .any, .any, .any, .any, .any, .any, .any, .any, .any, .any, .any, .any, .any, .any, .any, .any, .any, .any, .any, .any, .any, .any, .hole, .hole, .any, .any, .any, .any, .any, .any, .any, .any, .any, .any, .any, .any, .any, .any, .any, .any, .any, .any, .any, .any, .any, .any, .any, .any, .any, .any, .any, .any, .any, .any, .any, .any, .any, .any, .any, .any, .any, .any, .any, .any, .any, .any, .any, .any, .any, .any, .any, .any, .any, .any, .any, .any, .any, .any, .any, .any, .any, .any, .any, .any, .any, .any, .any, .any, .any, .any, .any, .any, .any, .any, .any, .any, .any, .any, .any, .any, .any, .any, .any, .any, .any, .any, .any, .any, .any, .any, .any, .any, .any, .any, .any, .any, .any, .any, .any, .any, .any, .any, .any, .any, .any, .any, .any, .any, .any, .any, .any, .any, .any, .any, .any], [], [(0, .cells 25 [.hole, .hole, .hole, .holeD 60]), (1, .map 34 3), (2, .row 26), (3, .row 26)], 4⟩)] none, fun vs K => ∃ k, w_4_10 k vs K⟩
def l_4_7 : Nat → Bool → Bool → Int → Int → Int → Int → (List Int) → (List Change) → (List ((List Int) × Int)) → (List (List Int)) → (Bool → Prop) → (Bool → Bool → Int → Int → (List Int) → (List Change) → (List ((List Int) × Int)) → (List (List Int)) → Prop) → Prop
  | 0 => fun _ _ _ _ _ _ _ _ _ _ _ _ => False
  | k + 1 => fun x1 x2 x3 x4 x5 x6 x7 x8 x9 x10 kr k0 ↦ br (decide (x4 < x3)) (∃ k14, l_4_10 k14 x1 x2 x3 x4 (↑x10.length : Int) 0 x5 x6 x7 x8 x9 x10 [] fun y15 y16 y17 y18 y19 y20 y21 y22 y23 _ y25 ↦ br (decide ((↑y25.length : Int) > 200)) (kr false) (l_4_7 k y15 y16 y17 (IntKind.i64.wrap (y18 + 1)) y19 y20 y21 y22 y23 y25 kr k0)) (k0 x1 x2 x5 x6 x7 x8 x9 x10)
def w_4_7 (k : Nat) (vs : List (SV env.T)) (K : Ex → List (SV env.T) → Prop) : Prop :=
  dCB vs fun x1 vs => dCB vs fun x2 vs => dCI .i64 vs fun x3 vs => dCI .i64 vs fun x4 vs => dCI .i64 vs fun x5 vs => dCI .i64 vs fun x6 vs => dCA .i64 6 vs fun x7 vs => dCD 60 vs fun x8 vs => dCM 34 3 vs fun x9 vs => dCD 26 vs fun x10 vs => dCE vs (l_4_7 k x1 x2 x3 x4 x5 x6 x7 x8 x9 x10 (fun y1 => K .ret [.bool y1]) (fun y1 y2 y3 y4 y5 y6 y7 y8 => K (.exit 0) [.bool y1, .bool y2, .int .i64 y3, .int .i64 y4, .arr .i64 6 y5, .dat 60 y6, .mdat 34 3 y7, .dat 26 y8]))
def p_4_7 : Piece env := ⟨⟨[.any, .ptr 0 0, .hole, .hole, .map 1, .row 2, .any, .any, .any, .any, .any, .any, .any, .any, .any, .any, .any, .any, .any, .any, .any, .any, .any, .any, .any, .any, .any, .any, .any, .any, .any, .any, .any, .any, .any, .any, .any, .any, .any, .any, .any, .any, .any, .any, .any, .any, .hole, .hole, .any, .any, .any, .any, .any, .any, .any, .any, .any, .any, .any, .any, .any, .any, .any, .any, .any, .any, .any, .any, .any, .any, .any, .any, .any, .any, .any, .any, .any, .any, .any, .any, .any, .any, .any, .any, .any, .any, .any, .any, .any, .any, .any, .any, .any, .any, .any, .any, .any, .any, .any, .any, .any, .any, .any, .any, .any, .any, .any, .any, .any, .any, .any, .any, .any, .any, .any, .any, .any, .any, .any, .any, .any, .any, .any, .any, .any, .any, .any, .any, .any, .any, .any, .any, .any, .any, .any, .any, .any, .any, .any, .any, .any, .any, .any, .any, .any, .any, .any, .any, .any, .any, .any, .any, .any, .any, .any, .any, .any, .any, .any], [], [(0, .cells 25 [.hole, .hole, .hole, .holeD 60]), (1, .map 34 3), (2, .row 26)], 3⟩, exitF none [(0, ⟨[.any, .ptr 0 0, .hole, .hole, .map 1, .row 2, .any, .any, .any, .any, .any, .any, .any, .any, .any, .any, .any, .any, .any, .any, .any, .any, .any, .any, .any, .any, .any, .any, .any, .any, .any, .any, .any, .any, .any, .any, .any, .any, .any, .any, .any, .any, .any, .any, .any, .any, .any, .any, .any, .any, .any, .any, .any, .any, .any, .any, .any, .any, .any, .any, .any, .any, .any, .any, .any, .any, .any, .any, .any, .any, .any, .any, .any, .any, .any, .any, .any, .any, .any, .any, .any, .any, .any, .any, .any, .any, .any, .any, .any, .any, .any, .any, .any, .any, .any, .any, .any, .any, .any, .any, .any, .any, .any, .any, .any, .any, .any, .any, .any, .any, .any, .any, .any, .any, .any, .any, .any, .any, .any, .any, .any, .any, .any, .any, .any, .any, .any, .any, .any, .any, .any, .any, .any, .any, .any, .any, .any, .any, .any, .any, .any, .any, .any, .any, .any, .any, .any, .any, .any, .any, .any, .any, .any, .any, .any, .any, .any, .any, .any], [], [(0, .cells 25 [.hole, .hole, .hole, .holeD 60]), (1, .map 34 3), (2, .row 26)], 3⟩)] (some ⟨[.any, .any, .hole, .any, .any, .any, .any, .any, .any, .any, .any, .any, .any, .any, .any, .any, .any, .any, .any, .any, .any, .any, .any, .any, .any, .any, .any, .any, .any, .any, .any, .any, .any, .any, .any, .any, .any, .any, .any, .any, .any, .any, .any, .any, .any, .any, .any, .any, .any, .any, .any, .any, .any, .any, .any, .any, .any, .any, .any, .any, .any, .any, .any, .any, .any, .any, .any, .any, .any, .any, .any, .any, .any, .any, .any, .any, .any, .any, .any, .any, .any, .any, .any, .any, .any, .any, .any, .any, .any, .any, .any, .any, .any, .any, .any, .any, .any, .any, .any, .any, .any, .any, .any, .any, .any, .any, .any, .any, .any, .any, .any, .any, .any, .any, .any, .any, .any, .any, .any, .any, .any, .any, .any, .any, .any, .any, .any, .any, .any, .any, .any, .any, .any, .any, .any, .any, .any, .any, .any, .any, .any, .any, .any, .any, .any, .any, .any, .any, .any, .any, .any, .any, .any, .any, .any, .any, .any, .any, .any], [], [], 0⟩), fun vs K => ∃ k, w_4_7 k vs K⟩
def l_4_23 : Nat → Bool → Bool → Int → Int → Int → Int → (List Int) → (List Change) → (List ((List Int) × Int)) → (List (List Int)) → (Bool → Bool → Int → Int → (List Int) → (List Change) → (List ((List Int) × Int)) → (List (List Int)) → Prop) → Prop
  | 0 => fun _ _ _ _ _ _ _ _ _ _ _ => False
  | k + 1 => fun x1 x2 x3 x4 x5 x6 x7 x8 x9 x10 k6 ↦ br (decide (x4 < x3)) (br (inb x4 (↑x10.length : Int)) (br (inb (↑(mIdx (keyEq env 34 (cpyL (env.asL 3 (x10.getD x4.toNat (env.d 26))) (List.replicate 3 0))) x9) : Int) (↑(mEnt (keyEq env 34 (cpyL (env.asL 3 (x10.getD x4.toNat (env.d 26))) (List.replicate 3 0))) (cpyL (env.asL 3 (x10.getD x4.toNat (env.d 26))) (List.replicate 3 0)) 0 x9).length : Int)) (l_4_23 k x1 x2 x3 (IntKind.i64.wrap (x4 + 1)) x5 x6 x7 x8 (mSet (mEnt (keyEq env 34 (cpyL (env.asL 3 (x10.getD x4.toNat (env.d 26))) (List.replicate 3 0))) (cpyL (env.asL 3 (x10.getD x4.toNat (env.d 26))) (List.replicate 3 0)) 0 x9) (↑(mIdx (keyEq env 34 (cpyL (env.asL 3 (x10.getD x4.toNat (env.d 26))) (List.replicate 3 0))) x9) : Int).toNat (IntKind.i64.wrap (mGet (keyEq env 34 (cpyL (env.asL 3 (x10.getD x4.toNat (env.d 26))) (List.replicate 3 0))) 0 x9 + 1))) x10 k6) False) False) (k6 x1 x2 x5 x6 x7 x8 x9 x10)
def w_4_23 (k : Nat) (vs : List (SV env.T)) (K : Ex → List (SV env.T) → Prop) : Prop :=
  dCB vs fun x1 vs => dCB vs fun x2 vs => dCI .i64 vs fun x3 vs => dCI .i64 vs fun x4 vs => dCI .i64 vs fun x5 vs => dCI .i64 vs fun x6 vs => dCA .i64 6 vs fun x7 vs => dCD 60 vs fun x8 vs => dCM 34 3 vs fun x9 vs => dCD 26 vs fun x10 vs => dCE vs (l_4_23 k x1 x2 x3 x4 x5 x6 x7 x8 x9 x10 (fun y1 y2 y3 y4 y5 y6 y7 y8 => K (.exit 6) [.bool y1, .bool y2, .int .i64 y3, .int .i64 y4, .arr .i64 6 y5, .dat 60 y6, .mdat 34 3 y7, .dat 26 y8]))
def p_4_23 : Piece env := ⟨⟨[.any, .ptr 0 0, .hole, .hole, .map 1, .row 2, .any, .any, .any, .any, .any, .any, .any, .any, .any, .any, .any, .any, .any, .any, .any, .any, .any, .any, .any, .any, .any, .any, .any, .any, .any, .any, .any, .any, .any, .any, .any, .any, .any, .any, .any, .any, .any, .any, .any, .any, .any, .any, .any, .any, .any, .any, .any, .any, .any, .any, .any, .any, .any, .any, .any, .any, .any, .any, .any, .any, .any, .any, .any, .any, .any, .any, .any, .any, .any, .any, .any, .any, .any, .row 2, .hole, .hole, .any, .any, .any, .any, .any, .any, .any, .any, .any, .any, .any, .any, .any, .any, .any, .any, .any, .any, .any, .any, .any, .any, .any, .any, .any, .any, .any, .any, .any, .any, .any, .any, .any, .any, .any, .any, .any, .any, .any, .any, .any, .any, .any, .any, .any, .any, .any, .any, .any, .any, .any, .any, .any, .any, .any, .any, .any, .any, .any, .any, .any, .any, .any, .any, .any, .any, .any, .any, .any, .any, .any, .any, .any, .any, .any, .any, .any], [], [(0, .cells 25 [.hole, .hole, .hole, .holeD 60]), (1, .map 34 3), (2, .row 26)], 3⟩, exitF none [(6, ⟨[.any, .ptr 0 0, .hole, .hole, .map 1, .row 2, .any, .any, .any, .any, .any, .any, .any, .any, .any, .any, .any, .any, .any, .any, .any, .any, .any, .any, .any, .any, .any, .any, .any, .any, .any, .any, .any, .any, .any, .any, .any, .any, .any, .any, .any, .any, .any, .any, .any, .any, .any, .any, .any, .any, .any, .any, .any, .any, .any, .any, .any, .any, .any, .any, .any, .any, .any, .any, .any, .any, .any, .any, .any, .any, .any, .any, .any, .any, .any, .any, .any, .any, .any, .any, .any, .any, .any, .any, .any, .any, .any, .any, .any, .any, .any, .any, .any, .any, .any, .any, .any, .any, .any, .any, .any, .any, .any, .any, .any, .any, .any, .any, .any, .any, .any, .any, .any, .any, .any, .any, .any, .any, .any, .any, .any, .any, .any, .any, .any, .any, .any, .any, .any, .any, .any, .any, .any, .any, .any, .any, .any, .any, .any, .any, .any, .any, .any, .any, .any, .any, .any, .any, .any, .any, .any, .any, .any, .any, .any, .any, .any, .any, .any], [], [(0, .cells 25 [.hole, .hole, .hole, .holeD 60]), (1, .map 34 3), (2, .row 26)], 3⟩)] none, fun vs K => ∃ k, w_4_23 k vs K⟩
def l_4_32 : Nat → Bool → Bool → Int → Int → Int → Int → Int → Int → (List Int) → (List Change) → (List ((List Int) × Int)) → (List (List Int)) → (Bool → Bool → Int → Int → Int → Int → (List Int) → (List Change) → (List ((List Int) × Int)) → (List (List Int)) → Prop) → Prop
  | 0 => fun _ _ _ _ _ _ _ _ _ _ _ _ _ => False
  | k + 1 => fun x1 x2 x3 x4 x5 x6 x7 x8 x9 x10 x11 x12 k8 ↦ br (decide (x6 < x5)) (l_4_32 k x1 x2 x3 (IntKind.i64.wrap (x4 * IntKind.i64.wrap ((↑x10.length : Int) + 1))) x5 (IntKind.i64.wrap (x6 + 1)) x7 x8 x9 x10 x11 x12 k8) (k8 x1 x2 x3 x4 x7 x8 x9 x10 x11 x12)
def w_4_32 (k : Nat) (vs : List (SV env.T)) (K : Ex → List (SV env.T) → Prop) : Prop :=
  dCB vs fun x1 vs => dCB vs fun x2 vs => dCI .i64 vs fun x3 vs => dCI .i64 vs fun x4 vs => dCI .i64 vs fun x5 vs => dCI .i64 vs fun x6 vs => dCI .i64 vs fun x7 vs => dCI .i64 vs fun x8 vs => dCA .i64 6 vs fun x9 vs => dCD 60 vs fun x10 vs => dCM 34 3 vs fun x11 vs => dCD 26 vs fun x12 vs => dCE vs (l_4_32 k x1 x2 x3 x4 x5 x6 x7 x8 x9 x10 x11 x12 (fun y1 y2 y3 y4 y5 y6 y7 y8 y9 y10 => K (.exit 8) [.bool y1, .bool y2, .int .i64 y3, .int .i64 y4, .int .i64 y5, .int .i64 y6, .arr .i64 6 y7, .dat 60 y8, .mdat 34 3 y9, .dat 26 y10]))
def p_4_32 : Piece env := ⟨⟨[.any, .ptr 0 0, .hole, .hole, .map 1, .row 2, .any, .any, .any, .any, .any, .any, .any, .any, .hole, .hole, .any, .any, .any, .any, .any, .any, .any, .any, .any, .any, .any, .any, .any, .any, .any, .any, .any, .any, .any, .any, .any, .any, .any, .any, .any, .any, .any, .any, .any, .any, .any, .any, .any, .any, .any, .any, .any, .any, .any, .any, .any, .any, .any, .any, .any, .any, .any, .any, .any, .any, .any, .any, .any, .any, .any, .any, .any, .any, .any, .any, .any, .any, .any, .any, .any, .any, .any, .any, .any, .any, .any, .any, .any, .any, .any, .any, .any, .any, .any, .any, .hole, .hole, .any, .any, .any, .any, .any, .any, .any, .any, .any, .any, .any, .any, .any, .any, .any, .any, .any, .any, .any, .any, .any, .any, .any, .any, .any, .any, .any, .any, .any, .any, .any, .any, .any, .any, .any, .any, .any, .any, .any, .any, .any, .any, .any, .any, .any, .any, .any, .any, .any, .any, .any, .any, .any, .any, .any, .any, .any, .any, .any, .any, .any], [], [(0, .cells 25 [.hole, .hole, .hole, .holeD 60]), (1, .map 34 3), (2, .row 26)], 3⟩, exitF none [(8, ⟨[.any, .ptr 0 0, .hole, .hole, .map 1, .row 2, .any, .any, .any, .any, .any, .any, .any, .any, .hole, .hole, .any, .any, .any, .any, .any, .any, .any, .any, .any, .any, .any, .any, .any, .any, .any, .any, .any, .any, .any, .any, .any, .any, .any, .any, .any, .any, .any, .any, .any, .any, .any, .any, .any, .any, .any, .any, .any, .any, .any, .any, .any, .any, .any, .any, .any, .any, .any, .any, .any, .any, .any, .any, .any, .any, .any, .any, .any, .any, .any, .any, .any, .any, .any, .any, .any, .any, .any, .any, .any, .any, .any, .any, .any, .any, .any, .any, .any, .any, .any, .any, .any, .any, .any, .any, .any, .any, .any, .any, .any, .any, .any, .any, .any, .any, .any, .any, .any, .any, .any, .any, .any, .any, .any, .any, .any, .any, .any, .any, .any, .any, .any, .any, .any, .any, .any, .any, .any, .any, .any, .any, .any, .any, .any, .any, .any, .any, .any, .any, .any, .any, .any, .any, .any, .any, .any, .any, .any, .any, .any, .any, .any, .any, .any], [], [(0, .cells 25 [.hole, .hole, .hole, .holeD 60]), (1, .map 34 3), (2, .row 26)], 3⟩)] none, fun vs K => ∃ k, w_4_32 k vs K⟩
def l_4_41 : Nat → Bool → Bool → Int → Int → Int → Int → Int → Int → Int → (List Int) → (List Change) → (List ((List Int) × Int)) → (List (List Int)) → (List Int) → (List Int) → (Bool → Bool → Int → Int → Int → Int → Int → (List Int) → (List Change) → (List ((List Int) × Int)) → (List (List Int)) → (List Int) → (List Int) → Prop) → Prop
  | 0 => fun _ _ _ _ _ _ _ _ _ _ _ _ _ _ _ _ => False
  | k + 1 => fun x1 x2 x3 x4 x5 x6 x7 x8 x9 x10 x11 x12 x13 x14 x15 k12 ↦ br (decide (x4 < (↑x14.length : Int))) (br (!IntKind.i64.wrap ((↑x11.length : Int) + 1) == 0) (br (inb x4 (↑x14.length : Int)) (br (inb x4 (↑(x14.set x4.toNat (IntKind.i64.wrap (x5.tmod (IntKind.i64.wrap ((↑x11.length : Int) + 1)) - 1))).length : Int)) (br (inb x4 (↑3 : Int)) (br (!IntKind.i64.wrap ((↑x11.length : Int) + 1) == 0) (l_4_41 k x1 x2 x3 (IntKind.i64.wrap (x4 + 1)) (IntKind.i64.wrap (x5.tdiv (IntKind.i64.wrap ((↑x11.length : Int) + 1)))) x6 x7 x8 x9 x10 x11 x12 x13 (x14.set x4.toNat (IntKind.i64.wrap (x5.tmod (IntKind.i64.wrap ((↑x11.length : Int) + 1)) - 1))) (x15.set x4.toNat ((x14.set x4.toNat (IntKind.i64.wrap (x5.tmod (IntKind.i64.wrap ((↑x11.length : Int) + 1)) - 1))).getD x4.toNat (env.d 3))) k12) False) False) False) False) False) (k12 x1 x2 x3 x6 x7 x8 x9 x10 x11 x12 x13 x14 x15)
def w_4_41 (k : Nat) (vs : List (SV env.T)) (K : Ex → List (SV env.T) → Prop) : Prop :=
  dCB vs fun x1 vs => dCB vs fun x2 vs => dCI .i64 vs fun x3 vs => dCI .i64 vs fun x4 vs => dCI .i64 vs fun x5 vs => dCI .i64 vs fun x6 vs => dCI .i64 vs fun x7 vs => dCI .i64 vs fun x8 vs => dCI .i64 vs fun x9 vs => dCA .i64 6 vs fun x10 vs => dCD 60 vs fun x11 vs => dCM 34 3 vs fun x12 vs => dCD 26 vs fun x13 vs => dCD 3 vs fun x14 vs => dCA .i64 3 vs fun x15 vs => dCE vs (l_4_41 k x1 x2 x3 x4 x5 x6 x7 x8 x9 x10 x11 x12 x13 x14 x15 (fun y1 y2 y3 y4 y5 y6 y7 y8 y9 y10 y11 y12 y13 => K (.exit 12) [.bool y1, .bool y2, .int .i64 y3, .int .i64 y4, .int .i64 y5, .int .i64 y6, .int .i64 y7, .arr .i64 6 y8, .dat 60 y9, .mdat 34 3 y10, .dat 26 y11, .dat 3 y12, .arr .i64 3 y13]))
def p_4_41 : Piece env := ⟨⟨[.any, .ptr 0 0, .hole, .hole, .map 1, .row 2, .any, .any, .any, .any, .any, .any, .any, .any, .hole, .any, .any, .row 3, .ptr 4 0, .hole, .hole, .any, .any, .any, .any, .any, .any, .any, .any, .any, .any, .any, .any, .any, .any, .any, .any, .any, .any, .any, .any, .any, .any, .any, .any, .any, .any, .any, .any, .any, .any, .any, .any, .any, .any, .any, .any, .any, .any, .any, .any, .any, .any, .any, .any, .any, .any, .any, .any, .any, .any, .any, .any, .any, .any, .any, .any, .any, .any, .any, .any, .any, .any, .any, .any, .any, .any, .any, .any, .any, .any, .any, .any, .any, .any, .any, .any, .any, .any, .any, .any, .any, .any, .any, .any, .any, .hole, .hole, .any, .any, .any, .any, .any, .any, .any, .any, .any, .any, .any, .any, .any, .any, .any, .any, .any, .any, .any, .any, .any, .any, .any, .any, .any, .any, .any, .any, .any, .any, .any, .any, .any, .any, .any, .any, .any, .any, .any, .any, .any, .any, .any, .any, .any, .any, .any, .any, .any, .any, .any], [], [(0, .cells 25 [.hole, .hole, .hole, .holeD 60]), (1, .map 34 3), (2, .row 26), (3, .row 3), (4, .cells 34 [.hole])], 5⟩, exitF none [(12, ⟨[.any, .ptr 0 0, .hole, .hole, .map 1, .row 2, .any, .any, .any, .any, .any, .any, .any, .any, .hole, .any, .any, .row 3, .ptr 4 0, .any, .any, .any, .any, .any, .any, .any, .any, .any, .any, .any, .any, .any, .any, .any, .any, .any, .any, .any, .any, .any, .any, .any, .any, .any, .any, .any, .any, .any, .any, .any, .any, .any, .any, .any, .any, .any, .any, .any, .any, .any, .any, .any, .any, .any, .any, .any, .any, .any, .any, .any, .any, .any, .any, .any, .any, .any, .any, .any, .any, .any, .any, .any, .any, .any, .any, .any, .any, .any, .any, .any, .any, .any, .any, .any, .any, .any, .any, .any, .any, .any, .any, .any, .any, .any, .any, .any, .hole, .hole, .any, .any, .any, .any, .any, .any, .any, .any, .any, .any, .any, .any, .any, .any, .any, .any, .any, .any, .any, .any, .any, .any, .any, .any, .any, .any, .any, .any, .any, .any, .any, .any, .any, .any, .any, .any, .any, .any, .any, .any, .any, .any, .any, .any, .any, .any, .any, .any, .any, .any, .any], [], [(0, .cells 25 [.hole, .hole, .hole, .holeD 60]), (1, .map 34 3), (2, .row 26), (3, .row 3), (4, .cells 34 [.hole])], 5⟩)] none, fun vs K => ∃ k, w_4_41 k vs K⟩
def l_4_36 : Nat → Bool → Bool → Int → Int → Int → Int → Int → (List Int) → (List Change) → (List ((List Int) × Int)) → (List (List Int)) → (Bool → Prop) → (Bool → Bool → Int → (List (List Int)) → Prop) → Prop
  | 0 => fun _ _ _ _ _ _ _ _ _ _ _ _ _ => False
  | k + 1 => fun x1 x2 x3 x4 x5 x6 x7 x8 x9 x10 x11 kr k10 ↦ br (decide (x5 < x4)) (br (andb (leb 0 x6) (andb (leb x6 x6) (roomB x6.toNat (bytesB env 3)))) (∃ k15, l_4_41 k15 x1 x2 x3 0 x5 x4 x5 x6 x7 x8 x9 x10 x11 (List.replicate x6.toNat 0) [0, 0, 0] fun y16 y17 y18 y19 y20 y21 y22 y23 y24 y25 y26 y27 y28 ↦ V12 (Budget.mk y21 y22 y23 y24) y27 fun y29 ↦ br y29 (br (mGet (keyEq env 34 y28) 0 y25 != 1) (kr false) (l_4_36 k y16 y17 (IntKind.i64.wrap (y18 + 1)) y19 (IntKind.i64.wrap (y20 + 1)) y21 y22 y23 y24 y25 y26 kr k10)) (l_4_36 k y16 y17 y18 y19 (IntKind.i64.wrap (y20 + 1)) y21 y22 y23 y24 y25 y26 kr k10)) False) (k10 x1 x2 x3 x11)
def w_4_36 (k : Nat) (vs : List (SV env.T)) (K : Ex → List (SV env.T) → Prop) : Prop :=
  dCB vs fun x1 vs => dCB vs fun x2 vs => dCI .i64 vs fun x3 vs => dCI .i64 vs fun x4 vs => dCI .i64 vs fun x5 vs => dCI .i64 vs fun x6 vs => dCI .i64 vs fun x7 vs => dCA .i64 6 vs fun x8 vs => dCD 60 vs fun x9 vs => dCM 34 3 vs fun x10 vs => dCD 26 vs fun x11 vs => dCE vs (l_4_36 k x1 x2 x3 x4 x5 x6 x7 x8 x9 x10 x11 (fun y1 => K .ret [.bool y1]) (fun y1 y2 y3 y4 => K (.exit 10) [.bool y1, .bool y2, .int .i64 y3, .dat 26 y4]))
def p_4_36 : Piece env := ⟨⟨[.any, .ptr 0 0, .hole, .hole, .map 1, .row 2, .any, .any, .any, .any, .any, .any, .any, .any, .hole, .any, .any, .any, .any, .any, .any, .any, .any, .any, .any, .any, .any, .any, .any, .any, .any, .any, .any, .any, .any, .any, .any, .any, .any, .any, .any, .any, .any, .any, .any, .any, .any, .any, .any, .any, .any, .any, .any, .any, .any, .any, .any, .any, .any, .any, .any, .any, .any, .any, .any, .any, .any, .any, .any, .any, .any, .any, .any, .any, .any, .any, .any, .any, .any, .any, .any, .any, .any, .any, .any, .any, .any, .any, .any, .any, .any, .any, .any, .any, .any, .any, .any, .any, .any, .any, .any, .any, .any, .any, .any, .any, .hole, .hole, .any, .any, .any, .any, .any, .any, .any, .any, .any, .any, .any, .any, .any, .any, .any, .any, .any, .any, .any, .any, .any, .any, .any, .any, .any, .any, .any, .any, .any, .any, .any, .any, .any, .any, .any, .any, .any, .any, .any, .any, .any, .any, .any, .any, .any, .any, .any, .any, .any, .any, .any], [], [(0, .cells 25 [.hole, .hole, .hole, .holeD 60]), (1, .map 34 3), (2, .row 26)], 3⟩, exitF none [(10, ⟨[.any, .any, .hole, .hole, .any, .row 0, .any, .any, .any, .any, .any, .any, .any, .any, .hole, .any, .any, .any, .any, .any, .any, .any, .any, .any, .any, .any, .any, .any, .any, .any, .any, .any, .any, .any, .any, .any, .any, .any, .any, .any, .any, .any, .any, .any, .any, .any, .any, .any, .any, .any, .any, .any, .any, .any, .any, .any, .any, .any, .any, .any, .any, .any, .any, .any, .any, .any, .any, .any, .any, .any, .any, .any, .any, .any, .any, .any, .any, .any, .any, .any, .any, .any, .any, .any, .any, .any, .any, .any, .any, .any, .any, .any, .any, .any, .any, .any, .any, .any, .any, .any, .any, .any, .any, .any, .any, .any, .any, .any, .any, .any, .any, .any, .any, .any, .any, .any, .any, .any, .any, .any, .any, .any, .any, .any, .any, .any, .any, .any, .any, .any, .any, .any, .any, .any, .any, .any, .any, .any, .any, .any, .any, .any, .any, .any, .any, .any, .any, .any, .any, .any, .any, .any, .any, .any, .any, .any, .any, .any, .any], [], [(0, .row 26)], 1⟩)] (some ⟨[.any, .any, .hole, .any, .any, .any, .any, .any, .any, .any, .any, .any, .any, .any, .any, .any, .any, .any, .any, .any, .any, .any, .any, .any, .any, .any, .any, .any, .any, .any, .any, .any, .any, .any, .any, .any, .any, .any, .any, .any, .any, .any, .any, .any, .any, .any, .any, .any, .any, .any, .any, .any, .any, .any, .any, .any, .any, .any, .any, .any, .any, .any, .any, .any, .any, .any, .any, .any, .any, .any, .any, .any, .any, .any, .any, .any, .any, .any, .any, .any, .any, .any, .any, .any, .any, .any, .any, .any, .any, .any, .any, .any, .any, .any, .any, .any, .any, .any, .any, .any, .any, .any, .any, .any, .any, .any, .any, .any, .any, .any, .any, .any, .any, .any, .any, .any, .any, .any, .any, .any, .any, .any, .any, .any, .any, .any, .any, .any, .any, .any, .any, .any, .any, .any, .any, .any, .any, .any, .any, .any, .any, .any, .any, .any, .any, .any, .any, .any, .any, .any, .any, .any, .any, .any, .any, .any, .any, .any, .any], [], [], 0⟩), fun vs K => ∃ k, w_4_36 k vs K⟩
def s_4_4 : Bool → Bool → Int → Int → (List Int) → (List Change) → (Bool → Prop) → Prop :=
  fun x1 x2 x3 x4 x5 x6 kr ↦ ∃ k9, l_4_7 k9 x1 x2 x3 0 x3 x4 x5 x6 [] [[]] kr fun y10 y11 y12 y13 y14 y15 y16 y17 ↦ ∃ k18, l_4_23 k18 y10 y11 (↑y17.length : Int) 0 y12 y13 y14 y15 y16 y17 fun y19 y20 y21 y22 y23 y24 y25 y26 ↦ ∃ k27, l_4_32 k27 y19 y20 0 1 y21 0 y21 y22 y23 y24 y25 y26 fun y28 y29 y30 y31 y32 y33 y34 y35 y36 y37 ↦ ∃ k38, l_4_36 k38 y28 y29 y30 y31 0 y32 y33 y34 y35 y36 y37 kr fun _ y40 y41 y42 ↦ br y40 (kr (y41 == (↑y42.length : Int))) (kr false)
def v_4_4 (vs : List (SV env.T)) (K : Ex → List (SV env.T) → Prop) : Prop :=
  dCB vs fun x1 vs => dCB vs fun x2 vs => dCI .i64 vs fun x3 vs => dCI .i64 vs fun x4 vs => dCA .i64 6 vs fun x5 vs => dCD 60 vs fun x6 vs => dCE vs (s_4_4 x1 x2 x3 x4 x5 x6 (fun y1 => K .ret [.bool y1]))
def q_4_4 : Piece env := ⟨⟨[.any, .ptr 0 0, .hole, .hole, .any, .any, .any, .any, .any, .any, .any, .any, .any, .any, .any, .any, .any, .any, .any, .any, .any, .any, .any, .any, .any, .any, .any, .any, .any, .any, .any, .any, .any, .any, .any, .any, .any, .any, .any, .any, .any, .any, .any, .any, .any, .any, .any, .any, .any, .any, .any, .any, .any, .any, .any, .any, .any, .any, .any, .any, .any, .any, .any, .any, .any, .any, .any, .any, .any, .any, .any, .any, .any, .any, .any, .any, .any, .any, .any, .any, .any, .any, .any, .any, .any, .any, .any, .any, .any, .any, .any, .any, .any, .any, .any, .any, .any, .any, .any, .any, .any, .any, .any, .any, .any, .any, .any, .any, .any, .any, .any, .any, .any, .any, .any, .any, .any, .any, .any, .any, .any, .any, .any, .any, .any, .any, .any, .any, .any, .any, .any, .any, .any, .any, .any, .any, .any, .any, .any, .any, .any, .any, .any, .any, .any, .any, .any, .any, .any, .any, .any, .any, .any, .any, .any, .any, .any, .any, .any], [], [(0, .cells 25 [.hole, .hole, .hole, .holeD 60])], 1⟩, exitF none [] (some ⟨[.any, .any, .hole, .any, .any, .any, .any, .any, .any, .any, .any, .any, .any, .any, .any, .any, .any, .any, .any, .any, .any, .any, .any, .any, .any, .any, .any, .any, .any, .any, .any, .any, .any, .any, .any, .any, .any, .any, .any, .any, .any, .any, .any, .any, .any, .any, .any, .any, .any, .any, .any, .any, .any, .any, .any, .any, .any, .any, .any, .any, .any, .any, .any, .any, .any, .any, .any, .any, .any, .any, .any, .any, .any, .any, .any, .any, .any, .any, .any, .any, .any, .any, .any, .any, .any, .any, .any, .any, .any, .any, .any, .any, .any, .any, .any, .any, .any, .any, .any, .any, .any, .any, .any, .any, .any, .any, .any, .any, .any, .any, .any, .any, .any, .any, .any, .any, .any, .any, .any, .any, .any, .any, .any, .any, .any, .any, .any, .any, .any, .any, .any, .any, .any, .any, .any, .any, .any, .any, .any, .any, .any, .any, .any, .any, .any, .any, .any, .any, .any, .any, .any, .any, .any, .any, .any, .any, .any, .any, .any], [], [], 0⟩), v_4_4⟩
noncomputable def B4 : Budget → (Y4 → Prop) → Prop :=
  fun x0 K ↦ V9 fun y2 ↦ br (decide (x0.periods > 3)) (K y2) (br (decide (x0.periods < 0)) (K y2) (br (decide ((↑x0.choices.length : Int) > 4)) (K y2) (V13 x0 fun y3 ↦ br (!y3) (K y2) (s_4_4 false y2 x0.periods x0.length x0.left x0.choices K))))
theorem V4_ex : ∃ V : Budget → (Y4 → Prop) → Prop, V = B4 := ⟨_, rfl⟩
noncomputable def V4 : Budget → (Y4 → Prop) → Prop := Classical.choose V4_ex
theorem V4_eq : V4 = B4 := Classical.choose_spec V4_ex
theorem pook_4_13_4 : PiecesOk Tryz.prog env (ctxG env false [] R3 [] []) 4 b4 :=
  pieces_at (L := []) (S := []) (fun _ => rfl) (fun _ => rfl) (by kernel_rfl) (by kernel_rfl) (fun _ hq => by cases hq) (fun _ hq => by cases hq)
theorem book_4_13 : BodiesOk Tryz.prog env (ctxG env false [] R3 [] []) := bodies_okG (ks := []) (by kernel_rfl) (fun _ hq => by cases hq)
theorem stok_4_13 (k : Nat) (x1 : Bool) (x2 : Bool) (x3 : (List Int)) (x4 : Int) (x5 : Int) (x6 : Int) (x7 : Int) (x8 : (List Int)) (x9 : Int) (x10 : Int) (x11 : Int) (x12 : Int) (x13 : (List Int)) (x14 : (List Change)) (x15 : (List ((List Int) × Int))) (x16 : (List (List Int))) (x17 : (List (List Int))) (K : Ex → List (SV env.T) → Prop) : l_4_13 (k + 1) x1 x2 x3 x4 x5 x6 x7 x8 x9 x10 x11 x12 x13 x14 x15 x16 x17 (fun y1 y2 y3 y4 y5 y6 y7 y8 y9 y10 y11 y12 y13 => K (.exit 4) [.bool y1, .bool y2, .int .i64 y3, .int .i64 y4, .int .i64 y5, .int .i64 y6, .int .i64 y7, .int .i64 y8, .arr .i64 6 y9, .dat 60 y10, .mdat 34 3 y11, .dat 26 y12, .dat 26 y13]) = vcCode env (ctxG env false [] R3 [] []) 2000 4 (loopAt b4 13) (insSt p_4_13.head [.bool x1, .bool x2, .dat 3 x3, .int .i64 x4, .int .i64 x5, .int .i64 x6, .int .i64 x7, .dat 3 x8, .int .i64 x9, .int .i64 x10, .int .i64 x11, .int .i64 x12, .arr .i64 6 x13, .dat 60 x14, .mdat 34 3 x15, .dat 26 x16, .dat 26 x17]) (stepK p_4_13 (w_4_13 k) K) := by kernel_rfl
theorem wiok_4_13 (k : Nat) (vs : List (SV env.T)) (K : Ex → List (SV env.T) → Prop) (h : w_4_13 k vs K) : ∃ x1 : Bool, ∃ x2 : Bool, ∃ x3 : (List Int), ∃ x4 : Int, ∃ x5 : Int, ∃ x6 : Int, ∃ x7 : Int, ∃ x8 : (List Int), ∃ x9 : Int, ∃ x10 : Int, ∃ x11 : Int, ∃ x12 : Int, ∃ x13 : (List Int), ∃ x14 : (List Change), ∃ x15 : (List ((List Int) × Int)), ∃ x16 : (List (List Int)), ∃ x17 : (List (List Int)), vs = [.bool x1, .bool x2, .dat 3 x3, .int .i64 x4, .int .i64 x5, .int .i64 x6, .int .i64 x7, .dat 3 x8, .int .i64 x9, .int .i64 x10, .int .i64 x11, .int .i64 x12, .arr .i64 6 x13, .dat 60 x14, .mdat 34 3 x15, .dat 26 x16, .dat 26 x17] ∧ l_4_13 k x1 x2 x3 x4 x5 x6 x7 x8 x9 x10 x11 x12 x13 x14 x15 x16 x17 (fun y1 y2 y3 y4 y5 y6 y7 y8 y9 y10 y11 y12 y13 => K (.exit 4) [.bool y1, .bool y2, .int .i64 y3, .int .i64 y4, .int .i64 y5, .int .i64 y6, .int .i64 y7, .int .i64 y8, .arr .i64 6 y9, .dat 60 y10, .mdat 34 3 y11, .dat 26 y12, .dat 26 y13]) := by
  unfold w_4_13 at h
  replace h := dCB_spec h
  obtain ⟨x1, vs0, e0, h⟩ := h
  replace h := dCB_spec h
  obtain ⟨x2, vs1, e1, h⟩ := h
  replace h := dCD_spec h
  obtain ⟨x3, vs2, e2, h⟩ := h
  replace h := dCI_spec h
  obtain ⟨x4, vs3, e3, h⟩ := h
  replace h := dCI_spec h
  obtain ⟨x5, vs4, e4, h⟩ := h
  replace h := dCI_spec h
  obtain ⟨x6, vs5, e5, h⟩ := h
  replace h := dCI_spec h
  obtain ⟨x7, vs6, e6, h⟩ := h
  replace h := dCD_spec h
  obtain ⟨x8, vs7, e7, h⟩ := h
  replace h := dCI_spec h
  obtain ⟨x9, vs8, e8, h⟩ := h
  replace h := dCI_spec h
  obtain ⟨x10, vs9, e9, h⟩ := h
  replace h := dCI_spec h
  obtain ⟨x11, vs10, e10, h⟩ := h
  replace h := dCI_spec h
  obtain ⟨x12, vs11, e11, h⟩ := h
  replace h := dCA_spec h
  obtain ⟨x13, vs12, e12, h⟩ := h
  replace h := dCD_spec h
  obtain ⟨x14, vs13, e13, h⟩ := h
  replace h := dCM_spec h
  obtain ⟨x15, vs14, e14, h⟩ := h
  replace h := dCD_spec h
  obtain ⟨x16, vs15, e15, h⟩ := h
  replace h := dCD_spec h
  obtain ⟨x17, vs16, e16, h⟩ := h
  replace h := dCE_spec h
  obtain ⟨e, h⟩ := h
  exact ⟨x1, x2, x3, x4, x5, x6, x7, x8, x9, x10, x11, x12, x13, x14, x15, x16, x17, by rw [e0, e1, e2, e3, e4, e5, e6, e7, e8, e9, e10, e11, e12, e13, e14, e15, e16, e], h⟩
theorem zeok_4_13 (x1 : Bool) (x2 : Bool) (x3 : (List Int)) (x4 : Int) (x5 : Int) (x6 : Int) (x7 : Int) (x8 : (List Int)) (x9 : Int) (x10 : Int) (x11 : Int) (x12 : Int) (x13 : (List Int)) (x14 : (List Change)) (x15 : (List ((List Int) × Int))) (x16 : (List (List Int))) (x17 : (List (List Int))) (K : Ex → List (SV env.T) → Prop) : l_4_13 0 x1 x2 x3 x4 x5 x6 x7 x8 x9 x10 x11 x12 x13 x14 x15 x16 x17 (fun y1 y2 y3 y4 y5 y6 y7 y8 y9 y10 y11 y12 y13 => K (.exit 4) [.bool y1, .bool y2, .int .i64 y3, .int .i64 y4, .int .i64 y5, .int .i64 y6, .int .i64 y7, .int .i64 y8, .arr .i64 6 y9, .dat 60 y10, .mdat 34 3 y11, .dat 26 y12, .dat 26 y13]) = False := by kernel_rfl
theorem ok_4_13 : PieceOk Tryz.prog env p_4_13 (.loop (loopAt b4 13)) := by
  refine loop_step (Wn := w_4_13) tab (ctxG_ok R3_ok false [] _ _) book_4_13 (pieces_sub pook_4_13_4 (by kernel_rfl)) rfl ?_ 2000 ?_
  · intro vs K h
    obtain ⟨x1, x2, x3, x4, x5, x6, x7, x8, x9, x10, x11, x12, x13, x14, x15, x16, x17, _, h⟩ := wiok_4_13 0 vs K h
    exact Eq.mp (zeok_4_13 x1 x2 x3 x4 x5 x6 x7 x8 x9 x10 x11 x12 x13 x14 x15 x16 x17 K) h
  · intro k vs K h
    obtain ⟨x1, x2, x3, x4, x5, x6, x7, x8, x9, x10, x11, x12, x13, x14, x15, x16, x17, rfl, h⟩ := wiok_4_13 (k + 1) vs K h
    exact Eq.mp (stok_4_13 k x1 x2 x3 x4 x5 x6 x7 x8 x9 x10 x11 x12 x13 x14 x15 x16 x17 K) h
theorem pook_4_10_4 : PiecesOk Tryz.prog env (ctxG env false [] R3 [(4, [(13, p_4_13)])] []) 4 b4 :=
  pieces_at (L := [(13, p_4_13)]) (S := []) (fun _ => rfl) (fun _ => rfl) (by kernel_rfl) (by kernel_rfl) (List.forall_mem_cons.2 ⟨fun _ => ok_4_13, (fun _ hq => by cases hq)⟩) (fun _ hq => by cases hq)
theorem book_4_10 : BodiesOk Tryz.prog env (ctxG env false [] R3 [(4, [(13, p_4_13)])] []) := bodies_okG (ks := [4]) (by kernel_rfl) (List.forall_mem_cons.2 ⟨body_at (fn := f4) (body := b4) rfl hb4 pook_4_10_4, (fun _ hq => by cases hq)⟩)
theorem stok_4_10 (k : Nat) (x1 : Bool) (x2 : Bool) (x3 : Int) (x4 : Int) (x5 : Int) (x6 : Int) (x7 : Int) (x8 : Int) (x9 : (List Int)) (x10 : (List Change)) (x11 : (List ((List Int) × Int))) (x12 : (List (List Int))) (x13 : (List (List Int))) (K : Ex → List (SV env.T) → Prop) : l_4_10 (k + 1) x1 x2 x3 x4 x5 x6 x7 x8 x9 x10 x11 x12 x13 (fun y1 y2 y3 y4 y5 y6 y7 y8 y9 y10 y11 => K (.exit 2) [.bool y1, .bool y2, .int .i64 y3, .int .i64 y4, .int .i64 y5, .int .i64 y6, .arr .i64 6 y7, .dat 60 y8, .mdat 34 3 y9, .dat 26 y10, .dat 26 y11]) = vcCode env (ctxG env false [] R3 [(4, [(13, p_4_13)])] []) 2000 4 (loopAt b4 10) (insSt p_4_10.head [.bool x1, .bool x2, .int .i64 x3, .int .i64 x4, .int .i64 x5, .int .i64 x6, .int .i64 x7, .int .i64 x8, .arr .i64 6 x9, .dat 60 x10, .mdat 34 3 x11, .dat 26 x12, .dat 26 x13]) (stepK p_4_10 (w_4_10 k) K) := by kernel_rfl
theorem wiok_4_10 (k : Nat) (vs : List (SV env.T)) (K : Ex → List (SV env.T) → Prop) (h : w_4_10 k vs K) : ∃ x1 : Bool, ∃ x2 : Bool, ∃ x3 : Int, ∃ x4 : Int, ∃ x5 : Int, ∃ x6 : Int, ∃ x7 : Int, ∃ x8 : Int, ∃ x9 : (List Int), ∃ x10 : (List Change), ∃ x11 : (List ((List Int) × Int)), ∃ x12 : (List (List Int)), ∃ x13 : (List (List Int)), vs = [.bool x1, .bool x2, .int .i64 x3, .int .i64 x4, .int .i64 x5, .int .i64 x6, .int .i64 x7, .int .i64 x8, .arr .i64 6 x9, .dat 60 x10, .mdat 34 3 x11, .dat 26 x12, .dat 26 x13] ∧ l_4_10 k x1 x2 x3 x4 x5 x6 x7 x8 x9 x10 x11 x12 x13 (fun y1 y2 y3 y4 y5 y6 y7 y8 y9 y10 y11 => K (.exit 2) [.bool y1, .bool y2, .int .i64 y3, .int .i64 y4, .int .i64 y5, .int .i64 y6, .arr .i64 6 y7, .dat 60 y8, .mdat 34 3 y9, .dat 26 y10, .dat 26 y11]) := by
  unfold w_4_10 at h
  replace h := dCB_spec h
  obtain ⟨x1, vs0, e0, h⟩ := h
  replace h := dCB_spec h
  obtain ⟨x2, vs1, e1, h⟩ := h
  replace h := dCI_spec h
  obtain ⟨x3, vs2, e2, h⟩ := h
  replace h := dCI_spec h
  obtain ⟨x4, vs3, e3, h⟩ := h
  replace h := dCI_spec h
  obtain ⟨x5, vs4, e4, h⟩ := h
  replace h := dCI_spec h
  obtain ⟨x6, vs5, e5, h⟩ := h
  replace h := dCI_spec h
  obtain ⟨x7, vs6, e6, h⟩ := h
  replace h := dCI_spec h
  obtain ⟨x8, vs7, e7, h⟩ := h
  replace h := dCA_spec h
  obtain ⟨x9, vs8, e8, h⟩ := h
  replace h := dCD_spec h
  obtain ⟨x10, vs9, e9, h⟩ := h
  replace h := dCM_spec h
  obtain ⟨x11, vs10, e10, h⟩ := h
  replace h := dCD_spec h
  obtain ⟨x12, vs11, e11, h⟩ := h
  replace h := dCD_spec h
  obtain ⟨x13, vs12, e12, h⟩ := h
  replace h := dCE_spec h
  obtain ⟨e, h⟩ := h
  exact ⟨x1, x2, x3, x4, x5, x6, x7, x8, x9, x10, x11, x12, x13, by rw [e0, e1, e2, e3, e4, e5, e6, e7, e8, e9, e10, e11, e12, e], h⟩
theorem zeok_4_10 (x1 : Bool) (x2 : Bool) (x3 : Int) (x4 : Int) (x5 : Int) (x6 : Int) (x7 : Int) (x8 : Int) (x9 : (List Int)) (x10 : (List Change)) (x11 : (List ((List Int) × Int))) (x12 : (List (List Int))) (x13 : (List (List Int))) (K : Ex → List (SV env.T) → Prop) : l_4_10 0 x1 x2 x3 x4 x5 x6 x7 x8 x9 x10 x11 x12 x13 (fun y1 y2 y3 y4 y5 y6 y7 y8 y9 y10 y11 => K (.exit 2) [.bool y1, .bool y2, .int .i64 y3, .int .i64 y4, .int .i64 y5, .int .i64 y6, .arr .i64 6 y7, .dat 60 y8, .mdat 34 3 y9, .dat 26 y10, .dat 26 y11]) = False := by kernel_rfl
theorem ok_4_10 : PieceOk Tryz.prog env p_4_10 (.loop (loopAt b4 10)) := by
  refine loop_step (Wn := w_4_10) tab (ctxG_ok R3_ok false [] _ _) book_4_10 (pieces_sub pook_4_10_4 (by kernel_rfl)) rfl ?_ 2000 ?_
  · intro vs K h
    obtain ⟨x1, x2, x3, x4, x5, x6, x7, x8, x9, x10, x11, x12, x13, _, h⟩ := wiok_4_10 0 vs K h
    exact Eq.mp (zeok_4_10 x1 x2 x3 x4 x5 x6 x7 x8 x9 x10 x11 x12 x13 K) h
  · intro k vs K h
    obtain ⟨x1, x2, x3, x4, x5, x6, x7, x8, x9, x10, x11, x12, x13, rfl, h⟩ := wiok_4_10 (k + 1) vs K h
    exact Eq.mp (stok_4_10 k x1 x2 x3 x4 x5 x6 x7 x8 x9 x10 x11 x12 x13 K) h
theorem pook_4_7_4 : PiecesOk Tryz.prog env (ctxG env false [] R3 [(4, [(13, p_4_13), (10, p_4_10)])] []) 4 b4 :=
  pieces_at (L := [(13, p_4_13), (10, p_4_10)]) (S := []) (fun _ => rfl) (fun _ => rfl) (by kernel_rfl) (by kernel_rfl) (List.forall_mem_cons.2 ⟨fun _ => ok_4_13, (List.forall_mem_cons.2 ⟨fun _ => ok_4_10, (fun _ hq => by cases hq)⟩)⟩) (fun _ hq => by cases hq)
theorem book_4_7 : BodiesOk Tryz.prog env (ctxG env false [] R3 [(4, [(13, p_4_13), (10, p_4_10)])] []) := bodies_okG (ks := [4]) (by kernel_rfl) (List.forall_mem_cons.2 ⟨body_at (fn := f4) (body := b4) rfl hb4 pook_4_7_4, (fun _ hq => by cases hq)⟩)
theorem stok_4_7 (k : Nat) (x1 : Bool) (x2 : Bool) (x3 : Int) (x4 : Int) (x5 : Int) (x6 : Int) (x7 : (List Int)) (x8 : (List Change)) (x9 : (List ((List Int) × Int))) (x10 : (List (List Int))) (K : Ex → List (SV env.T) → Prop) : l_4_7 (k + 1) x1 x2 x3 x4 x5 x6 x7 x8 x9 x10 (fun y1 => K .ret [.bool y1]) (fun y1 y2 y3 y4 y5 y6 y7 y8 => K (.exit 0) [.bool y1, .bool y2, .int .i64 y3, .int .i64 y4, .arr .i64 6 y5, .dat 60 y6, .mdat 34 3 y7, .dat 26 y8]) = vcCode env (ctxG env false [] R3 [(4, [(13, p_4_13), (10, p_4_10)])] []) 2000 4 (loopAt b4 7) (insSt p_4_7.head [.bool x1, .bool x2, .int .i64 x3, .int .i64 x4, .int .i64 x5, .int .i64 x6, .arr .i64 6 x7, .dat 60 x8, .mdat 34 3 x9, .dat 26 x10]) (stepK p_4_7 (w_4_7 k) K) := by kernel_rfl
theorem wiok_4_7 (k : Nat) (vs : List (SV env.T)) (K : Ex → List (SV env.T) → Prop) (h : w_4_7 k vs K) : ∃ x1 : Bool, ∃ x2 : Bool, ∃ x3 : Int, ∃ x4 : Int, ∃ x5 : Int, ∃ x6 : Int, ∃ x7 : (List Int), ∃ x8 : (List Change), ∃ x9 : (List ((List Int) × Int)), ∃ x10 : (List (List Int)), vs = [.bool x1, .bool x2, .int .i64 x3, .int .i64 x4, .int .i64 x5, .int .i64 x6, .arr .i64 6 x7, .dat 60 x8, .mdat 34 3 x9, .dat 26 x10] ∧ l_4_7 k x1 x2 x3 x4 x5 x6 x7 x8 x9 x10 (fun y1 => K .ret [.bool y1]) (fun y1 y2 y3 y4 y5 y6 y7 y8 => K (.exit 0) [.bool y1, .bool y2, .int .i64 y3, .int .i64 y4, .arr .i64 6 y5, .dat 60 y6, .mdat 34 3 y7, .dat 26 y8]) := by
  unfold w_4_7 at h
  replace h := dCB_spec h
  obtain ⟨x1, vs0, e0, h⟩ := h
  replace h := dCB_spec h
  obtain ⟨x2, vs1, e1, h⟩ := h
  replace h := dCI_spec h
  obtain ⟨x3, vs2, e2, h⟩ := h
  replace h := dCI_spec h
  obtain ⟨x4, vs3, e3, h⟩ := h
  replace h := dCI_spec h
  obtain ⟨x5, vs4, e4, h⟩ := h
  replace h := dCI_spec h
  obtain ⟨x6, vs5, e5, h⟩ := h
  replace h := dCA_spec h
  obtain ⟨x7, vs6, e6, h⟩ := h
  replace h := dCD_spec h
  obtain ⟨x8, vs7, e7, h⟩ := h
  replace h := dCM_spec h
  obtain ⟨x9, vs8, e8, h⟩ := h
  replace h := dCD_spec h
  obtain ⟨x10, vs9, e9, h⟩ := h
  replace h := dCE_spec h
  obtain ⟨e, h⟩ := h
  exact ⟨x1, x2, x3, x4, x5, x6, x7, x8, x9, x10, by rw [e0, e1, e2, e3, e4, e5, e6, e7, e8, e9, e], h⟩
theorem zeok_4_7 (x1 : Bool) (x2 : Bool) (x3 : Int) (x4 : Int) (x5 : Int) (x6 : Int) (x7 : (List Int)) (x8 : (List Change)) (x9 : (List ((List Int) × Int))) (x10 : (List (List Int))) (K : Ex → List (SV env.T) → Prop) : l_4_7 0 x1 x2 x3 x4 x5 x6 x7 x8 x9 x10 (fun y1 => K .ret [.bool y1]) (fun y1 y2 y3 y4 y5 y6 y7 y8 => K (.exit 0) [.bool y1, .bool y2, .int .i64 y3, .int .i64 y4, .arr .i64 6 y5, .dat 60 y6, .mdat 34 3 y7, .dat 26 y8]) = False := by kernel_rfl
theorem ok_4_7 : PieceOk Tryz.prog env p_4_7 (.loop (loopAt b4 7)) := by
  refine loop_step (Wn := w_4_7) tab (ctxG_ok R3_ok false [] _ _) book_4_7 (pieces_sub pook_4_7_4 (by kernel_rfl)) rfl ?_ 2000 ?_
  · intro vs K h
    obtain ⟨x1, x2, x3, x4, x5, x6, x7, x8, x9, x10, _, h⟩ := wiok_4_7 0 vs K h
    exact Eq.mp (zeok_4_7 x1 x2 x3 x4 x5 x6 x7 x8 x9 x10 K) h
  · intro k vs K h
    obtain ⟨x1, x2, x3, x4, x5, x6, x7, x8, x9, x10, rfl, h⟩ := wiok_4_7 (k + 1) vs K h
    exact Eq.mp (stok_4_7 k x1 x2 x3 x4 x5 x6 x7 x8 x9 x10 K) h
theorem pook_4_23_4 : PiecesOk Tryz.prog env (ctxG env false [] R3 [] []) 4 b4 :=
  pieces_at (L := []) (S := []) (fun _ => rfl) (fun _ => rfl) (by kernel_rfl) (by kernel_rfl) (fun _ hq => by cases hq) (fun _ hq => by cases hq)
theorem book_4_23 : BodiesOk Tryz.prog env (ctxG env false [] R3 [] []) := bodies_okG (ks := []) (by kernel_rfl) (fun _ hq => by cases hq)
theorem stok_4_23 (k : Nat) (x1 : Bool) (x2 : Bool) (x3 : Int) (x4 : Int) (x5 : Int) (x6 : Int) (x7 : (List Int)) (x8 : (List Change)) (x9 : (List ((List Int) × Int))) (x10 : (List (List Int))) (K : Ex → List (SV env.T) → Prop) : l_4_23 (k + 1) x1 x2 x3 x4 x5 x6 x7 x8 x9 x10 (fun y1 y2 y3 y4 y5 y6 y7 y8 => K (.exit 6) [.bool y1, .bool y2, .int .i64 y3, .int .i64 y4, .arr .i64 6 y5, .dat 60 y6, .mdat 34 3 y7, .dat 26 y8]) = vcCode env (ctxG env false [] R3 [] []) 2000 4 (loopAt b4 23) (insSt p_4_23.head [.bool x1, .bool x2, .int .i64 x3, .int .i64 x4, .int .i64 x5, .int .i64 x6, .arr .i64 6 x7, .dat 60 x8, .mdat 34 3 x9, .dat 26 x10]) (stepK p_4_23 (w_4_23 k) K) := by kernel_rfl
theorem wiok_4_23 (k : Nat) (vs : List (SV env.T)) (K : Ex → List (SV env.T) → Prop) (h : w_4_23 k vs K) : ∃ x1 : Bool, ∃ x2 : Bool, ∃ x3 : Int, ∃ x4 : Int, ∃ x5 : Int, ∃ x6 : Int, ∃ x7 : (List Int), ∃ x8 : (List Change), ∃ x9 : (List ((List Int) × Int)), ∃ x10 : (List (List Int)), vs = [.bool x1, .bool x2, .int .i64 x3, .int .i64 x4, .int .i64 x5, .int .i64 x6, .arr .i64 6 x7, .dat 60 x8, .mdat 34 3 x9, .dat 26 x10] ∧ l_4_23 k x1 x2 x3 x4 x5 x6 x7 x8 x9 x10 (fun y1 y2 y3 y4 y5 y6 y7 y8 => K (.exit 6) [.bool y1, .bool y2, .int .i64 y3, .int .i64 y4, .arr .i64 6 y5, .dat 60 y6, .mdat 34 3 y7, .dat 26 y8]) := by
  unfold w_4_23 at h
  replace h := dCB_spec h
  obtain ⟨x1, vs0, e0, h⟩ := h
  replace h := dCB_spec h
  obtain ⟨x2, vs1, e1, h⟩ := h
  replace h := dCI_spec h
  obtain ⟨x3, vs2, e2, h⟩ := h
  replace h := dCI_spec h
  obtain ⟨x4, vs3, e3, h⟩ := h
  replace h := dCI_spec h
  obtain ⟨x5, vs4, e4, h⟩ := h
  replace h := dCI_spec h
  obtain ⟨x6, vs5, e5, h⟩ := h
  replace h := dCA_spec h
  obtain ⟨x7, vs6, e6, h⟩ := h
  replace h := dCD_spec h
  obtain ⟨x8, vs7, e7, h⟩ := h
  replace h := dCM_spec h
  obtain ⟨x9, vs8, e8, h⟩ := h
  replace h := dCD_spec h
  obtain ⟨x10, vs9, e9, h⟩ := h
  replace h := dCE_spec h
  obtain ⟨e, h⟩ := h
  exact ⟨x1, x2, x3, x4, x5, x6, x7, x8, x9, x10, by rw [e0, e1, e2, e3, e4, e5, e6, e7, e8, e9, e], h⟩
theorem zeok_4_23 (x1 : Bool) (x2 : Bool) (x3 : Int) (x4 : Int) (x5 : Int) (x6 : Int) (x7 : (List Int)) (x8 : (List Change)) (x9 : (List ((List Int) × Int))) (x10 : (List (List Int))) (K : Ex → List (SV env.T) → Prop) : l_4_23 0 x1 x2 x3 x4 x5 x6 x7 x8 x9 x10 (fun y1 y2 y3 y4 y5 y6 y7 y8 => K (.exit 6) [.bool y1, .bool y2, .int .i64 y3, .int .i64 y4, .arr .i64 6 y5, .dat 60 y6, .mdat 34 3 y7, .dat 26 y8]) = False := by kernel_rfl
theorem ok_4_23 : PieceOk Tryz.prog env p_4_23 (.loop (loopAt b4 23)) := by
  refine loop_step (Wn := w_4_23) tab (ctxG_ok R3_ok false [] _ _) book_4_23 (pieces_sub pook_4_23_4 (by kernel_rfl)) rfl ?_ 2000 ?_
  · intro vs K h
    obtain ⟨x1, x2, x3, x4, x5, x6, x7, x8, x9, x10, _, h⟩ := wiok_4_23 0 vs K h
    exact Eq.mp (zeok_4_23 x1 x2 x3 x4 x5 x6 x7 x8 x9 x10 K) h
  · intro k vs K h
    obtain ⟨x1, x2, x3, x4, x5, x6, x7, x8, x9, x10, rfl, h⟩ := wiok_4_23 (k + 1) vs K h
    exact Eq.mp (stok_4_23 k x1 x2 x3 x4 x5 x6 x7 x8 x9 x10 K) h
theorem pook_4_32_4 : PiecesOk Tryz.prog env (ctxG env false [] R3 [] []) 4 b4 :=
  pieces_at (L := []) (S := []) (fun _ => rfl) (fun _ => rfl) (by kernel_rfl) (by kernel_rfl) (fun _ hq => by cases hq) (fun _ hq => by cases hq)
theorem book_4_32 : BodiesOk Tryz.prog env (ctxG env false [] R3 [] []) := bodies_okG (ks := []) (by kernel_rfl) (fun _ hq => by cases hq)
theorem stok_4_32 (k : Nat) (x1 : Bool) (x2 : Bool) (x3 : Int) (x4 : Int) (x5 : Int) (x6 : Int) (x7 : Int) (x8 : Int) (x9 : (List Int)) (x10 : (List Change)) (x11 : (List ((List Int) × Int))) (x12 : (List (List Int))) (K : Ex → List (SV env.T) → Prop) : l_4_32 (k + 1) x1 x2 x3 x4 x5 x6 x7 x8 x9 x10 x11 x12 (fun y1 y2 y3 y4 y5 y6 y7 y8 y9 y10 => K (.exit 8) [.bool y1, .bool y2, .int .i64 y3, .int .i64 y4, .int .i64 y5, .int .i64 y6, .arr .i64 6 y7, .dat 60 y8, .mdat 34 3 y9, .dat 26 y10]) = vcCode env (ctxG env false [] R3 [] []) 2000 4 (loopAt b4 32) (insSt p_4_32.head [.bool x1, .bool x2, .int .i64 x3, .int .i64 x4, .int .i64 x5, .int .i64 x6, .int .i64 x7, .int .i64 x8, .arr .i64 6 x9, .dat 60 x10, .mdat 34 3 x11, .dat 26 x12]) (stepK p_4_32 (w_4_32 k) K) := by kernel_rfl
theorem wiok_4_32 (k : Nat) (vs : List (SV env.T)) (K : Ex → List (SV env.T) → Prop) (h : w_4_32 k vs K) : ∃ x1 : Bool, ∃ x2 : Bool, ∃ x3 : Int, ∃ x4 : Int, ∃ x5 : Int, ∃ x6 : Int, ∃ x7 : Int, ∃ x8 : Int, ∃ x9 : (List Int), ∃ x10 : (List Change), ∃ x11 : (List ((List Int) × Int)), ∃ x12 : (List (List Int)), vs = [.bool x1, .bool x2, .int .i64 x3, .int .i64 x4, .int .i64 x5, .int .i64 x6, .int .i64 x7, .int .i64 x8, .arr .i64 6 x9, .dat 60 x10, .mdat 34 3 x11, .dat 26 x12] ∧ l_4_32 k x1 x2 x3 x4 x5 x6 x7 x8 x9 x10 x11 x12 (fun y1 y2 y3 y4 y5 y6 y7 y8 y9 y10 => K (.exit 8) [.bool y1, .bool y2, .int .i64 y3, .int .i64 y4, .int .i64 y5, .int .i64 y6, .arr .i64 6 y7, .dat 60 y8, .mdat 34 3 y9, .dat 26 y10]) := by
  unfold w_4_32 at h
  replace h := dCB_spec h
  obtain ⟨x1, vs0, e0, h⟩ := h
  replace h := dCB_spec h
  obtain ⟨x2, vs1, e1, h⟩ := h
  replace h := dCI_spec h
  obtain ⟨x3, vs2, e2, h⟩ := h
  replace h := dCI_spec h
  obtain ⟨x4, vs3, e3, h⟩ := h
  replace h := dCI_spec h
  obtain ⟨x5, vs4, e4, h⟩ := h
  replace h := dCI_spec h
  obtain ⟨x6, vs5, e5, h⟩ := h
  replace h := dCI_spec h
  obtain ⟨x7, vs6, e6, h⟩ := h
  replace h := dCI_spec h
  obtain ⟨x8, vs7, e7, h⟩ := h
  replace h := dCA_spec h
  obtain ⟨x9, vs8, e8, h⟩ := h
  replace h := dCD_spec h
  obtain ⟨x10, vs9, e9, h⟩ := h
  replace h := dCM_spec h
  obtain ⟨x11, vs10, e10, h⟩ := h
  replace h := dCD_spec h
  obtain ⟨x12, vs11, e11, h⟩ := h
  replace h := dCE_spec h
  obtain ⟨e, h⟩ := h
  exact ⟨x1, x2, x3, x4, x5, x6, x7, x8, x9, x10, x11, x12, by rw [e0, e1, e2, e3, e4, e5, e6, e7, e8, e9, e10, e11, e], h⟩
theorem zeok_4_32 (x1 : Bool) (x2 : Bool) (x3 : Int) (x4 : Int) (x5 : Int) (x6 : Int) (x7 : Int) (x8 : Int) (x9 : (List Int)) (x10 : (List Change)) (x11 : (List ((List Int) × Int))) (x12 : (List (List Int))) (K : Ex → List (SV env.T) → Prop) : l_4_32 0 x1 x2 x3 x4 x5 x6 x7 x8 x9 x10 x11 x12 (fun y1 y2 y3 y4 y5 y6 y7 y8 y9 y10 => K (.exit 8) [.bool y1, .bool y2, .int .i64 y3, .int .i64 y4, .int .i64 y5, .int .i64 y6, .arr .i64 6 y7, .dat 60 y8, .mdat 34 3 y9, .dat 26 y10]) = False := by kernel_rfl
theorem ok_4_32 : PieceOk Tryz.prog env p_4_32 (.loop (loopAt b4 32)) := by
  refine loop_step (Wn := w_4_32) tab (ctxG_ok R3_ok false [] _ _) book_4_32 (pieces_sub pook_4_32_4 (by kernel_rfl)) rfl ?_ 2000 ?_
  · intro vs K h
    obtain ⟨x1, x2, x3, x4, x5, x6, x7, x8, x9, x10, x11, x12, _, h⟩ := wiok_4_32 0 vs K h
    exact Eq.mp (zeok_4_32 x1 x2 x3 x4 x5 x6 x7 x8 x9 x10 x11 x12 K) h
  · intro k vs K h
    obtain ⟨x1, x2, x3, x4, x5, x6, x7, x8, x9, x10, x11, x12, rfl, h⟩ := wiok_4_32 (k + 1) vs K h
    exact Eq.mp (stok_4_32 k x1 x2 x3 x4 x5 x6 x7 x8 x9 x10 x11 x12 K) h
theorem pook_4_41_4 : PiecesOk Tryz.prog env (ctxG env false [] R3 [] []) 4 b4 :=
  pieces_at (L := []) (S := []) (fun _ => rfl) (fun _ => rfl) (by kernel_rfl) (by kernel_rfl) (fun _ hq => by cases hq) (fun _ hq => by cases hq)
theorem book_4_41 : BodiesOk Tryz.prog env (ctxG env false [] R3 [] []) := bodies_okG (ks := []) (by kernel_rfl) (fun _ hq => by cases hq)
theorem stok_4_41 (k : Nat) (x1 : Bool) (x2 : Bool) (x3 : Int) (x4 : Int) (x5 : Int) (x6 : Int) (x7 : Int) (x8 : Int) (x9 : Int) (x10 : (List Int)) (x11 : (List Change)) (x12 : (List ((List Int) × Int))) (x13 : (List (List Int))) (x14 : (List Int)) (x15 : (List Int)) (K : Ex → List (SV env.T) → Prop) : l_4_41 (k + 1) x1 x2 x3 x4 x5 x6 x7 x8 x9 x10 x11 x12 x13 x14 x15 (fun y1 y2 y3 y4 y5 y6 y7 y8 y9 y10 y11 y12 y13 => K (.exit 12) [.bool y1, .bool y2, .int .i64 y3, .int .i64 y4, .int .i64 y5, .int .i64 y6, .int .i64 y7, .arr .i64 6 y8, .dat 60 y9, .mdat 34 3 y10, .dat 26 y11, .dat 3 y12, .arr .i64 3 y13]) = vcCode env (ctxG env false [] R3 [] []) 2000 4 (loopAt b4 41) (insSt p_4_41.head [.bool x1, .bool x2, .int .i64 x3, .int .i64 x4, .int .i64 x5, .int .i64 x6, .int .i64 x7, .int .i64 x8, .int .i64 x9, .arr .i64 6 x10, .dat 60 x11, .mdat 34 3 x12, .dat 26 x13, .dat 3 x14, .arr .i64 3 x15]) (stepK p_4_41 (w_4_41 k) K) := by kernel_rfl
theorem wiok_4_41 (k : Nat) (vs : List (SV env.T)) (K : Ex → List (SV env.T) → Prop) (h : w_4_41 k vs K) : ∃ x1 : Bool, ∃ x2 : Bool, ∃ x3 : Int, ∃ x4 : Int, ∃ x5 : Int, ∃ x6 : Int, ∃ x7 : Int, ∃ x8 : Int, ∃ x9 : Int, ∃ x10 : (List Int), ∃ x11 : (List Change), ∃ x12 : (List ((List Int) × Int)), ∃ x13 : (List (List Int)), ∃ x14 : (List Int), ∃ x15 : (List Int), vs = [.bool x1, .bool x2, .int .i64 x3, .int .i64 x4, .int .i64 x5, .int .i64 x6, .int .i64 x7, .int .i64 x8, .int .i64 x9, .arr .i64 6 x10, .dat 60 x11, .mdat 34 3 x12, .dat 26 x13, .dat 3 x14, .arr .i64 3 x15] ∧ l_4_41 k x1 x2 x3 x4 x5 x6 x7 x8 x9 x10 x11 x12 x13 x14 x15 (fun y1 y2 y3 y4 y5 y6 y7 y8 y9 y10 y11 y12 y13 => K (.exit 12) [.bool y1, .bool y2, .int .i64 y3, .int .i64 y4, .int .i64 y5, .int .i64 y6, .int .i64 y7, .arr .i64 6 y8, .dat 60 y9, .mdat 34 3 y10, .dat 26 y11, .dat 3 y12, .arr .i64 3 y13]) := by
  unfold w_4_41 at h
  replace h := dCB_spec h
  obtain ⟨x1, vs0, e0, h⟩ := h
  replace h := dCB_spec h
  obtain ⟨x2, vs1, e1, h⟩ := h
  replace h := dCI_spec h
  obtain ⟨x3, vs2, e2, h⟩ := h
  replace h := dCI_spec h
  obtain ⟨x4, vs3, e3, h⟩ := h
  replace h := dCI_spec h
  obtain ⟨x5, vs4, e4, h⟩ := h
  replace h := dCI_spec h
  obtain ⟨x6, vs5, e5, h⟩ := h
  replace h := dCI_spec h
  obtain ⟨x7, vs6, e6, h⟩ := h
  replace h := dCI_spec h
  obtain ⟨x8, vs7, e7, h⟩ := h
  replace h := dCI_spec h
  obtain ⟨x9, vs8, e8, h⟩ := h
  replace h := dCA_spec h
  obtain ⟨x10, vs9, e9, h⟩ := h
  replace h := dCD_spec h
  obtain ⟨x11, vs10, e10, h⟩ := h
  replace h := dCM_spec h
  obtain ⟨x12, vs11, e11, h⟩ := h
  replace h := dCD_spec h
  obtain ⟨x13, vs12, e12, h⟩ := h
  replace h := dCD_spec h
  obtain ⟨x14, vs13, e13, h⟩ := h
  replace h := dCA_spec h
  obtain ⟨x15, vs14, e14, h⟩ := h
  replace h := dCE_spec h
  obtain ⟨e, h⟩ := h
  exact ⟨x1, x2, x3, x4, x5, x6, x7, x8, x9, x10, x11, x12, x13, x14, x15, by rw [e0, e1, e2, e3, e4, e5, e6, e7, e8, e9, e10, e11, e12, e13, e14, e], h⟩
theorem zeok_4_41 (x1 : Bool) (x2 : Bool) (x3 : Int) (x4 : Int) (x5 : Int) (x6 : Int) (x7 : Int) (x8 : Int) (x9 : Int) (x10 : (List Int)) (x11 : (List Change)) (x12 : (List ((List Int) × Int))) (x13 : (List (List Int))) (x14 : (List Int)) (x15 : (List Int)) (K : Ex → List (SV env.T) → Prop) : l_4_41 0 x1 x2 x3 x4 x5 x6 x7 x8 x9 x10 x11 x12 x13 x14 x15 (fun y1 y2 y3 y4 y5 y6 y7 y8 y9 y10 y11 y12 y13 => K (.exit 12) [.bool y1, .bool y2, .int .i64 y3, .int .i64 y4, .int .i64 y5, .int .i64 y6, .int .i64 y7, .arr .i64 6 y8, .dat 60 y9, .mdat 34 3 y10, .dat 26 y11, .dat 3 y12, .arr .i64 3 y13]) = False := by kernel_rfl
theorem ok_4_41 : PieceOk Tryz.prog env p_4_41 (.loop (loopAt b4 41)) := by
  refine loop_step (Wn := w_4_41) tab (ctxG_ok R3_ok false [] _ _) book_4_41 (pieces_sub pook_4_41_4 (by kernel_rfl)) rfl ?_ 2000 ?_
  · intro vs K h
    obtain ⟨x1, x2, x3, x4, x5, x6, x7, x8, x9, x10, x11, x12, x13, x14, x15, _, h⟩ := wiok_4_41 0 vs K h
    exact Eq.mp (zeok_4_41 x1 x2 x3 x4 x5 x6 x7 x8 x9 x10 x11 x12 x13 x14 x15 K) h
  · intro k vs K h
    obtain ⟨x1, x2, x3, x4, x5, x6, x7, x8, x9, x10, x11, x12, x13, x14, x15, rfl, h⟩ := wiok_4_41 (k + 1) vs K h
    exact Eq.mp (stok_4_41 k x1 x2 x3 x4 x5 x6 x7 x8 x9 x10 x11 x12 x13 x14 x15 K) h
theorem pook_4_36_4 : PiecesOk Tryz.prog env (ctxG env false [] R3 [(4, [(41, p_4_41)])] []) 4 b4 :=
  pieces_at (L := [(41, p_4_41)]) (S := []) (fun _ => rfl) (fun _ => rfl) (by kernel_rfl) (by kernel_rfl) (List.forall_mem_cons.2 ⟨fun _ => ok_4_41, (fun _ hq => by cases hq)⟩) (fun _ hq => by cases hq)
theorem book_4_36 : BodiesOk Tryz.prog env (ctxG env false [] R3 [(4, [(41, p_4_41)])] []) := bodies_okG (ks := [4]) (by kernel_rfl) (List.forall_mem_cons.2 ⟨body_at (fn := f4) (body := b4) rfl hb4 pook_4_36_4, (fun _ hq => by cases hq)⟩)
theorem stok_4_36 (k : Nat) (x1 : Bool) (x2 : Bool) (x3 : Int) (x4 : Int) (x5 : Int) (x6 : Int) (x7 : Int) (x8 : (List Int)) (x9 : (List Change)) (x10 : (List ((List Int) × Int))) (x11 : (List (List Int))) (K : Ex → List (SV env.T) → Prop) : l_4_36 (k + 1) x1 x2 x3 x4 x5 x6 x7 x8 x9 x10 x11 (fun y1 => K .ret [.bool y1]) (fun y1 y2 y3 y4 => K (.exit 10) [.bool y1, .bool y2, .int .i64 y3, .dat 26 y4]) = vcCode env (ctxG env false [] R3 [(4, [(41, p_4_41)])] []) 2000 4 (loopAt b4 36) (insSt p_4_36.head [.bool x1, .bool x2, .int .i64 x3, .int .i64 x4, .int .i64 x5, .int .i64 x6, .int .i64 x7, .arr .i64 6 x8, .dat 60 x9, .mdat 34 3 x10, .dat 26 x11]) (stepK p_4_36 (w_4_36 k) K) := by kernel_rfl
theorem wiok_4_36 (k : Nat) (vs : List (SV env.T)) (K : Ex → List (SV env.T) → Prop) (h : w_4_36 k vs K) : ∃ x1 : Bool, ∃ x2 : Bool, ∃ x3 : Int, ∃ x4 : Int, ∃ x5 : Int, ∃ x6 : Int, ∃ x7 : Int, ∃ x8 : (List Int), ∃ x9 : (List Change), ∃ x10 : (List ((List Int) × Int)), ∃ x11 : (List (List Int)), vs = [.bool x1, .bool x2, .int .i64 x3, .int .i64 x4, .int .i64 x5, .int .i64 x6, .int .i64 x7, .arr .i64 6 x8, .dat 60 x9, .mdat 34 3 x10, .dat 26 x11] ∧ l_4_36 k x1 x2 x3 x4 x5 x6 x7 x8 x9 x10 x11 (fun y1 => K .ret [.bool y1]) (fun y1 y2 y3 y4 => K (.exit 10) [.bool y1, .bool y2, .int .i64 y3, .dat 26 y4]) := by
  unfold w_4_36 at h
  replace h := dCB_spec h
  obtain ⟨x1, vs0, e0, h⟩ := h
  replace h := dCB_spec h
  obtain ⟨x2, vs1, e1, h⟩ := h
  replace h := dCI_spec h
  obtain ⟨x3, vs2, e2, h⟩ := h
  replace h := dCI_spec h
  obtain ⟨x4, vs3, e3, h⟩ := h
  replace h := dCI_spec h
  obtain ⟨x5, vs4, e4, h⟩ := h
  replace h := dCI_spec h
  obtain ⟨x6, vs5, e5, h⟩ := h
  replace h := dCI_spec h
  obtain ⟨x7, vs6, e6, h⟩ := h
  replace h := dCA_spec h
  obtain ⟨x8, vs7, e7, h⟩ := h
  replace h := dCD_spec h
  obtain ⟨x9, vs8, e8, h⟩ := h
  replace h := dCM_spec h
  obtain ⟨x10, vs9, e9, h⟩ := h
  replace h := dCD_spec h
  obtain ⟨x11, vs10, e10, h⟩ := h
  replace h := dCE_spec h
  obtain ⟨e, h⟩ := h
  exact ⟨x1, x2, x3, x4, x5, x6, x7, x8, x9, x10, x11, by rw [e0, e1, e2, e3, e4, e5, e6, e7, e8, e9, e10, e], h⟩
theorem zeok_4_36 (x1 : Bool) (x2 : Bool) (x3 : Int) (x4 : Int) (x5 : Int) (x6 : Int) (x7 : Int) (x8 : (List Int)) (x9 : (List Change)) (x10 : (List ((List Int) × Int))) (x11 : (List (List Int))) (K : Ex → List (SV env.T) → Prop) : l_4_36 0 x1 x2 x3 x4 x5 x6 x7 x8 x9 x10 x11 (fun y1 => K .ret [.bool y1]) (fun y1 y2 y3 y4 => K (.exit 10) [.bool y1, .bool y2, .int .i64 y3, .dat 26 y4]) = False := by kernel_rfl
theorem ok_4_36 : PieceOk Tryz.prog env p_4_36 (.loop (loopAt b4 36)) := by
  refine loop_step (Wn := w_4_36) tab (ctxG_ok R3_ok false [] _ _) book_4_36 (pieces_sub pook_4_36_4 (by kernel_rfl)) rfl ?_ 2000 ?_
  · intro vs K h
    obtain ⟨x1, x2, x3, x4, x5, x6, x7, x8, x9, x10, x11, _, h⟩ := wiok_4_36 0 vs K h
    exact Eq.mp (zeok_4_36 x1 x2 x3 x4 x5 x6 x7 x8 x9 x10 x11 K) h
  · intro k vs K h
    obtain ⟨x1, x2, x3, x4, x5, x6, x7, x8, x9, x10, x11, rfl, h⟩ := wiok_4_36 (k + 1) vs K h
    exact Eq.mp (stok_4_36 k x1 x2 x3 x4 x5 x6 x7 x8 x9 x10 x11 K) h
theorem pooq_4_4_4 : PiecesOk Tryz.prog env (ctxG env false [] R3 [(4, [(13, p_4_13), (10, p_4_10), (7, p_4_7), (23, p_4_23), (32, p_4_32), (41, p_4_41), (36, p_4_36)])] []) 4 b4 :=
  pieces_at (L := [(13, p_4_13), (10, p_4_10), (7, p_4_7), (23, p_4_23), (32, p_4_32), (41, p_4_41), (36, p_4_36)]) (S := []) (fun _ => rfl) (fun _ => rfl) (by kernel_rfl) (by kernel_rfl) (List.forall_mem_cons.2 ⟨fun _ => ok_4_13, (List.forall_mem_cons.2 ⟨fun _ => ok_4_10, (List.forall_mem_cons.2 ⟨fun _ => ok_4_7, (List.forall_mem_cons.2 ⟨fun _ => ok_4_23, (List.forall_mem_cons.2 ⟨fun _ => ok_4_32, (List.forall_mem_cons.2 ⟨fun _ => ok_4_41, (List.forall_mem_cons.2 ⟨fun _ => ok_4_36, (fun _ hq => by cases hq)⟩)⟩)⟩)⟩)⟩)⟩)⟩) (fun _ hq => by cases hq)
theorem booq_4_4 : BodiesOk Tryz.prog env (ctxG env false [] R3 [(4, [(13, p_4_13), (10, p_4_10), (7, p_4_7), (23, p_4_23), (32, p_4_32), (41, p_4_41), (36, p_4_36)])] []) := bodies_okG (ks := [4]) (by kernel_rfl) (List.forall_mem_cons.2 ⟨body_at (fn := f4) (body := b4) rfl hb4 pooq_4_4_4, (fun _ hq => by cases hq)⟩)
theorem stoq_4_4 (x1 : Bool) (x2 : Bool) (x3 : Int) (x4 : Int) (x5 : (List Int)) (x6 : (List Change)) (K : Ex → List (SV env.T) → Prop) : s_4_4  x1 x2 x3 x4 x5 x6 (fun y1 => K .ret [.bool y1]) = vcCode env (ctxG env false [] R3 [(4, [(13, p_4_13), (10, p_4_10), (7, p_4_7), (23, p_4_23), (32, p_4_32), (41, p_4_41), (36, p_4_36)])] []) 2000 4 (seqAt b4 4) (insSt q_4_4.head [.bool x1, .bool x2, .int .i64 x3, .int .i64 x4, .arr .i64 6 x5, .dat 60 x6]) (outP env q_4_4 K) := by kernel_rfl
theorem wioq_4_4 (vs : List (SV env.T)) (K : Ex → List (SV env.T) → Prop) (h : v_4_4 vs K) : ∃ x1 : Bool, ∃ x2 : Bool, ∃ x3 : Int, ∃ x4 : Int, ∃ x5 : (List Int), ∃ x6 : (List Change), vs = [.bool x1, .bool x2, .int .i64 x3, .int .i64 x4, .arr .i64 6 x5, .dat 60 x6] ∧ s_4_4  x1 x2 x3 x4 x5 x6 (fun y1 => K .ret [.bool y1]) := by
  unfold v_4_4 at h
  replace h := dCB_spec h
  obtain ⟨x1, vs0, e0, h⟩ := h
  replace h := dCB_spec h
  obtain ⟨x2, vs1, e1, h⟩ := h
  replace h := dCI_spec h
  obtain ⟨x3, vs2, e2, h⟩ := h
  replace h := dCI_spec h
  obtain ⟨x4, vs3, e3, h⟩ := h
  replace h := dCA_spec h
  obtain ⟨x5, vs4, e4, h⟩ := h
  replace h := dCD_spec h
  obtain ⟨x6, vs5, e5, h⟩ := h
  replace h := dCE_spec h
  obtain ⟨e, h⟩ := h
  exact ⟨x1, x2, x3, x4, x5, x6, by rw [e0, e1, e2, e3, e4, e5, e], h⟩
theorem oq_4_4 : PieceOk Tryz.prog env q_4_4 (seqAt b4 4) := by
  refine seq_step tab (ctxG_ok R3_ok false [] _ _) booq_4_4 (pieces_subS pooq_4_4_4 (by kernel_rfl)) 2000 ?_
  intro vs K h
  obtain ⟨x1, x2, x3, x4, x5, x6, rfl, h⟩ := wioq_4_4 vs K h
  exact Eq.mp (stoq_4_4 x1 x2 x3 x4 x5 x6 K) h
theorem po_4_4 : PiecesOk Tryz.prog env (ctxG env false [] R3 [(4, [(13, p_4_13), (10, p_4_10), (7, p_4_7), (23, p_4_23), (32, p_4_32), (41, p_4_41), (36, p_4_36)])] [(4, [(4, q_4_4)])]) 4 b4 :=
  pieces_at (L := [(13, p_4_13), (10, p_4_10), (7, p_4_7), (23, p_4_23), (32, p_4_32), (41, p_4_41), (36, p_4_36)]) (S := [(4, q_4_4)]) (fun _ => rfl) (fun _ => rfl) (by kernel_rfl) (by kernel_rfl) (List.forall_mem_cons.2 ⟨fun _ => ok_4_13, (List.forall_mem_cons.2 ⟨fun _ => ok_4_10, (List.forall_mem_cons.2 ⟨fun _ => ok_4_7, (List.forall_mem_cons.2 ⟨fun _ => ok_4_23, (List.forall_mem_cons.2 ⟨fun _ => ok_4_32, (List.forall_mem_cons.2 ⟨fun _ => ok_4_41, (List.forall_mem_cons.2 ⟨fun _ => ok_4_36, (fun _ hq => by cases hq)⟩)⟩)⟩)⟩)⟩)⟩)⟩) (List.forall_mem_cons.2 ⟨fun _ => oq_4_4, (fun _ hq => by cases hq)⟩)
theorem bo_4 : BodiesOk Tryz.prog env (ctxG env false [] R3 [(4, [(13, p_4_13), (10, p_4_10), (7, p_4_7), (23, p_4_23), (32, p_4_32), (41, p_4_41), (36, p_4_36)])] [(4, [(4, q_4_4)])]) := bodies_okG (ks := [4]) (by kernel_rfl) (List.forall_mem_cons.2 ⟨body_at (fn := f4) (body := b4) rfl hb4 po_4_4, (fun _ hq => by cases hq)⟩)
theorem eq_4 (x0 : Budget) (K : Y4 → Prop) : vcCode env (ctxG env false [] R3 [(4, [(13, p_4_13), (10, p_4_10), (7, p_4_7), (23, p_4_23), (32, p_4_32), (41, p_4_41), (36, p_4_36)])] [(4, [(4, q_4_4)])]) 2000 4 b4 (entry env f4 [v25 x0]) (finR env f4 decR4 K) = B4 x0 K := by kernel_rfl
noncomputable def rule4 : Nat × Rule env := (4, ruleF env decA4 encR4 fun x => V4 x)
theorem r4 : RuleOk Tryz.prog env 4 rule4.2 :=
  rule_fun tab (ctxG_ok R3_ok false [] _ _) bo_4 (f := 4) (fn := f4) rfl hb4 po_4_4 2000 encA4 hA4 hR4 hD4 (fun _ => of_decide_eq_true (by kernel_rfl)) (fun x K => (eq_4 x K).trans (by rw [V4_eq]))
noncomputable def R4 : List (Nat × Rule env) := rule4 :: R3
theorem R4_ok : AllOk Tryz.prog env R4 := ⟨r4, R3_ok⟩
end Go.Vg.YthmmgoebdcegmaaGreatDoor
