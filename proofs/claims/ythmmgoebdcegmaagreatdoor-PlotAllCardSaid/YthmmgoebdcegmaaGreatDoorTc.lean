/-
  Walked functions of the program: predicate transformers and their rules. Written by a program of this work (gen.py, VgGen.lean) out of the executor's own reduction; no condition.
-/
import Derived.Test.YthmmgoebdcegmaaGreatDoorTb
set_option maxRecDepth 100000
set_option maxHeartbeats 4000000
namespace Go.Vg.YthmmgoebdcegmaaGreatDoor
open Go.Vg Go.Proofs
-- 5 queuelab/queuelablaw38.PlotMore
noncomputable def f5 : Func := Tryz.f5
noncomputable def b5 : Code := (Tryz.f5.body).getD .skip
abbrev X5 := Budget × (List Int) × (List Int) × Int × Int
def encA5 (x : X5) : List (SV env.T) := [v25 x.1, v26 x.2.1, v35 x.2.2.1, v5 x.2.2.2.1, v5 x.2.2.2.2]
def decA5 (l : List (SV env.T)) : Option X5 := match l with
  | [s0, s1, s2, s3, s4] => match u25 s0, u26 s1, u35 s2, u5 s3, u5 s4 with
    | some x0, some x1, some x2, some x3, some x4 => some (x0, x1, x2, x3, x4)
    | _, _, _, _, _ => none
  | _ => none
theorem hA5 (l : List (SV env.T)) (x : X5) (h : decA5 l = some x) : WkA env.has l (encA5 x) := by
  unfold decA5 at h; split at h
  · split at h
    · rename_i h0 h1 h2 h3 h4; cases h; exact (.cons (u25_wk h0) (.cons (u26_wk h1) (.cons (u35_wk h2) (.cons (u5_wk h3) (.cons (u5_wk h4) .nil)))))
    · cases h
  · cases h
abbrev Y5 := Bool
def encR5 (x : Y5) : List (SV env.T) := [v4 x]
def decR5 (l : List (SV env.T)) : Option Y5 := match l with
  | [s0] => match u4 s0 with
    | some x0 => some (x0)
    | _ => none
  | _ => none
theorem hR5 (l : List (SV env.T)) (x : Y5) (h : decR5 l = some x) : WkA env.has l (encR5 x) := by
  unfold decR5 at h; split at h
  · split at h
    · rename_i h0; cases h; exact (.cons (u4_wk h0) .nil)
    · cases h
  · cases h
theorem hD5 (y : Y5) : isDataV (tupV (encR5 y)) = true := rfl
theorem hb5 : f5.body = some b5 := by kernel_rfl
def l_5_7 : Nat → (List Int) → Int → Bool → Bool → Int → Int → Int → (List Int) → (List Change) → (List Int) → Int → Int → (List Int) → (List Change) → ((List Int) → Int → Bool → Bool → Int → Int → (List Int) → (List Change) → Int → Int → (List Int) → (List Change) → Prop) → Prop
  | 0 => fun _ _ _ _ _ _ _ _ _ _ _ _ _ _ _ => False
  | k + 1 => fun x1 x2 x3 x4 x5 x6 x7 x8 x9 x10 x11 x12 x13 x14 k0 ↦ br (decide (x5 < 6)) (br (inb x5 (↑6 : Int)) (br (inb x5 (↑6 : Int)) (br (inb x5 (↑6 : Int)) (l_5_7 k x1 x2 x3 x4 (IntKind.i64.wrap (x5 + 1)) x6 x7 x8 x9 x10 x11 x12 (x13.set x5.toNat (if IntKind.i64.wrap (x8.getD x5.toNat 0 + IntKind.i64.wrap (x10.getD x5.toNat 0)) < 6 then IntKind.i64.wrap (x8.getD x5.toNat 0 + IntKind.i64.wrap (x10.getD x5.toNat 0)) else 6)) x14 k0) False) False) False) (k0 x1 x2 x3 x4 x6 x7 x8 x9 x11 x12 x13 x14)
def w_5_7 (k : Nat) (vs : List (SV env.T)) (K : Ex → List (SV env.T) → Prop) : Prop :=
  dCD 3 vs fun x1 vs => dCI .u8 vs fun x2 vs => dCB vs fun x3 vs => dCB vs fun x4 vs => dCI .i64 vs fun x5 vs => dCI .i64 vs fun x6 vs => dCI .i64 vs fun x7 vs => dCA .i64 6 vs fun x8 vs => dCD 60 vs fun x9 vs => dCA .u8 6 vs fun x10 vs => dCI .i64 vs fun x11 vs => dCI .i64 vs fun x12 vs => dCA .i64 6 vs fun x13 vs => dCD 60 vs fun x14 vs => dCE vs (l_5_7 k x1 x2 x3 x4 x5 x6 x7 x8 x9 x10 x11 x12 x13 x14 (fun y1 y2 y3 y4 y5 y6 y7 y8 y9 y10 y11 y12 => K (.exit 0) [.dat 3 y1, .int .u8 y2, .bool y3, .bool y4, .int .i64 y5, .int .i64 y6, .arr .i64 6 y7, .dat 60 y8, .int .i64 y9, .int .i64 y10, .arr .i64 6 y11, .dat 60 y12]))
def p_5_7 : Piece env := ⟨⟨[.any, .holeD 3, .any, .any, .hole, .ptr 0 0, .any, .ptr 1 0, .any, .any, .hole, .hole, .ptr 2 0, .hole, .any, .any, .any, .any, .any, .any, .any, .any, .any, .any, .any, .any, .any, .any, .any, .any, .any, .any, .any, .any, .any, .any, .any, .any, .any, .any, .any, .any, .any, .any, .any, .any, .any, .any, .any, .any, .any, .any, .any, .any, .any, .any, .any, .any, .any, .any, .any, .any, .any, .any, .any, .any, .any, .any, .any, .any, .any, .any, .any, .any, .any, .any, .any, .any, .any, .any, .any, .any, .any, .any, .any, .any, .any, .any, .any, .any, .any, .any, .any, .any, .any, .any, .any, .any, .any, .any, .any, .any, .any, .any, .any, .any, .any, .any], [], [(0, .cells 25 [.hole, .hole, .hole, .holeD 60]), (1, .cells 35 [.hole]), (2, .cells 25 [.hole, .hole, .hole, .holeD 60])], 3⟩, exitF none [(0, ⟨[.any, .holeD 3, .any, .any, .hole, .ptr 0 0, .any, .any, .any, .any, .hole, .hole, .ptr 1 0, .any, .any, .any, .any, .any, .any, .any, .any, .any, .any, .any, .any, .any, .any, .any, .any, .any, .any, .any, .any, .any, .any, .any, .any, .any, .any, .any, .any, .any, .any, .any, .any, .any, .any, .any, .any, .any, .any, .any, .any, .any, .any, .any, .any, .any, .any, .any, .any, .any, .any, .any, .any, .any, .any, .any, .any, .any, .any, .any, .any, .any, .any, .any, .any, .any, .any, .any, .any, .any, .any, .any, .any, .any, .any, .any, .any, .any, .any, .any, .any, .any, .any, .any, .any, .any, .any, .any, .any, .any, .any, .any, .any, .any, .any, .any], [], [(0, .cells 25 [.hole, .hole, .hole, .holeD 60]), (1, .cells 25 [.hole, .hole, .hole, .holeD 60])], 2⟩)] none, fun vs K => ∃ k, w_5_7 k vs K⟩
def l_5_19 : Nat → (List Int) → Bool → Bool → Int → Int → Int → (List Int) → (List Change) → (Bool → Prop) → (Bool → Bool → Prop) → Prop
  | 0 => fun _ _ _ _ _ _ _ _ _ _ => False
  | k + 1 => fun x1 x2 x3 x4 x5 x6 x7 x8 kr k2 ↦ br (decide (x4 ≤ 5)) (V14 (Budget.mk x5 x6 x7 x8) x1 x4 fun y12 ↦ br (decide (y12 > 0)) (br (inb x4 (↑6 : Int)) (V12 (Budget.mk x5 x6 (x7.set x4.toNat (IntKind.i64.wrap (y12 - 1))) x8) x1 fun y13 ↦ br y13 (kr false) (l_5_19 k x1 x2 x3 (IntKind.i64.wrap (x4 + 1)) x5 x6 x7 x8 kr k2)) False) (l_5_19 k x1 x2 x3 (IntKind.i64.wrap (x4 + 1)) x5 x6 x7 x8 kr k2)) (k2 x2 x3)
def w_5_19 (k : Nat) (vs : List (SV env.T)) (K : Ex → List (SV env.T) → Prop) : Prop :=
  dCD 3 vs fun x1 vs => dCB vs fun x2 vs => dCB vs fun x3 vs => dCI .i64 vs fun x4 vs => dCI .i64 vs fun x5 vs => dCI .i64 vs fun x6 vs => dCA .i64 6 vs fun x7 vs => dCD 60 vs fun x8 vs => dCE vs (l_5_19 k x1 x2 x3 x4 x5 x6 x7 x8 (fun y1 => K .ret [.bool y1]) (fun y1 y2 => K (.exit 2) [.bool y1, .bool y2]))
def p_5_19 : Piece env := ⟨⟨[.any, .holeD 3, .any, .any, .any, .ptr 0 0, .any, .any, .any, .any, .hole, .hole, .any, .any, .any, .any, .any, .hole, .any, .any, .any, .any, .any, .any, .any, .any, .any, .any, .any, .any, .any, .any, .any, .any, .any, .any, .any, .any, .any, .any, .any, .any, .any, .any, .any, .any, .any, .any, .any, .any, .any, .any, .any, .any, .any, .any, .any, .any, .any, .any, .any, .any, .any, .any, .any, .any, .any, .any, .any, .any, .any, .any, .any, .any, .any, .any, .any, .any, .any, .any, .any, .any, .any, .any, .any, .any, .any, .any, .any, .any, .any, .any, .any, .any, .any, .any, .any, .any, .any, .any, .any, .any, .any, .any, .any, .any, .any, .any], [], [(0, .cells 25 [.hole, .hole, .hole, .holeD 60])], 1⟩, exitF none [(2, ⟨[.any, .any, .any, .any, .any, .any, .any, .any, .any, .any, .hole, .hole, .any, .any, .any, .any, .any, .any, .any, .any, .any, .any, .any, .any, .any, .any, .any, .any, .any, .any, .any, .any, .any, .any, .any, .any, .any, .any, .any, .any, .any, .any, .any, .any, .any, .any, .any, .any, .any, .any, .any, .any, .any, .any, .any, .any, .any, .any, .any, .any, .any, .any, .any, .any, .any, .any, .any, .any, .any, .any, .any, .any, .any, .any, .any, .any, .any, .any, .any, .any, .any, .any, .any, .any, .any, .any, .any, .any, .any, .any, .any, .any, .any, .any, .any, .any, .any, .any, .any, .any, .any, .any, .any, .any, .any, .any, .any, .any], [], [], 0⟩)] (some ⟨[.any, .any, .any, .any, .any, .any, .any, .any, .any, .any, .hole, .any, .any, .any, .any, .any, .any, .any, .any, .any, .any, .any, .any, .any, .any, .any, .any, .any, .any, .any, .any, .any, .any, .any, .any, .any, .any, .any, .any, .any, .any, .any, .any, .any, .any, .any, .any, .any, .any, .any, .any, .any, .any, .any, .any, .any, .any, .any, .any, .any, .any, .any, .any, .any, .any, .any, .any, .any, .any, .any, .any, .any, .any, .any, .any, .any, .any, .any, .any, .any, .any, .any, .any, .any, .any, .any, .any, .any, .any, .any, .any, .any, .any, .any, .any, .any, .any, .any, .any, .any, .any, .any, .any, .any, .any, .any, .any, .any], [], [], 0⟩), fun vs K => ∃ k, w_5_19 k vs K⟩
def s_5_18 : (List Int) → Bool → Bool → Int → Int → (List Int) → (List Change) → (Bool → Prop) → Prop :=
  fun x1 x2 x3 x4 x5 x6 x7 kr ↦ ∃ k10, l_5_19 k10 x1 x2 x3 1 x4 x5 x6 x7 kr fun _ ↦ kr
def v_5_18 (vs : List (SV env.T)) (K : Ex → List (SV env.T) → Prop) : Prop :=
  dCD 3 vs fun x1 vs => dCB vs fun x2 vs => dCB vs fun x3 vs => dCI .i64 vs fun x4 vs => dCI .i64 vs fun x5 vs => dCA .i64 6 vs fun x6 vs => dCD 60 vs fun x7 vs => dCE vs (s_5_18 x1 x2 x3 x4 x5 x6 x7 (fun y1 => K .ret [.bool y1]))
def q_5_18 : Piece env := ⟨⟨[.any, .holeD 3, .any, .any, .any, .ptr 0 0, .any, .any, .any, .any, .hole, .hole, .any, .any, .any, .any, .any, .any, .any, .any, .any, .any, .any, .any, .any, .any, .any, .any, .any, .any, .any, .any, .any, .any, .any, .any, .any, .any, .any, .any, .any, .any, .any, .any, .any, .any, .any, .any, .any, .any, .any, .any, .any, .any, .any, .any, .any, .any, .any, .any, .any, .any, .any, .any, .any, .any, .any, .any, .any, .any, .any, .any, .any, .any, .any, .any, .any, .any, .any, .any, .any, .any, .any, .any, .any, .any, .any, .any, .any, .any, .any, .any, .any, .any, .any, .any, .any, .any, .any, .any, .any, .any, .any, .any, .any, .any, .any, .any], [], [(0, .cells 25 [.hole, .hole, .hole, .holeD 60])], 1⟩, exitF none [] (some ⟨[.any, .any, .any, .any, .any, .any, .any, .any, .any, .any, .hole, .any, .any, .any, .any, .any, .any, .any, .any, .any, .any, .any, .any, .any, .any, .any, .any, .any, .any, .any, .any, .any, .any, .any, .any, .any, .any, .any, .any, .any, .any, .any, .any, .any, .any, .any, .any, .any, .any, .any, .any, .any, .any, .any, .any, .any, .any, .any, .any, .any, .any, .any, .any, .any, .any, .any, .any, .any, .any, .any, .any, .any, .any, .any, .any, .any, .any, .any, .any, .any, .any, .any, .any, .any, .any, .any, .any, .any, .any, .any, .any, .any, .any, .any, .any, .any, .any, .any, .any, .any, .any, .any, .any, .any, .any, .any, .any, .any], [], [], 0⟩), v_5_18⟩
def s_5_13 : (List Int) → Int → Bool → Bool → Bool → Int → Int → (List Int) → (List Change) → (Bool → Prop) → Prop :=
  fun x1 x2 x3 x4 x5 x6 x7 x8 x9 kr ↦ br (decide ((↑x1.length : Int) > 0)) (br (!(↑x1.length : Int) == 0) (br (cutOk (some ((IntKind.i64.wrap x2).tmod (↑x1.length : Int))) none x1.length) (br (roomB ([] ++ cutL x1 ((some ((IntKind.i64.wrap x2).tmod (↑x1.length : Int))).getD 0) (none.getD (↑x1.length : Int))).length (bytesB env 3)) (br (cutOk none (some ((IntKind.i64.wrap x2).tmod (↑x1.length : Int))) x1.length) (br (roomB ([] ++ cutL x1 ((some ((IntKind.i64.wrap x2).tmod (↑x1.length : Int))).getD 0) (none.getD (↑x1.length : Int)) ++ cutL x1 (none.getD 0) ((some ((IntKind.i64.wrap x2).tmod (↑x1.length : Int))).getD (↑x1.length : Int))).length (bytesB env 3)) (V12 (Budget.mk x6 x7 x8 x9) ([] ++ cutL x1 ((some ((IntKind.i64.wrap x2).tmod (↑x1.length : Int))).getD 0) (none.getD (↑x1.length : Int)) ++ cutL x1 (none.getD 0) ((some ((IntKind.i64.wrap x2).tmod (↑x1.length : Int))).getD (↑x1.length : Int))) fun y12 ↦ br (!y12 == x5) (kr false) (s_5_18 x1 x3 x4 x6 x7 x8 x9 kr)) False) False) False) False) False) (s_5_18 x1 x3 x4 x6 x7 x8 x9 kr)
def v_5_13 (vs : List (SV env.T)) (K : Ex → List (SV env.T) → Prop) : Prop :=
  dCD 3 vs fun x1 vs => dCI .u8 vs fun x2 vs => dCB vs fun x3 vs => dCB vs fun x4 vs => dCB vs fun x5 vs => dCI .i64 vs fun x6 vs => dCI .i64 vs fun x7 vs => dCA .i64 6 vs fun x8 vs => dCD 60 vs fun x9 vs => dCE vs (s_5_13 x1 x2 x3 x4 x5 x6 x7 x8 x9 (fun y1 => K .ret [.bool y1]))
def q_5_13 : Piece env := ⟨⟨[.any, .holeD 3, .any, .any, .hole, .ptr 0 0, .any, .any, .any, .any, .hole, .hole, .any, .any, .hole, .any, .any, .any, .any, .any, .any, .any, .any, .any, .any, .any, .any, .any, .any, .any, .any, .any, .any, .any, .any, .any, .any, .any, .any, .any, .any, .any, .any, .any, .any, .any, .any, .any, .any, .any, .any, .any, .any, .any, .any, .any, .any, .any, .any, .any, .any, .any, .any, .any, .any, .any, .any, .any, .any, .any, .any, .any, .any, .any, .any, .any, .any, .any, .any, .any, .any, .any, .any, .any, .any, .any, .any, .any, .any, .any, .any, .any, .any, .any, .any, .any, .any, .any, .any, .any, .any, .any, .any, .any, .any, .any, .any, .any], [], [(0, .cells 25 [.hole, .hole, .hole, .holeD 60])], 1⟩, exitF none [] (some ⟨[.any, .any, .any, .any, .any, .any, .any, .any, .any, .any, .hole, .any, .any, .any, .any, .any, .any, .any, .any, .any, .any, .any, .any, .any, .any, .any, .any, .any, .any, .any, .any, .any, .any, .any, .any, .any, .any, .any, .any, .any, .any, .any, .any, .any, .any, .any, .any, .any, .any, .any, .any, .any, .any, .any, .any, .any, .any, .any, .any, .any, .any, .any, .any, .any, .any, .any, .any, .any, .any, .any, .any, .any, .any, .any, .any, .any, .any, .any, .any, .any, .any, .any, .any, .any, .any, .any, .any, .any, .any, .any, .any, .any, .any, .any, .any, .any, .any, .any, .any, .any, .any, .any, .any, .any, .any, .any, .any, .any], [], [], 0⟩), v_5_13⟩
def s_5_4 : (List Int) → Int → Int → Bool → Bool → Int → Int → (List Int) → (List Change) → (List Int) → (Bool → Prop) → Prop :=
  fun x1 x2 x3 x4 x5 x6 x7 x8 x9 x10 kr ↦ ∃ k13, l_5_7 k13 x1 x3 x4 x5 1 x6 x7 x8 x9 x10 (if IntKind.i64.wrap (x6 + IntKind.i64.wrap x2) < 6 then IntKind.i64.wrap (x6 + IntKind.i64.wrap x2) else 6) x7 x8 x9 fun y14 y15 y16 y17 y18 y19 y20 y21 y22 y23 y24 y25 ↦ V12 (Budget.mk y18 y19 y20 y21) y14 fun y26 ↦ br y26 (V12 (Budget.mk y22 y23 y24 y25) y14 fun y27 ↦ br (!y27) (kr false) (s_5_13 y14 y15 y16 y17 y26 y18 y19 y20 y21 kr)) (s_5_13 y14 y15 y16 y17 y26 y18 y19 y20 y21 kr)
def v_5_4 (vs : List (SV env.T)) (K : Ex → List (SV env.T) → Prop) : Prop :=
  dCD 3 vs fun x1 vs => dCI .u8 vs fun x2 vs => dCI .u8 vs fun x3 vs => dCB vs fun x4 vs => dCB vs fun x5 vs => dCI .i64 vs fun x6 vs => dCI .i64 vs fun x7 vs => dCA .i64 6 vs fun x8 vs => dCD 60 vs fun x9 vs => dCA .u8 6 vs fun x10 vs => dCE vs (s_5_4 x1 x2 x3 x4 x5 x6 x7 x8 x9 x10 (fun y1 => K .ret [.bool y1]))
def q_5_4 : Piece env := ⟨⟨[.any, .holeD 3, .any, .hole, .hole, .ptr 0 0, .any, .ptr 1 0, .any, .any, .hole, .hole, .any, .any, .any, .any, .any, .any, .any, .any, .any, .any, .any, .any, .any, .any, .any, .any, .any, .any, .any, .any, .any, .any, .any, .any, .any, .any, .any, .any, .any, .any, .any, .any, .any, .any, .any, .any, .any, .any, .any, .any, .any, .any, .any, .any, .any, .any, .any, .any, .any, .any, .any, .any, .any, .any, .any, .any, .any, .any, .any, .any, .any, .any, .any, .any, .any, .any, .any, .any, .any, .any, .any, .any, .any, .any, .any, .any, .any, .any, .any, .any, .any, .any, .any, .any, .any, .any, .any, .any, .any, .any, .any, .any, .any, .any, .any, .any], [], [(0, .cells 25 [.hole, .hole, .hole, .holeD 60]), (1, .cells 35 [.hole])], 2⟩, exitF none [] (some ⟨[.any, .any, .any, .any, .any, .any, .any, .any, .any, .any, .hole, .any, .any, .any, .any, .any, .any, .any, .any, .any, .any, .any, .any, .any, .any, .any, .any, .any, .any, .any, .any, .any, .any, .any, .any, .any, .any, .any, .any, .any, .any, .any, .any, .any, .any, .any, .any, .any, .any, .any, .any, .any, .any, .any, .any, .any, .any, .any, .any, .any, .any, .any, .any, .any, .any, .any, .any, .any, .any, .any, .any, .any, .any, .any, .any, .any, .any, .any, .any, .any, .any, .any, .any, .any, .any, .any, .any, .any, .any, .any, .any, .any, .any, .any, .any, .any, .any, .any, .any, .any, .any, .any, .any, .any, .any, .any, .any, .any], [], [], 0⟩), v_5_4⟩
noncomputable def B5 : Budget → (List Int) → (List Int) → Int → Int → (Y5 → Prop) → Prop :=
  fun x0 x1 x2 x3 x4 K ↦ V9 fun y6 ↦ V10 x0 x1 fun y7 ↦ br (!y7) (K y6) (V13 x0 fun y8 ↦ br (!y8) (K y6) (s_5_4 x1 x3 x4 false y6 x0.periods x0.length x0.left x0.choices x2 K))
theorem V5_ex : ∃ V : Budget → (List Int) → (List Int) → Int → Int → (Y5 → Prop) → Prop, V = B5 := ⟨_, rfl⟩
noncomputable def V5 : Budget → (List Int) → (List Int) → Int → Int → (Y5 → Prop) → Prop := Classical.choose V5_ex
theorem V5_eq : V5 = B5 := Classical.choose_spec V5_ex
theorem pook_5_7_5 : PiecesOk Tryz.prog env (ctxG env false [] R9 [] []) 5 b5 :=
  pieces_at (L := []) (S := []) (fun _ => rfl) (fun _ => rfl) (by kernel_rfl) (by kernel_rfl) (fun _ hq => by cases hq) (fun _ hq => by cases hq)
theorem book_5_7 : BodiesOk Tryz.prog env (ctxG env false [] R9 [] []) := bodies_okG (ks := []) (by kernel_rfl) (fun _ hq => by cases hq)
theorem stok_5_7 (k : Nat) (x1 : (List Int)) (x2 : Int) (x3 : Bool) (x4 : Bool) (x5 : Int) (x6 : Int) (x7 : Int) (x8 : (List Int)) (x9 : (List Change)) (x10 : (List Int)) (x11 : Int) (x12 : Int) (x13 : (List Int)) (x14 : (List Change)) (K : Ex → List (SV env.T) → Prop) : l_5_7 (k + 1) x1 x2 x3 x4 x5 x6 x7 x8 x9 x10 x11 x12 x13 x14 (fun y1 y2 y3 y4 y5 y6 y7 y8 y9 y10 y11 y12 => K (.exit 0) [.dat 3 y1, .int .u8 y2, .bool y3, .bool y4, .int .i64 y5, .int .i64 y6, .arr .i64 6 y7, .dat 60 y8, .int .i64 y9, .int .i64 y10, .arr .i64 6 y11, .dat 60 y12]) = vcCode env (ctxG env false [] R9 [] []) 2000 5 (loopAt b5 7) (insSt p_5_7.head [.dat 3 x1, .int .u8 x2, .bool x3, .bool x4, .int .i64 x5, .int .i64 x6, .int .i64 x7, .arr .i64 6 x8, .dat 60 x9, .arr .u8 6 x10, .int .i64 x11, .int .i64 x12, .arr .i64 6 x13, .dat 60 x14]) (stepK p_5_7 (w_5_7 k) K) := by kernel_rfl
theorem wiok_5_7 (k : Nat) (vs : List (SV env.T)) (K : Ex → List (SV env.T) → Prop) (h : w_5_7 k vs K) : ∃ x1 : (List Int), ∃ x2 : Int, ∃ x3 : Bool, ∃ x4 : Bool, ∃ x5 : Int, ∃ x6 : Int, ∃ x7 : Int, ∃ x8 : (List Int), ∃ x9 : (List Change), ∃ x10 : (List Int), ∃ x11 : Int, ∃ x12 : Int, ∃ x13 : (List Int), ∃ x14 : (List Change), vs = [.dat 3 x1, .int .u8 x2, .bool x3, .bool x4, .int .i64 x5, .int .i64 x6, .int .i64 x7, .arr .i64 6 x8, .dat 60 x9, .arr .u8 6 x10, .int .i64 x11, .int .i64 x12, .arr .i64 6 x13, .dat 60 x14] ∧ l_5_7 k x1 x2 x3 x4 x5 x6 x7 x8 x9 x10 x11 x12 x13 x14 (fun y1 y2 y3 y4 y5 y6 y7 y8 y9 y10 y11 y12 => K (.exit 0) [.dat 3 y1, .int .u8 y2, .bool y3, .bool y4, .int .i64 y5, .int .i64 y6, .arr .i64 6 y7, .dat 60 y8, .int .i64 y9, .int .i64 y10, .arr .i64 6 y11, .dat 60 y12]) := by
  unfold w_5_7 at h
  replace h := dCD_spec h
  obtain ⟨x1, vs0, e0, h⟩ := h
  replace h := dCI_spec h
  obtain ⟨x2, vs1, e1, h⟩ := h
  replace h := dCB_spec h
  obtain ⟨x3, vs2, e2, h⟩ := h
  replace h := dCB_spec h
  obtain ⟨x4, vs3, e3, h⟩ := h
  replace h := dCI_spec h
  obtain ⟨x5, vs4, e4, h⟩ := h
  replace h := dCI_spec h
  obtain ⟨x6, vs5, e5, h⟩ := h
  replace h := dCI_spec h
  obtain ⟨x7, vs6, e6, h⟩ := h
  replace h := dCA_spec h
  obtain ⟨x8, vs7, e7, h⟩ := h
  replace h := dCD_spec h
  obtain ⟨x9, vs8, e8, h⟩ := h
  replace h := dCA_spec h
  obtain ⟨x10, vs9, e9, h⟩ := h
  replace h := dCI_spec h
  obtain ⟨x11, vs10, e10, h⟩ := h
  replace h := dCI_spec h
  obtain ⟨x12, vs11, e11, h⟩ := h
  replace h := dCA_spec h
  obtain ⟨x13, vs12, e12, h⟩ := h
  replace h := dCD_spec h
  obtain ⟨x14, vs13, e13, h⟩ := h
  replace h := dCE_spec h
  obtain ⟨e, h⟩ := h
  exact ⟨x1, x2, x3, x4, x5, x6, x7, x8, x9, x10, x11, x12, x13, x14, by rw [e0, e1, e2, e3, e4, e5, e6, e7, e8, e9, e10, e11, e12, e13, e], h⟩
theorem zeok_5_7 (x1 : (List Int)) (x2 : Int) (x3 : Bool) (x4 : Bool) (x5 : Int) (x6 : Int) (x7 : Int) (x8 : (List Int)) (x9 : (List Change)) (x10 : (List Int)) (x11 : Int) (x12 : Int) (x13 : (List Int)) (x14 : (List Change)) (K : Ex → List (SV env.T) → Prop) : l_5_7 0 x1 x2 x3 x4 x5 x6 x7 x8 x9 x10 x11 x12 x13 x14 (fun y1 y2 y3 y4 y5 y6 y7 y8 y9 y10 y11 y12 => K (.exit 0) [.dat 3 y1, .int .u8 y2, .bool y3, .bool y4, .int .i64 y5, .int .i64 y6, .arr .i64 6 y7, .dat 60 y8, .int .i64 y9, .int .i64 y10, .arr .i64 6 y11, .dat 60 y12]) = False := by kernel_rfl
theorem ok_5_7 : PieceOk Tryz.prog env p_5_7 (.loop (loopAt b5 7)) := by
  refine loop_step (Wn := w_5_7) tab (ctxG_ok R9_ok false [] _ _) book_5_7 (pieces_sub pook_5_7_5 (by kernel_rfl)) rfl ?_ 2000 ?_
  · intro vs K h
    obtain ⟨x1, x2, x3, x4, x5, x6, x7, x8, x9, x10, x11, x12, x13, x14, _, h⟩ := wiok_5_7 0 vs K h
    exact Eq.mp (zeok_5_7 x1 x2 x3 x4 x5 x6 x7 x8 x9 x10 x11 x12 x13 x14 K) h
  · intro k vs K h
    obtain ⟨x1, x2, x3, x4, x5, x6, x7, x8, x9, x10, x11, x12, x13, x14, rfl, h⟩ := wiok_5_7 (k + 1) vs K h
    exact Eq.mp (stok_5_7 k x1 x2 x3 x4 x5 x6 x7 x8 x9 x10 x11 x12 x13 x14 K) h
theorem pook_5_19_5 : PiecesOk Tryz.prog env (ctxG env false [] R9 [] []) 5 b5 :=
  pieces_at (L := []) (S := []) (fun _ => rfl) (fun _ => rfl) (by kernel_rfl) (by kernel_rfl) (fun _ hq => by cases hq) (fun _ hq => by cases hq)
theorem book_5_19 : BodiesOk Tryz.prog env (ctxG env false [] R9 [] []) := bodies_okG (ks := []) (by kernel_rfl) (fun _ hq => by cases hq)
theorem stok_5_19 (k : Nat) (x1 : (List Int)) (x2 : Bool) (x3 : Bool) (x4 : Int) (x5 : Int) (x6 : Int) (x7 : (List Int)) (x8 : (List Change)) (K : Ex → List (SV env.T) → Prop) : l_5_19 (k + 1) x1 x2 x3 x4 x5 x6 x7 x8 (fun y1 => K .ret [.bool y1]) (fun y1 y2 => K (.exit 2) [.bool y1, .bool y2]) = vcCode env (ctxG env false [] R9 [] []) 2000 5 (loopAt b5 19) (insSt p_5_19.head [.dat 3 x1, .bool x2, .bool x3, .int .i64 x4, .int .i64 x5, .int .i64 x6, .arr .i64 6 x7, .dat 60 x8]) (stepK p_5_19 (w_5_19 k) K) := by kernel_rfl
theorem wiok_5_19 (k : Nat) (vs : List (SV env.T)) (K : Ex → List (SV env.T) → Prop) (h : w_5_19 k vs K) : ∃ x1 : (List Int), ∃ x2 : Bool, ∃ x3 : Bool, ∃ x4 : Int, ∃ x5 : Int, ∃ x6 : Int, ∃ x7 : (List Int), ∃ x8 : (List Change), vs = [.dat 3 x1, .bool x2, .bool x3, .int .i64 x4, .int .i64 x5, .int .i64 x6, .arr .i64 6 x7, .dat 60 x8] ∧ l_5_19 k x1 x2 x3 x4 x5 x6 x7 x8 (fun y1 => K .ret [.bool y1]) (fun y1 y2 => K (.exit 2) [.bool y1, .bool y2]) := by
  unfold w_5_19 at h
  replace h := dCD_spec h
  obtain ⟨x1, vs0, e0, h⟩ := h
  replace h := dCB_spec h
  obtain ⟨x2, vs1, e1, h⟩ := h
  replace h := dCB_spec h
  obtain ⟨x3, vs2, e2, h⟩ := h
  replace h := dCI_spec h
  obtain ⟨x4, vs3, e3, h⟩ := h
  replace h := dCI_spec h
  obtain ⟨x5, vs4, e4, h⟩ := h
  replace h := dCI_spec h
  obtain ⟨x6, vs5, e5, h⟩ := h
  replace h := dCA_spec h
  obtain ⟨x7, vs6, e6, h⟩ := h
  replace h := dCD_spec h
  obtain ⟨x8, vs7, e7, h⟩ := h
  replace h := dCE_spec h
  obtain ⟨e, h⟩ := h
  exact ⟨x1, x2, x3, x4, x5, x6, x7, x8, by rw [e0, e1, e2, e3, e4, e5, e6, e7, e], h⟩
theorem zeok_5_19 (x1 : (List Int)) (x2 : Bool) (x3 : Bool) (x4 : Int) (x5 : Int) (x6 : Int) (x7 : (List Int)) (x8 : (List Change)) (K : Ex → List (SV env.T) → Prop) : l_5_19 0 x1 x2 x3 x4 x5 x6 x7 x8 (fun y1 => K .ret [.bool y1]) (fun y1 y2 => K (.exit 2) [.bool y1, .bool y2]) = False := by kernel_rfl
theorem ok_5_19 : PieceOk Tryz.prog env p_5_19 (.loop (loopAt b5 19)) := by
  refine loop_step (Wn := w_5_19) tab (ctxG_ok R9_ok false [] _ _) book_5_19 (pieces_sub pook_5_19_5 (by kernel_rfl)) rfl ?_ 2000 ?_
  · intro vs K h
    obtain ⟨x1, x2, x3, x4, x5, x6, x7, x8, _, h⟩ := wiok_5_19 0 vs K h
    exact Eq.mp (zeok_5_19 x1 x2 x3 x4 x5 x6 x7 x8 K) h
  · intro k vs K h
    obtain ⟨x1, x2, x3, x4, x5, x6, x7, x8, rfl, h⟩ := wiok_5_19 (k + 1) vs K h
    exact Eq.mp (stok_5_19 k x1 x2 x3 x4 x5 x6 x7 x8 K) h
theorem pooq_5_18_5 : PiecesOk Tryz.prog env (ctxG env false [] R9 [(5, [(19, p_5_19)])] []) 5 b5 :=
  pieces_at (L := [(19, p_5_19)]) (S := []) (fun _ => rfl) (fun _ => rfl) (by kernel_rfl) (by kernel_rfl) (List.forall_mem_cons.2 ⟨fun _ => ok_5_19, (fun _ hq => by cases hq)⟩) (fun _ hq => by cases hq)
theorem booq_5_18 : BodiesOk Tryz.prog env (ctxG env false [] R9 [(5, [(19, p_5_19)])] []) := bodies_okG (ks := [5]) (by kernel_rfl) (List.forall_mem_cons.2 ⟨body_at (fn := f5) (body := b5) rfl hb5 pooq_5_18_5, (fun _ hq => by cases hq)⟩)
theorem stoq_5_18 (x1 : (List Int)) (x2 : Bool) (x3 : Bool) (x4 : Int) (x5 : Int) (x6 : (List Int)) (x7 : (List Change)) (K : Ex → List (SV env.T) → Prop) : s_5_18  x1 x2 x3 x4 x5 x6 x7 (fun y1 => K .ret [.bool y1]) = vcCode env (ctxG env false [] R9 [(5, [(19, p_5_19)])] []) 2000 5 (seqAt b5 18) (insSt q_5_18.head [.dat 3 x1, .bool x2, .bool x3, .int .i64 x4, .int .i64 x5, .arr .i64 6 x6, .dat 60 x7]) (outP env q_5_18 K) := by kernel_rfl
theorem wioq_5_18 (vs : List (SV env.T)) (K : Ex → List (SV env.T) → Prop) (h : v_5_18 vs K) : ∃ x1 : (List Int), ∃ x2 : Bool, ∃ x3 : Bool, ∃ x4 : Int, ∃ x5 : Int, ∃ x6 : (List Int), ∃ x7 : (List Change), vs = [.dat 3 x1, .bool x2, .bool x3, .int .i64 x4, .int .i64 x5, .arr .i64 6 x6, .dat 60 x7] ∧ s_5_18  x1 x2 x3 x4 x5 x6 x7 (fun y1 => K .ret [.bool y1]) := by
  unfold v_5_18 at h
  replace h := dCD_spec h
  obtain ⟨x1, vs0, e0, h⟩ := h
  replace h := dCB_spec h
  obtain ⟨x2, vs1, e1, h⟩ := h
  replace h := dCB_spec h
  obtain ⟨x3, vs2, e2, h⟩ := h
  replace h := dCI_spec h
  obtain ⟨x4, vs3, e3, h⟩ := h
  replace h := dCI_spec h
  obtain ⟨x5, vs4, e4, h⟩ := h
  replace h := dCA_spec h
  obtain ⟨x6, vs5, e5, h⟩ := h
  replace h := dCD_spec h
  obtain ⟨x7, vs6, e6, h⟩ := h
  replace h := dCE_spec h
  obtain ⟨e, h⟩ := h
  exact ⟨x1, x2, x3, x4, x5, x6, x7, by rw [e0, e1, e2, e3, e4, e5, e6, e], h⟩
theorem oq_5_18 : PieceOk Tryz.prog env q_5_18 (seqAt b5 18) := by
  refine seq_step tab (ctxG_ok R9_ok false [] _ _) booq_5_18 (pieces_subS pooq_5_18_5 (by kernel_rfl)) 2000 ?_
  intro vs K h
  obtain ⟨x1, x2, x3, x4, x5, x6, x7, rfl, h⟩ := wioq_5_18 vs K h
  exact Eq.mp (stoq_5_18 x1 x2 x3 x4 x5 x6 x7 K) h
theorem pooq_5_13_5 : PiecesOk Tryz.prog env (ctxG env false [] R9 [(5, [(19, p_5_19)])] [(5, [(18, q_5_18)])]) 5 b5 :=
  pieces_at (L := [(19, p_5_19)]) (S := [(18, q_5_18)]) (fun _ => rfl) (fun _ => rfl) (by kernel_rfl) (by kernel_rfl) (List.forall_mem_cons.2 ⟨fun _ => ok_5_19, (fun _ hq => by cases hq)⟩) (List.forall_mem_cons.2 ⟨fun _ => oq_5_18, (fun _ hq => by cases hq)⟩)
theorem booq_5_13 : BodiesOk Tryz.prog env (ctxG env false [] R9 [(5, [(19, p_5_19)])] [(5, [(18, q_5_18)])]) := bodies_okG (ks := [5]) (by kernel_rfl) (List.forall_mem_cons.2 ⟨body_at (fn := f5) (body := b5) rfl hb5 pooq_5_13_5, (fun _ hq => by cases hq)⟩)
theorem stoq_5_13 (x1 : (List Int)) (x2 : Int) (x3 : Bool) (x4 : Bool) (x5 : Bool) (x6 : Int) (x7 : Int) (x8 : (List Int)) (x9 : (List Change)) (K : Ex → List (SV env.T) → Prop) : s_5_13  x1 x2 x3 x4 x5 x6 x7 x8 x9 (fun y1 => K .ret [.bool y1]) = vcCode env (ctxG env false [] R9 [(5, [(19, p_5_19)])] [(5, [(18, q_5_18)])]) 2000 5 (seqAt b5 13) (insSt q_5_13.head [.dat 3 x1, .int .u8 x2, .bool x3, .bool x4, .bool x5, .int .i64 x6, .int .i64 x7, .arr .i64 6 x8, .dat 60 x9]) (outP env q_5_13 K) := by kernel_rfl
theorem wioq_5_13 (vs : List (SV env.T)) (K : Ex → List (SV env.T) → Prop) (h : v_5_13 vs K) : ∃ x1 : (List Int), ∃ x2 : Int, ∃ x3 : Bool, ∃ x4 : Bool, ∃ x5 : Bool, ∃ x6 : Int, ∃ x7 : Int, ∃ x8 : (List Int), ∃ x9 : (List Change), vs = [.dat 3 x1, .int .u8 x2, .bool x3, .bool x4, .bool x5, .int .i64 x6, .int .i64 x7, .arr .i64 6 x8, .dat 60 x9] ∧ s_5_13  x1 x2 x3 x4 x5 x6 x7 x8 x9 (fun y1 => K .ret [.bool y1]) := by
  unfold v_5_13 at h
  replace h := dCD_spec h
  obtain ⟨x1, vs0, e0, h⟩ := h
  replace h := dCI_spec h
  obtain ⟨x2, vs1, e1, h⟩ := h
  replace h := dCB_spec h
  obtain ⟨x3, vs2, e2, h⟩ := h
  replace h := dCB_spec h
  obtain ⟨x4, vs3, e3, h⟩ := h
  replace h := dCB_spec h
  obtain ⟨x5, vs4, e4, h⟩ := h
  replace h := dCI_spec h
  obtain ⟨x6, vs5, e5, h⟩ := h
  replace h := dCI_spec h
  obtain ⟨x7, vs6, e6, h⟩ := h
  replace h := dCA_spec h
  obtain ⟨x8, vs7, e7, h⟩ := h
  replace h := dCD_spec h
  obtain ⟨x9, vs8, e8, h⟩ := h
  replace h := dCE_spec h
  obtain ⟨e, h⟩ := h
  exact ⟨x1, x2, x3, x4, x5, x6, x7, x8, x9, by rw [e0, e1, e2, e3, e4, e5, e6, e7, e8, e], h⟩
theorem oq_5_13 : PieceOk Tryz.prog env q_5_13 (seqAt b5 13) := by
  refine seq_step tab (ctxG_ok R9_ok false [] _ _) booq_5_13 (pieces_subS pooq_5_13_5 (by kernel_rfl)) 2000 ?_
  intro vs K h
  obtain ⟨x1, x2, x3, x4, x5, x6, x7, x8, x9, rfl, h⟩ := wioq_5_13 vs K h
  exact Eq.mp (stoq_5_13 x1 x2 x3 x4 x5 x6 x7 x8 x9 K) h
theorem pooq_5_4_5 : PiecesOk Tryz.prog env (ctxG env false [] R9 [(5, [(7, p_5_7), (19, p_5_19)])] [(5, [(18, q_5_18), (13, q_5_13)])]) 5 b5 :=
  pieces_at (L := [(7, p_5_7), (19, p_5_19)]) (S := [(18, q_5_18), (13, q_5_13)]) (fun _ => rfl) (fun _ => rfl) (by kernel_rfl) (by kernel_rfl) (List.forall_mem_cons.2 ⟨fun _ => ok_5_7, (List.forall_mem_cons.2 ⟨fun _ => ok_5_19, (fun _ hq => by cases hq)⟩)⟩) (List.forall_mem_cons.2 ⟨fun _ => oq_5_18, (List.forall_mem_cons.2 ⟨fun _ => oq_5_13, (fun _ hq => by cases hq)⟩)⟩)
theorem booq_5_4 : BodiesOk Tryz.prog env (ctxG env false [] R9 [(5, [(7, p_5_7), (19, p_5_19)])] [(5, [(18, q_5_18), (13, q_5_13)])]) := bodies_okG (ks := [5]) (by kernel_rfl) (List.forall_mem_cons.2 ⟨body_at (fn := f5) (body := b5) rfl hb5 pooq_5_4_5, (fun _ hq => by cases hq)⟩)
theorem stoq_5_4 (x1 : (List Int)) (x2 : Int) (x3 : Int) (x4 : Bool) (x5 : Bool) (x6 : Int) (x7 : Int) (x8 : (List Int)) (x9 : (List Change)) (x10 : (List Int)) (K : Ex → List (SV env.T) → Prop) : s_5_4  x1 x2 x3 x4 x5 x6 x7 x8 x9 x10 (fun y1 => K .ret [.bool y1]) = vcCode env (ctxG env false [] R9 [(5, [(7, p_5_7), (19, p_5_19)])] [(5, [(18, q_5_18), (13, q_5_13)])]) 2000 5 (seqAt b5 4) (insSt q_5_4.head [.dat 3 x1, .int .u8 x2, .int .u8 x3, .bool x4, .bool x5, .int .i64 x6, .int .i64 x7, .arr .i64 6 x8, .dat 60 x9, .arr .u8 6 x10]) (outP env q_5_4 K) := by kernel_rfl
theorem wioq_5_4 (vs : List (SV env.T)) (K : Ex → List (SV env.T) → Prop) (h : v_5_4 vs K) : ∃ x1 : (List Int), ∃ x2 : Int, ∃ x3 : Int, ∃ x4 : Bool, ∃ x5 : Bool, ∃ x6 : Int, ∃ x7 : Int, ∃ x8 : (List Int), ∃ x9 : (List Change), ∃ x10 : (List Int), vs = [.dat 3 x1, .int .u8 x2, .int .u8 x3, .bool x4, .bool x5, .int .i64 x6, .int .i64 x7, .arr .i64 6 x8, .dat 60 x9, .arr .u8 6 x10] ∧ s_5_4  x1 x2 x3 x4 x5 x6 x7 x8 x9 x10 (fun y1 => K .ret [.bool y1]) := by
  unfold v_5_4 at h
  replace h := dCD_spec h
  obtain ⟨x1, vs0, e0, h⟩ := h
  replace h := dCI_spec h
  obtain ⟨x2, vs1, e1, h⟩ := h
  replace h := dCI_spec h
  obtain ⟨x3, vs2, e2, h⟩ := h
  replace h := dCB_spec h
  obtain ⟨x4, vs3, e3, h⟩ := h
  replace h := dCB_spec h
  obtain ⟨x5, vs4, e4, h⟩ := h
  replace h := dCI_spec h
  obtain ⟨x6, vs5, e5, h⟩ := h
  replace h := dCI_spec h
  obtain ⟨x7, vs6, e6, h⟩ := h
  replace h := dCA_spec h
  obtain ⟨x8, vs7, e7, h⟩ := h
  replace h := dCD_spec h
  obtain ⟨x9, vs8, e8, h⟩ := h
  replace h := dCA_spec h
  obtain ⟨x10, vs9, e9, h⟩ := h
  replace h := dCE_spec h
  obtain ⟨e, h⟩ := h
  exact ⟨x1, x2, x3, x4, x5, x6, x7, x8, x9, x10, by rw [e0, e1, e2, e3, e4, e5, e6, e7, e8, e9, e], h⟩
theorem oq_5_4 : PieceOk Tryz.prog env q_5_4 (seqAt b5 4) := by
  refine seq_step tab (ctxG_ok R9_ok false [] _ _) booq_5_4 (pieces_subS pooq_5_4_5 (by kernel_rfl)) 2000 ?_
  intro vs K h
  obtain ⟨x1, x2, x3, x4, x5, x6, x7, x8, x9, x10, rfl, h⟩ := wioq_5_4 vs K h
  exact Eq.mp (stoq_5_4 x1 x2 x3 x4 x5 x6 x7 x8 x9 x10 K) h
theorem po_5_5 : PiecesOk Tryz.prog env (ctxG env false [] R9 [(5, [(7, p_5_7), (19, p_5_19)])] [(5, [(18, q_5_18), (13, q_5_13), (4, q_5_4)])]) 5 b5 :=
  pieces_at (L := [(7, p_5_7), (19, p_5_19)]) (S := [(18, q_5_18), (13, q_5_13), (4, q_5_4)]) (fun _ => rfl) (fun _ => rfl) (by kernel_rfl) (by kernel_rfl) (List.forall_mem_cons.2 ⟨fun _ => ok_5_7, (List.forall_mem_cons.2 ⟨fun _ => ok_5_19, (fun _ hq => by cases hq)⟩)⟩) (List.forall_mem_cons.2 ⟨fun _ => oq_5_18, (List.forall_mem_cons.2 ⟨fun _ => oq_5_13, (List.forall_mem_cons.2 ⟨fun _ => oq_5_4, (fun _ hq => by cases hq)⟩)⟩)⟩)
theorem bo_5 : BodiesOk Tryz.prog env (ctxG env false [] R9 [(5, [(7, p_5_7), (19, p_5_19)])] [(5, [(18, q_5_18), (13, q_5_13), (4, q_5_4)])]) := bodies_okG (ks := [5]) (by kernel_rfl) (List.forall_mem_cons.2 ⟨body_at (fn := f5) (body := b5) rfl hb5 po_5_5, (fun _ hq => by cases hq)⟩)
theorem eq_5 (x0 : Budget) (x1 : (List Int)) (x2 : (List Int)) (x3 : Int) (x4 : Int) (K : Y5 → Prop) : vcCode env (ctxG env false [] R9 [(5, [(7, p_5_7), (19, p_5_19)])] [(5, [(18, q_5_18), (13, q_5_13), (4, q_5_4)])]) 2000 5 b5 (entry env f5 [v25 x0, v26 x1, v35 x2, v5 x3, v5 x4]) (finR env f5 decR5 K) = B5 x0 x1 x2 x3 x4 K := by kernel_rfl
noncomputable def rule5 : Nat × Rule env := (5, ruleF env decA5 encR5 fun x => V5 x.1 x.2.1 x.2.2.1 x.2.2.2.1 x.2.2.2.2)
theorem r5 : RuleOk Tryz.prog env 5 rule5.2 :=
  rule_fun tab (ctxG_ok R9_ok false [] _ _) bo_5 (f := 5) (fn := f5) rfl hb5 po_5_5 2000 encA5 hA5 hR5 hD5 (fun _ => of_decide_eq_true (by kernel_rfl)) (fun x K => (eq_5 x.1 x.2.1 x.2.2.1 x.2.2.2.1 x.2.2.2.2 K).trans (by rw [V5_eq]))
noncomputable def R5 : List (Nat × Rule env) := rule5 :: R9
theorem R5_ok : AllOk Tryz.prog env R5 := ⟨r5, R9_ok⟩
-- 3 queuelab/queuelablaw38.PlotChoices
noncomputable def f3 : Func := Tryz.f3
noncomputable def b3 : Code := (Tryz.f3.body).getD .skip
abbrev X3 := Budget × (List Int)
def encA3 (x : X3) : List (SV env.T) := [v25 x.1, v26 x.2]
def decA3 (l : List (SV env.T)) : Option X3 := match l with
  | [s0, s1] => match u25 s0, u26 s1 with
    | some x0, some x1 => some (x0, x1)
    | _, _ => none
  | _ => none
theorem hA3 (l : List (SV env.T)) (x : X3) (h : decA3 l = some x) : WkA env.has l (encA3 x) := by
  unfold decA3 at h; split at h
  · split at h
    · rename_i h0 h1; cases h; exact (.cons (u25_wk h0) (.cons (u26_wk h1) .nil))
    · cases h
  · cases h
abbrev Y3 := Bool
def encR3 (x : Y3) : List (SV env.T) := [v4 x]
def decR3 (l : List (SV env.T)) : Option Y3 := match l with
  | [s0] => match u4 s0 with
    | some x0 => some (x0)
    | _ => none
  | _ => none
theorem hR3 (l : List (SV env.T)) (x : Y3) (h : decR3 l = some x) : WkA env.has l (encR3 x) := by
  unfold decR3 at h; split at h
  · split at h
    · rename_i h0; cases h; exact (.cons (u4_wk h0) .nil)
    · cases h
  · cases h
theorem hD3 (y : Y3) : isDataV (tupV (encR3 y)) = true := rfl
theorem hb3 : f3.body = some b3 := by kernel_rfl
def s_3_6 : (List Int) → Bool → Bool → (List Int) → Bool → Int → Int → (List Int) → (List Change) → (Bool → Prop) → ((List Int) → Bool → Bool → (List Int) → Int → Int → (List Int) → (List Change) → Prop) → Prop :=
  fun x1 x2 x3 x4 x5 x6 x7 x8 x9 kr kn ↦ br x5 (br x3 (kr ((↑x4.length : Int) == 0)) (kr false)) (kn x1 x2 x3 x4 x6 x7 x8 x9)
def v_3_6 (vs : List (SV env.T)) (K : Ex → List (SV env.T) → Prop) : Prop :=
  dCD 3 vs fun x1 vs => dCB vs fun x2 vs => dCB vs fun x3 vs => dCD 3 vs fun x4 vs => dCB vs fun x5 vs => dCI .i64 vs fun x6 vs => dCI .i64 vs fun x7 vs => dCA .i64 6 vs fun x8 vs => dCD 60 vs fun x9 vs => dCE vs (s_3_6 x1 x2 x3 x4 x5 x6 x7 x8 x9 (fun y1 => K .ret [.bool y1]) (fun y1 y2 y3 y4 y5 y6 y7 y8 => K .normal [.dat 3 y1, .bool y2, .bool y3, .dat 3 y4, .int .i64 y5, .int .i64 y6, .arr .i64 6 y7, .dat 60 y8]))
def q_3_6 : Piece env := ⟨⟨[.any, .holeD 3, .ptr 0 0, .any, .hole, .hole, .holeD 3, .any, .any, .any, .any, .any, .any, .any, .any, .any, .any, .any, .any, .any, .any, .any, .any, .any, .any, .any, .any, .any, .any, .any, .hole, .any, .any, .any, .any, .any, .any, .any, .any, .any, .any, .any, .any, .any, .any, .any, .any, .any, .any, .any, .any, .any, .any, .any, .any, .any, .any, .any, .any, .any, .any, .any, .any, .any, .any, .any, .any, .any, .any, .any, .any, .any, .any, .any, .any, .any, .any, .any, .any, .any, .any, .any, .any, .any, .any, .any, .any, .any, .any, .any, .any, .any], [], [(0, .cells 25 [.hole, .hole, .hole, .holeD 60])], 1⟩, exitF (some ⟨[.any, .holeD 3, .ptr 0 0, .any, .hole, .hole, .holeD 3, .any, .any, .any, .any, .any, .any, .any, .any, .any, .any, .any, .any, .any, .any, .any, .any, .any, .any, .any, .any, .any, .any, .any, .any, .any, .any, .any, .any, .any, .any, .any, .any, .any, .any, .any, .any, .any, .any, .any, .any, .any, .any, .any, .any, .any, .any, .any, .any, .any, .any, .any, .any, .any, .any, .any, .any, .any, .any, .any, .any, .any, .any, .any, .any, .any, .any, .any, .any, .any, .any, .any, .any, .any, .any, .any, .any, .any, .any, .any, .any, .any, .any, .any, .any, .any], [], [(0, .cells 25 [.hole, .hole, .hole, .holeD 60])], 1⟩) [] (some ⟨[.any, .any, .any, .any, .hole, .any, .any, .any, .any, .any, .any, .any, .any, .any, .any, .any, .any, .any, .any, .any, .any, .any, .any, .any, .any, .any, .any, .any, .any, .any, .any, .any, .any, .any, .any, .any, .any, .any, .any, .any, .any, .any, .any, .any, .any, .any, .any, .any, .any, .any, .any, .any, .any, .any, .any, .any, .any, .any, .any, .any, .any, .any, .any, .any, .any, .any, .any, .any, .any, .any, .any, .any, .any, .any, .any, .any, .any, .any, .any, .any, .any, .any, .any, .any, .any, .any, .any, .any, .any, .any, .any, .any], [], [], 0⟩), v_3_6⟩
def l_3_9 : Nat → (List Int) → Bool → Bool → (List Int) → (List Int) → Int → Int → Int → Int → (List Int) → (List Change) → (List (Int × Bool)) → (Bool → Prop) → ((List Int) → Bool → Bool → (List Int) → Int → Int → (List Int) → (List Change) → (List (Int × Bool)) → Prop) → Prop
  | 0 => fun _ _ _ _ _ _ _ _ _ _ _ _ _ _ => False
  | k + 1 => fun x1 x2 x3 x4 x5 x6 x7 x8 x9 x10 x11 x12 kr k0 ↦ br (decide (x7 < x6)) (br (inb x7 (↑x5.length : Int)) (br (x7 == 0) (br (x5.getD x7.toNat (env.d 3) != -1) (kr false) (br (decide (x7 > 0)) (br (inb (IntKind.i64.wrap (x7 - 1)) (↑x4.length : Int)) (br (decide (x5.getD x7.toNat (env.d 3) ≤ x4.getD (IntKind.i64.wrap (x7 - 1)).toNat (env.d 3))) (kr false) (l_3_9 k x1 x2 x3 x4 x5 x6 (IntKind.i64.wrap (x7 + 1)) x8 x9 x10 x11 (mPut (keyEq env 3 (x5.getD x7.toNat (env.d 3))) (x5.getD x7.toNat (env.d 3)) true x12) kr k0)) False) (l_3_9 k x1 x2 x3 x4 x5 x6 (IntKind.i64.wrap (x7 + 1)) x8 x9 x10 x11 (mPut (keyEq env 3 (x5.getD x7.toNat (env.d 3))) (x5.getD x7.toNat (env.d 3)) true x12) kr k0))) (br (decide (x7 > 0)) (br (inb (IntKind.i64.wrap (x7 - 1)) (↑x4.length : Int)) (br (decide (x5.getD x7.toNat (env.d 3) ≤ x4.getD (IntKind.i64.wrap (x7 - 1)).toNat (env.d 3))) (kr false) (l_3_9 k x1 x2 x3 x4 x5 x6 (IntKind.i64.wrap (x7 + 1)) x8 x9 x10 x11 (mPut (keyEq env 3 (x5.getD x7.toNat (env.d 3))) (x5.getD x7.toNat (env.d 3)) true x12) kr k0)) False) (l_3_9 k x1 x2 x3 x4 x5 x6 (IntKind.i64.wrap (x7 + 1)) x8 x9 x10 x11 (mPut (keyEq env 3 (x5.getD x7.toNat (env.d 3))) (x5.getD x7.toNat (env.d 3)) true x12) kr k0))) False) (k0 x1 x2 x3 x4 x8 x9 x10 x11 x12)
def w_3_9 (k : Nat) (vs : List (SV env.T)) (K : Ex → List (SV env.T) → Prop) : Prop :=
  dCD 3 vs fun x1 vs => dCB vs fun x2 vs => dCB vs fun x3 vs => dCD 3 vs fun x4 vs => dCD 3 vs fun x5 vs => dCI .i64 vs fun x6 vs => dCI .i64 vs fun x7 vs => dCI .i64 vs fun x8 vs => dCI .i64 vs fun x9 vs => dCA .i64 6 vs fun x10 vs => dCD 60 vs fun x11 vs => dCM 3 4 vs fun x12 vs => dCE vs (l_3_9 k x1 x2 x3 x4 x5 x6 x7 x8 x9 x10 x11 x12 (fun y1 => K .ret [.bool y1]) (fun y1 y2 y3 y4 y5 y6 y7 y8 y9 => K (.exit 0) [.dat 3 y1, .bool y2, .bool y3, .dat 3 y4, .int .i64 y5, .int .i64 y6, .arr .i64 6 y7, .dat 60 y8, .mdat 3 4 y9]))
def p_3_9 : Piece env := ⟨⟨[.any, .holeD 3, .ptr 0 0, .any, .hole, .hole, .holeD 3, .map 1, .any, .any, .any, .any, .any, .any, .any, .any, .any, .any, .any, .any, .any, .any, .any, .any, .any, .any, .any, .any, .any, .any, .any, .any, .any, .any, .any, .any, .any, .any, .holeD 3, .hole, .hole, .any, .any, .any, .any, .any, .any, .any, .any, .any, .any, .any, .any, .any, .any, .any, .any, .any, .any, .any, .any, .any, .any, .any, .any, .any, .any, .any, .any, .any, .any, .any, .any, .any, .any, .any, .any, .any, .any, .any, .any, .any, .any, .any, .any, .any, .any, .any, .any, .any, .any, .any], [], [(0, .cells 25 [.hole, .hole, .hole, .holeD 60]), (1, .map 3 4)], 2⟩, exitF none [(0, ⟨[.any, .holeD 3, .ptr 0 0, .any, .hole, .hole, .holeD 3, .map 1, .any, .any, .any, .any, .any, .any, .any, .any, .any, .any, .any, .any, .any, .any, .any, .any, .any, .any, .any, .any, .any, .any, .any, .any, .any, .any, .any, .any, .any, .any, .any, .any, .any, .any, .any, .any, .any, .any, .any, .any, .any, .any, .any, .any, .any, .any, .any, .any, .any, .any, .any, .any, .any, .any, .any, .any, .any, .any, .any, .any, .any, .any, .any, .any, .any, .any, .any, .any, .any, .any, .any, .any, .any, .any, .any, .any, .any, .any, .any, .any, .any, .any, .any, .any], [], [(0, .cells 25 [.hole, .hole, .hole, .holeD 60]), (1, .map 3 4)], 2⟩)] (some ⟨[.any, .any, .any, .any, .hole, .any, .any, .any, .any, .any, .any, .any, .any, .any, .any, .any, .any, .any, .any, .any, .any, .any, .any, .any, .any, .any, .any, .any, .any, .any, .any, .any, .any, .any, .any, .any, .any, .any, .any, .any, .any, .any, .any, .any, .any, .any, .any, .any, .any, .any, .any, .any, .any, .any, .any, .any, .any, .any, .any, .any, .any, .any, .any, .any, .any, .any, .any, .any, .any, .any, .any, .any, .any, .any, .any, .any, .any, .any, .any, .any, .any, .any, .any, .any, .any, .any, .any, .any, .any, .any, .any, .any], [], [], 0⟩), fun vs K => ∃ k, w_3_9 k vs K⟩
def l_3_16 : Nat → (List Int) → Bool → Bool → (List Int) → Int → Int → Int → (List Int) → (List Change) → (List (Int × Bool)) → (Bool → Prop) → (Bool → Bool → (List Int) → Prop) → Prop
  | 0 => fun _ _ _ _ _ _ _ _ _ _ _ _ => False
  | k + 1 => fun x1 x2 x3 x4 x5 x6 x7 x8 x9 x10 kr k2 ↦ br (decide (x5 ≤ (↑x9.length : Int))) (br (roomB ([] ++ x1).length (bytesB env 3)) (br (roomB ([] ++ x1 ++ [x5]).length (bytesB env 3)) (∃ k14, (V12 (Budget.mk x6 x7 x8 x9) ([] ++ x1 ++ [x5]) fun y15 ↦ tupV (encR12 y15) = tupV (encR12 k14)) ∧ br (!k14 == mGet (keyEq env 3 x5) false x10) (kr false) (l_3_16 k x1 x2 x3 x4 (IntKind.i64.wrap (x5 + 1)) x6 x7 x8 x9 x10 kr k2)) False) False) (k2 x2 x3 x4)
def w_3_16 (k : Nat) (vs : List (SV env.T)) (K : Ex → List (SV env.T) → Prop) : Prop :=
  dCD 3 vs fun x1 vs => dCB vs fun x2 vs => dCB vs fun x3 vs => dCD 3 vs fun x4 vs => dCI .i64 vs fun x5 vs => dCI .i64 vs fun x6 vs => dCI .i64 vs fun x7 vs => dCA .i64 6 vs fun x8 vs => dCD 60 vs fun x9 vs => dCM 3 4 vs fun x10 vs => dCE vs (l_3_16 k x1 x2 x3 x4 x5 x6 x7 x8 x9 x10 (fun y1 => K .ret [.bool y1]) (fun y1 y2 y3 => K (.exit 2) [.bool y1, .bool y2, .dat 3 y3]))
def p_3_16 : Piece env := ⟨⟨[.any, .holeD 3, .ptr 0 0, .any, .hole, .hole, .holeD 3, .map 1, .any, .any, .hole, .any, .any, .any, .any, .any, .any, .any, .any, .any, .any, .any, .any, .any, .any, .any, .any, .any, .any, .any, .any, .any, .any, .any, .any, .any, .any, .any, .any, .any, .any, .any, .any, .any, .any, .any, .any, .any, .any, .any, .any, .any, .any, .any, .any, .any, .any, .any, .any, .any, .any, .any, .any, .any, .any, .any, .any, .any, .any, .any, .any, .any, .any, .any, .any, .any, .any, .any, .any, .any, .any, .any, .any, .any, .any, .any, .any, .any, .any, .any, .any, .any], [], [(0, .cells 25 [.hole, .hole, .hole, .holeD 60]), (1, .map 3 4)], 2⟩, exitF none [(2, ⟨[.any, .any, .any, .any, .hole, .hole, .holeD 3, .any, .any, .any, .any, .any, .any, .any, .any, .any, .any, .any, .any, .any, .any, .any, .any, .any, .any, .any, .any, .any, .any, .any, .any, .any, .any, .any, .any, .any, .any, .any, .any, .any, .any, .any, .any, .any, .any, .any, .any, .any, .any, .any, .any, .any, .any, .any, .any, .any, .any, .any, .any, .any, .any, .any, .any, .any, .any, .any, .any, .any, .any, .any, .any, .any, .any, .any, .any, .any, .any, .any, .any, .any, .any, .any, .any, .any, .any, .any, .any, .any, .any, .any, .any, .any], [], [], 0⟩)] (some ⟨[.any, .any, .any, .any, .hole, .any, .any, .any, .any, .any, .any, .any, .any, .any, .any, .any, .any, .any, .any, .any, .any, .any, .any, .any, .any, .any, .any, .any, .any, .any, .any, .any, .any, .any, .any, .any, .any, .any, .any, .any, .any, .any, .any, .any, .any, .any, .any, .any, .any, .any, .any, .any, .any, .any, .any, .any, .any, .any, .any, .any, .any, .any, .any, .any, .any, .any, .any, .any, .any, .any, .any, .any, .any, .any, .any, .any, .any, .any, .any, .any, .any, .any, .any, .any, .any, .any, .any, .any, .any, .any, .any, .any], [], [], 0⟩), fun vs K => ∃ k, w_3_16 k vs K⟩
noncomputable def B3 : Budget → (List Int) → (Y3 → Prop) → Prop :=
  fun x0 x1 K ↦ V9 fun y3 ↦ V10 x0 x1 fun y4 ↦ br (!y4) (K y3) (V11 x0 x1 fun y5 ↦ V12 x0 x1 fun y6 ↦ br (!y6) (s_3_6 x1 false y3 y5 true x0.periods x0.length x0.left x0.choices K fun y7 y8 y9 y10 y11 y12 y13 y14 ↦ ∃ k15, l_3_9 k15 y7 y8 y9 y10 y10 (↑y10.length : Int) 0 y11 y12 y13 y14 [] K fun y16 y17 y18 y19 y20 y21 y22 y23 y24 ↦ ∃ k25, l_3_16 k25 y16 y17 y18 y19 (-2) y20 y21 y22 y23 y24 K fun _ y27 y28 ↦ br y27 (K (decide ((↑y28.length : Int) > 0))) (K false)) (s_3_6 x1 false y3 y5 (decide ((↑x1.length : Int) ≥ x0.periods)) x0.periods x0.length x0.left x0.choices K fun y7 y8 y9 y10 y11 y12 y13 y14 ↦ ∃ k15, l_3_9 k15 y7 y8 y9 y10 y10 (↑y10.length : Int) 0 y11 y12 y13 y14 [] K fun y16 y17 y18 y19 y20 y21 y22 y23 y24 ↦ ∃ k25, l_3_16 k25 y16 y17 y18 y19 (-2) y20 y21 y22 y23 y24 K fun _ y27 y28 ↦ br y27 (K (decide ((↑y28.length : Int) > 0))) (K false)))
theorem V3_ex : ∃ V : Budget → (List Int) → (Y3 → Prop) → Prop, V = B3 := ⟨_, rfl⟩
noncomputable def V3 : Budget → (List Int) → (Y3 → Prop) → Prop := Classical.choose V3_ex
theorem V3_eq : V3 = B3 := Classical.choose_spec V3_ex
theorem pooq_3_6_3 : PiecesOk Tryz.prog env (ctxG env false [] R5 [] []) 3 b3 :=
  pieces_at (L := []) (S := []) (fun _ => rfl) (fun _ => rfl) (by kernel_rfl) (by kernel_rfl) (fun _ hq => by cases hq) (fun _ hq => by cases hq)
theorem booq_3_6 : BodiesOk Tryz.prog env (ctxG env false [] R5 [] []) := bodies_okG (ks := []) (by kernel_rfl) (fun _ hq => by cases hq)
theorem stoq_3_6 (x1 : (List Int)) (x2 : Bool) (x3 : Bool) (x4 : (List Int)) (x5 : Bool) (x6 : Int) (x7 : Int) (x8 : (List Int)) (x9 : (List Change)) (K : Ex → List (SV env.T) → Prop) : s_3_6  x1 x2 x3 x4 x5 x6 x7 x8 x9 (fun y1 => K .ret [.bool y1]) (fun y1 y2 y3 y4 y5 y6 y7 y8 => K .normal [.dat 3 y1, .bool y2, .bool y3, .dat 3 y4, .int .i64 y5, .int .i64 y6, .arr .i64 6 y7, .dat 60 y8]) = vcCode env (ctxG env false [] R5 [] []) 2000 3 (seqAt b3 6) (insSt q_3_6.head [.dat 3 x1, .bool x2, .bool x3, .dat 3 x4, .bool x5, .int .i64 x6, .int .i64 x7, .arr .i64 6 x8, .dat 60 x9]) (outP env q_3_6 K) := by kernel_rfl
theorem wioq_3_6 (vs : List (SV env.T)) (K : Ex → List (SV env.T) → Prop) (h : v_3_6 vs K) : ∃ x1 : (List Int), ∃ x2 : Bool, ∃ x3 : Bool, ∃ x4 : (List Int), ∃ x5 : Bool, ∃ x6 : Int, ∃ x7 : Int, ∃ x8 : (List Int), ∃ x9 : (List Change), vs = [.dat 3 x1, .bool x2, .bool x3, .dat 3 x4, .bool x5, .int .i64 x6, .int .i64 x7, .arr .i64 6 x8, .dat 60 x9] ∧ s_3_6  x1 x2 x3 x4 x5 x6 x7 x8 x9 (fun y1 => K .ret [.bool y1]) (fun y1 y2 y3 y4 y5 y6 y7 y8 => K .normal [.dat 3 y1, .bool y2, .bool y3, .dat 3 y4, .int .i64 y5, .int .i64 y6, .arr .i64 6 y7, .dat 60 y8]) := by
  unfold v_3_6 at h
  replace h := dCD_spec h
  obtain ⟨x1, vs0, e0, h⟩ := h
  replace h := dCB_spec h
  obtain ⟨x2, vs1, e1, h⟩ := h
  replace h := dCB_spec h
  obtain ⟨x3, vs2, e2, h⟩ := h
  replace h := dCD_spec h
  obtain ⟨x4, vs3, e3, h⟩ := h
  replace h := dCB_spec h
  obtain ⟨x5, vs4, e4, h⟩ := h
  replace h := dCI_spec h
  obtain ⟨x6, vs5, e5, h⟩ := h
  replace h := dCI_spec h
  obtain ⟨x7, vs6, e6, h⟩ := h
  replace h := dCA_spec h
  obtain ⟨x8, vs7, e7, h⟩ := h
  replace h := dCD_spec h
  obtain ⟨x9, vs8, e8, h⟩ := h
  replace h := dCE_spec h
  obtain ⟨e, h⟩ := h
  exact ⟨x1, x2, x3, x4, x5, x6, x7, x8, x9, by rw [e0, e1, e2, e3, e4, e5, e6, e7, e8, e], h⟩
theorem oq_3_6 : PieceOk Tryz.prog env q_3_6 (seqAt b3 6) := by
  refine seq_step tab (ctxG_ok R5_ok false [] _ _) booq_3_6 (pieces_subS pooq_3_6_3 (by kernel_rfl)) 2000 ?_
  intro vs K h
  obtain ⟨x1, x2, x3, x4, x5, x6, x7, x8, x9, rfl, h⟩ := wioq_3_6 vs K h
  exact Eq.mp (stoq_3_6 x1 x2 x3 x4 x5 x6 x7 x8 x9 K) h
theorem pook_3_9_3 : PiecesOk Tryz.prog env (ctxG env false [] R5 [] []) 3 b3 :=
  pieces_at (L := []) (S := []) (fun _ => rfl) (fun _ => rfl) (by kernel_rfl) (by kernel_rfl) (fun _ hq => by cases hq) (fun _ hq => by cases hq)
theorem book_3_9 : BodiesOk Tryz.prog env (ctxG env false [] R5 [] []) := bodies_okG (ks := []) (by kernel_rfl) (fun _ hq => by cases hq)
theorem stok_3_9 (k : Nat) (x1 : (List Int)) (x2 : Bool) (x3 : Bool) (x4 : (List Int)) (x5 : (List Int)) (x6 : Int) (x7 : Int) (x8 : Int) (x9 : Int) (x10 : (List Int)) (x11 : (List Change)) (x12 : (List (Int × Bool))) (K : Ex → List (SV env.T) → Prop) : l_3_9 (k + 1) x1 x2 x3 x4 x5 x6 x7 x8 x9 x10 x11 x12 (fun y1 => K .ret [.bool y1]) (fun y1 y2 y3 y4 y5 y6 y7 y8 y9 => K (.exit 0) [.dat 3 y1, .bool y2, .bool y3, .dat 3 y4, .int .i64 y5, .int .i64 y6, .arr .i64 6 y7, .dat 60 y8, .mdat 3 4 y9]) = vcCode env (ctxG env false [] R5 [] []) 2000 3 (loopAt b3 9) (insSt p_3_9.head [.dat 3 x1, .bool x2, .bool x3, .dat 3 x4, .dat 3 x5, .int .i64 x6, .int .i64 x7, .int .i64 x8, .int .i64 x9, .arr .i64 6 x10, .dat 60 x11, .mdat 3 4 x12]) (stepK p_3_9 (w_3_9 k) K) := by kernel_rfl
theorem wiok_3_9 (k : Nat) (vs : List (SV env.T)) (K : Ex → List (SV env.T) → Prop) (h : w_3_9 k vs K) : ∃ x1 : (List Int), ∃ x2 : Bool, ∃ x3 : Bool, ∃ x4 : (List Int), ∃ x5 : (List Int), ∃ x6 : Int, ∃ x7 : Int, ∃ x8 : Int, ∃ x9 : Int, ∃ x10 : (List Int), ∃ x11 : (List Change), ∃ x12 : (List (Int × Bool)), vs = [.dat 3 x1, .bool x2, .bool x3, .dat 3 x4, .dat 3 x5, .int .i64 x6, .int .i64 x7, .int .i64 x8, .int .i64 x9, .arr .i64 6 x10, .dat 60 x11, .mdat 3 4 x12] ∧ l_3_9 k x1 x2 x3 x4 x5 x6 x7 x8 x9 x10 x11 x12 (fun y1 => K .ret [.bool y1]) (fun y1 y2 y3 y4 y5 y6 y7 y8 y9 => K (.exit 0) [.dat 3 y1, .bool y2, .bool y3, .dat 3 y4, .int .i64 y5, .int .i64 y6, .arr .i64 6 y7, .dat 60 y8, .mdat 3 4 y9]) := by
  unfold w_3_9 at h
  replace h := dCD_spec h
  obtain ⟨x1, vs0, e0, h⟩ := h
  replace h := dCB_spec h
  obtain ⟨x2, vs1, e1, h⟩ := h
  replace h := dCB_spec h
  obtain ⟨x3, vs2, e2, h⟩ := h
  replace h := dCD_spec h
  obtain ⟨x4, vs3, e3, h⟩ := h
  replace h := dCD_spec h
  obtain ⟨x5, vs4, e4, h⟩ := h
  replace h := dCI_spec h
  obtain ⟨x6, vs5, e5, h⟩ := h
  replace h := dCI_spec h
  obtain ⟨x7, vs6, e6, h⟩ := h
  replace h := dCI_spec h
  obtain ⟨x8, vs7, e7, h⟩ := h
  replace h := dCI_spec h
  obtain ⟨x9, vs8, e8, h⟩ := h
  replace h := dCA_spec h
  obtain ⟨x10, vs9, e9, h⟩ := h
  replace h := dCD_spec h
  obtain ⟨x11, vs10, e10, h⟩ := h
  replace h := dCM_spec h
  obtain ⟨x12, vs11, e11, h⟩ := h
  replace h := dCE_spec h
  obtain ⟨e, h⟩ := h
  exact ⟨x1, x2, x3, x4, x5, x6, x7, x8, x9, x10, x11, x12, by rw [e0, e1, e2, e3, e4, e5, e6, e7, e8, e9, e10, e11, e], h⟩
theorem zeok_3_9 (x1 : (List Int)) (x2 : Bool) (x3 : Bool) (x4 : (List Int)) (x5 : (List Int)) (x6 : Int) (x7 : Int) (x8 : Int) (x9 : Int) (x10 : (List Int)) (x11 : (List Change)) (x12 : (List (Int × Bool))) (K : Ex → List (SV env.T) → Prop) : l_3_9 0 x1 x2 x3 x4 x5 x6 x7 x8 x9 x10 x11 x12 (fun y1 => K .ret [.bool y1]) (fun y1 y2 y3 y4 y5 y6 y7 y8 y9 => K (.exit 0) [.dat 3 y1, .bool y2, .bool y3, .dat 3 y4, .int .i64 y5, .int .i64 y6, .arr .i64 6 y7, .dat 60 y8, .mdat 3 4 y9]) = False := by kernel_rfl
theorem ok_3_9 : PieceOk Tryz.prog env p_3_9 (.loop (loopAt b3 9)) := by
  refine loop_step (Wn := w_3_9) tab (ctxG_ok R5_ok false [] _ _) book_3_9 (pieces_sub pook_3_9_3 (by kernel_rfl)) rfl ?_ 2000 ?_
  · intro vs K h
    obtain ⟨x1, x2, x3, x4, x5, x6, x7, x8, x9, x10, x11, x12, _, h⟩ := wiok_3_9 0 vs K h
    exact Eq.mp (zeok_3_9 x1 x2 x3 x4 x5 x6 x7 x8 x9 x10 x11 x12 K) h
  · intro k vs K h
    obtain ⟨x1, x2, x3, x4, x5, x6, x7, x8, x9, x10, x11, x12, rfl, h⟩ := wiok_3_9 (k + 1) vs K h
    exact Eq.mp (stok_3_9 k x1 x2 x3 x4 x5 x6 x7 x8 x9 x10 x11 x12 K) h
theorem pook_3_16_3 : PiecesOk Tryz.prog env (ctxG env false [] R5 [] []) 3 b3 :=
  pieces_at (L := []) (S := []) (fun _ => rfl) (fun _ => rfl) (by kernel_rfl) (by kernel_rfl) (fun _ hq => by cases hq) (fun _ hq => by cases hq)
theorem book_3_16 : BodiesOk Tryz.prog env (ctxG env false [] R5 [] []) := bodies_okG (ks := []) (by kernel_rfl) (fun _ hq => by cases hq)
theorem stok_3_16 (k : Nat) (x1 : (List Int)) (x2 : Bool) (x3 : Bool) (x4 : (List Int)) (x5 : Int) (x6 : Int) (x7 : Int) (x8 : (List Int)) (x9 : (List Change)) (x10 : (List (Int × Bool))) (K : Ex → List (SV env.T) → Prop) : l_3_16 (k + 1) x1 x2 x3 x4 x5 x6 x7 x8 x9 x10 (fun y1 => K .ret [.bool y1]) (fun y1 y2 y3 => K (.exit 2) [.bool y1, .bool y2, .dat 3 y3]) = vcCode env (ctxG env false [] R5 [] []) 2000 3 (loopAt b3 16) (insSt p_3_16.head [.dat 3 x1, .bool x2, .bool x3, .dat 3 x4, .int .i64 x5, .int .i64 x6, .int .i64 x7, .arr .i64 6 x8, .dat 60 x9, .mdat 3 4 x10]) (stepK p_3_16 (w_3_16 k) K) := by kernel_rfl
theorem wiok_3_16 (k : Nat) (vs : List (SV env.T)) (K : Ex → List (SV env.T) → Prop) (h : w_3_16 k vs K) : ∃ x1 : (List Int), ∃ x2 : Bool, ∃ x3 : Bool, ∃ x4 : (List Int), ∃ x5 : Int, ∃ x6 : Int, ∃ x7 : Int, ∃ x8 : (List Int), ∃ x9 : (List Change), ∃ x10 : (List (Int × Bool)), vs = [.dat 3 x1, .bool x2, .bool x3, .dat 3 x4, .int .i64 x5, .int .i64 x6, .int .i64 x7, .arr .i64 6 x8, .dat 60 x9, .mdat 3 4 x10] ∧ l_3_16 k x1 x2 x3 x4 x5 x6 x7 x8 x9 x10 (fun y1 => K .ret [.bool y1]) (fun y1 y2 y3 => K (.exit 2) [.bool y1, .bool y2, .dat 3 y3]) := by
  unfold w_3_16 at h
  replace h := dCD_spec h
  obtain ⟨x1, vs0, e0, h⟩ := h
  replace h := dCB_spec h
  obtain ⟨x2, vs1, e1, h⟩ := h
  replace h := dCB_spec h
  obtain ⟨x3, vs2, e2, h⟩ := h
  replace h := dCD_spec h
  obtain ⟨x4, vs3, e3, h⟩ := h
  replace h := dCI_spec h
  obtain ⟨x5, vs4, e4, h⟩ := h
  replace h := dCI_spec h
  obtain ⟨x6, vs5, e5, h⟩ := h
  replace h := dCI_spec h
  obtain ⟨x7, vs6, e6, h⟩ := h
  replace h := dCA_spec h
  obtain ⟨x8, vs7, e7, h⟩ := h
  replace h := dCD_spec h
  obtain ⟨x9, vs8, e8, h⟩ := h
  replace h := dCM_spec h
  obtain ⟨x10, vs9, e9, h⟩ := h
  replace h := dCE_spec h
  obtain ⟨e, h⟩ := h
  exact ⟨x1, x2, x3, x4, x5, x6, x7, x8, x9, x10, by rw [e0, e1, e2, e3, e4, e5, e6, e7, e8, e9, e], h⟩
theorem zeok_3_16 (x1 : (List Int)) (x2 : Bool) (x3 : Bool) (x4 : (List Int)) (x5 : Int) (x6 : Int) (x7 : Int) (x8 : (List Int)) (x9 : (List Change)) (x10 : (List (Int × Bool))) (K : Ex → List (SV env.T) → Prop) : l_3_16 0 x1 x2 x3 x4 x5 x6 x7 x8 x9 x10 (fun y1 => K .ret [.bool y1]) (fun y1 y2 y3 => K (.exit 2) [.bool y1, .bool y2, .dat 3 y3]) = False := by kernel_rfl
theorem ok_3_16 : PieceOk Tryz.prog env p_3_16 (.loop (loopAt b3 16)) := by
  refine loop_step (Wn := w_3_16) tab (ctxG_ok R5_ok false [] _ _) book_3_16 (pieces_sub pook_3_16_3 (by kernel_rfl)) rfl ?_ 2000 ?_
  · intro vs K h
    obtain ⟨x1, x2, x3, x4, x5, x6, x7, x8, x9, x10, _, h⟩ := wiok_3_16 0 vs K h
    exact Eq.mp (zeok_3_16 x1 x2 x3 x4 x5 x6 x7 x8 x9 x10 K) h
  · intro k vs K h
    obtain ⟨x1, x2, x3, x4, x5, x6, x7, x8, x9, x10, rfl, h⟩ := wiok_3_16 (k + 1) vs K h
    exact Eq.mp (stok_3_16 k x1 x2 x3 x4 x5 x6 x7 x8 x9 x10 K) h
theorem po_3_3 : PiecesOk Tryz.prog env (ctxG env false [] R5 [(3, [(9, p_3_9), (16, p_3_16)])] [(3, [(6, q_3_6)])]) 3 b3 :=
  pieces_at (L := [(9, p_3_9), (16, p_3_16)]) (S := [(6, q_3_6)]) (fun _ => rfl) (fun _ => rfl) (by kernel_rfl) (by kernel_rfl) (List.forall_mem_cons.2 ⟨fun _ => ok_3_9, (List.forall_mem_cons.2 ⟨fun _ => ok_3_16, (fun _ hq => by cases hq)⟩)⟩) (List.forall_mem_cons.2 ⟨fun _ => oq_3_6, (fun _ hq => by cases hq)⟩)
theorem bo_3 : BodiesOk Tryz.prog env (ctxG env false [] R5 [(3, [(9, p_3_9), (16, p_3_16)])] [(3, [(6, q_3_6)])]) := bodies_okG (ks := [3]) (by kernel_rfl) (List.forall_mem_cons.2 ⟨body_at (fn := f3) (body := b3) rfl hb3 po_3_3, (fun _ hq => by cases hq)⟩)
theorem eq_3 (x0 : Budget) (x1 : (List Int)) (K : Y3 → Prop) : vcCode env (ctxG env false [] R5 [(3, [(9, p_3_9), (16, p_3_16)])] [(3, [(6, q_3_6)])]) 2000 3 b3 (entry env f3 [v25 x0, v26 x1]) (finR env f3 decR3 K) = B3 x0 x1 K := by kernel_rfl
noncomputable def rule3 : Nat × Rule env := (3, ruleF env decA3 encR3 fun x => V3 x.1 x.2)
theorem r3 : RuleOk Tryz.prog env 3 rule3.2 :=
  rule_fun tab (ctxG_ok R5_ok false [] _ _) bo_3 (f := 3) (fn := f3) rfl hb3 po_3_3 2000 encA3 hA3 hR3 hD3 (fun _ => of_decide_eq_true (by kernel_rfl)) (fun x K => (eq_3 x.1 x.2 K).trans (by rw [V3_eq]))
noncomputable def R3 : List (Nat × Rule env) := rule3 :: R5
theorem R3_ok : AllOk Tryz.prog env R3 := ⟨r3, R5_ok⟩
end Go.Vg.YthmmgoebdcegmaaGreatDoor
