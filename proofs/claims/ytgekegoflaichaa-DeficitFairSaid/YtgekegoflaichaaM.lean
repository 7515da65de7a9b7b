/-
  Walked functions of the program: predicate transformers and their rules. Written by a program of this work (gen.py, VgGen.lean) out of the executor's own reduction; no condition.
-/
import Derived.Test.YtgekegoflaichaaL
set_option maxRecDepth 100000
set_option maxHeartbeats 4000000
namespace Go.Vg.Ytgekegoflaichaa
open Go.Vg Go.Proofs
-- 6 queuelab/queuelablaw22.DeficitFair
noncomputable def f6 : Func := Try.f6
noncomputable def b6 : Code := (Try.f6.body).getD .skip
abbrev X6 := Int × (List Packet) × Int
def encA6 (x : X6) : List (SV env.T) := [v3 x.1, v33 x.2.1, v3 x.2.2]
def decA6 (l : List (SV env.T)) : Option X6 := match l with
  | [s0, s1, s2] => match u3 s0, u33 s1, u3 s2 with
    | some x0, some x1, some x2 => some (x0, x1, x2)
    | _, _, _ => none
  | _ => none
theorem hA6 (l : List (SV env.T)) (x : X6) (h : decA6 l = some x) : WkA env.has l (encA6 x) := by
  unfold decA6 at h; split at h
  · split at h
    · rename_i h0 h1 h2; cases h; exact (.cons (u3_wk h0) (.cons (u33_wk h1) (.cons (u3_wk h2) .nil)))
    · cases h
  · cases h
abbrev Y6 := Bool
def encR6 (x : Y6) : List (SV env.T) := [v4 x]
def decR6 (l : List (SV env.T)) : Option Y6 := match l with
  | [s0] => match u4 s0 with
    | some x0 => some (x0)
    | _ => none
  | _ => none
theorem hR6 (l : List (SV env.T)) (x : Y6) (h : decR6 l = some x) : WkA env.has l (encR6 x) := by
  unfold decR6 at h; split at h
  · split at h
    · rename_i h0; cases h; exact (.cons (u4_wk h0) .nil)
    · cases h
  · cases h
theorem hD6 (y : Y6) : isDataV (tupV (encR6 y)) = true := rfl
theorem hb6 : f6.body = some b6 := by kernel_rfl
def l_6_6 : Nat → Int → (List Packet) → Int → Bool → Bool → Int → Int → (Bool → Prop) → (Int → (List Packet) → Int → Bool → Bool → Int → Prop) → Prop
  | 0 => fun _ _ _ _ _ _ _ _ _ => False
  | k + 1 => fun x1 x2 x3 x4 x5 x6 x7 kr k0 ↦ br (decide (x7 < (↑x2.length : Int))) (br (inb x7 (↑x2.length : Int)) (V26 (x2.getD x7.toNat (env.d 30)) fun y11 ↦ br (!y11) (kr x5) (br (inb x7 (↑x2.length : Int)) (l_6_6 k x1 x2 x3 x4 x5 (if (x2.getD x7.toNat (env.d 30)).size > x6 then (x2.getD x7.toNat (env.d 30)).size else x6) (IntKind.i64.wrap (x7 + 1)) kr k0) False)) False) (k0 x1 x2 x3 x4 x5 x6)
def w_6_6 (k : Nat) (vs : List (SV env.T)) (K : Ex → List (SV env.T) → Prop) : Prop :=
  dCI .i64 vs fun x1 vs => dCD 30 vs fun x2 vs => dCI .i64 vs fun x3 vs => dCB vs fun x4 vs => dCB vs fun x5 vs => dCI .i64 vs fun x6 vs => dCI .i64 vs fun x7 vs => dCE vs (l_6_6 k x1 x2 x3 x4 x5 x6 x7 (fun y1 => K .ret [.bool y1]) (fun y1 y2 y3 y4 y5 y6 => K (.exit 0) [.int .i64 y1, .dat 30 y2, .int .i64 y3, .bool y4, .bool y5, .int .i64 y6]))
def p_6_6 : Piece env := ⟨⟨[.hole, .holeD 30, .hole, .any, .any, .any, .hole, .hole, .hole, .hole, .any, .any, .any, .any, .any, .any, .any, .any, .any, .any, .any, .any, .any, .any, .any, .any, .any, .any, .any, .any, .any, .any, .any, .any, .any, .any, .any, .any, .any, .any, .any, .any, .any, .any, .any, .any, .any, .any, .any, .any, .any, .any, .any, .any, .any, .any, .any, .any, .any, .any, .any, .any, .any, .any, .any, .any, .any, .any, .any, .any, .any, .any, .any, .any, .any, .any, .any, .any, .any, .any, .any, .any, .any, .any, .any, .any, .any, .any, .any, .any, .any, .any, .any, .any, .any, .any, .any, .any, .any, .any, .any, .any, .any, .any, .any, .any, .any, .any, .any, .any, .any, .any, .any, .any, .any, .any, .any, .any, .any, .any, .any, .any, .any, .any, .any, .any, .any, .any, .any, .any, .any, .any, .any, .any, .any, .any, .any, .any, .any, .any], [], [], 0⟩, exitF none [(0, ⟨[.hole, .holeD 30, .hole, .any, .any, .any, .hole, .hole, .hole, .any, .any, .any, .any, .any, .any, .any, .any, .any, .any, .any, .any, .any, .any, .any, .any, .any, .any, .any, .any, .any, .any, .any, .any, .any, .any, .any, .any, .any, .any, .any, .any, .any, .any, .any, .any, .any, .any, .any, .any, .any, .any, .any, .any, .any, .any, .any, .any, .any, .any, .any, .any, .any, .any, .any, .any, .any, .any, .any, .any, .any, .any, .any, .any, .any, .any, .any, .any, .any, .any, .any, .any, .any, .any, .any, .any, .any, .any, .any, .any, .any, .any, .any, .any, .any, .any, .any, .any, .any, .any, .any, .any, .any, .any, .any, .any, .any, .any, .any, .any, .any, .any, .any, .any, .any, .any, .any, .any, .any, .any, .any, .any, .any, .any, .any, .any, .any, .any, .any, .any, .any, .any, .any, .any, .any, .any, .any, .any, .any, .any, .any], [], [], 0⟩)] (some ⟨[.any, .any, .any, .any, .any, .any, .hole, .any, .any, .any, .any, .any, .any, .any, .any, .any, .any, .any, .any, .any, .any, .any, .any, .any, .any, .any, .any, .any, .any, .any, .any, .any, .any, .any, .any, .any, .any, .any, .any, .any, .any, .any, .any, .any, .any, .any, .any, .any, .any, .any, .any, .any, .any, .any, .any, .any, .any, .any, .any, .any, .any, .any, .any, .any, .any, .any, .any, .any, .any, .any, .any, .any, .any, .any, .any, .any, .any, .any, .any, .any, .any, .any, .any, .any, .any, .any, .any, .any, .any, .any, .any, .any, .any, .any, .any, .any, .any, .any, .any, .any, .any, .any, .any, .any, .any, .any, .any, .any, .any, .any, .any, .any, .any, .any, .any, .any, .any, .any, .any, .any, .any, .any, .any, .any, .any, .any, .any, .any, .any, .any, .any, .any, .any, .any, .any, .any, .any, .any, .any, .any], [], [], 0⟩), fun vs K => ∃ k, w_6_6 k vs K⟩
def l_6_20 : Nat → Int → Bool → Bool → Int → (List Packet) → Int → Int → Int → Int → Int → Int → Int → (List (List Queued)) → (List Int) → Int → (Bool → Prop) → (Int → Bool → Bool → Int → (List Packet) → Int → Int → Int → Int → Int → Int → (List (List Queued)) → (List Int) → Int → Prop) → Prop
  | 0 => fun _ _ _ _ _ _ _ _ _ _ _ _ _ _ _ _ _ => False
  | k + 1 => fun x1 x2 x3 x4 x5 x6 x7 x8 x9 x10 x11 x12 x13 x14 x15 kr k4 ↦ br (decide (x7 < x6)) (V33 x5 x6 fun y19 ↦ V33 x5 x7 fun y20 ↦ br (inb x6 (↑x13.length : Int)) (br (decide ((↑(List.length (x13.getD x6.toNat (env.d 43))) : Int) > 0)) (br (inb x7 (↑x13.length : Int)) (br (decide ((↑(List.length (x13.getD x7.toNat (env.d 43))) : Int) > 0)) (br (decide (IntKind.i64.wrap (y19 - y20) > IntKind.i64.wrap (IntKind.i64.wrap (2 * x1) + x4))) (kr false) (br (decide (IntKind.i64.wrap (y19 - y20) < IntKind.i64.wrap (IntKind.i64.wrap (-2 * x1) - x4))) (kr false) (l_6_20 k x1 x2 x3 x4 x5 x6 (IntKind.i64.wrap (x7 + 1)) x8 x9 x10 x11 x12 x13 x14 x15 kr k4))) (l_6_20 k x1 x2 x3 x4 x5 x6 (IntKind.i64.wrap (x7 + 1)) x8 x9 x10 x11 x12 x13 x14 x15 kr k4)) False) (l_6_20 k x1 x2 x3 x4 x5 x6 (IntKind.i64.wrap (x7 + 1)) x8 x9 x10 x11 x12 x13 x14 x15 kr k4)) False) (k4 x1 x2 x3 x4 x5 x6 x8 x9 x10 x11 x12 x13 x14 x15)
def w_6_20 (k : Nat) (vs : List (SV env.T)) (K : Ex → List (SV env.T) → Prop) : Prop :=
  dCI .i64 vs fun x1 vs => dCB vs fun x2 vs => dCB vs fun x3 vs => dCI .i64 vs fun x4 vs => dCD 30 vs fun x5 vs => dCI .i64 vs fun x6 vs => dCI .i64 vs fun x7 vs => dCI .i64 vs fun x8 vs => dCI .i64 vs fun x9 vs => dCI .i64 vs fun x10 vs => dCI .i64 vs fun x11 vs => dCI .i64 vs fun x12 vs => dCD 43 vs fun x13 vs => dCA .i64 8 vs fun x14 vs => dCI .u64 vs fun x15 vs => dCE vs (l_6_20 k x1 x2 x3 x4 x5 x6 x7 x8 x9 x10 x11 x12 x13 x14 x15 (fun y1 => K .ret [.bool y1]) (fun y1 y2 y3 y4 y5 y6 y7 y8 y9 y10 y11 y12 y13 y14 => K (.exit 4) [.int .i64 y1, .bool y2, .bool y3, .int .i64 y4, .dat 30 y5, .int .i64 y6, .int .i64 y7, .int .i64 y8, .int .i64 y9, .int .i64 y10, .int .i64 y11, .dat 43 y12, .arr .i64 8 y13, .int .u64 y14]))
def p_6_20 : Piece env := ⟨⟨[.hole, .any, .any, .any, .any, .any, .hole, .hole, .hole, .any, .any, .any, .any, .ptr 0 0, .holeD 30, .hole, .hole, .any, .any, .any, .any, .any, .any, .any, .any, .any, .any, .any, .any, .any, .any, .any, .any, .any, .any, .any, .any, .any, .any, .any, .any, .any, .any, .any, .any, .any, .any, .any, .any, .any, .any, .any, .any, .any, .any, .any, .any, .any, .any, .any, .any, .any, .any, .any, .any, .any, .any, .any, .any, .any, .any, .any, .any, .any, .any, .any, .any, .any, .any, .any, .any, .any, .any, .any, .any, .any, .any, .any, .any, .any, .any, .any, .any, .any, .any, .any, .any, .any, .any, .any, .any, .any, .any, .any, .any, .any, .any, .any, .any, .any, .any, .any, .any, .any, .any, .any, .any, .any, .any, .any, .any, .any, .any, .any, .any, .any, .any, .any, .any, .any, .any, .any, .any, .any, .any, .any, .any, .any, .any, .any], [], [(0, .cells 28 [.hole, .hole, .hole, .hole, .hole, .holeD 43, .hole, .hole])], 1⟩, exitF none [(4, ⟨[.hole, .any, .any, .any, .any, .any, .hole, .hole, .hole, .any, .any, .any, .any, .ptr 0 0, .holeD 30, .hole, .any, .any, .any, .any, .any, .any, .any, .any, .any, .any, .any, .any, .any, .any, .any, .any, .any, .any, .any, .any, .any, .any, .any, .any, .any, .any, .any, .any, .any, .any, .any, .any, .any, .any, .any, .any, .any, .any, .any, .any, .any, .any, .any, .any, .any, .any, .any, .any, .any, .any, .any, .any, .any, .any, .any, .any, .any, .any, .any, .any, .any, .any, .any, .any, .any, .any, .any, .any, .any, .any, .any, .any, .any, .any, .any, .any, .any, .any, .any, .any, .any, .any, .any, .any, .any, .any, .any, .any, .any, .any, .any, .any, .any, .any, .any, .any, .any, .any, .any, .any, .any, .any, .any, .any, .any, .any, .any, .any, .any, .any, .any, .any, .any, .any, .any, .any, .any, .any, .any, .any, .any, .any, .any, .any], [], [(0, .cells 28 [.hole, .hole, .hole, .hole, .hole, .holeD 43, .hole, .hole])], 1⟩)] (some ⟨[.any, .any, .any, .any, .any, .any, .hole, .any, .any, .any, .any, .any, .any, .any, .any, .any, .any, .any, .any, .any, .any, .any, .any, .any, .any, .any, .any, .any, .any, .any, .any, .any, .any, .any, .any, .any, .any, .any, .any, .any, .any, .any, .any, .any, .any, .any, .any, .any, .any, .any, .any, .any, .any, .any, .any, .any, .any, .any, .any, .any, .any, .any, .any, .any, .any, .any, .any, .any, .any, .any, .any, .any, .any, .any, .any, .any, .any, .any, .any, .any, .any, .any, .any, .any, .any, .any, .any, .any, .any, .any, .any, .any, .any, .any, .any, .any, .any, .any, .any, .any, .any, .any, .any, .any, .any, .any, .any, .any, .any, .any, .any, .any, .any, .any, .any, .any, .any, .any, .any, .any, .any, .any, .any, .any, .any, .any, .any, .any, .any, .any, .any, .any, .any, .any, .any, .any, .any, .any, .any, .any], [], [], 0⟩), fun vs K => ∃ k, w_6_20 k vs K⟩
def l_6_17 : Nat → Int → Bool → Bool → Int → (List Packet) → Int → Int → Int → Int → Int → Int → (List (List Queued)) → (List Int) → Int → (Bool → Prop) → (Bool → Bool → Prop) → Prop
  | 0 => fun _ _ _ _ _ _ _ _ _ _ _ _ _ _ _ _ => False
  | k + 1 => fun x1 x2 x3 x4 x5 x6 x7 x8 x9 x10 x11 x12 x13 x14 kr k2 ↦ br (decide (x6 < 8)) (∃ k18, l_6_20 k18 x1 x2 x3 x4 x5 x6 0 x7 x8 x9 x10 x11 x12 x13 x14 kr fun y19 y20 y21 y22 y23 y24 y25 y26 y27 y28 y29 y30 y31 y32 ↦ l_6_17 k y19 y20 y21 y22 y23 (IntKind.i64.wrap (y24 + 1)) y25 y26 y27 y28 y29 y30 y31 y32 kr k2) (k2 x2 x3)
def w_6_17 (k : Nat) (vs : List (SV env.T)) (K : Ex → List (SV env.T) → Prop) : Prop :=
  dCI .i64 vs fun x1 vs => dCB vs fun x2 vs => dCB vs fun x3 vs => dCI .i64 vs fun x4 vs => dCD 30 vs fun x5 vs => dCI .i64 vs fun x6 vs => dCI .i64 vs fun x7 vs => dCI .i64 vs fun x8 vs => dCI .i64 vs fun x9 vs => dCI .i64 vs fun x10 vs => dCI .i64 vs fun x11 vs => dCD 43 vs fun x12 vs => dCA .i64 8 vs fun x13 vs => dCI .u64 vs fun x14 vs => dCE vs (l_6_17 k x1 x2 x3 x4 x5 x6 x7 x8 x9 x10 x11 x12 x13 x14 (fun y1 => K .ret [.bool y1]) (fun y1 y2 => K (.exit 2) [.bool y1, .bool y2]))
def p_6_17 : Piece env := ⟨⟨[.hole, .any, .any, .any, .any, .any, .hole, .hole, .hole, .any, .any, .any, .any, .ptr 0 0, .holeD 30, .hole, .any, .any, .any, .any, .any, .any, .any, .any, .any, .any, .any, .any, .any, .any, .any, .any, .any, .any, .any, .any, .any, .any, .any, .any, .any, .any, .any, .any, .any, .any, .any, .any, .any, .any, .any, .any, .any, .any, .any, .any, .any, .any, .any, .any, .any, .any, .any, .any, .any, .any, .any, .any, .any, .any, .any, .any, .any, .any, .any, .any, .any, .any, .any, .any, .any, .any, .any, .any, .any, .any, .any, .any, .any, .any, .any, .any, .any, .any, .any, .any, .any, .any, .any, .any, .any, .any, .any, .any, .any, .any, .any, .any, .any, .any, .any, .any, .any, .any, .any, .any, .any, .any, .any, .any, .any, .any, .any, .any, .any, .any, .any, .any, .any, .any, .any, .any, .any, .any, .any, .any, .any, .any, .any, .any], [], [(0, .cells 28 [.hole, .hole, .hole, .hole, .hole, .holeD 43, .hole, .hole])], 1⟩, exitF none [(2, ⟨[.any, .any, .any, .any, .any, .any, .hole, .hole, .any, .any, .any, .any, .any, .any, .any, .any, .any, .any, .any, .any, .any, .any, .any, .any, .any, .any, .any, .any, .any, .any, .any, .any, .any, .any, .any, .any, .any, .any, .any, .any, .any, .any, .any, .any, .any, .any, .any, .any, .any, .any, .any, .any, .any, .any, .any, .any, .any, .any, .any, .any, .any, .any, .any, .any, .any, .any, .any, .any, .any, .any, .any, .any, .any, .any, .any, .any, .any, .any, .any, .any, .any, .any, .any, .any, .any, .any, .any, .any, .any, .any, .any, .any, .any, .any, .any, .any, .any, .any, .any, .any, .any, .any, .any, .any, .any, .any, .any, .any, .any, .any, .any, .any, .any, .any, .any, .any, .any, .any, .any, .any, .any, .any, .any, .any, .any, .any, .any, .any, .any, .any, .any, .any, .any, .any, .any, .any, .any, .any, .any, .any], [], [], 0⟩)] (some ⟨[.any, .any, .any, .any, .any, .any, .hole, .any, .any, .any, .any, .any, .any, .any, .any, .any, .any, .any, .any, .any, .any, .any, .any, .any, .any, .any, .any, .any, .any, .any, .any, .any, .any, .any, .any, .any, .any, .any, .any, .any, .any, .any, .any, .any, .any, .any, .any, .any, .any, .any, .any, .any, .any, .any, .any, .any, .any, .any, .any, .any, .any, .any, .any, .any, .any, .any, .any, .any, .any, .any, .any, .any, .any, .any, .any, .any, .any, .any, .any, .any, .any, .any, .any, .any, .any, .any, .any, .any, .any, .any, .any, .any, .any, .any, .any, .any, .any, .any, .any, .any, .any, .any, .any, .any, .any, .any, .any, .any, .any, .any, .any, .any, .any, .any, .any, .any, .any, .any, .any, .any, .any, .any, .any, .any, .any, .any, .any, .any, .any, .any, .any, .any, .any, .any, .any, .any, .any, .any, .any, .any], [], [], 0⟩), fun vs K => ∃ k, w_6_17 k vs K⟩
def s_6_16 : Int → Bool → Bool → Int → (List Packet) → Int → Int → Int → Int → Int → (List (List Queued)) → (List Int) → Int → (Bool → Prop) → Prop :=
  fun x1 x2 x3 x4 x5 x6 x7 x8 x9 x10 x11 x12 x13 kr ↦ ∃ k16, l_6_17 k16 x1 x2 x3 x4 x5 0 x6 x7 x8 x9 x10 x11 x12 x13 kr fun _ ↦ kr
def v_6_16 (vs : List (SV env.T)) (K : Ex → List (SV env.T) → Prop) : Prop :=
  dCI .i64 vs fun x1 vs => dCB vs fun x2 vs => dCB vs fun x3 vs => dCI .i64 vs fun x4 vs => dCD 30 vs fun x5 vs => dCI .i64 vs fun x6 vs => dCI .i64 vs fun x7 vs => dCI .i64 vs fun x8 vs => dCI .i64 vs fun x9 vs => dCI .i64 vs fun x10 vs => dCD 43 vs fun x11 vs => dCA .i64 8 vs fun x12 vs => dCI .u64 vs fun x13 vs => dCE vs (s_6_16 x1 x2 x3 x4 x5 x6 x7 x8 x9 x10 x11 x12 x13 (fun y1 => K .ret [.bool y1]))
def q_6_16 : Piece env := ⟨⟨[.hole, .any, .any, .any, .any, .any, .hole, .hole, .hole, .any, .any, .any, .any, .ptr 0 0, .holeD 30, .any, .any, .any, .any, .any, .any, .any, .any, .any, .any, .any, .any, .any, .any, .any, .any, .any, .any, .any, .any, .any, .any, .any, .any, .any, .any, .any, .any, .any, .any, .any, .any, .any, .any, .any, .any, .any, .any, .any, .any, .any, .any, .any, .any, .any, .any, .any, .any, .any, .any, .any, .any, .any, .any, .any, .any, .any, .any, .any, .any, .any, .any, .any, .any, .any, .any, .any, .any, .any, .any, .any, .any, .any, .any, .any, .any, .any, .any, .any, .any, .any, .any, .any, .any, .any, .any, .any, .any, .any, .any, .any, .any, .any, .any, .any, .any, .any, .any, .any, .any, .any, .any, .any, .any, .any, .any, .any, .any, .any, .any, .any, .any, .any, .any, .any, .any, .any, .any, .any, .any, .any, .any, .any, .any, .any], [], [(0, .cells 28 [.hole, .hole, .hole, .hole, .hole, .holeD 43, .hole, .hole])], 1⟩, exitF none [] (some ⟨[.any, .any, .any, .any, .any, .any, .hole, .any, .any, .any, .any, .any, .any, .any, .any, .any, .any, .any, .any, .any, .any, .any, .any, .any, .any, .any, .any, .any, .any, .any, .any, .any, .any, .any, .any, .any, .any, .any, .any, .any, .any, .any, .any, .any, .any, .any, .any, .any, .any, .any, .any, .any, .any, .any, .any, .any, .any, .any, .any, .any, .any, .any, .any, .any, .any, .any, .any, .any, .any, .any, .any, .any, .any, .any, .any, .any, .any, .any, .any, .any, .any, .any, .any, .any, .any, .any, .any, .any, .any, .any, .any, .any, .any, .any, .any, .any, .any, .any, .any, .any, .any, .any, .any, .any, .any, .any, .any, .any, .any, .any, .any, .any, .any, .any, .any, .any, .any, .any, .any, .any, .any, .any, .any, .any, .any, .any, .any, .any, .any, .any, .any, .any, .any, .any, .any, .any, .any, .any, .any, .any], [], [], 0⟩), v_6_16⟩
def s_6_4 : Int → (List Packet) → Int → Bool → Bool → (Bool → Prop) → Prop :=
  fun x1 x2 x3 x4 x5 kr ↦ ∃ k8, l_6_6 k8 x1 x2 x3 x4 x5 0 0 kr fun y9 y10 y11 y12 y13 y14 ↦ V31 y9 500 fun y15 ↦ V30 y15 y10 fun y16 ↦ br (!IntKind.i64.wrap ((↑y10.length : Int) + 1) == 0) (∃ k17, (V32 y16.fst (y11.tmod (IntKind.i64.wrap ((↑y10.length : Int) + 1))) fun y18 ↦ tupV (encR32 y18) = tupV (encR32 k17)) ∧ br (!y16.snd) (kr false) (br ((↑k17.fst.lists.length : Int) != 8) (kr false) (br (!IntKind.i64.wrap ((↑y10.length : Int) + 1) == 0) (br ((↑k17.snd.length : Int) != y11.tmod (IntKind.i64.wrap ((↑y10.length : Int) + 1))) (kr false) (s_6_16 y9 y12 y13 y14 k17.snd k17.fst.policy.kind k17.fst.policy.a k17.fst.policy.b k17.fst.policy.c k17.fst.room k17.fst.lists k17.fst.vars k17.fst.seed kr)) False))) False
def v_6_4 (vs : List (SV env.T)) (K : Ex → List (SV env.T) → Prop) : Prop :=
  dCI .i64 vs fun x1 vs => dCD 30 vs fun x2 vs => dCI .i64 vs fun x3 vs => dCB vs fun x4 vs => dCB vs fun x5 vs => dCE vs (s_6_4 x1 x2 x3 x4 x5 (fun y1 => K .ret [.bool y1]))
def q_6_4 : Piece env := ⟨⟨[.hole, .holeD 30, .hole, .any, .any, .any, .hole, .hole, .any, .any, .any, .any, .any, .any, .any, .any, .any, .any, .any, .any, .any, .any, .any, .any, .any, .any, .any, .any, .any, .any, .any, .any, .any, .any, .any, .any, .any, .any, .any, .any, .any, .any, .any, .any, .any, .any, .any, .any, .any, .any, .any, .any, .any, .any, .any, .any, .any, .any, .any, .any, .any, .any, .any, .any, .any, .any, .any, .any, .any, .any, .any, .any, .any, .any, .any, .any, .any, .any, .any, .any, .any, .any, .any, .any, .any, .any, .any, .any, .any, .any, .any, .any, .any, .any, .any, .any, .any, .any, .any, .any, .any, .any, .any, .any, .any, .any, .any, .any, .any, .any, .any, .any, .any, .any, .any, .any, .any, .any, .any, .any, .any, .any, .any, .any, .any, .any, .any, .any, .any, .any, .any, .any, .any, .any, .any, .any, .any, .any, .any, .any], [], [], 0⟩, exitF none [] (some ⟨[.any, .any, .any, .any, .any, .any, .hole, .any, .any, .any, .any, .any, .any, .any, .any, .any, .any, .any, .any, .any, .any, .any, .any, .any, .any, .any, .any, .any, .any, .any, .any, .any, .any, .any, .any, .any, .any, .any, .any, .any, .any, .any, .any, .any, .any, .any, .any, .any, .any, .any, .any, .any, .any, .any, .any, .any, .any, .any, .any, .any, .any, .any, .any, .any, .any, .any, .any, .any, .any, .any, .any, .any, .any, .any, .any, .any, .any, .any, .any, .any, .any, .any, .any, .any, .any, .any, .any, .any, .any, .any, .any, .any, .any, .any, .any, .any, .any, .any, .any, .any, .any, .any, .any, .any, .any, .any, .any, .any, .any, .any, .any, .any, .any, .any, .any, .any, .any, .any, .any, .any, .any, .any, .any, .any, .any, .any, .any, .any, .any, .any, .any, .any, .any, .any, .any, .any, .any, .any, .any, .any], [], [], 0⟩), v_6_4⟩
noncomputable def B6 : Int → (List Packet) → Int → (Y6 → Prop) → Prop :=
  fun x0 x1 x2 K ↦ V15 fun y4 ↦ br (decide (x0 < 100)) (K y4) (br (decide (x0 > 10000)) (K y4) (br (decide ((↑x1.length : Int) > 200)) (K y4) (br (decide (x2 < 0)) (K y4) (s_6_4 x0 x1 x2 false y4 K))))
theorem V6_ex : ∃ V : Int → (List Packet) → Int → (Y6 → Prop) → Prop, V = B6 := ⟨_, rfl⟩
noncomputable def V6 : Int → (List Packet) → Int → (Y6 → Prop) → Prop := Classical.choose V6_ex
theorem V6_eq : V6 = B6 := Classical.choose_spec V6_ex
theorem pook_6_6_6 : PiecesOk Try.prog env (ctxG env false [] R8 [] []) 6 b6 :=
  pieces_at (L := []) (S := []) (fun _ => rfl) (fun _ => rfl) (by kernel_rfl) (by kernel_rfl) (fun _ hq => by cases hq) (fun _ hq => by cases hq)
theorem book_6_6 : BodiesOk Try.prog env (ctxG env false [] R8 [] []) := bodies_okG (ks := []) (by kernel_rfl) (fun _ hq => by cases hq)
theorem stok_6_6 (k : Nat) (x1 : Int) (x2 : (List Packet)) (x3 : Int) (x4 : Bool) (x5 : Bool) (x6 : Int) (x7 : Int) (K : Ex → List (SV env.T) → Prop) : l_6_6 (k + 1) x1 x2 x3 x4 x5 x6 x7 (fun y1 => K .ret [.bool y1]) (fun y1 y2 y3 y4 y5 y6 => K (.exit 0) [.int .i64 y1, .dat 30 y2, .int .i64 y3, .bool y4, .bool y5, .int .i64 y6]) = vcCode env (ctxG env false [] R8 [] []) 2000 6 (loopAt b6 6) (insSt p_6_6.head [.int .i64 x1, .dat 30 x2, .int .i64 x3, .bool x4, .bool x5, .int .i64 x6, .int .i64 x7]) (stepK p_6_6 (w_6_6 k) K) := by kernel_rfl
theorem wiok_6_6 (k : Nat) (vs : List (SV env.T)) (K : Ex → List (SV env.T) → Prop) (h : w_6_6 k vs K) : ∃ x1 : Int, ∃ x2 : (List Packet), ∃ x3 : Int, ∃ x4 : Bool, ∃ x5 : Bool, ∃ x6 : Int, ∃ x7 : Int, vs = [.int .i64 x1, .dat 30 x2, .int .i64 x3, .bool x4, .bool x5, .int .i64 x6, .int .i64 x7] ∧ l_6_6 k x1 x2 x3 x4 x5 x6 x7 (fun y1 => K .ret [.bool y1]) (fun y1 y2 y3 y4 y5 y6 => K (.exit 0) [.int .i64 y1, .dat 30 y2, .int .i64 y3, .bool y4, .bool y5, .int .i64 y6]) := by
  unfold w_6_6 at h
  replace h := dCI_spec h
  obtain ⟨x1, vs0, e0, h⟩ := h
  replace h := dCD_spec h
  obtain ⟨x2, vs1, e1, h⟩ := h
  replace h := dCI_spec h
  obtain ⟨x3, vs2, e2, h⟩ := h
  replace h := dCB_spec h
  obtain ⟨x4, vs3, e3, h⟩ := h
  replace h := dCB_spec h
  obtain ⟨x5, vs4, e4, h⟩ := h
  replace h := dCI_spec h
  obtain ⟨x6, vs5, e5, h⟩ := h
  replace h := dCI_spec h
  obtain ⟨x7, vs6, e6, h⟩ := h
  replace h := dCE_spec h
  obtain ⟨e, h⟩ := h
  exact ⟨x1, x2, x3, x4, x5, x6, x7, by rw [e0, e1, e2, e3, e4, e5, e6, e], h⟩
theorem zeok_6_6 (x1 : Int) (x2 : (List Packet)) (x3 : Int) (x4 : Bool) (x5 : Bool) (x6 : Int) (x7 : Int) (K : Ex → List (SV env.T) → Prop) : l_6_6 0 x1 x2 x3 x4 x5 x6 x7 (fun y1 => K .ret [.bool y1]) (fun y1 y2 y3 y4 y5 y6 => K (.exit 0) [.int .i64 y1, .dat 30 y2, .int .i64 y3, .bool y4, .bool y5, .int .i64 y6]) = False := by kernel_rfl
theorem ok_6_6 : PieceOk Try.prog env p_6_6 (.loop (loopAt b6 6)) := by
  refine loop_step (Wn := w_6_6) tab (ctxG_ok R8_ok false [] _ _) book_6_6 (pieces_sub pook_6_6_6 (by kernel_rfl)) rfl ?_ 2000 ?_
  · intro vs K h
    obtain ⟨x1, x2, x3, x4, x5, x6, x7, _, h⟩ := wiok_6_6 0 vs K h
    exact Eq.mp (zeok_6_6 x1 x2 x3 x4 x5 x6 x7 K) h
  · intro k vs K h
    obtain ⟨x1, x2, x3, x4, x5, x6, x7, rfl, h⟩ := wiok_6_6 (k + 1) vs K h
    exact Eq.mp (stok_6_6 k x1 x2 x3 x4 x5 x6 x7 K) h
theorem pook_6_20_6 : PiecesOk Try.prog env (ctxG env false [] R8 [] []) 6 b6 :=
  pieces_at (L := []) (S := []) (fun _ => rfl) (fun _ => rfl) (by kernel_rfl) (by kernel_rfl) (fun _ hq => by cases hq) (fun _ hq => by cases hq)
theorem book_6_20 : BodiesOk Try.prog env (ctxG env false [] R8 [] []) := bodies_okG (ks := []) (by kernel_rfl) (fun _ hq => by cases hq)
theorem stok_6_20 (k : Nat) (x1 : Int) (x2 : Bool) (x3 : Bool) (x4 : Int) (x5 : (List Packet)) (x6 : Int) (x7 : Int) (x8 : Int) (x9 : Int) (x10 : Int) (x11 : Int) (x12 : Int) (x13 : (List (List Queued))) (x14 : (List Int)) (x15 : Int) (K : Ex → List (SV env.T) → Prop) : l_6_20 (k + 1) x1 x2 x3 x4 x5 x6 x7 x8 x9 x10 x11 x12 x13 x14 x15 (fun y1 => K .ret [.bool y1]) (fun y1 y2 y3 y4 y5 y6 y7 y8 y9 y10 y11 y12 y13 y14 => K (.exit 4) [.int .i64 y1, .bool y2, .bool y3, .int .i64 y4, .dat 30 y5, .int .i64 y6, .int .i64 y7, .int .i64 y8, .int .i64 y9, .int .i64 y10, .int .i64 y11, .dat 43 y12, .arr .i64 8 y13, .int .u64 y14]) = vcCode env (ctxG env false [] R8 [] []) 2000 6 (loopAt b6 20) (insSt p_6_20.head [.int .i64 x1, .bool x2, .bool x3, .int .i64 x4, .dat 30 x5, .int .i64 x6, .int .i64 x7, .int .i64 x8, .int .i64 x9, .int .i64 x10, .int .i64 x11, .int .i64 x12, .dat 43 x13, .arr .i64 8 x14, .int .u64 x15]) (stepK p_6_20 (w_6_20 k) K) := by kernel_rfl
theorem wiok_6_20 (k : Nat) (vs : List (SV env.T)) (K : Ex → List (SV env.T) → Prop) (h : w_6_20 k vs K) : ∃ x1 : Int, ∃ x2 : Bool, ∃ x3 : Bool, ∃ x4 : Int, ∃ x5 : (List Packet), ∃ x6 : Int, ∃ x7 : Int, ∃ x8 : Int, ∃ x9 : Int, ∃ x10 : Int, ∃ x11 : Int, ∃ x12 : Int, ∃ x13 : (List (List Queued)), ∃ x14 : (List Int), ∃ x15 : Int, vs = [.int .i64 x1, .bool x2, .bool x3, .int .i64 x4, .dat 30 x5, .int .i64 x6, .int .i64 x7, .int .i64 x8, .int .i64 x9, .int .i64 x10, .int .i64 x11, .int .i64 x12, .dat 43 x13, .arr .i64 8 x14, .int .u64 x15] ∧ l_6_20 k x1 x2 x3 x4 x5 x6 x7 x8 x9 x10 x11 x12 x13 x14 x15 (fun y1 => K .ret [.bool y1]) (fun y1 y2 y3 y4 y5 y6 y7 y8 y9 y10 y11 y12 y13 y14 => K (.exit 4) [.int .i64 y1, .bool y2, .bool y3, .int .i64 y4, .dat 30 y5, .int .i64 y6, .int .i64 y7, .int .i64 y8, .int .i64 y9, .int .i64 y10, .int .i64 y11, .dat 43 y12, .arr .i64 8 y13, .int .u64 y14]) := by
  unfold w_6_20 at h
  replace h := dCI_spec h
  obtain ⟨x1, vs0, e0, h⟩ := h
  replace h := dCB_spec h
  obtain ⟨x2, vs1, e1, h⟩ := h
  replace h := dCB_spec h
  obtain ⟨x3, vs2, e2, h⟩ := h
  replace h := dCI_spec h
  obtain ⟨x4, vs3, e3, h⟩ := h
  replace h := dCD_spec h
  obtain ⟨x5, vs4, e4, h⟩ := h
  replace h := dCI_spec h
  obtain ⟨x6, vs5, e5, h⟩ := h
  replace h := dCI_spec h
  obtain ⟨x7, vs6, e6, h⟩ := h
  replace h := dCI_spec h
  obtain ⟨x8, vs7, e7, h⟩ := h
  replace h := dCI_spec h
  obtain ⟨x9, vs8, e8, h⟩ := h
  replace h := dCI_spec h
  obtain ⟨x10, vs9, e9, h⟩ := h
  replace h := dCI_spec h
  obtain ⟨x11, vs10, e10, h⟩ := h
  replace h := dCI_spec h
  obtain ⟨x12, vs11, e11, h⟩ := h
  replace h := dCD_spec h
  obtain ⟨x13, vs12, e12, h⟩ := h
  replace h := dCA_spec h
  obtain ⟨x14, vs13, e13, h⟩ := h
  replace h := dCI_spec h
  obtain ⟨x15, vs14, e14, h⟩ := h
  replace h := dCE_spec h
  obtain ⟨e, h⟩ := h
  exact ⟨x1, x2, x3, x4, x5, x6, x7, x8, x9, x10, x11, x12, x13, x14, x15, by rw [e0, e1, e2, e3, e4, e5, e6, e7, e8, e9, e10, e11, e12, e13, e14, e], h⟩
theorem zeok_6_20 (x1 : Int) (x2 : Bool) (x3 : Bool) (x4 : Int) (x5 : (List Packet)) (x6 : Int) (x7 : Int) (x8 : Int) (x9 : Int) (x10 : Int) (x11 : Int) (x12 : Int) (x13 : (List (List Queued))) (x14 : (List Int)) (x15 : Int) (K : Ex → List (SV env.T) → Prop) : l_6_20 0 x1 x2 x3 x4 x5 x6 x7 x8 x9 x10 x11 x12 x13 x14 x15 (fun y1 => K .ret [.bool y1]) (fun y1 y2 y3 y4 y5 y6 y7 y8 y9 y10 y11 y12 y13 y14 => K (.exit 4) [.int .i64 y1, .bool y2, .bool y3, .int .i64 y4, .dat 30 y5, .int .i64 y6, .int .i64 y7, .int .i64 y8, .int .i64 y9, .int .i64 y10, .int .i64 y11, .dat 43 y12, .arr .i64 8 y13, .int .u64 y14]) = False := by kernel_rfl
theorem ok_6_20 : PieceOk Try.prog env p_6_20 (.loop (loopAt b6 20)) := by
  refine loop_step (Wn := w_6_20) tab (ctxG_ok R8_ok false [] _ _) book_6_20 (pieces_sub pook_6_20_6 (by kernel_rfl)) rfl ?_ 2000 ?_
  · intro vs K h
    obtain ⟨x1, x2, x3, x4, x5, x6, x7, x8, x9, x10, x11, x12, x13, x14, x15, _, h⟩ := wiok_6_20 0 vs K h
    exact Eq.mp (zeok_6_20 x1 x2 x3 x4 x5 x6 x7 x8 x9 x10 x11 x12 x13 x14 x15 K) h
  · intro k vs K h
    obtain ⟨x1, x2, x3, x4, x5, x6, x7, x8, x9, x10, x11, x12, x13, x14, x15, rfl, h⟩ := wiok_6_20 (k + 1) vs K h
    exact Eq.mp (stok_6_20 k x1 x2 x3 x4 x5 x6 x7 x8 x9 x10 x11 x12 x13 x14 x15 K) h
theorem pook_6_17_6 : PiecesOk Try.prog env (ctxG env false [] R8 [(6, [(20, p_6_20)])] []) 6 b6 :=
  pieces_at (L := [(20, p_6_20)]) (S := []) (fun _ => rfl) (fun _ => rfl) (by kernel_rfl) (by kernel_rfl) (List.forall_mem_cons.2 ⟨fun _ => ok_6_20, (fun _ hq => by cases hq)⟩) (fun _ hq => by cases hq)
theorem book_6_17 : BodiesOk Try.prog env (ctxG env false [] R8 [(6, [(20, p_6_20)])] []) := bodies_okG (ks := [6]) (by kernel_rfl) (List.forall_mem_cons.2 ⟨body_at (fn := f6) (body := b6) rfl hb6 pook_6_17_6, (fun _ hq => by cases hq)⟩)
theorem stok_6_17 (k : Nat) (x1 : Int) (x2 : Bool) (x3 : Bool) (x4 : Int) (x5 : (List Packet)) (x6 : Int) (x7 : Int) (x8 : Int) (x9 : Int) (x10 : Int) (x11 : Int) (x12 : (List (List Queued))) (x13 : (List Int)) (x14 : Int) (K : Ex → List (SV env.T) → Prop) : l_6_17 (k + 1) x1 x2 x3 x4 x5 x6 x7 x8 x9 x10 x11 x12 x13 x14 (fun y1 => K .ret [.bool y1]) (fun y1 y2 => K (.exit 2) [.bool y1, .bool y2]) = vcCode env (ctxG env false [] R8 [(6, [(20, p_6_20)])] []) 2000 6 (loopAt b6 17) (insSt p_6_17.head [.int .i64 x1, .bool x2, .bool x3, .int .i64 x4, .dat 30 x5, .int .i64 x6, .int .i64 x7, .int .i64 x8, .int .i64 x9, .int .i64 x10, .int .i64 x11, .dat 43 x12, .arr .i64 8 x13, .int .u64 x14]) (stepK p_6_17 (w_6_17 k) K) := by kernel_rfl
theorem wiok_6_17 (k : Nat) (vs : List (SV env.T)) (K : Ex → List (SV env.T) → Prop) (h : w_6_17 k vs K) : ∃ x1 : Int, ∃ x2 : Bool, ∃ x3 : Bool, ∃ x4 : Int, ∃ x5 : (List Packet), ∃ x6 : Int, ∃ x7 : Int, ∃ x8 : Int, ∃ x9 : Int, ∃ x10 : Int, ∃ x11 : Int, ∃ x12 : (List (List Queued)), ∃ x13 : (List Int), ∃ x14 : Int, vs = [.int .i64 x1, .bool x2, .bool x3, .int .i64 x4, .dat 30 x5, .int .i64 x6, .int .i64 x7, .int .i64 x8, .int .i64 x9, .int .i64 x10, .int .i64 x11, .dat 43 x12, .arr .i64 8 x13, .int .u64 x14] ∧ l_6_17 k x1 x2 x3 x4 x5 x6 x7 x8 x9 x10 x11 x12 x13 x14 (fun y1 => K .ret [.bool y1]) (fun y1 y2 => K (.exit 2) [.bool y1, .bool y2]) := by
  unfold w_6_17 at h
  replace h := dCI_spec h
  obtain ⟨x1, vs0, e0, h⟩ := h
  replace h := dCB_spec h
  obtain ⟨x2, vs1, e1, h⟩ := h
  replace h := dCB_spec h
  obtain ⟨x3, vs2, e2, h⟩ := h
  replace h := dCI_spec h
  obtain ⟨x4, vs3, e3, h⟩ := h
  replace h := dCD_spec h
  obtain ⟨x5, vs4, e4, h⟩ := h
  replace h := dCI_spec h
  obtain ⟨x6, vs5, e5, h⟩ := h
  replace h := dCI_spec h
  obtain ⟨x7, vs6, e6, h⟩ := h
  replace h := dCI_spec h
  obtain ⟨x8, vs7, e7, h⟩ := h
  replace h := dCI_spec h
  obtain ⟨x9, vs8, e8, h⟩ := h
  replace h := dCI_spec h
  obtain ⟨x10, vs9, e9, h⟩ := h
  replace h := dCI_spec h
  obtain ⟨x11, vs10, e10, h⟩ := h
  replace h := dCD_spec h
  obtain ⟨x12, vs11, e11, h⟩ := h
  replace h := dCA_spec h
  obtain ⟨x13, vs12, e12, h⟩ := h
  replace h := dCI_spec h
  obtain ⟨x14, vs13, e13, h⟩ := h
  replace h := dCE_spec h
  obtain ⟨e, h⟩ := h
  exact ⟨x1, x2, x3, x4, x5, x6, x7, x8, x9, x10, x11, x12, x13, x14, by rw [e0, e1, e2, e3, e4, e5, e6, e7, e8, e9, e10, e11, e12, e13, e], h⟩
theorem zeok_6_17 (x1 : Int) (x2 : Bool) (x3 : Bool) (x4 : Int) (x5 : (List Packet)) (x6 : Int) (x7 : Int) (x8 : Int) (x9 : Int) (x10 : Int) (x11 : Int) (x12 : (List (List Queued))) (x13 : (List Int)) (x14 : Int) (K : Ex → List (SV env.T) → Prop) : l_6_17 0 x1 x2 x3 x4 x5 x6 x7 x8 x9 x10 x11 x12 x13 x14 (fun y1 => K .ret [.bool y1]) (fun y1 y2 => K (.exit 2) [.bool y1, .bool y2]) = False := by kernel_rfl
theorem ok_6_17 : PieceOk Try.prog env p_6_17 (.loop (loopAt b6 17)) := by
  refine loop_step (Wn := w_6_17) tab (ctxG_ok R8_ok false [] _ _) book_6_17 (pieces_sub pook_6_17_6 (by kernel_rfl)) rfl ?_ 2000 ?_
  · intro vs K h
    obtain ⟨x1, x2, x3, x4, x5, x6, x7, x8, x9, x10, x11, x12, x13, x14, _, h⟩ := wiok_6_17 0 vs K h
    exact Eq.mp (zeok_6_17 x1 x2 x3 x4 x5 x6 x7 x8 x9 x10 x11 x12 x13 x14 K) h
  · intro k vs K h
    obtain ⟨x1, x2, x3, x4, x5, x6, x7, x8, x9, x10, x11, x12, x13, x14, rfl, h⟩ := wiok_6_17 (k + 1) vs K h
    exact Eq.mp (stok_6_17 k x1 x2 x3 x4 x5 x6 x7 x8 x9 x10 x11 x12 x13 x14 K) h
theorem pooq_6_16_6 : PiecesOk Try.prog env (ctxG env false [] R8 [(6, [(20, p_6_20), (17, p_6_17)])] []) 6 b6 :=
  pieces_at (L := [(20, p_6_20), (17, p_6_17)]) (S := []) (fun _ => rfl) (fun _ => rfl) (by kernel_rfl) (by kernel_rfl) (List.forall_mem_cons.2 ⟨fun _ => ok_6_20, (List.forall_mem_cons.2 ⟨fun _ => ok_6_17, (fun _ hq => by cases hq)⟩)⟩) (fun _ hq => by cases hq)
theorem booq_6_16 : BodiesOk Try.prog env (ctxG env false [] R8 [(6, [(20, p_6_20), (17, p_6_17)])] []) := bodies_okG (ks := [6]) (by kernel_rfl) (List.forall_mem_cons.2 ⟨body_at (fn := f6) (body := b6) rfl hb6 pooq_6_16_6, (fun _ hq => by cases hq)⟩)
theorem stoq_6_16 (x1 : Int) (x2 : Bool) (x3 : Bool) (x4 : Int) (x5 : (List Packet)) (x6 : Int) (x7 : Int) (x8 : Int) (x9 : Int) (x10 : Int) (x11 : (List (List Queued))) (x12 : (List Int)) (x13 : Int) (K : Ex → List (SV env.T) → Prop) : s_6_16  x1 x2 x3 x4 x5 x6 x7 x8 x9 x10 x11 x12 x13 (fun y1 => K .ret [.bool y1]) = vcCode env (ctxG env false [] R8 [(6, [(20, p_6_20), (17, p_6_17)])] []) 2000 6 (seqAt b6 16) (insSt q_6_16.head [.int .i64 x1, .bool x2, .bool x3, .int .i64 x4, .dat 30 x5, .int .i64 x6, .int .i64 x7, .int .i64 x8, .int .i64 x9, .int .i64 x10, .dat 43 x11, .arr .i64 8 x12, .int .u64 x13]) (outP env q_6_16 K) := by kernel_rfl
theorem wioq_6_16 (vs : List (SV env.T)) (K : Ex → List (SV env.T) → Prop) (h : v_6_16 vs K) : ∃ x1 : Int, ∃ x2 : Bool, ∃ x3 : Bool, ∃ x4 : Int, ∃ x5 : (List Packet), ∃ x6 : Int, ∃ x7 : Int, ∃ x8 : Int, ∃ x9 : Int, ∃ x10 : Int, ∃ x11 : (List (List Queued)), ∃ x12 : (List Int), ∃ x13 : Int, vs = [.int .i64 x1, .bool x2, .bool x3, .int .i64 x4, .dat 30 x5, .int .i64 x6, .int .i64 x7, .int .i64 x8, .int .i64 x9, .int .i64 x10, .dat 43 x11, .arr .i64 8 x12, .int .u64 x13] ∧ s_6_16  x1 x2 x3 x4 x5 x6 x7 x8 x9 x10 x11 x12 x13 (fun y1 => K .ret [.bool y1]) := by
  unfold v_6_16 at h
  replace h := dCI_spec h
  obtain ⟨x1, vs0, e0, h⟩ := h
  replace h := dCB_spec h
  obtain ⟨x2, vs1, e1, h⟩ := h
  replace h := dCB_spec h
  obtain ⟨x3, vs2, e2, h⟩ := h
  replace h := dCI_spec h
  obtain ⟨x4, vs3, e3, h⟩ := h
  replace h := dCD_spec h
  obtain ⟨x5, vs4, e4, h⟩ := h
  replace h := dCI_spec h
  obtain ⟨x6, vs5, e5, h⟩ := h
  replace h := dCI_spec h
  obtain ⟨x7, vs6, e6, h⟩ := h
  replace h := dCI_spec h
  obtain ⟨x8, vs7, e7, h⟩ := h
  replace h := dCI_spec h
  obtain ⟨x9, vs8, e8, h⟩ := h
  replace h := dCI_spec h
  obtain ⟨x10, vs9, e9, h⟩ := h
  replace h := dCD_spec h
  obtain ⟨x11, vs10, e10, h⟩ := h
  replace h := dCA_spec h
  obtain ⟨x12, vs11, e11, h⟩ := h
  replace h := dCI_spec h
  obtain ⟨x13, vs12, e12, h⟩ := h
  replace h := dCE_spec h
  obtain ⟨e, h⟩ := h
  exact ⟨x1, x2, x3, x4, x5, x6, x7, x8, x9, x10, x11, x12, x13, by rw [e0, e1, e2, e3, e4, e5, e6, e7, e8, e9, e10, e11, e12, e], h⟩
theorem oq_6_16 : PieceOk Try.prog env q_6_16 (seqAt b6 16) := by
  refine seq_step tab (ctxG_ok R8_ok false [] _ _) booq_6_16 (pieces_subS pooq_6_16_6 (by kernel_rfl)) 2000 ?_
  intro vs K h
  obtain ⟨x1, x2, x3, x4, x5, x6, x7, x8, x9, x10, x11, x12, x13, rfl, h⟩ := wioq_6_16 vs K h
  exact Eq.mp (stoq_6_16 x1 x2 x3 x4 x5 x6 x7 x8 x9 x10 x11 x12 x13 K) h
theorem pooq_6_4_6 : PiecesOk Try.prog env (ctxG env false [] R8 [(6, [(6, p_6_6), (20, p_6_20), (17, p_6_17)])] [(6, [(16, q_6_16)])]) 6 b6 :=
  pieces_at (L := [(6, p_6_6), (20, p_6_20), (17, p_6_17)]) (S := [(16, q_6_16)]) (fun _ => rfl) (fun _ => rfl) (by kernel_rfl) (by kernel_rfl) (List.forall_mem_cons.2 ⟨fun _ => ok_6_6, (List.forall_mem_cons.2 ⟨fun _ => ok_6_20, (List.forall_mem_cons.2 ⟨fun _ => ok_6_17, (fun _ hq => by cases hq)⟩)⟩)⟩) (List.forall_mem_cons.2 ⟨fun _ => oq_6_16, (fun _ hq => by cases hq)⟩)
theorem booq_6_4 : BodiesOk Try.prog env (ctxG env false [] R8 [(6, [(6, p_6_6), (20, p_6_20), (17, p_6_17)])] [(6, [(16, q_6_16)])]) := bodies_okG (ks := [6]) (by kernel_rfl) (List.forall_mem_cons.2 ⟨body_at (fn := f6) (body := b6) rfl hb6 pooq_6_4_6, (fun _ hq => by cases hq)⟩)
theorem stoq_6_4 (x1 : Int) (x2 : (List Packet)) (x3 : Int) (x4 : Bool) (x5 : Bool) (K : Ex → List (SV env.T) → Prop) : s_6_4  x1 x2 x3 x4 x5 (fun y1 => K .ret [.bool y1]) = vcCode env (ctxG env false [] R8 [(6, [(6, p_6_6), (20, p_6_20), (17, p_6_17)])] [(6, [(16, q_6_16)])]) 2000 6 (seqAt b6 4) (insSt q_6_4.head [.int .i64 x1, .dat 30 x2, .int .i64 x3, .bool x4, .bool x5]) (outP env q_6_4 K) := by kernel_rfl
theorem wioq_6_4 (vs : List (SV env.T)) (K : Ex → List (SV env.T) → Prop) (h : v_6_4 vs K) : ∃ x1 : Int, ∃ x2 : (List Packet), ∃ x3 : Int, ∃ x4 : Bool, ∃ x5 : Bool, vs = [.int .i64 x1, .dat 30 x2, .int .i64 x3, .bool x4, .bool x5] ∧ s_6_4  x1 x2 x3 x4 x5 (fun y1 => K .ret [.bool y1]) := by
  unfold v_6_4 at h
  replace h := dCI_spec h
  obtain ⟨x1, vs0, e0, h⟩ := h
  replace h := dCD_spec h
  obtain ⟨x2, vs1, e1, h⟩ := h
  replace h := dCI_spec h
  obtain ⟨x3, vs2, e2, h⟩ := h
  replace h := dCB_spec h
  obtain ⟨x4, vs3, e3, h⟩ := h
  replace h := dCB_spec h
  obtain ⟨x5, vs4, e4, h⟩ := h
  replace h := dCE_spec h
  obtain ⟨e, h⟩ := h
  exact ⟨x1, x2, x3, x4, x5, by rw [e0, e1, e2, e3, e4, e], h⟩
theorem oq_6_4 : PieceOk Try.prog env q_6_4 (seqAt b6 4) := by
  refine seq_step tab (ctxG_ok R8_ok false [] _ _) booq_6_4 (pieces_subS pooq_6_4_6 (by kernel_rfl)) 2000 ?_
  intro vs K h
  obtain ⟨x1, x2, x3, x4, x5, rfl, h⟩ := wioq_6_4 vs K h
  exact Eq.mp (stoq_6_4 x1 x2 x3 x4 x5 K) h
theorem po_6_6 : PiecesOk Try.prog env (ctxG env false [] R8 [(6, [(6, p_6_6), (20, p_6_20), (17, p_6_17)])] [(6, [(16, q_6_16), (4, q_6_4)])]) 6 b6 :=
  pieces_at (L := [(6, p_6_6), (20, p_6_20), (17, p_6_17)]) (S := [(16, q_6_16), (4, q_6_4)]) (fun _ => rfl) (fun _ => rfl) (by kernel_rfl) (by kernel_rfl) (List.forall_mem_cons.2 ⟨fun _ => ok_6_6, (List.forall_mem_cons.2 ⟨fun _ => ok_6_20, (List.forall_mem_cons.2 ⟨fun _ => ok_6_17, (fun _ hq => by cases hq)⟩)⟩)⟩) (List.forall_mem_cons.2 ⟨fun _ => oq_6_16, (List.forall_mem_cons.2 ⟨fun _ => oq_6_4, (fun _ hq => by cases hq)⟩)⟩)
theorem bo_6 : BodiesOk Try.prog env (ctxG env false [] R8 [(6, [(6, p_6_6), (20, p_6_20), (17, p_6_17)])] [(6, [(16, q_6_16), (4, q_6_4)])]) := bodies_okG (ks := [6]) (by kernel_rfl) (List.forall_mem_cons.2 ⟨body_at (fn := f6) (body := b6) rfl hb6 po_6_6, (fun _ hq => by cases hq)⟩)
theorem eq_6 (x0 : Int) (x1 : (List Packet)) (x2 : Int) (K : Y6 → Prop) : vcCode env (ctxG env false [] R8 [(6, [(6, p_6_6), (20, p_6_20), (17, p_6_17)])] [(6, [(16, q_6_16), (4, q_6_4)])]) 2000 6 b6 (entry env f6 [v3 x0, v33 x1, v3 x2]) (finR env f6 decR6 K) = B6 x0 x1 x2 K := by kernel_rfl
noncomputable def rule6 : Nat × Rule env := (6, ruleF env decA6 encR6 fun x => V6 x.1 x.2.1 x.2.2)
theorem r6 : RuleOk Try.prog env 6 rule6.2 :=
  rule_fun tab (ctxG_ok R8_ok false [] _ _) bo_6 (f := 6) (fn := f6) rfl hb6 po_6_6 2000 encA6 hA6 hR6 hD6 (fun _ => of_decide_eq_true (by kernel_rfl)) (fun x K => (eq_6 x.1 x.2.1 x.2.2 K).trans (by rw [V6_eq]))
noncomputable def R6 : List (Nat × Rule env) := rule6 :: R8
theorem R6_ok : AllOk Try.prog env R6 := ⟨r6, R8_ok⟩
end Go.Vg.Ytgekegoflaichaa
