/-
  Walked functions of the program: predicate transformers and their rules. Written by a program of this work (gen.py, VgGen.lean) out of the executor's own reduction; no condition.
-/
import Derived.Test.YtkaodeodiakldaaWD
set_option maxRecDepth 100000
set_option maxHeartbeats 4000000
namespace Go.Vg.Ytkaodeodiakldaa
open Go.Vg Go.Proofs
-- 12 queuelab/workers.Merge
noncomputable def f12 : Func := Try.f12
noncomputable def b12 : Code := (Try.f12.body).getD .skip
abbrev X12 := (List Task) × (List Segment)
def encA12 (x : X12) : List (SV env.T) := [v22 x.1, v23 x.2]
def decA12 (l : List (SV env.T)) : Option X12 := match l with
  | [s0, s1] => match u22 s0, u23 s1 with
    | some x0, some x1 => some (x0, x1)
    | _, _ => none
  | _ => none
theorem hA12 (l : List (SV env.T)) (x : X12) (h : decA12 l = some x) : WkA env.has l (encA12 x) := by
  unfold decA12 at h; split at h
  · split at h
    · rename_i h0 h1; cases h; exact (.cons (u22_wk h0) (.cons (u23_wk h1) .nil))
    · cases h
  · cases h
abbrev Y12 := Segment × Int
def encR12 (x : Y12) : List (SV env.T) := [v32 x.1, v26 x.2]
def decR12 (l : List (SV env.T)) : Option Y12 := match l with
  | [s0, s1] => match u32 s0, u26 s1 with
    | some x0, some x1 => some (x0, x1)
    | _, _ => none
  | _ => none
theorem hR12 (l : List (SV env.T)) (x : Y12) (h : decR12 l = some x) : WkA env.has l (encR12 x) := by
  unfold decR12 at h; split at h
  · split at h
    · rename_i h0 h1; cases h; exact (.cons (u32_wk h0) (.cons (u26_wk h1) .nil))
    · cases h
  · cases h
theorem hD12 (y : Y12) : isDataV (tupV (encR12 y)) = true := rfl
theorem hb12 : f12.body = some b12 := by kernel_rfl
def l_12_4 : Nat → (List Task) → (List Segment) → Int → (List Segment) → Int → Int → Int → Int → Int → Int → (Int → Int → Int → Int → Int → Prop) → ((List Task) → (List Segment) → Int → Int → Int → Int → Int → Prop) → Prop
  | 0 => fun _ _ _ _ _ _ _ _ _ _ _ _ => False
  | k + 1 => fun x1 x2 x3 x4 x5 x6 x7 x8 x9 x10 kr k0 ↦ br (decide (x6 < x5)) (br (inb x6 (↑x4.length : Int)) (V24 [x4.getD x6.toNat (env.d 32)] fun y14 ↦ br (y14.snd != 0) (kr 1 0 0 0 0) (l_12_4 k x1 x2 x3 x4 x5 (IntKind.i64.wrap (x6 + 1)) x7 x8 x9 x10 kr k0)) False) (k0 x1 x2 x3 x7 x8 x9 x10)
def w_12_4 (k : Nat) (vs : List (SV env.T)) (K : Ex → List (SV env.T) → Prop) : Prop :=
  dCD 39 vs fun x1 vs => dCD 32 vs fun x2 vs => dCI .i64 vs fun x3 vs => dCD 32 vs fun x4 vs => dCI .i64 vs fun x5 vs => dCI .i64 vs fun x6 vs => dCI .i64 vs fun x7 vs => dCI .i64 vs fun x8 vs => dCI .u64 vs fun x9 vs => dCI .u64 vs fun x10 vs => dCN vs fun vs => dCE vs (l_12_4 k x1 x2 x3 x4 x5 x6 x7 x8 x9 x10 (fun y1 y2 y3 y4 y5 => K .ret [.int .i64 y1, .int .i64 y2, .int .i64 y3, .int .u64 y4, .int .u64 y5, .nils]) (fun y1 y2 y3 y4 y5 y6 y7 => K (.exit 0) [.dat 39 y1, .dat 32 y2, .int .i64 y3, .int .i64 y4, .int .i64 y5, .int .u64 y6, .int .u64 y7, .nils]))
def p_12_4 : Piece env := ⟨⟨[.holeD 39, .holeD 32, .any, .any, .ptr 0 0, .hole, .any, .any, .any, .any, .any, .any, .any, .any, .any, .any, .any, .any, .any, .any, .any, .any, .any, .any, .any, .any, .any, .holeD 32, .hole, .hole, .any, .any, .any, .any, .any, .any, .any, .any, .any, .any, .any, .any, .any, .any, .any, .any, .any, .any, .any, .any, .any, .any, .any, .any, .any, .any, .any, .any, .any, .any, .any, .any, .any, .any, .any, .any, .any, .any, .any, .any, .any, .any, .any, .any, .any, .any, .any, .any, .any, .any, .any, .any, .any, .any, .any, .any, .any, .any, .any, .any, .any, .any, .any, .any, .any, .any, .any, .any, .any, .any, .any, .any], [], [(0, .cells 32 [.hole, .hole, .hole, .hole, .hole])], 1⟩, exitF none [(0, ⟨[.holeD 39, .holeD 32, .any, .any, .ptr 0 0, .hole, .any, .any, .any, .any, .any, .any, .any, .any, .any, .any, .any, .any, .any, .any, .any, .any, .any, .any, .any, .any, .any, .any, .any, .any, .any, .any, .any, .any, .any, .any, .any, .any, .any, .any, .any, .any, .any, .any, .any, .any, .any, .any, .any, .any, .any, .any, .any, .any, .any, .any, .any, .any, .any, .any, .any, .any, .any, .any, .any, .any, .any, .any, .any, .any, .any, .any, .any, .any, .any, .any, .any, .any, .any, .any, .any, .any, .any, .any, .any, .any, .any, .any, .any, .any, .any, .any, .any, .any, .any, .any, .any, .any, .any, .any, .any, .any], [], [(0, .cells 32 [.hole, .hole, .hole, .hole, .hole])], 1⟩)] (some ⟨[.any, .any, .any, .any, .ptr 0 0, .hole, .any, .any, .any, .any, .any, .any, .any, .any, .any, .any, .any, .any, .any, .any, .any, .any, .any, .any, .any, .any, .any, .any, .any, .any, .any, .any, .any, .any, .any, .any, .any, .any, .any, .any, .any, .any, .any, .any, .any, .any, .any, .any, .any, .any, .any, .any, .any, .any, .any, .any, .any, .any, .any, .any, .any, .any, .any, .any, .any, .any, .any, .any, .any, .any, .any, .any, .any, .any, .any, .any, .any, .any, .any, .any, .any, .any, .any, .any, .any, .any, .any, .any, .any, .any, .any, .any, .any, .any, .any, .any, .any, .any, .any, .any, .any, .any], [], [(0, .cells 32 [.hole, .hole, .hole, .hole, .hole])], 1⟩), fun vs K => ∃ k, w_12_4 k vs K⟩
def l_12_13 : Nat → (List Task) → (List Segment) → Int → (List Segment) → Int → Int → Int → Int → Int → Int → (List (stretch × Int)) → (Int → Int → Int → Int → Int → Prop) → ((List Task) → (List Segment) → Int → Int → Int → Int → Int → (List (stretch × Int)) → Prop) → Prop
  | 0 => fun _ _ _ _ _ _ _ _ _ _ _ _ _ => False
  | k + 1 => fun x1 x2 x3 x4 x5 x6 x7 x8 x9 x10 x11 kr k2 ↦ br (decide (x6 < x5)) (br (inb x6 (↑x4.length : Int)) (br (!mHas (keyEq env 59 (stretch.mk (x4.getD x6.toNat (env.d 32)).from_ (x4.getD x6.toNat (env.d 32)).to_)) x11) (kr 18 0 0 0 0) (l_12_13 k x1 x2 x3 x4 x5 (IntKind.i64.wrap (x6 + 1)) x7 x8 x9 x10 x11 kr k2)) False) (k2 x1 x2 x3 x7 x8 x9 x10 x11)
def w_12_13 (k : Nat) (vs : List (SV env.T)) (K : Ex → List (SV env.T) → Prop) : Prop :=
  dCD 39 vs fun x1 vs => dCD 32 vs fun x2 vs => dCI .i64 vs fun x3 vs => dCD 32 vs fun x4 vs => dCI .i64 vs fun x5 vs => dCI .i64 vs fun x6 vs => dCI .i64 vs fun x7 vs => dCI .i64 vs fun x8 vs => dCI .u64 vs fun x9 vs => dCI .u64 vs fun x10 vs => dCN vs fun vs => dCM 59 3 vs fun x11 vs => dCE vs (l_12_13 k x1 x2 x3 x4 x5 x6 x7 x8 x9 x10 x11 (fun y1 y2 y3 y4 y5 => K .ret [.int .i64 y1, .int .i64 y2, .int .i64 y3, .int .u64 y4, .int .u64 y5, .nils]) (fun y1 y2 y3 y4 y5 y6 y7 y8 => K (.exit 2) [.dat 39 y1, .dat 32 y2, .int .i64 y3, .int .i64 y4, .int .i64 y5, .int .u64 y6, .int .u64 y7, .nils, .mdat 59 3 y8]))
def p_12_13 : Piece env := ⟨⟨[.holeD 39, .holeD 32, .any, .any, .ptr 0 0, .hole, .any, .any, .any, .any, .ptr 1 0, .ptr 2 0, .any, .any, .any, .any, .any, .any, .any, .any, .any, .any, .any, .any, .any, .any, .any, .any, .any, .any, .any, .any, .any, .any, .any, .any, .any, .any, .any, .any, .any, .any, .any, .any, .any, .any, .holeD 32, .hole, .hole, .any, .any, .any, .any, .any, .any, .any, .any, .any, .any, .any, .any, .any, .any, .any, .any, .any, .any, .any, .any, .any, .any, .any, .any, .any, .any, .any, .any, .any, .any, .any, .any, .any, .any, .any, .any, .any, .any, .any, .any, .any, .any, .any, .any, .any, .any, .any, .any, .any, .any, .any, .any, .any], [], [(0, .cells 32 [.hole, .hole, .hole, .hole, .hole]), (1, .cells 63 [.hole]), (2, .cells 65 [.fn 26 [.ptr 1 0]])], 3⟩, exitF none [(2, ⟨[.holeD 39, .holeD 32, .any, .any, .ptr 0 0, .hole, .any, .any, .any, .any, .any, .ptr 1 0, .any, .any, .any, .any, .any, .any, .any, .any, .any, .any, .any, .any, .any, .any, .any, .any, .any, .any, .any, .any, .any, .any, .any, .any, .any, .any, .any, .any, .any, .any, .any, .any, .any, .any, .any, .any, .any, .any, .any, .any, .any, .any, .any, .any, .any, .any, .any, .any, .any, .any, .any, .any, .any, .any, .any, .any, .any, .any, .any, .any, .any, .any, .any, .any, .any, .any, .any, .any, .any, .any, .any, .any, .any, .any, .any, .any, .any, .any, .any, .any, .any, .any, .any, .any, .any, .any, .any, .any, .any, .any], [], [(0, .cells 32 [.hole, .hole, .hole, .hole, .hole]), (1, .cells 65 [.fn 26 [.ptr 2 0]]), (2, .cells 63 [.hole])], 3⟩)] (some ⟨[.any, .any, .any, .any, .ptr 0 0, .hole, .any, .any, .any, .any, .any, .any, .any, .any, .any, .any, .any, .any, .any, .any, .any, .any, .any, .any, .any, .any, .any, .any, .any, .any, .any, .any, .any, .any, .any, .any, .any, .any, .any, .any, .any, .any, .any, .any, .any, .any, .any, .any, .any, .any, .any, .any, .any, .any, .any, .any, .any, .any, .any, .any, .any, .any, .any, .any, .any, .any, .any, .any, .any, .any, .any, .any, .any, .any, .any, .any, .any, .any, .any, .any, .any, .any, .any, .any, .any, .any, .any, .any, .any, .any, .any, .any, .any, .any, .any, .any, .any, .any, .any, .any, .any, .any], [], [(0, .cells 32 [.hole, .hole, .hole, .hole, .hole])], 1⟩), fun vs K => ∃ k, w_12_13 k vs K⟩
def l_12_21 : Nat → (List Task) → (List Segment) → Int → (List (stretch × Int)) → (List Segment) → Int → Int → Int → Int → Int → Int → (Int → Int → Int → Int → Int → Prop) → ((List Task) → (List Segment) → Int → (List Segment) → Int → Int → Int → Int → Prop) → Prop
  | 0 => fun _ _ _ _ _ _ _ _ _ _ _ _ _ => False
  | k + 1 => fun x1 x2 x3 x4 x5 x6 x7 x8 x9 x10 x11 kr k4 ↦ br (decide (x7 < x6)) (br (inb x7 (↑x5.length : Int)) (∃ k15, (V26 (x5.getD x7.toNat (env.d 32)) x4 fun y16 ↦ tupV (encR26 y16) = tupV (encR26 k15)) ∧ br (inb (IntKind.i64.wrap (x7 + 1)) (↑x5.length : Int)) (∃ k16, (V26 (x5.getD (IntKind.i64.wrap (x7 + 1)).toNat (env.d 32)) x4 fun y17 ↦ tupV (encR26 y17) = tupV (encR26 k16)) ∧ br (k15 == k16) (kr 5 0 0 0 0) (l_12_21 k x1 x2 x3 x4 x5 x6 (IntKind.i64.wrap (x7 + 1)) x8 x9 x10 x11 kr k4)) False) False) (k4 x1 x2 x3 x5 x8 x9 x10 x11)
def w_12_21 (k : Nat) (vs : List (SV env.T)) (K : Ex → List (SV env.T) → Prop) : Prop :=
  dCD 39 vs fun x1 vs => dCD 32 vs fun x2 vs => dCI .i64 vs fun x3 vs => dCM 59 3 vs fun x4 vs => dCD 32 vs fun x5 vs => dCI .i64 vs fun x6 vs => dCI .i64 vs fun x7 vs => dCI .i64 vs fun x8 vs => dCI .i64 vs fun x9 vs => dCI .u64 vs fun x10 vs => dCI .u64 vs fun x11 vs => dCN vs fun vs => dCE vs (l_12_21 k x1 x2 x3 x4 x5 x6 x7 x8 x9 x10 x11 (fun y1 y2 y3 y4 y5 => K .ret [.int .i64 y1, .int .i64 y2, .int .i64 y3, .int .u64 y4, .int .u64 y5, .nils]) (fun y1 y2 y3 y4 y5 y6 y7 y8 => K (.exit 4) [.dat 39 y1, .dat 32 y2, .int .i64 y3, .dat 32 y4, .int .i64 y5, .int .i64 y6, .int .u64 y7, .int .u64 y8, .nils]))
def p_12_21 : Piece env := ⟨⟨[.holeD 39, .holeD 32, .any, .any, .ptr 0 0, .hole, .any, .any, .any, .any, .any, .boxd 65 [.fn 26 [.boxd 63 [.hole] 0]] 0, .any, .any, .any, .any, .holeD 32, .any, .any, .any, .any, .any, .any, .any, .any, .any, .any, .any, .any, .any, .any, .any, .any, .any, .any, .any, .any, .any, .any, .any, .any, .any, .any, .any, .any, .any, .any, .any, .any, .any, .any, .any, .any, .any, .any, .any, .any, .any, .any, .any, .any, .any, .any, .any, .any, .any, .any, .any, .any, .any, .any, .any, .hole, .hole, .any, .any, .any, .any, .any, .any, .any, .any, .any, .any, .any, .any, .any, .any, .any, .any, .any, .any, .any, .any, .any, .any, .any, .any, .any, .any, .any, .any], [], [(0, .cells 32 [.hole, .hole, .hole, .hole, .hole])], 1⟩, exitF none [(4, ⟨[.holeD 39, .holeD 32, .any, .any, .ptr 0 0, .hole, .any, .any, .any, .any, .any, .any, .any, .any, .any, .any, .holeD 32, .any, .any, .any, .any, .any, .any, .any, .any, .any, .any, .any, .any, .any, .any, .any, .any, .any, .any, .any, .any, .any, .any, .any, .any, .any, .any, .any, .any, .any, .any, .any, .any, .any, .any, .any, .any, .any, .any, .any, .any, .any, .any, .any, .any, .any, .any, .any, .any, .any, .any, .any, .any, .any, .any, .any, .any, .any, .any, .any, .any, .any, .any, .any, .any, .any, .any, .any, .any, .any, .any, .any, .any, .any, .any, .any, .any, .any, .any, .any, .any, .any, .any, .any, .any, .any], [], [(0, .cells 32 [.hole, .hole, .hole, .hole, .hole])], 1⟩)] (some ⟨[.any, .any, .any, .any, .ptr 0 0, .hole, .any, .any, .any, .any, .any, .any, .any, .any, .any, .any, .any, .any, .any, .any, .any, .any, .any, .any, .any, .any, .any, .any, .any, .any, .any, .any, .any, .any, .any, .any, .any, .any, .any, .any, .any, .any, .any, .any, .any, .any, .any, .any, .any, .any, .any, .any, .any, .any, .any, .any, .any, .any, .any, .any, .any, .any, .any, .any, .any, .any, .any, .any, .any, .any, .any, .any, .any, .any, .any, .any, .any, .any, .any, .any, .any, .any, .any, .any, .any, .any, .any, .any, .any, .any, .any, .any, .any, .any, .any, .any, .any, .any, .any, .any, .any, .any], [], [(0, .cells 32 [.hole, .hole, .hole, .hole, .hole])], 1⟩), fun vs K => ∃ k, w_12_21 k vs K⟩
def s_12_3 : (List Task) → (List Segment) → Int → Int → Int → Int → Int → (Int → Int → Int → Int → Int → (List Record) → Prop) → Prop :=
  fun x1 x2 x3 x4 x5 x6 x7 kr ↦ ∃ k10, l_12_4 k10 x1 x2 x3 x2 (↑x2.length : Int) 0 x4 x5 x6 x7 (fun y11 y12 y13 y14 y15 ↦ kr y11 y12 y13 y14 y15 []) fun y11 y12 y13 y14 y15 y16 y17 ↦ V25 y11 fun y18 ↦ ∃ k19, l_12_13 k19 y11 y12 y13 y12 (↑y12.length : Int) 0 y14 y15 y16 y17 y18 (fun y20 y21 y22 y23 y24 ↦ kr y20 y21 y22 y23 y24 []) fun y20 y21 y22 y23 y24 y25 y26 y27 ↦ V28 y21 fun y28 ↦ V27 y28 y27 fun y29 ↦ ∃ k30, l_12_21 k30 y20 y21 y22 y27 y29 (IntKind.i64.wrap ((↑(List.length y29) : Int) - 1)) 0 y23 y24 y25 y26 (fun y31 y32 y33 y34 y35 ↦ kr y31 y32 y33 y34 y35 []) fun y31 y32 _ y34 _ _ _ _ ↦ br (decide ((↑y32.length : Int) < (↑y31.length : Int))) (kr 4 0 0 0 0 []) (V24 y34 fun y39 ↦ kr y39.snd y39.fst.from_ y39.fst.to_ y39.fst.begin_ y39.fst.end_ y39.fst.records)
def v_12_3 (vs : List (SV env.T)) (K : Ex → List (SV env.T) → Prop) : Prop :=
  dCD 39 vs fun x1 vs => dCD 32 vs fun x2 vs => dCI .i64 vs fun x3 vs => dCI .i64 vs fun x4 vs => dCI .i64 vs fun x5 vs => dCI .u64 vs fun x6 vs => dCI .u64 vs fun x7 vs => dCN vs fun vs => dCE vs (s_12_3 x1 x2 x3 x4 x5 x6 x7 (fun y1 y2 y3 y4 y5 y6 => K .ret [.int .i64 y1, .int .i64 y2, .int .i64 y3, .int .u64 y4, .int .u64 y5, .dat 50 y6]))
def q_12_3 : Piece env := ⟨⟨[.holeD 39, .holeD 32, .any, .any, .ptr 0 0, .hole, .any, .any, .any, .any, .any, .any, .any, .any, .any, .any, .any, .any, .any, .any, .any, .any, .any, .any, .any, .any, .any, .any, .any, .any, .any, .any, .any, .any, .any, .any, .any, .any, .any, .any, .any, .any, .any, .any, .any, .any, .any, .any, .any, .any, .any, .any, .any, .any, .any, .any, .any, .any, .any, .any, .any, .any, .any, .any, .any, .any, .any, .any, .any, .any, .any, .any, .any, .any, .any, .any, .any, .any, .any, .any, .any, .any, .any, .any, .any, .any, .any, .any, .any, .any, .any, .any, .any, .any, .any, .any, .any, .any, .any, .any, .any, .any], [], [(0, .cells 32 [.hole, .hole, .hole, .hole, .hole])], 1⟩, exitF none [] (some ⟨[.any, .any, .any, .any, .ptr 0 0, .hole, .any, .any, .any, .any, .any, .any, .any, .any, .any, .any, .any, .any, .any, .any, .any, .any, .any, .any, .any, .any, .any, .any, .any, .any, .any, .any, .any, .any, .any, .any, .any, .any, .any, .any, .any, .any, .any, .any, .any, .any, .any, .any, .any, .any, .any, .any, .any, .any, .any, .any, .any, .any, .any, .any, .any, .any, .any, .any, .any, .any, .any, .any, .any, .any, .any, .any, .any, .any, .any, .any, .any, .any, .any, .any, .any, .any, .any, .any, .any, .any, .any, .any, .any, .any, .any, .any, .any, .any, .any, .any, .any, .any, .any, .any, .any, .any], [], [(0, .cells 32 [.hole, .hole, .hole, .hole, .holeD 50])], 1⟩), v_12_3⟩
noncomputable def B12 : (List Task) → (List Segment) → (Y12 → Prop) → Prop :=
  fun x0 x1 K ↦ V23 x0 fun y3 ↦ br (!y3) (K (Segment.mk 0 0 0 0 [], 1)) (br (decide ((↑x1.length : Int) > 32)) (K (Segment.mk 0 0 0 0 [], 1)) (s_12_3 x0 x1 0 0 0 0 0 fun y4 y5 y6 y7 y8 y9 ↦ K (Segment.mk y5 y6 y7 y8 y9, y4)))
theorem V12_ex : ∃ V : (List Task) → (List Segment) → (Y12 → Prop) → Prop, V = B12 := ⟨_, rfl⟩
noncomputable def V12 : (List Task) → (List Segment) → (Y12 → Prop) → Prop := Classical.choose V12_ex
theorem V12_eq : V12 = B12 := Classical.choose_spec V12_ex
theorem pook_12_4_12 : PiecesOk Try.prog env (ctxG env false [] R27 [] []) 12 b12 :=
  pieces_at (rfIn_body (fn := f12) (b := b12) rfl hb12) (L := []) (S := []) (fun _ => rfl) (fun _ => rfl) (by kernel_rfl) (by kernel_rfl) (fun _ hq => by cases hq) (fun _ hq => by cases hq)
theorem book_12_4 : BodiesOk Try.prog env (ctxG env false [] R27 [] []) := bodies_okG (ks := []) (by kernel_rfl) (fun _ hq => by cases hq)
theorem stok_12_4 (k : Nat) (x1 : (List Task)) (x2 : (List Segment)) (x3 : Int) (x4 : (List Segment)) (x5 : Int) (x6 : Int) (x7 : Int) (x8 : Int) (x9 : Int) (x10 : Int) (K : Ex → List (SV env.T) → Prop) : l_12_4 (k + 1) x1 x2 x3 x4 x5 x6 x7 x8 x9 x10 (fun y1 y2 y3 y4 y5 => K .ret [.int .i64 y1, .int .i64 y2, .int .i64 y3, .int .u64 y4, .int .u64 y5, .nils]) (fun y1 y2 y3 y4 y5 y6 y7 => K (.exit 0) [.dat 39 y1, .dat 32 y2, .int .i64 y3, .int .i64 y4, .int .i64 y5, .int .u64 y6, .int .u64 y7, .nils]) = vcCode env (ctxG env false [] R27 [] []) 2000 12 (loopAt b12 4) (insSt p_12_4.head [.dat 39 x1, .dat 32 x2, .int .i64 x3, .dat 32 x4, .int .i64 x5, .int .i64 x6, .int .i64 x7, .int .i64 x8, .int .u64 x9, .int .u64 x10, .nils]) (stepK p_12_4 (w_12_4 k) K) := by kernel_rfl
theorem wiok_12_4 (k : Nat) (vs : List (SV env.T)) (K : Ex → List (SV env.T) → Prop) (h : w_12_4 k vs K) : ∃ x1 : (List Task), ∃ x2 : (List Segment), ∃ x3 : Int, ∃ x4 : (List Segment), ∃ x5 : Int, ∃ x6 : Int, ∃ x7 : Int, ∃ x8 : Int, ∃ x9 : Int, ∃ x10 : Int, vs = [.dat 39 x1, .dat 32 x2, .int .i64 x3, .dat 32 x4, .int .i64 x5, .int .i64 x6, .int .i64 x7, .int .i64 x8, .int .u64 x9, .int .u64 x10, .nils] ∧ l_12_4 k x1 x2 x3 x4 x5 x6 x7 x8 x9 x10 (fun y1 y2 y3 y4 y5 => K .ret [.int .i64 y1, .int .i64 y2, .int .i64 y3, .int .u64 y4, .int .u64 y5, .nils]) (fun y1 y2 y3 y4 y5 y6 y7 => K (.exit 0) [.dat 39 y1, .dat 32 y2, .int .i64 y3, .int .i64 y4, .int .i64 y5, .int .u64 y6, .int .u64 y7, .nils]) := by
  unfold w_12_4 at h
  replace h := dCD_spec h
  obtain ⟨x1, vs0, e0, h⟩ := h
  replace h := dCD_spec h
  obtain ⟨x2, vs1, e1, h⟩ := h
  replace h := dCI_spec h
  obtain ⟨x3, vs2, e2, h⟩ := h
  replace h := dCD_spec h
  obtain ⟨x4, vs3, e3, h⟩ := h
  replace h := dCI_spec h
  obtain ⟨x5, vs4, e4, h⟩ := h
  replace h := dCI_spec h
  obtain ⟨x6, vs5, e5, h⟩ := h
  replace h := dCI_spec h
  obtain ⟨x7, vs6, e6, h⟩ := h
  replace h := dCI_spec h
  obtain ⟨x8, vs7, e7, h⟩ := h
  replace h := dCI_spec h
  obtain ⟨x9, vs8, e8, h⟩ := h
  replace h := dCI_spec h
  obtain ⟨x10, vs9, e9, h⟩ := h
  replace h := dCN_spec h
  obtain ⟨vs10, e10, h⟩ := h
  replace h := dCE_spec h
  obtain ⟨e, h⟩ := h
  exact ⟨x1, x2, x3, x4, x5, x6, x7, x8, x9, x10, by rw [e0, e1, e2, e3, e4, e5, e6, e7, e8, e9, e10, e], h⟩
theorem zeok_12_4 (x1 : (List Task)) (x2 : (List Segment)) (x3 : Int) (x4 : (List Segment)) (x5 : Int) (x6 : Int) (x7 : Int) (x8 : Int) (x9 : Int) (x10 : Int) (K : Ex → List (SV env.T) → Prop) : l_12_4 0 x1 x2 x3 x4 x5 x6 x7 x8 x9 x10 (fun y1 y2 y3 y4 y5 => K .ret [.int .i64 y1, .int .i64 y2, .int .i64 y3, .int .u64 y4, .int .u64 y5, .nils]) (fun y1 y2 y3 y4 y5 y6 y7 => K (.exit 0) [.dat 39 y1, .dat 32 y2, .int .i64 y3, .int .i64 y4, .int .i64 y5, .int .u64 y6, .int .u64 y7, .nils]) = False := by kernel_rfl
theorem ok_12_4 : PieceOk Try.prog env p_12_4 (.loop (loopAt b12 4)) := by
  refine loop_step (Wn := w_12_4) tab (ctxG_ok R27_ok false [] _ _) book_12_4 (pieces_sub pook_12_4_12 (by kernel_rfl)) rfl ?_ 2000 ?_
  · intro vs K h
    obtain ⟨x1, x2, x3, x4, x5, x6, x7, x8, x9, x10, _, h⟩ := wiok_12_4 0 vs K h
    exact Eq.mp (zeok_12_4 x1 x2 x3 x4 x5 x6 x7 x8 x9 x10 K) h
  · intro k vs K h
    obtain ⟨x1, x2, x3, x4, x5, x6, x7, x8, x9, x10, rfl, h⟩ := wiok_12_4 (k + 1) vs K h
    exact Eq.mp (stok_12_4 k x1 x2 x3 x4 x5 x6 x7 x8 x9 x10 K) h
theorem pook_12_13_12 : PiecesOk Try.prog env (ctxG env false [] R27 [] []) 12 b12 :=
  pieces_at (rfIn_body (fn := f12) (b := b12) rfl hb12) (L := []) (S := []) (fun _ => rfl) (fun _ => rfl) (by kernel_rfl) (by kernel_rfl) (fun _ hq => by cases hq) (fun _ hq => by cases hq)
theorem book_12_13 : BodiesOk Try.prog env (ctxG env false [] R27 [] []) := bodies_okG (ks := []) (by kernel_rfl) (fun _ hq => by cases hq)
theorem stok_12_13 (k : Nat) (x1 : (List Task)) (x2 : (List Segment)) (x3 : Int) (x4 : (List Segment)) (x5 : Int) (x6 : Int) (x7 : Int) (x8 : Int) (x9 : Int) (x10 : Int) (x11 : (List (stretch × Int))) (K : Ex → List (SV env.T) → Prop) : l_12_13 (k + 1) x1 x2 x3 x4 x5 x6 x7 x8 x9 x10 x11 (fun y1 y2 y3 y4 y5 => K .ret [.int .i64 y1, .int .i64 y2, .int .i64 y3, .int .u64 y4, .int .u64 y5, .nils]) (fun y1 y2 y3 y4 y5 y6 y7 y8 => K (.exit 2) [.dat 39 y1, .dat 32 y2, .int .i64 y3, .int .i64 y4, .int .i64 y5, .int .u64 y6, .int .u64 y7, .nils, .mdat 59 3 y8]) = vcCode env (ctxG env false [] R27 [] []) 2000 12 (loopAt b12 13) (insSt p_12_13.head [.dat 39 x1, .dat 32 x2, .int .i64 x3, .dat 32 x4, .int .i64 x5, .int .i64 x6, .int .i64 x7, .int .i64 x8, .int .u64 x9, .int .u64 x10, .nils, .mdat 59 3 x11]) (stepK p_12_13 (w_12_13 k) K) := by kernel_rfl
theorem wiok_12_13 (k : Nat) (vs : List (SV env.T)) (K : Ex → List (SV env.T) → Prop) (h : w_12_13 k vs K) : ∃ x1 : (List Task), ∃ x2 : (List Segment), ∃ x3 : Int, ∃ x4 : (List Segment), ∃ x5 : Int, ∃ x6 : Int, ∃ x7 : Int, ∃ x8 : Int, ∃ x9 : Int, ∃ x10 : Int, ∃ x11 : (List (stretch × Int)), vs = [.dat 39 x1, .dat 32 x2, .int .i64 x3, .dat 32 x4, .int .i64 x5, .int .i64 x6, .int .i64 x7, .int .i64 x8, .int .u64 x9, .int .u64 x10, .nils, .mdat 59 3 x11] ∧ l_12_13 k x1 x2 x3 x4 x5 x6 x7 x8 x9 x10 x11 (fun y1 y2 y3 y4 y5 => K .ret [.int .i64 y1, .int .i64 y2, .int .i64 y3, .int .u64 y4, .int .u64 y5, .nils]) (fun y1 y2 y3 y4 y5 y6 y7 y8 => K (.exit 2) [.dat 39 y1, .dat 32 y2, .int .i64 y3, .int .i64 y4, .int .i64 y5, .int .u64 y6, .int .u64 y7, .nils, .mdat 59 3 y8]) := by
  unfold w_12_13 at h
  replace h := dCD_spec h
  obtain ⟨x1, vs0, e0, h⟩ := h
  replace h := dCD_spec h
  obtain ⟨x2, vs1, e1, h⟩ := h
  replace h := dCI_spec h
  obtain ⟨x3, vs2, e2, h⟩ := h
  replace h := dCD_spec h
  obtain ⟨x4, vs3, e3, h⟩ := h
  replace h := dCI_spec h
  obtain ⟨x5, vs4, e4, h⟩ := h
  replace h := dCI_spec h
  obtain ⟨x6, vs5, e5, h⟩ := h
  replace h := dCI_spec h
  obtain ⟨x7, vs6, e6, h⟩ := h
  replace h := dCI_spec h
  obtain ⟨x8, vs7, e7, h⟩ := h
  replace h := dCI_spec h
  obtain ⟨x9, vs8, e8, h⟩ := h
  replace h := dCI_spec h
  obtain ⟨x10, vs9, e9, h⟩ := h
  replace h := dCN_spec h
  obtain ⟨vs10, e10, h⟩ := h
  replace h := dCM_spec h
  obtain ⟨x11, vs11, e11, h⟩ := h
  replace h := dCE_spec h
  obtain ⟨e, h⟩ := h
  exact ⟨x1, x2, x3, x4, x5, x6, x7, x8, x9, x10, x11, by rw [e0, e1, e2, e3, e4, e5, e6, e7, e8, e9, e10, e11, e], h⟩
theorem zeok_12_13 (x1 : (List Task)) (x2 : (List Segment)) (x3 : Int) (x4 : (List Segment)) (x5 : Int) (x6 : Int) (x7 : Int) (x8 : Int) (x9 : Int) (x10 : Int) (x11 : (List (stretch × Int))) (K : Ex → List (SV env.T) → Prop) : l_12_13 0 x1 x2 x3 x4 x5 x6 x7 x8 x9 x10 x11 (fun y1 y2 y3 y4 y5 => K .ret [.int .i64 y1, .int .i64 y2, .int .i64 y3, .int .u64 y4, .int .u64 y5, .nils]) (fun y1 y2 y3 y4 y5 y6 y7 y8 => K (.exit 2) [.dat 39 y1, .dat 32 y2, .int .i64 y3, .int .i64 y4, .int .i64 y5, .int .u64 y6, .int .u64 y7, .nils, .mdat 59 3 y8]) = False := by kernel_rfl
theorem ok_12_13 : PieceOk Try.prog env p_12_13 (.loop (loopAt b12 13)) := by
  refine loop_step (Wn := w_12_13) tab (ctxG_ok R27_ok false [] _ _) book_12_13 (pieces_sub pook_12_13_12 (by kernel_rfl)) rfl ?_ 2000 ?_
  · intro vs K h
    obtain ⟨x1, x2, x3, x4, x5, x6, x7, x8, x9, x10, x11, _, h⟩ := wiok_12_13 0 vs K h
    exact Eq.mp (zeok_12_13 x1 x2 x3 x4 x5 x6 x7 x8 x9 x10 x11 K) h
  · intro k vs K h
    obtain ⟨x1, x2, x3, x4, x5, x6, x7, x8, x9, x10, x11, rfl, h⟩ := wiok_12_13 (k + 1) vs K h
    exact Eq.mp (stok_12_13 k x1 x2 x3 x4 x5 x6 x7 x8 x9 x10 x11 K) h
theorem pook_12_21_12 : PiecesOk Try.prog env (ctxG env false [] R27 [] []) 12 b12 :=
  pieces_at (rfIn_body (fn := f12) (b := b12) rfl hb12) (L := []) (S := []) (fun _ => rfl) (fun _ => rfl) (by kernel_rfl) (by kernel_rfl) (fun _ hq => by cases hq) (fun _ hq => by cases hq)
theorem book_12_21 : BodiesOk Try.prog env (ctxG env false [] R27 [] []) := bodies_okG (ks := []) (by kernel_rfl) (fun _ hq => by cases hq)
theorem stok_12_21 (k : Nat) (x1 : (List Task)) (x2 : (List Segment)) (x3 : Int) (x4 : (List (stretch × Int))) (x5 : (List Segment)) (x6 : Int) (x7 : Int) (x8 : Int) (x9 : Int) (x10 : Int) (x11 : Int) (K : Ex → List (SV env.T) → Prop) : l_12_21 (k + 1) x1 x2 x3 x4 x5 x6 x7 x8 x9 x10 x11 (fun y1 y2 y3 y4 y5 => K .ret [.int .i64 y1, .int .i64 y2, .int .i64 y3, .int .u64 y4, .int .u64 y5, .nils]) (fun y1 y2 y3 y4 y5 y6 y7 y8 => K (.exit 4) [.dat 39 y1, .dat 32 y2, .int .i64 y3, .dat 32 y4, .int .i64 y5, .int .i64 y6, .int .u64 y7, .int .u64 y8, .nils]) = vcCode env (ctxG env false [] R27 [] []) 2000 12 (loopAt b12 21) (insSt p_12_21.head [.dat 39 x1, .dat 32 x2, .int .i64 x3, .mdat 59 3 x4, .dat 32 x5, .int .i64 x6, .int .i64 x7, .int .i64 x8, .int .i64 x9, .int .u64 x10, .int .u64 x11, .nils]) (stepK p_12_21 (w_12_21 k) K) := by kernel_rfl
theorem wiok_12_21 (k : Nat) (vs : List (SV env.T)) (K : Ex → List (SV env.T) → Prop) (h : w_12_21 k vs K) : ∃ x1 : (List Task), ∃ x2 : (List Segment), ∃ x3 : Int, ∃ x4 : (List (stretch × Int)), ∃ x5 : (List Segment), ∃ x6 : Int, ∃ x7 : Int, ∃ x8 : Int, ∃ x9 : Int, ∃ x10 : Int, ∃ x11 : Int, vs = [.dat 39 x1, .dat 32 x2, .int .i64 x3, .mdat 59 3 x4, .dat 32 x5, .int .i64 x6, .int .i64 x7, .int .i64 x8, .int .i64 x9, .int .u64 x10, .int .u64 x11, .nils] ∧ l_12_21 k x1 x2 x3 x4 x5 x6 x7 x8 x9 x10 x11 (fun y1 y2 y3 y4 y5 => K .ret [.int .i64 y1, .int .i64 y2, .int .i64 y3, .int .u64 y4, .int .u64 y5, .nils]) (fun y1 y2 y3 y4 y5 y6 y7 y8 => K (.exit 4) [.dat 39 y1, .dat 32 y2, .int .i64 y3, .dat 32 y4, .int .i64 y5, .int .i64 y6, .int .u64 y7, .int .u64 y8, .nils]) := by
  unfold w_12_21 at h
  replace h := dCD_spec h
  obtain ⟨x1, vs0, e0, h⟩ := h
  replace h := dCD_spec h
  obtain ⟨x2, vs1, e1, h⟩ := h
  replace h := dCI_spec h
  obtain ⟨x3, vs2, e2, h⟩ := h
  replace h := dCM_spec h
  obtain ⟨x4, vs3, e3, h⟩ := h
  replace h := dCD_spec h
  obtain ⟨x5, vs4, e4, h⟩ := h
  replace h := dCI_spec h
  obtain ⟨x6, vs5, e5, h⟩ := h
  replace h := dCI_spec h
  obtain ⟨x7, vs6, e6, h⟩ := h
  replace h := dCI_spec h
  obtain ⟨x8, vs7, e7, h⟩ := h
  replace h := dCI_spec h
  obtain ⟨x9, vs8, e8, h⟩ := h
  replace h := dCI_spec h
  obtain ⟨x10, vs9, e9, h⟩ := h
  replace h := dCI_spec h
  obtain ⟨x11, vs10, e10, h⟩ := h
  replace h := dCN_spec h
  obtain ⟨vs11, e11, h⟩ := h
  replace h := dCE_spec h
  obtain ⟨e, h⟩ := h
  exact ⟨x1, x2, x3, x4, x5, x6, x7, x8, x9, x10, x11, by rw [e0, e1, e2, e3, e4, e5, e6, e7, e8, e9, e10, e11, e], h⟩
theorem zeok_12_21 (x1 : (List Task)) (x2 : (List Segment)) (x3 : Int) (x4 : (List (stretch × Int))) (x5 : (List Segment)) (x6 : Int) (x7 : Int) (x8 : Int) (x9 : Int) (x10 : Int) (x11 : Int) (K : Ex → List (SV env.T) → Prop) : l_12_21 0 x1 x2 x3 x4 x5 x6 x7 x8 x9 x10 x11 (fun y1 y2 y3 y4 y5 => K .ret [.int .i64 y1, .int .i64 y2, .int .i64 y3, .int .u64 y4, .int .u64 y5, .nils]) (fun y1 y2 y3 y4 y5 y6 y7 y8 => K (.exit 4) [.dat 39 y1, .dat 32 y2, .int .i64 y3, .dat 32 y4, .int .i64 y5, .int .i64 y6, .int .u64 y7, .int .u64 y8, .nils]) = False := by kernel_rfl
theorem ok_12_21 : PieceOk Try.prog env p_12_21 (.loop (loopAt b12 21)) := by
  refine loop_step (Wn := w_12_21) tab (ctxG_ok R27_ok false [] _ _) book_12_21 (pieces_sub pook_12_21_12 (by kernel_rfl)) rfl ?_ 2000 ?_
  · intro vs K h
    obtain ⟨x1, x2, x3, x4, x5, x6, x7, x8, x9, x10, x11, _, h⟩ := wiok_12_21 0 vs K h
    exact Eq.mp (zeok_12_21 x1 x2 x3 x4 x5 x6 x7 x8 x9 x10 x11 K) h
  · intro k vs K h
    obtain ⟨x1, x2, x3, x4, x5, x6, x7, x8, x9, x10, x11, rfl, h⟩ := wiok_12_21 (k + 1) vs K h
    exact Eq.mp (stok_12_21 k x1 x2 x3 x4 x5 x6 x7 x8 x9 x10 x11 K) h
theorem pooq_12_3_12 : PiecesOk Try.prog env (ctxG env false [] R27 [(12, [(4, p_12_4), (13, p_12_13), (21, p_12_21)])] []) 12 b12 :=
  pieces_at (rfIn_body (fn := f12) (b := b12) rfl hb12) (L := [(4, p_12_4), (13, p_12_13), (21, p_12_21)]) (S := []) (fun _ => rfl) (fun _ => rfl) (by kernel_rfl) (by kernel_rfl) (List.forall_mem_cons.2 ⟨fun _ => ok_12_4, (List.forall_mem_cons.2 ⟨fun _ => ok_12_13, (List.forall_mem_cons.2 ⟨fun _ => ok_12_21, (fun _ hq => by cases hq)⟩)⟩)⟩) (fun _ hq => by cases hq)
theorem booq_12_3 : BodiesOk Try.prog env (ctxG env false [] R27 [(12, [(4, p_12_4), (13, p_12_13), (21, p_12_21)])] []) := bodies_okG (ks := [12]) (by kernel_rfl) (List.forall_mem_cons.2 ⟨body_at (fn := f12) (body := b12) rfl hb12 pooq_12_3_12, (fun _ hq => by cases hq)⟩)
theorem stoq_12_3 (x1 : (List Task)) (x2 : (List Segment)) (x3 : Int) (x4 : Int) (x5 : Int) (x6 : Int) (x7 : Int) (K : Ex → List (SV env.T) → Prop) : s_12_3  x1 x2 x3 x4 x5 x6 x7 (fun y1 y2 y3 y4 y5 y6 => K .ret [.int .i64 y1, .int .i64 y2, .int .i64 y3, .int .u64 y4, .int .u64 y5, .dat 50 y6]) = vcCode env (ctxG env false [] R27 [(12, [(4, p_12_4), (13, p_12_13), (21, p_12_21)])] []) 2000 12 (seqAt b12 3) (insSt q_12_3.head [.dat 39 x1, .dat 32 x2, .int .i64 x3, .int .i64 x4, .int .i64 x5, .int .u64 x6, .int .u64 x7, .nils]) (outP env q_12_3 K) := by kernel_rfl
theorem wioq_12_3 (vs : List (SV env.T)) (K : Ex → List (SV env.T) → Prop) (h : v_12_3 vs K) : ∃ x1 : (List Task), ∃ x2 : (List Segment), ∃ x3 : Int, ∃ x4 : Int, ∃ x5 : Int, ∃ x6 : Int, ∃ x7 : Int, vs = [.dat 39 x1, .dat 32 x2, .int .i64 x3, .int .i64 x4, .int .i64 x5, .int .u64 x6, .int .u64 x7, .nils] ∧ s_12_3  x1 x2 x3 x4 x5 x6 x7 (fun y1 y2 y3 y4 y5 y6 => K .ret [.int .i64 y1, .int .i64 y2, .int .i64 y3, .int .u64 y4, .int .u64 y5, .dat 50 y6]) := by
  unfold v_12_3 at h
  replace h := dCD_spec h
  obtain ⟨x1, vs0, e0, h⟩ := h
  replace h := dCD_spec h
  obtain ⟨x2, vs1, e1, h⟩ := h
  replace h := dCI_spec h
  obtain ⟨x3, vs2, e2, h⟩ := h
  replace h := dCI_spec h
  obtain ⟨x4, vs3, e3, h⟩ := h
  replace h := dCI_spec h
  obtain ⟨x5, vs4, e4, h⟩ := h
  replace h := dCI_spec h
  obtain ⟨x6, vs5, e5, h⟩ := h
  replace h := dCI_spec h
  obtain ⟨x7, vs6, e6, h⟩ := h
  replace h := dCN_spec h
  obtain ⟨vs7, e7, h⟩ := h
  replace h := dCE_spec h
  obtain ⟨e, h⟩ := h
  exact ⟨x1, x2, x3, x4, x5, x6, x7, by rw [e0, e1, e2, e3, e4, e5, e6, e7, e], h⟩
theorem oq_12_3 : PieceOk Try.prog env q_12_3 (seqAt b12 3) := by
  refine seq_step tab (ctxG_ok R27_ok false [] _ _) booq_12_3 (pieces_subS pooq_12_3_12 (by kernel_rfl)) 2000 ?_
  intro vs K h
  obtain ⟨x1, x2, x3, x4, x5, x6, x7, rfl, h⟩ := wioq_12_3 vs K h
  exact Eq.mp (stoq_12_3 x1 x2 x3 x4 x5 x6 x7 K) h
theorem po_12_12 : PiecesOk Try.prog env (ctxG env false [] R27 [(12, [(4, p_12_4), (13, p_12_13), (21, p_12_21)])] [(12, [(3, q_12_3)])]) 12 b12 :=
  pieces_at (rfIn_body (fn := f12) (b := b12) rfl hb12) (L := [(4, p_12_4), (13, p_12_13), (21, p_12_21)]) (S := [(3, q_12_3)]) (fun _ => rfl) (fun _ => rfl) (by kernel_rfl) (by kernel_rfl) (List.forall_mem_cons.2 ⟨fun _ => ok_12_4, (List.forall_mem_cons.2 ⟨fun _ => ok_12_13, (List.forall_mem_cons.2 ⟨fun _ => ok_12_21, (fun _ hq => by cases hq)⟩)⟩)⟩) (List.forall_mem_cons.2 ⟨fun _ => oq_12_3, (fun _ hq => by cases hq)⟩)
theorem bo_12 : BodiesOk Try.prog env (ctxG env false [] R27 [(12, [(4, p_12_4), (13, p_12_13), (21, p_12_21)])] [(12, [(3, q_12_3)])]) := bodies_okG (ks := [12]) (by kernel_rfl) (List.forall_mem_cons.2 ⟨body_at (fn := f12) (body := b12) rfl hb12 po_12_12, (fun _ hq => by cases hq)⟩)
theorem eq_12 (x0 : (List Task)) (x1 : (List Segment)) (K : Y12 → Prop) : vcCode env (ctxG env false [] R27 [(12, [(4, p_12_4), (13, p_12_13), (21, p_12_21)])] [(12, [(3, q_12_3)])]) 2000 12 b12 (entry env f12 [v22 x0, v23 x1]) (finR env f12 decR12 K) = B12 x0 x1 K := by kernel_rfl
noncomputable def rule12 : Nat × Rule env := (12, ruleF env decA12 encR12 fun x => V12 x.1 x.2)
theorem r12 : RuleOk Try.prog env 12 rule12.2 :=
  rule_fun tab (ctxG_ok R27_ok false [] _ _) bo_12 (f := 12) (fn := f12) rfl hb12 po_12_12 2000 encA12 hA12 hR12 hD12 (fun _ => of_decide_eq_true (by kernel_rfl)) (fun x K => (eq_12 x.1 x.2 K).trans (by rw [V12_eq]))
noncomputable def R12 : List (Nat × Rule env) := rule12 :: R27
theorem R12_ok : AllOk Try.prog env R12 := ⟨r12, R27_ok⟩
-- 18 queuelab/queuelablaw37.empty
noncomputable def f18 : Func := Try.f18
noncomputable def b18 : Code := (Try.f18.body).getD .skip
abbrev X18 := Int × Int
def encA18 (x : X18) : List (SV env.T) := [v3 x.1, v3 x.2]
def decA18 (l : List (SV env.T)) : Option X18 := match l with
  | [s0, s1] => match u3 s0, u3 s1 with
    | some x0, some x1 => some (x0, x1)
    | _, _ => none
  | _ => none
theorem hA18 (l : List (SV env.T)) (x : X18) (h : decA18 l = some x) : WkA env.has l (encA18 x) := by
  unfold decA18 at h; split at h
  · split at h
    · rename_i h0 h1; cases h; exact (.cons (u3_wk h0) (.cons (u3_wk h1) .nil))
    · cases h
  · cases h
abbrev Y18 := Segment
def encR18 (x : Y18) : List (SV env.T) := [v32 x]
def decR18 (l : List (SV env.T)) : Option Y18 := match l with
  | [s0] => match u32 s0 with
    | some x0 => some (x0)
    | _ => none
  | _ => none
theorem hR18 (l : List (SV env.T)) (x : Y18) (h : decR18 l = some x) : WkA env.has l (encR18 x) := by
  unfold decR18 at h; split at h
  · split at h
    · rename_i h0; cases h; exact (.cons (u32_wk h0) .nil)
    · cases h
  · cases h
theorem hD18 (y : Y18) : isDataV (tupV (encR18 y)) = true := rfl
theorem hb18 : f18.body = some b18 := by kernel_rfl
noncomputable def B18 : Int → Int → (Y18 → Prop) → Prop :=
  fun x0 x1 K ↦ K (Segment.mk x0 x1 7 7 [])
theorem V18_ex : ∃ V : Int → Int → (Y18 → Prop) → Prop, V = B18 := ⟨_, rfl⟩
noncomputable def V18 : Int → Int → (Y18 → Prop) → Prop := Classical.choose V18_ex
theorem V18_eq : V18 = B18 := Classical.choose_spec V18_ex
theorem po_18_18 : PiecesOk Try.prog env (ctxG env false [] R12 [] []) 18 b18 :=
  pieces_at (rfIn_body (fn := f18) (b := b18) rfl hb18) (L := []) (S := []) (fun _ => rfl) (fun _ => rfl) (by kernel_rfl) (by kernel_rfl) (fun _ hq => by cases hq) (fun _ hq => by cases hq)
theorem bo_18 : BodiesOk Try.prog env (ctxG env false [] R12 [] []) := bodies_okG (ks := []) (by kernel_rfl) (fun _ hq => by cases hq)
theorem eq_18 (x0 : Int) (x1 : Int) (K : Y18 → Prop) : vcCode env (ctxG env false [] R12 [] []) 2000 18 b18 (entry env f18 [v3 x0, v3 x1]) (finR env f18 decR18 K) = B18 x0 x1 K := by kernel_rfl
noncomputable def rule18 : Nat × Rule env := (18, ruleF env decA18 encR18 fun x => V18 x.1 x.2)
theorem r18 : RuleOk Try.prog env 18 rule18.2 :=
  rule_fun tab (ctxG_ok R12_ok false [] _ _) bo_18 (f := 18) (fn := f18) rfl hb18 po_18_18 2000 encA18 hA18 hR18 hD18 (fun _ => of_decide_eq_true (by kernel_rfl)) (fun x K => (eq_18 x.1 x.2 K).trans (by rw [V18_eq]))
noncomputable def R18 : List (Nat × Rule env) := rule18 :: R12
theorem R18_ok : AllOk Try.prog env R18 := ⟨r18, R12_ok⟩
-- 34 queuelab/queuelabref32.Records
noncomputable def f34 : Func := Try.f34
noncomputable def b34 : Code := (Try.f34.body).getD .skip
abbrev X34 := (List Record) × (List Record)
def encA34 (x : X34) : List (SV env.T) := [v30 x.1, v30 x.2]
def decA34 (l : List (SV env.T)) : Option X34 := match l with
  | [s0, s1] => match u30 s0, u30 s1 with
    | some x0, some x1 => some (x0, x1)
    | _, _ => none
  | _ => none
theorem hA34 (l : List (SV env.T)) (x : X34) (h : decA34 l = some x) : WkA env.has l (encA34 x) := by
  unfold decA34 at h; split at h
  · split at h
    · rename_i h0 h1; cases h; exact (.cons (u30_wk h0) (.cons (u30_wk h1) .nil))
    · cases h
  · cases h
abbrev Y34 := Bool
def encR34 (x : Y34) : List (SV env.T) := [v4 x]
def decR34 (l : List (SV env.T)) : Option Y34 := match l with
  | [s0] => match u4 s0 with
    | some x0 => some (x0)
    | _ => none
  | _ => none
theorem hR34 (l : List (SV env.T)) (x : Y34) (h : decR34 l = some x) : WkA env.has l (encR34 x) := by
  unfold decR34 at h; split at h
  · split at h
    · rename_i h0; cases h; exact (.cons (u4_wk h0) .nil)
    · cases h
  · cases h
theorem hD34 (y : Y34) : isDataV (tupV (encR34 y)) = true := rfl
theorem hb34 : f34.body = some b34 := by kernel_rfl
def l_34_4 : Nat → (List Record) → (List Record) → Bool → Int → (Bool → Prop) → (Bool → Prop) → Prop
  | 0 => fun _ _ _ _ _ _ => False
  | k + 1 => fun x1 x2 x3 x4 kr k0 ↦ br (decide (x4 < (↑x1.length : Int))) (br (inb x4 (↑x1.length : Int)) (br (inb x4 (↑x2.length : Int)) (br (!andb ((x1.getD x4.toNat (env.d 50)).at_ == (x2.getD x4.toNat (env.d 50)).at_) (andb ((x1.getD x4.toNat (env.d 50)).kind == (x2.getD x4.toNat (env.d 50)).kind) (andb ((x1.getD x4.toNat (env.d 50)).a == (x2.getD x4.toNat (env.d 50)).a) (andb ((x1.getD x4.toNat (env.d 50)).p.flow == (x2.getD x4.toNat (env.d 50)).p.flow) (andb ((x1.getD x4.toNat (env.d 50)).p.sub == (x2.getD x4.toNat (env.d 50)).p.sub) (andb ((x1.getD x4.toNat (env.d 50)).p.number == (x2.getD x4.toNat (env.d 50)).p.number) (andb ((x1.getD x4.toNat (env.d 50)).p.data == (x2.getD x4.toNat (env.d 50)).p.data) (andb ((x1.getD x4.toNat (env.d 50)).p.size == (x2.getD x4.toNat (env.d 50)).p.size) (andb ((x1.getD x4.toNat (env.d 50)).p.sent == (x2.getD x4.toNat (env.d 50)).p.sent) (andb ((x1.getD x4.toNat (env.d 50)).p.able == (x2.getD x4.toNat (env.d 50)).p.able) ((x1.getD x4.toNat (env.d 50)).p.marked == (x2.getD x4.toNat (env.d 50)).p.marked))))))))))) (kr false) (l_34_4 k x1 x2 x3 (IntKind.i64.wrap (x4 + 1)) kr k0)) False) False) (k0 x3)
def w_34_4 (k : Nat) (vs : List (SV env.T)) (K : Ex → List (SV env.T) → Prop) : Prop :=
  dCD 50 vs fun x1 vs => dCD 50 vs fun x2 vs => dCB vs fun x3 vs => dCI .i64 vs fun x4 vs => dCE vs (l_34_4 k x1 x2 x3 x4 (fun y1 => K .ret [.bool y1]) (fun y1 => K (.exit 0) [.bool y1]))
def p_34_4 : Piece env := ⟨⟨[.holeD 50, .holeD 50, .any, .any, .hole, .hole, .any, .any, .any, .any, .any, .any, .any, .any, .any, .any, .any, .any, .any, .any, .any, .any, .any, .any, .any, .any], [], [], 0⟩, exitF none [(0, ⟨[.any, .any, .any, .any, .hole, .any, .any, .any, .any, .any, .any, .any, .any, .any, .any, .any, .any, .any, .any, .any, .any, .any, .any, .any, .any, .any], [], [], 0⟩)] (some ⟨[.any, .any, .any, .any, .hole, .any, .any, .any, .any, .any, .any, .any, .any, .any, .any, .any, .any, .any, .any, .any, .any, .any, .any, .any, .any, .any], [], [], 0⟩), fun vs K => ∃ k, w_34_4 k vs K⟩
noncomputable def B34 : (List Record) → (List Record) → (Y34 → Prop) → Prop :=
  fun x0 x1 K ↦ br ((↑x0.length : Int) != (↑x1.length : Int)) (K false) (∃ k3, l_34_4 k3 x0 x1 false 0 K fun _ ↦ K true)
theorem V34_ex : ∃ V : (List Record) → (List Record) → (Y34 → Prop) → Prop, V = B34 := ⟨_, rfl⟩
noncomputable def V34 : (List Record) → (List Record) → (Y34 → Prop) → Prop := Classical.choose V34_ex
theorem V34_eq : V34 = B34 := Classical.choose_spec V34_ex
theorem pook_34_4_34 : PiecesOk Try.prog env (ctxG env false [] R18 [] []) 34 b34 :=
  pieces_at (rfIn_body (fn := f34) (b := b34) rfl hb34) (L := []) (S := []) (fun _ => rfl) (fun _ => rfl) (by kernel_rfl) (by kernel_rfl) (fun _ hq => by cases hq) (fun _ hq => by cases hq)
theorem book_34_4 : BodiesOk Try.prog env (ctxG env false [] R18 [] []) := bodies_okG (ks := []) (by kernel_rfl) (fun _ hq => by cases hq)
theorem stok_34_4 (k : Nat) (x1 : (List Record)) (x2 : (List Record)) (x3 : Bool) (x4 : Int) (K : Ex → List (SV env.T) → Prop) : l_34_4 (k + 1) x1 x2 x3 x4 (fun y1 => K .ret [.bool y1]) (fun y1 => K (.exit 0) [.bool y1]) = vcCode env (ctxG env false [] R18 [] []) 2000 34 (loopAt b34 4) (insSt p_34_4.head [.dat 50 x1, .dat 50 x2, .bool x3, .int .i64 x4]) (stepK p_34_4 (w_34_4 k) K) := by kernel_rfl
theorem wiok_34_4 (k : Nat) (vs : List (SV env.T)) (K : Ex → List (SV env.T) → Prop) (h : w_34_4 k vs K) : ∃ x1 : (List Record), ∃ x2 : (List Record), ∃ x3 : Bool, ∃ x4 : Int, vs = [.dat 50 x1, .dat 50 x2, .bool x3, .int .i64 x4] ∧ l_34_4 k x1 x2 x3 x4 (fun y1 => K .ret [.bool y1]) (fun y1 => K (.exit 0) [.bool y1]) := by
  unfold w_34_4 at h
  replace h := dCD_spec h
  obtain ⟨x1, vs0, e0, h⟩ := h
  replace h := dCD_spec h
  obtain ⟨x2, vs1, e1, h⟩ := h
  replace h := dCB_spec h
  obtain ⟨x3, vs2, e2, h⟩ := h
  replace h := dCI_spec h
  obtain ⟨x4, vs3, e3, h⟩ := h
  replace h := dCE_spec h
  obtain ⟨e, h⟩ := h
  exact ⟨x1, x2, x3, x4, by rw [e0, e1, e2, e3, e], h⟩
theorem zeok_34_4 (x1 : (List Record)) (x2 : (List Record)) (x3 : Bool) (x4 : Int) (K : Ex → List (SV env.T) → Prop) : l_34_4 0 x1 x2 x3 x4 (fun y1 => K .ret [.bool y1]) (fun y1 => K (.exit 0) [.bool y1]) = False := by kernel_rfl
theorem ok_34_4 : PieceOk Try.prog env p_34_4 (.loop (loopAt b34 4)) := by
  refine loop_step (Wn := w_34_4) tab (ctxG_ok R18_ok false [] _ _) book_34_4 (pieces_sub pook_34_4_34 (by kernel_rfl)) rfl ?_ 2000 ?_
  · intro vs K h
    obtain ⟨x1, x2, x3, x4, _, h⟩ := wiok_34_4 0 vs K h
    exact Eq.mp (zeok_34_4 x1 x2 x3 x4 K) h
  · intro k vs K h
    obtain ⟨x1, x2, x3, x4, rfl, h⟩ := wiok_34_4 (k + 1) vs K h
    exact Eq.mp (stok_34_4 k x1 x2 x3 x4 K) h
theorem po_34_34 : PiecesOk Try.prog env (ctxG env false [] R18 [(34, [(4, p_34_4)])] []) 34 b34 :=
  pieces_at (rfIn_body (fn := f34) (b := b34) rfl hb34) (L := [(4, p_34_4)]) (S := []) (fun _ => rfl) (fun _ => rfl) (by kernel_rfl) (by kernel_rfl) (List.forall_mem_cons.2 ⟨fun _ => ok_34_4, (fun _ hq => by cases hq)⟩) (fun _ hq => by cases hq)
theorem bo_34 : BodiesOk Try.prog env (ctxG env false [] R18 [(34, [(4, p_34_4)])] []) := bodies_okG (ks := [34]) (by kernel_rfl) (List.forall_mem_cons.2 ⟨body_at (fn := f34) (body := b34) rfl hb34 po_34_34, (fun _ hq => by cases hq)⟩)
theorem eq_34 (x0 : (List Record)) (x1 : (List Record)) (K : Y34 → Prop) : vcCode env (ctxG env false [] R18 [(34, [(4, p_34_4)])] []) 2000 34 b34 (entry env f34 [v30 x0, v30 x1]) (finR env f34 decR34 K) = B34 x0 x1 K := by kernel_rfl
noncomputable def rule34 : Nat × Rule env := (34, ruleF env decA34 encR34 fun x => V34 x.1 x.2)
theorem r34 : RuleOk Try.prog env 34 rule34.2 :=
  rule_fun tab (ctxG_ok R18_ok false [] _ _) bo_34 (f := 34) (fn := f34) rfl hb34 po_34_34 2000 encA34 hA34 hR34 hD34 (fun _ => of_decide_eq_true (by kernel_rfl)) (fun x K => (eq_34 x.1 x.2 K).trans (by rw [V34_eq]))
noncomputable def R34 : List (Nat × Rule env) := rule34 :: R18
theorem R34_ok : AllOk Try.prog env R34 := ⟨r34, R18_ok⟩
-- 15 queuelab/queuelabref34.Same
noncomputable def f15 : Func := Try.f15
noncomputable def b15 : Code := (Try.f15.body).getD .skip
abbrev X15 := Segment × Segment
def encA15 (x : X15) : List (SV env.T) := [v32 x.1, v32 x.2]
def decA15 (l : List (SV env.T)) : Option X15 := match l with
  | [s0, s1] => match u32 s0, u32 s1 with
    | some x0, some x1 => some (x0, x1)
    | _, _ => none
  | _ => none
theorem hA15 (l : List (SV env.T)) (x : X15) (h : decA15 l = some x) : WkA env.has l (encA15 x) := by
  unfold decA15 at h; split at h
  · split at h
    · rename_i h0 h1; cases h; exact (.cons (u32_wk h0) (.cons (u32_wk h1) .nil))
    · cases h
  · cases h
abbrev Y15 := Bool
def encR15 (x : Y15) : List (SV env.T) := [v4 x]
def decR15 (l : List (SV env.T)) : Option Y15 := match l with
  | [s0] => match u4 s0 with
    | some x0 => some (x0)
    | _ => none
  | _ => none
theorem hR15 (l : List (SV env.T)) (x : Y15) (h : decR15 l = some x) : WkA env.has l (encR15 x) := by
  unfold decR15 at h; split at h
  · split at h
    · rename_i h0; cases h; exact (.cons (u4_wk h0) .nil)
    · cases h
  · cases h
theorem hD15 (y : Y15) : isDataV (tupV (encR15 y)) = true := rfl
theorem hb15 : f15.body = some b15 := by kernel_rfl
noncomputable def B15 : Segment → Segment → (Y15 → Prop) → Prop :=
  fun x0 x1 K ↦ br (x0.from_ == x1.from_) (br (x0.to_ == x1.to_) (br (x0.begin_ == x1.begin_) (br (x0.end_ == x1.end_) (V34 x0.records x1.records K) (K false)) (K false)) (K false)) (K false)
theorem V15_ex : ∃ V : Segment → Segment → (Y15 → Prop) → Prop, V = B15 := ⟨_, rfl⟩
noncomputable def V15 : Segment → Segment → (Y15 → Prop) → Prop := Classical.choose V15_ex
theorem V15_eq : V15 = B15 := Classical.choose_spec V15_ex
theorem po_15_15 : PiecesOk Try.prog env (ctxG env false [] R34 [] []) 15 b15 :=
  pieces_at (rfIn_body (fn := f15) (b := b15) rfl hb15) (L := []) (S := []) (fun _ => rfl) (fun _ => rfl) (by kernel_rfl) (by kernel_rfl) (fun _ hq => by cases hq) (fun _ hq => by cases hq)
theorem bo_15 : BodiesOk Try.prog env (ctxG env false [] R34 [] []) := bodies_okG (ks := []) (by kernel_rfl) (fun _ hq => by cases hq)
theorem eq_15 (x0 : Segment) (x1 : Segment) (K : Y15 → Prop) : vcCode env (ctxG env false [] R34 [] []) 2000 15 b15 (entry env f15 [v32 x0, v32 x1]) (finR env f15 decR15 K) = B15 x0 x1 K := by kernel_rfl
noncomputable def rule15 : Nat × Rule env := (15, ruleF env decA15 encR15 fun x => V15 x.1 x.2)
theorem r15 : RuleOk Try.prog env 15 rule15.2 :=
  rule_fun tab (ctxG_ok R34_ok false [] _ _) bo_15 (f := 15) (fn := f15) rfl hb15 po_15_15 2000 encA15 hA15 hR15 hD15 (fun _ => of_decide_eq_true (by kernel_rfl)) (fun x K => (eq_15 x.1 x.2 K).trans (by rw [V15_eq]))
noncomputable def R15 : List (Nat × Rule env) := rule15 :: R34
theorem R15_ok : AllOk Try.prog env R15 := ⟨r15, R34_ok⟩
-- 8 queuelab/queuelablaw37.head
noncomputable def f8 : Func := Try.f8
noncomputable def b8 : Code := (Try.f8.body).getD .skip
abbrev X8 := Unit
def encA8 (_x : X8) : List (SV env.T) := []
def decA8 (l : List (SV env.T)) : Option X8 := match l with
  | [] => some ()
  | _ => none
theorem hA8 (l : List (SV env.T)) (x : X8) (h : decA8 l = some x) : WkA env.has l (encA8 x) := by
  unfold decA8 at h; split at h
  · exact .nil
  · cases h
abbrev Y8 := Bool
def encR8 (x : Y8) : List (SV env.T) := [v4 x]
def decR8 (l : List (SV env.T)) : Option Y8 := match l with
  | [s0] => match u4 s0 with
    | some x0 => some (x0)
    | _ => none
  | _ => none
theorem hR8 (l : List (SV env.T)) (x : Y8) (h : decR8 l = some x) : WkA env.has l (encR8 x) := by
  unfold decR8 at h; split at h
  · split at h
    · rename_i h0; cases h; exact (.cons (u4_wk h0) .nil)
    · cases h
  · cases h
theorem hD8 (y : Y8) : isDataV (tupV (encR8 y)) = true := rfl
theorem hb8 : f8.body = some b8 := by kernel_rfl
def s_8_4 : Bool → (List Task) → Bool → (Bool → Prop) → Prop :=
  fun _ x2 x3 kr ↦ V18 6 10 fun y6 ↦ V18 0 3 fun y7 ↦ V18 3 6 fun y8 ↦ V12 x2 [y6, y7, y8] fun y9 ↦ V18 6 10 fun y10 ↦ V18 0 3 fun y11 ↦ V12 x2 [y10, y11] fun y12 ↦ V18 0 3 fun y13 ↦ V18 0 3 fun y14 ↦ V12 x2 [y13, y14] fun y15 ↦ V18 0 4 fun y16 ↦ V12 x2 [y16] fun y17 ↦ V18 4 3 fun y18 ↦ V12 x2 [y18] fun y19 ↦ br x3 (br (y9.snd == 0) (∃ k20, (V18 0 10 fun y21 ↦ tupV (encR18 y21) = tupV (encR18 k20)) ∧ ∃ k21, (V15 y9.fst k20 fun y22 ↦ tupV (encR15 y22) = tupV (encR15 k21)) ∧ br k21 (br (y12.snd == 4) (br (y15.snd == 5) (br (y17.snd == 18) (kr (y19.snd == 1)) (kr false)) (kr false)) (kr false)) (kr false)) (kr false)) (kr false)
def v_8_4 (vs : List (SV env.T)) (K : Ex → List (SV env.T) → Prop) : Prop :=
  dCB vs fun x1 vs => dCD 39 vs fun x2 vs => dCB vs fun x3 vs => dCE vs (s_8_4 x1 x2 x3 (fun y1 => K .ret [.bool y1]))
def q_8_4 : Piece env := ⟨⟨[.hole, .holeD 39, .any, .any, .any, .hole, .any, .any, .any, .any, .any, .any, .any, .any, .any, .any, .any, .any, .any, .any, .any, .any, .any, .any, .any, .any, .any, .any, .any, .any, .any, .any, .any, .any, .any, .any, .any, .any, .any, .any, .any, .any, .any, .any, .any, .any, .any, .any, .any, .any, .any, .any, .any, .any, .any, .any, .any, .any, .any, .any, .any, .any, .any, .any, .any, .any, .any, .any, .any, .any, .any, .any, .any, .any, .any, .any, .any, .any, .any, .any, .any, .any, .any, .any, .any, .any, .any, .any, .any, .any, .any, .any, .any, .any, .any, .any, .any, .any, .any, .any, .any, .any, .any], [], [], 0⟩, exitF none [] (some ⟨[.hole, .any, .any, .any, .any, .any, .any, .any, .any, .any, .any, .any, .any, .any, .any, .any, .any, .any, .any, .any, .any, .any, .any, .any, .any, .any, .any, .any, .any, .any, .any, .any, .any, .any, .any, .any, .any, .any, .any, .any, .any, .any, .any, .any, .any, .any, .any, .any, .any, .any, .any, .any, .any, .any, .any, .any, .any, .any, .any, .any, .any, .any, .any, .any, .any, .any, .any, .any, .any, .any, .any, .any, .any, .any, .any, .any, .any, .any, .any, .any, .any, .any, .any, .any, .any, .any, .any, .any, .any, .any, .any, .any, .any, .any, .any, .any, .any, .any, .any, .any, .any, .any, .any], [], [], 0⟩), v_8_4⟩
noncomputable def B8 : (Y8 → Prop) → Prop :=
  fun K ↦ V10 0 10 3 2 fun y1 ↦ V10 5 7 3 1 fun y2 ↦ br (y1.snd == 0) (br (y2.snd == 1) (V14 y1.fst [Task.mk 0 0 0 3, Task.mk 1 1 3 6, Task.mk 2 0 6 10] fun y3 ↦ s_8_4 false y1.fst y3 K) (s_8_4 false y1.fst false K)) (s_8_4 false y1.fst false K)
theorem V8_ex : ∃ V : (Y8 → Prop) → Prop, V = B8 := ⟨_, rfl⟩
noncomputable def V8 : (Y8 → Prop) → Prop := Classical.choose V8_ex
theorem V8_eq : V8 = B8 := Classical.choose_spec V8_ex
theorem pooq_8_4_8 : PiecesOk Try.prog env (ctxG env false [] R15 [] []) 8 b8 :=
  pieces_at (rfIn_body (fn := f8) (b := b8) rfl hb8) (L := []) (S := []) (fun _ => rfl) (fun _ => rfl) (by kernel_rfl) (by kernel_rfl) (fun _ hq => by cases hq) (fun _ hq => by cases hq)
theorem booq_8_4 : BodiesOk Try.prog env (ctxG env false [] R15 [] []) := bodies_okG (ks := []) (by kernel_rfl) (fun _ hq => by cases hq)
theorem stoq_8_4 (x1 : Bool) (x2 : (List Task)) (x3 : Bool) (K : Ex → List (SV env.T) → Prop) : s_8_4  x1 x2 x3 (fun y1 => K .ret [.bool y1]) = vcCode env (ctxG env false [] R15 [] []) 2000 8 (seqAt b8 4) (insSt q_8_4.head [.bool x1, .dat 39 x2, .bool x3]) (outP env q_8_4 K) := by kernel_rfl
theorem wioq_8_4 (vs : List (SV env.T)) (K : Ex → List (SV env.T) → Prop) (h : v_8_4 vs K) : ∃ x1 : Bool, ∃ x2 : (List Task), ∃ x3 : Bool, vs = [.bool x1, .dat 39 x2, .bool x3] ∧ s_8_4  x1 x2 x3 (fun y1 => K .ret [.bool y1]) := by
  unfold v_8_4 at h
  replace h := dCB_spec h
  obtain ⟨x1, vs0, e0, h⟩ := h
  replace h := dCD_spec h
  obtain ⟨x2, vs1, e1, h⟩ := h
  replace h := dCB_spec h
  obtain ⟨x3, vs2, e2, h⟩ := h
  replace h := dCE_spec h
  obtain ⟨e, h⟩ := h
  exact ⟨x1, x2, x3, by rw [e0, e1, e2, e], h⟩
theorem oq_8_4 : PieceOk Try.prog env q_8_4 (seqAt b8 4) := by
  refine seq_step tab (ctxG_ok R15_ok false [] _ _) booq_8_4 (pieces_subS pooq_8_4_8 (by kernel_rfl)) 2000 ?_
  intro vs K h
  obtain ⟨x1, x2, x3, rfl, h⟩ := wioq_8_4 vs K h
  exact Eq.mp (stoq_8_4 x1 x2 x3 K) h
theorem po_8_8 : PiecesOk Try.prog env (ctxG env false [] R15 [] [(8, [(4, q_8_4)])]) 8 b8 :=
  pieces_at (rfIn_body (fn := f8) (b := b8) rfl hb8) (L := []) (S := [(4, q_8_4)]) (fun _ => rfl) (fun _ => rfl) (by kernel_rfl) (by kernel_rfl) (fun _ hq => by cases hq) (List.forall_mem_cons.2 ⟨fun _ => oq_8_4, (fun _ hq => by cases hq)⟩)
theorem bo_8 : BodiesOk Try.prog env (ctxG env false [] R15 [] [(8, [(4, q_8_4)])]) := bodies_okG (ks := [8]) (by kernel_rfl) (List.forall_mem_cons.2 ⟨body_at (fn := f8) (body := b8) rfl hb8 po_8_8, (fun _ hq => by cases hq)⟩)
theorem eq_8 (K : Y8 → Prop) : vcCode env (ctxG env false [] R15 [] [(8, [(4, q_8_4)])]) 2000 8 b8 (entry env f8 []) (finR env f8 decR8 K) = B8  K := by kernel_rfl
noncomputable def rule8 : Nat × Rule env := (8, ruleF env decA8 encR8 fun _ => V8 )
theorem r8 : RuleOk Try.prog env 8 rule8.2 :=
  rule_fun tab (ctxG_ok R15_ok false [] _ _) bo_8 (f := 8) (fn := f8) rfl hb8 po_8_8 2000 encA8 hA8 hR8 hD8 (fun _ => of_decide_eq_true (by kernel_rfl)) (fun _ K => (eq_8  K).trans (by rw [V8_eq]))
noncomputable def R8 : List (Nat × Rule env) := rule8 :: R15
theorem R8_ok : AllOk Try.prog env R8 := ⟨r8, R15_ok⟩
-- 19 queuelab/queuelabref34.Few
noncomputable def f19 : Func := Try.f19
noncomputable def b19 : Code := (Try.f19.body).getD .skip
abbrev X19 := Segment
def encA19 (x : X19) : List (SV env.T) := [v32 x]
def decA19 (l : List (SV env.T)) : Option X19 := match l with
  | [s0] => match u32 s0 with
    | some x0 => some (x0)
    | _ => none
  | _ => none
theorem hA19 (l : List (SV env.T)) (x : X19) (h : decA19 l = some x) : WkA env.has l (encA19 x) := by
  unfold decA19 at h; split at h
  · split at h
    · rename_i h0; cases h; exact (.cons (u32_wk h0) .nil)
    · cases h
  · cases h
abbrev Y19 := Bool
def encR19 (x : Y19) : List (SV env.T) := [v4 x]
def decR19 (l : List (SV env.T)) : Option Y19 := match l with
  | [s0] => match u4 s0 with
    | some x0 => some (x0)
    | _ => none
  | _ => none
theorem hR19 (l : List (SV env.T)) (x : Y19) (h : decR19 l = some x) : WkA env.has l (encR19 x) := by
  unfold decR19 at h; split at h
  · split at h
    · rename_i h0; cases h; exact (.cons (u4_wk h0) .nil)
    · cases h
  · cases h
theorem hD19 (y : Y19) : isDataV (tupV (encR19 y)) = true := rfl
theorem hb19 : f19.body = some b19 := by kernel_rfl
noncomputable def B19 : Segment → (Y19 → Prop) → Prop :=
  fun x0 K ↦ K (decide ((↑x0.records.length : Int) ≤ 5100))
theorem V19_ex : ∃ V : Segment → (Y19 → Prop) → Prop, V = B19 := ⟨_, rfl⟩
noncomputable def V19 : Segment → (Y19 → Prop) → Prop := Classical.choose V19_ex
theorem V19_eq : V19 = B19 := Classical.choose_spec V19_ex
theorem po_19_19 : PiecesOk Try.prog env (ctxG env false [] R8 [] []) 19 b19 :=
  pieces_at (rfIn_body (fn := f19) (b := b19) rfl hb19) (L := []) (S := []) (fun _ => rfl) (fun _ => rfl) (by kernel_rfl) (by kernel_rfl) (fun _ hq => by cases hq) (fun _ hq => by cases hq)
theorem bo_19 : BodiesOk Try.prog env (ctxG env false [] R8 [] []) := bodies_okG (ks := []) (by kernel_rfl) (fun _ hq => by cases hq)
theorem eq_19 (x0 : Segment) (K : Y19 → Prop) : vcCode env (ctxG env false [] R8 [] []) 2000 19 b19 (entry env f19 [v32 x0]) (finR env f19 decR19 K) = B19 x0 K := by kernel_rfl
noncomputable def rule19 : Nat × Rule env := (19, ruleF env decA19 encR19 fun x => V19 x)
theorem r19 : RuleOk Try.prog env 19 rule19.2 :=
  rule_fun tab (ctxG_ok R8_ok false [] _ _) bo_19 (f := 19) (fn := f19) rfl hb19 po_19_19 2000 encA19 hA19 hR19 hD19 (fun _ => of_decide_eq_true (by kernel_rfl)) (fun x K => (eq_19 x K).trans (by rw [V19_eq]))
noncomputable def R19 : List (Nat × Rule env) := rule19 :: R8
theorem R19_ok : AllOk Try.prog env R19 := ⟨r19, R8_ok⟩
-- 9 queuelab/queuelablaw37.few
noncomputable def f9 : Func := Try.f9
noncomputable def b9 : Code := (Try.f9.body).getD .skip
abbrev X9 := (List Task) × (List Segment)
def encA9 (x : X9) : List (SV env.T) := [v22 x.1, v23 x.2]
def decA9 (l : List (SV env.T)) : Option X9 := match l with
  | [s0, s1] => match u22 s0, u23 s1 with
    | some x0, some x1 => some (x0, x1)
    | _, _ => none
  | _ => none
theorem hA9 (l : List (SV env.T)) (x : X9) (h : decA9 l = some x) : WkA env.has l (encA9 x) := by
  unfold decA9 at h; split at h
  · split at h
    · rename_i h0 h1; cases h; exact (.cons (u22_wk h0) (.cons (u23_wk h1) .nil))
    · cases h
  · cases h
abbrev Y9 := Bool
def encR9 (x : Y9) : List (SV env.T) := [v4 x]
def decR9 (l : List (SV env.T)) : Option Y9 := match l with
  | [s0] => match u4 s0 with
    | some x0 => some (x0)
    | _ => none
  | _ => none
theorem hR9 (l : List (SV env.T)) (x : Y9) (h : decR9 l = some x) : WkA env.has l (encR9 x) := by
  unfold decR9 at h; split at h
  · split at h
    · rename_i h0; cases h; exact (.cons (u4_wk h0) .nil)
    · cases h
  · cases h
theorem hD9 (y : Y9) : isDataV (tupV (encR9 y)) = true := rfl
theorem hb9 : f9.body = some b9 := by kernel_rfl
def l_9_2 : Nat → (List Task) → (List Segment) → Bool → Int → (Bool → Prop) → ((List Task) → (List Segment) → Bool → Prop) → Prop
  | 0 => fun _ _ _ _ _ _ => False
  | k + 1 => fun x1 x2 x3 x4 kr k0 ↦ br (decide (x4 < (↑x2.length : Int))) (br (inb x4 (↑x2.length : Int)) (V19 (x2.getD x4.toNat (env.d 32)) fun y8 ↦ br (!y8) (kr false) (l_9_2 k x1 x2 x3 (IntKind.i64.wrap (x4 + 1)) kr k0)) False) (k0 x1 x2 x3)
def w_9_2 (k : Nat) (vs : List (SV env.T)) (K : Ex → List (SV env.T) → Prop) : Prop :=
  dCD 39 vs fun x1 vs => dCD 32 vs fun x2 vs => dCB vs fun x3 vs => dCI .i64 vs fun x4 vs => dCE vs (l_9_2 k x1 x2 x3 x4 (fun y1 => K .ret [.bool y1]) (fun y1 y2 y3 => K (.exit 0) [.dat 39 y1, .dat 32 y2, .bool y3]))
def p_9_2 : Piece env := ⟨⟨[.holeD 39, .holeD 32, .any, .any, .hole, .hole, .any, .any, .any, .any, .any, .any, .any, .any, .any, .any, .any, .any, .any, .any, .any, .any, .any, .any, .any, .any, .any, .any], [], [], 0⟩, exitF none [(0, ⟨[.holeD 39, .holeD 32, .any, .any, .hole, .any, .any, .any, .any, .any, .any, .any, .any, .any, .any, .any, .any, .any, .any, .any, .any, .any, .any, .any, .any, .any, .any, .any], [], [], 0⟩)] (some ⟨[.any, .any, .any, .any, .hole, .any, .any, .any, .any, .any, .any, .any, .any, .any, .any, .any, .any, .any, .any, .any, .any, .any, .any, .any, .any, .any, .any, .any], [], [], 0⟩), fun vs K => ∃ k, w_9_2 k vs K⟩
noncomputable def B9 : (List Task) → (List Segment) → (Y9 → Prop) → Prop :=
  fun x0 x1 K ↦ ∃ k3, l_9_2 k3 x0 x1 false 0 K fun y4 y5 _ ↦ br (decide ((↑y4.length : Int) ≤ 40)) (K (decide ((↑y5.length : Int) ≤ 40))) (K false)
theorem V9_ex : ∃ V : (List Task) → (List Segment) → (Y9 → Prop) → Prop, V = B9 := ⟨_, rfl⟩
noncomputable def V9 : (List Task) → (List Segment) → (Y9 → Prop) → Prop := Classical.choose V9_ex
theorem V9_eq : V9 = B9 := Classical.choose_spec V9_ex
theorem pook_9_2_9 : PiecesOk Try.prog env (ctxG env false [] R19 [] []) 9 b9 :=
  pieces_at (rfIn_body (fn := f9) (b := b9) rfl hb9) (L := []) (S := []) (fun _ => rfl) (fun _ => rfl) (by kernel_rfl) (by kernel_rfl) (fun _ hq => by cases hq) (fun _ hq => by cases hq)
theorem book_9_2 : BodiesOk Try.prog env (ctxG env false [] R19 [] []) := bodies_okG (ks := []) (by kernel_rfl) (fun _ hq => by cases hq)
theorem stok_9_2 (k : Nat) (x1 : (List Task)) (x2 : (List Segment)) (x3 : Bool) (x4 : Int) (K : Ex → List (SV env.T) → Prop) : l_9_2 (k + 1) x1 x2 x3 x4 (fun y1 => K .ret [.bool y1]) (fun y1 y2 y3 => K (.exit 0) [.dat 39 y1, .dat 32 y2, .bool y3]) = vcCode env (ctxG env false [] R19 [] []) 2000 9 (loopAt b9 2) (insSt p_9_2.head [.dat 39 x1, .dat 32 x2, .bool x3, .int .i64 x4]) (stepK p_9_2 (w_9_2 k) K) := by kernel_rfl
theorem wiok_9_2 (k : Nat) (vs : List (SV env.T)) (K : Ex → List (SV env.T) → Prop) (h : w_9_2 k vs K) : ∃ x1 : (List Task), ∃ x2 : (List Segment), ∃ x3 : Bool, ∃ x4 : Int, vs = [.dat 39 x1, .dat 32 x2, .bool x3, .int .i64 x4] ∧ l_9_2 k x1 x2 x3 x4 (fun y1 => K .ret [.bool y1]) (fun y1 y2 y3 => K (.exit 0) [.dat 39 y1, .dat 32 y2, .bool y3]) := by
  unfold w_9_2 at h
  replace h := dCD_spec h
  obtain ⟨x1, vs0, e0, h⟩ := h
  replace h := dCD_spec h
  obtain ⟨x2, vs1, e1, h⟩ := h
  replace h := dCB_spec h
  obtain ⟨x3, vs2, e2, h⟩ := h
  replace h := dCI_spec h
  obtain ⟨x4, vs3, e3, h⟩ := h
  replace h := dCE_spec h
  obtain ⟨e, h⟩ := h
  exact ⟨x1, x2, x3, x4, by rw [e0, e1, e2, e3, e], h⟩
theorem zeok_9_2 (x1 : (List Task)) (x2 : (List Segment)) (x3 : Bool) (x4 : Int) (K : Ex → List (SV env.T) → Prop) : l_9_2 0 x1 x2 x3 x4 (fun y1 => K .ret [.bool y1]) (fun y1 y2 y3 => K (.exit 0) [.dat 39 y1, .dat 32 y2, .bool y3]) = False := by kernel_rfl
theorem ok_9_2 : PieceOk Try.prog env p_9_2 (.loop (loopAt b9 2)) := by
  refine loop_step (Wn := w_9_2) tab (ctxG_ok R19_ok false [] _ _) book_9_2 (pieces_sub pook_9_2_9 (by kernel_rfl)) rfl ?_ 2000 ?_
  · intro vs K h
    obtain ⟨x1, x2, x3, x4, _, h⟩ := wiok_9_2 0 vs K h
    exact Eq.mp (zeok_9_2 x1 x2 x3 x4 K) h
  · intro k vs K h
    obtain ⟨x1, x2, x3, x4, rfl, h⟩ := wiok_9_2 (k + 1) vs K h
    exact Eq.mp (stok_9_2 k x1 x2 x3 x4 K) h
theorem po_9_9 : PiecesOk Try.prog env (ctxG env false [] R19 [(9, [(2, p_9_2)])] []) 9 b9 :=
  pieces_at (rfIn_body (fn := f9) (b := b9) rfl hb9) (L := [(2, p_9_2)]) (S := []) (fun _ => rfl) (fun _ => rfl) (by kernel_rfl) (by kernel_rfl) (List.forall_mem_cons.2 ⟨fun _ => ok_9_2, (fun _ hq => by cases hq)⟩) (fun _ hq => by cases hq)
theorem bo_9 : BodiesOk Try.prog env (ctxG env false [] R19 [(9, [(2, p_9_2)])] []) := bodies_okG (ks := [9]) (by kernel_rfl) (List.forall_mem_cons.2 ⟨body_at (fn := f9) (body := b9) rfl hb9 po_9_9, (fun _ hq => by cases hq)⟩)
theorem eq_9 (x0 : (List Task)) (x1 : (List Segment)) (K : Y9 → Prop) : vcCode env (ctxG env false [] R19 [(9, [(2, p_9_2)])] []) 2000 9 b9 (entry env f9 [v22 x0, v23 x1]) (finR env f9 decR9 K) = B9 x0 x1 K := by kernel_rfl
noncomputable def rule9 : Nat × Rule env := (9, ruleF env decA9 encR9 fun x => V9 x.1 x.2)
theorem r9 : RuleOk Try.prog env 9 rule9.2 :=
  rule_fun tab (ctxG_ok R19_ok false [] _ _) bo_9 (f := 9) (fn := f9) rfl hb9 po_9_9 2000 encA9 hA9 hR9 hD9 (fun _ => of_decide_eq_true (by kernel_rfl)) (fun x K => (eq_9 x.1 x.2 K).trans (by rw [V9_eq]))
noncomputable def R9 : List (Nat × Rule env) := rule9 :: R19
theorem R9_ok : AllOk Try.prog env R9 := ⟨r9, R19_ok⟩
-- 22 queuelab/queuelabref18.Time
noncomputable def f22 : Func := Try.f22
noncomputable def b22 : Code := (Try.f22.body).getD .skip
abbrev X22 := Int
def encA22 (x : X22) : List (SV env.T) := [v3 x]
def decA22 (l : List (SV env.T)) : Option X22 := match l with
  | [s0] => match u3 s0 with
    | some x0 => some (x0)
    | _ => none
  | _ => none
theorem hA22 (l : List (SV env.T)) (x : X22) (h : decA22 l = some x) : WkA env.has l (encA22 x) := by
  unfold decA22 at h; split at h
  · split at h
    · rename_i h0; cases h; exact (.cons (u3_wk h0) .nil)
    · cases h
  · cases h
abbrev Y22 := Bool
def encR22 (x : Y22) : List (SV env.T) := [v4 x]
def decR22 (l : List (SV env.T)) : Option Y22 := match l with
  | [s0] => match u4 s0 with
    | some x0 => some (x0)
    | _ => none
  | _ => none
theorem hR22 (l : List (SV env.T)) (x : Y22) (h : decR22 l = some x) : WkA env.has l (encR22 x) := by
  unfold decR22 at h; split at h
  · split at h
    · rename_i h0; cases h; exact (.cons (u4_wk h0) .nil)
    · cases h
  · cases h
theorem hD22 (y : Y22) : isDataV (tupV (encR22 y)) = true := rfl
theorem hb22 : f22.body = some b22 := by kernel_rfl
noncomputable def B22 : Int → (Y22 → Prop) → Prop :=
  fun x0 K ↦ br (decide (x0 ≥ 0)) (K (decide (x0 ≤ 10000000))) (K false)
theorem V22_ex : ∃ V : Int → (Y22 → Prop) → Prop, V = B22 := ⟨_, rfl⟩
noncomputable def V22 : Int → (Y22 → Prop) → Prop := Classical.choose V22_ex
theorem V22_eq : V22 = B22 := Classical.choose_spec V22_ex
theorem po_22_22 : PiecesOk Try.prog env (ctxG env false [] R9 [] []) 22 b22 :=
  pieces_at (rfIn_body (fn := f22) (b := b22) rfl hb22) (L := []) (S := []) (fun _ => rfl) (fun _ => rfl) (by kernel_rfl) (by kernel_rfl) (fun _ hq => by cases hq) (fun _ hq => by cases hq)
theorem bo_22 : BodiesOk Try.prog env (ctxG env false [] R9 [] []) := bodies_okG (ks := []) (by kernel_rfl) (fun _ hq => by cases hq)
theorem eq_22 (x0 : Int) (K : Y22 → Prop) : vcCode env (ctxG env false [] R9 [] []) 2000 22 b22 (entry env f22 [v3 x0]) (finR env f22 decR22 K) = B22 x0 K := by kernel_rfl
noncomputable def rule22 : Nat × Rule env := (22, ruleF env decA22 encR22 fun x => V22 x)
theorem r22 : RuleOk Try.prog env 22 rule22.2 :=
  rule_fun tab (ctxG_ok R9_ok false [] _ _) bo_22 (f := 22) (fn := f22) rfl hb22 po_22_22 2000 encA22 hA22 hR22 hD22 (fun _ => of_decide_eq_true (by kernel_rfl)) (fun x K => (eq_22 x K).trans (by rw [V22_eq]))
noncomputable def R22 : List (Nat × Rule env) := rule22 :: R9
theorem R22_ok : AllOk Try.prog env R22 := ⟨r22, R9_ok⟩
-- 11 queuelab/queuelabref37.Assign
noncomputable def f11 : Func := Try.f11
noncomputable def b11 : Code := (Try.f11.body).getD .skip
abbrev X11 := Int × Int × Int × Int
def encA11 (x : X11) : List (SV env.T) := [v3 x.1, v3 x.2.1, v3 x.2.2.1, v3 x.2.2.2]
def decA11 (l : List (SV env.T)) : Option X11 := match l with
  | [s0, s1, s2, s3] => match u3 s0, u3 s1, u3 s2, u3 s3 with
    | some x0, some x1, some x2, some x3 => some (x0, x1, x2, x3)
    | _, _, _, _ => none
  | _ => none
theorem hA11 (l : List (SV env.T)) (x : X11) (h : decA11 l = some x) : WkA env.has l (encA11 x) := by
  unfold decA11 at h; split at h
  · split at h
    · rename_i h0 h1 h2 h3; cases h; exact (.cons (u3_wk h0) (.cons (u3_wk h1) (.cons (u3_wk h2) (.cons (u3_wk h3) .nil))))
    · cases h
  · cases h
abbrev Y11 := (List Task) × Int
def encR11 (x : Y11) : List (SV env.T) := [v22 x.1, v26 x.2]
def decR11 (l : List (SV env.T)) : Option Y11 := match l with
  | [s0, s1] => match u22 s0, u26 s1 with
    | some x0, some x1 => some (x0, x1)
    | _, _ => none
  | _ => none
theorem hR11 (l : List (SV env.T)) (x : Y11) (h : decR11 l = some x) : WkA env.has l (encR11 x) := by
  unfold decR11 at h; split at h
  · split at h
    · rename_i h0 h1; cases h; exact (.cons (u22_wk h0) (.cons (u26_wk h1) .nil))
    · cases h
  · cases h
theorem hD11 (y : Y11) : isDataV (tupV (encR11 y)) = true := rfl
theorem hb11 : f11.body = some b11 := by kernel_rfl
def l_11_7 : Nat → Int → Int → Int → Int → Int → Int → (List Task) → (Int → (List Task) → Prop) → Prop
  | 0 => fun _ _ _ _ _ _ _ _ => False
  | k + 1 => fun x1 x2 x3 x4 x5 x6 x7 k0 ↦ br (decide (x6 < x3)) (br (!x4 == 0) (br (!x3 == 0) (br (!x3 == 0) (br (roomB (x7 ++ [Task.mk x6 (x6.tmod x4) (IntKind.i64.wrap (x1 + IntKind.i64.wrap ((IntKind.i64.wrap (IntKind.i64.wrap (x2 - x1) * x6)).tdiv x3))) (IntKind.i64.wrap (x1 + IntKind.i64.wrap ((IntKind.i64.wrap (IntKind.i64.wrap (x2 - x1) * IntKind.i64.wrap (x6 + 1))).tdiv x3)))]).length (bytesB env 39)) (l_11_7 k x1 x2 x3 x4 x5 (IntKind.i64.wrap (x6 + 1)) (x7 ++ [Task.mk x6 (x6.tmod x4) (IntKind.i64.wrap (x1 + IntKind.i64.wrap ((IntKind.i64.wrap (IntKind.i64.wrap (x2 - x1) * x6)).tdiv x3))) (IntKind.i64.wrap (x1 + IntKind.i64.wrap ((IntKind.i64.wrap (IntKind.i64.wrap (x2 - x1) * IntKind.i64.wrap (x6 + 1))).tdiv x3)))]) k0) False) False) False) False) (k0 x5 x7)
def w_11_7 (k : Nat) (vs : List (SV env.T)) (K : Ex → List (SV env.T) → Prop) : Prop :=
  dCI .i64 vs fun x1 vs => dCI .i64 vs fun x2 vs => dCI .i64 vs fun x3 vs => dCI .i64 vs fun x4 vs => dCN vs fun vs => dCI .i64 vs fun x5 vs => dCI .i64 vs fun x6 vs => dCD 39 vs fun x7 vs => dCE vs (l_11_7 k x1 x2 x3 x4 x5 x6 x7 (fun y1 y2 => K (.exit 0) [.nils, .int .i64 y1, .dat 39 y2]))
def p_11_7 : Piece env := ⟨⟨[.hole, .hole, .hole, .hole, .any, .any, .any, .any, .hole, .hole, .any, .any, .row 0, .hole, .any, .any, .any, .any, .any, .any, .any, .any, .any, .any, .any, .any, .any, .any, .any, .any, .any, .any, .any, .any, .any, .any, .any, .any, .any, .any, .any, .any, .any, .any, .any, .any, .any, .any, .any, .any, .any, .any, .any, .any, .any, .any, .any, .any, .any, .any, .any, .any, .any, .any, .any, .any, .any, .any, .any, .any, .any, .any, .any, .any, .any, .any, .any, .any, .any, .any], [], [(0, .row 39)], 1⟩, exitF none [(0, ⟨[.any, .any, .any, .any, .any, .any, .any, .any, .hole, .hole, .any, .any, .row 0, .any, .any, .any, .any, .any, .any, .any, .any, .any, .any, .any, .any, .any, .any, .any, .any, .any, .any, .any, .any, .any, .any, .any, .any, .any, .any, .any, .any, .any, .any, .any, .any, .any, .any, .any, .any, .any, .any, .any, .any, .any, .any, .any, .any, .any, .any, .any, .any, .any, .any, .any, .any, .any, .any, .any, .any, .any, .any, .any, .any, .any, .any, .any, .any, .any, .any, .any], [], [(0, .row 39)], 1⟩)] none, fun vs K => ∃ k, w_11_7 k vs K⟩
def s_11_5 : Int → Int → Int → Int → Int → (Int → (List Task) → Prop) → Prop :=
  fun x1 x2 x3 x4 x5 kr ↦ ∃ k8, l_11_7 k8 x1 x2 x3 x4 x5 0 [] fun _ ↦ kr 0
def v_11_5 (vs : List (SV env.T)) (K : Ex → List (SV env.T) → Prop) : Prop :=
  dCI .i64 vs fun x1 vs => dCI .i64 vs fun x2 vs => dCI .i64 vs fun x3 vs => dCI .i64 vs fun x4 vs => dCN vs fun vs => dCI .i64 vs fun x5 vs => dCE vs (s_11_5 x1 x2 x3 x4 x5 (fun y1 y2 => K .ret [.int .i64 y1, .dat 39 y2]))
def q_11_5 : Piece env := ⟨⟨[.hole, .hole, .hole, .hole, .any, .any, .any, .any, .hole, .hole, .any, .any, .any, .any, .any, .any, .any, .any, .any, .any, .any, .any, .any, .any, .any, .any, .any, .any, .any, .any, .any, .any, .any, .any, .any, .any, .any, .any, .any, .any, .any, .any, .any, .any, .any, .any, .any, .any, .any, .any, .any, .any, .any, .any, .any, .any, .any, .any, .any, .any, .any, .any, .any, .any, .any, .any, .any, .any, .any, .any, .any, .any, .any, .any, .any, .any, .any, .any, .any, .any], [], [], 0⟩, exitF none [] (some ⟨[.any, .any, .any, .any, .any, .any, .any, .any, .row 0, .hole, .any, .any, .any, .any, .any, .any, .any, .any, .any, .any, .any, .any, .any, .any, .any, .any, .any, .any, .any, .any, .any, .any, .any, .any, .any, .any, .any, .any, .any, .any, .any, .any, .any, .any, .any, .any, .any, .any, .any, .any, .any, .any, .any, .any, .any, .any, .any, .any, .any, .any, .any, .any, .any, .any, .any, .any, .any, .any, .any, .any, .any, .any, .any, .any, .any, .any, .any, .any, .any, .any], [], [(0, .row 39)], 1⟩), v_11_5⟩
noncomputable def B11 : Int → Int → Int → Int → (Y11 → Prop) → Prop :=
  fun x0 x1 x2 x3 K ↦ V22 x0 fun y5 ↦ V22 x1 fun y6 ↦ br (!y5) (K ([], 1)) (br (!y6) (K ([], 1)) (br (decide (x3 < 1)) (K ([], 1)) (br (decide (x3 > 8)) (K ([], 1)) (br (decide (x2 < 1)) (K ([], 1)) (br (decide (x2 > 32)) (K ([], 1)) (br (decide (x2 > IntKind.i64.wrap (x1 - x0))) (K ([], 1)) (s_11_5 x0 x1 x2 x3 0 fun y7 y8 ↦ K (y8, y7))))))))
theorem V11_ex : ∃ V : Int → Int → Int → Int → (Y11 → Prop) → Prop, V = B11 := ⟨_, rfl⟩
noncomputable def V11 : Int → Int → Int → Int → (Y11 → Prop) → Prop := Classical.choose V11_ex
theorem V11_eq : V11 = B11 := Classical.choose_spec V11_ex
theorem pook_11_7_11 : PiecesOk Try.prog env (ctxG env false [] R22 [] []) 11 b11 :=
  pieces_at (rfIn_body (fn := f11) (b := b11) rfl hb11) (L := []) (S := []) (fun _ => rfl) (fun _ => rfl) (by kernel_rfl) (by kernel_rfl) (fun _ hq => by cases hq) (fun _ hq => by cases hq)
theorem book_11_7 : BodiesOk Try.prog env (ctxG env false [] R22 [] []) := bodies_okG (ks := []) (by kernel_rfl) (fun _ hq => by cases hq)
theorem stok_11_7 (k : Nat) (x1 : Int) (x2 : Int) (x3 : Int) (x4 : Int) (x5 : Int) (x6 : Int) (x7 : (List Task)) (K : Ex → List (SV env.T) → Prop) : l_11_7 (k + 1) x1 x2 x3 x4 x5 x6 x7 (fun y1 y2 => K (.exit 0) [.nils, .int .i64 y1, .dat 39 y2]) = vcCode env (ctxG env false [] R22 [] []) 2000 11 (loopAt b11 7) (insSt p_11_7.head [.int .i64 x1, .int .i64 x2, .int .i64 x3, .int .i64 x4, .nils, .int .i64 x5, .int .i64 x6, .dat 39 x7]) (stepK p_11_7 (w_11_7 k) K) := by kernel_rfl
theorem wiok_11_7 (k : Nat) (vs : List (SV env.T)) (K : Ex → List (SV env.T) → Prop) (h : w_11_7 k vs K) : ∃ x1 : Int, ∃ x2 : Int, ∃ x3 : Int, ∃ x4 : Int, ∃ x5 : Int, ∃ x6 : Int, ∃ x7 : (List Task), vs = [.int .i64 x1, .int .i64 x2, .int .i64 x3, .int .i64 x4, .nils, .int .i64 x5, .int .i64 x6, .dat 39 x7] ∧ l_11_7 k x1 x2 x3 x4 x5 x6 x7 (fun y1 y2 => K (.exit 0) [.nils, .int .i64 y1, .dat 39 y2]) := by
  unfold w_11_7 at h
  replace h := dCI_spec h
  obtain ⟨x1, vs0, e0, h⟩ := h
  replace h := dCI_spec h
  obtain ⟨x2, vs1, e1, h⟩ := h
  replace h := dCI_spec h
  obtain ⟨x3, vs2, e2, h⟩ := h
  replace h := dCI_spec h
  obtain ⟨x4, vs3, e3, h⟩ := h
  replace h := dCN_spec h
  obtain ⟨vs4, e4, h⟩ := h
  replace h := dCI_spec h
  obtain ⟨x5, vs5, e5, h⟩ := h
  replace h := dCI_spec h
  obtain ⟨x6, vs6, e6, h⟩ := h
  replace h := dCD_spec h
  obtain ⟨x7, vs7, e7, h⟩ := h
  replace h := dCE_spec h
  obtain ⟨e, h⟩ := h
  exact ⟨x1, x2, x3, x4, x5, x6, x7, by rw [e0, e1, e2, e3, e4, e5, e6, e7, e], h⟩
theorem zeok_11_7 (x1 : Int) (x2 : Int) (x3 : Int) (x4 : Int) (x5 : Int) (x6 : Int) (x7 : (List Task)) (K : Ex → List (SV env.T) → Prop) : l_11_7 0 x1 x2 x3 x4 x5 x6 x7 (fun y1 y2 => K (.exit 0) [.nils, .int .i64 y1, .dat 39 y2]) = False := by kernel_rfl
theorem ok_11_7 : PieceOk Try.prog env p_11_7 (.loop (loopAt b11 7)) := by
  refine loop_step (Wn := w_11_7) tab (ctxG_ok R22_ok false [] _ _) book_11_7 (pieces_sub pook_11_7_11 (by kernel_rfl)) rfl ?_ 2000 ?_
  · intro vs K h
    obtain ⟨x1, x2, x3, x4, x5, x6, x7, _, h⟩ := wiok_11_7 0 vs K h
    exact Eq.mp (zeok_11_7 x1 x2 x3 x4 x5 x6 x7 K) h
  · intro k vs K h
    obtain ⟨x1, x2, x3, x4, x5, x6, x7, rfl, h⟩ := wiok_11_7 (k + 1) vs K h
    exact Eq.mp (stok_11_7 k x1 x2 x3 x4 x5 x6 x7 K) h
theorem pooq_11_5_11 : PiecesOk Try.prog env (ctxG env false [] R22 [(11, [(7, p_11_7)])] []) 11 b11 :=
  pieces_at (rfIn_body (fn := f11) (b := b11) rfl hb11) (L := [(7, p_11_7)]) (S := []) (fun _ => rfl) (fun _ => rfl) (by kernel_rfl) (by kernel_rfl) (List.forall_mem_cons.2 ⟨fun _ => ok_11_7, (fun _ hq => by cases hq)⟩) (fun _ hq => by cases hq)
theorem booq_11_5 : BodiesOk Try.prog env (ctxG env false [] R22 [(11, [(7, p_11_7)])] []) := bodies_okG (ks := [11]) (by kernel_rfl) (List.forall_mem_cons.2 ⟨body_at (fn := f11) (body := b11) rfl hb11 pooq_11_5_11, (fun _ hq => by cases hq)⟩)
theorem stoq_11_5 (x1 : Int) (x2 : Int) (x3 : Int) (x4 : Int) (x5 : Int) (K : Ex → List (SV env.T) → Prop) : s_11_5  x1 x2 x3 x4 x5 (fun y1 y2 => K .ret [.int .i64 y1, .dat 39 y2]) = vcCode env (ctxG env false [] R22 [(11, [(7, p_11_7)])] []) 2000 11 (seqAt b11 5) (insSt q_11_5.head [.int .i64 x1, .int .i64 x2, .int .i64 x3, .int .i64 x4, .nils, .int .i64 x5]) (outP env q_11_5 K) := by kernel_rfl
theorem wioq_11_5 (vs : List (SV env.T)) (K : Ex → List (SV env.T) → Prop) (h : v_11_5 vs K) : ∃ x1 : Int, ∃ x2 : Int, ∃ x3 : Int, ∃ x4 : Int, ∃ x5 : Int, vs = [.int .i64 x1, .int .i64 x2, .int .i64 x3, .int .i64 x4, .nils, .int .i64 x5] ∧ s_11_5  x1 x2 x3 x4 x5 (fun y1 y2 => K .ret [.int .i64 y1, .dat 39 y2]) := by
  unfold v_11_5 at h
  replace h := dCI_spec h
  obtain ⟨x1, vs0, e0, h⟩ := h
  replace h := dCI_spec h
  obtain ⟨x2, vs1, e1, h⟩ := h
  replace h := dCI_spec h
  obtain ⟨x3, vs2, e2, h⟩ := h
  replace h := dCI_spec h
  obtain ⟨x4, vs3, e3, h⟩ := h
  replace h := dCN_spec h
  obtain ⟨vs4, e4, h⟩ := h
  replace h := dCI_spec h
  obtain ⟨x5, vs5, e5, h⟩ := h
  replace h := dCE_spec h
  obtain ⟨e, h⟩ := h
  exact ⟨x1, x2, x3, x4, x5, by rw [e0, e1, e2, e3, e4, e5, e], h⟩
theorem oq_11_5 : PieceOk Try.prog env q_11_5 (seqAt b11 5) := by
  refine seq_step tab (ctxG_ok R22_ok false [] _ _) booq_11_5 (pieces_subS pooq_11_5_11 (by kernel_rfl)) 2000 ?_
  intro vs K h
  obtain ⟨x1, x2, x3, x4, x5, rfl, h⟩ := wioq_11_5 vs K h
  exact Eq.mp (stoq_11_5 x1 x2 x3 x4 x5 K) h
theorem po_11_11 : PiecesOk Try.prog env (ctxG env false [] R22 [(11, [(7, p_11_7)])] [(11, [(5, q_11_5)])]) 11 b11 :=
  pieces_at (rfIn_body (fn := f11) (b := b11) rfl hb11) (L := [(7, p_11_7)]) (S := [(5, q_11_5)]) (fun _ => rfl) (fun _ => rfl) (by kernel_rfl) (by kernel_rfl) (List.forall_mem_cons.2 ⟨fun _ => ok_11_7, (fun _ hq => by cases hq)⟩) (List.forall_mem_cons.2 ⟨fun _ => oq_11_5, (fun _ hq => by cases hq)⟩)
theorem bo_11 : BodiesOk Try.prog env (ctxG env false [] R22 [(11, [(7, p_11_7)])] [(11, [(5, q_11_5)])]) := bodies_okG (ks := [11]) (by kernel_rfl) (List.forall_mem_cons.2 ⟨body_at (fn := f11) (body := b11) rfl hb11 po_11_11, (fun _ hq => by cases hq)⟩)
theorem eq_11 (x0 : Int) (x1 : Int) (x2 : Int) (x3 : Int) (K : Y11 → Prop) : vcCode env (ctxG env false [] R22 [(11, [(7, p_11_7)])] [(11, [(5, q_11_5)])]) 2000 11 b11 (entry env f11 [v3 x0, v3 x1, v3 x2, v3 x3]) (finR env f11 decR11 K) = B11 x0 x1 x2 x3 K := by kernel_rfl
noncomputable def rule11 : Nat × Rule env := (11, ruleF env decA11 encR11 fun x => V11 x.1 x.2.1 x.2.2.1 x.2.2.2)
theorem r11 : RuleOk Try.prog env 11 rule11.2 :=
  rule_fun tab (ctxG_ok R22_ok false [] _ _) bo_11 (f := 11) (fn := f11) rfl hb11 po_11_11 2000 encA11 hA11 hR11 hD11 (fun _ => of_decide_eq_true (by kernel_rfl)) (fun x K => (eq_11 x.1 x.2.1 x.2.2.1 x.2.2.2 K).trans (by rw [V11_eq]))
noncomputable def R11 : List (Nat × Rule env) := rule11 :: R22
theorem R11_ok : AllOk Try.prog env R11 := ⟨r11, R22_ok⟩
-- 30 queuelab/queuelabref37.Tasks
noncomputable def f30 : Func := Try.f30
noncomputable def b30 : Code := (Try.f30.body).getD .skip
abbrev X30 := (List Task)
def encA30 (x : X30) : List (SV env.T) := [v22 x]
def decA30 (l : List (SV env.T)) : Option X30 := match l with
  | [s0] => match u22 s0 with
    | some x0 => some (x0)
    | _ => none
  | _ => none
theorem hA30 (l : List (SV env.T)) (x : X30) (h : decA30 l = some x) : WkA env.has l (encA30 x) := by
  unfold decA30 at h; split at h
  · split at h
    · rename_i h0; cases h; exact (.cons (u22_wk h0) .nil)
    · cases h
  · cases h
abbrev Y30 := Bool
def encR30 (x : Y30) : List (SV env.T) := [v4 x]
def decR30 (l : List (SV env.T)) : Option Y30 := match l with
  | [s0] => match u4 s0 with
    | some x0 => some (x0)
    | _ => none
  | _ => none
theorem hR30 (l : List (SV env.T)) (x : Y30) (h : decR30 l = some x) : WkA env.has l (encR30 x) := by
  unfold decR30 at h; split at h
  · split at h
    · rename_i h0; cases h; exact (.cons (u4_wk h0) .nil)
    · cases h
  · cases h
theorem hD30 (y : Y30) : isDataV (tupV (encR30 y)) = true := rfl
theorem hb30 : f30.body = some b30 := by kernel_rfl
def s_30_9 : (List Task) → Bool → Int → Int → Int → Int → Int → (Bool → Prop) → ((List Task) → Bool → Int → Prop) → Prop :=
  fun x1 x2 x3 _ _ x6 _ kr kn ↦ br (decide (x3 > 0)) (br (inb (IntKind.i64.wrap (x3 - 1)) (↑x1.length : Int)) (br ((x1.getD (IntKind.i64.wrap (x3 - 1)).toNat (env.d 39)).to_ != x6) (kr false) (kn x1 x2 x3)) False) (kn x1 x2 x3)
def v_30_9 (vs : List (SV env.T)) (K : Ex → List (SV env.T) → Prop) : Prop :=
  dCD 39 vs fun x1 vs => dCB vs fun x2 vs => dCI .i64 vs fun x3 vs => dCI .i64 vs fun x4 vs => dCI .i64 vs fun x5 vs => dCI .i64 vs fun x6 vs => dCI .i64 vs fun x7 vs => dCE vs (s_30_9 x1 x2 x3 x4 x5 x6 x7 (fun y1 => K .ret [.bool y1]) (fun y1 y2 y3 => K .normal [.dat 39 y1, .bool y2, .int .i64 y3]))
def q_30_9 : Piece env := ⟨⟨[.holeD 39, .any, .hole, .hole, .ptr 0 0, .any, .any, .any, .any, .any, .any, .any, .any, .any, .any, .any, .any, .any, .any, .any, .any, .any, .any, .any, .any, .any, .any, .any, .any, .any, .any, .any, .any, .any, .any, .any, .any, .any, .any, .any, .any, .any, .any, .any, .any, .any, .any, .any, .any, .any, .any, .any, .any, .any, .any, .any, .any, .any, .any, .any, .any, .any, .any, .any, .any, .any, .any, .any, .any, .any, .any, .any, .any], [], [(0, .cells 39 [.hole, .hole, .hole, .hole])], 1⟩, exitF (some ⟨[.holeD 39, .any, .hole, .hole, .any, .any, .any, .any, .any, .any, .any, .any, .any, .any, .any, .any, .any, .any, .any, .any, .any, .any, .any, .any, .any, .any, .any, .any, .any, .any, .any, .any, .any, .any, .any, .any, .any, .any, .any, .any, .any, .any, .any, .any, .any, .any, .any, .any, .any, .any, .any, .any, .any, .any, .any, .any, .any, .any, .any, .any, .any, .any, .any, .any, .any, .any, .any, .any, .any, .any, .any, .any, .any], [], [], 0⟩) [] (some ⟨[.any, .any, .hole, .any, .any, .any, .any, .any, .any, .any, .any, .any, .any, .any, .any, .any, .any, .any, .any, .any, .any, .any, .any, .any, .any, .any, .any, .any, .any, .any, .any, .any, .any, .any, .any, .any, .any, .any, .any, .any, .any, .any, .any, .any, .any, .any, .any, .any, .any, .any, .any, .any, .any, .any, .any, .any, .any, .any, .any, .any, .any, .any, .any, .any, .any, .any, .any, .any, .any, .any, .any, .any, .any], [], [], 0⟩), v_30_9⟩
def l_30_2 : Nat → (List Task) → Bool → Int → (Bool → Prop) → ((List Task) → Bool → Prop) → Prop
  | 0 => fun _ _ _ _ _ => False
  | k + 1 => fun x1 x2 x3 kr k0 ↦ br (decide (x3 < (↑x1.length : Int))) (br (inb x3 (↑x1.length : Int)) (V22 (x1.getD x3.toNat (env.d 39)).from_ fun y7 ↦ V22 (x1.getD x3.toNat (env.d 39)).to_ fun y8 ↦ br (!y7) (kr false) (br (!y8) (kr false) (br (decide ((x1.getD x3.toNat (env.d 39)).from_ ≥ (x1.getD x3.toNat (env.d 39)).to_)) (kr false) (br ((x1.getD x3.toNat (env.d 39)).number != x3) (kr false) (br (decide ((x1.getD x3.toNat (env.d 39)).worker < 0)) (kr false) (br (decide ((x1.getD x3.toNat (env.d 39)).worker > 7)) (kr false) (s_30_9 x1 x2 x3 (x1.getD x3.toNat (env.d 39)).number (x1.getD x3.toNat (env.d 39)).worker (x1.getD x3.toNat (env.d 39)).from_ (x1.getD x3.toNat (env.d 39)).to_ kr fun y9 y10 y11 ↦ l_30_2 k y9 y10 (IntKind.i64.wrap (y11 + 1)) kr k0))))))) False) (k0 x1 x2)
def w_30_2 (k : Nat) (vs : List (SV env.T)) (K : Ex → List (SV env.T) → Prop) : Prop :=
  dCD 39 vs fun x1 vs => dCB vs fun x2 vs => dCI .i64 vs fun x3 vs => dCE vs (l_30_2 k x1 x2 x3 (fun y1 => K .ret [.bool y1]) (fun y1 y2 => K (.exit 0) [.dat 39 y1, .bool y2]))
def p_30_2 : Piece env := ⟨⟨[.holeD 39, .any, .hole, .hole, .any, .any, .any, .any, .any, .any, .any, .any, .any, .any, .any, .any, .any, .any, .any, .any, .any, .any, .any, .any, .any, .any, .any, .any, .any, .any, .any, .any, .any, .any, .any, .any, .any, .any, .any, .any, .any, .any, .any, .any, .any, .any, .any, .any, .any, .any, .any, .any, .any, .any, .any, .any, .any, .any, .any, .any, .any, .any, .any, .any, .any, .any, .any, .any, .any, .any, .any, .any, .any], [], [], 0⟩, exitF none [(0, ⟨[.holeD 39, .any, .hole, .any, .any, .any, .any, .any, .any, .any, .any, .any, .any, .any, .any, .any, .any, .any, .any, .any, .any, .any, .any, .any, .any, .any, .any, .any, .any, .any, .any, .any, .any, .any, .any, .any, .any, .any, .any, .any, .any, .any, .any, .any, .any, .any, .any, .any, .any, .any, .any, .any, .any, .any, .any, .any, .any, .any, .any, .any, .any, .any, .any, .any, .any, .any, .any, .any, .any, .any, .any, .any, .any], [], [], 0⟩)] (some ⟨[.any, .any, .hole, .any, .any, .any, .any, .any, .any, .any, .any, .any, .any, .any, .any, .any, .any, .any, .any, .any, .any, .any, .any, .any, .any, .any, .any, .any, .any, .any, .any, .any, .any, .any, .any, .any, .any, .any, .any, .any, .any, .any, .any, .any, .any, .any, .any, .any, .any, .any, .any, .any, .any, .any, .any, .any, .any, .any, .any, .any, .any, .any, .any, .any, .any, .any, .any, .any, .any, .any, .any, .any, .any], [], [], 0⟩), fun vs K => ∃ k, w_30_2 k vs K⟩
noncomputable def B30 : (List Task) → (Y30 → Prop) → Prop :=
  fun x0 K ↦ ∃ k2, l_30_2 k2 x0 false 0 K fun y3 _ ↦ br (decide ((↑y3.length : Int) ≥ 1)) (K (decide ((↑y3.length : Int) ≤ 32))) (K false)
theorem V30_ex : ∃ V : (List Task) → (Y30 → Prop) → Prop, V = B30 := ⟨_, rfl⟩
noncomputable def V30 : (List Task) → (Y30 → Prop) → Prop := Classical.choose V30_ex
theorem V30_eq : V30 = B30 := Classical.choose_spec V30_ex
theorem pooq_30_9_30 : PiecesOk Try.prog env (ctxG env false [] R11 [] []) 30 b30 :=
  pieces_at (rfIn_body (fn := f30) (b := b30) rfl hb30) (L := []) (S := []) (fun _ => rfl) (fun _ => rfl) (by kernel_rfl) (by kernel_rfl) (fun _ hq => by cases hq) (fun _ hq => by cases hq)
theorem booq_30_9 : BodiesOk Try.prog env (ctxG env false [] R11 [] []) := bodies_okG (ks := []) (by kernel_rfl) (fun _ hq => by cases hq)
theorem stoq_30_9 (x1 : (List Task)) (x2 : Bool) (x3 : Int) (x4 : Int) (x5 : Int) (x6 : Int) (x7 : Int) (K : Ex → List (SV env.T) → Prop) : s_30_9  x1 x2 x3 x4 x5 x6 x7 (fun y1 => K .ret [.bool y1]) (fun y1 y2 y3 => K .normal [.dat 39 y1, .bool y2, .int .i64 y3]) = vcCode env (ctxG env false [] R11 [] []) 2000 30 (seqAt b30 9) (insSt q_30_9.head [.dat 39 x1, .bool x2, .int .i64 x3, .int .i64 x4, .int .i64 x5, .int .i64 x6, .int .i64 x7]) (outP env q_30_9 K) := by kernel_rfl
theorem wioq_30_9 (vs : List (SV env.T)) (K : Ex → List (SV env.T) → Prop) (h : v_30_9 vs K) : ∃ x1 : (List Task), ∃ x2 : Bool, ∃ x3 : Int, ∃ x4 : Int, ∃ x5 : Int, ∃ x6 : Int, ∃ x7 : Int, vs = [.dat 39 x1, .bool x2, .int .i64 x3, .int .i64 x4, .int .i64 x5, .int .i64 x6, .int .i64 x7] ∧ s_30_9  x1 x2 x3 x4 x5 x6 x7 (fun y1 => K .ret [.bool y1]) (fun y1 y2 y3 => K .normal [.dat 39 y1, .bool y2, .int .i64 y3]) := by
  unfold v_30_9 at h
  replace h := dCD_spec h
  obtain ⟨x1, vs0, e0, h⟩ := h
  replace h := dCB_spec h
  obtain ⟨x2, vs1, e1, h⟩ := h
  replace h := dCI_spec h
  obtain ⟨x3, vs2, e2, h⟩ := h
  replace h := dCI_spec h
  obtain ⟨x4, vs3, e3, h⟩ := h
  replace h := dCI_spec h
  obtain ⟨x5, vs4, e4, h⟩ := h
  replace h := dCI_spec h
  obtain ⟨x6, vs5, e5, h⟩ := h
  replace h := dCI_spec h
  obtain ⟨x7, vs6, e6, h⟩ := h
  replace h := dCE_spec h
  obtain ⟨e, h⟩ := h
  exact ⟨x1, x2, x3, x4, x5, x6, x7, by rw [e0, e1, e2, e3, e4, e5, e6, e], h⟩
theorem oq_30_9 : PieceOk Try.prog env q_30_9 (seqAt b30 9) := by
  refine seq_step tab (ctxG_ok R11_ok false [] _ _) booq_30_9 (pieces_subS pooq_30_9_30 (by kernel_rfl)) 2000 ?_
  intro vs K h
  obtain ⟨x1, x2, x3, x4, x5, x6, x7, rfl, h⟩ := wioq_30_9 vs K h
  exact Eq.mp (stoq_30_9 x1 x2 x3 x4 x5 x6 x7 K) h
theorem pook_30_2_30 : PiecesOk Try.prog env (ctxG env false [] R11 [] [(30, [(9, q_30_9)])]) 30 b30 :=
  pieces_at (rfIn_body (fn := f30) (b := b30) rfl hb30) (L := []) (S := [(9, q_30_9)]) (fun _ => rfl) (fun _ => rfl) (by kernel_rfl) (by kernel_rfl) (fun _ hq => by cases hq) (List.forall_mem_cons.2 ⟨fun _ => oq_30_9, (fun _ hq => by cases hq)⟩)
theorem book_30_2 : BodiesOk Try.prog env (ctxG env false [] R11 [] [(30, [(9, q_30_9)])]) := bodies_okG (ks := [30]) (by kernel_rfl) (List.forall_mem_cons.2 ⟨body_at (fn := f30) (body := b30) rfl hb30 pook_30_2_30, (fun _ hq => by cases hq)⟩)
theorem stok_30_2 (k : Nat) (x1 : (List Task)) (x2 : Bool) (x3 : Int) (K : Ex → List (SV env.T) → Prop) : l_30_2 (k + 1) x1 x2 x3 (fun y1 => K .ret [.bool y1]) (fun y1 y2 => K (.exit 0) [.dat 39 y1, .bool y2]) = vcCode env (ctxG env false [] R11 [] [(30, [(9, q_30_9)])]) 2000 30 (loopAt b30 2) (insSt p_30_2.head [.dat 39 x1, .bool x2, .int .i64 x3]) (stepK p_30_2 (w_30_2 k) K) := by kernel_rfl
theorem wiok_30_2 (k : Nat) (vs : List (SV env.T)) (K : Ex → List (SV env.T) → Prop) (h : w_30_2 k vs K) : ∃ x1 : (List Task), ∃ x2 : Bool, ∃ x3 : Int, vs = [.dat 39 x1, .bool x2, .int .i64 x3] ∧ l_30_2 k x1 x2 x3 (fun y1 => K .ret [.bool y1]) (fun y1 y2 => K (.exit 0) [.dat 39 y1, .bool y2]) := by
  unfold w_30_2 at h
  replace h := dCD_spec h
  obtain ⟨x1, vs0, e0, h⟩ := h
  replace h := dCB_spec h
  obtain ⟨x2, vs1, e1, h⟩ := h
  replace h := dCI_spec h
  obtain ⟨x3, vs2, e2, h⟩ := h
  replace h := dCE_spec h
  obtain ⟨e, h⟩ := h
  exact ⟨x1, x2, x3, by rw [e0, e1, e2, e], h⟩
theorem zeok_30_2 (x1 : (List Task)) (x2 : Bool) (x3 : Int) (K : Ex → List (SV env.T) → Prop) : l_30_2 0 x1 x2 x3 (fun y1 => K .ret [.bool y1]) (fun y1 y2 => K (.exit 0) [.dat 39 y1, .bool y2]) = False := by kernel_rfl
theorem ok_30_2 : PieceOk Try.prog env p_30_2 (.loop (loopAt b30 2)) := by
  refine loop_step (Wn := w_30_2) tab (ctxG_ok R11_ok false [] _ _) book_30_2 (pieces_sub pook_30_2_30 (by kernel_rfl)) rfl ?_ 2000 ?_
  · intro vs K h
    obtain ⟨x1, x2, x3, _, h⟩ := wiok_30_2 0 vs K h
    exact Eq.mp (zeok_30_2 x1 x2 x3 K) h
  · intro k vs K h
    obtain ⟨x1, x2, x3, rfl, h⟩ := wiok_30_2 (k + 1) vs K h
    exact Eq.mp (stok_30_2 k x1 x2 x3 K) h
theorem po_30_30 : PiecesOk Try.prog env (ctxG env false [] R11 [(30, [(2, p_30_2)])] [(30, [(9, q_30_9)])]) 30 b30 :=
  pieces_at (rfIn_body (fn := f30) (b := b30) rfl hb30) (L := [(2, p_30_2)]) (S := [(9, q_30_9)]) (fun _ => rfl) (fun _ => rfl) (by kernel_rfl) (by kernel_rfl) (List.forall_mem_cons.2 ⟨fun _ => ok_30_2, (fun _ hq => by cases hq)⟩) (List.forall_mem_cons.2 ⟨fun _ => oq_30_9, (fun _ hq => by cases hq)⟩)
theorem bo_30 : BodiesOk Try.prog env (ctxG env false [] R11 [(30, [(2, p_30_2)])] [(30, [(9, q_30_9)])]) := bodies_okG (ks := [30]) (by kernel_rfl) (List.forall_mem_cons.2 ⟨body_at (fn := f30) (body := b30) rfl hb30 po_30_30, (fun _ hq => by cases hq)⟩)
theorem eq_30 (x0 : (List Task)) (K : Y30 → Prop) : vcCode env (ctxG env false [] R11 [(30, [(2, p_30_2)])] [(30, [(9, q_30_9)])]) 2000 30 b30 (entry env f30 [v22 x0]) (finR env f30 decR30 K) = B30 x0 K := by kernel_rfl
noncomputable def rule30 : Nat × Rule env := (30, ruleF env decA30 encR30 fun x => V30 x)
theorem r30 : RuleOk Try.prog env 30 rule30.2 :=
  rule_fun tab (ctxG_ok R11_ok false [] _ _) bo_30 (f := 30) (fn := f30) rfl hb30 po_30_30 2000 encA30 hA30 hR30 hD30 (fun _ => of_decide_eq_true (by kernel_rfl)) (fun x K => (eq_30 x K).trans (by rw [V30_eq]))
noncomputable def R30 : List (Nat × Rule env) := rule30 :: R11
theorem R30_ok : AllOk Try.prog env R30 := ⟨r30, R11_ok⟩
-- 35 queuelab/queuelabref32.eight
noncomputable def f35 : Func := Try.f35
noncomputable def b35 : Code := (Try.f35.body).getD .skip
abbrev X35 := Int × Int
def encA35 (x : X35) : List (SV env.T) := [v29 x.1, v3 x.2]
def decA35 (l : List (SV env.T)) : Option X35 := match l with
  | [s0, s1] => match u29 s0, u3 s1 with
    | some x0, some x1 => some (x0, x1)
    | _, _ => none
  | _ => none
theorem hA35 (l : List (SV env.T)) (x : X35) (h : decA35 l = some x) : WkA env.has l (encA35 x) := by
  unfold decA35 at h; split at h
  · split at h
    · rename_i h0 h1; cases h; exact (.cons (u29_wk h0) (.cons (u3_wk h1) .nil))
    · cases h
  · cases h
abbrev Y35 := Int
def encR35 (x : Y35) : List (SV env.T) := [v29 x]
def decR35 (l : List (SV env.T)) : Option Y35 := match l with
  | [s0] => match u29 s0 with
    | some x0 => some (x0)
    | _ => none
  | _ => none
theorem hR35 (l : List (SV env.T)) (x : Y35) (h : decR35 l = some x) : WkA env.has l (encR35 x) := by
  unfold decR35 at h; split at h
  · split at h
    · rename_i h0; cases h; exact (.cons (u29_wk h0) .nil)
    · cases h
  · cases h
theorem hD35 (y : Y35) : isDataV (tupV (encR35 y)) = true := rfl
theorem hb35 : f35.body = some b35 := by kernel_rfl
def l_35_3 : Nat → Int → Int → Int → Int → (Int → Int → Prop) → Prop
  | 0 => fun _ _ _ _ _ => False
  | k + 1 => fun x1 x2 x3 x4 k0 ↦ br (decide (x4 < 8)) (l_35_3 k (IntKind.u64.wrap (xorI IntKind.u64 x1 (x3.tmod 256) * 1099511628211)) x2 (IntKind.u64.wrap (x3.tdiv 256)) (IntKind.i64.wrap (x4 + 1)) k0) (k0 x1 x2)
def w_35_3 (k : Nat) (vs : List (SV env.T)) (K : Ex → List (SV env.T) → Prop) : Prop :=
  dCI .u64 vs fun x1 vs => dCI .u64 vs fun x2 vs => dCI .u64 vs fun x3 vs => dCI .i64 vs fun x4 vs => dCE vs (l_35_3 k x1 x2 x3 x4 (fun y1 y2 => K (.exit 0) [.int .u64 y1, .int .u64 y2]))
def p_35_3 : Piece env := ⟨⟨[.hole, .any, .any, .any, .hole, .hole, .hole, .any, .any, .any, .any, .any, .any, .any, .any, .any, .any, .any, .any, .any, .any], [], [], 0⟩, exitF none [(0, ⟨[.hole, .any, .any, .any, .hole, .any, .any, .any, .any, .any, .any, .any, .any, .any, .any, .any, .any, .any, .any, .any, .any], [], [], 0⟩)] none, fun vs K => ∃ k, w_35_3 k vs K⟩
noncomputable def B35 : Int → Int → (Y35 → Prop) → Prop :=
  fun x0 x1 K ↦ ∃ k3, l_35_3 k3 x0 0 (IntKind.u64.wrap x1) 0 fun y4 _ ↦ K y4
theorem V35_ex : ∃ V : Int → Int → (Y35 → Prop) → Prop, V = B35 := ⟨_, rfl⟩
noncomputable def V35 : Int → Int → (Y35 → Prop) → Prop := Classical.choose V35_ex
theorem V35_eq : V35 = B35 := Classical.choose_spec V35_ex
theorem pook_35_3_35 : PiecesOk Try.prog env (ctxG env false [] R30 [] []) 35 b35 :=
  pieces_at (rfIn_body (fn := f35) (b := b35) rfl hb35) (L := []) (S := []) (fun _ => rfl) (fun _ => rfl) (by kernel_rfl) (by kernel_rfl) (fun _ hq => by cases hq) (fun _ hq => by cases hq)
theorem book_35_3 : BodiesOk Try.prog env (ctxG env false [] R30 [] []) := bodies_okG (ks := []) (by kernel_rfl) (fun _ hq => by cases hq)
theorem stok_35_3 (k : Nat) (x1 : Int) (x2 : Int) (x3 : Int) (x4 : Int) (K : Ex → List (SV env.T) → Prop) : l_35_3 (k + 1) x1 x2 x3 x4 (fun y1 y2 => K (.exit 0) [.int .u64 y1, .int .u64 y2]) = vcCode env (ctxG env false [] R30 [] []) 2000 35 (loopAt b35 3) (insSt p_35_3.head [.int .u64 x1, .int .u64 x2, .int .u64 x3, .int .i64 x4]) (stepK p_35_3 (w_35_3 k) K) := by kernel_rfl
theorem wiok_35_3 (k : Nat) (vs : List (SV env.T)) (K : Ex → List (SV env.T) → Prop) (h : w_35_3 k vs K) : ∃ x1 : Int, ∃ x2 : Int, ∃ x3 : Int, ∃ x4 : Int, vs = [.int .u64 x1, .int .u64 x2, .int .u64 x3, .int .i64 x4] ∧ l_35_3 k x1 x2 x3 x4 (fun y1 y2 => K (.exit 0) [.int .u64 y1, .int .u64 y2]) := by
  unfold w_35_3 at h
  replace h := dCI_spec h
  obtain ⟨x1, vs0, e0, h⟩ := h
  replace h := dCI_spec h
  obtain ⟨x2, vs1, e1, h⟩ := h
  replace h := dCI_spec h
  obtain ⟨x3, vs2, e2, h⟩ := h
  replace h := dCI_spec h
  obtain ⟨x4, vs3, e3, h⟩ := h
  replace h := dCE_spec h
  obtain ⟨e, h⟩ := h
  exact ⟨x1, x2, x3, x4, by rw [e0, e1, e2, e3, e], h⟩
theorem zeok_35_3 (x1 : Int) (x2 : Int) (x3 : Int) (x4 : Int) (K : Ex → List (SV env.T) → Prop) : l_35_3 0 x1 x2 x3 x4 (fun y1 y2 => K (.exit 0) [.int .u64 y1, .int .u64 y2]) = False := by kernel_rfl
theorem ok_35_3 : PieceOk Try.prog env p_35_3 (.loop (loopAt b35 3)) := by
  refine loop_step (Wn := w_35_3) tab (ctxG_ok R30_ok false [] _ _) book_35_3 (pieces_sub pook_35_3_35 (by kernel_rfl)) rfl ?_ 2000 ?_
  · intro vs K h
    obtain ⟨x1, x2, x3, x4, _, h⟩ := wiok_35_3 0 vs K h
    exact Eq.mp (zeok_35_3 x1 x2 x3 x4 K) h
  · intro k vs K h
    obtain ⟨x1, x2, x3, x4, rfl, h⟩ := wiok_35_3 (k + 1) vs K h
    exact Eq.mp (stok_35_3 k x1 x2 x3 x4 K) h
theorem po_35_35 : PiecesOk Try.prog env (ctxG env false [] R30 [(35, [(3, p_35_3)])] []) 35 b35 :=
  pieces_at (rfIn_body (fn := f35) (b := b35) rfl hb35) (L := [(3, p_35_3)]) (S := []) (fun _ => rfl) (fun _ => rfl) (by kernel_rfl) (by kernel_rfl) (List.forall_mem_cons.2 ⟨fun _ => ok_35_3, (fun _ hq => by cases hq)⟩) (fun _ hq => by cases hq)
theorem bo_35 : BodiesOk Try.prog env (ctxG env false [] R30 [(35, [(3, p_35_3)])] []) := bodies_okG (ks := [35]) (by kernel_rfl) (List.forall_mem_cons.2 ⟨body_at (fn := f35) (body := b35) rfl hb35 po_35_35, (fun _ hq => by cases hq)⟩)
theorem eq_35 (x0 : Int) (x1 : Int) (K : Y35 → Prop) : vcCode env (ctxG env false [] R30 [(35, [(3, p_35_3)])] []) 2000 35 b35 (entry env f35 [v29 x0, v3 x1]) (finR env f35 decR35 K) = B35 x0 x1 K := by kernel_rfl
noncomputable def rule35 : Nat × Rule env := (35, ruleF env decA35 encR35 fun x => V35 x.1 x.2)
theorem r35 : RuleOk Try.prog env 35 rule35.2 :=
  rule_fun tab (ctxG_ok R30_ok false [] _ _) bo_35 (f := 35) (fn := f35) rfl hb35 po_35_35 2000 encA35 hA35 hR35 hD35 (fun _ => of_decide_eq_true (by kernel_rfl)) (fun x K => (eq_35 x.1 x.2 K).trans (by rw [V35_eq]))
noncomputable def R35 : List (Nat × Rule env) := rule35 :: R30
theorem R35_ok : AllOk Try.prog env R35 := ⟨r35, R30_ok⟩
-- 17 queuelab/queuelabref32.Digest
noncomputable def f17 : Func := Try.f17
noncomputable def b17 : Code := (Try.f17.body).getD .skip
abbrev X17 := Int × Record
def encA17 (x : X17) : List (SV env.T) := [v29 x.1, v50 x.2]
def decA17 (l : List (SV env.T)) : Option X17 := match l with
  | [s0, s1] => match u29 s0, u50 s1 with
    | some x0, some x1 => some (x0, x1)
    | _, _ => none
  | _ => none
theorem hA17 (l : List (SV env.T)) (x : X17) (h : decA17 l = some x) : WkA env.has l (encA17 x) := by
  unfold decA17 at h; split at h
  · split at h
    · rename_i h0 h1; cases h; exact (.cons (u29_wk h0) (.cons (u50_wk h1) .nil))
    · cases h
  · cases h
abbrev Y17 := Int
def encR17 (x : Y17) : List (SV env.T) := [v29 x]
def decR17 (l : List (SV env.T)) : Option Y17 := match l with
  | [s0] => match u29 s0 with
    | some x0 => some (x0)
    | _ => none
  | _ => none
theorem hR17 (l : List (SV env.T)) (x : Y17) (h : decR17 l = some x) : WkA env.has l (encR17 x) := by
  unfold decR17 at h; split at h
  · split at h
    · rename_i h0; cases h; exact (.cons (u29_wk h0) .nil)
    · cases h
  · cases h
theorem hD17 (y : Y17) : isDataV (tupV (encR17 y)) = true := rfl
theorem hb17 : f17.body = some b17 := by kernel_rfl
def l_17_8 : Nat → Int → Int → Int → (List Int) → (Int → Int → Prop) → Prop
  | 0 => fun _ _ _ _ _ => False
  | k + 1 => fun x1 x2 x3 x4 k0 ↦ br (decide (x3 < (↑x4.length : Int))) (br (inb x3 (↑x4.length : Int)) (V35 x1 (x4.getD x3.toNat (env.d 3)) fun y7 ↦ l_17_8 k y7 x2 (IntKind.i64.wrap (x3 + 1)) x4 k0) False) (k0 x1 x2)
def w_17_8 (k : Nat) (vs : List (SV env.T)) (K : Ex → List (SV env.T) → Prop) : Prop :=
  dCI .u64 vs fun x1 vs => dCI .u64 vs fun x2 vs => dCI .i64 vs fun x3 vs => dCD 3 vs fun x4 vs => dCE vs (l_17_8 k x1 x2 x3 x4 (fun y1 y2 => K (.exit 0) [.int .u64 y1, .int .u64 y2]))
def p_17_8 : Piece env := ⟨⟨[.hole, .any, .any, .any, .hole, .any, .row 0, .hole, .any, .any, .any, .any, .any, .any, .any, .any, .any, .any, .any, .any, .any, .any, .any, .any, .any, .any, .any, .any, .any, .any, .any, .any, .any, .any, .any, .any, .any, .any, .any, .any, .any, .any, .any, .any, .any, .any, .any, .any, .any, .any, .any, .any, .any, .any, .any, .any, .any], [], [(0, .row 3)], 1⟩, exitF none [(0, ⟨[.hole, .any, .any, .any, .hole, .any, .any, .any, .any, .any, .any, .any, .any, .any, .any, .any, .any, .any, .any, .any, .any, .any, .any, .any, .any, .any, .any, .any, .any, .any, .any, .any, .any, .any, .any, .any, .any, .any, .any, .any, .any, .any, .any, .any, .any, .any, .any, .any, .any, .any, .any, .any, .any, .any, .any, .any, .any], [], [], 0⟩)] none, fun vs K => ∃ k, w_17_8 k vs K⟩
def s_17_6 : Int → Int → Int → Int → Int → Int → Int → Int → Int → Int → Int → Int → Bool → Bool → (Int → Prop) → Prop :=
  fun x1 x2 x3 x4 x5 x6 x7 x8 x9 x10 x11 x12 _ _ kr ↦ ∃ k17, l_17_8 k17 x1 x2 0 [x4, x5, x6, x7, x8, x9, x10, x11, x12, x3] fun y18 _ ↦ kr y18
def v_17_6 (vs : List (SV env.T)) (K : Ex → List (SV env.T) → Prop) : Prop :=
  dCI .u64 vs fun x1 vs => dCI .u64 vs fun x2 vs => dCI .i64 vs fun x3 vs => dCI .i64 vs fun x4 vs => dCI .i64 vs fun x5 vs => dCI .i64 vs fun x6 vs => dCI .i64 vs fun x7 vs => dCI .i64 vs fun x8 vs => dCI .i64 vs fun x9 vs => dCI .i64 vs fun x10 vs => dCI .i64 vs fun x11 vs => dCI .i64 vs fun x12 vs => dCB vs fun x13 vs => dCB vs fun x14 vs => dCE vs (s_17_6 x1 x2 x3 x4 x5 x6 x7 x8 x9 x10 x11 x12 x13 x14 (fun y1 => K .ret [.int .u64 y1]))
def q_17_6 : Piece env := ⟨⟨[.hole, .any, .any, .ptr 0 0, .hole, .hole, .any, .any, .any, .any, .any, .any, .any, .any, .any, .any, .any, .any, .any, .any, .any, .any, .any, .any, .any, .any, .any, .any, .any, .any, .any, .any, .any, .any, .any, .any, .any, .any, .any, .any, .any, .any, .any, .any, .any, .any, .any, .any, .any, .any, .any, .any, .any, .any, .any, .any, .any], [], [(0, .cells 50 [.hole, .hole, .hole, .hole, .hole, .hole, .hole, .hole, .hole, .hole, .hole])], 1⟩, exitF none [] (some ⟨[.any, .any, .any, .any, .hole, .any, .any, .any, .any, .any, .any, .any, .any, .any, .any, .any, .any, .any, .any, .any, .any, .any, .any, .any, .any, .any, .any, .any, .any, .any, .any, .any, .any, .any, .any, .any, .any, .any, .any, .any, .any, .any, .any, .any, .any, .any, .any, .any, .any, .any, .any, .any, .any, .any, .any, .any, .any], [], [], 0⟩), v_17_6⟩
def s_17_4 : Int → Int → Int → Int → Int → Int → Int → Int → Int → Int → Int → Int → Bool → Bool → (Int → Prop) → Prop :=
  fun x1 x2 x3 x4 x5 x6 x7 x8 x9 x10 x11 x12 x13 x14 kr ↦ br x14 (s_17_6 x1 x2 (IntKind.i64.wrap (x3 + 2)) x4 x5 x6 x7 x8 x9 x10 x11 x12 x13 x14 kr) (s_17_6 x1 x2 x3 x4 x5 x6 x7 x8 x9 x10 x11 x12 x13 x14 kr)
def v_17_4 (vs : List (SV env.T)) (K : Ex → List (SV env.T) → Prop) : Prop :=
  dCI .u64 vs fun x1 vs => dCI .u64 vs fun x2 vs => dCI .i64 vs fun x3 vs => dCI .i64 vs fun x4 vs => dCI .i64 vs fun x5 vs => dCI .i64 vs fun x6 vs => dCI .i64 vs fun x7 vs => dCI .i64 vs fun x8 vs => dCI .i64 vs fun x9 vs => dCI .i64 vs fun x10 vs => dCI .i64 vs fun x11 vs => dCI .i64 vs fun x12 vs => dCB vs fun x13 vs => dCB vs fun x14 vs => dCE vs (s_17_4 x1 x2 x3 x4 x5 x6 x7 x8 x9 x10 x11 x12 x13 x14 (fun y1 => K .ret [.int .u64 y1]))
def q_17_4 : Piece env := ⟨⟨[.hole, .any, .any, .ptr 0 0, .hole, .hole, .any, .any, .any, .any, .any, .any, .any, .any, .any, .any, .any, .any, .any, .any, .any, .any, .any, .any, .any, .any, .any, .any, .any, .any, .any, .any, .any, .any, .any, .any, .any, .any, .any, .any, .any, .any, .any, .any, .any, .any, .any, .any, .any, .any, .any, .any, .any, .any, .any, .any, .any], [], [(0, .cells 50 [.hole, .hole, .hole, .hole, .hole, .hole, .hole, .hole, .hole, .hole, .hole])], 1⟩, exitF none [] (some ⟨[.any, .any, .any, .any, .hole, .any, .any, .any, .any, .any, .any, .any, .any, .any, .any, .any, .any, .any, .any, .any, .any, .any, .any, .any, .any, .any, .any, .any, .any, .any, .any, .any, .any, .any, .any, .any, .any, .any, .any, .any, .any, .any, .any, .any, .any, .any, .any, .any, .any, .any, .any, .any, .any, .any, .any, .any, .any], [], [], 0⟩), v_17_4⟩
noncomputable def B17 : Int → Record → (Y17 → Prop) → Prop :=
  fun x0 x1 K ↦ br x1.p.able (s_17_4 x0 0 1 x1.at_ x1.kind x1.a x1.p.flow x1.p.sub x1.p.number x1.p.data x1.p.size x1.p.sent x1.p.able x1.p.marked K) (s_17_4 x0 0 0 x1.at_ x1.kind x1.a x1.p.flow x1.p.sub x1.p.number x1.p.data x1.p.size x1.p.sent x1.p.able x1.p.marked K)
theorem V17_ex : ∃ V : Int → Record → (Y17 → Prop) → Prop, V = B17 := ⟨_, rfl⟩
noncomputable def V17 : Int → Record → (Y17 → Prop) → Prop := Classical.choose V17_ex
theorem V17_eq : V17 = B17 := Classical.choose_spec V17_ex
theorem pook_17_8_17 : PiecesOk Try.prog env (ctxG env false [] R35 [] []) 17 b17 :=
  pieces_at (rfIn_body (fn := f17) (b := b17) rfl hb17) (L := []) (S := []) (fun _ => rfl) (fun _ => rfl) (by kernel_rfl) (by kernel_rfl) (fun _ hq => by cases hq) (fun _ hq => by cases hq)
theorem book_17_8 : BodiesOk Try.prog env (ctxG env false [] R35 [] []) := bodies_okG (ks := []) (by kernel_rfl) (fun _ hq => by cases hq)
theorem stok_17_8 (k : Nat) (x1 : Int) (x2 : Int) (x3 : Int) (x4 : (List Int)) (K : Ex → List (SV env.T) → Prop) : l_17_8 (k + 1) x1 x2 x3 x4 (fun y1 y2 => K (.exit 0) [.int .u64 y1, .int .u64 y2]) = vcCode env (ctxG env false [] R35 [] []) 2000 17 (loopAt b17 8) (insSt p_17_8.head [.int .u64 x1, .int .u64 x2, .int .i64 x3, .dat 3 x4]) (stepK p_17_8 (w_17_8 k) K) := by kernel_rfl
theorem wiok_17_8 (k : Nat) (vs : List (SV env.T)) (K : Ex → List (SV env.T) → Prop) (h : w_17_8 k vs K) : ∃ x1 : Int, ∃ x2 : Int, ∃ x3 : Int, ∃ x4 : (List Int), vs = [.int .u64 x1, .int .u64 x2, .int .i64 x3, .dat 3 x4] ∧ l_17_8 k x1 x2 x3 x4 (fun y1 y2 => K (.exit 0) [.int .u64 y1, .int .u64 y2]) := by
  unfold w_17_8 at h
  replace h := dCI_spec h
  obtain ⟨x1, vs0, e0, h⟩ := h
  replace h := dCI_spec h
  obtain ⟨x2, vs1, e1, h⟩ := h
  replace h := dCI_spec h
  obtain ⟨x3, vs2, e2, h⟩ := h
  replace h := dCD_spec h
  obtain ⟨x4, vs3, e3, h⟩ := h
  replace h := dCE_spec h
  obtain ⟨e, h⟩ := h
  exact ⟨x1, x2, x3, x4, by rw [e0, e1, e2, e3, e], h⟩
theorem zeok_17_8 (x1 : Int) (x2 : Int) (x3 : Int) (x4 : (List Int)) (K : Ex → List (SV env.T) → Prop) : l_17_8 0 x1 x2 x3 x4 (fun y1 y2 => K (.exit 0) [.int .u64 y1, .int .u64 y2]) = False := by kernel_rfl
theorem ok_17_8 : PieceOk Try.prog env p_17_8 (.loop (loopAt b17 8)) := by
  refine loop_step (Wn := w_17_8) tab (ctxG_ok R35_ok false [] _ _) book_17_8 (pieces_sub pook_17_8_17 (by kernel_rfl)) rfl ?_ 2000 ?_
  · intro vs K h
    obtain ⟨x1, x2, x3, x4, _, h⟩ := wiok_17_8 0 vs K h
    exact Eq.mp (zeok_17_8 x1 x2 x3 x4 K) h
  · intro k vs K h
    obtain ⟨x1, x2, x3, x4, rfl, h⟩ := wiok_17_8 (k + 1) vs K h
    exact Eq.mp (stok_17_8 k x1 x2 x3 x4 K) h
theorem pooq_17_6_17 : PiecesOk Try.prog env (ctxG env false [] R35 [(17, [(8, p_17_8)])] []) 17 b17 :=
  pieces_at (rfIn_body (fn := f17) (b := b17) rfl hb17) (L := [(8, p_17_8)]) (S := []) (fun _ => rfl) (fun _ => rfl) (by kernel_rfl) (by kernel_rfl) (List.forall_mem_cons.2 ⟨fun _ => ok_17_8, (fun _ hq => by cases hq)⟩) (fun _ hq => by cases hq)
theorem booq_17_6 : BodiesOk Try.prog env (ctxG env false [] R35 [(17, [(8, p_17_8)])] []) := bodies_okG (ks := [17]) (by kernel_rfl) (List.forall_mem_cons.2 ⟨body_at (fn := f17) (body := b17) rfl hb17 pooq_17_6_17, (fun _ hq => by cases hq)⟩)
theorem stoq_17_6 (x1 : Int) (x2 : Int) (x3 : Int) (x4 : Int) (x5 : Int) (x6 : Int) (x7 : Int) (x8 : Int) (x9 : Int) (x10 : Int) (x11 : Int) (x12 : Int) (x13 : Bool) (x14 : Bool) (K : Ex → List (SV env.T) → Prop) : s_17_6  x1 x2 x3 x4 x5 x6 x7 x8 x9 x10 x11 x12 x13 x14 (fun y1 => K .ret [.int .u64 y1]) = vcCode env (ctxG env false [] R35 [(17, [(8, p_17_8)])] []) 2000 17 (seqAt b17 6) (insSt q_17_6.head [.int .u64 x1, .int .u64 x2, .int .i64 x3, .int .i64 x4, .int .i64 x5, .int .i64 x6, .int .i64 x7, .int .i64 x8, .int .i64 x9, .int .i64 x10, .int .i64 x11, .int .i64 x12, .bool x13, .bool x14]) (outP env q_17_6 K) := by kernel_rfl
theorem wioq_17_6 (vs : List (SV env.T)) (K : Ex → List (SV env.T) → Prop) (h : v_17_6 vs K) : ∃ x1 : Int, ∃ x2 : Int, ∃ x3 : Int, ∃ x4 : Int, ∃ x5 : Int, ∃ x6 : Int, ∃ x7 : Int, ∃ x8 : Int, ∃ x9 : Int, ∃ x10 : Int, ∃ x11 : Int, ∃ x12 : Int, ∃ x13 : Bool, ∃ x14 : Bool, vs = [.int .u64 x1, .int .u64 x2, .int .i64 x3, .int .i64 x4, .int .i64 x5, .int .i64 x6, .int .i64 x7, .int .i64 x8, .int .i64 x9, .int .i64 x10, .int .i64 x11, .int .i64 x12, .bool x13, .bool x14] ∧ s_17_6  x1 x2 x3 x4 x5 x6 x7 x8 x9 x10 x11 x12 x13 x14 (fun y1 => K .ret [.int .u64 y1]) := by
  unfold v_17_6 at h
  replace h := dCI_spec h
  obtain ⟨x1, vs0, e0, h⟩ := h
  replace h := dCI_spec h
  obtain ⟨x2, vs1, e1, h⟩ := h
  replace h := dCI_spec h
  obtain ⟨x3, vs2, e2, h⟩ := h
  replace h := dCI_spec h
  obtain ⟨x4, vs3, e3, h⟩ := h
  replace h := dCI_spec h
  obtain ⟨x5, vs4, e4, h⟩ := h
  replace h := dCI_spec h
  obtain ⟨x6, vs5, e5, h⟩ := h
  replace h := dCI_spec h
  obtain ⟨x7, vs6, e6, h⟩ := h
  replace h := dCI_spec h
  obtain ⟨x8, vs7, e7, h⟩ := h
  replace h := dCI_spec h
  obtain ⟨x9, vs8, e8, h⟩ := h
  replace h := dCI_spec h
  obtain ⟨x10, vs9, e9, h⟩ := h
  replace h := dCI_spec h
  obtain ⟨x11, vs10, e10, h⟩ := h
  replace h := dCI_spec h
  obtain ⟨x12, vs11, e11, h⟩ := h
  replace h := dCB_spec h
  obtain ⟨x13, vs12, e12, h⟩ := h
  replace h := dCB_spec h
  obtain ⟨x14, vs13, e13, h⟩ := h
  replace h := dCE_spec h
  obtain ⟨e, h⟩ := h
  exact ⟨x1, x2, x3, x4, x5, x6, x7, x8, x9, x10, x11, x12, x13, x14, by rw [e0, e1, e2, e3, e4, e5, e6, e7, e8, e9, e10, e11, e12, e13, e], h⟩
theorem oq_17_6 : PieceOk Try.prog env q_17_6 (seqAt b17 6) := by
  refine seq_step tab (ctxG_ok R35_ok false [] _ _) booq_17_6 (pieces_subS pooq_17_6_17 (by kernel_rfl)) 2000 ?_
  intro vs K h
  obtain ⟨x1, x2, x3, x4, x5, x6, x7, x8, x9, x10, x11, x12, x13, x14, rfl, h⟩ := wioq_17_6 vs K h
  exact Eq.mp (stoq_17_6 x1 x2 x3 x4 x5 x6 x7 x8 x9 x10 x11 x12 x13 x14 K) h
theorem pooq_17_4_17 : PiecesOk Try.prog env (ctxG env false [] R35 [(17, [(8, p_17_8)])] [(17, [(6, q_17_6)])]) 17 b17 :=
  pieces_at (rfIn_body (fn := f17) (b := b17) rfl hb17) (L := [(8, p_17_8)]) (S := [(6, q_17_6)]) (fun _ => rfl) (fun _ => rfl) (by kernel_rfl) (by kernel_rfl) (List.forall_mem_cons.2 ⟨fun _ => ok_17_8, (fun _ hq => by cases hq)⟩) (List.forall_mem_cons.2 ⟨fun _ => oq_17_6, (fun _ hq => by cases hq)⟩)
theorem booq_17_4 : BodiesOk Try.prog env (ctxG env false [] R35 [(17, [(8, p_17_8)])] [(17, [(6, q_17_6)])]) := bodies_okG (ks := [17]) (by kernel_rfl) (List.forall_mem_cons.2 ⟨body_at (fn := f17) (body := b17) rfl hb17 pooq_17_4_17, (fun _ hq => by cases hq)⟩)
theorem stoq_17_4 (x1 : Int) (x2 : Int) (x3 : Int) (x4 : Int) (x5 : Int) (x6 : Int) (x7 : Int) (x8 : Int) (x9 : Int) (x10 : Int) (x11 : Int) (x12 : Int) (x13 : Bool) (x14 : Bool) (K : Ex → List (SV env.T) → Prop) : s_17_4  x1 x2 x3 x4 x5 x6 x7 x8 x9 x10 x11 x12 x13 x14 (fun y1 => K .ret [.int .u64 y1]) = vcCode env (ctxG env false [] R35 [(17, [(8, p_17_8)])] [(17, [(6, q_17_6)])]) 2000 17 (seqAt b17 4) (insSt q_17_4.head [.int .u64 x1, .int .u64 x2, .int .i64 x3, .int .i64 x4, .int .i64 x5, .int .i64 x6, .int .i64 x7, .int .i64 x8, .int .i64 x9, .int .i64 x10, .int .i64 x11, .int .i64 x12, .bool x13, .bool x14]) (outP env q_17_4 K) := by kernel_rfl
theorem wioq_17_4 (vs : List (SV env.T)) (K : Ex → List (SV env.T) → Prop) (h : v_17_4 vs K) : ∃ x1 : Int, ∃ x2 : Int, ∃ x3 : Int, ∃ x4 : Int, ∃ x5 : Int, ∃ x6 : Int, ∃ x7 : Int, ∃ x8 : Int, ∃ x9 : Int, ∃ x10 : Int, ∃ x11 : Int, ∃ x12 : Int, ∃ x13 : Bool, ∃ x14 : Bool, vs = [.int .u64 x1, .int .u64 x2, .int .i64 x3, .int .i64 x4, .int .i64 x5, .int .i64 x6, .int .i64 x7, .int .i64 x8, .int .i64 x9, .int .i64 x10, .int .i64 x11, .int .i64 x12, .bool x13, .bool x14] ∧ s_17_4  x1 x2 x3 x4 x5 x6 x7 x8 x9 x10 x11 x12 x13 x14 (fun y1 => K .ret [.int .u64 y1]) := by
  unfold v_17_4 at h
  replace h := dCI_spec h
  obtain ⟨x1, vs0, e0, h⟩ := h
  replace h := dCI_spec h
  obtain ⟨x2, vs1, e1, h⟩ := h
  replace h := dCI_spec h
  obtain ⟨x3, vs2, e2, h⟩ := h
  replace h := dCI_spec h
  obtain ⟨x4, vs3, e3, h⟩ := h
  replace h := dCI_spec h
  obtain ⟨x5, vs4, e4, h⟩ := h
  replace h := dCI_spec h
  obtain ⟨x6, vs5, e5, h⟩ := h
  replace h := dCI_spec h
  obtain ⟨x7, vs6, e6, h⟩ := h
  replace h := dCI_spec h
  obtain ⟨x8, vs7, e7, h⟩ := h
  replace h := dCI_spec h
  obtain ⟨x9, vs8, e8, h⟩ := h
  replace h := dCI_spec h
  obtain ⟨x10, vs9, e9, h⟩ := h
  replace h := dCI_spec h
  obtain ⟨x11, vs10, e10, h⟩ := h
  replace h := dCI_spec h
  obtain ⟨x12, vs11, e11, h⟩ := h
  replace h := dCB_spec h
  obtain ⟨x13, vs12, e12, h⟩ := h
  replace h := dCB_spec h
  obtain ⟨x14, vs13, e13, h⟩ := h
  replace h := dCE_spec h
  obtain ⟨e, h⟩ := h
  exact ⟨x1, x2, x3, x4, x5, x6, x7, x8, x9, x10, x11, x12, x13, x14, by rw [e0, e1, e2, e3, e4, e5, e6, e7, e8, e9, e10, e11, e12, e13, e], h⟩
theorem oq_17_4 : PieceOk Try.prog env q_17_4 (seqAt b17 4) := by
  refine seq_step tab (ctxG_ok R35_ok false [] _ _) booq_17_4 (pieces_subS pooq_17_4_17 (by kernel_rfl)) 2000 ?_
  intro vs K h
  obtain ⟨x1, x2, x3, x4, x5, x6, x7, x8, x9, x10, x11, x12, x13, x14, rfl, h⟩ := wioq_17_4 vs K h
  exact Eq.mp (stoq_17_4 x1 x2 x3 x4 x5 x6 x7 x8 x9 x10 x11 x12 x13 x14 K) h
theorem po_17_17 : PiecesOk Try.prog env (ctxG env false [] R35 [(17, [(8, p_17_8)])] [(17, [(6, q_17_6), (4, q_17_4)])]) 17 b17 :=
  pieces_at (rfIn_body (fn := f17) (b := b17) rfl hb17) (L := [(8, p_17_8)]) (S := [(6, q_17_6), (4, q_17_4)]) (fun _ => rfl) (fun _ => rfl) (by kernel_rfl) (by kernel_rfl) (List.forall_mem_cons.2 ⟨fun _ => ok_17_8, (fun _ hq => by cases hq)⟩) (List.forall_mem_cons.2 ⟨fun _ => oq_17_6, (List.forall_mem_cons.2 ⟨fun _ => oq_17_4, (fun _ hq => by cases hq)⟩)⟩)
theorem bo_17 : BodiesOk Try.prog env (ctxG env false [] R35 [(17, [(8, p_17_8)])] [(17, [(6, q_17_6), (4, q_17_4)])]) := bodies_okG (ks := [17]) (by kernel_rfl) (List.forall_mem_cons.2 ⟨body_at (fn := f17) (body := b17) rfl hb17 po_17_17, (fun _ hq => by cases hq)⟩)
theorem eq_17 (x0 : Int) (x1 : Record) (K : Y17 → Prop) : vcCode env (ctxG env false [] R35 [(17, [(8, p_17_8)])] [(17, [(6, q_17_6), (4, q_17_4)])]) 2000 17 b17 (entry env f17 [v29 x0, v50 x1]) (finR env f17 decR17 K) = B17 x0 x1 K := by kernel_rfl
noncomputable def rule17 : Nat × Rule env := (17, ruleF env decA17 encR17 fun x => V17 x.1 x.2)
theorem r17 : RuleOk Try.prog env 17 rule17.2 :=
  rule_fun tab (ctxG_ok R35_ok false [] _ _) bo_17 (f := 17) (fn := f17) rfl hb17 po_17_17 2000 encA17 hA17 hR17 hD17 (fun _ => of_decide_eq_true (by kernel_rfl)) (fun x K => (eq_17 x.1 x.2 K).trans (by rw [V17_eq]))
noncomputable def R17 : List (Nat × Rule env) := rule17 :: R35
theorem R17_ok : AllOk Try.prog env R17 := ⟨r17, R35_ok⟩
-- 31 queuelab/queuelabref34.Valid
noncomputable def f31 : Func := Try.f31
noncomputable def b31 : Code := (Try.f31.body).getD .skip
abbrev X31 := Segment
def encA31 (x : X31) : List (SV env.T) := [v32 x]
def decA31 (l : List (SV env.T)) : Option X31 := match l with
  | [s0] => match u32 s0 with
    | some x0 => some (x0)
    | _ => none
  | _ => none
theorem hA31 (l : List (SV env.T)) (x : X31) (h : decA31 l = some x) : WkA env.has l (encA31 x) := by
  unfold decA31 at h; split at h
  · split at h
    · rename_i h0; cases h; exact (.cons (u32_wk h0) .nil)
    · cases h
  · cases h
abbrev Y31 := Bool
def encR31 (x : Y31) : List (SV env.T) := [v4 x]
def decR31 (l : List (SV env.T)) : Option Y31 := match l with
  | [s0] => match u4 s0 with
    | some x0 => some (x0)
    | _ => none
  | _ => none
theorem hR31 (l : List (SV env.T)) (x : Y31) (h : decR31 l = some x) : WkA env.has l (encR31 x) := by
  unfold decR31 at h; split at h
  · split at h
    · rename_i h0; cases h; exact (.cons (u4_wk h0) .nil)
    · cases h
  · cases h
theorem hD31 (y : Y31) : isDataV (tupV (encR31 y)) = true := rfl
theorem hb31 : f31.body = some b31 := by kernel_rfl
def s_31_10 : Bool → Int → Int → Int → Int → Int → Int → (List Record) → Int → Int → Int → Int → Int → Int → Int → Int → Int → Bool → Bool → (Bool → Int → Int → Int → Int → Int → Int → (List Record) → Prop) → Prop :=
  fun x1 x2 x3 x4 x5 x6 x7 x8 x9 x10 x11 x12 x13 x14 x15 x16 x17 x18 x19 kn ↦ V17 x2 (Record.mk x9 x10 x11 (Packet.mk x12 x13 x14 x15 x16 x17 x18 x19)) fun y22 ↦ kn x1 y22 x3 x4 x5 x6 x7 x8
def v_31_10 (vs : List (SV env.T)) (K : Ex → List (SV env.T) → Prop) : Prop :=
  dCB vs fun x1 vs => dCI .u64 vs fun x2 vs => dCI .i64 vs fun x3 vs => dCI .i64 vs fun x4 vs => dCI .i64 vs fun x5 vs => dCI .u64 vs fun x6 vs => dCI .u64 vs fun x7 vs => dCD 50 vs fun x8 vs => dCI .i64 vs fun x9 vs => dCI .i64 vs fun x10 vs => dCI .i64 vs fun x11 vs => dCI .i64 vs fun x12 vs => dCI .i64 vs fun x13 vs => dCI .i64 vs fun x14 vs => dCI .i64 vs fun x15 vs => dCI .i64 vs fun x16 vs => dCI .i64 vs fun x17 vs => dCB vs fun x18 vs => dCB vs fun x19 vs => dCE vs (s_31_10 x1 x2 x3 x4 x5 x6 x7 x8 x9 x10 x11 x12 x13 x14 x15 x16 x17 x18 x19 (fun y1 y2 y3 y4 y5 y6 y7 y8 => K .normal [.bool y1, .int .u64 y2, .int .i64 y3, .int .i64 y4, .int .i64 y5, .int .u64 y6, .int .u64 y7, .dat 50 y8]))
def q_31_10 : Piece env := ⟨⟨[.any, .ptr 0 0, .hole, .hole, .hole, .ptr 1 0, .any, .any, .any, .any, .any, .any, .any, .any, .any, .any, .any, .any, .any, .any, .any, .any, .any, .any, .any, .any, .any, .any, .any, .any, .any, .any, .any, .any, .any, .any, .any, .any, .any, .any, .any, .any, .any, .any, .any, .any, .any, .any, .any, .any, .any, .any, .any, .any, .any, .any, .any, .any, .any, .any, .any, .any, .any, .any, .any, .any, .any, .any, .any, .any, .any, .any, .any, .any, .any, .any], [], [(0, .cells 32 [.hole, .hole, .hole, .hole, .holeD 50]), (1, .cells 50 [.hole, .hole, .hole, .hole, .hole, .hole, .hole, .hole, .hole, .hole, .hole])], 2⟩, exitF (some ⟨[.any, .ptr 0 0, .hole, .hole, .hole, .any, .any, .any, .any, .any, .any, .any, .any, .any, .any, .any, .any, .any, .any, .any, .any, .any, .any, .any, .any, .any, .any, .any, .any, .any, .any, .any, .any, .any, .any, .any, .any, .any, .any, .any, .any, .any, .any, .any, .any, .any, .any, .any, .any, .any, .any, .any, .any, .any, .any, .any, .any, .any, .any, .any, .any, .any, .any, .any, .any, .any, .any, .any, .any, .any, .any, .any, .any, .any, .any, .any], [], [(0, .cells 32 [.hole, .hole, .hole, .hole, .holeD 50])], 1⟩) [] none, v_31_10⟩
def l_31_5 : Nat → Bool → Int → Int → Int → Int → Int → Int → (List Record) → (Bool → Prop) → (Bool → Int → Int → Int → Int → Int → (List Record) → Prop) → Prop
  | 0 => fun _ _ _ _ _ _ _ _ _ _ => False
  | k + 1 => fun x1 x2 x3 x4 x5 x6 x7 x8 kr k0 ↦ br (decide (x3 < (↑x8.length : Int))) (br (inb x3 (↑x8.length : Int)) (br (decide ((x8.getD x3.toNat (env.d 50)).at_ < x4)) (kr false) (br (decide ((x8.getD x3.toNat (env.d 50)).at_ ≥ x5)) (kr false) (br (decide (x3 > 0)) (br (inb (IntKind.i64.wrap (x3 - 1)) (↑x8.length : Int)) (br (decide ((x8.getD x3.toNat (env.d 50)).at_ < (x8.getD (IntKind.i64.wrap (x3 - 1)).toNat (env.d 50)).at_)) (kr false) (s_31_10 x1 x2 x3 x4 x5 x6 x7 x8 (x8.getD x3.toNat (env.d 50)).at_ (x8.getD x3.toNat (env.d 50)).kind (x8.getD x3.toNat (env.d 50)).a (x8.getD x3.toNat (env.d 50)).p.flow (x8.getD x3.toNat (env.d 50)).p.sub (x8.getD x3.toNat (env.d 50)).p.number (x8.getD x3.toNat (env.d 50)).p.data (x8.getD x3.toNat (env.d 50)).p.size (x8.getD x3.toNat (env.d 50)).p.sent (x8.getD x3.toNat (env.d 50)).p.able (x8.getD x3.toNat (env.d 50)).p.marked fun y12 y13 y14 y15 y16 y17 y18 y19 ↦ l_31_5 k y12 y13 (IntKind.i64.wrap (y14 + 1)) y15 y16 y17 y18 y19 kr k0)) False) (s_31_10 x1 x2 x3 x4 x5 x6 x7 x8 (x8.getD x3.toNat (env.d 50)).at_ (x8.getD x3.toNat (env.d 50)).kind (x8.getD x3.toNat (env.d 50)).a (x8.getD x3.toNat (env.d 50)).p.flow (x8.getD x3.toNat (env.d 50)).p.sub (x8.getD x3.toNat (env.d 50)).p.number (x8.getD x3.toNat (env.d 50)).p.data (x8.getD x3.toNat (env.d 50)).p.size (x8.getD x3.toNat (env.d 50)).p.sent (x8.getD x3.toNat (env.d 50)).p.able (x8.getD x3.toNat (env.d 50)).p.marked fun y12 y13 y14 y15 y16 y17 y18 y19 ↦ l_31_5 k y12 y13 (IntKind.i64.wrap (y14 + 1)) y15 y16 y17 y18 y19 kr k0)))) False) (k0 x1 x2 x4 x5 x6 x7 x8)
def w_31_5 (k : Nat) (vs : List (SV env.T)) (K : Ex → List (SV env.T) → Prop) : Prop :=
  dCB vs fun x1 vs => dCI .u64 vs fun x2 vs => dCI .i64 vs fun x3 vs => dCI .i64 vs fun x4 vs => dCI .i64 vs fun x5 vs => dCI .u64 vs fun x6 vs => dCI .u64 vs fun x7 vs => dCD 50 vs fun x8 vs => dCE vs (l_31_5 k x1 x2 x3 x4 x5 x6 x7 x8 (fun y1 => K .ret [.bool y1]) (fun y1 y2 y3 y4 y5 y6 y7 => K (.exit 0) [.bool y1, .int .u64 y2, .int .i64 y3, .int .i64 y4, .int .u64 y5, .int .u64 y6, .dat 50 y7]))
def p_31_5 : Piece env := ⟨⟨[.any, .ptr 0 0, .hole, .hole, .hole, .any, .any, .any, .any, .any, .any, .any, .any, .any, .any, .any, .any, .any, .any, .any, .any, .any, .any, .any, .any, .any, .any, .any, .any, .any, .any, .any, .any, .any, .any, .any, .any, .any, .any, .any, .any, .any, .any, .any, .any, .any, .any, .any, .any, .any, .any, .any, .any, .any, .any, .any, .any, .any, .any, .any, .any, .any, .any, .any, .any, .any, .any, .any, .any, .any, .any, .any, .any, .any, .any, .any], [], [(0, .cells 32 [.hole, .hole, .hole, .hole, .holeD 50])], 1⟩, exitF none [(0, ⟨[.any, .ptr 0 0, .hole, .hole, .any, .any, .any, .any, .any, .any, .any, .any, .any, .any, .any, .any, .any, .any, .any, .any, .any, .any, .any, .any, .any, .any, .any, .any, .any, .any, .any, .any, .any, .any, .any, .any, .any, .any, .any, .any, .any, .any, .any, .any, .any, .any, .any, .any, .any, .any, .any, .any, .any, .any, .any, .any, .any, .any, .any, .any, .any, .any, .any, .any, .any, .any, .any, .any, .any, .any, .any, .any, .any, .any, .any, .any], [], [(0, .cells 32 [.hole, .hole, .hole, .hole, .holeD 50])], 1⟩)] (some ⟨[.any, .any, .hole, .any, .any, .any, .any, .any, .any, .any, .any, .any, .any, .any, .any, .any, .any, .any, .any, .any, .any, .any, .any, .any, .any, .any, .any, .any, .any, .any, .any, .any, .any, .any, .any, .any, .any, .any, .any, .any, .any, .any, .any, .any, .any, .any, .any, .any, .any, .any, .any, .any, .any, .any, .any, .any, .any, .any, .any, .any, .any, .any, .any, .any, .any, .any, .any, .any, .any, .any, .any, .any, .any, .any, .any, .any], [], [], 0⟩), fun vs K => ∃ k, w_31_5 k vs K⟩
def s_31_3 : Bool → Int → Int → Int → Int → (List Record) → (Bool → Prop) → Prop :=
  fun x1 x2 x3 x4 x5 x6 kr ↦ ∃ k9, l_31_5 k9 x1 x4 0 x2 x3 x4 x5 x6 kr fun _ y11 _ _ _ y15 _ ↦ kr (y11 == y15)
def v_31_3 (vs : List (SV env.T)) (K : Ex → List (SV env.T) → Prop) : Prop :=
  dCB vs fun x1 vs => dCI .i64 vs fun x2 vs => dCI .i64 vs fun x3 vs => dCI .u64 vs fun x4 vs => dCI .u64 vs fun x5 vs => dCD 50 vs fun x6 vs => dCE vs (s_31_3 x1 x2 x3 x4 x5 x6 (fun y1 => K .ret [.bool y1]))
def q_31_3 : Piece env := ⟨⟨[.any, .ptr 0 0, .hole, .any, .any, .any, .any, .any, .any, .any, .any, .any, .any, .any, .any, .any, .any, .any, .any, .any, .any, .any, .any, .any, .any, .any, .any, .any, .any, .any, .any, .any, .any, .any, .any, .any, .any, .any, .any, .any, .any, .any, .any, .any, .any, .any, .any, .any, .any, .any, .any, .any, .any, .any, .any, .any, .any, .any, .any, .any, .any, .any, .any, .any, .any, .any, .any, .any, .any, .any, .any, .any, .any, .any, .any, .any], [], [(0, .cells 32 [.hole, .hole, .hole, .hole, .holeD 50])], 1⟩, exitF none [] (some ⟨[.any, .any, .hole, .any, .any, .any, .any, .any, .any, .any, .any, .any, .any, .any, .any, .any, .any, .any, .any, .any, .any, .any, .any, .any, .any, .any, .any, .any, .any, .any, .any, .any, .any, .any, .any, .any, .any, .any, .any, .any, .any, .any, .any, .any, .any, .any, .any, .any, .any, .any, .any, .any, .any, .any, .any, .any, .any, .any, .any, .any, .any, .any, .any, .any, .any, .any, .any, .any, .any, .any, .any, .any, .any, .any, .any, .any], [], [], 0⟩), v_31_3⟩
noncomputable def B31 : Segment → (Y31 → Prop) → Prop :=
  fun x0 K ↦ br (decide (x0.from_ < 0)) (K false) (br (decide (x0.from_ > x0.to_)) (K false) (br (decide (x0.to_ > 10000000)) (K false) (br (decide ((↑x0.records.length : Int) > 5000)) (K false) (s_31_3 false x0.from_ x0.to_ x0.begin_ x0.end_ x0.records K))))
theorem V31_ex : ∃ V : Segment → (Y31 → Prop) → Prop, V = B31 := ⟨_, rfl⟩
noncomputable def V31 : Segment → (Y31 → Prop) → Prop := Classical.choose V31_ex
theorem V31_eq : V31 = B31 := Classical.choose_spec V31_ex
theorem pooq_31_10_31 : PiecesOk Try.prog env (ctxG env false [] R17 [] []) 31 b31 :=
  pieces_at (rfIn_body (fn := f31) (b := b31) rfl hb31) (L := []) (S := []) (fun _ => rfl) (fun _ => rfl) (by kernel_rfl) (by kernel_rfl) (fun _ hq => by cases hq) (fun _ hq => by cases hq)
theorem booq_31_10 : BodiesOk Try.prog env (ctxG env false [] R17 [] []) := bodies_okG (ks := []) (by kernel_rfl) (fun _ hq => by cases hq)
theorem stoq_31_10 (x1 : Bool) (x2 : Int) (x3 : Int) (x4 : Int) (x5 : Int) (x6 : Int) (x7 : Int) (x8 : (List Record)) (x9 : Int) (x10 : Int) (x11 : Int) (x12 : Int) (x13 : Int) (x14 : Int) (x15 : Int) (x16 : Int) (x17 : Int) (x18 : Bool) (x19 : Bool) (K : Ex → List (SV env.T) → Prop) : s_31_10  x1 x2 x3 x4 x5 x6 x7 x8 x9 x10 x11 x12 x13 x14 x15 x16 x17 x18 x19 (fun y1 y2 y3 y4 y5 y6 y7 y8 => K .normal [.bool y1, .int .u64 y2, .int .i64 y3, .int .i64 y4, .int .i64 y5, .int .u64 y6, .int .u64 y7, .dat 50 y8]) = vcCode env (ctxG env false [] R17 [] []) 2000 31 (seqAt b31 10) (insSt q_31_10.head [.bool x1, .int .u64 x2, .int .i64 x3, .int .i64 x4, .int .i64 x5, .int .u64 x6, .int .u64 x7, .dat 50 x8, .int .i64 x9, .int .i64 x10, .int .i64 x11, .int .i64 x12, .int .i64 x13, .int .i64 x14, .int .i64 x15, .int .i64 x16, .int .i64 x17, .bool x18, .bool x19]) (outP env q_31_10 K) := by kernel_rfl
theorem wioq_31_10 (vs : List (SV env.T)) (K : Ex → List (SV env.T) → Prop) (h : v_31_10 vs K) : ∃ x1 : Bool, ∃ x2 : Int, ∃ x3 : Int, ∃ x4 : Int, ∃ x5 : Int, ∃ x6 : Int, ∃ x7 : Int, ∃ x8 : (List Record), ∃ x9 : Int, ∃ x10 : Int, ∃ x11 : Int, ∃ x12 : Int, ∃ x13 : Int, ∃ x14 : Int, ∃ x15 : Int, ∃ x16 : Int, ∃ x17 : Int, ∃ x18 : Bool, ∃ x19 : Bool, vs = [.bool x1, .int .u64 x2, .int .i64 x3, .int .i64 x4, .int .i64 x5, .int .u64 x6, .int .u64 x7, .dat 50 x8, .int .i64 x9, .int .i64 x10, .int .i64 x11, .int .i64 x12, .int .i64 x13, .int .i64 x14, .int .i64 x15, .int .i64 x16, .int .i64 x17, .bool x18, .bool x19] ∧ s_31_10  x1 x2 x3 x4 x5 x6 x7 x8 x9 x10 x11 x12 x13 x14 x15 x16 x17 x18 x19 (fun y1 y2 y3 y4 y5 y6 y7 y8 => K .normal [.bool y1, .int .u64 y2, .int .i64 y3, .int .i64 y4, .int .i64 y5, .int .u64 y6, .int .u64 y7, .dat 50 y8]) := by
  unfold v_31_10 at h
  replace h := dCB_spec h
  obtain ⟨x1, vs0, e0, h⟩ := h
  replace h := dCI_spec h
  obtain ⟨x2, vs1, e1, h⟩ := h
  replace h := dCI_spec h
  obtain ⟨x3, vs2, e2, h⟩ := h
  replace h := dCI_spec h
  obtain ⟨x4, vs3, e3, h⟩ := h
  replace h := dCI_spec h
  obtain ⟨x5, vs4, e4, h⟩ := h
  replace h := dCI_spec h
  obtain ⟨x6, vs5, e5, h⟩ := h
  replace h := dCI_spec h
  obtain ⟨x7, vs6, e6, h⟩ := h
  replace h := dCD_spec h
  obtain ⟨x8, vs7, e7, h⟩ := h
  replace h := dCI_spec h
  obtain ⟨x9, vs8, e8, h⟩ := h
  replace h := dCI_spec h
  obtain ⟨x10, vs9, e9, h⟩ := h
  replace h := dCI_spec h
  obtain ⟨x11, vs10, e10, h⟩ := h
  replace h := dCI_spec h
  obtain ⟨x12, vs11, e11, h⟩ := h
  replace h := dCI_spec h
  obtain ⟨x13, vs12, e12, h⟩ := h
  replace h := dCI_spec h
  obtain ⟨x14, vs13, e13, h⟩ := h
  replace h := dCI_spec h
  obtain ⟨x15, vs14, e14, h⟩ := h
  replace h := dCI_spec h
  obtain ⟨x16, vs15, e15, h⟩ := h
  replace h := dCI_spec h
  obtain ⟨x17, vs16, e16, h⟩ := h
  replace h := dCB_spec h
  obtain ⟨x18, vs17, e17, h⟩ := h
  replace h := dCB_spec h
  obtain ⟨x19, vs18, e18, h⟩ := h
  replace h := dCE_spec h
  obtain ⟨e, h⟩ := h
  exact ⟨x1, x2, x3, x4, x5, x6, x7, x8, x9, x10, x11, x12, x13, x14, x15, x16, x17, x18, x19, by rw [e0, e1, e2, e3, e4, e5, e6, e7, e8, e9, e10, e11, e12, e13, e14, e15, e16, e17, e18, e], h⟩
theorem oq_31_10 : PieceOk Try.prog env q_31_10 (seqAt b31 10) := by
  refine seq_step tab (ctxG_ok R17_ok false [] _ _) booq_31_10 (pieces_subS pooq_31_10_31 (by kernel_rfl)) 2000 ?_
  intro vs K h
  obtain ⟨x1, x2, x3, x4, x5, x6, x7, x8, x9, x10, x11, x12, x13, x14, x15, x16, x17, x18, x19, rfl, h⟩ := wioq_31_10 vs K h
  exact Eq.mp (stoq_31_10 x1 x2 x3 x4 x5 x6 x7 x8 x9 x10 x11 x12 x13 x14 x15 x16 x17 x18 x19 K) h
theorem pook_31_5_31 : PiecesOk Try.prog env (ctxG env false [] R17 [] [(31, [(10, q_31_10)])]) 31 b31 :=
  pieces_at (rfIn_body (fn := f31) (b := b31) rfl hb31) (L := []) (S := [(10, q_31_10)]) (fun _ => rfl) (fun _ => rfl) (by kernel_rfl) (by kernel_rfl) (fun _ hq => by cases hq) (List.forall_mem_cons.2 ⟨fun _ => oq_31_10, (fun _ hq => by cases hq)⟩)
theorem book_31_5 : BodiesOk Try.prog env (ctxG env false [] R17 [] [(31, [(10, q_31_10)])]) := bodies_okG (ks := [31]) (by kernel_rfl) (List.forall_mem_cons.2 ⟨body_at (fn := f31) (body := b31) rfl hb31 pook_31_5_31, (fun _ hq => by cases hq)⟩)
theorem stok_31_5 (k : Nat) (x1 : Bool) (x2 : Int) (x3 : Int) (x4 : Int) (x5 : Int) (x6 : Int) (x7 : Int) (x8 : (List Record)) (K : Ex → List (SV env.T) → Prop) : l_31_5 (k + 1) x1 x2 x3 x4 x5 x6 x7 x8 (fun y1 => K .ret [.bool y1]) (fun y1 y2 y3 y4 y5 y6 y7 => K (.exit 0) [.bool y1, .int .u64 y2, .int .i64 y3, .int .i64 y4, .int .u64 y5, .int .u64 y6, .dat 50 y7]) = vcCode env (ctxG env false [] R17 [] [(31, [(10, q_31_10)])]) 2000 31 (loopAt b31 5) (insSt p_31_5.head [.bool x1, .int .u64 x2, .int .i64 x3, .int .i64 x4, .int .i64 x5, .int .u64 x6, .int .u64 x7, .dat 50 x8]) (stepK p_31_5 (w_31_5 k) K) := by kernel_rfl
theorem wiok_31_5 (k : Nat) (vs : List (SV env.T)) (K : Ex → List (SV env.T) → Prop) (h : w_31_5 k vs K) : ∃ x1 : Bool, ∃ x2 : Int, ∃ x3 : Int, ∃ x4 : Int, ∃ x5 : Int, ∃ x6 : Int, ∃ x7 : Int, ∃ x8 : (List Record), vs = [.bool x1, .int .u64 x2, .int .i64 x3, .int .i64 x4, .int .i64 x5, .int .u64 x6, .int .u64 x7, .dat 50 x8] ∧ l_31_5 k x1 x2 x3 x4 x5 x6 x7 x8 (fun y1 => K .ret [.bool y1]) (fun y1 y2 y3 y4 y5 y6 y7 => K (.exit 0) [.bool y1, .int .u64 y2, .int .i64 y3, .int .i64 y4, .int .u64 y5, .int .u64 y6, .dat 50 y7]) := by
  unfold w_31_5 at h
  replace h := dCB_spec h
  obtain ⟨x1, vs0, e0, h⟩ := h
  replace h := dCI_spec h
  obtain ⟨x2, vs1, e1, h⟩ := h
  replace h := dCI_spec h
  obtain ⟨x3, vs2, e2, h⟩ := h
  replace h := dCI_spec h
  obtain ⟨x4, vs3, e3, h⟩ := h
  replace h := dCI_spec h
  obtain ⟨x5, vs4, e4, h⟩ := h
  replace h := dCI_spec h
  obtain ⟨x6, vs5, e5, h⟩ := h
  replace h := dCI_spec h
  obtain ⟨x7, vs6, e6, h⟩ := h
  replace h := dCD_spec h
  obtain ⟨x8, vs7, e7, h⟩ := h
  replace h := dCE_spec h
  obtain ⟨e, h⟩ := h
  exact ⟨x1, x2, x3, x4, x5, x6, x7, x8, by rw [e0, e1, e2, e3, e4, e5, e6, e7, e], h⟩
theorem zeok_31_5 (x1 : Bool) (x2 : Int) (x3 : Int) (x4 : Int) (x5 : Int) (x6 : Int) (x7 : Int) (x8 : (List Record)) (K : Ex → List (SV env.T) → Prop) : l_31_5 0 x1 x2 x3 x4 x5 x6 x7 x8 (fun y1 => K .ret [.bool y1]) (fun y1 y2 y3 y4 y5 y6 y7 => K (.exit 0) [.bool y1, .int .u64 y2, .int .i64 y3, .int .i64 y4, .int .u64 y5, .int .u64 y6, .dat 50 y7]) = False := by kernel_rfl
theorem ok_31_5 : PieceOk Try.prog env p_31_5 (.loop (loopAt b31 5)) := by
  refine loop_step (Wn := w_31_5) tab (ctxG_ok R17_ok false [] _ _) book_31_5 (pieces_sub pook_31_5_31 (by kernel_rfl)) rfl ?_ 2000 ?_
  · intro vs K h
    obtain ⟨x1, x2, x3, x4, x5, x6, x7, x8, _, h⟩ := wiok_31_5 0 vs K h
    exact Eq.mp (zeok_31_5 x1 x2 x3 x4 x5 x6 x7 x8 K) h
  · intro k vs K h
    obtain ⟨x1, x2, x3, x4, x5, x6, x7, x8, rfl, h⟩ := wiok_31_5 (k + 1) vs K h
    exact Eq.mp (stok_31_5 k x1 x2 x3 x4 x5 x6 x7 x8 K) h
theorem pooq_31_3_31 : PiecesOk Try.prog env (ctxG env false [] R17 [(31, [(5, p_31_5)])] [(31, [(10, q_31_10)])]) 31 b31 :=
  pieces_at (rfIn_body (fn := f31) (b := b31) rfl hb31) (L := [(5, p_31_5)]) (S := [(10, q_31_10)]) (fun _ => rfl) (fun _ => rfl) (by kernel_rfl) (by kernel_rfl) (List.forall_mem_cons.2 ⟨fun _ => ok_31_5, (fun _ hq => by cases hq)⟩) (List.forall_mem_cons.2 ⟨fun _ => oq_31_10, (fun _ hq => by cases hq)⟩)
theorem booq_31_3 : BodiesOk Try.prog env (ctxG env false [] R17 [(31, [(5, p_31_5)])] [(31, [(10, q_31_10)])]) := bodies_okG (ks := [31]) (by kernel_rfl) (List.forall_mem_cons.2 ⟨body_at (fn := f31) (body := b31) rfl hb31 pooq_31_3_31, (fun _ hq => by cases hq)⟩)
theorem stoq_31_3 (x1 : Bool) (x2 : Int) (x3 : Int) (x4 : Int) (x5 : Int) (x6 : (List Record)) (K : Ex → List (SV env.T) → Prop) : s_31_3  x1 x2 x3 x4 x5 x6 (fun y1 => K .ret [.bool y1]) = vcCode env (ctxG env false [] R17 [(31, [(5, p_31_5)])] [(31, [(10, q_31_10)])]) 2000 31 (seqAt b31 3) (insSt q_31_3.head [.bool x1, .int .i64 x2, .int .i64 x3, .int .u64 x4, .int .u64 x5, .dat 50 x6]) (outP env q_31_3 K) := by kernel_rfl
theorem wioq_31_3 (vs : List (SV env.T)) (K : Ex → List (SV env.T) → Prop) (h : v_31_3 vs K) : ∃ x1 : Bool, ∃ x2 : Int, ∃ x3 : Int, ∃ x4 : Int, ∃ x5 : Int, ∃ x6 : (List Record), vs = [.bool x1, .int .i64 x2, .int .i64 x3, .int .u64 x4, .int .u64 x5, .dat 50 x6] ∧ s_31_3  x1 x2 x3 x4 x5 x6 (fun y1 => K .ret [.bool y1]) := by
  unfold v_31_3 at h
  replace h := dCB_spec h
  obtain ⟨x1, vs0, e0, h⟩ := h
  replace h := dCI_spec h
  obtain ⟨x2, vs1, e1, h⟩ := h
  replace h := dCI_spec h
  obtain ⟨x3, vs2, e2, h⟩ := h
  replace h := dCI_spec h
  obtain ⟨x4, vs3, e3, h⟩ := h
  replace h := dCI_spec h
  obtain ⟨x5, vs4, e4, h⟩ := h
  replace h := dCD_spec h
  obtain ⟨x6, vs5, e5, h⟩ := h
  replace h := dCE_spec h
  obtain ⟨e, h⟩ := h
  exact ⟨x1, x2, x3, x4, x5, x6, by rw [e0, e1, e2, e3, e4, e5, e], h⟩
theorem oq_31_3 : PieceOk Try.prog env q_31_3 (seqAt b31 3) := by
  refine seq_step tab (ctxG_ok R17_ok false [] _ _) booq_31_3 (pieces_subS pooq_31_3_31 (by kernel_rfl)) 2000 ?_
  intro vs K h
  obtain ⟨x1, x2, x3, x4, x5, x6, rfl, h⟩ := wioq_31_3 vs K h
  exact Eq.mp (stoq_31_3 x1 x2 x3 x4 x5 x6 K) h
theorem po_31_31 : PiecesOk Try.prog env (ctxG env false [] R17 [(31, [(5, p_31_5)])] [(31, [(10, q_31_10), (3, q_31_3)])]) 31 b31 :=
  pieces_at (rfIn_body (fn := f31) (b := b31) rfl hb31) (L := [(5, p_31_5)]) (S := [(10, q_31_10), (3, q_31_3)]) (fun _ => rfl) (fun _ => rfl) (by kernel_rfl) (by kernel_rfl) (List.forall_mem_cons.2 ⟨fun _ => ok_31_5, (fun _ hq => by cases hq)⟩) (List.forall_mem_cons.2 ⟨fun _ => oq_31_10, (List.forall_mem_cons.2 ⟨fun _ => oq_31_3, (fun _ hq => by cases hq)⟩)⟩)
theorem bo_31 : BodiesOk Try.prog env (ctxG env false [] R17 [(31, [(5, p_31_5)])] [(31, [(10, q_31_10), (3, q_31_3)])]) := bodies_okG (ks := [31]) (by kernel_rfl) (List.forall_mem_cons.2 ⟨body_at (fn := f31) (body := b31) rfl hb31 po_31_31, (fun _ hq => by cases hq)⟩)
theorem eq_31 (x0 : Segment) (K : Y31 → Prop) : vcCode env (ctxG env false [] R17 [(31, [(5, p_31_5)])] [(31, [(10, q_31_10), (3, q_31_3)])]) 2000 31 b31 (entry env f31 [v32 x0]) (finR env f31 decR31 K) = B31 x0 K := by kernel_rfl
noncomputable def rule31 : Nat × Rule env := (31, ruleF env decA31 encR31 fun x => V31 x)
theorem r31 : RuleOk Try.prog env 31 rule31.2 :=
  rule_fun tab (ctxG_ok R17_ok false [] _ _) bo_31 (f := 31) (fn := f31) rfl hb31 po_31_31 2000 encA31 hA31 hR31 hD31 (fun _ => of_decide_eq_true (by kernel_rfl)) (fun x K => (eq_31 x K).trans (by rw [V31_eq]))
noncomputable def R31 : List (Nat × Rule env) := rule31 :: R17
theorem R31_ok : AllOk Try.prog env R31 := ⟨r31, R17_ok⟩
-- 32 queuelab/queuelabref37.Belongs
noncomputable def f32 : Func := Try.f32
noncomputable def b32 : Code := (Try.f32.body).getD .skip
abbrev X32 := (List Task) × Segment
def encA32 (x : X32) : List (SV env.T) := [v22 x.1, v32 x.2]
def decA32 (l : List (SV env.T)) : Option X32 := match l with
  | [s0, s1] => match u22 s0, u32 s1 with
    | some x0, some x1 => some (x0, x1)
    | _, _ => none
  | _ => none
theorem hA32 (l : List (SV env.T)) (x : X32) (h : decA32 l = some x) : WkA env.has l (encA32 x) := by
  unfold decA32 at h; split at h
  · split at h
    · rename_i h0 h1; cases h; exact (.cons (u22_wk h0) (.cons (u32_wk h1) .nil))
    · cases h
  · cases h
abbrev Y32 := Int
def encR32 (x : Y32) : List (SV env.T) := [v3 x]
def decR32 (l : List (SV env.T)) : Option Y32 := match l with
  | [s0] => match u3 s0 with
    | some x0 => some (x0)
    | _ => none
  | _ => none
theorem hR32 (l : List (SV env.T)) (x : Y32) (h : decR32 l = some x) : WkA env.has l (encR32 x) := by
  unfold decR32 at h; split at h
  · split at h
    · rename_i h0; cases h; exact (.cons (u3_wk h0) .nil)
    · cases h
  · cases h
theorem hD32 (y : Y32) : isDataV (tupV (encR32 y)) = true := rfl
theorem hb32 : f32.body = some b32 := by kernel_rfl
def l_32_2 : Nat → (List Task) → Int → Int → Int → Int → Int → Int → (List Record) → (Int → Prop) → (Int → Prop) → Prop
  | 0 => fun _ _ _ _ _ _ _ _ _ _ => False
  | k + 1 => fun x1 x2 x3 x4 x5 x6 x7 x8 kr k0 ↦ br (decide (x3 < (↑x1.length : Int))) (br (inb x3 (↑x1.length : Int)) (br ((x1.getD x3.toNat (env.d 39)).from_ == x4) (br (inb x3 (↑x1.length : Int)) (br ((x1.getD x3.toNat (env.d 39)).to_ == x5) (kr x3) (l_32_2 k x1 x2 (IntKind.i64.wrap (x3 + 1)) x4 x5 x6 x7 x8 kr k0)) False) (l_32_2 k x1 x2 (IntKind.i64.wrap (x3 + 1)) x4 x5 x6 x7 x8 kr k0)) False) (k0 x2)
def w_32_2 (k : Nat) (vs : List (SV env.T)) (K : Ex → List (SV env.T) → Prop) : Prop :=
  dCD 39 vs fun x1 vs => dCI .i64 vs fun x2 vs => dCI .i64 vs fun x3 vs => dCI .i64 vs fun x4 vs => dCI .i64 vs fun x5 vs => dCI .u64 vs fun x6 vs => dCI .u64 vs fun x7 vs => dCD 50 vs fun x8 vs => dCE vs (l_32_2 k x1 x2 x3 x4 x5 x6 x7 x8 (fun y1 => K .ret [.int .i64 y1]) (fun y1 => K (.exit 0) [.int .i64 y1]))
def p_32_2 : Piece env := ⟨⟨[.holeD 39, .any, .any, .ptr 0 0, .hole, .hole, .any, .any, .any, .any, .any, .any, .any, .any, .any, .any, .any, .any, .any, .any, .any, .any, .any, .any, .any, .any, .any, .any, .any, .any, .any], [], [(0, .cells 32 [.hole, .hole, .hole, .hole, .holeD 50])], 1⟩, exitF none [(0, ⟨[.any, .any, .any, .any, .hole, .any, .any, .any, .any, .any, .any, .any, .any, .any, .any, .any, .any, .any, .any, .any, .any, .any, .any, .any, .any, .any, .any, .any, .any, .any, .any], [], [], 0⟩)] (some ⟨[.any, .any, .any, .any, .hole, .any, .any, .any, .any, .any, .any, .any, .any, .any, .any, .any, .any, .any, .any, .any, .any, .any, .any, .any, .any, .any, .any, .any, .any, .any, .any], [], [], 0⟩), fun vs K => ∃ k, w_32_2 k vs K⟩
noncomputable def B32 : (List Task) → Segment → (Y32 → Prop) → Prop :=
  fun x0 x1 K ↦ ∃ k3, l_32_2 k3 x0 0 0 x1.from_ x1.to_ x1.begin_ x1.end_ x1.records K fun _ ↦ K (-1)
theorem V32_ex : ∃ V : (List Task) → Segment → (Y32 → Prop) → Prop, V = B32 := ⟨_, rfl⟩
noncomputable def V32 : (List Task) → Segment → (Y32 → Prop) → Prop := Classical.choose V32_ex
theorem V32_eq : V32 = B32 := Classical.choose_spec V32_ex
theorem pook_32_2_32 : PiecesOk Try.prog env (ctxG env false [] R31 [] []) 32 b32 :=
  pieces_at (rfIn_body (fn := f32) (b := b32) rfl hb32) (L := []) (S := []) (fun _ => rfl) (fun _ => rfl) (by kernel_rfl) (by kernel_rfl) (fun _ hq => by cases hq) (fun _ hq => by cases hq)
theorem book_32_2 : BodiesOk Try.prog env (ctxG env false [] R31 [] []) := bodies_okG (ks := []) (by kernel_rfl) (fun _ hq => by cases hq)
theorem stok_32_2 (k : Nat) (x1 : (List Task)) (x2 : Int) (x3 : Int) (x4 : Int) (x5 : Int) (x6 : Int) (x7 : Int) (x8 : (List Record)) (K : Ex → List (SV env.T) → Prop) : l_32_2 (k + 1) x1 x2 x3 x4 x5 x6 x7 x8 (fun y1 => K .ret [.int .i64 y1]) (fun y1 => K (.exit 0) [.int .i64 y1]) = vcCode env (ctxG env false [] R31 [] []) 2000 32 (loopAt b32 2) (insSt p_32_2.head [.dat 39 x1, .int .i64 x2, .int .i64 x3, .int .i64 x4, .int .i64 x5, .int .u64 x6, .int .u64 x7, .dat 50 x8]) (stepK p_32_2 (w_32_2 k) K) := by kernel_rfl
theorem wiok_32_2 (k : Nat) (vs : List (SV env.T)) (K : Ex → List (SV env.T) → Prop) (h : w_32_2 k vs K) : ∃ x1 : (List Task), ∃ x2 : Int, ∃ x3 : Int, ∃ x4 : Int, ∃ x5 : Int, ∃ x6 : Int, ∃ x7 : Int, ∃ x8 : (List Record), vs = [.dat 39 x1, .int .i64 x2, .int .i64 x3, .int .i64 x4, .int .i64 x5, .int .u64 x6, .int .u64 x7, .dat 50 x8] ∧ l_32_2 k x1 x2 x3 x4 x5 x6 x7 x8 (fun y1 => K .ret [.int .i64 y1]) (fun y1 => K (.exit 0) [.int .i64 y1]) := by
  unfold w_32_2 at h
  replace h := dCD_spec h
  obtain ⟨x1, vs0, e0, h⟩ := h
  replace h := dCI_spec h
  obtain ⟨x2, vs1, e1, h⟩ := h
  replace h := dCI_spec h
  obtain ⟨x3, vs2, e2, h⟩ := h
  replace h := dCI_spec h
  obtain ⟨x4, vs3, e3, h⟩ := h
  replace h := dCI_spec h
  obtain ⟨x5, vs4, e4, h⟩ := h
  replace h := dCI_spec h
  obtain ⟨x6, vs5, e5, h⟩ := h
  replace h := dCI_spec h
  obtain ⟨x7, vs6, e6, h⟩ := h
  replace h := dCD_spec h
  obtain ⟨x8, vs7, e7, h⟩ := h
  replace h := dCE_spec h
  obtain ⟨e, h⟩ := h
  exact ⟨x1, x2, x3, x4, x5, x6, x7, x8, by rw [e0, e1, e2, e3, e4, e5, e6, e7, e], h⟩
theorem zeok_32_2 (x1 : (List Task)) (x2 : Int) (x3 : Int) (x4 : Int) (x5 : Int) (x6 : Int) (x7 : Int) (x8 : (List Record)) (K : Ex → List (SV env.T) → Prop) : l_32_2 0 x1 x2 x3 x4 x5 x6 x7 x8 (fun y1 => K .ret [.int .i64 y1]) (fun y1 => K (.exit 0) [.int .i64 y1]) = False := by kernel_rfl
theorem ok_32_2 : PieceOk Try.prog env p_32_2 (.loop (loopAt b32 2)) := by
  refine loop_step (Wn := w_32_2) tab (ctxG_ok R31_ok false [] _ _) book_32_2 (pieces_sub pook_32_2_32 (by kernel_rfl)) rfl ?_ 2000 ?_
  · intro vs K h
    obtain ⟨x1, x2, x3, x4, x5, x6, x7, x8, _, h⟩ := wiok_32_2 0 vs K h
    exact Eq.mp (zeok_32_2 x1 x2 x3 x4 x5 x6 x7 x8 K) h
  · intro k vs K h
    obtain ⟨x1, x2, x3, x4, x5, x6, x7, x8, rfl, h⟩ := wiok_32_2 (k + 1) vs K h
    exact Eq.mp (stok_32_2 k x1 x2 x3 x4 x5 x6 x7 x8 K) h
theorem po_32_32 : PiecesOk Try.prog env (ctxG env false [] R31 [(32, [(2, p_32_2)])] []) 32 b32 :=
  pieces_at (rfIn_body (fn := f32) (b := b32) rfl hb32) (L := [(2, p_32_2)]) (S := []) (fun _ => rfl) (fun _ => rfl) (by kernel_rfl) (by kernel_rfl) (List.forall_mem_cons.2 ⟨fun _ => ok_32_2, (fun _ hq => by cases hq)⟩) (fun _ hq => by cases hq)
theorem bo_32 : BodiesOk Try.prog env (ctxG env false [] R31 [(32, [(2, p_32_2)])] []) := bodies_okG (ks := [32]) (by kernel_rfl) (List.forall_mem_cons.2 ⟨body_at (fn := f32) (body := b32) rfl hb32 po_32_32, (fun _ hq => by cases hq)⟩)
theorem eq_32 (x0 : (List Task)) (x1 : Segment) (K : Y32 → Prop) : vcCode env (ctxG env false [] R31 [(32, [(2, p_32_2)])] []) 2000 32 b32 (entry env f32 [v22 x0, v32 x1]) (finR env f32 decR32 K) = B32 x0 x1 K := by kernel_rfl
noncomputable def rule32 : Nat × Rule env := (32, ruleF env decA32 encR32 fun x => V32 x.1 x.2)
theorem r32 : RuleOk Try.prog env 32 rule32.2 :=
  rule_fun tab (ctxG_ok R31_ok false [] _ _) bo_32 (f := 32) (fn := f32) rfl hb32 po_32_32 2000 encA32 hA32 hR32 hD32 (fun _ => of_decide_eq_true (by kernel_rfl)) (fun x K => (eq_32 x.1 x.2 K).trans (by rw [V32_eq]))
noncomputable def R32 : List (Nat × Rule env) := rule32 :: R31
theorem R32_ok : AllOk Try.prog env R32 := ⟨r32, R31_ok⟩
-- 33 queuelab/queuelabref34.Join
noncomputable def f33 : Func := Try.f33
noncomputable def b33 : Code := (Try.f33.body).getD .skip
abbrev X33 := (List Segment)
def encA33 (x : X33) : List (SV env.T) := [v23 x]
def decA33 (l : List (SV env.T)) : Option X33 := match l with
  | [s0] => match u23 s0 with
    | some x0 => some (x0)
    | _ => none
  | _ => none
theorem hA33 (l : List (SV env.T)) (x : X33) (h : decA33 l = some x) : WkA env.has l (encA33 x) := by
  unfold decA33 at h; split at h
  · split at h
    · rename_i h0; cases h; exact (.cons (u23_wk h0) .nil)
    · cases h
  · cases h
abbrev Y33 := Segment × Int
def encR33 (x : Y33) : List (SV env.T) := [v32 x.1, v26 x.2]
def decR33 (l : List (SV env.T)) : Option Y33 := match l with
  | [s0, s1] => match u32 s0, u26 s1 with
    | some x0, some x1 => some (x0, x1)
    | _, _ => none
  | _ => none
theorem hR33 (l : List (SV env.T)) (x : Y33) (h : decR33 l = some x) : WkA env.has l (encR33 x) := by
  unfold decR33 at h; split at h
  · split at h
    · rename_i h0 h1; cases h; exact (.cons (u32_wk h0) (.cons (u26_wk h1) .nil))
    · cases h
  · cases h
theorem hD33 (y : Y33) : isDataV (tupV (encR33 y)) = true := rfl
theorem hb33 : f33.body = some b33 := by kernel_rfl
def l_33_5 : Nat → (List Segment) → Int → Int → Int → Int → Int → Int → Int → Int → Int → Int → (List Record) → (Int → Int → Int → Int → Int → Prop) → ((List Segment) → Int → Int → Int → Int → Int → Int → Int → Int → Int → (List Record) → Prop) → Prop
  | 0 => fun _ _ _ _ _ _ _ _ _ _ _ _ _ _ => False
  | k + 1 => fun x1 x2 x3 x4 x5 x6 x7 x8 x9 x10 x11 x12 kr k0 ↦ br (decide (x3 < (↑x1.length : Int))) (br (inb x3 (↑x1.length : Int)) (V31 (x1.getD x3.toNat (env.d 32)) fun y16 ↦ br (!y16) (kr 1 0 0 0 0) (br (inb x3 (↑x1.length : Int)) (br (inb x3 (↑x1.length : Int)) (br (inb x3 (↑x1.length : Int)) (br (roomB (x12 ++ (x1.getD x3.toNat (env.d 32)).records).length (bytesB env 50)) (l_33_5 k x1 x2 (IntKind.i64.wrap (x3 + 1)) x4 x5 x6 x7 x8 (x1.getD x3.toNat (env.d 32)).to_ x10 (x1.getD x3.toNat (env.d 32)).end_ (x12 ++ (x1.getD x3.toNat (env.d 32)).records) kr k0) False) False) False) False)) False) (k0 x1 x2 x4 x5 x6 x7 x8 x9 x10 x11 x12)
def w_33_5 (k : Nat) (vs : List (SV env.T)) (K : Ex → List (SV env.T) → Prop) : Prop :=
  dCD 32 vs fun x1 vs => dCI .i64 vs fun x2 vs => dCI .i64 vs fun x3 vs => dCI .i64 vs fun x4 vs => dCI .i64 vs fun x5 vs => dCI .u64 vs fun x6 vs => dCI .u64 vs fun x7 vs => dCN vs fun vs => dCI .i64 vs fun x8 vs => dCI .i64 vs fun x9 vs => dCI .u64 vs fun x10 vs => dCI .u64 vs fun x11 vs => dCD 50 vs fun x12 vs => dCE vs (l_33_5 k x1 x2 x3 x4 x5 x6 x7 x8 x9 x10 x11 x12 (fun y1 y2 y3 y4 y5 => K .ret [.int .i64 y1, .int .i64 y2, .int .i64 y3, .int .u64 y4, .int .u64 y5, .nils]) (fun y1 y2 y3 y4 y5 y6 y7 y8 y9 y10 y11 => K (.exit 0) [.dat 32 y1, .int .i64 y2, .int .i64 y3, .int .i64 y4, .int .u64 y5, .int .u64 y6, .nils, .int .i64 y7, .int .i64 y8, .int .u64 y9, .int .u64 y10, .dat 50 y11]))
def p_33_5 : Piece env := ⟨⟨[.holeD 32, .any, .ptr 0 0, .hole, .ptr 1 0, .hole, .any, .any, .any, .any, .any, .any, .any, .any, .any, .any, .any, .any, .any, .any, .any, .any, .any, .any, .any, .any, .any, .any, .any, .any, .any, .any, .any, .any, .any, .any, .any, .any, .any, .any, .any, .any, .any, .any, .any, .any, .any, .any, .any, .any, .any, .any, .any, .any, .any, .any, .any, .any, .any, .any, .any, .any, .any, .any, .any, .any, .any, .any, .any, .any, .any, .any, .any, .any, .any, .any, .any, .any, .any, .any, .any, .any, .any, .any, .any, .any, .any, .any, .any, .any, .any, .any, .any, .any, .any, .any, .any, .any, .any, .any, .any, .any, .any, .any, .any, .any], [], [(0, .cells 32 [.hole, .hole, .hole, .hole, .hole]), (1, .cells 32 [.hole, .hole, .hole, .hole, .row 2]), (2, .row 50)], 3⟩, exitF none [(0, ⟨[.holeD 32, .any, .ptr 0 0, .hole, .ptr 1 0, .any, .any, .any, .any, .any, .any, .any, .any, .any, .any, .any, .any, .any, .any, .any, .any, .any, .any, .any, .any, .any, .any, .any, .any, .any, .any, .any, .any, .any, .any, .any, .any, .any, .any, .any, .any, .any, .any, .any, .any, .any, .any, .any, .any, .any, .any, .any, .any, .any, .any, .any, .any, .any, .any, .any, .any, .any, .any, .any, .any, .any, .any, .any, .any, .any, .any, .any, .any, .any, .any, .any, .any, .any, .any, .any, .any, .any, .any, .any, .any, .any, .any, .any, .any, .any, .any, .any, .any, .any, .any, .any, .any, .any, .any, .any, .any, .any, .any, .any, .any, .any], [], [(0, .cells 32 [.hole, .hole, .hole, .hole, .hole]), (1, .cells 32 [.hole, .hole, .hole, .hole, .row 2]), (2, .row 50)], 3⟩)] (some ⟨[.any, .any, .ptr 0 0, .hole, .any, .any, .any, .any, .any, .any, .any, .any, .any, .any, .any, .any, .any, .any, .any, .any, .any, .any, .any, .any, .any, .any, .any, .any, .any, .any, .any, .any, .any, .any, .any, .any, .any, .any, .any, .any, .any, .any, .any, .any, .any, .any, .any, .any, .any, .any, .any, .any, .any, .any, .any, .any, .any, .any, .any, .any, .any, .any, .any, .any, .any, .any, .any, .any, .any, .any, .any, .any, .any, .any, .any, .any, .any, .any, .any, .any, .any, .any, .any, .any, .any, .any, .any, .any, .any, .any, .any, .any, .any, .any, .any, .any, .any, .any, .any, .any, .any, .any, .any, .any, .any, .any], [], [(0, .cells 32 [.hole, .hole, .hole, .hole, .hole])], 1⟩), fun vs K => ∃ k, w_33_5 k vs K⟩
def l_33_14 : Nat → (List Segment) → Int → Int → Int → Int → Int → Int → Int → Int → Int → Int → (List Record) → (Int → Int → Int → Int → Int → Prop) → ((List Segment) → Int → Int → Int → Int → Int → Int → Int → Int → Int → (List Record) → Prop) → Prop
  | 0 => fun _ _ _ _ _ _ _ _ _ _ _ _ _ _ => False
  | k + 1 => fun x1 x2 x3 x4 x5 x6 x7 x8 x9 x10 x11 x12 kr k2 ↦ br (decide (x3 < (↑x1.length : Int))) (br (inb x3 (↑x1.length : Int)) (br (inb (IntKind.i64.wrap (x3 - 1)) (↑x1.length : Int)) (br ((x1.getD x3.toNat (env.d 32)).from_ != (x1.getD (IntKind.i64.wrap (x3 - 1)).toNat (env.d 32)).to_) (kr 18 0 0 0 0) (l_33_14 k x1 x2 (IntKind.i64.wrap (x3 + 1)) x4 x5 x6 x7 x8 x9 x10 x11 x12 kr k2)) False) False) (k2 x1 x2 x4 x5 x6 x7 x8 x9 x10 x11 x12)
def w_33_14 (k : Nat) (vs : List (SV env.T)) (K : Ex → List (SV env.T) → Prop) : Prop :=
  dCD 32 vs fun x1 vs => dCI .i64 vs fun x2 vs => dCI .i64 vs fun x3 vs => dCI .i64 vs fun x4 vs => dCI .i64 vs fun x5 vs => dCI .u64 vs fun x6 vs => dCI .u64 vs fun x7 vs => dCN vs fun vs => dCI .i64 vs fun x8 vs => dCI .i64 vs fun x9 vs => dCI .u64 vs fun x10 vs => dCI .u64 vs fun x11 vs => dCD 50 vs fun x12 vs => dCE vs (l_33_14 k x1 x2 x3 x4 x5 x6 x7 x8 x9 x10 x11 x12 (fun y1 y2 y3 y4 y5 => K .ret [.int .i64 y1, .int .i64 y2, .int .i64 y3, .int .u64 y4, .int .u64 y5, .nils]) (fun y1 y2 y3 y4 y5 y6 y7 y8 y9 y10 y11 => K (.exit 2) [.dat 32 y1, .int .i64 y2, .int .i64 y3, .int .i64 y4, .int .u64 y5, .int .u64 y6, .nils, .int .i64 y7, .int .i64 y8, .int .u64 y9, .int .u64 y10, .dat 50 y11]))
def p_33_14 : Piece env := ⟨⟨[.holeD 32, .any, .ptr 0 0, .hole, .ptr 1 0, .any, .any, .hole, .any, .any, .any, .any, .any, .any, .any, .any, .any, .any, .any, .any, .any, .any, .any, .any, .any, .any, .any, .any, .any, .any, .any, .any, .any, .any, .any, .any, .any, .any, .any, .any, .any, .any, .any, .any, .any, .any, .any, .any, .any, .any, .any, .any, .any, .any, .any, .any, .any, .any, .any, .any, .any, .any, .any, .any, .any, .any, .any, .any, .any, .any, .any, .any, .any, .any, .any, .any, .any, .any, .any, .any, .any, .any, .any, .any, .any, .any, .any, .any, .any, .any, .any, .any, .any, .any, .any, .any, .any, .any, .any, .any, .any, .any, .any, .any, .any, .any], [], [(0, .cells 32 [.hole, .hole, .hole, .hole, .hole]), (1, .cells 32 [.hole, .hole, .hole, .hole, .row 2]), (2, .row 50)], 3⟩, exitF none [(2, ⟨[.holeD 32, .any, .ptr 0 0, .hole, .ptr 1 0, .any, .any, .any, .any, .any, .any, .any, .any, .any, .any, .any, .any, .any, .any, .any, .any, .any, .any, .any, .any, .any, .any, .any, .any, .any, .any, .any, .any, .any, .any, .any, .any, .any, .any, .any, .any, .any, .any, .any, .any, .any, .any, .any, .any, .any, .any, .any, .any, .any, .any, .any, .any, .any, .any, .any, .any, .any, .any, .any, .any, .any, .any, .any, .any, .any, .any, .any, .any, .any, .any, .any, .any, .any, .any, .any, .any, .any, .any, .any, .any, .any, .any, .any, .any, .any, .any, .any, .any, .any, .any, .any, .any, .any, .any, .any, .any, .any, .any, .any, .any, .any], [], [(0, .cells 32 [.hole, .hole, .hole, .hole, .hole]), (1, .cells 32 [.hole, .hole, .hole, .hole, .row 2]), (2, .row 50)], 3⟩)] (some ⟨[.any, .any, .ptr 0 0, .hole, .any, .any, .any, .any, .any, .any, .any, .any, .any, .any, .any, .any, .any, .any, .any, .any, .any, .any, .any, .any, .any, .any, .any, .any, .any, .any, .any, .any, .any, .any, .any, .any, .any, .any, .any, .any, .any, .any, .any, .any, .any, .any, .any, .any, .any, .any, .any, .any, .any, .any, .any, .any, .any, .any, .any, .any, .any, .any, .any, .any, .any, .any, .any, .any, .any, .any, .any, .any, .any, .any, .any, .any, .any, .any, .any, .any, .any, .any, .any, .any, .any, .any, .any, .any, .any, .any, .any, .any, .any, .any, .any, .any, .any, .any, .any, .any, .any, .any, .any, .any, .any, .any], [], [(0, .cells 32 [.hole, .hole, .hole, .hole, .hole])], 1⟩), fun vs K => ∃ k, w_33_14 k vs K⟩
def l_33_19 : Nat → (List Segment) → Int → Int → Int → Int → Int → Int → Int → Int → Int → Int → (List Record) → (Int → Int → Int → Int → Int → Prop) → (Int → Int → Int → Int → Int → Int → Int → Int → Int → (List Record) → Prop) → Prop
  | 0 => fun _ _ _ _ _ _ _ _ _ _ _ _ _ _ => False
  | k + 1 => fun x1 x2 x3 x4 x5 x6 x7 x8 x9 x10 x11 x12 kr k4 ↦ br (decide (x3 < (↑x1.length : Int))) (br (inb x3 (↑x1.length : Int)) (br (inb (IntKind.i64.wrap (x3 - 1)) (↑x1.length : Int)) (br ((x1.getD x3.toNat (env.d 32)).begin_ != (x1.getD (IntKind.i64.wrap (x3 - 1)).toNat (env.d 32)).end_) (kr 11 0 0 0 0) (l_33_19 k x1 x2 (IntKind.i64.wrap (x3 + 1)) x4 x5 x6 x7 x8 x9 x10 x11 x12 kr k4)) False) False) (k4 x2 x4 x5 x6 x7 x8 x9 x10 x11 x12)
def w_33_19 (k : Nat) (vs : List (SV env.T)) (K : Ex → List (SV env.T) → Prop) : Prop :=
  dCD 32 vs fun x1 vs => dCI .i64 vs fun x2 vs => dCI .i64 vs fun x3 vs => dCI .i64 vs fun x4 vs => dCI .i64 vs fun x5 vs => dCI .u64 vs fun x6 vs => dCI .u64 vs fun x7 vs => dCN vs fun vs => dCI .i64 vs fun x8 vs => dCI .i64 vs fun x9 vs => dCI .u64 vs fun x10 vs => dCI .u64 vs fun x11 vs => dCD 50 vs fun x12 vs => dCE vs (l_33_19 k x1 x2 x3 x4 x5 x6 x7 x8 x9 x10 x11 x12 (fun y1 y2 y3 y4 y5 => K .ret [.int .i64 y1, .int .i64 y2, .int .i64 y3, .int .u64 y4, .int .u64 y5, .nils]) (fun y1 y2 y3 y4 y5 y6 y7 y8 y9 y10 => K (.exit 4) [.int .i64 y1, .int .i64 y2, .int .i64 y3, .int .u64 y4, .int .u64 y5, .nils, .int .i64 y6, .int .i64 y7, .int .u64 y8, .int .u64 y9, .dat 50 y10]))
def p_33_19 : Piece env := ⟨⟨[.holeD 32, .any, .ptr 0 0, .hole, .ptr 1 0, .any, .any, .any, .hole, .any, .any, .any, .any, .any, .any, .any, .any, .any, .any, .any, .any, .any, .any, .any, .any, .any, .any, .any, .any, .any, .any, .any, .any, .any, .any, .any, .any, .any, .any, .any, .any, .any, .any, .any, .any, .any, .any, .any, .any, .any, .any, .any, .any, .any, .any, .any, .any, .any, .any, .any, .any, .any, .any, .any, .any, .any, .any, .any, .any, .any, .any, .any, .any, .any, .any, .any, .any, .any, .any, .any, .any, .any, .any, .any, .any, .any, .any, .any, .any, .any, .any, .any, .any, .any, .any, .any, .any, .any, .any, .any, .any, .any, .any, .any, .any, .any], [], [(0, .cells 32 [.hole, .hole, .hole, .hole, .hole]), (1, .cells 32 [.hole, .hole, .hole, .hole, .row 2]), (2, .row 50)], 3⟩, exitF none [(4, ⟨[.any, .any, .ptr 0 0, .hole, .ptr 1 0, .any, .any, .any, .any, .any, .any, .any, .any, .any, .any, .any, .any, .any, .any, .any, .any, .any, .any, .any, .any, .any, .any, .any, .any, .any, .any, .any, .any, .any, .any, .any, .any, .any, .any, .any, .any, .any, .any, .any, .any, .any, .any, .any, .any, .any, .any, .any, .any, .any, .any, .any, .any, .any, .any, .any, .any, .any, .any, .any, .any, .any, .any, .any, .any, .any, .any, .any, .any, .any, .any, .any, .any, .any, .any, .any, .any, .any, .any, .any, .any, .any, .any, .any, .any, .any, .any, .any, .any, .any, .any, .any, .any, .any, .any, .any, .any, .any, .any, .any, .any, .any], [], [(0, .cells 32 [.hole, .hole, .hole, .hole, .hole]), (1, .cells 32 [.hole, .hole, .hole, .hole, .row 2]), (2, .row 50)], 3⟩)] (some ⟨[.any, .any, .ptr 0 0, .hole, .any, .any, .any, .any, .any, .any, .any, .any, .any, .any, .any, .any, .any, .any, .any, .any, .any, .any, .any, .any, .any, .any, .any, .any, .any, .any, .any, .any, .any, .any, .any, .any, .any, .any, .any, .any, .any, .any, .any, .any, .any, .any, .any, .any, .any, .any, .any, .any, .any, .any, .any, .any, .any, .any, .any, .any, .any, .any, .any, .any, .any, .any, .any, .any, .any, .any, .any, .any, .any, .any, .any, .any, .any, .any, .any, .any, .any, .any, .any, .any, .any, .any, .any, .any, .any, .any, .any, .any, .any, .any, .any, .any, .any, .any, .any, .any, .any, .any, .any, .any, .any, .any], [], [(0, .cells 32 [.hole, .hole, .hole, .hole, .hole])], 1⟩), fun vs K => ∃ k, w_33_19 k vs K⟩
def s_33_3 : (List Segment) → Int → Int → Int → Int → Int → (Int → Int → Int → Int → Int → (List Record) → Prop) → Prop :=
  fun x1 x2 x3 x4 x5 x6 kr ↦ br (inb 0 (↑x1.length : Int)) (br (inb 0 (↑x1.length : Int)) (∃ k9, l_33_5 k9 x1 x2 0 x3 x4 x5 x6 (x1.getD 0 (env.d 32)).from_ 0 (x1.getD 0 (env.d 32)).begin_ 0 [] (fun y10 y11 y12 y13 y14 ↦ kr y10 y11 y12 y13 y14 []) fun y10 y11 y12 y13 y14 y15 y16 y17 y18 y19 y20 ↦ ∃ k21, l_33_14 k21 y10 y11 1 y12 y13 y14 y15 y16 y17 y18 y19 y20 (fun y22 y23 y24 y25 y26 ↦ kr y22 y23 y24 y25 y26 []) fun y22 y23 y24 y25 y26 y27 y28 y29 y30 y31 y32 ↦ ∃ k33, l_33_19 k33 y22 y23 1 y24 y25 y26 y27 y28 y29 y30 y31 y32 (fun y34 y35 y36 y37 y38 ↦ kr y34 y35 y36 y37 y38 []) fun _ _ _ _ _ y39 y40 y41 y42 y43 ↦ br (decide ((↑y43.length : Int) > 5000)) (kr 2 0 0 0 0 []) (kr 0 y39 y40 y41 y42 y43)) False) False
def v_33_3 (vs : List (SV env.T)) (K : Ex → List (SV env.T) → Prop) : Prop :=
  dCD 32 vs fun x1 vs => dCI .i64 vs fun x2 vs => dCI .i64 vs fun x3 vs => dCI .i64 vs fun x4 vs => dCI .u64 vs fun x5 vs => dCI .u64 vs fun x6 vs => dCN vs fun vs => dCE vs (s_33_3 x1 x2 x3 x4 x5 x6 (fun y1 y2 y3 y4 y5 y6 => K .ret [.int .i64 y1, .int .i64 y2, .int .i64 y3, .int .u64 y4, .int .u64 y5, .dat 50 y6]))
def q_33_3 : Piece env := ⟨⟨[.holeD 32, .any, .ptr 0 0, .hole, .any, .any, .any, .any, .any, .any, .any, .any, .any, .any, .any, .any, .any, .any, .any, .any, .any, .any, .any, .any, .any, .any, .any, .any, .any, .any, .any, .any, .any, .any, .any, .any, .any, .any, .any, .any, .any, .any, .any, .any, .any, .any, .any, .any, .any, .any, .any, .any, .any, .any, .any, .any, .any, .any, .any, .any, .any, .any, .any, .any, .any, .any, .any, .any, .any, .any, .any, .any, .any, .any, .any, .any, .any, .any, .any, .any, .any, .any, .any, .any, .any, .any, .any, .any, .any, .any, .any, .any, .any, .any, .any, .any, .any, .any, .any, .any, .any, .any, .any, .any, .any, .any], [], [(0, .cells 32 [.hole, .hole, .hole, .hole, .hole])], 1⟩, exitF none [] (some ⟨[.any, .any, .ptr 0 0, .hole, .any, .any, .any, .any, .any, .any, .any, .any, .any, .any, .any, .any, .any, .any, .any, .any, .any, .any, .any, .any, .any, .any, .any, .any, .any, .any, .any, .any, .any, .any, .any, .any, .any, .any, .any, .any, .any, .any, .any, .any, .any, .any, .any, .any, .any, .any, .any, .any, .any, .any, .any, .any, .any, .any, .any, .any, .any, .any, .any, .any, .any, .any, .any, .any, .any, .any, .any, .any, .any, .any, .any, .any, .any, .any, .any, .any, .any, .any, .any, .any, .any, .any, .any, .any, .any, .any, .any, .any, .any, .any, .any, .any, .any, .any, .any, .any, .any, .any, .any, .any, .any, .any], [], [(0, .cells 32 [.hole, .hole, .hole, .hole, .row 1]), (1, .row 50)], 2⟩), v_33_3⟩
noncomputable def B33 : (List Segment) → (Y33 → Prop) → Prop :=
  fun x0 K ↦ br (decide ((↑x0.length : Int) < 1)) (K (Segment.mk 0 0 0 0 [], 1)) (br (decide ((↑x0.length : Int) > 32)) (K (Segment.mk 0 0 0 0 [], 1)) (s_33_3 x0 0 0 0 0 0 fun y2 y3 y4 y5 y6 y7 ↦ K (Segment.mk y3 y4 y5 y6 y7, y2)))
theorem V33_ex : ∃ V : (List Segment) → (Y33 → Prop) → Prop, V = B33 := ⟨_, rfl⟩
noncomputable def V33 : (List Segment) → (Y33 → Prop) → Prop := Classical.choose V33_ex
theorem V33_eq : V33 = B33 := Classical.choose_spec V33_ex
theorem pook_33_5_33 : PiecesOk Try.prog env (ctxG env false [] R32 [] []) 33 b33 :=
  pieces_at (rfIn_body (fn := f33) (b := b33) rfl hb33) (L := []) (S := []) (fun _ => rfl) (fun _ => rfl) (by kernel_rfl) (by kernel_rfl) (fun _ hq => by cases hq) (fun _ hq => by cases hq)
theorem book_33_5 : BodiesOk Try.prog env (ctxG env false [] R32 [] []) := bodies_okG (ks := []) (by kernel_rfl) (fun _ hq => by cases hq)
theorem stok_33_5 (k : Nat) (x1 : (List Segment)) (x2 : Int) (x3 : Int) (x4 : Int) (x5 : Int) (x6 : Int) (x7 : Int) (x8 : Int) (x9 : Int) (x10 : Int) (x11 : Int) (x12 : (List Record)) (K : Ex → List (SV env.T) → Prop) : l_33_5 (k + 1) x1 x2 x3 x4 x5 x6 x7 x8 x9 x10 x11 x12 (fun y1 y2 y3 y4 y5 => K .ret [.int .i64 y1, .int .i64 y2, .int .i64 y3, .int .u64 y4, .int .u64 y5, .nils]) (fun y1 y2 y3 y4 y5 y6 y7 y8 y9 y10 y11 => K (.exit 0) [.dat 32 y1, .int .i64 y2, .int .i64 y3, .int .i64 y4, .int .u64 y5, .int .u64 y6, .nils, .int .i64 y7, .int .i64 y8, .int .u64 y9, .int .u64 y10, .dat 50 y11]) = vcCode env (ctxG env false [] R32 [] []) 2000 33 (loopAt b33 5) (insSt p_33_5.head [.dat 32 x1, .int .i64 x2, .int .i64 x3, .int .i64 x4, .int .i64 x5, .int .u64 x6, .int .u64 x7, .nils, .int .i64 x8, .int .i64 x9, .int .u64 x10, .int .u64 x11, .dat 50 x12]) (stepK p_33_5 (w_33_5 k) K) := by kernel_rfl
theorem wiok_33_5 (k : Nat) (vs : List (SV env.T)) (K : Ex → List (SV env.T) → Prop) (h : w_33_5 k vs K) : ∃ x1 : (List Segment), ∃ x2 : Int, ∃ x3 : Int, ∃ x4 : Int, ∃ x5 : Int, ∃ x6 : Int, ∃ x7 : Int, ∃ x8 : Int, ∃ x9 : Int, ∃ x10 : Int, ∃ x11 : Int, ∃ x12 : (List Record), vs = [.dat 32 x1, .int .i64 x2, .int .i64 x3, .int .i64 x4, .int .i64 x5, .int .u64 x6, .int .u64 x7, .nils, .int .i64 x8, .int .i64 x9, .int .u64 x10, .int .u64 x11, .dat 50 x12] ∧ l_33_5 k x1 x2 x3 x4 x5 x6 x7 x8 x9 x10 x11 x12 (fun y1 y2 y3 y4 y5 => K .ret [.int .i64 y1, .int .i64 y2, .int .i64 y3, .int .u64 y4, .int .u64 y5, .nils]) (fun y1 y2 y3 y4 y5 y6 y7 y8 y9 y10 y11 => K (.exit 0) [.dat 32 y1, .int .i64 y2, .int .i64 y3, .int .i64 y4, .int .u64 y5, .int .u64 y6, .nils, .int .i64 y7, .int .i64 y8, .int .u64 y9, .int .u64 y10, .dat 50 y11]) := by
  unfold w_33_5 at h
  replace h := dCD_spec h
  obtain ⟨x1, vs0, e0, h⟩ := h
  replace h := dCI_spec h
  obtain ⟨x2, vs1, e1, h⟩ := h
  replace h := dCI_spec h
  obtain ⟨x3, vs2, e2, h⟩ := h
  replace h := dCI_spec h
  obtain ⟨x4, vs3, e3, h⟩ := h
  replace h := dCI_spec h
  obtain ⟨x5, vs4, e4, h⟩ := h
  replace h := dCI_spec h
  obtain ⟨x6, vs5, e5, h⟩ := h
  replace h := dCI_spec h
  obtain ⟨x7, vs6, e6, h⟩ := h
  replace h := dCN_spec h
  obtain ⟨vs7, e7, h⟩ := h
  replace h := dCI_spec h
  obtain ⟨x8, vs8, e8, h⟩ := h
  replace h := dCI_spec h
  obtain ⟨x9, vs9, e9, h⟩ := h
  replace h := dCI_spec h
  obtain ⟨x10, vs10, e10, h⟩ := h
  replace h := dCI_spec h
  obtain ⟨x11, vs11, e11, h⟩ := h
  replace h := dCD_spec h
  obtain ⟨x12, vs12, e12, h⟩ := h
  replace h := dCE_spec h
  obtain ⟨e, h⟩ := h
  exact ⟨x1, x2, x3, x4, x5, x6, x7, x8, x9, x10, x11, x12, by rw [e0, e1, e2, e3, e4, e5, e6, e7, e8, e9, e10, e11, e12, e], h⟩
theorem zeok_33_5 (x1 : (List Segment)) (x2 : Int) (x3 : Int) (x4 : Int) (x5 : Int) (x6 : Int) (x7 : Int) (x8 : Int) (x9 : Int) (x10 : Int) (x11 : Int) (x12 : (List Record)) (K : Ex → List (SV env.T) → Prop) : l_33_5 0 x1 x2 x3 x4 x5 x6 x7 x8 x9 x10 x11 x12 (fun y1 y2 y3 y4 y5 => K .ret [.int .i64 y1, .int .i64 y2, .int .i64 y3, .int .u64 y4, .int .u64 y5, .nils]) (fun y1 y2 y3 y4 y5 y6 y7 y8 y9 y10 y11 => K (.exit 0) [.dat 32 y1, .int .i64 y2, .int .i64 y3, .int .i64 y4, .int .u64 y5, .int .u64 y6, .nils, .int .i64 y7, .int .i64 y8, .int .u64 y9, .int .u64 y10, .dat 50 y11]) = False := by kernel_rfl
theorem ok_33_5 : PieceOk Try.prog env p_33_5 (.loop (loopAt b33 5)) := by
  refine loop_step (Wn := w_33_5) tab (ctxG_ok R32_ok false [] _ _) book_33_5 (pieces_sub pook_33_5_33 (by kernel_rfl)) rfl ?_ 2000 ?_
  · intro vs K h
    obtain ⟨x1, x2, x3, x4, x5, x6, x7, x8, x9, x10, x11, x12, _, h⟩ := wiok_33_5 0 vs K h
    exact Eq.mp (zeok_33_5 x1 x2 x3 x4 x5 x6 x7 x8 x9 x10 x11 x12 K) h
  · intro k vs K h
    obtain ⟨x1, x2, x3, x4, x5, x6, x7, x8, x9, x10, x11, x12, rfl, h⟩ := wiok_33_5 (k + 1) vs K h
    exact Eq.mp (stok_33_5 k x1 x2 x3 x4 x5 x6 x7 x8 x9 x10 x11 x12 K) h
theorem pook_33_14_33 : PiecesOk Try.prog env (ctxG env false [] R32 [] []) 33 b33 :=
  pieces_at (rfIn_body (fn := f33) (b := b33) rfl hb33) (L := []) (S := []) (fun _ => rfl) (fun _ => rfl) (by kernel_rfl) (by kernel_rfl) (fun _ hq => by cases hq) (fun _ hq => by cases hq)
theorem book_33_14 : BodiesOk Try.prog env (ctxG env false [] R32 [] []) := bodies_okG (ks := []) (by kernel_rfl) (fun _ hq => by cases hq)
theorem stok_33_14 (k : Nat) (x1 : (List Segment)) (x2 : Int) (x3 : Int) (x4 : Int) (x5 : Int) (x6 : Int) (x7 : Int) (x8 : Int) (x9 : Int) (x10 : Int) (x11 : Int) (x12 : (List Record)) (K : Ex → List (SV env.T) → Prop) : l_33_14 (k + 1) x1 x2 x3 x4 x5 x6 x7 x8 x9 x10 x11 x12 (fun y1 y2 y3 y4 y5 => K .ret [.int .i64 y1, .int .i64 y2, .int .i64 y3, .int .u64 y4, .int .u64 y5, .nils]) (fun y1 y2 y3 y4 y5 y6 y7 y8 y9 y10 y11 => K (.exit 2) [.dat 32 y1, .int .i64 y2, .int .i64 y3, .int .i64 y4, .int .u64 y5, .int .u64 y6, .nils, .int .i64 y7, .int .i64 y8, .int .u64 y9, .int .u64 y10, .dat 50 y11]) = vcCode env (ctxG env false [] R32 [] []) 2000 33 (loopAt b33 14) (insSt p_33_14.head [.dat 32 x1, .int .i64 x2, .int .i64 x3, .int .i64 x4, .int .i64 x5, .int .u64 x6, .int .u64 x7, .nils, .int .i64 x8, .int .i64 x9, .int .u64 x10, .int .u64 x11, .dat 50 x12]) (stepK p_33_14 (w_33_14 k) K) := by kernel_rfl
theorem wiok_33_14 (k : Nat) (vs : List (SV env.T)) (K : Ex → List (SV env.T) → Prop) (h : w_33_14 k vs K) : ∃ x1 : (List Segment), ∃ x2 : Int, ∃ x3 : Int, ∃ x4 : Int, ∃ x5 : Int, ∃ x6 : Int, ∃ x7 : Int, ∃ x8 : Int, ∃ x9 : Int, ∃ x10 : Int, ∃ x11 : Int, ∃ x12 : (List Record), vs = [.dat 32 x1, .int .i64 x2, .int .i64 x3, .int .i64 x4, .int .i64 x5, .int .u64 x6, .int .u64 x7, .nils, .int .i64 x8, .int .i64 x9, .int .u64 x10, .int .u64 x11, .dat 50 x12] ∧ l_33_14 k x1 x2 x3 x4 x5 x6 x7 x8 x9 x10 x11 x12 (fun y1 y2 y3 y4 y5 => K .ret [.int .i64 y1, .int .i64 y2, .int .i64 y3, .int .u64 y4, .int .u64 y5, .nils]) (fun y1 y2 y3 y4 y5 y6 y7 y8 y9 y10 y11 => K (.exit 2) [.dat 32 y1, .int .i64 y2, .int .i64 y3, .int .i64 y4, .int .u64 y5, .int .u64 y6, .nils, .int .i64 y7, .int .i64 y8, .int .u64 y9, .int .u64 y10, .dat 50 y11]) := by
  unfold w_33_14 at h
  replace h := dCD_spec h
  obtain ⟨x1, vs0, e0, h⟩ := h
  replace h := dCI_spec h
  obtain ⟨x2, vs1, e1, h⟩ := h
  replace h := dCI_spec h
  obtain ⟨x3, vs2, e2, h⟩ := h
  replace h := dCI_spec h
  obtain ⟨x4, vs3, e3, h⟩ := h
  replace h := dCI_spec h
  obtain ⟨x5, vs4, e4, h⟩ := h
  replace h := dCI_spec h
  obtain ⟨x6, vs5, e5, h⟩ := h
  replace h := dCI_spec h
  obtain ⟨x7, vs6, e6, h⟩ := h
  replace h := dCN_spec h
  obtain ⟨vs7, e7, h⟩ := h
  replace h := dCI_spec h
  obtain ⟨x8, vs8, e8, h⟩ := h
  replace h := dCI_spec h
  obtain ⟨x9, vs9, e9, h⟩ := h
  replace h := dCI_spec h
  obtain ⟨x10, vs10, e10, h⟩ := h
  replace h := dCI_spec h
  obtain ⟨x11, vs11, e11, h⟩ := h
  replace h := dCD_spec h
  obtain ⟨x12, vs12, e12, h⟩ := h
  replace h := dCE_spec h
  obtain ⟨e, h⟩ := h
  exact ⟨x1, x2, x3, x4, x5, x6, x7, x8, x9, x10, x11, x12, by rw [e0, e1, e2, e3, e4, e5, e6, e7, e8, e9, e10, e11, e12, e], h⟩
theorem zeok_33_14 (x1 : (List Segment)) (x2 : Int) (x3 : Int) (x4 : Int) (x5 : Int) (x6 : Int) (x7 : Int) (x8 : Int) (x9 : Int) (x10 : Int) (x11 : Int) (x12 : (List Record)) (K : Ex → List (SV env.T) → Prop) : l_33_14 0 x1 x2 x3 x4 x5 x6 x7 x8 x9 x10 x11 x12 (fun y1 y2 y3 y4 y5 => K .ret [.int .i64 y1, .int .i64 y2, .int .i64 y3, .int .u64 y4, .int .u64 y5, .nils]) (fun y1 y2 y3 y4 y5 y6 y7 y8 y9 y10 y11 => K (.exit 2) [.dat 32 y1, .int .i64 y2, .int .i64 y3, .int .i64 y4, .int .u64 y5, .int .u64 y6, .nils, .int .i64 y7, .int .i64 y8, .int .u64 y9, .int .u64 y10, .dat 50 y11]) = False := by kernel_rfl
theorem ok_33_14 : PieceOk Try.prog env p_33_14 (.loop (loopAt b33 14)) := by
  refine loop_step (Wn := w_33_14) tab (ctxG_ok R32_ok false [] _ _) book_33_14 (pieces_sub pook_33_14_33 (by kernel_rfl)) rfl ?_ 2000 ?_
  · intro vs K h
    obtain ⟨x1, x2, x3, x4, x5, x6, x7, x8, x9, x10, x11, x12, _, h⟩ := wiok_33_14 0 vs K h
    exact Eq.mp (zeok_33_14 x1 x2 x3 x4 x5 x6 x7 x8 x9 x10 x11 x12 K) h
  · intro k vs K h
    obtain ⟨x1, x2, x3, x4, x5, x6, x7, x8, x9, x10, x11, x12, rfl, h⟩ := wiok_33_14 (k + 1) vs K h
    exact Eq.mp (stok_33_14 k x1 x2 x3 x4 x5 x6 x7 x8 x9 x10 x11 x12 K) h
theorem pook_33_19_33 : PiecesOk Try.prog env (ctxG env false [] R32 [] []) 33 b33 :=
  pieces_at (rfIn_body (fn := f33) (b := b33) rfl hb33) (L := []) (S := []) (fun _ => rfl) (fun _ => rfl) (by kernel_rfl) (by kernel_rfl) (fun _ hq => by cases hq) (fun _ hq => by cases hq)
theorem book_33_19 : BodiesOk Try.prog env (ctxG env false [] R32 [] []) := bodies_okG (ks := []) (by kernel_rfl) (fun _ hq => by cases hq)
theorem stok_33_19 (k : Nat) (x1 : (List Segment)) (x2 : Int) (x3 : Int) (x4 : Int) (x5 : Int) (x6 : Int) (x7 : Int) (x8 : Int) (x9 : Int) (x10 : Int) (x11 : Int) (x12 : (List Record)) (K : Ex → List (SV env.T) → Prop) : l_33_19 (k + 1) x1 x2 x3 x4 x5 x6 x7 x8 x9 x10 x11 x12 (fun y1 y2 y3 y4 y5 => K .ret [.int .i64 y1, .int .i64 y2, .int .i64 y3, .int .u64 y4, .int .u64 y5, .nils]) (fun y1 y2 y3 y4 y5 y6 y7 y8 y9 y10 => K (.exit 4) [.int .i64 y1, .int .i64 y2, .int .i64 y3, .int .u64 y4, .int .u64 y5, .nils, .int .i64 y6, .int .i64 y7, .int .u64 y8, .int .u64 y9, .dat 50 y10]) = vcCode env (ctxG env false [] R32 [] []) 2000 33 (loopAt b33 19) (insSt p_33_19.head [.dat 32 x1, .int .i64 x2, .int .i64 x3, .int .i64 x4, .int .i64 x5, .int .u64 x6, .int .u64 x7, .nils, .int .i64 x8, .int .i64 x9, .int .u64 x10, .int .u64 x11, .dat 50 x12]) (stepK p_33_19 (w_33_19 k) K) := by kernel_rfl
theorem wiok_33_19 (k : Nat) (vs : List (SV env.T)) (K : Ex → List (SV env.T) → Prop) (h : w_33_19 k vs K) : ∃ x1 : (List Segment), ∃ x2 : Int, ∃ x3 : Int, ∃ x4 : Int, ∃ x5 : Int, ∃ x6 : Int, ∃ x7 : Int, ∃ x8 : Int, ∃ x9 : Int, ∃ x10 : Int, ∃ x11 : Int, ∃ x12 : (List Record), vs = [.dat 32 x1, .int .i64 x2, .int .i64 x3, .int .i64 x4, .int .i64 x5, .int .u64 x6, .int .u64 x7, .nils, .int .i64 x8, .int .i64 x9, .int .u64 x10, .int .u64 x11, .dat 50 x12] ∧ l_33_19 k x1 x2 x3 x4 x5 x6 x7 x8 x9 x10 x11 x12 (fun y1 y2 y3 y4 y5 => K .ret [.int .i64 y1, .int .i64 y2, .int .i64 y3, .int .u64 y4, .int .u64 y5, .nils]) (fun y1 y2 y3 y4 y5 y6 y7 y8 y9 y10 => K (.exit 4) [.int .i64 y1, .int .i64 y2, .int .i64 y3, .int .u64 y4, .int .u64 y5, .nils, .int .i64 y6, .int .i64 y7, .int .u64 y8, .int .u64 y9, .dat 50 y10]) := by
  unfold w_33_19 at h
  replace h := dCD_spec h
  obtain ⟨x1, vs0, e0, h⟩ := h
  replace h := dCI_spec h
  obtain ⟨x2, vs1, e1, h⟩ := h
  replace h := dCI_spec h
  obtain ⟨x3, vs2, e2, h⟩ := h
  replace h := dCI_spec h
  obtain ⟨x4, vs3, e3, h⟩ := h
  replace h := dCI_spec h
  obtain ⟨x5, vs4, e4, h⟩ := h
  replace h := dCI_spec h
  obtain ⟨x6, vs5, e5, h⟩ := h
  replace h := dCI_spec h
  obtain ⟨x7, vs6, e6, h⟩ := h
  replace h := dCN_spec h
  obtain ⟨vs7, e7, h⟩ := h
  replace h := dCI_spec h
  obtain ⟨x8, vs8, e8, h⟩ := h
  replace h := dCI_spec h
  obtain ⟨x9, vs9, e9, h⟩ := h
  replace h := dCI_spec h
  obtain ⟨x10, vs10, e10, h⟩ := h
  replace h := dCI_spec h
  obtain ⟨x11, vs11, e11, h⟩ := h
  replace h := dCD_spec h
  obtain ⟨x12, vs12, e12, h⟩ := h
  replace h := dCE_spec h
  obtain ⟨e, h⟩ := h
  exact ⟨x1, x2, x3, x4, x5, x6, x7, x8, x9, x10, x11, x12, by rw [e0, e1, e2, e3, e4, e5, e6, e7, e8, e9, e10, e11, e12, e], h⟩
theorem zeok_33_19 (x1 : (List Segment)) (x2 : Int) (x3 : Int) (x4 : Int) (x5 : Int) (x6 : Int) (x7 : Int) (x8 : Int) (x9 : Int) (x10 : Int) (x11 : Int) (x12 : (List Record)) (K : Ex → List (SV env.T) → Prop) : l_33_19 0 x1 x2 x3 x4 x5 x6 x7 x8 x9 x10 x11 x12 (fun y1 y2 y3 y4 y5 => K .ret [.int .i64 y1, .int .i64 y2, .int .i64 y3, .int .u64 y4, .int .u64 y5, .nils]) (fun y1 y2 y3 y4 y5 y6 y7 y8 y9 y10 => K (.exit 4) [.int .i64 y1, .int .i64 y2, .int .i64 y3, .int .u64 y4, .int .u64 y5, .nils, .int .i64 y6, .int .i64 y7, .int .u64 y8, .int .u64 y9, .dat 50 y10]) = False := by kernel_rfl
theorem ok_33_19 : PieceOk Try.prog env p_33_19 (.loop (loopAt b33 19)) := by
  refine loop_step (Wn := w_33_19) tab (ctxG_ok R32_ok false [] _ _) book_33_19 (pieces_sub pook_33_19_33 (by kernel_rfl)) rfl ?_ 2000 ?_
  · intro vs K h
    obtain ⟨x1, x2, x3, x4, x5, x6, x7, x8, x9, x10, x11, x12, _, h⟩ := wiok_33_19 0 vs K h
    exact Eq.mp (zeok_33_19 x1 x2 x3 x4 x5 x6 x7 x8 x9 x10 x11 x12 K) h
  · intro k vs K h
    obtain ⟨x1, x2, x3, x4, x5, x6, x7, x8, x9, x10, x11, x12, rfl, h⟩ := wiok_33_19 (k + 1) vs K h
    exact Eq.mp (stok_33_19 k x1 x2 x3 x4 x5 x6 x7 x8 x9 x10 x11 x12 K) h
theorem pooq_33_3_33 : PiecesOk Try.prog env (ctxG env false [] R32 [(33, [(5, p_33_5), (14, p_33_14), (19, p_33_19)])] []) 33 b33 :=
  pieces_at (rfIn_body (fn := f33) (b := b33) rfl hb33) (L := [(5, p_33_5), (14, p_33_14), (19, p_33_19)]) (S := []) (fun _ => rfl) (fun _ => rfl) (by kernel_rfl) (by kernel_rfl) (List.forall_mem_cons.2 ⟨fun _ => ok_33_5, (List.forall_mem_cons.2 ⟨fun _ => ok_33_14, (List.forall_mem_cons.2 ⟨fun _ => ok_33_19, (fun _ hq => by cases hq)⟩)⟩)⟩) (fun _ hq => by cases hq)
theorem booq_33_3 : BodiesOk Try.prog env (ctxG env false [] R32 [(33, [(5, p_33_5), (14, p_33_14), (19, p_33_19)])] []) := bodies_okG (ks := [33]) (by kernel_rfl) (List.forall_mem_cons.2 ⟨body_at (fn := f33) (body := b33) rfl hb33 pooq_33_3_33, (fun _ hq => by cases hq)⟩)
theorem stoq_33_3 (x1 : (List Segment)) (x2 : Int) (x3 : Int) (x4 : Int) (x5 : Int) (x6 : Int) (K : Ex → List (SV env.T) → Prop) : s_33_3  x1 x2 x3 x4 x5 x6 (fun y1 y2 y3 y4 y5 y6 => K .ret [.int .i64 y1, .int .i64 y2, .int .i64 y3, .int .u64 y4, .int .u64 y5, .dat 50 y6]) = vcCode env (ctxG env false [] R32 [(33, [(5, p_33_5), (14, p_33_14), (19, p_33_19)])] []) 2000 33 (seqAt b33 3) (insSt q_33_3.head [.dat 32 x1, .int .i64 x2, .int .i64 x3, .int .i64 x4, .int .u64 x5, .int .u64 x6, .nils]) (outP env q_33_3 K) := by kernel_rfl
theorem wioq_33_3 (vs : List (SV env.T)) (K : Ex → List (SV env.T) → Prop) (h : v_33_3 vs K) : ∃ x1 : (List Segment), ∃ x2 : Int, ∃ x3 : Int, ∃ x4 : Int, ∃ x5 : Int, ∃ x6 : Int, vs = [.dat 32 x1, .int .i64 x2, .int .i64 x3, .int .i64 x4, .int .u64 x5, .int .u64 x6, .nils] ∧ s_33_3  x1 x2 x3 x4 x5 x6 (fun y1 y2 y3 y4 y5 y6 => K .ret [.int .i64 y1, .int .i64 y2, .int .i64 y3, .int .u64 y4, .int .u64 y5, .dat 50 y6]) := by
  unfold v_33_3 at h
  replace h := dCD_spec h
  obtain ⟨x1, vs0, e0, h⟩ := h
  replace h := dCI_spec h
  obtain ⟨x2, vs1, e1, h⟩ := h
  replace h := dCI_spec h
  obtain ⟨x3, vs2, e2, h⟩ := h
  replace h := dCI_spec h
  obtain ⟨x4, vs3, e3, h⟩ := h
  replace h := dCI_spec h
  obtain ⟨x5, vs4, e4, h⟩ := h
  replace h := dCI_spec h
  obtain ⟨x6, vs5, e5, h⟩ := h
  replace h := dCN_spec h
  obtain ⟨vs6, e6, h⟩ := h
  replace h := dCE_spec h
  obtain ⟨e, h⟩ := h
  exact ⟨x1, x2, x3, x4, x5, x6, by rw [e0, e1, e2, e3, e4, e5, e6, e], h⟩
theorem oq_33_3 : PieceOk Try.prog env q_33_3 (seqAt b33 3) := by
  refine seq_step tab (ctxG_ok R32_ok false [] _ _) booq_33_3 (pieces_subS pooq_33_3_33 (by kernel_rfl)) 2000 ?_
  intro vs K h
  obtain ⟨x1, x2, x3, x4, x5, x6, rfl, h⟩ := wioq_33_3 vs K h
  exact Eq.mp (stoq_33_3 x1 x2 x3 x4 x5 x6 K) h
theorem po_33_33 : PiecesOk Try.prog env (ctxG env false [] R32 [(33, [(5, p_33_5), (14, p_33_14), (19, p_33_19)])] [(33, [(3, q_33_3)])]) 33 b33 :=
  pieces_at (rfIn_body (fn := f33) (b := b33) rfl hb33) (L := [(5, p_33_5), (14, p_33_14), (19, p_33_19)]) (S := [(3, q_33_3)]) (fun _ => rfl) (fun _ => rfl) (by kernel_rfl) (by kernel_rfl) (List.forall_mem_cons.2 ⟨fun _ => ok_33_5, (List.forall_mem_cons.2 ⟨fun _ => ok_33_14, (List.forall_mem_cons.2 ⟨fun _ => ok_33_19, (fun _ hq => by cases hq)⟩)⟩)⟩) (List.forall_mem_cons.2 ⟨fun _ => oq_33_3, (fun _ hq => by cases hq)⟩)
theorem bo_33 : BodiesOk Try.prog env (ctxG env false [] R32 [(33, [(5, p_33_5), (14, p_33_14), (19, p_33_19)])] [(33, [(3, q_33_3)])]) := bodies_okG (ks := [33]) (by kernel_rfl) (List.forall_mem_cons.2 ⟨body_at (fn := f33) (body := b33) rfl hb33 po_33_33, (fun _ hq => by cases hq)⟩)
theorem eq_33 (x0 : (List Segment)) (K : Y33 → Prop) : vcCode env (ctxG env false [] R32 [(33, [(5, p_33_5), (14, p_33_14), (19, p_33_19)])] [(33, [(3, q_33_3)])]) 2000 33 b33 (entry env f33 [v23 x0]) (finR env f33 decR33 K) = B33 x0 K := by kernel_rfl
noncomputable def rule33 : Nat × Rule env := (33, ruleF env decA33 encR33 fun x => V33 x)
theorem r33 : RuleOk Try.prog env 33 rule33.2 :=
  rule_fun tab (ctxG_ok R32_ok false [] _ _) bo_33 (f := 33) (fn := f33) rfl hb33 po_33_33 2000 encA33 hA33 hR33 hD33 (fun _ => of_decide_eq_true (by kernel_rfl)) (fun x K => (eq_33 x K).trans (by rw [V33_eq]))
noncomputable def R33 : List (Nat × Rule env) := rule33 :: R32
theorem R33_ok : AllOk Try.prog env R33 := ⟨r33, R32_ok⟩
-- 13 queuelab/queuelabref37.Merge
noncomputable def f13 : Func := Try.f13
noncomputable def b13 : Code := (Try.f13.body).getD .skip
abbrev X13 := (List Task) × (List Segment)
def encA13 (x : X13) : List (SV env.T) := [v22 x.1, v23 x.2]
def decA13 (l : List (SV env.T)) : Option X13 := match l with
  | [s0, s1] => match u22 s0, u23 s1 with
    | some x0, some x1 => some (x0, x1)
    | _, _ => none
  | _ => none
theorem hA13 (l : List (SV env.T)) (x : X13) (h : decA13 l = some x) : WkA env.has l (encA13 x) := by
  unfold decA13 at h; split at h
  · split at h
    · rename_i h0 h1; cases h; exact (.cons (u22_wk h0) (.cons (u23_wk h1) .nil))
    · cases h
  · cases h
abbrev Y13 := Segment × Int
def encR13 (x : Y13) : List (SV env.T) := [v32 x.1, v26 x.2]
def decR13 (l : List (SV env.T)) : Option Y13 := match l with
  | [s0, s1] => match u32 s0, u26 s1 with
    | some x0, some x1 => some (x0, x1)
    | _, _ => none
  | _ => none
theorem hR13 (l : List (SV env.T)) (x : Y13) (h : decR13 l = some x) : WkA env.has l (encR13 x) := by
  unfold decR13 at h; split at h
  · split at h
    · rename_i h0 h1; cases h; exact (.cons (u32_wk h0) (.cons (u26_wk h1) .nil))
    · cases h
  · cases h
theorem hD13 (y : Y13) : isDataV (tupV (encR13 y)) = true := rfl
theorem hb13 : f13.body = some b13 := by kernel_rfl
def l_13_5 : Nat → (List Task) → (List Segment) → Int → Int → Int → Int → Int → Int → (Int → Int → Int → Int → Int → Prop) → ((List Task) → (List Segment) → Int → Int → Int → Int → Int → Prop) → Prop
  | 0 => fun _ _ _ _ _ _ _ _ _ _ => False
  | k + 1 => fun x1 x2 x3 x4 x5 x6 x7 x8 kr k0 ↦ br (decide (x4 < (↑x2.length : Int))) (br (inb x4 (↑x2.length : Int)) (V31 (x2.getD x4.toNat (env.d 32)) fun y12 ↦ br (!y12) (kr 1 0 0 0 0) (l_13_5 k x1 x2 x3 (IntKind.i64.wrap (x4 + 1)) x5 x6 x7 x8 kr k0)) False) (k0 x1 x2 x3 x5 x6 x7 x8)
def w_13_5 (k : Nat) (vs : List (SV env.T)) (K : Ex → List (SV env.T) → Prop) : Prop :=
  dCD 39 vs fun x1 vs => dCD 32 vs fun x2 vs => dCI .i64 vs fun x3 vs => dCI .i64 vs fun x4 vs => dCI .i64 vs fun x5 vs => dCI .i64 vs fun x6 vs => dCI .u64 vs fun x7 vs => dCI .u64 vs fun x8 vs => dCN vs fun vs => dCE vs (l_13_5 k x1 x2 x3 x4 x5 x6 x7 x8 (fun y1 y2 y3 y4 y5 => K .ret [.int .i64 y1, .int .i64 y2, .int .i64 y3, .int .u64 y4, .int .u64 y5, .nils]) (fun y1 y2 y3 y4 y5 y6 y7 => K (.exit 0) [.dat 39 y1, .dat 32 y2, .int .i64 y3, .int .i64 y4, .int .i64 y5, .int .u64 y6, .int .u64 y7, .nils]))
def p_13_5 : Piece env := ⟨⟨[.holeD 39, .holeD 32, .any, .any, .ptr 0 0, .hole, .any, .hole, .any, .any, .any, .any, .any, .any, .any, .any, .any, .any, .any, .any, .any, .any, .any, .any, .any, .any, .any, .any, .any, .any, .any, .any, .any, .any, .any, .any, .any, .any, .any, .any, .any, .any, .any, .any, .any, .any, .any, .any, .any, .any, .any, .any, .any, .any, .any, .any, .any, .any, .any, .any, .any, .any, .any, .any, .any, .any, .any, .any, .any, .any, .any, .any, .any, .any, .any, .any, .any, .any, .any, .any, .any, .any, .any, .any, .any, .any, .any, .any, .any, .any, .any, .any, .any, .any, .any, .any, .any, .any, .any, .any, .any], [], [(0, .cells 32 [.hole, .hole, .hole, .hole, .hole])], 1⟩, exitF none [(0, ⟨[.holeD 39, .holeD 32, .any, .any, .ptr 0 0, .hole, .any, .any, .any, .any, .any, .any, .any, .any, .any, .any, .any, .any, .any, .any, .any, .any, .any, .any, .any, .any, .any, .any, .any, .any, .any, .any, .any, .any, .any, .any, .any, .any, .any, .any, .any, .any, .any, .any, .any, .any, .any, .any, .any, .any, .any, .any, .any, .any, .any, .any, .any, .any, .any, .any, .any, .any, .any, .any, .any, .any, .any, .any, .any, .any, .any, .any, .any, .any, .any, .any, .any, .any, .any, .any, .any, .any, .any, .any, .any, .any, .any, .any, .any, .any, .any, .any, .any, .any, .any, .any, .any, .any, .any, .any, .any], [], [(0, .cells 32 [.hole, .hole, .hole, .hole, .hole])], 1⟩)] (some ⟨[.any, .any, .any, .any, .ptr 0 0, .hole, .any, .any, .any, .any, .any, .any, .any, .any, .any, .any, .any, .any, .any, .any, .any, .any, .any, .any, .any, .any, .any, .any, .any, .any, .any, .any, .any, .any, .any, .any, .any, .any, .any, .any, .any, .any, .any, .any, .any, .any, .any, .any, .any, .any, .any, .any, .any, .any, .any, .any, .any, .any, .any, .any, .any, .any, .any, .any, .any, .any, .any, .any, .any, .any, .any, .any, .any, .any, .any, .any, .any, .any, .any, .any, .any, .any, .any, .any, .any, .any, .any, .any, .any, .any, .any, .any, .any, .any, .any, .any, .any, .any, .any, .any, .any], [], [(0, .cells 32 [.hole, .hole, .hole, .hole, .hole])], 1⟩), fun vs K => ∃ k, w_13_5 k vs K⟩
def l_13_13 : Nat → (List Task) → (List Segment) → Int → Int → Int → Int → Int → Int → (List Int) → (List Segment) → (Int → Int → Int → Int → Int → Prop) → (Int → Int → Int → Int → Int → (List Int) → (List Segment) → Prop) → Prop
  | 0 => fun _ _ _ _ _ _ _ _ _ _ _ _ => False
  | k + 1 => fun x1 x2 x3 x4 x5 x6 x7 x8 x9 x10 kr k2 ↦ br (decide (x4 < (↑x2.length : Int))) (br (inb x4 (↑x2.length : Int)) (V32 x1 (x2.getD x4.toNat (env.d 32)) fun y14 ↦ br (decide (y14 < 0)) (kr 18 0 0 0 0) (br (inb y14 (↑x9.length : Int)) (br (inb y14 (↑x9.length : Int)) (br (inb x4 (↑x2.length : Int)) (br (inb y14 (↑x10.length : Int)) (l_13_13 k x1 x2 x3 (IntKind.i64.wrap (x4 + 1)) x5 x6 x7 x8 (x9.set (Int.toNat y14) (IntKind.i64.wrap (x9.getD (Int.toNat y14) (env.d 3) + 1))) (x10.set (Int.toNat y14) (Segment.mk (x2.getD x4.toNat (env.d 32)).from_ (x2.getD x4.toNat (env.d 32)).to_ (x2.getD x4.toNat (env.d 32)).begin_ (x2.getD x4.toNat (env.d 32)).end_ (x2.getD x4.toNat (env.d 32)).records)) kr k2) False) False) False) False)) False) (k2 x3 x5 x6 x7 x8 x9 x10)
def w_13_13 (k : Nat) (vs : List (SV env.T)) (K : Ex → List (SV env.T) → Prop) : Prop :=
  dCD 39 vs fun x1 vs => dCD 32 vs fun x2 vs => dCI .i64 vs fun x3 vs => dCI .i64 vs fun x4 vs => dCI .i64 vs fun x5 vs => dCI .i64 vs fun x6 vs => dCI .u64 vs fun x7 vs => dCI .u64 vs fun x8 vs => dCN vs fun vs => dCD 3 vs fun x9 vs => dCD 32 vs fun x10 vs => dCE vs (l_13_13 k x1 x2 x3 x4 x5 x6 x7 x8 x9 x10 (fun y1 y2 y3 y4 y5 => K .ret [.int .i64 y1, .int .i64 y2, .int .i64 y3, .int .u64 y4, .int .u64 y5, .nils]) (fun y1 y2 y3 y4 y5 y6 y7 => K (.exit 2) [.int .i64 y1, .int .i64 y2, .int .i64 y3, .int .u64 y4, .int .u64 y5, .nils, .dat 3 y6, .dat 32 y7]))
def p_13_13 : Piece env := ⟨⟨[.holeD 39, .holeD 32, .any, .any, .ptr 0 0, .hole, .any, .any, .any, .row 1, .row 2, .hole, .any, .any, .any, .any, .any, .any, .any, .any, .any, .any, .any, .any, .any, .any, .any, .any, .any, .any, .any, .any, .any, .any, .any, .any, .any, .any, .any, .any, .any, .any, .any, .any, .any, .any, .any, .any, .any, .any, .any, .any, .any, .any, .any, .any, .any, .any, .any, .any, .any, .any, .any, .any, .any, .any, .any, .any, .any, .any, .any, .any, .any, .any, .any, .any, .any, .any, .any, .any, .any, .any, .any, .any, .any, .any, .any, .any, .any, .any, .any, .any, .any, .any, .any, .any, .any, .any, .any, .any, .any], [], [(0, .cells 32 [.hole, .hole, .hole, .hole, .hole]), (1, .row 3), (2, .row 32)], 3⟩, exitF none [(2, ⟨[.any, .any, .any, .any, .ptr 0 0, .hole, .any, .any, .any, .row 1, .row 2, .any, .any, .any, .any, .any, .any, .any, .any, .any, .any, .any, .any, .any, .any, .any, .any, .any, .any, .any, .any, .any, .any, .any, .any, .any, .any, .any, .any, .any, .any, .any, .any, .any, .any, .any, .any, .any, .any, .any, .any, .any, .any, .any, .any, .any, .any, .any, .any, .any, .any, .any, .any, .any, .any, .any, .any, .any, .any, .any, .any, .any, .any, .any, .any, .any, .any, .any, .any, .any, .any, .any, .any, .any, .any, .any, .any, .any, .any, .any, .any, .any, .any, .any, .any, .any, .any, .any, .any, .any, .any], [], [(0, .cells 32 [.hole, .hole, .hole, .hole, .hole]), (1, .row 3), (2, .row 32)], 3⟩)] (some ⟨[.any, .any, .any, .any, .ptr 0 0, .hole, .any, .any, .any, .any, .any, .any, .any, .any, .any, .any, .any, .any, .any, .any, .any, .any, .any, .any, .any, .any, .any, .any, .any, .any, .any, .any, .any, .any, .any, .any, .any, .any, .any, .any, .any, .any, .any, .any, .any, .any, .any, .any, .any, .any, .any, .any, .any, .any, .any, .any, .any, .any, .any, .any, .any, .any, .any, .any, .any, .any, .any, .any, .any, .any, .any, .any, .any, .any, .any, .any, .any, .any, .any, .any, .any, .any, .any, .any, .any, .any, .any, .any, .any, .any, .any, .any, .any, .any, .any, .any, .any, .any, .any, .any, .any], [], [(0, .cells 32 [.hole, .hole, .hole, .hole, .hole])], 1⟩), fun vs K => ∃ k, w_13_13 k vs K⟩
def l_13_21 : Nat → Int → Int → Int → Int → Int → Int → (List Int) → (List Segment) → (Int → Int → Int → Int → Int → Prop) → (Int → Int → Int → Int → Int → (List Int) → (List Segment) → Prop) → Prop
  | 0 => fun _ _ _ _ _ _ _ _ _ _ => False
  | k + 1 => fun x1 x2 x3 x4 x5 x6 x7 x8 kr k4 ↦ br (decide (x2 < (↑x7.length : Int))) (br (inb x2 (↑x7.length : Int)) (br (decide (x7.getD x2.toNat (env.d 3) > 1)) (kr 5 0 0 0 0) (l_13_21 k x1 (IntKind.i64.wrap (x2 + 1)) x3 x4 x5 x6 x7 x8 kr k4)) False) (k4 x1 x3 x4 x5 x6 x7 x8)
def w_13_21 (k : Nat) (vs : List (SV env.T)) (K : Ex → List (SV env.T) → Prop) : Prop :=
  dCI .i64 vs fun x1 vs => dCI .i64 vs fun x2 vs => dCI .i64 vs fun x3 vs => dCI .i64 vs fun x4 vs => dCI .u64 vs fun x5 vs => dCI .u64 vs fun x6 vs => dCN vs fun vs => dCD 3 vs fun x7 vs => dCD 32 vs fun x8 vs => dCE vs (l_13_21 k x1 x2 x3 x4 x5 x6 x7 x8 (fun y1 y2 y3 y4 y5 => K .ret [.int .i64 y1, .int .i64 y2, .int .i64 y3, .int .u64 y4, .int .u64 y5, .nils]) (fun y1 y2 y3 y4 y5 y6 y7 => K (.exit 4) [.int .i64 y1, .int .i64 y2, .int .i64 y3, .int .u64 y4, .int .u64 y5, .nils, .dat 3 y6, .dat 32 y7]))
def p_13_21 : Piece env := ⟨⟨[.any, .any, .any, .any, .ptr 0 0, .hole, .any, .any, .any, .row 1, .row 2, .any, .any, .hole, .any, .any, .any, .any, .any, .any, .any, .any, .any, .any, .any, .any, .any, .any, .any, .any, .any, .any, .any, .any, .any, .any, .any, .any, .any, .any, .any, .any, .any, .any, .any, .any, .any, .any, .any, .any, .any, .any, .any, .any, .any, .any, .any, .any, .any, .any, .any, .any, .any, .any, .any, .any, .any, .any, .any, .any, .any, .any, .any, .any, .any, .any, .any, .any, .any, .any, .any, .any, .any, .any, .any, .any, .any, .any, .any, .any, .any, .any, .any, .any, .any, .any, .any, .any, .any, .any, .any], [], [(0, .cells 32 [.hole, .hole, .hole, .hole, .hole]), (1, .row 3), (2, .row 32)], 3⟩, exitF none [(4, ⟨[.any, .any, .any, .any, .ptr 0 0, .hole, .any, .any, .any, .row 1, .row 2, .any, .any, .any, .any, .any, .any, .any, .any, .any, .any, .any, .any, .any, .any, .any, .any, .any, .any, .any, .any, .any, .any, .any, .any, .any, .any, .any, .any, .any, .any, .any, .any, .any, .any, .any, .any, .any, .any, .any, .any, .any, .any, .any, .any, .any, .any, .any, .any, .any, .any, .any, .any, .any, .any, .any, .any, .any, .any, .any, .any, .any, .any, .any, .any, .any, .any, .any, .any, .any, .any, .any, .any, .any, .any, .any, .any, .any, .any, .any, .any, .any, .any, .any, .any, .any, .any, .any, .any, .any, .any], [], [(0, .cells 32 [.hole, .hole, .hole, .hole, .hole]), (1, .row 3), (2, .row 32)], 3⟩)] (some ⟨[.any, .any, .any, .any, .ptr 0 0, .hole, .any, .any, .any, .any, .any, .any, .any, .any, .any, .any, .any, .any, .any, .any, .any, .any, .any, .any, .any, .any, .any, .any, .any, .any, .any, .any, .any, .any, .any, .any, .any, .any, .any, .any, .any, .any, .any, .any, .any, .any, .any, .any, .any, .any, .any, .any, .any, .any, .any, .any, .any, .any, .any, .any, .any, .any, .any, .any, .any, .any, .any, .any, .any, .any, .any, .any, .any, .any, .any, .any, .any, .any, .any, .any, .any, .any, .any, .any, .any, .any, .any, .any, .any, .any, .any, .any, .any, .any, .any, .any, .any, .any, .any, .any, .any], [], [(0, .cells 32 [.hole, .hole, .hole, .hole, .hole])], 1⟩), fun vs K => ∃ k, w_13_21 k vs K⟩
def l_13_26 : Nat → Int → Int → Int → Int → Int → Int → (List Int) → (List Segment) → (Int → Int → Int → Int → Int → Prop) → (Int → Int → Int → Int → Int → (List Segment) → Prop) → Prop
  | 0 => fun _ _ _ _ _ _ _ _ _ _ => False
  | k + 1 => fun x1 x2 x3 x4 x5 x6 x7 x8 kr k6 ↦ br (decide (x2 < (↑x7.length : Int))) (br (inb x2 (↑x7.length : Int)) (br (x7.getD x2.toNat (env.d 3) == 0) (kr 4 0 0 0 0) (l_13_26 k x1 (IntKind.i64.wrap (x2 + 1)) x3 x4 x5 x6 x7 x8 kr k6)) False) (k6 x1 x3 x4 x5 x6 x8)
def w_13_26 (k : Nat) (vs : List (SV env.T)) (K : Ex → List (SV env.T) → Prop) : Prop :=
  dCI .i64 vs fun x1 vs => dCI .i64 vs fun x2 vs => dCI .i64 vs fun x3 vs => dCI .i64 vs fun x4 vs => dCI .u64 vs fun x5 vs => dCI .u64 vs fun x6 vs => dCN vs fun vs => dCD 3 vs fun x7 vs => dCD 32 vs fun x8 vs => dCE vs (l_13_26 k x1 x2 x3 x4 x5 x6 x7 x8 (fun y1 y2 y3 y4 y5 => K .ret [.int .i64 y1, .int .i64 y2, .int .i64 y3, .int .u64 y4, .int .u64 y5, .nils]) (fun y1 y2 y3 y4 y5 y6 => K (.exit 6) [.int .i64 y1, .int .i64 y2, .int .i64 y3, .int .u64 y4, .int .u64 y5, .nils, .dat 32 y6]))
def p_13_26 : Piece env := ⟨⟨[.any, .any, .any, .any, .ptr 0 0, .hole, .any, .any, .any, .row 1, .row 2, .any, .any, .any, .hole, .any, .any, .any, .any, .any, .any, .any, .any, .any, .any, .any, .any, .any, .any, .any, .any, .any, .any, .any, .any, .any, .any, .any, .any, .any, .any, .any, .any, .any, .any, .any, .any, .any, .any, .any, .any, .any, .any, .any, .any, .any, .any, .any, .any, .any, .any, .any, .any, .any, .any, .any, .any, .any, .any, .any, .any, .any, .any, .any, .any, .any, .any, .any, .any, .any, .any, .any, .any, .any, .any, .any, .any, .any, .any, .any, .any, .any, .any, .any, .any, .any, .any, .any, .any, .any, .any], [], [(0, .cells 32 [.hole, .hole, .hole, .hole, .hole]), (1, .row 3), (2, .row 32)], 3⟩, exitF none [(6, ⟨[.any, .any, .any, .any, .ptr 0 0, .hole, .any, .any, .any, .any, .row 1, .any, .any, .any, .any, .any, .any, .any, .any, .any, .any, .any, .any, .any, .any, .any, .any, .any, .any, .any, .any, .any, .any, .any, .any, .any, .any, .any, .any, .any, .any, .any, .any, .any, .any, .any, .any, .any, .any, .any, .any, .any, .any, .any, .any, .any, .any, .any, .any, .any, .any, .any, .any, .any, .any, .any, .any, .any, .any, .any, .any, .any, .any, .any, .any, .any, .any, .any, .any, .any, .any, .any, .any, .any, .any, .any, .any, .any, .any, .any, .any, .any, .any, .any, .any, .any, .any, .any, .any, .any, .any], [], [(0, .cells 32 [.hole, .hole, .hole, .hole, .hole]), (1, .row 32)], 2⟩)] (some ⟨[.any, .any, .any, .any, .ptr 0 0, .hole, .any, .any, .any, .any, .any, .any, .any, .any, .any, .any, .any, .any, .any, .any, .any, .any, .any, .any, .any, .any, .any, .any, .any, .any, .any, .any, .any, .any, .any, .any, .any, .any, .any, .any, .any, .any, .any, .any, .any, .any, .any, .any, .any, .any, .any, .any, .any, .any, .any, .any, .any, .any, .any, .any, .any, .any, .any, .any, .any, .any, .any, .any, .any, .any, .any, .any, .any, .any, .any, .any, .any, .any, .any, .any, .any, .any, .any, .any, .any, .any, .any, .any, .any, .any, .any, .any, .any, .any, .any, .any, .any, .any, .any, .any, .any], [], [(0, .cells 32 [.hole, .hole, .hole, .hole, .hole])], 1⟩), fun vs K => ∃ k, w_13_26 k vs K⟩
def s_13_4 : (List Task) → (List Segment) → Int → Int → Int → Int → Int → (Int → Int → Int → Int → Int → (List Record) → Prop) → Prop :=
  fun x1 x2 x3 x4 x5 x6 x7 kr ↦ ∃ k10, l_13_5 k10 x1 x2 x3 0 x4 x5 x6 x7 (fun y11 y12 y13 y14 y15 ↦ kr y11 y12 y13 y14 y15 []) fun y11 y12 y13 y14 y15 y16 y17 ↦ br (andb (leb 0 (↑y11.length : Int)) (andb (leb (↑y11.length : Int) (↑y11.length : Int)) (roomB (↑y11.length : Int).toNat (bytesB env 3)))) (br (andb (leb 0 (↑y11.length : Int)) (andb (leb (↑y11.length : Int) (↑y11.length : Int)) (roomB (↑y11.length : Int).toNat (bytesB env 32)))) (∃ k18, l_13_13 k18 y11 y12 y13 0 y14 y15 y16 y17 (List.replicate (↑y11.length : Int).toNat 0) (List.replicate (↑y11.length : Int).toNat (Segment.mk 0 0 0 0 [])) (fun y19 y20 y21 y22 y23 ↦ kr y19 y20 y21 y22 y23 []) fun y19 y20 y21 y22 y23 y24 y25 ↦ ∃ k26, l_13_21 k26 y19 0 y20 y21 y22 y23 y24 y25 (fun y27 y28 y29 y30 y31 ↦ kr y27 y28 y29 y30 y31 []) fun y27 y28 y29 y30 y31 y32 y33 ↦ ∃ k34, l_13_26 k34 y27 0 y28 y29 y30 y31 y32 y33 (fun y35 y36 y37 y38 y39 ↦ kr y35 y36 y37 y38 y39 []) fun _ _ _ _ _ y40 ↦ V33 y40 fun y41 ↦ kr y41.snd y41.fst.from_ y41.fst.to_ y41.fst.begin_ y41.fst.end_ y41.fst.records) False) False
def v_13_4 (vs : List (SV env.T)) (K : Ex → List (SV env.T) → Prop) : Prop :=
  dCD 39 vs fun x1 vs => dCD 32 vs fun x2 vs => dCI .i64 vs fun x3 vs => dCI .i64 vs fun x4 vs => dCI .i64 vs fun x5 vs => dCI .u64 vs fun x6 vs => dCI .u64 vs fun x7 vs => dCN vs fun vs => dCE vs (s_13_4 x1 x2 x3 x4 x5 x6 x7 (fun y1 y2 y3 y4 y5 y6 => K .ret [.int .i64 y1, .int .i64 y2, .int .i64 y3, .int .u64 y4, .int .u64 y5, .dat 50 y6]))
def q_13_4 : Piece env := ⟨⟨[.holeD 39, .holeD 32, .any, .any, .ptr 0 0, .hole, .any, .any, .any, .any, .any, .any, .any, .any, .any, .any, .any, .any, .any, .any, .any, .any, .any, .any, .any, .any, .any, .any, .any, .any, .any, .any, .any, .any, .any, .any, .any, .any, .any, .any, .any, .any, .any, .any, .any, .any, .any, .any, .any, .any, .any, .any, .any, .any, .any, .any, .any, .any, .any, .any, .any, .any, .any, .any, .any, .any, .any, .any, .any, .any, .any, .any, .any, .any, .any, .any, .any, .any, .any, .any, .any, .any, .any, .any, .any, .any, .any, .any, .any, .any, .any, .any, .any, .any, .any, .any, .any, .any, .any, .any, .any], [], [(0, .cells 32 [.hole, .hole, .hole, .hole, .hole])], 1⟩, exitF none [] (some ⟨[.any, .any, .any, .any, .ptr 0 0, .hole, .any, .any, .any, .any, .any, .any, .any, .any, .any, .any, .any, .any, .any, .any, .any, .any, .any, .any, .any, .any, .any, .any, .any, .any, .any, .any, .any, .any, .any, .any, .any, .any, .any, .any, .any, .any, .any, .any, .any, .any, .any, .any, .any, .any, .any, .any, .any, .any, .any, .any, .any, .any, .any, .any, .any, .any, .any, .any, .any, .any, .any, .any, .any, .any, .any, .any, .any, .any, .any, .any, .any, .any, .any, .any, .any, .any, .any, .any, .any, .any, .any, .any, .any, .any, .any, .any, .any, .any, .any, .any, .any, .any, .any, .any, .any], [], [(0, .cells 32 [.hole, .hole, .hole, .hole, .holeD 50])], 1⟩), v_13_4⟩
noncomputable def B13 : (List Task) → (List Segment) → (Y13 → Prop) → Prop :=
  fun x0 x1 K ↦ V30 x0 fun y3 ↦ br (!y3) (K (Segment.mk 0 0 0 0 [], 1)) (br (decide ((↑x1.length : Int) > 32)) (K (Segment.mk 0 0 0 0 [], 1)) (s_13_4 x0 x1 0 0 0 0 0 fun y4 y5 y6 y7 y8 y9 ↦ K (Segment.mk y5 y6 y7 y8 y9, y4)))
theorem V13_ex : ∃ V : (List Task) → (List Segment) → (Y13 → Prop) → Prop, V = B13 := ⟨_, rfl⟩
noncomputable def V13 : (List Task) → (List Segment) → (Y13 → Prop) → Prop := Classical.choose V13_ex
theorem V13_eq : V13 = B13 := Classical.choose_spec V13_ex
theorem pook_13_5_13 : PiecesOk Try.prog env (ctxG env false [] R33 [] []) 13 b13 :=
  pieces_at (rfIn_body (fn := f13) (b := b13) rfl hb13) (L := []) (S := []) (fun _ => rfl) (fun _ => rfl) (by kernel_rfl) (by kernel_rfl) (fun _ hq => by cases hq) (fun _ hq => by cases hq)
theorem book_13_5 : BodiesOk Try.prog env (ctxG env false [] R33 [] []) := bodies_okG (ks := []) (by kernel_rfl) (fun _ hq => by cases hq)
theorem stok_13_5 (k : Nat) (x1 : (List Task)) (x2 : (List Segment)) (x3 : Int) (x4 : Int) (x5 : Int) (x6 : Int) (x7 : Int) (x8 : Int) (K : Ex → List (SV env.T) → Prop) : l_13_5 (k + 1) x1 x2 x3 x4 x5 x6 x7 x8 (fun y1 y2 y3 y4 y5 => K .ret [.int .i64 y1, .int .i64 y2, .int .i64 y3, .int .u64 y4, .int .u64 y5, .nils]) (fun y1 y2 y3 y4 y5 y6 y7 => K (.exit 0) [.dat 39 y1, .dat 32 y2, .int .i64 y3, .int .i64 y4, .int .i64 y5, .int .u64 y6, .int .u64 y7, .nils]) = vcCode env (ctxG env false [] R33 [] []) 2000 13 (loopAt b13 5) (insSt p_13_5.head [.dat 39 x1, .dat 32 x2, .int .i64 x3, .int .i64 x4, .int .i64 x5, .int .i64 x6, .int .u64 x7, .int .u64 x8, .nils]) (stepK p_13_5 (w_13_5 k) K) := by kernel_rfl
theorem wiok_13_5 (k : Nat) (vs : List (SV env.T)) (K : Ex → List (SV env.T) → Prop) (h : w_13_5 k vs K) : ∃ x1 : (List Task), ∃ x2 : (List Segment), ∃ x3 : Int, ∃ x4 : Int, ∃ x5 : Int, ∃ x6 : Int, ∃ x7 : Int, ∃ x8 : Int, vs = [.dat 39 x1, .dat 32 x2, .int .i64 x3, .int .i64 x4, .int .i64 x5, .int .i64 x6, .int .u64 x7, .int .u64 x8, .nils] ∧ l_13_5 k x1 x2 x3 x4 x5 x6 x7 x8 (fun y1 y2 y3 y4 y5 => K .ret [.int .i64 y1, .int .i64 y2, .int .i64 y3, .int .u64 y4, .int .u64 y5, .nils]) (fun y1 y2 y3 y4 y5 y6 y7 => K (.exit 0) [.dat 39 y1, .dat 32 y2, .int .i64 y3, .int .i64 y4, .int .i64 y5, .int .u64 y6, .int .u64 y7, .nils]) := by
  unfold w_13_5 at h
  replace h := dCD_spec h
  obtain ⟨x1, vs0, e0, h⟩ := h
  replace h := dCD_spec h
  obtain ⟨x2, vs1, e1, h⟩ := h
  replace h := dCI_spec h
  obtain ⟨x3, vs2, e2, h⟩ := h
  replace h := dCI_spec h
  obtain ⟨x4, vs3, e3, h⟩ := h
  replace h := dCI_spec h
  obtain ⟨x5, vs4, e4, h⟩ := h
  replace h := dCI_spec h
  obtain ⟨x6, vs5, e5, h⟩ := h
  replace h := dCI_spec h
  obtain ⟨x7, vs6, e6, h⟩ := h
  replace h := dCI_spec h
  obtain ⟨x8, vs7, e7, h⟩ := h
  replace h := dCN_spec h
  obtain ⟨vs8, e8, h⟩ := h
  replace h := dCE_spec h
  obtain ⟨e, h⟩ := h
  exact ⟨x1, x2, x3, x4, x5, x6, x7, x8, by rw [e0, e1, e2, e3, e4, e5, e6, e7, e8, e], h⟩
theorem zeok_13_5 (x1 : (List Task)) (x2 : (List Segment)) (x3 : Int) (x4 : Int) (x5 : Int) (x6 : Int) (x7 : Int) (x8 : Int) (K : Ex → List (SV env.T) → Prop) : l_13_5 0 x1 x2 x3 x4 x5 x6 x7 x8 (fun y1 y2 y3 y4 y5 => K .ret [.int .i64 y1, .int .i64 y2, .int .i64 y3, .int .u64 y4, .int .u64 y5, .nils]) (fun y1 y2 y3 y4 y5 y6 y7 => K (.exit 0) [.dat 39 y1, .dat 32 y2, .int .i64 y3, .int .i64 y4, .int .i64 y5, .int .u64 y6, .int .u64 y7, .nils]) = False := by kernel_rfl
theorem ok_13_5 : PieceOk Try.prog env p_13_5 (.loop (loopAt b13 5)) := by
  refine loop_step (Wn := w_13_5) tab (ctxG_ok R33_ok false [] _ _) book_13_5 (pieces_sub pook_13_5_13 (by kernel_rfl)) rfl ?_ 2000 ?_
  · intro vs K h
    obtain ⟨x1, x2, x3, x4, x5, x6, x7, x8, _, h⟩ := wiok_13_5 0 vs K h
    exact Eq.mp (zeok_13_5 x1 x2 x3 x4 x5 x6 x7 x8 K) h
  · intro k vs K h
    obtain ⟨x1, x2, x3, x4, x5, x6, x7, x8, rfl, h⟩ := wiok_13_5 (k + 1) vs K h
    exact Eq.mp (stok_13_5 k x1 x2 x3 x4 x5 x6 x7 x8 K) h
theorem pook_13_13_13 : PiecesOk Try.prog env (ctxG env false [] R33 [] []) 13 b13 :=
  pieces_at (rfIn_body (fn := f13) (b := b13) rfl hb13) (L := []) (S := []) (fun _ => rfl) (fun _ => rfl) (by kernel_rfl) (by kernel_rfl) (fun _ hq => by cases hq) (fun _ hq => by cases hq)
theorem book_13_13 : BodiesOk Try.prog env (ctxG env false [] R33 [] []) := bodies_okG (ks := []) (by kernel_rfl) (fun _ hq => by cases hq)
theorem stok_13_13 (k : Nat) (x1 : (List Task)) (x2 : (List Segment)) (x3 : Int) (x4 : Int) (x5 : Int) (x6 : Int) (x7 : Int) (x8 : Int) (x9 : (List Int)) (x10 : (List Segment)) (K : Ex → List (SV env.T) → Prop) : l_13_13 (k + 1) x1 x2 x3 x4 x5 x6 x7 x8 x9 x10 (fun y1 y2 y3 y4 y5 => K .ret [.int .i64 y1, .int .i64 y2, .int .i64 y3, .int .u64 y4, .int .u64 y5, .nils]) (fun y1 y2 y3 y4 y5 y6 y7 => K (.exit 2) [.int .i64 y1, .int .i64 y2, .int .i64 y3, .int .u64 y4, .int .u64 y5, .nils, .dat 3 y6, .dat 32 y7]) = vcCode env (ctxG env false [] R33 [] []) 2000 13 (loopAt b13 13) (insSt p_13_13.head [.dat 39 x1, .dat 32 x2, .int .i64 x3, .int .i64 x4, .int .i64 x5, .int .i64 x6, .int .u64 x7, .int .u64 x8, .nils, .dat 3 x9, .dat 32 x10]) (stepK p_13_13 (w_13_13 k) K) := by kernel_rfl
theorem wiok_13_13 (k : Nat) (vs : List (SV env.T)) (K : Ex → List (SV env.T) → Prop) (h : w_13_13 k vs K) : ∃ x1 : (List Task), ∃ x2 : (List Segment), ∃ x3 : Int, ∃ x4 : Int, ∃ x5 : Int, ∃ x6 : Int, ∃ x7 : Int, ∃ x8 : Int, ∃ x9 : (List Int), ∃ x10 : (List Segment), vs = [.dat 39 x1, .dat 32 x2, .int .i64 x3, .int .i64 x4, .int .i64 x5, .int .i64 x6, .int .u64 x7, .int .u64 x8, .nils, .dat 3 x9, .dat 32 x10] ∧ l_13_13 k x1 x2 x3 x4 x5 x6 x7 x8 x9 x10 (fun y1 y2 y3 y4 y5 => K .ret [.int .i64 y1, .int .i64 y2, .int .i64 y3, .int .u64 y4, .int .u64 y5, .nils]) (fun y1 y2 y3 y4 y5 y6 y7 => K (.exit 2) [.int .i64 y1, .int .i64 y2, .int .i64 y3, .int .u64 y4, .int .u64 y5, .nils, .dat 3 y6, .dat 32 y7]) := by
  unfold w_13_13 at h
  replace h := dCD_spec h
  obtain ⟨x1, vs0, e0, h⟩ := h
  replace h := dCD_spec h
  obtain ⟨x2, vs1, e1, h⟩ := h
  replace h := dCI_spec h
  obtain ⟨x3, vs2, e2, h⟩ := h
  replace h := dCI_spec h
  obtain ⟨x4, vs3, e3, h⟩ := h
  replace h := dCI_spec h
  obtain ⟨x5, vs4, e4, h⟩ := h
  replace h := dCI_spec h
  obtain ⟨x6, vs5, e5, h⟩ := h
  replace h := dCI_spec h
  obtain ⟨x7, vs6, e6, h⟩ := h
  replace h := dCI_spec h
  obtain ⟨x8, vs7, e7, h⟩ := h
  replace h := dCN_spec h
  obtain ⟨vs8, e8, h⟩ := h
  replace h := dCD_spec h
  obtain ⟨x9, vs9, e9, h⟩ := h
  replace h := dCD_spec h
  obtain ⟨x10, vs10, e10, h⟩ := h
  replace h := dCE_spec h
  obtain ⟨e, h⟩ := h
  exact ⟨x1, x2, x3, x4, x5, x6, x7, x8, x9, x10, by rw [e0, e1, e2, e3, e4, e5, e6, e7, e8, e9, e10, e], h⟩
theorem zeok_13_13 (x1 : (List Task)) (x2 : (List Segment)) (x3 : Int) (x4 : Int) (x5 : Int) (x6 : Int) (x7 : Int) (x8 : Int) (x9 : (List Int)) (x10 : (List Segment)) (K : Ex → List (SV env.T) → Prop) : l_13_13 0 x1 x2 x3 x4 x5 x6 x7 x8 x9 x10 (fun y1 y2 y3 y4 y5 => K .ret [.int .i64 y1, .int .i64 y2, .int .i64 y3, .int .u64 y4, .int .u64 y5, .nils]) (fun y1 y2 y3 y4 y5 y6 y7 => K (.exit 2) [.int .i64 y1, .int .i64 y2, .int .i64 y3, .int .u64 y4, .int .u64 y5, .nils, .dat 3 y6, .dat 32 y7]) = False := by kernel_rfl
theorem ok_13_13 : PieceOk Try.prog env p_13_13 (.loop (loopAt b13 13)) := by
  refine loop_step (Wn := w_13_13) tab (ctxG_ok R33_ok false [] _ _) book_13_13 (pieces_sub pook_13_13_13 (by kernel_rfl)) rfl ?_ 2000 ?_
  · intro vs K h
    obtain ⟨x1, x2, x3, x4, x5, x6, x7, x8, x9, x10, _, h⟩ := wiok_13_13 0 vs K h
    exact Eq.mp (zeok_13_13 x1 x2 x3 x4 x5 x6 x7 x8 x9 x10 K) h
  · intro k vs K h
    obtain ⟨x1, x2, x3, x4, x5, x6, x7, x8, x9, x10, rfl, h⟩ := wiok_13_13 (k + 1) vs K h
    exact Eq.mp (stok_13_13 k x1 x2 x3 x4 x5 x6 x7 x8 x9 x10 K) h
theorem pook_13_21_13 : PiecesOk Try.prog env (ctxG env false [] R33 [] []) 13 b13 :=
  pieces_at (rfIn_body (fn := f13) (b := b13) rfl hb13) (L := []) (S := []) (fun _ => rfl) (fun _ => rfl) (by kernel_rfl) (by kernel_rfl) (fun _ hq => by cases hq) (fun _ hq => by cases hq)
theorem book_13_21 : BodiesOk Try.prog env (ctxG env false [] R33 [] []) := bodies_okG (ks := []) (by kernel_rfl) (fun _ hq => by cases hq)
theorem stok_13_21 (k : Nat) (x1 : Int) (x2 : Int) (x3 : Int) (x4 : Int) (x5 : Int) (x6 : Int) (x7 : (List Int)) (x8 : (List Segment)) (K : Ex → List (SV env.T) → Prop) : l_13_21 (k + 1) x1 x2 x3 x4 x5 x6 x7 x8 (fun y1 y2 y3 y4 y5 => K .ret [.int .i64 y1, .int .i64 y2, .int .i64 y3, .int .u64 y4, .int .u64 y5, .nils]) (fun y1 y2 y3 y4 y5 y6 y7 => K (.exit 4) [.int .i64 y1, .int .i64 y2, .int .i64 y3, .int .u64 y4, .int .u64 y5, .nils, .dat 3 y6, .dat 32 y7]) = vcCode env (ctxG env false [] R33 [] []) 2000 13 (loopAt b13 21) (insSt p_13_21.head [.int .i64 x1, .int .i64 x2, .int .i64 x3, .int .i64 x4, .int .u64 x5, .int .u64 x6, .nils, .dat 3 x7, .dat 32 x8]) (stepK p_13_21 (w_13_21 k) K) := by kernel_rfl
theorem wiok_13_21 (k : Nat) (vs : List (SV env.T)) (K : Ex → List (SV env.T) → Prop) (h : w_13_21 k vs K) : ∃ x1 : Int, ∃ x2 : Int, ∃ x3 : Int, ∃ x4 : Int, ∃ x5 : Int, ∃ x6 : Int, ∃ x7 : (List Int), ∃ x8 : (List Segment), vs = [.int .i64 x1, .int .i64 x2, .int .i64 x3, .int .i64 x4, .int .u64 x5, .int .u64 x6, .nils, .dat 3 x7, .dat 32 x8] ∧ l_13_21 k x1 x2 x3 x4 x5 x6 x7 x8 (fun y1 y2 y3 y4 y5 => K .ret [.int .i64 y1, .int .i64 y2, .int .i64 y3, .int .u64 y4, .int .u64 y5, .nils]) (fun y1 y2 y3 y4 y5 y6 y7 => K (.exit 4) [.int .i64 y1, .int .i64 y2, .int .i64 y3, .int .u64 y4, .int .u64 y5, .nils, .dat 3 y6, .dat 32 y7]) := by
  unfold w_13_21 at h
  replace h := dCI_spec h
  obtain ⟨x1, vs0, e0, h⟩ := h
  replace h := dCI_spec h
  obtain ⟨x2, vs1, e1, h⟩ := h
  replace h := dCI_spec h
  obtain ⟨x3, vs2, e2, h⟩ := h
  replace h := dCI_spec h
  obtain ⟨x4, vs3, e3, h⟩ := h
  replace h := dCI_spec h
  obtain ⟨x5, vs4, e4, h⟩ := h
  replace h := dCI_spec h
  obtain ⟨x6, vs5, e5, h⟩ := h
  replace h := dCN_spec h
  obtain ⟨vs6, e6, h⟩ := h
  replace h := dCD_spec h
  obtain ⟨x7, vs7, e7, h⟩ := h
  replace h := dCD_spec h
  obtain ⟨x8, vs8, e8, h⟩ := h
  replace h := dCE_spec h
  obtain ⟨e, h⟩ := h
  exact ⟨x1, x2, x3, x4, x5, x6, x7, x8, by rw [e0, e1, e2, e3, e4, e5, e6, e7, e8, e], h⟩
theorem zeok_13_21 (x1 : Int) (x2 : Int) (x3 : Int) (x4 : Int) (x5 : Int) (x6 : Int) (x7 : (List Int)) (x8 : (List Segment)) (K : Ex → List (SV env.T) → Prop) : l_13_21 0 x1 x2 x3 x4 x5 x6 x7 x8 (fun y1 y2 y3 y4 y5 => K .ret [.int .i64 y1, .int .i64 y2, .int .i64 y3, .int .u64 y4, .int .u64 y5, .nils]) (fun y1 y2 y3 y4 y5 y6 y7 => K (.exit 4) [.int .i64 y1, .int .i64 y2, .int .i64 y3, .int .u64 y4, .int .u64 y5, .nils, .dat 3 y6, .dat 32 y7]) = False := by kernel_rfl
theorem ok_13_21 : PieceOk Try.prog env p_13_21 (.loop (loopAt b13 21)) := by
  refine loop_step (Wn := w_13_21) tab (ctxG_ok R33_ok false [] _ _) book_13_21 (pieces_sub pook_13_21_13 (by kernel_rfl)) rfl ?_ 2000 ?_
  · intro vs K h
    obtain ⟨x1, x2, x3, x4, x5, x6, x7, x8, _, h⟩ := wiok_13_21 0 vs K h
    exact Eq.mp (zeok_13_21 x1 x2 x3 x4 x5 x6 x7 x8 K) h
  · intro k vs K h
    obtain ⟨x1, x2, x3, x4, x5, x6, x7, x8, rfl, h⟩ := wiok_13_21 (k + 1) vs K h
    exact Eq.mp (stok_13_21 k x1 x2 x3 x4 x5 x6 x7 x8 K) h
theorem pook_13_26_13 : PiecesOk Try.prog env (ctxG env false [] R33 [] []) 13 b13 :=
  pieces_at (rfIn_body (fn := f13) (b := b13) rfl hb13) (L := []) (S := []) (fun _ => rfl) (fun _ => rfl) (by kernel_rfl) (by kernel_rfl) (fun _ hq => by cases hq) (fun _ hq => by cases hq)
theorem book_13_26 : BodiesOk Try.prog env (ctxG env false [] R33 [] []) := bodies_okG (ks := []) (by kernel_rfl) (fun _ hq => by cases hq)
theorem stok_13_26 (k : Nat) (x1 : Int) (x2 : Int) (x3 : Int) (x4 : Int) (x5 : Int) (x6 : Int) (x7 : (List Int)) (x8 : (List Segment)) (K : Ex → List (SV env.T) → Prop) : l_13_26 (k + 1) x1 x2 x3 x4 x5 x6 x7 x8 (fun y1 y2 y3 y4 y5 => K .ret [.int .i64 y1, .int .i64 y2, .int .i64 y3, .int .u64 y4, .int .u64 y5, .nils]) (fun y1 y2 y3 y4 y5 y6 => K (.exit 6) [.int .i64 y1, .int .i64 y2, .int .i64 y3, .int .u64 y4, .int .u64 y5, .nils, .dat 32 y6]) = vcCode env (ctxG env false [] R33 [] []) 2000 13 (loopAt b13 26) (insSt p_13_26.head [.int .i64 x1, .int .i64 x2, .int .i64 x3, .int .i64 x4, .int .u64 x5, .int .u64 x6, .nils, .dat 3 x7, .dat 32 x8]) (stepK p_13_26 (w_13_26 k) K) := by kernel_rfl
theorem wiok_13_26 (k : Nat) (vs : List (SV env.T)) (K : Ex → List (SV env.T) → Prop) (h : w_13_26 k vs K) : ∃ x1 : Int, ∃ x2 : Int, ∃ x3 : Int, ∃ x4 : Int, ∃ x5 : Int, ∃ x6 : Int, ∃ x7 : (List Int), ∃ x8 : (List Segment), vs = [.int .i64 x1, .int .i64 x2, .int .i64 x3, .int .i64 x4, .int .u64 x5, .int .u64 x6, .nils, .dat 3 x7, .dat 32 x8] ∧ l_13_26 k x1 x2 x3 x4 x5 x6 x7 x8 (fun y1 y2 y3 y4 y5 => K .ret [.int .i64 y1, .int .i64 y2, .int .i64 y3, .int .u64 y4, .int .u64 y5, .nils]) (fun y1 y2 y3 y4 y5 y6 => K (.exit 6) [.int .i64 y1, .int .i64 y2, .int .i64 y3, .int .u64 y4, .int .u64 y5, .nils, .dat 32 y6]) := by
  unfold w_13_26 at h
  replace h := dCI_spec h
  obtain ⟨x1, vs0, e0, h⟩ := h
  replace h := dCI_spec h
  obtain ⟨x2, vs1, e1, h⟩ := h
  replace h := dCI_spec h
  obtain ⟨x3, vs2, e2, h⟩ := h
  replace h := dCI_spec h
  obtain ⟨x4, vs3, e3, h⟩ := h
  replace h := dCI_spec h
  obtain ⟨x5, vs4, e4, h⟩ := h
  replace h := dCI_spec h
  obtain ⟨x6, vs5, e5, h⟩ := h
  replace h := dCN_spec h
  obtain ⟨vs6, e6, h⟩ := h
  replace h := dCD_spec h
  obtain ⟨x7, vs7, e7, h⟩ := h
  replace h := dCD_spec h
  obtain ⟨x8, vs8, e8, h⟩ := h
  replace h := dCE_spec h
  obtain ⟨e, h⟩ := h
  exact ⟨x1, x2, x3, x4, x5, x6, x7, x8, by rw [e0, e1, e2, e3, e4, e5, e6, e7, e8, e], h⟩
theorem zeok_13_26 (x1 : Int) (x2 : Int) (x3 : Int) (x4 : Int) (x5 : Int) (x6 : Int) (x7 : (List Int)) (x8 : (List Segment)) (K : Ex → List (SV env.T) → Prop) : l_13_26 0 x1 x2 x3 x4 x5 x6 x7 x8 (fun y1 y2 y3 y4 y5 => K .ret [.int .i64 y1, .int .i64 y2, .int .i64 y3, .int .u64 y4, .int .u64 y5, .nils]) (fun y1 y2 y3 y4 y5 y6 => K (.exit 6) [.int .i64 y1, .int .i64 y2, .int .i64 y3, .int .u64 y4, .int .u64 y5, .nils, .dat 32 y6]) = False := by kernel_rfl
theorem ok_13_26 : PieceOk Try.prog env p_13_26 (.loop (loopAt b13 26)) := by
  refine loop_step (Wn := w_13_26) tab (ctxG_ok R33_ok false [] _ _) book_13_26 (pieces_sub pook_13_26_13 (by kernel_rfl)) rfl ?_ 2000 ?_
  · intro vs K h
    obtain ⟨x1, x2, x3, x4, x5, x6, x7, x8, _, h⟩ := wiok_13_26 0 vs K h
    exact Eq.mp (zeok_13_26 x1 x2 x3 x4 x5 x6 x7 x8 K) h
  · intro k vs K h
    obtain ⟨x1, x2, x3, x4, x5, x6, x7, x8, rfl, h⟩ := wiok_13_26 (k + 1) vs K h
    exact Eq.mp (stok_13_26 k x1 x2 x3 x4 x5 x6 x7 x8 K) h
theorem pooq_13_4_13 : PiecesOk Try.prog env (ctxG env false [] R33 [(13, [(5, p_13_5), (13, p_13_13), (21, p_13_21), (26, p_13_26)])] []) 13 b13 :=
  pieces_at (rfIn_body (fn := f13) (b := b13) rfl hb13) (L := [(5, p_13_5), (13, p_13_13), (21, p_13_21), (26, p_13_26)]) (S := []) (fun _ => rfl) (fun _ => rfl) (by kernel_rfl) (by kernel_rfl) (List.forall_mem_cons.2 ⟨fun _ => ok_13_5, (List.forall_mem_cons.2 ⟨fun _ => ok_13_13, (List.forall_mem_cons.2 ⟨fun _ => ok_13_21, (List.forall_mem_cons.2 ⟨fun _ => ok_13_26, (fun _ hq => by cases hq)⟩)⟩)⟩)⟩) (fun _ hq => by cases hq)
theorem booq_13_4 : BodiesOk Try.prog env (ctxG env false [] R33 [(13, [(5, p_13_5), (13, p_13_13), (21, p_13_21), (26, p_13_26)])] []) := bodies_okG (ks := [13]) (by kernel_rfl) (List.forall_mem_cons.2 ⟨body_at (fn := f13) (body := b13) rfl hb13 pooq_13_4_13, (fun _ hq => by cases hq)⟩)
theorem stoq_13_4 (x1 : (List Task)) (x2 : (List Segment)) (x3 : Int) (x4 : Int) (x5 : Int) (x6 : Int) (x7 : Int) (K : Ex → List (SV env.T) → Prop) : s_13_4  x1 x2 x3 x4 x5 x6 x7 (fun y1 y2 y3 y4 y5 y6 => K .ret [.int .i64 y1, .int .i64 y2, .int .i64 y3, .int .u64 y4, .int .u64 y5, .dat 50 y6]) = vcCode env (ctxG env false [] R33 [(13, [(5, p_13_5), (13, p_13_13), (21, p_13_21), (26, p_13_26)])] []) 2000 13 (seqAt b13 4) (insSt q_13_4.head [.dat 39 x1, .dat 32 x2, .int .i64 x3, .int .i64 x4, .int .i64 x5, .int .u64 x6, .int .u64 x7, .nils]) (outP env q_13_4 K) := by kernel_rfl
theorem wioq_13_4 (vs : List (SV env.T)) (K : Ex → List (SV env.T) → Prop) (h : v_13_4 vs K) : ∃ x1 : (List Task), ∃ x2 : (List Segment), ∃ x3 : Int, ∃ x4 : Int, ∃ x5 : Int, ∃ x6 : Int, ∃ x7 : Int, vs = [.dat 39 x1, .dat 32 x2, .int .i64 x3, .int .i64 x4, .int .i64 x5, .int .u64 x6, .int .u64 x7, .nils] ∧ s_13_4  x1 x2 x3 x4 x5 x6 x7 (fun y1 y2 y3 y4 y5 y6 => K .ret [.int .i64 y1, .int .i64 y2, .int .i64 y3, .int .u64 y4, .int .u64 y5, .dat 50 y6]) := by
  unfold v_13_4 at h
  replace h := dCD_spec h
  obtain ⟨x1, vs0, e0, h⟩ := h
  replace h := dCD_spec h
  obtain ⟨x2, vs1, e1, h⟩ := h
  replace h := dCI_spec h
  obtain ⟨x3, vs2, e2, h⟩ := h
  replace h := dCI_spec h
  obtain ⟨x4, vs3, e3, h⟩ := h
  replace h := dCI_spec h
  obtain ⟨x5, vs4, e4, h⟩ := h
  replace h := dCI_spec h
  obtain ⟨x6, vs5, e5, h⟩ := h
  replace h := dCI_spec h
  obtain ⟨x7, vs6, e6, h⟩ := h
  replace h := dCN_spec h
  obtain ⟨vs7, e7, h⟩ := h
  replace h := dCE_spec h
  obtain ⟨e, h⟩ := h
  exact ⟨x1, x2, x3, x4, x5, x6, x7, by rw [e0, e1, e2, e3, e4, e5, e6, e7, e], h⟩
theorem oq_13_4 : PieceOk Try.prog env q_13_4 (seqAt b13 4) := by
  refine seq_step tab (ctxG_ok R33_ok false [] _ _) booq_13_4 (pieces_subS pooq_13_4_13 (by kernel_rfl)) 2000 ?_
  intro vs K h
  obtain ⟨x1, x2, x3, x4, x5, x6, x7, rfl, h⟩ := wioq_13_4 vs K h
  exact Eq.mp (stoq_13_4 x1 x2 x3 x4 x5 x6 x7 K) h
theorem po_13_13 : PiecesOk Try.prog env (ctxG env false [] R33 [(13, [(5, p_13_5), (13, p_13_13), (21, p_13_21), (26, p_13_26)])] [(13, [(4, q_13_4)])]) 13 b13 :=
  pieces_at (rfIn_body (fn := f13) (b := b13) rfl hb13) (L := [(5, p_13_5), (13, p_13_13), (21, p_13_21), (26, p_13_26)]) (S := [(4, q_13_4)]) (fun _ => rfl) (fun _ => rfl) (by kernel_rfl) (by kernel_rfl) (List.forall_mem_cons.2 ⟨fun _ => ok_13_5, (List.forall_mem_cons.2 ⟨fun _ => ok_13_13, (List.forall_mem_cons.2 ⟨fun _ => ok_13_21, (List.forall_mem_cons.2 ⟨fun _ => ok_13_26, (fun _ hq => by cases hq)⟩)⟩)⟩)⟩) (List.forall_mem_cons.2 ⟨fun _ => oq_13_4, (fun _ hq => by cases hq)⟩)
theorem bo_13 : BodiesOk Try.prog env (ctxG env false [] R33 [(13, [(5, p_13_5), (13, p_13_13), (21, p_13_21), (26, p_13_26)])] [(13, [(4, q_13_4)])]) := bodies_okG (ks := [13]) (by kernel_rfl) (List.forall_mem_cons.2 ⟨body_at (fn := f13) (body := b13) rfl hb13 po_13_13, (fun _ hq => by cases hq)⟩)
theorem eq_13 (x0 : (List Task)) (x1 : (List Segment)) (K : Y13 → Prop) : vcCode env (ctxG env false [] R33 [(13, [(5, p_13_5), (13, p_13_13), (21, p_13_21), (26, p_13_26)])] [(13, [(4, q_13_4)])]) 2000 13 b13 (entry env f13 [v22 x0, v23 x1]) (finR env f13 decR13 K) = B13 x0 x1 K := by kernel_rfl
noncomputable def rule13 : Nat × Rule env := (13, ruleF env decA13 encR13 fun x => V13 x.1 x.2)
theorem r13 : RuleOk Try.prog env 13 rule13.2 :=
  rule_fun tab (ctxG_ok R33_ok false [] _ _) bo_13 (f := 13) (fn := f13) rfl hb13 po_13_13 2000 encA13 hA13 hR13 hD13 (fun _ => of_decide_eq_true (by kernel_rfl)) (fun x K => (eq_13 x.1 x.2 K).trans (by rw [V13_eq]))
noncomputable def R13 : List (Nat × Rule env) := rule13 :: R33
theorem R13_ok : AllOk Try.prog env R13 := ⟨r13, R33_ok⟩
-- 16 queuelab/queuelablaw37.shuffled
noncomputable def f16 : Func := Try.f16
noncomputable def b16 : Code := (Try.f16.body).getD .skip
abbrev X16 := (List Segment) × (List Int)
def encA16 (x : X16) : List (SV env.T) := [v23 x.1, v42 x.2]
def decA16 (l : List (SV env.T)) : Option X16 := match l with
  | [s0, s1] => match u23 s0, u42 s1 with
    | some x0, some x1 => some (x0, x1)
    | _, _ => none
  | _ => none
theorem hA16 (l : List (SV env.T)) (x : X16) (h : decA16 l = some x) : WkA env.has l (encA16 x) := by
  unfold decA16 at h; split at h
  · split at h
    · rename_i h0 h1; cases h; exact (.cons (u23_wk h0) (.cons (u42_wk h1) .nil))
    · cases h
  · cases h
abbrev Y16 := (List Segment)
def encR16 (x : Y16) : List (SV env.T) := [v23 x]
def decR16 (l : List (SV env.T)) : Option Y16 := match l with
  | [s0] => match u23 s0 with
    | some x0 => some (x0)
    | _ => none
  | _ => none
theorem hR16 (l : List (SV env.T)) (x : Y16) (h : decR16 l = some x) : WkA env.has l (encR16 x) := by
  unfold decR16 at h; split at h
  · split at h
    · rename_i h0; cases h; exact (.cons (u23_wk h0) .nil)
    · cases h
  · cases h
theorem hD16 (y : Y16) : isDataV (tupV (encR16 y)) = true := rfl
theorem hb16 : f16.body = some b16 := by kernel_rfl
def s_16_5 : (List Int) → Int → (List Segment) → ((List Int) → Int → (List Segment) → Prop) → Prop :=
  fun x1 x2 x3 kn ↦ br (inb x2 (↑x1.length : Int)) (br (!(↑x3.length : Int) == 0) (br (!(↑x3.length : Int) == 0) (br (inb (x2.tmod (↑x3.length : Int)) (↑x3.length : Int)) (br (inb ((IntKind.i64.wrap (x1.getD x2.toNat (env.d 5))).tmod (↑x3.length : Int)) (↑x3.length : Int)) (br (inb ((IntKind.i64.wrap (x1.getD x2.toNat (env.d 5))).tmod (↑x3.length : Int)) (↑x3.length : Int)) (br (inb (x2.tmod (↑x3.length : Int)) (↑(x3.set ((IntKind.i64.wrap (x1.getD x2.toNat (env.d 5))).tmod (↑x3.length : Int)).toNat (Segment.mk (x3.getD (x2.tmod (↑x3.length : Int)).toNat (env.d 32)).from_ (x3.getD (x2.tmod (↑x3.length : Int)).toNat (env.d 32)).to_ (x3.getD (x2.tmod (↑x3.length : Int)).toNat (env.d 32)).begin_ (x3.getD (x2.tmod (↑x3.length : Int)).toNat (env.d 32)).end_ (x3.getD (x2.tmod (↑x3.length : Int)).toNat (env.d 32)).records)).length : Int)) (kn x1 (IntKind.i64.wrap (x2 + 1)) ((x3.set ((IntKind.i64.wrap (x1.getD x2.toNat (env.d 5))).tmod (↑x3.length : Int)).toNat (Segment.mk (x3.getD (x2.tmod (↑x3.length : Int)).toNat (env.d 32)).from_ (x3.getD (x2.tmod (↑x3.length : Int)).toNat (env.d 32)).to_ (x3.getD (x2.tmod (↑x3.length : Int)).toNat (env.d 32)).begin_ (x3.getD (x2.tmod (↑x3.length : Int)).toNat (env.d 32)).end_ (x3.getD (x2.tmod (↑x3.length : Int)).toNat (env.d 32)).records)).set (x2.tmod (↑x3.length : Int)).toNat (Segment.mk (x3.getD ((IntKind.i64.wrap (x1.getD x2.toNat (env.d 5))).tmod (↑x3.length : Int)).toNat (env.d 32)).from_ (x3.getD ((IntKind.i64.wrap (x1.getD x2.toNat (env.d 5))).tmod (↑x3.length : Int)).toNat (env.d 32)).to_ (x3.getD ((IntKind.i64.wrap (x1.getD x2.toNat (env.d 5))).tmod (↑x3.length : Int)).toNat (env.d 32)).begin_ (x3.getD ((IntKind.i64.wrap (x1.getD x2.toNat (env.d 5))).tmod (↑x3.length : Int)).toNat (env.d 32)).end_ (x3.getD ((IntKind.i64.wrap (x1.getD x2.toNat (env.d 5))).tmod (↑x3.length : Int)).toNat (env.d 32)).records))) False) False) False) False) False) False) False
def v_16_5 (vs : List (SV env.T)) (K : Ex → List (SV env.T) → Prop) : Prop :=
  dCD 5 vs fun x1 vs => dCN vs fun vs => dCI .i64 vs fun x2 vs => dCD 32 vs fun x3 vs => dCE vs (s_16_5 x1 x2 x3 (fun y1 y2 y3 => K .normal [.dat 5 y1, .nils, .int .i64 y2, .dat 32 y3]))
def q_16_5 : Piece env := ⟨⟨[.any, .holeD 5, .any, .any, .hole, .row 0, .hole, .any, .any, .any, .any, .any, .any, .any, .any, .any, .any, .any, .any, .any, .any, .any, .any, .any, .any, .any, .any, .any, .any, .any, .any, .any, .any, .any, .any, .any, .any, .any, .any, .any, .any, .any, .any, .any, .any, .any, .any, .any, .any, .any, .any, .any], [], [(0, .row 32)], 1⟩, exitF (some ⟨[.any, .holeD 5, .any, .any, .hole, .row 0, .hole, .any, .any, .any, .any, .any, .any, .any, .any, .any, .any, .any, .any, .any, .any, .any, .any, .any, .any, .any, .any, .any, .any, .any, .any, .any, .any, .any, .any, .any, .any, .any, .any, .any, .any, .any, .any, .any, .any, .any, .any, .any, .any, .any, .any, .any], [], [(0, .row 32)], 1⟩) [] none, v_16_5⟩
def l_16_3 : Nat → (List Int) → Int → (List Segment) → ((List Segment) → Prop) → Prop
  | 0 => fun _ _ _ _ => False
  | k + 1 => fun x1 x2 x3 k0 ↦ br (decide (x2 < (↑x1.length : Int))) (br (decide ((↑x3.length : Int) > 0)) (s_16_5 x1 x2 x3 fun y6 y7 y8 ↦ l_16_3 k y6 y7 y8 k0) (k0 x3)) (k0 x3)
def w_16_3 (k : Nat) (vs : List (SV env.T)) (K : Ex → List (SV env.T) → Prop) : Prop :=
  dCD 5 vs fun x1 vs => dCN vs fun vs => dCI .i64 vs fun x2 vs => dCD 32 vs fun x3 vs => dCE vs (l_16_3 k x1 x2 x3 (fun y1 => K (.exit 0) [.nils, .dat 32 y1]))
def p_16_3 : Piece env := ⟨⟨[.any, .holeD 5, .any, .any, .hole, .row 0, .hole, .any, .any, .any, .any, .any, .any, .any, .any, .any, .any, .any, .any, .any, .any, .any, .any, .any, .any, .any, .any, .any, .any, .any, .any, .any, .any, .any, .any, .any, .any, .any, .any, .any, .any, .any, .any, .any, .any, .any, .any, .any, .any, .any, .any, .any], [], [(0, .row 32)], 1⟩, exitF none [(0, ⟨[.any, .any, .any, .any, .hole, .row 0, .any, .any, .any, .any, .any, .any, .any, .any, .any, .any, .any, .any, .any, .any, .any, .any, .any, .any, .any, .any, .any, .any, .any, .any, .any, .any, .any, .any, .any, .any, .any, .any, .any, .any, .any, .any, .any, .any, .any, .any, .any, .any, .any, .any, .any, .any], [], [(0, .row 32)], 1⟩)] none, fun vs K => ∃ k, w_16_3 k vs K⟩
noncomputable def B16 : (List Segment) → (List Int) → (Y16 → Prop) → Prop :=
  fun x0 x1 K ↦ br (andb (leb 0 0) (andb (leb 0 (↑x0.length : Int)) (roomB (↑x0.length : Int).toNat (bytesB env 32)))) (br (roomB (List.replicate 0 (Segment.mk 0 0 0 0 []) ++ x0).length (bytesB env 32)) (∃ k3, l_16_3 k3 x1 0 (List.replicate 0 (Segment.mk 0 0 0 0 []) ++ x0) K) False) False
theorem V16_ex : ∃ V : (List Segment) → (List Int) → (Y16 → Prop) → Prop, V = B16 := ⟨_, rfl⟩
noncomputable def V16 : (List Segment) → (List Int) → (Y16 → Prop) → Prop := Classical.choose V16_ex
theorem V16_eq : V16 = B16 := Classical.choose_spec V16_ex
theorem pooq_16_5_16 : PiecesOk Try.prog env (ctxG env false [] R13 [] []) 16 b16 :=
  pieces_at (rfIn_body (fn := f16) (b := b16) rfl hb16) (L := []) (S := []) (fun _ => rfl) (fun _ => rfl) (by kernel_rfl) (by kernel_rfl) (fun _ hq => by cases hq) (fun _ hq => by cases hq)
theorem booq_16_5 : BodiesOk Try.prog env (ctxG env false [] R13 [] []) := bodies_okG (ks := []) (by kernel_rfl) (fun _ hq => by cases hq)
theorem stoq_16_5 (x1 : (List Int)) (x2 : Int) (x3 : (List Segment)) (K : Ex → List (SV env.T) → Prop) : s_16_5  x1 x2 x3 (fun y1 y2 y3 => K .normal [.dat 5 y1, .nils, .int .i64 y2, .dat 32 y3]) = vcCode env (ctxG env false [] R13 [] []) 2000 16 (seqAt b16 5) (insSt q_16_5.head [.dat 5 x1, .nils, .int .i64 x2, .dat 32 x3]) (outP env q_16_5 K) := by kernel_rfl
theorem wioq_16_5 (vs : List (SV env.T)) (K : Ex → List (SV env.T) → Prop) (h : v_16_5 vs K) : ∃ x1 : (List Int), ∃ x2 : Int, ∃ x3 : (List Segment), vs = [.dat 5 x1, .nils, .int .i64 x2, .dat 32 x3] ∧ s_16_5  x1 x2 x3 (fun y1 y2 y3 => K .normal [.dat 5 y1, .nils, .int .i64 y2, .dat 32 y3]) := by
  unfold v_16_5 at h
  replace h := dCD_spec h
  obtain ⟨x1, vs0, e0, h⟩ := h
  replace h := dCN_spec h
  obtain ⟨vs1, e1, h⟩ := h
  replace h := dCI_spec h
  obtain ⟨x2, vs2, e2, h⟩ := h
  replace h := dCD_spec h
  obtain ⟨x3, vs3, e3, h⟩ := h
  replace h := dCE_spec h
  obtain ⟨e, h⟩ := h
  exact ⟨x1, x2, x3, by rw [e0, e1, e2, e3, e], h⟩
theorem oq_16_5 : PieceOk Try.prog env q_16_5 (seqAt b16 5) := by
  refine seq_step tab (ctxG_ok R13_ok false [] _ _) booq_16_5 (pieces_subS pooq_16_5_16 (by kernel_rfl)) 2000 ?_
  intro vs K h
  obtain ⟨x1, x2, x3, rfl, h⟩ := wioq_16_5 vs K h
  exact Eq.mp (stoq_16_5 x1 x2 x3 K) h
theorem pook_16_3_16 : PiecesOk Try.prog env (ctxG env false [] R13 [] [(16, [(5, q_16_5)])]) 16 b16 :=
  pieces_at (rfIn_body (fn := f16) (b := b16) rfl hb16) (L := []) (S := [(5, q_16_5)]) (fun _ => rfl) (fun _ => rfl) (by kernel_rfl) (by kernel_rfl) (fun _ hq => by cases hq) (List.forall_mem_cons.2 ⟨fun _ => oq_16_5, (fun _ hq => by cases hq)⟩)
theorem book_16_3 : BodiesOk Try.prog env (ctxG env false [] R13 [] [(16, [(5, q_16_5)])]) := bodies_okG (ks := [16]) (by kernel_rfl) (List.forall_mem_cons.2 ⟨body_at (fn := f16) (body := b16) rfl hb16 pook_16_3_16, (fun _ hq => by cases hq)⟩)
theorem stok_16_3 (k : Nat) (x1 : (List Int)) (x2 : Int) (x3 : (List Segment)) (K : Ex → List (SV env.T) → Prop) : l_16_3 (k + 1) x1 x2 x3 (fun y1 => K (.exit 0) [.nils, .dat 32 y1]) = vcCode env (ctxG env false [] R13 [] [(16, [(5, q_16_5)])]) 2000 16 (loopAt b16 3) (insSt p_16_3.head [.dat 5 x1, .nils, .int .i64 x2, .dat 32 x3]) (stepK p_16_3 (w_16_3 k) K) := by kernel_rfl
theorem wiok_16_3 (k : Nat) (vs : List (SV env.T)) (K : Ex → List (SV env.T) → Prop) (h : w_16_3 k vs K) : ∃ x1 : (List Int), ∃ x2 : Int, ∃ x3 : (List Segment), vs = [.dat 5 x1, .nils, .int .i64 x2, .dat 32 x3] ∧ l_16_3 k x1 x2 x3 (fun y1 => K (.exit 0) [.nils, .dat 32 y1]) := by
  unfold w_16_3 at h
  replace h := dCD_spec h
  obtain ⟨x1, vs0, e0, h⟩ := h
  replace h := dCN_spec h
  obtain ⟨vs1, e1, h⟩ := h
  replace h := dCI_spec h
  obtain ⟨x2, vs2, e2, h⟩ := h
  replace h := dCD_spec h
  obtain ⟨x3, vs3, e3, h⟩ := h
  replace h := dCE_spec h
  obtain ⟨e, h⟩ := h
  exact ⟨x1, x2, x3, by rw [e0, e1, e2, e3, e], h⟩
theorem zeok_16_3 (x1 : (List Int)) (x2 : Int) (x3 : (List Segment)) (K : Ex → List (SV env.T) → Prop) : l_16_3 0 x1 x2 x3 (fun y1 => K (.exit 0) [.nils, .dat 32 y1]) = False := by kernel_rfl
theorem ok_16_3 : PieceOk Try.prog env p_16_3 (.loop (loopAt b16 3)) := by
  refine loop_step (Wn := w_16_3) tab (ctxG_ok R13_ok false [] _ _) book_16_3 (pieces_sub pook_16_3_16 (by kernel_rfl)) rfl ?_ 2000 ?_
  · intro vs K h
    obtain ⟨x1, x2, x3, _, h⟩ := wiok_16_3 0 vs K h
    exact Eq.mp (zeok_16_3 x1 x2 x3 K) h
  · intro k vs K h
    obtain ⟨x1, x2, x3, rfl, h⟩ := wiok_16_3 (k + 1) vs K h
    exact Eq.mp (stok_16_3 k x1 x2 x3 K) h
theorem po_16_16 : PiecesOk Try.prog env (ctxG env false [] R13 [(16, [(3, p_16_3)])] [(16, [(5, q_16_5)])]) 16 b16 :=
  pieces_at (rfIn_body (fn := f16) (b := b16) rfl hb16) (L := [(3, p_16_3)]) (S := [(5, q_16_5)]) (fun _ => rfl) (fun _ => rfl) (by kernel_rfl) (by kernel_rfl) (List.forall_mem_cons.2 ⟨fun _ => ok_16_3, (fun _ hq => by cases hq)⟩) (List.forall_mem_cons.2 ⟨fun _ => oq_16_5, (fun _ hq => by cases hq)⟩)
theorem bo_16 : BodiesOk Try.prog env (ctxG env false [] R13 [(16, [(3, p_16_3)])] [(16, [(5, q_16_5)])]) := bodies_okG (ks := [16]) (by kernel_rfl) (List.forall_mem_cons.2 ⟨body_at (fn := f16) (body := b16) rfl hb16 po_16_16, (fun _ hq => by cases hq)⟩)
theorem eq_16 (x0 : (List Segment)) (x1 : (List Int)) (K : Y16 → Prop) : vcCode env (ctxG env false [] R13 [(16, [(3, p_16_3)])] [(16, [(5, q_16_5)])]) 2000 16 b16 (entry env f16 [v23 x0, v42 x1]) (finR env f16 decR16 K) = B16 x0 x1 K := by kernel_rfl
noncomputable def rule16 : Nat × Rule env := (16, ruleF env decA16 encR16 fun x => V16 x.1 x.2)
theorem r16 : RuleOk Try.prog env 16 rule16.2 :=
  rule_fun tab (ctxG_ok R13_ok false [] _ _) bo_16 (f := 16) (fn := f16) rfl hb16 po_16_16 2000 encA16 hA16 hR16 hD16 (fun _ => of_decide_eq_true (by kernel_rfl)) (fun x K => (eq_16 x.1 x.2 K).trans (by rw [V16_eq]))
noncomputable def R16 : List (Nat × Rule env) := rule16 :: R13
theorem R16_ok : AllOk Try.prog env R16 := ⟨r16, R13_ok⟩
end Go.Vg.Ytkaodeodiakldaa
