/-
  Walked functions of the program: predicate transformers and their rules. Written by a program of this work (gen.py, VgGen.lean) out of the executor's own reduction; no condition.
-/
import Derived.Test.YtgekegoflaichaaL
set_option maxRecDepth 100000
set_option maxHeartbeats 4000000
namespace Go.Vg.Ytgekegoflaichaa
open Go.Vg Go.Proofs
-- 4 queuelab/queuelablaw22.DeficitConserves
noncomputable def f4 : Func := Try.f4
noncomputable def b4 : Code := (Try.f4.body).getD .skip
abbrev X4 := Queue × (List Step)
def encA4 (x : X4) : List (SV env.T) := [v28 x.1, v42 x.2]
def decA4 (l : List (SV env.T)) : Option X4 := match l with
  | [s0, s1] => match u28 s0, u42 s1 with
    | some x0, some x1 => some (x0, x1)
    | _, _ => none
  | _ => none
theorem hA4 (l : List (SV env.T)) (x : X4) (h : decA4 l = some x) : WkA env.has l (encA4 x) := by
  unfold decA4 at h; split at h
  · split at h
    · rename_i h0 h1; cases h; exact (.cons (u28_wk h0) (.cons (u42_wk h1) .nil))
    · cases h
  · cases h
abbrev Y4 := Bool
def encR4 (x : Y4) : List (SV env.T) := [v4 x]
def decR4 (l : List (SV env.T)) : Option Y4 := match l with
  | [s0] => match u4 s0 with
    | some x0 => some (x0)
    | _ => none
  | _ => none
theorem hR4 (l : List (SV env.T)) (x : Y4) (h : decR4 l = some x) : WkA env.has l (encR4 x) := by
  unfold decR4 at h; split at h
  · split at h
    · rename_i h0; cases h; exact (.cons (u4_wk h0) .nil)
    · cases h
  · cases h
theorem hD4 (y : Y4) : isDataV (tupV (encR4 y)) = true := rfl
theorem hb4 : f4.body = some b4 := by kernel_rfl
def l_4_10 : Nat → (List Step) → Bool → Bool → Int → Int → Int → Int → Int → Int → Int → (List (List Queued)) → (List Int) → Int → (List Packet) → ((List Step) → Bool → Bool → Int → Int → Int → Int → Int → Int → (List (List Queued)) → (List Int) → Int → (List Packet) → Prop) → Prop
  | 0 => fun _ _ _ _ _ _ _ _ _ _ _ _ _ _ _ => False
  | k + 1 => fun x1 x2 x3 x4 x5 x6 x7 x8 x9 x10 x11 x12 x13 x14 k2 ↦ br (inb x4 (↑x11.length : Int)) (br (decide (x5 < (↑(List.length (x11.getD x4.toNat (env.d 43))) : Int))) (br (inb x4 (↑x11.length : Int)) (br (inb x5 (↑(List.length (x11.getD x4.toNat (env.d 43))) : Int)) (br (roomB (x14 ++ [Packet.mk (List.getD (x11.getD x4.toNat (env.d 43)) x5.toNat (env.d 45)).p.flow (List.getD (x11.getD x4.toNat (env.d 43)) x5.toNat (env.d 45)).p.sub (List.getD (x11.getD x4.toNat (env.d 43)) x5.toNat (env.d 45)).p.number (List.getD (x11.getD x4.toNat (env.d 43)) x5.toNat (env.d 45)).p.data (List.getD (x11.getD x4.toNat (env.d 43)) x5.toNat (env.d 45)).p.size (List.getD (x11.getD x4.toNat (env.d 43)) x5.toNat (env.d 45)).p.sent (List.getD (x11.getD x4.toNat (env.d 43)) x5.toNat (env.d 45)).p.able (List.getD (x11.getD x4.toNat (env.d 43)) x5.toNat (env.d 45)).p.marked]).length (bytesB env 30)) (l_4_10 k x1 x2 x3 x4 (IntKind.i64.wrap (x5 + 1)) x6 x7 x8 x9 x10 x11 x12 x13 (x14 ++ [Packet.mk (List.getD (x11.getD x4.toNat (env.d 43)) x5.toNat (env.d 45)).p.flow (List.getD (x11.getD x4.toNat (env.d 43)) x5.toNat (env.d 45)).p.sub (List.getD (x11.getD x4.toNat (env.d 43)) x5.toNat (env.d 45)).p.number (List.getD (x11.getD x4.toNat (env.d 43)) x5.toNat (env.d 45)).p.data (List.getD (x11.getD x4.toNat (env.d 43)) x5.toNat (env.d 45)).p.size (List.getD (x11.getD x4.toNat (env.d 43)) x5.toNat (env.d 45)).p.sent (List.getD (x11.getD x4.toNat (env.d 43)) x5.toNat (env.d 45)).p.able (List.getD (x11.getD x4.toNat (env.d 43)) x5.toNat (env.d 45)).p.marked]) k2) False) False) False) (k2 x1 x2 x3 x4 x6 x7 x8 x9 x10 x11 x12 x13 x14)) False
def w_4_10 (k : Nat) (vs : List (SV env.T)) (K : Ex → List (SV env.T) → Prop) : Prop :=
  dCD 48 vs fun x1 vs => dCB vs fun x2 vs => dCB vs fun x3 vs => dCN vs fun vs => dCI .i64 vs fun x4 vs => dCI .i64 vs fun x5 vs => dCI .i64 vs fun x6 vs => dCI .i64 vs fun x7 vs => dCI .i64 vs fun x8 vs => dCI .i64 vs fun x9 vs => dCI .i64 vs fun x10 vs => dCD 43 vs fun x11 vs => dCA .i64 8 vs fun x12 vs => dCI .u64 vs fun x13 vs => dCD 30 vs fun x14 vs => dCE vs (l_4_10 k x1 x2 x3 x4 x5 x6 x7 x8 x9 x10 x11 x12 x13 x14 (fun y1 y2 y3 y4 y5 y6 y7 y8 y9 y10 y11 y12 y13 => K (.exit 2) [.dat 48 y1, .bool y2, .bool y3, .nils, .int .i64 y4, .int .i64 y5, .int .i64 y6, .int .i64 y7, .int .i64 y8, .int .i64 y9, .dat 43 y10, .arr .i64 8 y11, .int .u64 y12, .dat 30 y13]))
def p_4_10 : Piece env := ⟨⟨[.any, .holeD 48, .ptr 0 0, .any, .hole, .hole, .any, .row 1, .hole, .hole, .hole, .any, .any, .any, .any, .any, .any, .any, .any, .any, .any, .any, .any, .any, .any, .any, .any, .any, .any, .any, .any, .any, .any, .any, .any, .any, .any, .any, .any, .any, .any, .any, .any, .any, .any, .any, .any, .any, .any, .any, .any, .any, .any, .any, .any, .any, .any, .any, .any, .any, .any, .any, .any, .any, .any, .any, .any, .any, .any, .any, .any, .any, .any, .any, .any, .any, .any, .any, .any, .any, .any, .any, .any, .any, .any, .any, .any, .any, .any, .any, .any, .any, .any, .any, .any, .any, .any, .any, .any, .any, .any, .any, .any, .any, .any, .any, .any, .any, .any, .any, .any, .any, .any, .any, .any, .any, .any, .any, .any, .any, .any, .any, .any, .any, .any, .any, .any, .any, .any, .any, .any, .any, .any, .any, .any, .any, .any, .any, .any, .any, .any, .any, .any, .any, .any, .any, .any, .any, .any, .any, .any, .any, .any, .any, .any, .any, .any, .any, .any, .any, .any, .any, .any, .any, .any, .any, .any, .any, .any, .any, .any, .any, .any, .any, .any, .any, .any, .any, .any, .any, .any, .any, .any, .any, .any, .any, .any, .any, .any, .any, .any, .any, .any, .any, .any, .any, .any, .any, .any, .any, .any, .any, .any, .any, .any, .any, .any, .any, .any, .any, .any, .any, .any, .any, .any, .any, .any, .any, .any, .any, .any, .any, .any, .any, .any], [], [(0, .cells 28 [.hole, .hole, .hole, .hole, .hole, .holeD 43, .hole, .hole]), (1, .row 30)], 2⟩, exitF none [(2, ⟨[.any, .holeD 48, .ptr 0 0, .any, .hole, .hole, .any, .row 1, .hole, .hole, .any, .any, .any, .any, .any, .any, .any, .any, .any, .any, .any, .any, .any, .any, .any, .any, .any, .any, .any, .any, .any, .any, .any, .any, .any, .any, .any, .any, .any, .any, .any, .any, .any, .any, .any, .any, .any, .any, .any, .any, .any, .any, .any, .any, .any, .any, .any, .any, .any, .any, .any, .any, .any, .any, .any, .any, .any, .any, .any, .any, .any, .any, .any, .any, .any, .any, .any, .any, .any, .any, .any, .any, .any, .any, .any, .any, .any, .any, .any, .any, .any, .any, .any, .any, .any, .any, .any, .any, .any, .any, .any, .any, .any, .any, .any, .any, .any, .any, .any, .any, .any, .any, .any, .any, .any, .any, .any, .any, .any, .any, .any, .any, .any, .any, .any, .any, .any, .any, .any, .any, .any, .any, .any, .any, .any, .any, .any, .any, .any, .any, .any, .any, .any, .any, .any, .any, .any, .any, .any, .any, .any, .any, .any, .any, .any, .any, .any, .any, .any, .any, .any, .any, .any, .any, .any, .any, .any, .any, .any, .any, .any, .any, .any, .any, .any, .any, .any, .any, .any, .any, .any, .any, .any, .any, .any, .any, .any, .any, .any, .any, .any, .any, .any, .any, .any, .any, .any, .any, .any, .any, .any, .any, .any, .any, .any, .any, .any, .any, .any, .any, .any, .any, .any, .any, .any, .any, .any, .any, .any, .any, .any, .any, .any, .any, .any], [], [(0, .cells 28 [.hole, .hole, .hole, .hole, .hole, .holeD 43, .hole, .hole]), (1, .row 30)], 2⟩)] none, fun vs K => ∃ k, w_4_10 k vs K⟩
def l_4_7 : Nat → (List Step) → Bool → Bool → Int → Int → Int → Int → Int → Int → (List (List Queued)) → (List Int) → Int → (List Packet) → ((List Step) → Bool → Bool → Int → Int → Int → Int → Int → (List (List Queued)) → (List Int) → Int → (List Packet) → Prop) → Prop
  | 0 => fun _ _ _ _ _ _ _ _ _ _ _ _ _ _ => False
  | k + 1 => fun x1 x2 x3 x4 x5 x6 x7 x8 x9 x10 x11 x12 x13 k0 ↦ br (decide (x4 < (↑x10.length : Int))) (∃ k16, l_4_10 k16 x1 x2 x3 x4 0 x5 x6 x7 x8 x9 x10 x11 x12 x13 fun y17 y18 y19 y20 y21 y22 y23 y24 y25 y26 y27 y28 y29 ↦ l_4_7 k y17 y18 y19 (IntKind.i64.wrap (y20 + 1)) y21 y22 y23 y24 y25 y26 y27 y28 y29 k0) (k0 x1 x2 x3 x5 x6 x7 x8 x9 x10 x11 x12 x13)
def w_4_7 (k : Nat) (vs : List (SV env.T)) (K : Ex → List (SV env.T) → Prop) : Prop :=
  dCD 48 vs fun x1 vs => dCB vs fun x2 vs => dCB vs fun x3 vs => dCN vs fun vs => dCI .i64 vs fun x4 vs => dCI .i64 vs fun x5 vs => dCI .i64 vs fun x6 vs => dCI .i64 vs fun x7 vs => dCI .i64 vs fun x8 vs => dCI .i64 vs fun x9 vs => dCD 43 vs fun x10 vs => dCA .i64 8 vs fun x11 vs => dCI .u64 vs fun x12 vs => dCD 30 vs fun x13 vs => dCE vs (l_4_7 k x1 x2 x3 x4 x5 x6 x7 x8 x9 x10 x11 x12 x13 (fun y1 y2 y3 y4 y5 y6 y7 y8 y9 y10 y11 y12 => K (.exit 0) [.dat 48 y1, .bool y2, .bool y3, .nils, .int .i64 y4, .int .i64 y5, .int .i64 y6, .int .i64 y7, .int .i64 y8, .dat 43 y9, .arr .i64 8 y10, .int .u64 y11, .dat 30 y12]))
def p_4_7 : Piece env := ⟨⟨[.any, .holeD 48, .ptr 0 0, .any, .hole, .hole, .any, .row 1, .hole, .hole, .any, .any, .any, .any, .any, .any, .any, .any, .any, .any, .any, .any, .any, .any, .any, .any, .any, .any, .any, .any, .any, .any, .any, .any, .any, .any, .any, .any, .any, .any, .any, .any, .any, .any, .any, .any, .any, .any, .any, .any, .any, .any, .any, .any, .any, .any, .any, .any, .any, .any, .any, .any, .any, .any, .any, .any, .any, .any, .any, .any, .any, .any, .any, .any, .any, .any, .any, .any, .any, .any, .any, .any, .any, .any, .any, .any, .any, .any, .any, .any, .any, .any, .any, .any, .any, .any, .any, .any, .any, .any, .any, .any, .any, .any, .any, .any, .any, .any, .any, .any, .any, .any, .any, .any, .any, .any, .any, .any, .any, .any, .any, .any, .any, .any, .any, .any, .any, .any, .any, .any, .any, .any, .any, .any, .any, .any, .any, .any, .any, .any, .any, .any, .any, .any, .any, .any, .any, .any, .any, .any, .any, .any, .any, .any, .any, .any, .any, .any, .any, .any, .any, .any, .any, .any, .any, .any, .any, .any, .any, .any, .any, .any, .any, .any, .any, .any, .any, .any, .any, .any, .any, .any, .any, .any, .any, .any, .any, .any, .any, .any, .any, .any, .any, .any, .any, .any, .any, .any, .any, .any, .any, .any, .any, .any, .any, .any, .any, .any, .any, .any, .any, .any, .any, .any, .any, .any, .any, .any, .any, .any, .any, .any, .any, .any, .any], [], [(0, .cells 28 [.hole, .hole, .hole, .hole, .hole, .holeD 43, .hole, .hole]), (1, .row 30)], 2⟩, exitF none [(0, ⟨[.any, .holeD 48, .ptr 0 0, .any, .hole, .hole, .any, .row 1, .hole, .any, .any, .any, .any, .any, .any, .any, .any, .any, .any, .any, .any, .any, .any, .any, .any, .any, .any, .any, .any, .any, .any, .any, .any, .any, .any, .any, .any, .any, .any, .any, .any, .any, .any, .any, .any, .any, .any, .any, .any, .any, .any, .any, .any, .any, .any, .any, .any, .any, .any, .any, .any, .any, .any, .any, .any, .any, .any, .any, .any, .any, .any, .any, .any, .any, .any, .any, .any, .any, .any, .any, .any, .any, .any, .any, .any, .any, .any, .any, .any, .any, .any, .any, .any, .any, .any, .any, .any, .any, .any, .any, .any, .any, .any, .any, .any, .any, .any, .any, .any, .any, .any, .any, .any, .any, .any, .any, .any, .any, .any, .any, .any, .any, .any, .any, .any, .any, .any, .any, .any, .any, .any, .any, .any, .any, .any, .any, .any, .any, .any, .any, .any, .any, .any, .any, .any, .any, .any, .any, .any, .any, .any, .any, .any, .any, .any, .any, .any, .any, .any, .any, .any, .any, .any, .any, .any, .any, .any, .any, .any, .any, .any, .any, .any, .any, .any, .any, .any, .any, .any, .any, .any, .any, .any, .any, .any, .any, .any, .any, .any, .any, .any, .any, .any, .any, .any, .any, .any, .any, .any, .any, .any, .any, .any, .any, .any, .any, .any, .any, .any, .any, .any, .any, .any, .any, .any, .any, .any, .any, .any, .any, .any, .any, .any, .any, .any], [], [(0, .cells 28 [.hole, .hole, .hole, .hole, .hole, .holeD 43, .hole, .hole]), (1, .row 30)], 2⟩)] none, fun vs K => ∃ k, w_4_7 k vs K⟩
def s_4_23 : (List Step) → Bool → Bool → Int → Int → Bool → Int → Int → Int → Int → Int → (List (List Queued)) → (List Int) → Int → (List Packet) → (List Packet) → Int → Int → Int → Int → Int → (List (List Queued)) → (List Int) → Int → Int → Int → Int → Int → Int → Int → Bool → Bool → ((List Step) → Bool → Bool → Int → Int → Int → Int → Int → Int → Int → (List (List Queued)) → (List Int) → Int → (List Packet) → (List Packet) → Prop) → Prop :=
  fun x1 x2 x3 x4 x5 x6 _ _ _ _ _ _ _ _ x15 x16 x17 x18 x19 x20 x21 x22 x23 x24 x25 x26 x27 x28 x29 x30 x31 x32 kn ↦ br x6 (br (roomB (x16 ++ [Packet.mk x25 x26 x27 x28 x29 x30 x31 x32]).length (bytesB env 30)) (kn x1 x2 x3 x4 x5 x17 x18 x19 x20 x21 x22 x23 x24 x15 (x16 ++ [Packet.mk x25 x26 x27 x28 x29 x30 x31 x32])) False) (kn x1 x2 x3 x4 x5 x17 x18 x19 x20 x21 x22 x23 x24 x15 x16)
def v_4_23 (vs : List (SV env.T)) (K : Ex → List (SV env.T) → Prop) : Prop :=
  dCD 48 vs fun x1 vs => dCB vs fun x2 vs => dCB vs fun x3 vs => dCI .i64 vs fun x4 vs => dCI .i64 vs fun x5 vs => dCB vs fun x6 vs => dCI .i64 vs fun x7 vs => dCI .i64 vs fun x8 vs => dCI .i64 vs fun x9 vs => dCI .i64 vs fun x10 vs => dCI .i64 vs fun x11 vs => dCD 43 vs fun x12 vs => dCA .i64 8 vs fun x13 vs => dCI .u64 vs fun x14 vs => dCD 30 vs fun x15 vs => dCD 30 vs fun x16 vs => dCI .i64 vs fun x17 vs => dCI .i64 vs fun x18 vs => dCI .i64 vs fun x19 vs => dCI .i64 vs fun x20 vs => dCI .i64 vs fun x21 vs => dCD 43 vs fun x22 vs => dCA .i64 8 vs fun x23 vs => dCI .u64 vs fun x24 vs => dCI .i64 vs fun x25 vs => dCI .i64 vs fun x26 vs => dCI .i64 vs fun x27 vs => dCI .i64 vs fun x28 vs => dCI .i64 vs fun x29 vs => dCI .i64 vs fun x30 vs => dCB vs fun x31 vs => dCB vs fun x32 vs => dCE vs (s_4_23 x1 x2 x3 x4 x5 x6 x7 x8 x9 x10 x11 x12 x13 x14 x15 x16 x17 x18 x19 x20 x21 x22 x23 x24 x25 x26 x27 x28 x29 x30 x31 x32 (fun y1 y2 y3 y4 y5 y6 y7 y8 y9 y10 y11 y12 y13 y14 y15 => K .normal [.dat 48 y1, .bool y2, .bool y3, .int .i64 y4, .int .i64 y5, .int .i64 y6, .int .i64 y7, .int .i64 y8, .int .i64 y9, .int .i64 y10, .dat 43 y11, .arr .i64 8 y12, .int .u64 y13, .dat 30 y14, .dat 30 y15]))
def q_4_23 : Piece env := ⟨⟨[.any, .holeD 48, .ptr 0 0, .any, .hole, .hole, .any, .row 1, .row 2, .any, .any, .hole, .hole, .any, .ptr 3 0, .ptr 4 0, .hole, .any, .any, .any, .any, .any, .any, .any, .any, .any, .any, .any, .any, .any, .any, .any, .any, .any, .any, .any, .any, .any, .any, .any, .any, .any, .any, .any, .any, .any, .any, .any, .any, .any, .any, .any, .any, .any, .any, .any, .any, .any, .any, .any, .any, .any, .any, .any, .any, .any, .any, .any, .any, .any, .any, .any, .any, .any, .any, .any, .any, .any, .any, .any, .any, .any, .any, .any, .any, .any, .any, .any, .any, .any, .any, .any, .any, .any, .any, .any, .any, .any, .any, .any, .any, .any, .any, .any, .any, .any, .any, .any, .any, .any, .any, .any, .any, .any, .any, .any, .any, .any, .any, .any, .any, .any, .any, .any, .any, .any, .any, .any, .any, .any, .any, .any, .any, .any, .any, .any, .any, .any, .any, .any, .any, .any, .any, .any, .any, .any, .any, .any, .any, .any, .any, .any, .any, .any, .any, .any, .any, .any, .any, .any, .any, .any, .any, .any, .any, .any, .any, .any, .any, .any, .any, .any, .any, .any, .any, .any, .any, .any, .any, .any, .any, .any, .any, .any, .any, .any, .any, .any, .any, .any, .any, .any, .any, .any, .any, .any, .any, .any, .any, .any, .any, .any, .any, .any, .any, .any, .any, .any, .any, .any, .any, .any, .any, .any, .any, .any, .any, .any, .any, .any, .any, .any, .any, .any, .any], [], [(0, .cells 28 [.hole, .hole, .hole, .hole, .hole, .holeD 43, .hole, .hole]), (1, .row 30), (2, .row 30), (3, .cells 28 [.hole, .hole, .hole, .hole, .hole, .holeD 43, .hole, .hole]), (4, .cells 30 [.hole, .hole, .hole, .hole, .hole, .hole, .hole, .hole])], 5⟩, exitF (some ⟨[.any, .holeD 48, .ptr 0 0, .any, .hole, .hole, .any, .row 1, .row 2, .any, .any, .hole, .hole, .any, .any, .any, .any, .any, .any, .any, .any, .any, .any, .any, .any, .any, .any, .any, .any, .any, .any, .any, .any, .any, .any, .any, .any, .any, .any, .any, .any, .any, .any, .any, .any, .any, .any, .any, .any, .any, .any, .any, .any, .any, .any, .any, .any, .any, .any, .any, .any, .any, .any, .any, .any, .any, .any, .any, .any, .any, .any, .any, .any, .any, .any, .any, .any, .any, .any, .any, .any, .any, .any, .any, .any, .any, .any, .any, .any, .any, .any, .any, .any, .any, .any, .any, .any, .any, .any, .any, .any, .any, .any, .any, .any, .any, .any, .any, .any, .any, .any, .any, .any, .any, .any, .any, .any, .any, .any, .any, .any, .any, .any, .any, .any, .any, .any, .any, .any, .any, .any, .any, .any, .any, .any, .any, .any, .any, .any, .any, .any, .any, .any, .any, .any, .any, .any, .any, .any, .any, .any, .any, .any, .any, .any, .any, .any, .any, .any, .any, .any, .any, .any, .any, .any, .any, .any, .any, .any, .any, .any, .any, .any, .any, .any, .any, .any, .any, .any, .any, .any, .any, .any, .any, .any, .any, .any, .any, .any, .any, .any, .any, .any, .any, .any, .any, .any, .any, .any, .any, .any, .any, .any, .any, .any, .any, .any, .any, .any, .any, .any, .any, .any, .any, .any, .any, .any, .any, .any, .any, .any, .any, .any, .any, .any], [], [(0, .cells 28 [.hole, .hole, .hole, .hole, .hole, .holeD 43, .hole, .hole]), (1, .row 30), (2, .row 30)], 3⟩) [] none, v_4_23⟩
def s_4_30 : (List Step) → Bool → Bool → Int → Int → (List Packet) → Int → Int → Int → Int → Int → (List (List Queued)) → (List Int) → Int → (List Packet) → (List Packet) → Int → Int → Int → Int → Int → (List (List Queued)) → (List Int) → Int → ((List Step) → Bool → Bool → Int → Int → Int → Int → Int → Int → Int → (List (List Queued)) → (List Int) → Int → (List Packet) → (List Packet) → Prop) → Prop :=
  fun x1 x2 x3 x4 x5 x6 _ _ _ _ _ _ _ _ x15 x16 x17 x18 x19 x20 x21 x22 x23 x24 kn ↦ br ((↑x6.length : Int) == 0) (br (inb x5 (↑x1.length : Int)) (br (roomB (x15 ++ [Packet.mk (x1.getD x5.toNat (env.d 48)).p.flow (x1.getD x5.toNat (env.d 48)).p.sub (x1.getD x5.toNat (env.d 48)).p.number (x1.getD x5.toNat (env.d 48)).p.data (x1.getD x5.toNat (env.d 48)).p.size (x1.getD x5.toNat (env.d 48)).p.sent (x1.getD x5.toNat (env.d 48)).p.able (x1.getD x5.toNat (env.d 48)).p.marked]).length (bytesB env 30)) (kn x1 x2 x3 x4 x5 x17 x18 x19 x20 x21 x22 x23 x24 (x15 ++ [Packet.mk (x1.getD x5.toNat (env.d 48)).p.flow (x1.getD x5.toNat (env.d 48)).p.sub (x1.getD x5.toNat (env.d 48)).p.number (x1.getD x5.toNat (env.d 48)).p.data (x1.getD x5.toNat (env.d 48)).p.size (x1.getD x5.toNat (env.d 48)).p.sent (x1.getD x5.toNat (env.d 48)).p.able (x1.getD x5.toNat (env.d 48)).p.marked]) x16) False) False) (kn x1 x2 x3 x4 x5 x17 x18 x19 x20 x21 x22 x23 x24 x15 x16)
def v_4_30 (vs : List (SV env.T)) (K : Ex → List (SV env.T) → Prop) : Prop :=
  dCD 48 vs fun x1 vs => dCB vs fun x2 vs => dCB vs fun x3 vs => dCI .i64 vs fun x4 vs => dCI .i64 vs fun x5 vs => dCD 30 vs fun x6 vs => dCI .i64 vs fun x7 vs => dCI .i64 vs fun x8 vs => dCI .i64 vs fun x9 vs => dCI .i64 vs fun x10 vs => dCI .i64 vs fun x11 vs => dCD 43 vs fun x12 vs => dCA .i64 8 vs fun x13 vs => dCI .u64 vs fun x14 vs => dCD 30 vs fun x15 vs => dCD 30 vs fun x16 vs => dCI .i64 vs fun x17 vs => dCI .i64 vs fun x18 vs => dCI .i64 vs fun x19 vs => dCI .i64 vs fun x20 vs => dCI .i64 vs fun x21 vs => dCD 43 vs fun x22 vs => dCA .i64 8 vs fun x23 vs => dCI .u64 vs fun x24 vs => dCE vs (s_4_30 x1 x2 x3 x4 x5 x6 x7 x8 x9 x10 x11 x12 x13 x14 x15 x16 x17 x18 x19 x20 x21 x22 x23 x24 (fun y1 y2 y3 y4 y5 y6 y7 y8 y9 y10 y11 y12 y13 y14 y15 => K .normal [.dat 48 y1, .bool y2, .bool y3, .int .i64 y4, .int .i64 y5, .int .i64 y6, .int .i64 y7, .int .i64 y8, .int .i64 y9, .int .i64 y10, .dat 43 y11, .arr .i64 8 y12, .int .u64 y13, .dat 30 y14, .dat 30 y15]))
def q_4_30 : Piece env := ⟨⟨[.any, .holeD 48, .ptr 0 0, .any, .hole, .hole, .any, .row 1, .row 2, .any, .any, .hole, .hole, .any, .any, .any, .any, .any, .any, .ptr 3 0, .holeD 30, .any, .any, .any, .any, .any, .any, .any, .any, .any, .any, .any, .any, .any, .any, .any, .any, .any, .any, .any, .any, .any, .any, .any, .any, .any, .any, .any, .any, .any, .any, .any, .any, .any, .any, .any, .any, .any, .any, .any, .any, .any, .any, .any, .any, .any, .any, .any, .any, .any, .any, .any, .any, .any, .any, .any, .any, .any, .any, .any, .any, .any, .any, .any, .any, .any, .any, .any, .any, .any, .any, .any, .any, .any, .any, .any, .any, .any, .any, .any, .any, .any, .any, .any, .any, .any, .any, .any, .any, .any, .any, .any, .any, .any, .any, .any, .any, .any, .any, .any, .any, .any, .any, .any, .any, .any, .any, .any, .any, .any, .any, .any, .any, .any, .any, .any, .any, .any, .any, .any, .any, .any, .any, .any, .any, .any, .any, .any, .any, .any, .any, .any, .any, .any, .any, .any, .any, .any, .any, .any, .any, .any, .any, .any, .any, .any, .any, .any, .any, .any, .any, .any, .any, .any, .any, .any, .any, .any, .any, .any, .any, .any, .any, .any, .any, .any, .any, .any, .any, .any, .any, .any, .any, .any, .any, .any, .any, .any, .any, .any, .any, .any, .any, .any, .any, .any, .any, .any, .any, .any, .any, .any, .any, .any, .any, .any, .any, .any, .any, .any, .any, .any, .any, .any, .any], [], [(0, .cells 28 [.hole, .hole, .hole, .hole, .hole, .holeD 43, .hole, .hole]), (1, .row 30), (2, .row 30), (3, .cells 28 [.hole, .hole, .hole, .hole, .hole, .holeD 43, .hole, .hole])], 4⟩, exitF (some ⟨[.any, .holeD 48, .ptr 0 0, .any, .hole, .hole, .any, .row 1, .row 2, .any, .any, .hole, .hole, .any, .any, .any, .any, .any, .any, .any, .any, .any, .any, .any, .any, .any, .any, .any, .any, .any, .any, .any, .any, .any, .any, .any, .any, .any, .any, .any, .any, .any, .any, .any, .any, .any, .any, .any, .any, .any, .any, .any, .any, .any, .any, .any, .any, .any, .any, .any, .any, .any, .any, .any, .any, .any, .any, .any, .any, .any, .any, .any, .any, .any, .any, .any, .any, .any, .any, .any, .any, .any, .any, .any, .any, .any, .any, .any, .any, .any, .any, .any, .any, .any, .any, .any, .any, .any, .any, .any, .any, .any, .any, .any, .any, .any, .any, .any, .any, .any, .any, .any, .any, .any, .any, .any, .any, .any, .any, .any, .any, .any, .any, .any, .any, .any, .any, .any, .any, .any, .any, .any, .any, .any, .any, .any, .any, .any, .any, .any, .any, .any, .any, .any, .any, .any, .any, .any, .any, .any, .any, .any, .any, .any, .any, .any, .any, .any, .any, .any, .any, .any, .any, .any, .any, .any, .any, .any, .any, .any, .any, .any, .any, .any, .any, .any, .any, .any, .any, .any, .any, .any, .any, .any, .any, .any, .any, .any, .any, .any, .any, .any, .any, .any, .any, .any, .any, .any, .any, .any, .any, .any, .any, .any, .any, .any, .any, .any, .any, .any, .any, .any, .any, .any, .any, .any, .any, .any, .any, .any, .any, .any, .any, .any, .any], [], [(0, .cells 28 [.hole, .hole, .hole, .hole, .hole, .holeD 43, .hole, .hole]), (1, .row 30), (2, .row 30)], 3⟩) [] none, v_4_30⟩
def s_4_33 : (List Step) → Bool → Bool → Int → Int → Int → Int → Int → Int → Int → (List (List Queued)) → (List Int) → Int → (List Packet) → (List Packet) → (Bool → Prop) → ((List Step) → Bool → Bool → Int → Int → Int → Int → Int → Int → Int → (List (List Queued)) → (List Int) → Int → (List Packet) → (List Packet) → Prop) → Prop :=
  fun x1 x2 x3 x4 x5 x6 x7 x8 x9 x10 x11 x12 x13 x14 x15 kr kn ↦ V22 (Queue.mk (Policy.mk x6 x7 x8 x9) x10 x11 x12 x13) fun y19 ↦ br (!y19) (kr false) (kn x1 x2 x3 x4 x5 x6 x7 x8 x9 x10 x11 x12 x13 x14 x15)
def v_4_33 (vs : List (SV env.T)) (K : Ex → List (SV env.T) → Prop) : Prop :=
  dCD 48 vs fun x1 vs => dCB vs fun x2 vs => dCB vs fun x3 vs => dCI .i64 vs fun x4 vs => dCI .i64 vs fun x5 vs => dCI .i64 vs fun x6 vs => dCI .i64 vs fun x7 vs => dCI .i64 vs fun x8 vs => dCI .i64 vs fun x9 vs => dCI .i64 vs fun x10 vs => dCD 43 vs fun x11 vs => dCA .i64 8 vs fun x12 vs => dCI .u64 vs fun x13 vs => dCD 30 vs fun x14 vs => dCD 30 vs fun x15 vs => dCE vs (s_4_33 x1 x2 x3 x4 x5 x6 x7 x8 x9 x10 x11 x12 x13 x14 x15 (fun y1 => K .ret [.bool y1]) (fun y1 y2 y3 y4 y5 y6 y7 y8 y9 y10 y11 y12 y13 y14 y15 => K .normal [.dat 48 y1, .bool y2, .bool y3, .int .i64 y4, .int .i64 y5, .int .i64 y6, .int .i64 y7, .int .i64 y8, .int .i64 y9, .int .i64 y10, .dat 43 y11, .arr .i64 8 y12, .int .u64 y13, .dat 30 y14, .dat 30 y15]))
def q_4_33 : Piece env := ⟨⟨[.any, .holeD 48, .ptr 0 0, .any, .hole, .hole, .any, .row 1, .row 2, .any, .any, .hole, .hole, .any, .any, .any, .any, .any, .any, .any, .any, .any, .any, .any, .any, .any, .any, .any, .any, .any, .any, .any, .any, .any, .any, .any, .any, .any, .any, .any, .any, .any, .any, .any, .any, .any, .any, .any, .any, .any, .any, .any, .any, .any, .any, .any, .any, .any, .any, .any, .any, .any, .any, .any, .any, .any, .any, .any, .any, .any, .any, .any, .any, .any, .any, .any, .any, .any, .any, .any, .any, .any, .any, .any, .any, .any, .any, .any, .any, .any, .any, .any, .any, .any, .any, .any, .any, .any, .any, .any, .any, .any, .any, .any, .any, .any, .any, .any, .any, .any, .any, .any, .any, .any, .any, .any, .any, .any, .any, .any, .any, .any, .any, .any, .any, .any, .any, .any, .any, .any, .any, .any, .any, .any, .any, .any, .any, .any, .any, .any, .any, .any, .any, .any, .any, .any, .any, .any, .any, .any, .any, .any, .any, .any, .any, .any, .any, .any, .any, .any, .any, .any, .any, .any, .any, .any, .any, .any, .any, .any, .any, .any, .any, .any, .any, .any, .any, .any, .any, .any, .any, .any, .any, .any, .any, .any, .any, .any, .any, .any, .any, .any, .any, .any, .any, .any, .any, .any, .any, .any, .any, .any, .any, .any, .any, .any, .any, .any, .any, .any, .any, .any, .any, .any, .any, .any, .any, .any, .any, .any, .any, .any, .any, .any, .any], [], [(0, .cells 28 [.hole, .hole, .hole, .hole, .hole, .holeD 43, .hole, .hole]), (1, .row 30), (2, .row 30)], 3⟩, exitF (some ⟨[.any, .holeD 48, .ptr 0 0, .any, .hole, .hole, .any, .row 1, .row 2, .any, .any, .hole, .hole, .any, .any, .any, .any, .any, .any, .any, .any, .any, .any, .any, .any, .any, .any, .any, .any, .any, .any, .any, .any, .any, .any, .any, .any, .any, .any, .any, .any, .any, .any, .any, .any, .any, .any, .any, .any, .any, .any, .any, .any, .any, .any, .any, .any, .any, .any, .any, .any, .any, .any, .any, .any, .any, .any, .any, .any, .any, .any, .any, .any, .any, .any, .any, .any, .any, .any, .any, .any, .any, .any, .any, .any, .any, .any, .any, .any, .any, .any, .any, .any, .any, .any, .any, .any, .any, .any, .any, .any, .any, .any, .any, .any, .any, .any, .any, .any, .any, .any, .any, .any, .any, .any, .any, .any, .any, .any, .any, .any, .any, .any, .any, .any, .any, .any, .any, .any, .any, .any, .any, .any, .any, .any, .any, .any, .any, .any, .any, .any, .any, .any, .any, .any, .any, .any, .any, .any, .any, .any, .any, .any, .any, .any, .any, .any, .any, .any, .any, .any, .any, .any, .any, .any, .any, .any, .any, .any, .any, .any, .any, .any, .any, .any, .any, .any, .any, .any, .any, .any, .any, .any, .any, .any, .any, .any, .any, .any, .any, .any, .any, .any, .any, .any, .any, .any, .any, .any, .any, .any, .any, .any, .any, .any, .any, .any, .any, .any, .any, .any, .any, .any, .any, .any, .any, .any, .any, .any, .any, .any, .any, .any, .any, .any], [], [(0, .cells 28 [.hole, .hole, .hole, .hole, .hole, .holeD 43, .hole, .hole]), (1, .row 30), (2, .row 30)], 3⟩) [] (some ⟨[.any, .any, .any, .any, .hole, .any, .any, .any, .any, .any, .any, .any, .any, .any, .any, .any, .any, .any, .any, .any, .any, .any, .any, .any, .any, .any, .any, .any, .any, .any, .any, .any, .any, .any, .any, .any, .any, .any, .any, .any, .any, .any, .any, .any, .any, .any, .any, .any, .any, .any, .any, .any, .any, .any, .any, .any, .any, .any, .any, .any, .any, .any, .any, .any, .any, .any, .any, .any, .any, .any, .any, .any, .any, .any, .any, .any, .any, .any, .any, .any, .any, .any, .any, .any, .any, .any, .any, .any, .any, .any, .any, .any, .any, .any, .any, .any, .any, .any, .any, .any, .any, .any, .any, .any, .any, .any, .any, .any, .any, .any, .any, .any, .any, .any, .any, .any, .any, .any, .any, .any, .any, .any, .any, .any, .any, .any, .any, .any, .any, .any, .any, .any, .any, .any, .any, .any, .any, .any, .any, .any, .any, .any, .any, .any, .any, .any, .any, .any, .any, .any, .any, .any, .any, .any, .any, .any, .any, .any, .any, .any, .any, .any, .any, .any, .any, .any, .any, .any, .any, .any, .any, .any, .any, .any, .any, .any, .any, .any, .any, .any, .any, .any, .any, .any, .any, .any, .any, .any, .any, .any, .any, .any, .any, .any, .any, .any, .any, .any, .any, .any, .any, .any, .any, .any, .any, .any, .any, .any, .any, .any, .any, .any, .any, .any, .any, .any, .any, .any, .any, .any, .any, .any, .any, .any, .any], [], [], 0⟩), v_4_33⟩
def l_4_15 : Nat → (List Step) → Bool → Bool → Int → Int → Int → Int → Int → Int → Int → (List (List Queued)) → (List Int) → Int → (List Packet) → (List Packet) → (Bool → Prop) → (Bool → Bool → Int → Int → Int → Int → Int → (List (List Queued)) → (List Int) → Int → (List Packet) → (List Packet) → Prop) → Prop
  | 0 => fun _ _ _ _ _ _ _ _ _ _ _ _ _ _ _ _ _ => False
  | k + 1 => fun x1 x2 x3 x4 x5 x6 x7 x8 x9 x10 x11 x12 x13 x14 x15 kr k4 ↦ br (decide (x5 < (↑x1.length : Int))) (br (inb x5 (↑x1.length : Int)) (br (inb x5 (↑x1.length : Int)) (V26 (x1.getD x5.toNat (env.d 48)).p fun y19 ↦ br (inb x5 (↑x1.length : Int)) (br (x1.getD x5.toNat (env.d 48)).take (V19 (Queue.mk (Policy.mk x6 x7 x8 x9) x10 x11 x12 x13) (if IntKind.i64.wrap (x4 + IntKind.i64.wrap (x1.getD x5.toNat (env.d 48)).wait) < 10000000 then IntKind.i64.wrap (x4 + IntKind.i64.wrap (x1.getD x5.toNat (env.d 48)).wait) else 10000000) fun y20 ↦ br (y20.snd.snd.snd.snd != 0) (kr false) (br (decide ((↑y20.snd.snd.snd.fst.length : Int) > 0)) (kr false) (V27 (Queue.mk (Policy.mk x6 x7 x8 x9) x10 x11 x12 x13) fun y21 ↦ br (!y20.snd.snd.fst == decide (y21 > 0)) (kr false) (s_4_23 x1 x2 x3 (if IntKind.i64.wrap (x4 + IntKind.i64.wrap (x1.getD x5.toNat (env.d 48)).wait) < 10000000 then IntKind.i64.wrap (x4 + IntKind.i64.wrap (x1.getD x5.toNat (env.d 48)).wait) else 10000000) x5 y20.snd.snd.fst x6 x7 x8 x9 x10 x11 x12 x13 x14 x15 y20.fst.policy.kind y20.fst.policy.a y20.fst.policy.b y20.fst.policy.c y20.fst.room y20.fst.lists y20.fst.vars y20.fst.seed y20.snd.fst.flow y20.snd.fst.sub y20.snd.fst.number y20.snd.fst.data y20.snd.fst.size y20.snd.fst.sent y20.snd.fst.able y20.snd.fst.marked fun y22 y23 y24 y25 y26 y27 y28 y29 y30 y31 y32 y33 y34 y35 y36 ↦ s_4_33 y22 y23 y24 y25 y26 y27 y28 y29 y30 y31 y32 y33 y34 y35 y36 kr fun y37 y38 y39 y40 y41 y42 y43 y44 y45 y46 y47 y48 y49 y50 y51 ↦ l_4_15 k y37 y38 y39 y40 (IntKind.i64.wrap (y41 + 1)) y42 y43 y44 y45 y46 y47 y48 y49 y50 y51 kr k4)))) (br y19 (br (inb x5 (↑x1.length : Int)) (∃ k20, (V17 (Queue.mk (Policy.mk x6 x7 x8 x9) x10 x11 x12 x13) (x1.getD x5.toNat (env.d 48)).p (if IntKind.i64.wrap (x4 + IntKind.i64.wrap (x1.getD x5.toNat (env.d 48)).wait) < 10000000 then IntKind.i64.wrap (x4 + IntKind.i64.wrap (x1.getD x5.toNat (env.d 48)).wait) else 10000000) fun y21 ↦ tupV (encR17 y21) = tupV (encR17 k20)) ∧ br (k20.snd.snd != 0) (kr false) (br (decide ((↑k20.snd.fst.length : Int) > 1)) (kr false) (∃ k21, (V27 (Queue.mk (Policy.mk x6 x7 x8 x9) x10 x11 x12 x13) fun y22 ↦ tupV (encR27 y22) = tupV (encR27 k21)) ∧ br (!((↑k20.snd.fst.length : Int) == 1) == (k21 == x10)) (kr false) (br ((↑k20.snd.fst.length : Int) == 1) (br (inb 0 (↑k20.snd.fst.length : Int)) (br (inb x5 (↑x1.length : Int)) (br (!andb ((k20.snd.fst.getD 0 (env.d 30)).flow == (x1.getD x5.toNat (env.d 48)).p.flow) (andb ((k20.snd.fst.getD 0 (env.d 30)).sub == (x1.getD x5.toNat (env.d 48)).p.sub) (andb ((k20.snd.fst.getD 0 (env.d 30)).number == (x1.getD x5.toNat (env.d 48)).p.number) (andb ((k20.snd.fst.getD 0 (env.d 30)).data == (x1.getD x5.toNat (env.d 48)).p.data) (andb ((k20.snd.fst.getD 0 (env.d 30)).size == (x1.getD x5.toNat (env.d 48)).p.size) (andb ((k20.snd.fst.getD 0 (env.d 30)).sent == (x1.getD x5.toNat (env.d 48)).p.sent) (andb ((k20.snd.fst.getD 0 (env.d 30)).able == (x1.getD x5.toNat (env.d 48)).p.able) ((k20.snd.fst.getD 0 (env.d 30)).marked == (x1.getD x5.toNat (env.d 48)).p.marked)))))))) (kr false) (s_4_30 x1 x2 x3 (if IntKind.i64.wrap (x4 + IntKind.i64.wrap (x1.getD x5.toNat (env.d 48)).wait) < 10000000 then IntKind.i64.wrap (x4 + IntKind.i64.wrap (x1.getD x5.toNat (env.d 48)).wait) else 10000000) x5 k20.snd.fst x6 x7 x8 x9 x10 x11 x12 x13 x14 x15 k20.fst.policy.kind k20.fst.policy.a k20.fst.policy.b k20.fst.policy.c k20.fst.room k20.fst.lists k20.fst.vars k20.fst.seed fun y22 y23 y24 y25 y26 y27 y28 y29 y30 y31 y32 y33 y34 y35 y36 ↦ s_4_33 y22 y23 y24 y25 y26 y27 y28 y29 y30 y31 y32 y33 y34 y35 y36 kr fun y37 y38 y39 y40 y41 y42 y43 y44 y45 y46 y47 y48 y49 y50 y51 ↦ l_4_15 k y37 y38 y39 y40 (IntKind.i64.wrap (y41 + 1)) y42 y43 y44 y45 y46 y47 y48 y49 y50 y51 kr k4)) False) False) (s_4_30 x1 x2 x3 (if IntKind.i64.wrap (x4 + IntKind.i64.wrap (x1.getD x5.toNat (env.d 48)).wait) < 10000000 then IntKind.i64.wrap (x4 + IntKind.i64.wrap (x1.getD x5.toNat (env.d 48)).wait) else 10000000) x5 k20.snd.fst x6 x7 x8 x9 x10 x11 x12 x13 x14 x15 k20.fst.policy.kind k20.fst.policy.a k20.fst.policy.b k20.fst.policy.c k20.fst.room k20.fst.lists k20.fst.vars k20.fst.seed fun y22 y23 y24 y25 y26 y27 y28 y29 y30 y31 y32 y33 y34 y35 y36 ↦ s_4_33 y22 y23 y24 y25 y26 y27 y28 y29 y30 y31 y32 y33 y34 y35 y36 kr fun y37 y38 y39 y40 y41 y42 y43 y44 y45 y46 y47 y48 y49 y50 y51 ↦ l_4_15 k y37 y38 y39 y40 (IntKind.i64.wrap (y41 + 1)) y42 y43 y44 y45 y46 y47 y48 y49 y50 y51 kr k4))))) False) (s_4_33 x1 x2 x3 (if IntKind.i64.wrap (x4 + IntKind.i64.wrap (x1.getD x5.toNat (env.d 48)).wait) < 10000000 then IntKind.i64.wrap (x4 + IntKind.i64.wrap (x1.getD x5.toNat (env.d 48)).wait) else 10000000) x5 x6 x7 x8 x9 x10 x11 x12 x13 x14 x15 kr fun y20 y21 y22 y23 y24 y25 y26 y27 y28 y29 y30 y31 y32 y33 y34 ↦ l_4_15 k y20 y21 y22 y23 (IntKind.i64.wrap (y24 + 1)) y25 y26 y27 y28 y29 y30 y31 y32 y33 y34 kr k4))) False) False) False) (k4 x2 x3 x6 x7 x8 x9 x10 x11 x12 x13 x14 x15)
def w_4_15 (k : Nat) (vs : List (SV env.T)) (K : Ex → List (SV env.T) → Prop) : Prop :=
  dCD 48 vs fun x1 vs => dCB vs fun x2 vs => dCB vs fun x3 vs => dCI .i64 vs fun x4 vs => dCI .i64 vs fun x5 vs => dCI .i64 vs fun x6 vs => dCI .i64 vs fun x7 vs => dCI .i64 vs fun x8 vs => dCI .i64 vs fun x9 vs => dCI .i64 vs fun x10 vs => dCD 43 vs fun x11 vs => dCA .i64 8 vs fun x12 vs => dCI .u64 vs fun x13 vs => dCD 30 vs fun x14 vs => dCD 30 vs fun x15 vs => dCE vs (l_4_15 k x1 x2 x3 x4 x5 x6 x7 x8 x9 x10 x11 x12 x13 x14 x15 (fun y1 => K .ret [.bool y1]) (fun y1 y2 y3 y4 y5 y6 y7 y8 y9 y10 y11 y12 => K (.exit 4) [.bool y1, .bool y2, .int .i64 y3, .int .i64 y4, .int .i64 y5, .int .i64 y6, .int .i64 y7, .dat 43 y8, .arr .i64 8 y9, .int .u64 y10, .dat 30 y11, .dat 30 y12]))
def p_4_15 : Piece env := ⟨⟨[.any, .holeD 48, .ptr 0 0, .any, .hole, .hole, .any, .row 1, .row 2, .any, .any, .hole, .hole, .any, .any, .any, .any, .any, .any, .any, .any, .any, .any, .any, .any, .any, .any, .any, .any, .any, .any, .any, .any, .any, .any, .any, .any, .any, .any, .any, .any, .any, .any, .any, .any, .any, .any, .any, .any, .any, .any, .any, .any, .any, .any, .any, .any, .any, .any, .any, .any, .any, .any, .any, .any, .any, .any, .any, .any, .any, .any, .any, .any, .any, .any, .any, .any, .any, .any, .any, .any, .any, .any, .any, .any, .any, .any, .any, .any, .any, .any, .any, .any, .any, .any, .any, .any, .any, .any, .any, .any, .any, .any, .any, .any, .any, .any, .any, .any, .any, .any, .any, .any, .any, .any, .any, .any, .any, .any, .any, .any, .any, .any, .any, .any, .any, .any, .any, .any, .any, .any, .any, .any, .any, .any, .any, .any, .any, .any, .any, .any, .any, .any, .any, .any, .any, .any, .any, .any, .any, .any, .any, .any, .any, .any, .any, .any, .any, .any, .any, .any, .any, .any, .any, .any, .any, .any, .any, .any, .any, .any, .any, .any, .any, .any, .any, .any, .any, .any, .any, .any, .any, .any, .any, .any, .any, .any, .any, .any, .any, .any, .any, .any, .any, .any, .any, .any, .any, .any, .any, .any, .any, .any, .any, .any, .any, .any, .any, .any, .any, .any, .any, .any, .any, .any, .any, .any, .any, .any, .any, .any, .any, .any, .any, .any], [], [(0, .cells 28 [.hole, .hole, .hole, .hole, .hole, .holeD 43, .hole, .hole]), (1, .row 30), (2, .row 30)], 3⟩, exitF none [(4, ⟨[.any, .any, .ptr 0 0, .any, .hole, .hole, .any, .row 1, .row 2, .any, .any, .any, .any, .any, .any, .any, .any, .any, .any, .any, .any, .any, .any, .any, .any, .any, .any, .any, .any, .any, .any, .any, .any, .any, .any, .any, .any, .any, .any, .any, .any, .any, .any, .any, .any, .any, .any, .any, .any, .any, .any, .any, .any, .any, .any, .any, .any, .any, .any, .any, .any, .any, .any, .any, .any, .any, .any, .any, .any, .any, .any, .any, .any, .any, .any, .any, .any, .any, .any, .any, .any, .any, .any, .any, .any, .any, .any, .any, .any, .any, .any, .any, .any, .any, .any, .any, .any, .any, .any, .any, .any, .any, .any, .any, .any, .any, .any, .any, .any, .any, .any, .any, .any, .any, .any, .any, .any, .any, .any, .any, .any, .any, .any, .any, .any, .any, .any, .any, .any, .any, .any, .any, .any, .any, .any, .any, .any, .any, .any, .any, .any, .any, .any, .any, .any, .any, .any, .any, .any, .any, .any, .any, .any, .any, .any, .any, .any, .any, .any, .any, .any, .any, .any, .any, .any, .any, .any, .any, .any, .any, .any, .any, .any, .any, .any, .any, .any, .any, .any, .any, .any, .any, .any, .any, .any, .any, .any, .any, .any, .any, .any, .any, .any, .any, .any, .any, .any, .any, .any, .any, .any, .any, .any, .any, .any, .any, .any, .any, .any, .any, .any, .any, .any, .any, .any, .any, .any, .any, .any, .any, .any, .any, .any, .any, .any], [], [(0, .cells 28 [.hole, .hole, .hole, .hole, .hole, .holeD 43, .hole, .hole]), (1, .row 30), (2, .row 30)], 3⟩)] (some ⟨[.any, .any, .any, .any, .hole, .any, .any, .any, .any, .any, .any, .any, .any, .any, .any, .any, .any, .any, .any, .any, .any, .any, .any, .any, .any, .any, .any, .any, .any, .any, .any, .any, .any, .any, .any, .any, .any, .any, .any, .any, .any, .any, .any, .any, .any, .any, .any, .any, .any, .any, .any, .any, .any, .any, .any, .any, .any, .any, .any, .any, .any, .any, .any, .any, .any, .any, .any, .any, .any, .any, .any, .any, .any, .any, .any, .any, .any, .any, .any, .any, .any, .any, .any, .any, .any, .any, .any, .any, .any, .any, .any, .any, .any, .any, .any, .any, .any, .any, .any, .any, .any, .any, .any, .any, .any, .any, .any, .any, .any, .any, .any, .any, .any, .any, .any, .any, .any, .any, .any, .any, .any, .any, .any, .any, .any, .any, .any, .any, .any, .any, .any, .any, .any, .any, .any, .any, .any, .any, .any, .any, .any, .any, .any, .any, .any, .any, .any, .any, .any, .any, .any, .any, .any, .any, .any, .any, .any, .any, .any, .any, .any, .any, .any, .any, .any, .any, .any, .any, .any, .any, .any, .any, .any, .any, .any, .any, .any, .any, .any, .any, .any, .any, .any, .any, .any, .any, .any, .any, .any, .any, .any, .any, .any, .any, .any, .any, .any, .any, .any, .any, .any, .any, .any, .any, .any, .any, .any, .any, .any, .any, .any, .any, .any, .any, .any, .any, .any, .any, .any, .any, .any, .any, .any, .any, .any], [], [], 0⟩), fun vs K => ∃ k, w_4_15 k vs K⟩
def l_4_41 : Nat → Bool → Bool → Int → Int → Int → Int → Int → Int → Int → (List (List Queued)) → (List Int) → Int → (List Packet) → (List Packet) → (List Packet) → (Bool → Bool → Int → Int → Int → Int → Int → Int → (List (List Queued)) → (List Int) → Int → (List Packet) → (List Packet) → (List Packet) → Prop) → Prop
  | 0 => fun _ _ _ _ _ _ _ _ _ _ _ _ _ _ _ _ => False
  | k + 1 => fun x1 x2 x3 x4 x5 x6 x7 x8 x9 x10 x11 x12 x13 x14 x15 k8 ↦ br (inb x3 (↑x10.length : Int)) (br (decide (x4 < (↑(List.length (x10.getD x3.toNat (env.d 43))) : Int))) (br (inb x3 (↑x10.length : Int)) (br (inb x4 (↑(List.length (x10.getD x3.toNat (env.d 43))) : Int)) (br (roomB (x15 ++ [Packet.mk (List.getD (x10.getD x3.toNat (env.d 43)) x4.toNat (env.d 45)).p.flow (List.getD (x10.getD x3.toNat (env.d 43)) x4.toNat (env.d 45)).p.sub (List.getD (x10.getD x3.toNat (env.d 43)) x4.toNat (env.d 45)).p.number (List.getD (x10.getD x3.toNat (env.d 43)) x4.toNat (env.d 45)).p.data (List.getD (x10.getD x3.toNat (env.d 43)) x4.toNat (env.d 45)).p.size (List.getD (x10.getD x3.toNat (env.d 43)) x4.toNat (env.d 45)).p.sent (List.getD (x10.getD x3.toNat (env.d 43)) x4.toNat (env.d 45)).p.able (List.getD (x10.getD x3.toNat (env.d 43)) x4.toNat (env.d 45)).p.marked]).length (bytesB env 30)) (l_4_41 k x1 x2 x3 (IntKind.i64.wrap (x4 + 1)) x5 x6 x7 x8 x9 x10 x11 x12 x13 x14 (x15 ++ [Packet.mk (List.getD (x10.getD x3.toNat (env.d 43)) x4.toNat (env.d 45)).p.flow (List.getD (x10.getD x3.toNat (env.d 43)) x4.toNat (env.d 45)).p.sub (List.getD (x10.getD x3.toNat (env.d 43)) x4.toNat (env.d 45)).p.number (List.getD (x10.getD x3.toNat (env.d 43)) x4.toNat (env.d 45)).p.data (List.getD (x10.getD x3.toNat (env.d 43)) x4.toNat (env.d 45)).p.size (List.getD (x10.getD x3.toNat (env.d 43)) x4.toNat (env.d 45)).p.sent (List.getD (x10.getD x3.toNat (env.d 43)) x4.toNat (env.d 45)).p.able (List.getD (x10.getD x3.toNat (env.d 43)) x4.toNat (env.d 45)).p.marked]) k8) False) False) False) (k8 x1 x2 x3 x5 x6 x7 x8 x9 x10 x11 x12 x13 x14 x15)) False
def w_4_41 (k : Nat) (vs : List (SV env.T)) (K : Ex → List (SV env.T) → Prop) : Prop :=
  dCB vs fun x1 vs => dCB vs fun x2 vs => dCI .i64 vs fun x3 vs => dCI .i64 vs fun x4 vs => dCI .i64 vs fun x5 vs => dCI .i64 vs fun x6 vs => dCI .i64 vs fun x7 vs => dCI .i64 vs fun x8 vs => dCI .i64 vs fun x9 vs => dCD 43 vs fun x10 vs => dCA .i64 8 vs fun x11 vs => dCI .u64 vs fun x12 vs => dCD 30 vs fun x13 vs => dCD 30 vs fun x14 vs => dCD 30 vs fun x15 vs => dCE vs (l_4_41 k x1 x2 x3 x4 x5 x6 x7 x8 x9 x10 x11 x12 x13 x14 x15 (fun y1 y2 y3 y4 y5 y6 y7 y8 y9 y10 y11 y12 y13 y14 => K (.exit 8) [.bool y1, .bool y2, .int .i64 y3, .int .i64 y4, .int .i64 y5, .int .i64 y6, .int .i64 y7, .int .i64 y8, .dat 43 y9, .arr .i64 8 y10, .int .u64 y11, .dat 30 y12, .dat 30 y13, .dat 30 y14]))
def p_4_41 : Piece env := ⟨⟨[.any, .any, .ptr 0 0, .any, .hole, .hole, .any, .row 1, .row 2, .any, .any, .any, .any, .any, .any, .any, .any, .any, .any, .any, .any, .any, .any, .hole, .row 3, .hole, .any, .any, .any, .any, .any, .any, .any, .any, .any, .any, .any, .any, .any, .any, .any, .any, .any, .any, .any, .any, .any, .any, .any, .any, .any, .any, .any, .any, .any, .any, .any, .any, .any, .any, .any, .any, .any, .any, .any, .any, .any, .any, .any, .any, .any, .any, .any, .any, .any, .any, .any, .any, .any, .any, .any, .any, .any, .any, .any, .any, .any, .any, .any, .any, .any, .any, .any, .any, .any, .any, .any, .any, .any, .any, .any, .any, .any, .any, .any, .any, .any, .any, .any, .any, .any, .any, .any, .any, .any, .any, .any, .any, .any, .any, .any, .any, .any, .any, .any, .any, .any, .any, .any, .any, .any, .any, .any, .any, .any, .any, .any, .any, .any, .any, .any, .any, .any, .any, .any, .any, .any, .any, .any, .any, .any, .any, .any, .any, .any, .any, .any, .any, .any, .any, .any, .any, .any, .any, .any, .any, .any, .any, .any, .any, .any, .any, .any, .any, .any, .any, .any, .any, .any, .any, .any, .any, .any, .any, .any, .any, .any, .any, .any, .any, .any, .any, .any, .any, .any, .any, .any, .any, .any, .any, .any, .any, .any, .any, .any, .any, .any, .any, .any, .any, .any, .any, .any, .any, .any, .any, .any, .any, .any, .any, .any, .any, .any, .any, .any], [], [(0, .cells 28 [.hole, .hole, .hole, .hole, .hole, .holeD 43, .hole, .hole]), (1, .row 30), (2, .row 30), (3, .row 30)], 4⟩, exitF none [(8, ⟨[.any, .any, .ptr 0 0, .any, .hole, .hole, .any, .row 1, .row 2, .any, .any, .any, .any, .any, .any, .any, .any, .any, .any, .any, .any, .any, .any, .hole, .row 3, .any, .any, .any, .any, .any, .any, .any, .any, .any, .any, .any, .any, .any, .any, .any, .any, .any, .any, .any, .any, .any, .any, .any, .any, .any, .any, .any, .any, .any, .any, .any, .any, .any, .any, .any, .any, .any, .any, .any, .any, .any, .any, .any, .any, .any, .any, .any, .any, .any, .any, .any, .any, .any, .any, .any, .any, .any, .any, .any, .any, .any, .any, .any, .any, .any, .any, .any, .any, .any, .any, .any, .any, .any, .any, .any, .any, .any, .any, .any, .any, .any, .any, .any, .any, .any, .any, .any, .any, .any, .any, .any, .any, .any, .any, .any, .any, .any, .any, .any, .any, .any, .any, .any, .any, .any, .any, .any, .any, .any, .any, .any, .any, .any, .any, .any, .any, .any, .any, .any, .any, .any, .any, .any, .any, .any, .any, .any, .any, .any, .any, .any, .any, .any, .any, .any, .any, .any, .any, .any, .any, .any, .any, .any, .any, .any, .any, .any, .any, .any, .any, .any, .any, .any, .any, .any, .any, .any, .any, .any, .any, .any, .any, .any, .any, .any, .any, .any, .any, .any, .any, .any, .any, .any, .any, .any, .any, .any, .any, .any, .any, .any, .any, .any, .any, .any, .any, .any, .any, .any, .any, .any, .any, .any, .any, .any, .any, .any, .any, .any, .any], [], [(0, .cells 28 [.hole, .hole, .hole, .hole, .hole, .holeD 43, .hole, .hole]), (1, .row 30), (2, .row 30), (3, .row 30)], 4⟩)] none, fun vs K => ∃ k, w_4_41 k vs K⟩
def l_4_37 : Nat → Bool → Bool → Int → Int → Int → Int → Int → Int → (List (List Queued)) → (List Int) → Int → (List Packet) → (List Packet) → (Bool → Bool → Prop) → Prop
  | 0 => fun _ _ _ _ _ _ _ _ _ _ _ _ _ _ => False
  | k + 1 => fun x1 x2 x3 x4 x5 x6 x7 x8 x9 x10 x11 x12 x13 k6 ↦ br (decide (x3 < 8)) (V28 x13 x3 fun y16 ↦ ∃ k17, l_4_41 k17 x1 x2 x3 0 x4 x5 x6 x7 x8 x9 x10 x11 x12 x13 y16 fun y18 y19 y20 y21 y22 y23 y24 y25 y26 y27 y28 y29 y30 y31 ↦ br y19 (V28 y29 y20 fun y32 ↦ V24 y32 y31 fun y33 ↦ l_4_37 k y18 y33 (IntKind.i64.wrap (y20 + 1)) y21 y22 y23 y24 y25 y26 y27 y28 y29 y30 k6) (l_4_37 k y18 false (IntKind.i64.wrap (y20 + 1)) y21 y22 y23 y24 y25 y26 y27 y28 y29 y30 k6)) (k6 x1 x2)
def w_4_37 (k : Nat) (vs : List (SV env.T)) (K : Ex → List (SV env.T) → Prop) : Prop :=
  dCB vs fun x1 vs => dCB vs fun x2 vs => dCI .i64 vs fun x3 vs => dCI .i64 vs fun x4 vs => dCI .i64 vs fun x5 vs => dCI .i64 vs fun x6 vs => dCI .i64 vs fun x7 vs => dCI .i64 vs fun x8 vs => dCD 43 vs fun x9 vs => dCA .i64 8 vs fun x10 vs => dCI .u64 vs fun x11 vs => dCD 30 vs fun x12 vs => dCD 30 vs fun x13 vs => dCE vs (l_4_37 k x1 x2 x3 x4 x5 x6 x7 x8 x9 x10 x11 x12 x13 (fun y1 y2 => K (.exit 6) [.bool y1, .bool y2]))
def p_4_37 : Piece env := ⟨⟨[.any, .any, .ptr 0 0, .any, .hole, .hole, .any, .row 1, .row 2, .any, .any, .any, .any, .any, .any, .any, .any, .any, .any, .any, .any, .any, .any, .hole, .any, .any, .any, .any, .any, .any, .any, .any, .any, .any, .any, .any, .any, .any, .any, .any, .any, .any, .any, .any, .any, .any, .any, .any, .any, .any, .any, .any, .any, .any, .any, .any, .any, .any, .any, .any, .any, .any, .any, .any, .any, .any, .any, .any, .any, .any, .any, .any, .any, .any, .any, .any, .any, .any, .any, .any, .any, .any, .any, .any, .any, .any, .any, .any, .any, .any, .any, .any, .any, .any, .any, .any, .any, .any, .any, .any, .any, .any, .any, .any, .any, .any, .any, .any, .any, .any, .any, .any, .any, .any, .any, .any, .any, .any, .any, .any, .any, .any, .any, .any, .any, .any, .any, .any, .any, .any, .any, .any, .any, .any, .any, .any, .any, .any, .any, .any, .any, .any, .any, .any, .any, .any, .any, .any, .any, .any, .any, .any, .any, .any, .any, .any, .any, .any, .any, .any, .any, .any, .any, .any, .any, .any, .any, .any, .any, .any, .any, .any, .any, .any, .any, .any, .any, .any, .any, .any, .any, .any, .any, .any, .any, .any, .any, .any, .any, .any, .any, .any, .any, .any, .any, .any, .any, .any, .any, .any, .any, .any, .any, .any, .any, .any, .any, .any, .any, .any, .any, .any, .any, .any, .any, .any, .any, .any, .any, .any, .any, .any, .any, .any, .any], [], [(0, .cells 28 [.hole, .hole, .hole, .hole, .hole, .holeD 43, .hole, .hole]), (1, .row 30), (2, .row 30)], 3⟩, exitF none [(6, ⟨[.any, .any, .any, .any, .hole, .hole, .any, .any, .any, .any, .any, .any, .any, .any, .any, .any, .any, .any, .any, .any, .any, .any, .any, .any, .any, .any, .any, .any, .any, .any, .any, .any, .any, .any, .any, .any, .any, .any, .any, .any, .any, .any, .any, .any, .any, .any, .any, .any, .any, .any, .any, .any, .any, .any, .any, .any, .any, .any, .any, .any, .any, .any, .any, .any, .any, .any, .any, .any, .any, .any, .any, .any, .any, .any, .any, .any, .any, .any, .any, .any, .any, .any, .any, .any, .any, .any, .any, .any, .any, .any, .any, .any, .any, .any, .any, .any, .any, .any, .any, .any, .any, .any, .any, .any, .any, .any, .any, .any, .any, .any, .any, .any, .any, .any, .any, .any, .any, .any, .any, .any, .any, .any, .any, .any, .any, .any, .any, .any, .any, .any, .any, .any, .any, .any, .any, .any, .any, .any, .any, .any, .any, .any, .any, .any, .any, .any, .any, .any, .any, .any, .any, .any, .any, .any, .any, .any, .any, .any, .any, .any, .any, .any, .any, .any, .any, .any, .any, .any, .any, .any, .any, .any, .any, .any, .any, .any, .any, .any, .any, .any, .any, .any, .any, .any, .any, .any, .any, .any, .any, .any, .any, .any, .any, .any, .any, .any, .any, .any, .any, .any, .any, .any, .any, .any, .any, .any, .any, .any, .any, .any, .any, .any, .any, .any, .any, .any, .any, .any, .any, .any, .any, .any, .any, .any, .any], [], [], 0⟩)] none, fun vs K => ∃ k, w_4_37 k vs K⟩
def s_4_5 : (List Step) → Bool → Bool → Int → Int → Int → Int → Int → (List (List Queued)) → (List Int) → Int → (Bool → Prop) → Prop :=
  fun x1 x2 x3 x4 x5 x6 x7 x8 x9 x10 x11 kr ↦ ∃ k14, l_4_7 k14 x1 x2 x3 0 x4 x5 x6 x7 x8 x9 x10 x11 [] fun y15 y16 y17 y18 y19 y20 y21 y22 y23 y24 y25 y26 ↦ ∃ k27, l_4_15 k27 y15 y16 y17 (y24.getD 7 0) 0 y18 y19 y20 y21 y22 y23 y24 y25 y26 [] kr fun y28 y29 y30 y31 y32 y33 y34 y35 y36 y37 y38 y39 ↦ ∃ k40, l_4_37 k40 y28 y29 0 y30 y31 y32 y33 y34 y35 y36 y37 y38 y39 fun _ ↦ kr
def v_4_5 (vs : List (SV env.T)) (K : Ex → List (SV env.T) → Prop) : Prop :=
  dCD 48 vs fun x1 vs => dCB vs fun x2 vs => dCB vs fun x3 vs => dCI .i64 vs fun x4 vs => dCI .i64 vs fun x5 vs => dCI .i64 vs fun x6 vs => dCI .i64 vs fun x7 vs => dCI .i64 vs fun x8 vs => dCD 43 vs fun x9 vs => dCA .i64 8 vs fun x10 vs => dCI .u64 vs fun x11 vs => dCE vs (s_4_5 x1 x2 x3 x4 x5 x6 x7 x8 x9 x10 x11 (fun y1 => K .ret [.bool y1]))
def q_4_5 : Piece env := ⟨⟨[.any, .holeD 48, .ptr 0 0, .any, .hole, .hole, .any, .any, .any, .any, .any, .any, .any, .any, .any, .any, .any, .any, .any, .any, .any, .any, .any, .any, .any, .any, .any, .any, .any, .any, .any, .any, .any, .any, .any, .any, .any, .any, .any, .any, .any, .any, .any, .any, .any, .any, .any, .any, .any, .any, .any, .any, .any, .any, .any, .any, .any, .any, .any, .any, .any, .any, .any, .any, .any, .any, .any, .any, .any, .any, .any, .any, .any, .any, .any, .any, .any, .any, .any, .any, .any, .any, .any, .any, .any, .any, .any, .any, .any, .any, .any, .any, .any, .any, .any, .any, .any, .any, .any, .any, .any, .any, .any, .any, .any, .any, .any, .any, .any, .any, .any, .any, .any, .any, .any, .any, .any, .any, .any, .any, .any, .any, .any, .any, .any, .any, .any, .any, .any, .any, .any, .any, .any, .any, .any, .any, .any, .any, .any, .any, .any, .any, .any, .any, .any, .any, .any, .any, .any, .any, .any, .any, .any, .any, .any, .any, .any, .any, .any, .any, .any, .any, .any, .any, .any, .any, .any, .any, .any, .any, .any, .any, .any, .any, .any, .any, .any, .any, .any, .any, .any, .any, .any, .any, .any, .any, .any, .any, .any, .any, .any, .any, .any, .any, .any, .any, .any, .any, .any, .any, .any, .any, .any, .any, .any, .any, .any, .any, .any, .any, .any, .any, .any, .any, .any, .any, .any, .any, .any, .any, .any, .any, .any, .any, .any], [], [(0, .cells 28 [.hole, .hole, .hole, .hole, .hole, .holeD 43, .hole, .hole])], 1⟩, exitF none [] (some ⟨[.any, .any, .any, .any, .hole, .any, .any, .any, .any, .any, .any, .any, .any, .any, .any, .any, .any, .any, .any, .any, .any, .any, .any, .any, .any, .any, .any, .any, .any, .any, .any, .any, .any, .any, .any, .any, .any, .any, .any, .any, .any, .any, .any, .any, .any, .any, .any, .any, .any, .any, .any, .any, .any, .any, .any, .any, .any, .any, .any, .any, .any, .any, .any, .any, .any, .any, .any, .any, .any, .any, .any, .any, .any, .any, .any, .any, .any, .any, .any, .any, .any, .any, .any, .any, .any, .any, .any, .any, .any, .any, .any, .any, .any, .any, .any, .any, .any, .any, .any, .any, .any, .any, .any, .any, .any, .any, .any, .any, .any, .any, .any, .any, .any, .any, .any, .any, .any, .any, .any, .any, .any, .any, .any, .any, .any, .any, .any, .any, .any, .any, .any, .any, .any, .any, .any, .any, .any, .any, .any, .any, .any, .any, .any, .any, .any, .any, .any, .any, .any, .any, .any, .any, .any, .any, .any, .any, .any, .any, .any, .any, .any, .any, .any, .any, .any, .any, .any, .any, .any, .any, .any, .any, .any, .any, .any, .any, .any, .any, .any, .any, .any, .any, .any, .any, .any, .any, .any, .any, .any, .any, .any, .any, .any, .any, .any, .any, .any, .any, .any, .any, .any, .any, .any, .any, .any, .any, .any, .any, .any, .any, .any, .any, .any, .any, .any, .any, .any, .any, .any, .any, .any, .any, .any, .any, .any], [], [], 0⟩), v_4_5⟩
noncomputable def B4 : Queue → (List Step) → (Y4 → Prop) → Prop :=
  fun x0 x1 K ↦ V15 fun y3 ↦ V25 x0 fun y4 ↦ br (!y4) (K y3) (br (decide ((↑x1.length : Int) > 200)) (K y3) (s_4_5 x1 false y3 x0.policy.kind x0.policy.a x0.policy.b x0.policy.c x0.room x0.lists x0.vars x0.seed K))
theorem V4_ex : ∃ V : Queue → (List Step) → (Y4 → Prop) → Prop, V = B4 := ⟨_, rfl⟩
noncomputable def V4 : Queue → (List Step) → (Y4 → Prop) → Prop := Classical.choose V4_ex
theorem V4_eq : V4 = B4 := Classical.choose_spec V4_ex
theorem pook_4_10_4 : PiecesOk Try.prog env (ctxG env false [] R8 [] []) 4 b4 :=
  pieces_at (L := []) (S := []) (fun _ => rfl) (fun _ => rfl) (by kernel_rfl) (by kernel_rfl) (fun _ hq => by cases hq) (fun _ hq => by cases hq)
theorem book_4_10 : BodiesOk Try.prog env (ctxG env false [] R8 [] []) := bodies_okG (ks := []) (by kernel_rfl) (fun _ hq => by cases hq)
theorem stok_4_10 (k : Nat) (x1 : (List Step)) (x2 : Bool) (x3 : Bool) (x4 : Int) (x5 : Int) (x6 : Int) (x7 : Int) (x8 : Int) (x9 : Int) (x10 : Int) (x11 : (List (List Queued))) (x12 : (List Int)) (x13 : Int) (x14 : (List Packet)) (K : Ex → List (SV env.T) → Prop) : l_4_10 (k + 1) x1 x2 x3 x4 x5 x6 x7 x8 x9 x10 x11 x12 x13 x14 (fun y1 y2 y3 y4 y5 y6 y7 y8 y9 y10 y11 y12 y13 => K (.exit 2) [.dat 48 y1, .bool y2, .bool y3, .nils, .int .i64 y4, .int .i64 y5, .int .i64 y6, .int .i64 y7, .int .i64 y8, .int .i64 y9, .dat 43 y10, .arr .i64 8 y11, .int .u64 y12, .dat 30 y13]) = vcCode env (ctxG env false [] R8 [] []) 2000 4 (loopAt b4 10) (insSt p_4_10.head [.dat 48 x1, .bool x2, .bool x3, .nils, .int .i64 x4, .int .i64 x5, .int .i64 x6, .int .i64 x7, .int .i64 x8, .int .i64 x9, .int .i64 x10, .dat 43 x11, .arr .i64 8 x12, .int .u64 x13, .dat 30 x14]) (stepK p_4_10 (w_4_10 k) K) := by kernel_rfl
theorem wiok_4_10 (k : Nat) (vs : List (SV env.T)) (K : Ex → List (SV env.T) → Prop) (h : w_4_10 k vs K) : ∃ x1 : (List Step), ∃ x2 : Bool, ∃ x3 : Bool, ∃ x4 : Int, ∃ x5 : Int, ∃ x6 : Int, ∃ x7 : Int, ∃ x8 : Int, ∃ x9 : Int, ∃ x10 : Int, ∃ x11 : (List (List Queued)), ∃ x12 : (List Int), ∃ x13 : Int, ∃ x14 : (List Packet), vs = [.dat 48 x1, .bool x2, .bool x3, .nils, .int .i64 x4, .int .i64 x5, .int .i64 x6, .int .i64 x7, .int .i64 x8, .int .i64 x9, .int .i64 x10, .dat 43 x11, .arr .i64 8 x12, .int .u64 x13, .dat 30 x14] ∧ l_4_10 k x1 x2 x3 x4 x5 x6 x7 x8 x9 x10 x11 x12 x13 x14 (fun y1 y2 y3 y4 y5 y6 y7 y8 y9 y10 y11 y12 y13 => K (.exit 2) [.dat 48 y1, .bool y2, .bool y3, .nils, .int .i64 y4, .int .i64 y5, .int .i64 y6, .int .i64 y7, .int .i64 y8, .int .i64 y9, .dat 43 y10, .arr .i64 8 y11, .int .u64 y12, .dat 30 y13]) := by
  unfold w_4_10 at h
  replace h := dCD_spec h
  obtain ⟨x1, vs0, e0, h⟩ := h
  replace h := dCB_spec h
  obtain ⟨x2, vs1, e1, h⟩ := h
  replace h := dCB_spec h
  obtain ⟨x3, vs2, e2, h⟩ := h
  replace h := dCN_spec h
  obtain ⟨vs3, e3, h⟩ := h
  replace h := dCI_spec h
  obtain ⟨x4, vs4, e4, h⟩ := h
  replace h := dCI_spec h
  obtain ⟨x5, vs5, e5, h⟩ := h
  replace h := dCI_spec h
  obtain ⟨x6, vs6, e6, h⟩ := h
  replace h := dCI_spec h
  obtain ⟨x7, vs7, e7, h⟩ := h
  replace h := dCI_spec h
  obtain ⟨x8, vs8, e8, h⟩ := h
  replace h := dCI_spec h
  obtain ⟨x9, vs9, e9, h⟩ := h
  replace h := dCI_spec h
  obtain ⟨x10, vs10, e10, h⟩ := h
  replace h := dCD_spec h
  obtain ⟨x11, vs11, e11, h⟩ := h
  replace h := dCA_spec h
  obtain ⟨x12, vs12, e12, h⟩ := h
  replace h := dCI_spec h
  obtain ⟨x13, vs13, e13, h⟩ := h
  replace h := dCD_spec h
  obtain ⟨x14, vs14, e14, h⟩ := h
  replace h := dCE_spec h
  obtain ⟨e, h⟩ := h
  exact ⟨x1, x2, x3, x4, x5, x6, x7, x8, x9, x10, x11, x12, x13, x14, by rw [e0, e1, e2, e3, e4, e5, e6, e7, e8, e9, e10, e11, e12, e13, e14, e], h⟩
theorem zeok_4_10 (x1 : (List Step)) (x2 : Bool) (x3 : Bool) (x4 : Int) (x5 : Int) (x6 : Int) (x7 : Int) (x8 : Int) (x9 : Int) (x10 : Int) (x11 : (List (List Queued))) (x12 : (List Int)) (x13 : Int) (x14 : (List Packet)) (K : Ex → List (SV env.T) → Prop) : l_4_10 0 x1 x2 x3 x4 x5 x6 x7 x8 x9 x10 x11 x12 x13 x14 (fun y1 y2 y3 y4 y5 y6 y7 y8 y9 y10 y11 y12 y13 => K (.exit 2) [.dat 48 y1, .bool y2, .bool y3, .nils, .int .i64 y4, .int .i64 y5, .int .i64 y6, .int .i64 y7, .int .i64 y8, .int .i64 y9, .dat 43 y10, .arr .i64 8 y11, .int .u64 y12, .dat 30 y13]) = False := by kernel_rfl
theorem ok_4_10 : PieceOk Try.prog env p_4_10 (.loop (loopAt b4 10)) := by
  refine loop_step (Wn := w_4_10) tab (ctxG_ok R8_ok false [] _ _) book_4_10 (pieces_sub pook_4_10_4 (by kernel_rfl)) rfl ?_ 2000 ?_
  · intro vs K h
    obtain ⟨x1, x2, x3, x4, x5, x6, x7, x8, x9, x10, x11, x12, x13, x14, _, h⟩ := wiok_4_10 0 vs K h
    exact Eq.mp (zeok_4_10 x1 x2 x3 x4 x5 x6 x7 x8 x9 x10 x11 x12 x13 x14 K) h
  · intro k vs K h
    obtain ⟨x1, x2, x3, x4, x5, x6, x7, x8, x9, x10, x11, x12, x13, x14, rfl, h⟩ := wiok_4_10 (k + 1) vs K h
    exact Eq.mp (stok_4_10 k x1 x2 x3 x4 x5 x6 x7 x8 x9 x10 x11 x12 x13 x14 K) h
theorem pook_4_7_4 : PiecesOk Try.prog env (ctxG env false [] R8 [(4, [(10, p_4_10)])] []) 4 b4 :=
  pieces_at (L := [(10, p_4_10)]) (S := []) (fun _ => rfl) (fun _ => rfl) (by kernel_rfl) (by kernel_rfl) (List.forall_mem_cons.2 ⟨fun _ => ok_4_10, (fun _ hq => by cases hq)⟩) (fun _ hq => by cases hq)
theorem book_4_7 : BodiesOk Try.prog env (ctxG env false [] R8 [(4, [(10, p_4_10)])] []) := bodies_okG (ks := [4]) (by kernel_rfl) (List.forall_mem_cons.2 ⟨body_at (fn := f4) (body := b4) rfl hb4 pook_4_7_4, (fun _ hq => by cases hq)⟩)
theorem stok_4_7 (k : Nat) (x1 : (List Step)) (x2 : Bool) (x3 : Bool) (x4 : Int) (x5 : Int) (x6 : Int) (x7 : Int) (x8 : Int) (x9 : Int) (x10 : (List (List Queued))) (x11 : (List Int)) (x12 : Int) (x13 : (List Packet)) (K : Ex → List (SV env.T) → Prop) : l_4_7 (k + 1) x1 x2 x3 x4 x5 x6 x7 x8 x9 x10 x11 x12 x13 (fun y1 y2 y3 y4 y5 y6 y7 y8 y9 y10 y11 y12 => K (.exit 0) [.dat 48 y1, .bool y2, .bool y3, .nils, .int .i64 y4, .int .i64 y5, .int .i64 y6, .int .i64 y7, .int .i64 y8, .dat 43 y9, .arr .i64 8 y10, .int .u64 y11, .dat 30 y12]) = vcCode env (ctxG env false [] R8 [(4, [(10, p_4_10)])] []) 2000 4 (loopAt b4 7) (insSt p_4_7.head [.dat 48 x1, .bool x2, .bool x3, .nils, .int .i64 x4, .int .i64 x5, .int .i64 x6, .int .i64 x7, .int .i64 x8, .int .i64 x9, .dat 43 x10, .arr .i64 8 x11, .int .u64 x12, .dat 30 x13]) (stepK p_4_7 (w_4_7 k) K) := by kernel_rfl
theorem wiok_4_7 (k : Nat) (vs : List (SV env.T)) (K : Ex → List (SV env.T) → Prop) (h : w_4_7 k vs K) : ∃ x1 : (List Step), ∃ x2 : Bool, ∃ x3 : Bool, ∃ x4 : Int, ∃ x5 : Int, ∃ x6 : Int, ∃ x7 : Int, ∃ x8 : Int, ∃ x9 : Int, ∃ x10 : (List (List Queued)), ∃ x11 : (List Int), ∃ x12 : Int, ∃ x13 : (List Packet), vs = [.dat 48 x1, .bool x2, .bool x3, .nils, .int .i64 x4, .int .i64 x5, .int .i64 x6, .int .i64 x7, .int .i64 x8, .int .i64 x9, .dat 43 x10, .arr .i64 8 x11, .int .u64 x12, .dat 30 x13] ∧ l_4_7 k x1 x2 x3 x4 x5 x6 x7 x8 x9 x10 x11 x12 x13 (fun y1 y2 y3 y4 y5 y6 y7 y8 y9 y10 y11 y12 => K (.exit 0) [.dat 48 y1, .bool y2, .bool y3, .nils, .int .i64 y4, .int .i64 y5, .int .i64 y6, .int .i64 y7, .int .i64 y8, .dat 43 y9, .arr .i64 8 y10, .int .u64 y11, .dat 30 y12]) := by
  unfold w_4_7 at h
  replace h := dCD_spec h
  obtain ⟨x1, vs0, e0, h⟩ := h
  replace h := dCB_spec h
  obtain ⟨x2, vs1, e1, h⟩ := h
  replace h := dCB_spec h
  obtain ⟨x3, vs2, e2, h⟩ := h
  replace h := dCN_spec h
  obtain ⟨vs3, e3, h⟩ := h
  replace h := dCI_spec h
  obtain ⟨x4, vs4, e4, h⟩ := h
  replace h := dCI_spec h
  obtain ⟨x5, vs5, e5, h⟩ := h
  replace h := dCI_spec h
  obtain ⟨x6, vs6, e6, h⟩ := h
  replace h := dCI_spec h
  obtain ⟨x7, vs7, e7, h⟩ := h
  replace h := dCI_spec h
  obtain ⟨x8, vs8, e8, h⟩ := h
  replace h := dCI_spec h
  obtain ⟨x9, vs9, e9, h⟩ := h
  replace h := dCD_spec h
  obtain ⟨x10, vs10, e10, h⟩ := h
  replace h := dCA_spec h
  obtain ⟨x11, vs11, e11, h⟩ := h
  replace h := dCI_spec h
  obtain ⟨x12, vs12, e12, h⟩ := h
  replace h := dCD_spec h
  obtain ⟨x13, vs13, e13, h⟩ := h
  replace h := dCE_spec h
  obtain ⟨e, h⟩ := h
  exact ⟨x1, x2, x3, x4, x5, x6, x7, x8, x9, x10, x11, x12, x13, by rw [e0, e1, e2, e3, e4, e5, e6, e7, e8, e9, e10, e11, e12, e13, e], h⟩
theorem zeok_4_7 (x1 : (List Step)) (x2 : Bool) (x3 : Bool) (x4 : Int) (x5 : Int) (x6 : Int) (x7 : Int) (x8 : Int) (x9 : Int) (x10 : (List (List Queued))) (x11 : (List Int)) (x12 : Int) (x13 : (List Packet)) (K : Ex → List (SV env.T) → Prop) : l_4_7 0 x1 x2 x3 x4 x5 x6 x7 x8 x9 x10 x11 x12 x13 (fun y1 y2 y3 y4 y5 y6 y7 y8 y9 y10 y11 y12 => K (.exit 0) [.dat 48 y1, .bool y2, .bool y3, .nils, .int .i64 y4, .int .i64 y5, .int .i64 y6, .int .i64 y7, .int .i64 y8, .dat 43 y9, .arr .i64 8 y10, .int .u64 y11, .dat 30 y12]) = False := by kernel_rfl
theorem ok_4_7 : PieceOk Try.prog env p_4_7 (.loop (loopAt b4 7)) := by
  refine loop_step (Wn := w_4_7) tab (ctxG_ok R8_ok false [] _ _) book_4_7 (pieces_sub pook_4_7_4 (by kernel_rfl)) rfl ?_ 2000 ?_
  · intro vs K h
    obtain ⟨x1, x2, x3, x4, x5, x6, x7, x8, x9, x10, x11, x12, x13, _, h⟩ := wiok_4_7 0 vs K h
    exact Eq.mp (zeok_4_7 x1 x2 x3 x4 x5 x6 x7 x8 x9 x10 x11 x12 x13 K) h
  · intro k vs K h
    obtain ⟨x1, x2, x3, x4, x5, x6, x7, x8, x9, x10, x11, x12, x13, rfl, h⟩ := wiok_4_7 (k + 1) vs K h
    exact Eq.mp (stok_4_7 k x1 x2 x3 x4 x5 x6 x7 x8 x9 x10 x11 x12 x13 K) h
theorem pooq_4_23_4 : PiecesOk Try.prog env (ctxG env false [] R8 [] []) 4 b4 :=
  pieces_at (L := []) (S := []) (fun _ => rfl) (fun _ => rfl) (by kernel_rfl) (by kernel_rfl) (fun _ hq => by cases hq) (fun _ hq => by cases hq)
theorem booq_4_23 : BodiesOk Try.prog env (ctxG env false [] R8 [] []) := bodies_okG (ks := []) (by kernel_rfl) (fun _ hq => by cases hq)
theorem stoq_4_23 (x1 : (List Step)) (x2 : Bool) (x3 : Bool) (x4 : Int) (x5 : Int) (x6 : Bool) (x7 : Int) (x8 : Int) (x9 : Int) (x10 : Int) (x11 : Int) (x12 : (List (List Queued))) (x13 : (List Int)) (x14 : Int) (x15 : (List Packet)) (x16 : (List Packet)) (x17 : Int) (x18 : Int) (x19 : Int) (x20 : Int) (x21 : Int) (x22 : (List (List Queued))) (x23 : (List Int)) (x24 : Int) (x25 : Int) (x26 : Int) (x27 : Int) (x28 : Int) (x29 : Int) (x30 : Int) (x31 : Bool) (x32 : Bool) (K : Ex → List (SV env.T) → Prop) : s_4_23  x1 x2 x3 x4 x5 x6 x7 x8 x9 x10 x11 x12 x13 x14 x15 x16 x17 x18 x19 x20 x21 x22 x23 x24 x25 x26 x27 x28 x29 x30 x31 x32 (fun y1 y2 y3 y4 y5 y6 y7 y8 y9 y10 y11 y12 y13 y14 y15 => K .normal [.dat 48 y1, .bool y2, .bool y3, .int .i64 y4, .int .i64 y5, .int .i64 y6, .int .i64 y7, .int .i64 y8, .int .i64 y9, .int .i64 y10, .dat 43 y11, .arr .i64 8 y12, .int .u64 y13, .dat 30 y14, .dat 30 y15]) = vcCode env (ctxG env false [] R8 [] []) 2000 4 (seqAt b4 23) (insSt q_4_23.head [.dat 48 x1, .bool x2, .bool x3, .int .i64 x4, .int .i64 x5, .bool x6, .int .i64 x7, .int .i64 x8, .int .i64 x9, .int .i64 x10, .int .i64 x11, .dat 43 x12, .arr .i64 8 x13, .int .u64 x14, .dat 30 x15, .dat 30 x16, .int .i64 x17, .int .i64 x18, .int .i64 x19, .int .i64 x20, .int .i64 x21, .dat 43 x22, .arr .i64 8 x23, .int .u64 x24, .int .i64 x25, .int .i64 x26, .int .i64 x27, .int .i64 x28, .int .i64 x29, .int .i64 x30, .bool x31, .bool x32]) (outP env q_4_23 K) := by kernel_rfl
theorem wioq_4_23 (vs : List (SV env.T)) (K : Ex → List (SV env.T) → Prop) (h : v_4_23 vs K) : ∃ x1 : (List Step), ∃ x2 : Bool, ∃ x3 : Bool, ∃ x4 : Int, ∃ x5 : Int, ∃ x6 : Bool, ∃ x7 : Int, ∃ x8 : Int, ∃ x9 : Int, ∃ x10 : Int, ∃ x11 : Int, ∃ x12 : (List (List Queued)), ∃ x13 : (List Int), ∃ x14 : Int, ∃ x15 : (List Packet), ∃ x16 : (List Packet), ∃ x17 : Int, ∃ x18 : Int, ∃ x19 : Int, ∃ x20 : Int, ∃ x21 : Int, ∃ x22 : (List (List Queued)), ∃ x23 : (List Int), ∃ x24 : Int, ∃ x25 : Int, ∃ x26 : Int, ∃ x27 : Int, ∃ x28 : Int, ∃ x29 : Int, ∃ x30 : Int, ∃ x31 : Bool, ∃ x32 : Bool, vs = [.dat 48 x1, .bool x2, .bool x3, .int .i64 x4, .int .i64 x5, .bool x6, .int .i64 x7, .int .i64 x8, .int .i64 x9, .int .i64 x10, .int .i64 x11, .dat 43 x12, .arr .i64 8 x13, .int .u64 x14, .dat 30 x15, .dat 30 x16, .int .i64 x17, .int .i64 x18, .int .i64 x19, .int .i64 x20, .int .i64 x21, .dat 43 x22, .arr .i64 8 x23, .int .u64 x24, .int .i64 x25, .int .i64 x26, .int .i64 x27, .int .i64 x28, .int .i64 x29, .int .i64 x30, .bool x31, .bool x32] ∧ s_4_23  x1 x2 x3 x4 x5 x6 x7 x8 x9 x10 x11 x12 x13 x14 x15 x16 x17 x18 x19 x20 x21 x22 x23 x24 x25 x26 x27 x28 x29 x30 x31 x32 (fun y1 y2 y3 y4 y5 y6 y7 y8 y9 y10 y11 y12 y13 y14 y15 => K .normal [.dat 48 y1, .bool y2, .bool y3, .int .i64 y4, .int .i64 y5, .int .i64 y6, .int .i64 y7, .int .i64 y8, .int .i64 y9, .int .i64 y10, .dat 43 y11, .arr .i64 8 y12, .int .u64 y13, .dat 30 y14, .dat 30 y15]) := by
  unfold v_4_23 at h
  replace h := dCD_spec h
  obtain ⟨x1, vs0, e0, h⟩ := h
  replace h := dCB_spec h
  obtain ⟨x2, vs1, e1, h⟩ := h
  replace h := dCB_spec h
  obtain ⟨x3, vs2, e2, h⟩ := h
  replace h := dCI_spec h
  obtain ⟨x4, vs3, e3, h⟩ := h
  replace h := dCI_spec h
  obtain ⟨x5, vs4, e4, h⟩ := h
  replace h := dCB_spec h
  obtain ⟨x6, vs5, e5, h⟩ := h
  replace h := dCI_spec h
  obtain ⟨x7, vs6, e6, h⟩ := h
  replace h := dCI_spec h
  obtain ⟨x8, vs7, e7, h⟩ := h
  replace h := dCI_spec h
  obtain ⟨x9, vs8, e8, h⟩ := h
  replace h := dCI_spec h
  obtain ⟨x10, vs9, e9, h⟩ := h
  replace h := dCI_spec h
  obtain ⟨x11, vs10, e10, h⟩ := h
  replace h := dCD_spec h
  obtain ⟨x12, vs11, e11, h⟩ := h
  replace h := dCA_spec h
  obtain ⟨x13, vs12, e12, h⟩ := h
  replace h := dCI_spec h
  obtain ⟨x14, vs13, e13, h⟩ := h
  replace h := dCD_spec h
  obtain ⟨x15, vs14, e14, h⟩ := h
  replace h := dCD_spec h
  obtain ⟨x16, vs15, e15, h⟩ := h
  replace h := dCI_spec h
  obtain ⟨x17, vs16, e16, h⟩ := h
  replace h := dCI_spec h
  obtain ⟨x18, vs17, e17, h⟩ := h
  replace h := dCI_spec h
  obtain ⟨x19, vs18, e18, h⟩ := h
  replace h := dCI_spec h
  obtain ⟨x20, vs19, e19, h⟩ := h
  replace h := dCI_spec h
  obtain ⟨x21, vs20, e20, h⟩ := h
  replace h := dCD_spec h
  obtain ⟨x22, vs21, e21, h⟩ := h
  replace h := dCA_spec h
  obtain ⟨x23, vs22, e22, h⟩ := h
  replace h := dCI_spec h
  obtain ⟨x24, vs23, e23, h⟩ := h
  replace h := dCI_spec h
  obtain ⟨x25, vs24, e24, h⟩ := h
  replace h := dCI_spec h
  obtain ⟨x26, vs25, e25, h⟩ := h
  replace h := dCI_spec h
  obtain ⟨x27, vs26, e26, h⟩ := h
  replace h := dCI_spec h
  obtain ⟨x28, vs27, e27, h⟩ := h
  replace h := dCI_spec h
  obtain ⟨x29, vs28, e28, h⟩ := h
  replace h := dCI_spec h
  obtain ⟨x30, vs29, e29, h⟩ := h
  replace h := dCB_spec h
  obtain ⟨x31, vs30, e30, h⟩ := h
  replace h := dCB_spec h
  obtain ⟨x32, vs31, e31, h⟩ := h
  replace h := dCE_spec h
  obtain ⟨e, h⟩ := h
  exact ⟨x1, x2, x3, x4, x5, x6, x7, x8, x9, x10, x11, x12, x13, x14, x15, x16, x17, x18, x19, x20, x21, x22, x23, x24, x25, x26, x27, x28, x29, x30, x31, x32, by rw [e0, e1, e2, e3, e4, e5, e6, e7, e8, e9, e10, e11, e12, e13, e14, e15, e16, e17, e18, e19, e20, e21, e22, e23, e24, e25, e26, e27, e28, e29, e30, e31, e], h⟩
theorem oq_4_23 : PieceOk Try.prog env q_4_23 (seqAt b4 23) := by
  refine seq_step tab (ctxG_ok R8_ok false [] _ _) booq_4_23 (pieces_subS pooq_4_23_4 (by kernel_rfl)) 2000 ?_
  intro vs K h
  obtain ⟨x1, x2, x3, x4, x5, x6, x7, x8, x9, x10, x11, x12, x13, x14, x15, x16, x17, x18, x19, x20, x21, x22, x23, x24, x25, x26, x27, x28, x29, x30, x31, x32, rfl, h⟩ := wioq_4_23 vs K h
  exact Eq.mp (stoq_4_23 x1 x2 x3 x4 x5 x6 x7 x8 x9 x10 x11 x12 x13 x14 x15 x16 x17 x18 x19 x20 x21 x22 x23 x24 x25 x26 x27 x28 x29 x30 x31 x32 K) h
theorem pooq_4_30_4 : PiecesOk Try.prog env (ctxG env false [] R8 [] []) 4 b4 :=
  pieces_at (L := []) (S := []) (fun _ => rfl) (fun _ => rfl) (by kernel_rfl) (by kernel_rfl) (fun _ hq => by cases hq) (fun _ hq => by cases hq)
theorem booq_4_30 : BodiesOk Try.prog env (ctxG env false [] R8 [] []) := bodies_okG (ks := []) (by kernel_rfl) (fun _ hq => by cases hq)
theorem stoq_4_30 (x1 : (List Step)) (x2 : Bool) (x3 : Bool) (x4 : Int) (x5 : Int) (x6 : (List Packet)) (x7 : Int) (x8 : Int) (x9 : Int) (x10 : Int) (x11 : Int) (x12 : (List (List Queued))) (x13 : (List Int)) (x14 : Int) (x15 : (List Packet)) (x16 : (List Packet)) (x17 : Int) (x18 : Int) (x19 : Int) (x20 : Int) (x21 : Int) (x22 : (List (List Queued))) (x23 : (List Int)) (x24 : Int) (K : Ex → List (SV env.T) → Prop) : s_4_30  x1 x2 x3 x4 x5 x6 x7 x8 x9 x10 x11 x12 x13 x14 x15 x16 x17 x18 x19 x20 x21 x22 x23 x24 (fun y1 y2 y3 y4 y5 y6 y7 y8 y9 y10 y11 y12 y13 y14 y15 => K .normal [.dat 48 y1, .bool y2, .bool y3, .int .i64 y4, .int .i64 y5, .int .i64 y6, .int .i64 y7, .int .i64 y8, .int .i64 y9, .int .i64 y10, .dat 43 y11, .arr .i64 8 y12, .int .u64 y13, .dat 30 y14, .dat 30 y15]) = vcCode env (ctxG env false [] R8 [] []) 2000 4 (seqAt b4 30) (insSt q_4_30.head [.dat 48 x1, .bool x2, .bool x3, .int .i64 x4, .int .i64 x5, .dat 30 x6, .int .i64 x7, .int .i64 x8, .int .i64 x9, .int .i64 x10, .int .i64 x11, .dat 43 x12, .arr .i64 8 x13, .int .u64 x14, .dat 30 x15, .dat 30 x16, .int .i64 x17, .int .i64 x18, .int .i64 x19, .int .i64 x20, .int .i64 x21, .dat 43 x22, .arr .i64 8 x23, .int .u64 x24]) (outP env q_4_30 K) := by kernel_rfl
theorem wioq_4_30 (vs : List (SV env.T)) (K : Ex → List (SV env.T) → Prop) (h : v_4_30 vs K) : ∃ x1 : (List Step), ∃ x2 : Bool, ∃ x3 : Bool, ∃ x4 : Int, ∃ x5 : Int, ∃ x6 : (List Packet), ∃ x7 : Int, ∃ x8 : Int, ∃ x9 : Int, ∃ x10 : Int, ∃ x11 : Int, ∃ x12 : (List (List Queued)), ∃ x13 : (List Int), ∃ x14 : Int, ∃ x15 : (List Packet), ∃ x16 : (List Packet), ∃ x17 : Int, ∃ x18 : Int, ∃ x19 : Int, ∃ x20 : Int, ∃ x21 : Int, ∃ x22 : (List (List Queued)), ∃ x23 : (List Int), ∃ x24 : Int, vs = [.dat 48 x1, .bool x2, .bool x3, .int .i64 x4, .int .i64 x5, .dat 30 x6, .int .i64 x7, .int .i64 x8, .int .i64 x9, .int .i64 x10, .int .i64 x11, .dat 43 x12, .arr .i64 8 x13, .int .u64 x14, .dat 30 x15, .dat 30 x16, .int .i64 x17, .int .i64 x18, .int .i64 x19, .int .i64 x20, .int .i64 x21, .dat 43 x22, .arr .i64 8 x23, .int .u64 x24] ∧ s_4_30  x1 x2 x3 x4 x5 x6 x7 x8 x9 x10 x11 x12 x13 x14 x15 x16 x17 x18 x19 x20 x21 x22 x23 x24 (fun y1 y2 y3 y4 y5 y6 y7 y8 y9 y10 y11 y12 y13 y14 y15 => K .normal [.dat 48 y1, .bool y2, .bool y3, .int .i64 y4, .int .i64 y5, .int .i64 y6, .int .i64 y7, .int .i64 y8, .int .i64 y9, .int .i64 y10, .dat 43 y11, .arr .i64 8 y12, .int .u64 y13, .dat 30 y14, .dat 30 y15]) := by
  unfold v_4_30 at h
  replace h := dCD_spec h
  obtain ⟨x1, vs0, e0, h⟩ := h
  replace h := dCB_spec h
  obtain ⟨x2, vs1, e1, h⟩ := h
  replace h := dCB_spec h
  obtain ⟨x3, vs2, e2, h⟩ := h
  replace h := dCI_spec h
  obtain ⟨x4, vs3, e3, h⟩ := h
  replace h := dCI_spec h
  obtain ⟨x5, vs4, e4, h⟩ := h
  replace h := dCD_spec h
  obtain ⟨x6, vs5, e5, h⟩ := h
  replace h := dCI_spec h
  obtain ⟨x7, vs6, e6, h⟩ := h
  replace h := dCI_spec h
  obtain ⟨x8, vs7, e7, h⟩ := h
  replace h := dCI_spec h
  obtain ⟨x9, vs8, e8, h⟩ := h
  replace h := dCI_spec h
  obtain ⟨x10, vs9, e9, h⟩ := h
  replace h := dCI_spec h
  obtain ⟨x11, vs10, e10, h⟩ := h
  replace h := dCD_spec h
  obtain ⟨x12, vs11, e11, h⟩ := h
  replace h := dCA_spec h
  obtain ⟨x13, vs12, e12, h⟩ := h
  replace h := dCI_spec h
  obtain ⟨x14, vs13, e13, h⟩ := h
  replace h := dCD_spec h
  obtain ⟨x15, vs14, e14, h⟩ := h
  replace h := dCD_spec h
  obtain ⟨x16, vs15, e15, h⟩ := h
  replace h := dCI_spec h
  obtain ⟨x17, vs16, e16, h⟩ := h
  replace h := dCI_spec h
  obtain ⟨x18, vs17, e17, h⟩ := h
  replace h := dCI_spec h
  obtain ⟨x19, vs18, e18, h⟩ := h
  replace h := dCI_spec h
  obtain ⟨x20, vs19, e19, h⟩ := h
  replace h := dCI_spec h
  obtain ⟨x21, vs20, e20, h⟩ := h
  replace h := dCD_spec h
  obtain ⟨x22, vs21, e21, h⟩ := h
  replace h := dCA_spec h
  obtain ⟨x23, vs22, e22, h⟩ := h
  replace h := dCI_spec h
  obtain ⟨x24, vs23, e23, h⟩ := h
  replace h := dCE_spec h
  obtain ⟨e, h⟩ := h
  exact ⟨x1, x2, x3, x4, x5, x6, x7, x8, x9, x10, x11, x12, x13, x14, x15, x16, x17, x18, x19, x20, x21, x22, x23, x24, by rw [e0, e1, e2, e3, e4, e5, e6, e7, e8, e9, e10, e11, e12, e13, e14, e15, e16, e17, e18, e19, e20, e21, e22, e23, e], h⟩
theorem oq_4_30 : PieceOk Try.prog env q_4_30 (seqAt b4 30) := by
  refine seq_step tab (ctxG_ok R8_ok false [] _ _) booq_4_30 (pieces_subS pooq_4_30_4 (by kernel_rfl)) 2000 ?_
  intro vs K h
  obtain ⟨x1, x2, x3, x4, x5, x6, x7, x8, x9, x10, x11, x12, x13, x14, x15, x16, x17, x18, x19, x20, x21, x22, x23, x24, rfl, h⟩ := wioq_4_30 vs K h
  exact Eq.mp (stoq_4_30 x1 x2 x3 x4 x5 x6 x7 x8 x9 x10 x11 x12 x13 x14 x15 x16 x17 x18 x19 x20 x21 x22 x23 x24 K) h
theorem pooq_4_33_4 : PiecesOk Try.prog env (ctxG env false [] R8 [] []) 4 b4 :=
  pieces_at (L := []) (S := []) (fun _ => rfl) (fun _ => rfl) (by kernel_rfl) (by kernel_rfl) (fun _ hq => by cases hq) (fun _ hq => by cases hq)
theorem booq_4_33 : BodiesOk Try.prog env (ctxG env false [] R8 [] []) := bodies_okG (ks := []) (by kernel_rfl) (fun _ hq => by cases hq)
theorem stoq_4_33 (x1 : (List Step)) (x2 : Bool) (x3 : Bool) (x4 : Int) (x5 : Int) (x6 : Int) (x7 : Int) (x8 : Int) (x9 : Int) (x10 : Int) (x11 : (List (List Queued))) (x12 : (List Int)) (x13 : Int) (x14 : (List Packet)) (x15 : (List Packet)) (K : Ex → List (SV env.T) → Prop) : s_4_33  x1 x2 x3 x4 x5 x6 x7 x8 x9 x10 x11 x12 x13 x14 x15 (fun y1 => K .ret [.bool y1]) (fun y1 y2 y3 y4 y5 y6 y7 y8 y9 y10 y11 y12 y13 y14 y15 => K .normal [.dat 48 y1, .bool y2, .bool y3, .int .i64 y4, .int .i64 y5, .int .i64 y6, .int .i64 y7, .int .i64 y8, .int .i64 y9, .int .i64 y10, .dat 43 y11, .arr .i64 8 y12, .int .u64 y13, .dat 30 y14, .dat 30 y15]) = vcCode env (ctxG env false [] R8 [] []) 2000 4 (seqAt b4 33) (insSt q_4_33.head [.dat 48 x1, .bool x2, .bool x3, .int .i64 x4, .int .i64 x5, .int .i64 x6, .int .i64 x7, .int .i64 x8, .int .i64 x9, .int .i64 x10, .dat 43 x11, .arr .i64 8 x12, .int .u64 x13, .dat 30 x14, .dat 30 x15]) (outP env q_4_33 K) := by kernel_rfl
theorem wioq_4_33 (vs : List (SV env.T)) (K : Ex → List (SV env.T) → Prop) (h : v_4_33 vs K) : ∃ x1 : (List Step), ∃ x2 : Bool, ∃ x3 : Bool, ∃ x4 : Int, ∃ x5 : Int, ∃ x6 : Int, ∃ x7 : Int, ∃ x8 : Int, ∃ x9 : Int, ∃ x10 : Int, ∃ x11 : (List (List Queued)), ∃ x12 : (List Int), ∃ x13 : Int, ∃ x14 : (List Packet), ∃ x15 : (List Packet), vs = [.dat 48 x1, .bool x2, .bool x3, .int .i64 x4, .int .i64 x5, .int .i64 x6, .int .i64 x7, .int .i64 x8, .int .i64 x9, .int .i64 x10, .dat 43 x11, .arr .i64 8 x12, .int .u64 x13, .dat 30 x14, .dat 30 x15] ∧ s_4_33  x1 x2 x3 x4 x5 x6 x7 x8 x9 x10 x11 x12 x13 x14 x15 (fun y1 => K .ret [.bool y1]) (fun y1 y2 y3 y4 y5 y6 y7 y8 y9 y10 y11 y12 y13 y14 y15 => K .normal [.dat 48 y1, .bool y2, .bool y3, .int .i64 y4, .int .i64 y5, .int .i64 y6, .int .i64 y7, .int .i64 y8, .int .i64 y9, .int .i64 y10, .dat 43 y11, .arr .i64 8 y12, .int .u64 y13, .dat 30 y14, .dat 30 y15]) := by
  unfold v_4_33 at h
  replace h := dCD_spec h
  obtain ⟨x1, vs0, e0, h⟩ := h
  replace h := dCB_spec h
  obtain ⟨x2, vs1, e1, h⟩ := h
  replace h := dCB_spec h
  obtain ⟨x3, vs2, e2, h⟩ := h
  replace h := dCI_spec h
  obtain ⟨x4, vs3, e3, h⟩ := h
  replace h := dCI_spec h
  obtain ⟨x5, vs4, e4, h⟩ := h
  replace h := dCI_spec h
  obtain ⟨x6, vs5, e5, h⟩ := h
  replace h := dCI_spec h
  obtain ⟨x7, vs6, e6, h⟩ := h
  replace h := dCI_spec h
  obtain ⟨x8, vs7, e7, h⟩ := h
  replace h := dCI_spec h
  obtain ⟨x9, vs8, e8, h⟩ := h
  replace h := dCI_spec h
  obtain ⟨x10, vs9, e9, h⟩ := h
  replace h := dCD_spec h
  obtain ⟨x11, vs10, e10, h⟩ := h
  replace h := dCA_spec h
  obtain ⟨x12, vs11, e11, h⟩ := h
  replace h := dCI_spec h
  obtain ⟨x13, vs12, e12, h⟩ := h
  replace h := dCD_spec h
  obtain ⟨x14, vs13, e13, h⟩ := h
  replace h := dCD_spec h
  obtain ⟨x15, vs14, e14, h⟩ := h
  replace h := dCE_spec h
  obtain ⟨e, h⟩ := h
  exact ⟨x1, x2, x3, x4, x5, x6, x7, x8, x9, x10, x11, x12, x13, x14, x15, by rw [e0, e1, e2, e3, e4, e5, e6, e7, e8, e9, e10, e11, e12, e13, e14, e], h⟩
theorem oq_4_33 : PieceOk Try.prog env q_4_33 (seqAt b4 33) := by
  refine seq_step tab (ctxG_ok R8_ok false [] _ _) booq_4_33 (pieces_subS pooq_4_33_4 (by kernel_rfl)) 2000 ?_
  intro vs K h
  obtain ⟨x1, x2, x3, x4, x5, x6, x7, x8, x9, x10, x11, x12, x13, x14, x15, rfl, h⟩ := wioq_4_33 vs K h
  exact Eq.mp (stoq_4_33 x1 x2 x3 x4 x5 x6 x7 x8 x9 x10 x11 x12 x13 x14 x15 K) h
theorem pook_4_15_4 : PiecesOk Try.prog env (ctxG env false [] R8 [] [(4, [(23, q_4_23), (30, q_4_30), (33, q_4_33)])]) 4 b4 :=
  pieces_at (L := []) (S := [(23, q_4_23), (30, q_4_30), (33, q_4_33)]) (fun _ => rfl) (fun _ => rfl) (by kernel_rfl) (by kernel_rfl) (fun _ hq => by cases hq) (List.forall_mem_cons.2 ⟨fun _ => oq_4_23, (List.forall_mem_cons.2 ⟨fun _ => oq_4_30, (List.forall_mem_cons.2 ⟨fun _ => oq_4_33, (fun _ hq => by cases hq)⟩)⟩)⟩)
theorem book_4_15 : BodiesOk Try.prog env (ctxG env false [] R8 [] [(4, [(23, q_4_23), (30, q_4_30), (33, q_4_33)])]) := bodies_okG (ks := [4]) (by kernel_rfl) (List.forall_mem_cons.2 ⟨body_at (fn := f4) (body := b4) rfl hb4 pook_4_15_4, (fun _ hq => by cases hq)⟩)
theorem stok_4_15 (k : Nat) (x1 : (List Step)) (x2 : Bool) (x3 : Bool) (x4 : Int) (x5 : Int) (x6 : Int) (x7 : Int) (x8 : Int) (x9 : Int) (x10 : Int) (x11 : (List (List Queued))) (x12 : (List Int)) (x13 : Int) (x14 : (List Packet)) (x15 : (List Packet)) (K : Ex → List (SV env.T) → Prop) : l_4_15 (k + 1) x1 x2 x3 x4 x5 x6 x7 x8 x9 x10 x11 x12 x13 x14 x15 (fun y1 => K .ret [.bool y1]) (fun y1 y2 y3 y4 y5 y6 y7 y8 y9 y10 y11 y12 => K (.exit 4) [.bool y1, .bool y2, .int .i64 y3, .int .i64 y4, .int .i64 y5, .int .i64 y6, .int .i64 y7, .dat 43 y8, .arr .i64 8 y9, .int .u64 y10, .dat 30 y11, .dat 30 y12]) = vcCode env (ctxG env false [] R8 [] [(4, [(23, q_4_23), (30, q_4_30), (33, q_4_33)])]) 2000 4 (loopAt b4 15) (insSt p_4_15.head [.dat 48 x1, .bool x2, .bool x3, .int .i64 x4, .int .i64 x5, .int .i64 x6, .int .i64 x7, .int .i64 x8, .int .i64 x9, .int .i64 x10, .dat 43 x11, .arr .i64 8 x12, .int .u64 x13, .dat 30 x14, .dat 30 x15]) (stepK p_4_15 (w_4_15 k) K) := by kernel_rfl
theorem wiok_4_15 (k : Nat) (vs : List (SV env.T)) (K : Ex → List (SV env.T) → Prop) (h : w_4_15 k vs K) : ∃ x1 : (List Step), ∃ x2 : Bool, ∃ x3 : Bool, ∃ x4 : Int, ∃ x5 : Int, ∃ x6 : Int, ∃ x7 : Int, ∃ x8 : Int, ∃ x9 : Int, ∃ x10 : Int, ∃ x11 : (List (List Queued)), ∃ x12 : (List Int), ∃ x13 : Int, ∃ x14 : (List Packet), ∃ x15 : (List Packet), vs = [.dat 48 x1, .bool x2, .bool x3, .int .i64 x4, .int .i64 x5, .int .i64 x6, .int .i64 x7, .int .i64 x8, .int .i64 x9, .int .i64 x10, .dat 43 x11, .arr .i64 8 x12, .int .u64 x13, .dat 30 x14, .dat 30 x15] ∧ l_4_15 k x1 x2 x3 x4 x5 x6 x7 x8 x9 x10 x11 x12 x13 x14 x15 (fun y1 => K .ret [.bool y1]) (fun y1 y2 y3 y4 y5 y6 y7 y8 y9 y10 y11 y12 => K (.exit 4) [.bool y1, .bool y2, .int .i64 y3, .int .i64 y4, .int .i64 y5, .int .i64 y6, .int .i64 y7, .dat 43 y8, .arr .i64 8 y9, .int .u64 y10, .dat 30 y11, .dat 30 y12]) := by
  unfold w_4_15 at h
  replace h := dCD_spec h
  obtain ⟨x1, vs0, e0, h⟩ := h
  replace h := dCB_spec h
  obtain ⟨x2, vs1, e1, h⟩ := h
  replace h := dCB_spec h
  obtain ⟨x3, vs2, e2, h⟩ := h
  replace h := dCI_spec h
  obtain ⟨x4, vs3, e3, h⟩ := h
  replace h := dCI_spec h
  obtain ⟨x5, vs4, e4, h⟩ := h
  replace h := dCI_spec h
  obtain ⟨x6, vs5, e5, h⟩ := h
  replace h := dCI_spec h
  obtain ⟨x7, vs6, e6, h⟩ := h
  replace h := dCI_spec h
  obtain ⟨x8, vs7, e7, h⟩ := h
  replace h := dCI_spec h
  obtain ⟨x9, vs8, e8, h⟩ := h
  replace h := dCI_spec h
  obtain ⟨x10, vs9, e9, h⟩ := h
  replace h := dCD_spec h
  obtain ⟨x11, vs10, e10, h⟩ := h
  replace h := dCA_spec h
  obtain ⟨x12, vs11, e11, h⟩ := h
  replace h := dCI_spec h
  obtain ⟨x13, vs12, e12, h⟩ := h
  replace h := dCD_spec h
  obtain ⟨x14, vs13, e13, h⟩ := h
  replace h := dCD_spec h
  obtain ⟨x15, vs14, e14, h⟩ := h
  replace h := dCE_spec h
  obtain ⟨e, h⟩ := h
  exact ⟨x1, x2, x3, x4, x5, x6, x7, x8, x9, x10, x11, x12, x13, x14, x15, by rw [e0, e1, e2, e3, e4, e5, e6, e7, e8, e9, e10, e11, e12, e13, e14, e], h⟩
theorem zeok_4_15 (x1 : (List Step)) (x2 : Bool) (x3 : Bool) (x4 : Int) (x5 : Int) (x6 : Int) (x7 : Int) (x8 : Int) (x9 : Int) (x10 : Int) (x11 : (List (List Queued))) (x12 : (List Int)) (x13 : Int) (x14 : (List Packet)) (x15 : (List Packet)) (K : Ex → List (SV env.T) → Prop) : l_4_15 0 x1 x2 x3 x4 x5 x6 x7 x8 x9 x10 x11 x12 x13 x14 x15 (fun y1 => K .ret [.bool y1]) (fun y1 y2 y3 y4 y5 y6 y7 y8 y9 y10 y11 y12 => K (.exit 4) [.bool y1, .bool y2, .int .i64 y3, .int .i64 y4, .int .i64 y5, .int .i64 y6, .int .i64 y7, .dat 43 y8, .arr .i64 8 y9, .int .u64 y10, .dat 30 y11, .dat 30 y12]) = False := by kernel_rfl
theorem ok_4_15 : PieceOk Try.prog env p_4_15 (.loop (loopAt b4 15)) := by
  refine loop_step (Wn := w_4_15) tab (ctxG_ok R8_ok false [] _ _) book_4_15 (pieces_sub pook_4_15_4 (by kernel_rfl)) rfl ?_ 2000 ?_
  · intro vs K h
    obtain ⟨x1, x2, x3, x4, x5, x6, x7, x8, x9, x10, x11, x12, x13, x14, x15, _, h⟩ := wiok_4_15 0 vs K h
    exact Eq.mp (zeok_4_15 x1 x2 x3 x4 x5 x6 x7 x8 x9 x10 x11 x12 x13 x14 x15 K) h
  · intro k vs K h
    obtain ⟨x1, x2, x3, x4, x5, x6, x7, x8, x9, x10, x11, x12, x13, x14, x15, rfl, h⟩ := wiok_4_15 (k + 1) vs K h
    exact Eq.mp (stok_4_15 k x1 x2 x3 x4 x5 x6 x7 x8 x9 x10 x11 x12 x13 x14 x15 K) h
theorem pook_4_41_4 : PiecesOk Try.prog env (ctxG env false [] R8 [] []) 4 b4 :=
  pieces_at (L := []) (S := []) (fun _ => rfl) (fun _ => rfl) (by kernel_rfl) (by kernel_rfl) (fun _ hq => by cases hq) (fun _ hq => by cases hq)
theorem book_4_41 : BodiesOk Try.prog env (ctxG env false [] R8 [] []) := bodies_okG (ks := []) (by kernel_rfl) (fun _ hq => by cases hq)
theorem stok_4_41 (k : Nat) (x1 : Bool) (x2 : Bool) (x3 : Int) (x4 : Int) (x5 : Int) (x6 : Int) (x7 : Int) (x8 : Int) (x9 : Int) (x10 : (List (List Queued))) (x11 : (List Int)) (x12 : Int) (x13 : (List Packet)) (x14 : (List Packet)) (x15 : (List Packet)) (K : Ex → List (SV env.T) → Prop) : l_4_41 (k + 1) x1 x2 x3 x4 x5 x6 x7 x8 x9 x10 x11 x12 x13 x14 x15 (fun y1 y2 y3 y4 y5 y6 y7 y8 y9 y10 y11 y12 y13 y14 => K (.exit 8) [.bool y1, .bool y2, .int .i64 y3, .int .i64 y4, .int .i64 y5, .int .i64 y6, .int .i64 y7, .int .i64 y8, .dat 43 y9, .arr .i64 8 y10, .int .u64 y11, .dat 30 y12, .dat 30 y13, .dat 30 y14]) = vcCode env (ctxG env false [] R8 [] []) 2000 4 (loopAt b4 41) (insSt p_4_41.head [.bool x1, .bool x2, .int .i64 x3, .int .i64 x4, .int .i64 x5, .int .i64 x6, .int .i64 x7, .int .i64 x8, .int .i64 x9, .dat 43 x10, .arr .i64 8 x11, .int .u64 x12, .dat 30 x13, .dat 30 x14, .dat 30 x15]) (stepK p_4_41 (w_4_41 k) K) := by kernel_rfl
theorem wiok_4_41 (k : Nat) (vs : List (SV env.T)) (K : Ex → List (SV env.T) → Prop) (h : w_4_41 k vs K) : ∃ x1 : Bool, ∃ x2 : Bool, ∃ x3 : Int, ∃ x4 : Int, ∃ x5 : Int, ∃ x6 : Int, ∃ x7 : Int, ∃ x8 : Int, ∃ x9 : Int, ∃ x10 : (List (List Queued)), ∃ x11 : (List Int), ∃ x12 : Int, ∃ x13 : (List Packet), ∃ x14 : (List Packet), ∃ x15 : (List Packet), vs = [.bool x1, .bool x2, .int .i64 x3, .int .i64 x4, .int .i64 x5, .int .i64 x6, .int .i64 x7, .int .i64 x8, .int .i64 x9, .dat 43 x10, .arr .i64 8 x11, .int .u64 x12, .dat 30 x13, .dat 30 x14, .dat 30 x15] ∧ l_4_41 k x1 x2 x3 x4 x5 x6 x7 x8 x9 x10 x11 x12 x13 x14 x15 (fun y1 y2 y3 y4 y5 y6 y7 y8 y9 y10 y11 y12 y13 y14 => K (.exit 8) [.bool y1, .bool y2, .int .i64 y3, .int .i64 y4, .int .i64 y5, .int .i64 y6, .int .i64 y7, .int .i64 y8, .dat 43 y9, .arr .i64 8 y10, .int .u64 y11, .dat 30 y12, .dat 30 y13, .dat 30 y14]) := by
  unfold w_4_41 at h
  replace h := dCB_spec h
  obtain ⟨x1, vs0, e0, h⟩ := h
  replace h := dCB_spec h
  obtain ⟨x2, vs1, e1, h⟩ := h
  replace h := dCI_spec h
  obtain ⟨x3, vs2, e2, h⟩ := h
  replace h := dCI_spec h
  obtain ⟨x4, vs3, e3, h⟩ := h
  replace h := dCI_spec h
  obtain ⟨x5, vs4, e4, h⟩ := h
  replace h := dCI_spec h
  obtain ⟨x6, vs5, e5, h⟩ := h
  replace h := dCI_spec h
  obtain ⟨x7, vs6, e6, h⟩ := h
  replace h := dCI_spec h
  obtain ⟨x8, vs7, e7, h⟩ := h
  replace h := dCI_spec h
  obtain ⟨x9, vs8, e8, h⟩ := h
  replace h := dCD_spec h
  obtain ⟨x10, vs9, e9, h⟩ := h
  replace h := dCA_spec h
  obtain ⟨x11, vs10, e10, h⟩ := h
  replace h := dCI_spec h
  obtain ⟨x12, vs11, e11, h⟩ := h
  replace h := dCD_spec h
  obtain ⟨x13, vs12, e12, h⟩ := h
  replace h := dCD_spec h
  obtain ⟨x14, vs13, e13, h⟩ := h
  replace h := dCD_spec h
  obtain ⟨x15, vs14, e14, h⟩ := h
  replace h := dCE_spec h
  obtain ⟨e, h⟩ := h
  exact ⟨x1, x2, x3, x4, x5, x6, x7, x8, x9, x10, x11, x12, x13, x14, x15, by rw [e0, e1, e2, e3, e4, e5, e6, e7, e8, e9, e10, e11, e12, e13, e14, e], h⟩
theorem zeok_4_41 (x1 : Bool) (x2 : Bool) (x3 : Int) (x4 : Int) (x5 : Int) (x6 : Int) (x7 : Int) (x8 : Int) (x9 : Int) (x10 : (List (List Queued))) (x11 : (List Int)) (x12 : Int) (x13 : (List Packet)) (x14 : (List Packet)) (x15 : (List Packet)) (K : Ex → List (SV env.T) → Prop) : l_4_41 0 x1 x2 x3 x4 x5 x6 x7 x8 x9 x10 x11 x12 x13 x14 x15 (fun y1 y2 y3 y4 y5 y6 y7 y8 y9 y10 y11 y12 y13 y14 => K (.exit 8) [.bool y1, .bool y2, .int .i64 y3, .int .i64 y4, .int .i64 y5, .int .i64 y6, .int .i64 y7, .int .i64 y8, .dat 43 y9, .arr .i64 8 y10, .int .u64 y11, .dat 30 y12, .dat 30 y13, .dat 30 y14]) = False := by kernel_rfl
theorem ok_4_41 : PieceOk Try.prog env p_4_41 (.loop (loopAt b4 41)) := by
  refine loop_step (Wn := w_4_41) tab (ctxG_ok R8_ok false [] _ _) book_4_41 (pieces_sub pook_4_41_4 (by kernel_rfl)) rfl ?_ 2000 ?_
  · intro vs K h
    obtain ⟨x1, x2, x3, x4, x5, x6, x7, x8, x9, x10, x11, x12, x13, x14, x15, _, h⟩ := wiok_4_41 0 vs K h
    exact Eq.mp (zeok_4_41 x1 x2 x3 x4 x5 x6 x7 x8 x9 x10 x11 x12 x13 x14 x15 K) h
  · intro k vs K h
    obtain ⟨x1, x2, x3, x4, x5, x6, x7, x8, x9, x10, x11, x12, x13, x14, x15, rfl, h⟩ := wiok_4_41 (k + 1) vs K h
    exact Eq.mp (stok_4_41 k x1 x2 x3 x4 x5 x6 x7 x8 x9 x10 x11 x12 x13 x14 x15 K) h
theorem pook_4_37_4 : PiecesOk Try.prog env (ctxG env false [] R8 [(4, [(41, p_4_41)])] []) 4 b4 :=
  pieces_at (L := [(41, p_4_41)]) (S := []) (fun _ => rfl) (fun _ => rfl) (by kernel_rfl) (by kernel_rfl) (List.forall_mem_cons.2 ⟨fun _ => ok_4_41, (fun _ hq => by cases hq)⟩) (fun _ hq => by cases hq)
theorem book_4_37 : BodiesOk Try.prog env (ctxG env false [] R8 [(4, [(41, p_4_41)])] []) := bodies_okG (ks := [4]) (by kernel_rfl) (List.forall_mem_cons.2 ⟨body_at (fn := f4) (body := b4) rfl hb4 pook_4_37_4, (fun _ hq => by cases hq)⟩)
theorem stok_4_37 (k : Nat) (x1 : Bool) (x2 : Bool) (x3 : Int) (x4 : Int) (x5 : Int) (x6 : Int) (x7 : Int) (x8 : Int) (x9 : (List (List Queued))) (x10 : (List Int)) (x11 : Int) (x12 : (List Packet)) (x13 : (List Packet)) (K : Ex → List (SV env.T) → Prop) : l_4_37 (k + 1) x1 x2 x3 x4 x5 x6 x7 x8 x9 x10 x11 x12 x13 (fun y1 y2 => K (.exit 6) [.bool y1, .bool y2]) = vcCode env (ctxG env false [] R8 [(4, [(41, p_4_41)])] []) 2000 4 (loopAt b4 37) (insSt p_4_37.head [.bool x1, .bool x2, .int .i64 x3, .int .i64 x4, .int .i64 x5, .int .i64 x6, .int .i64 x7, .int .i64 x8, .dat 43 x9, .arr .i64 8 x10, .int .u64 x11, .dat 30 x12, .dat 30 x13]) (stepK p_4_37 (w_4_37 k) K) := by kernel_rfl
theorem wiok_4_37 (k : Nat) (vs : List (SV env.T)) (K : Ex → List (SV env.T) → Prop) (h : w_4_37 k vs K) : ∃ x1 : Bool, ∃ x2 : Bool, ∃ x3 : Int, ∃ x4 : Int, ∃ x5 : Int, ∃ x6 : Int, ∃ x7 : Int, ∃ x8 : Int, ∃ x9 : (List (List Queued)), ∃ x10 : (List Int), ∃ x11 : Int, ∃ x12 : (List Packet), ∃ x13 : (List Packet), vs = [.bool x1, .bool x2, .int .i64 x3, .int .i64 x4, .int .i64 x5, .int .i64 x6, .int .i64 x7, .int .i64 x8, .dat 43 x9, .arr .i64 8 x10, .int .u64 x11, .dat 30 x12, .dat 30 x13] ∧ l_4_37 k x1 x2 x3 x4 x5 x6 x7 x8 x9 x10 x11 x12 x13 (fun y1 y2 => K (.exit 6) [.bool y1, .bool y2]) := by
  unfold w_4_37 at h
  replace h := dCB_spec h
  obtain ⟨x1, vs0, e0, h⟩ := h
  replace h := dCB_spec h
  obtain ⟨x2, vs1, e1, h⟩ := h
  replace h := dCI_spec h
  obtain ⟨x3, vs2, e2, h⟩ := h
  replace h := dCI_spec h
  obtain ⟨x4, vs3, e3, h⟩ := h
  replace h := dCI_spec h
  obtain ⟨x5, vs4, e4, h⟩ := h
  replace h := dCI_spec h
  obtain ⟨x6, vs5, e5, h⟩ := h
  replace h := dCI_spec h
  obtain ⟨x7, vs6, e6, h⟩ := h
  replace h := dCI_spec h
  obtain ⟨x8, vs7, e7, h⟩ := h
  replace h := dCD_spec h
  obtain ⟨x9, vs8, e8, h⟩ := h
  replace h := dCA_spec h
  obtain ⟨x10, vs9, e9, h⟩ := h
  replace h := dCI_spec h
  obtain ⟨x11, vs10, e10, h⟩ := h
  replace h := dCD_spec h
  obtain ⟨x12, vs11, e11, h⟩ := h
  replace h := dCD_spec h
  obtain ⟨x13, vs12, e12, h⟩ := h
  replace h := dCE_spec h
  obtain ⟨e, h⟩ := h
  exact ⟨x1, x2, x3, x4, x5, x6, x7, x8, x9, x10, x11, x12, x13, by rw [e0, e1, e2, e3, e4, e5, e6, e7, e8, e9, e10, e11, e12, e], h⟩
theorem zeok_4_37 (x1 : Bool) (x2 : Bool) (x3 : Int) (x4 : Int) (x5 : Int) (x6 : Int) (x7 : Int) (x8 : Int) (x9 : (List (List Queued))) (x10 : (List Int)) (x11 : Int) (x12 : (List Packet)) (x13 : (List Packet)) (K : Ex → List (SV env.T) → Prop) : l_4_37 0 x1 x2 x3 x4 x5 x6 x7 x8 x9 x10 x11 x12 x13 (fun y1 y2 => K (.exit 6) [.bool y1, .bool y2]) = False := by kernel_rfl
theorem ok_4_37 : PieceOk Try.prog env p_4_37 (.loop (loopAt b4 37)) := by
  refine loop_step (Wn := w_4_37) tab (ctxG_ok R8_ok false [] _ _) book_4_37 (pieces_sub pook_4_37_4 (by kernel_rfl)) rfl ?_ 2000 ?_
  · intro vs K h
    obtain ⟨x1, x2, x3, x4, x5, x6, x7, x8, x9, x10, x11, x12, x13, _, h⟩ := wiok_4_37 0 vs K h
    exact Eq.mp (zeok_4_37 x1 x2 x3 x4 x5 x6 x7 x8 x9 x10 x11 x12 x13 K) h
  · intro k vs K h
    obtain ⟨x1, x2, x3, x4, x5, x6, x7, x8, x9, x10, x11, x12, x13, rfl, h⟩ := wiok_4_37 (k + 1) vs K h
    exact Eq.mp (stok_4_37 k x1 x2 x3 x4 x5 x6 x7 x8 x9 x10 x11 x12 x13 K) h
theorem pooq_4_5_4 : PiecesOk Try.prog env (ctxG env false [] R8 [(4, [(10, p_4_10), (7, p_4_7), (15, p_4_15), (41, p_4_41), (37, p_4_37)])] [(4, [(23, q_4_23), (30, q_4_30), (33, q_4_33)])]) 4 b4 :=
  pieces_at (L := [(10, p_4_10), (7, p_4_7), (15, p_4_15), (41, p_4_41), (37, p_4_37)]) (S := [(23, q_4_23), (30, q_4_30), (33, q_4_33)]) (fun _ => rfl) (fun _ => rfl) (by kernel_rfl) (by kernel_rfl) (List.forall_mem_cons.2 ⟨fun _ => ok_4_10, (List.forall_mem_cons.2 ⟨fun _ => ok_4_7, (List.forall_mem_cons.2 ⟨fun _ => ok_4_15, (List.forall_mem_cons.2 ⟨fun _ => ok_4_41, (List.forall_mem_cons.2 ⟨fun _ => ok_4_37, (fun _ hq => by cases hq)⟩)⟩)⟩)⟩)⟩) (List.forall_mem_cons.2 ⟨fun _ => oq_4_23, (List.forall_mem_cons.2 ⟨fun _ => oq_4_30, (List.forall_mem_cons.2 ⟨fun _ => oq_4_33, (fun _ hq => by cases hq)⟩)⟩)⟩)
theorem booq_4_5 : BodiesOk Try.prog env (ctxG env false [] R8 [(4, [(10, p_4_10), (7, p_4_7), (15, p_4_15), (41, p_4_41), (37, p_4_37)])] [(4, [(23, q_4_23), (30, q_4_30), (33, q_4_33)])]) := bodies_okG (ks := [4]) (by kernel_rfl) (List.forall_mem_cons.2 ⟨body_at (fn := f4) (body := b4) rfl hb4 pooq_4_5_4, (fun _ hq => by cases hq)⟩)
theorem stoq_4_5 (x1 : (List Step)) (x2 : Bool) (x3 : Bool) (x4 : Int) (x5 : Int) (x6 : Int) (x7 : Int) (x8 : Int) (x9 : (List (List Queued))) (x10 : (List Int)) (x11 : Int) (K : Ex → List (SV env.T) → Prop) : s_4_5  x1 x2 x3 x4 x5 x6 x7 x8 x9 x10 x11 (fun y1 => K .ret [.bool y1]) = vcCode env (ctxG env false [] R8 [(4, [(10, p_4_10), (7, p_4_7), (15, p_4_15), (41, p_4_41), (37, p_4_37)])] [(4, [(23, q_4_23), (30, q_4_30), (33, q_4_33)])]) 2000 4 (seqAt b4 5) (insSt q_4_5.head [.dat 48 x1, .bool x2, .bool x3, .int .i64 x4, .int .i64 x5, .int .i64 x6, .int .i64 x7, .int .i64 x8, .dat 43 x9, .arr .i64 8 x10, .int .u64 x11]) (outP env q_4_5 K) := by kernel_rfl
theorem wioq_4_5 (vs : List (SV env.T)) (K : Ex → List (SV env.T) → Prop) (h : v_4_5 vs K) : ∃ x1 : (List Step), ∃ x2 : Bool, ∃ x3 : Bool, ∃ x4 : Int, ∃ x5 : Int, ∃ x6 : Int, ∃ x7 : Int, ∃ x8 : Int, ∃ x9 : (List (List Queued)), ∃ x10 : (List Int), ∃ x11 : Int, vs = [.dat 48 x1, .bool x2, .bool x3, .int .i64 x4, .int .i64 x5, .int .i64 x6, .int .i64 x7, .int .i64 x8, .dat 43 x9, .arr .i64 8 x10, .int .u64 x11] ∧ s_4_5  x1 x2 x3 x4 x5 x6 x7 x8 x9 x10 x11 (fun y1 => K .ret [.bool y1]) := by
  unfold v_4_5 at h
  replace h := dCD_spec h
  obtain ⟨x1, vs0, e0, h⟩ := h
  replace h := dCB_spec h
  obtain ⟨x2, vs1, e1, h⟩ := h
  replace h := dCB_spec h
  obtain ⟨x3, vs2, e2, h⟩ := h
  replace h := dCI_spec h
  obtain ⟨x4, vs3, e3, h⟩ := h
  replace h := dCI_spec h
  obtain ⟨x5, vs4, e4, h⟩ := h
  replace h := dCI_spec h
  obtain ⟨x6, vs5, e5, h⟩ := h
  replace h := dCI_spec h
  obtain ⟨x7, vs6, e6, h⟩ := h
  replace h := dCI_spec h
  obtain ⟨x8, vs7, e7, h⟩ := h
  replace h := dCD_spec h
  obtain ⟨x9, vs8, e8, h⟩ := h
  replace h := dCA_spec h
  obtain ⟨x10, vs9, e9, h⟩ := h
  replace h := dCI_spec h
  obtain ⟨x11, vs10, e10, h⟩ := h
  replace h := dCE_spec h
  obtain ⟨e, h⟩ := h
  exact ⟨x1, x2, x3, x4, x5, x6, x7, x8, x9, x10, x11, by rw [e0, e1, e2, e3, e4, e5, e6, e7, e8, e9, e10, e], h⟩
theorem oq_4_5 : PieceOk Try.prog env q_4_5 (seqAt b4 5) := by
  refine seq_step tab (ctxG_ok R8_ok false [] _ _) booq_4_5 (pieces_subS pooq_4_5_4 (by kernel_rfl)) 2000 ?_
  intro vs K h
  obtain ⟨x1, x2, x3, x4, x5, x6, x7, x8, x9, x10, x11, rfl, h⟩ := wioq_4_5 vs K h
  exact Eq.mp (stoq_4_5 x1 x2 x3 x4 x5 x6 x7 x8 x9 x10 x11 K) h
theorem po_4_4 : PiecesOk Try.prog env (ctxG env false [] R8 [(4, [(10, p_4_10), (7, p_4_7), (15, p_4_15), (41, p_4_41), (37, p_4_37)])] [(4, [(23, q_4_23), (30, q_4_30), (33, q_4_33), (5, q_4_5)])]) 4 b4 :=
  pieces_at (L := [(10, p_4_10), (7, p_4_7), (15, p_4_15), (41, p_4_41), (37, p_4_37)]) (S := [(23, q_4_23), (30, q_4_30), (33, q_4_33), (5, q_4_5)]) (fun _ => rfl) (fun _ => rfl) (by kernel_rfl) (by kernel_rfl) (List.forall_mem_cons.2 ⟨fun _ => ok_4_10, (List.forall_mem_cons.2 ⟨fun _ => ok_4_7, (List.forall_mem_cons.2 ⟨fun _ => ok_4_15, (List.forall_mem_cons.2 ⟨fun _ => ok_4_41, (List.forall_mem_cons.2 ⟨fun _ => ok_4_37, (fun _ hq => by cases hq)⟩)⟩)⟩)⟩)⟩) (List.forall_mem_cons.2 ⟨fun _ => oq_4_23, (List.forall_mem_cons.2 ⟨fun _ => oq_4_30, (List.forall_mem_cons.2 ⟨fun _ => oq_4_33, (List.forall_mem_cons.2 ⟨fun _ => oq_4_5, (fun _ hq => by cases hq)⟩)⟩)⟩)⟩)
theorem bo_4 : BodiesOk Try.prog env (ctxG env false [] R8 [(4, [(10, p_4_10), (7, p_4_7), (15, p_4_15), (41, p_4_41), (37, p_4_37)])] [(4, [(23, q_4_23), (30, q_4_30), (33, q_4_33), (5, q_4_5)])]) := bodies_okG (ks := [4]) (by kernel_rfl) (List.forall_mem_cons.2 ⟨body_at (fn := f4) (body := b4) rfl hb4 po_4_4, (fun _ hq => by cases hq)⟩)
theorem eq_4 (x0 : Queue) (x1 : (List Step)) (K : Y4 → Prop) : vcCode env (ctxG env false [] R8 [(4, [(10, p_4_10), (7, p_4_7), (15, p_4_15), (41, p_4_41), (37, p_4_37)])] [(4, [(23, q_4_23), (30, q_4_30), (33, q_4_33), (5, q_4_5)])]) 2000 4 b4 (entry env f4 [v28 x0, v42 x1]) (finR env f4 decR4 K) = B4 x0 x1 K := by kernel_rfl
noncomputable def rule4 : Nat × Rule env := (4, ruleF env decA4 encR4 fun x => V4 x.1 x.2)
theorem r4 : RuleOk Try.prog env 4 rule4.2 :=
  rule_fun tab (ctxG_ok R8_ok false [] _ _) bo_4 (f := 4) (fn := f4) rfl hb4 po_4_4 2000 encA4 hA4 hR4 hD4 (fun _ => of_decide_eq_true (by kernel_rfl)) (fun x K => (eq_4 x.1 x.2 K).trans (by rw [V4_eq]))
noncomputable def R4 : List (Nat × Rule env) := rule4 :: R8
theorem R4_ok : AllOk Try.prog env R4 := ⟨r4, R8_ok⟩
end Go.Vg.Ytgekegoflaichaa
