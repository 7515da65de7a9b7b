/-
  Walked functions of the program: predicate transformers and their rules. Written by a program of this work (gen.py, VgGen.lean) out of the executor's own reduction; no condition.
-/
import Derived.Test.YtkaodeodiakldaaWE
set_option maxRecDepth 100000
set_option maxHeartbeats 4000000
namespace Go.Vg.Ytkaodeodiakldaa
open Go.Vg Go.Proofs
-- 3 queuelab/queuelablaw37.WorkersMatchesReference
noncomputable def f3 : Func := Try.f3
noncomputable def b3 : Code := (Try.f3.body).getD .skip
abbrev X3 := Int × Int × Int × Int × (List Task) × (List Segment)
def encA3 (x : X3) : List (SV env.T) := [v3 x.1, v3 x.2.1, v3 x.2.2.1, v3 x.2.2.2.1, v22 x.2.2.2.2.1, v23 x.2.2.2.2.2]
def decA3 (l : List (SV env.T)) : Option X3 := match l with
  | [s0, s1, s2, s3, s4, s5] => match u3 s0, u3 s1, u3 s2, u3 s3, u22 s4, u23 s5 with
    | some x0, some x1, some x2, some x3, some x4, some x5 => some (x0, x1, x2, x3, x4, x5)
    | _, _, _, _, _, _ => none
  | _ => none
theorem hA3 (l : List (SV env.T)) (x : X3) (h : decA3 l = some x) : WkA env.has l (encA3 x) := by
  unfold decA3 at h; split at h
  · split at h
    · rename_i h0 h1 h2 h3 h4 h5; cases h; exact (.cons (u3_wk h0) (.cons (u3_wk h1) (.cons (u3_wk h2) (.cons (u3_wk h3) (.cons (u22_wk h4) (.cons (u23_wk h5) .nil))))))
    · cases h
  · cases h
abbrev Y3 := Bool
def encR3 (x : Y3) : List (SV env.T) := [v4 x]
def decR3 (l : List (SV env.T)) : Option Y3 := match l with
  | [s0] => match u4 s0 with
    | some x0 => some (x0)
    | _ => none
  | _ => none
theorem hR3 (l : List (SV env.T)) (x : Y3) (h : decR3 l = some x) : WkA env.has l (encR3 x) := by
  unfold decR3 at h; split at h
  · split at h
    · rename_i h0; cases h; exact (.cons (u4_wk h0) .nil)
    · cases h
  · cases h
theorem hD3 (y : Y3) : isDataV (tupV (encR3 y)) = true := rfl
theorem hb3 : f3.body = some b3 := by kernel_rfl
noncomputable def B3 : Int → Int → Int → Int → (List Task) → (List Segment) → (Y3 → Prop) → Prop :=
  fun x0 x1 x2 x3 x4 x5 K ↦ V8 fun y7 ↦ V9 x4 x5 fun y8 ↦ br (!y8) (K y7) (V10 x0 x1 x2 x3 fun y9 ↦ V11 x0 x1 x2 x3 fun y10 ↦ V12 x4 x5 fun y11 ↦ V13 x4 x5 fun y12 ↦ br y7 (V14 y9.fst y10.fst fun y13 ↦ br y13 (br (y9.snd == y10.snd) (V15 y11.fst y12.fst fun y14 ↦ br y14 (K (y11.snd == y12.snd)) (K false)) (K false)) (K false)) (K false))
theorem V3_ex : ∃ V : Int → Int → Int → Int → (List Task) → (List Segment) → (Y3 → Prop) → Prop, V = B3 := ⟨_, rfl⟩
noncomputable def V3 : Int → Int → Int → Int → (List Task) → (List Segment) → (Y3 → Prop) → Prop := Classical.choose V3_ex
theorem V3_eq : V3 = B3 := Classical.choose_spec V3_ex
theorem po_3_3 : PiecesOk Try.prog env (ctxG env false [] R16 [] []) 3 b3 :=
  pieces_at (rfIn_body (fn := f3) (b := b3) rfl hb3) (L := []) (S := []) (fun _ => rfl) (fun _ => rfl) (by kernel_rfl) (by kernel_rfl) (fun _ hq => by cases hq) (fun _ hq => by cases hq)
theorem bo_3 : BodiesOk Try.prog env (ctxG env false [] R16 [] []) := bodies_okG (ks := []) (by kernel_rfl) (fun _ hq => by cases hq)
theorem eq_3 (x0 : Int) (x1 : Int) (x2 : Int) (x3 : Int) (x4 : (List Task)) (x5 : (List Segment)) (K : Y3 → Prop) : vcCode env (ctxG env false [] R16 [] []) 2000 3 b3 (entry env f3 [v3 x0, v3 x1, v3 x2, v3 x3, v22 x4, v23 x5]) (finR env f3 decR3 K) = B3 x0 x1 x2 x3 x4 x5 K := by kernel_rfl
noncomputable def rule3 : Nat × Rule env := (3, ruleF env decA3 encR3 fun x => V3 x.1 x.2.1 x.2.2.1 x.2.2.2.1 x.2.2.2.2.1 x.2.2.2.2.2)
theorem r3 : RuleOk Try.prog env 3 rule3.2 :=
  rule_fun tab (ctxG_ok R16_ok false [] _ _) bo_3 (f := 3) (fn := f3) rfl hb3 po_3_3 2000 encA3 hA3 hR3 hD3 (fun _ => of_decide_eq_true (by kernel_rfl)) (fun x K => (eq_3 x.1 x.2.1 x.2.2.1 x.2.2.2.1 x.2.2.2.2.1 x.2.2.2.2.2 K).trans (by rw [V3_eq]))
noncomputable def R3 : List (Nat × Rule env) := rule3 :: R16
theorem R3_ok : AllOk Try.prog env R3 := ⟨r3, R16_ok⟩
-- 4 queuelab/queuelablaw37.WorkersCover
noncomputable def f4 : Func := Try.f4
noncomputable def b4 : Code := (Try.f4.body).getD .skip
abbrev X4 := Int × Int × Int × Int
def encA4 (x : X4) : List (SV env.T) := [v3 x.1, v3 x.2.1, v3 x.2.2.1, v3 x.2.2.2]
def decA4 (l : List (SV env.T)) : Option X4 := match l with
  | [s0, s1, s2, s3] => match u3 s0, u3 s1, u3 s2, u3 s3 with
    | some x0, some x1, some x2, some x3 => some (x0, x1, x2, x3)
    | _, _, _, _ => none
  | _ => none
theorem hA4 (l : List (SV env.T)) (x : X4) (h : decA4 l = some x) : WkA env.has l (encA4 x) := by
  unfold decA4 at h; split at h
  · split at h
    · rename_i h0 h1 h2 h3; cases h; exact (.cons (u3_wk h0) (.cons (u3_wk h1) (.cons (u3_wk h2) (.cons (u3_wk h3) .nil))))
    · cases h
  · cases h
abbrev Y4 := Bool
def encR4 (x : Y4) : List (SV env.T) := [v4 x]
def decR4 (l : List (SV env.T)) : Option Y4 := match l with
  | [s0] => match u4 s0 with
    | some x0 => some (x0)
    | _ => none
  | _ => none
theorem hR4 (l : List (SV env.T)) (x : Y4) (h : decR4 l = some x) : WkA env.has l (encR4 x) := by
  unfold decR4 at h; split at h
  · split at h
    · rename_i h0; cases h; exact (.cons (u4_wk h0) .nil)
    · cases h
  · cases h
theorem hD4 (y : Y4) : isDataV (tupV (encR4 y)) = true := rfl
theorem hb4 : f4.body = some b4 := by kernel_rfl
def s_4_16 : Int → Bool → Bool → (List Task) → Int → Int → Int → (List Int) → Int → Int → Int → Int → (Int → Bool → Bool → (List Task) → Int → Int → Int → (List Int) → Prop) → Prop :=
  fun x1 x2 x3 x4 x5 x6 x7 x8 _ x10 x11 x12 kn ↦ br (inb x10 (↑8 : Int)) (br (inb x10 (↑8 : Int)) (kn x1 x2 x3 x4 (if IntKind.i64.wrap (x12 - x11) < x5 then IntKind.i64.wrap (x12 - x11) else x5) (if IntKind.i64.wrap (x12 - x11) > x6 then IntKind.i64.wrap (x12 - x11) else x6) x7 (x8.set x10.toNat (IntKind.i64.wrap (x8.getD x10.toNat 0 + 1)))) False) False
def v_4_16 (vs : List (SV env.T)) (K : Ex → List (SV env.T) → Prop) : Prop :=
  dCI .i64 vs fun x1 vs => dCB vs fun x2 vs => dCB vs fun x3 vs => dCD 39 vs fun x4 vs => dCI .i64 vs fun x5 vs => dCI .i64 vs fun x6 vs => dCI .i64 vs fun x7 vs => dCA .i64 8 vs fun x8 vs => dCI .i64 vs fun x9 vs => dCI .i64 vs fun x10 vs => dCI .i64 vs fun x11 vs => dCI .i64 vs fun x12 vs => dCE vs (s_4_16 x1 x2 x3 x4 x5 x6 x7 x8 x9 x10 x11 x12 (fun y1 y2 y3 y4 y5 y6 y7 y8 => K .normal [.int .i64 y1, .bool y2, .bool y3, .dat 39 y4, .int .i64 y5, .int .i64 y6, .int .i64 y7, .arr .i64 8 y8]))
def q_4_16 : Piece env := ⟨⟨[.any, .any, .any, .hole, .any, .any, .any, .any, .hole, .hole, .holeD 39, .any, .ptr 0 0, .hole, .hole, .hole, .ptr 1 0, .any, .any, .any, .any, .any, .any, .any, .any, .any, .any, .any, .any, .any, .any, .any, .any, .any, .any, .any, .any, .any, .any, .any, .any, .any, .any, .any, .any, .any, .any, .any, .any, .any, .any, .any, .any, .any, .any, .any, .any, .any, .any, .any, .any, .any, .any, .any, .any, .any, .any, .any, .any, .any, .any, .any, .any, .any, .any, .any, .any, .any, .any, .any, .any, .any, .any, .any, .any, .any, .any, .any, .any, .any, .any, .any, .any, .any, .any, .any, .any, .any, .any, .any, .any, .any, .any, .any, .any, .any, .any, .any, .any, .any, .any, .any, .any, .any, .any, .any, .any, .any, .any, .any, .any, .any, .any, .any, .any, .any, .any, .any, .any, .any, .any, .any, .any, .any, .any, .any, .any, .any, .any, .any, .any, .any, .any, .any, .any, .any, .any, .any, .any, .any, .any, .any, .any, .any, .any, .any, .any, .any, .any, .any, .any], [], [(0, .cells 40 [.hole]), (1, .cells 39 [.hole, .hole, .hole, .hole])], 2⟩, exitF (some ⟨[.any, .any, .any, .hole, .any, .any, .any, .any, .hole, .hole, .holeD 39, .any, .ptr 0 0, .hole, .hole, .hole, .any, .any, .any, .any, .any, .any, .any, .any, .any, .any, .any, .any, .any, .any, .any, .any, .any, .any, .any, .any, .any, .any, .any, .any, .any, .any, .any, .any, .any, .any, .any, .any, .any, .any, .any, .any, .any, .any, .any, .any, .any, .any, .any, .any, .any, .any, .any, .any, .any, .any, .any, .any, .any, .any, .any, .any, .any, .any, .any, .any, .any, .any, .any, .any, .any, .any, .any, .any, .any, .any, .any, .any, .any, .any, .any, .any, .any, .any, .any, .any, .any, .any, .any, .any, .any, .any, .any, .any, .any, .any, .any, .any, .any, .any, .any, .any, .any, .any, .any, .any, .any, .any, .any, .any, .any, .any, .any, .any, .any, .any, .any, .any, .any, .any, .any, .any, .any, .any, .any, .any, .any, .any, .any, .any, .any, .any, .any, .any, .any, .any, .any, .any, .any, .any, .any, .any, .any, .any, .any, .any, .any, .any, .any, .any, .any], [], [(0, .cells 40 [.hole])], 1⟩) [] none, v_4_16⟩
def l_4_11 : Nat → Int → Bool → Bool → (List Task) → Int → Int → Int → (List Int) → (Bool → Prop) → (Int → Bool → Bool → Int → Int → (List Int) → Prop) → Prop
  | 0 => fun _ _ _ _ _ _ _ _ _ _ => False
  | k + 1 => fun x1 x2 x3 x4 x5 x6 x7 x8 kr k0 ↦ br (decide (x7 < (↑x4.length : Int))) (br (inb x7 (↑x4.length : Int)) (br ((x4.getD x7.toNat (env.d 39)).number != x7) (kr false) (br (decide ((x4.getD x7.toNat (env.d 39)).worker < 0)) (kr false) (br (decide ((x4.getD x7.toNat (env.d 39)).worker ≥ x1)) (kr false) (br (decide (x1 > 8)) (kr false) (br (decide (x7 > 0)) (br (inb (IntKind.i64.wrap (x7 - 1)) (↑x4.length : Int)) (br ((x4.getD x7.toNat (env.d 39)).from_ != (x4.getD (IntKind.i64.wrap (x7 - 1)).toNat (env.d 39)).to_) (kr false) (s_4_16 x1 x2 x3 x4 x5 x6 x7 x8 (x4.getD x7.toNat (env.d 39)).number (x4.getD x7.toNat (env.d 39)).worker (x4.getD x7.toNat (env.d 39)).from_ (x4.getD x7.toNat (env.d 39)).to_ fun y12 y13 y14 y15 y16 y17 y18 y19 ↦ l_4_11 k y12 y13 y14 y15 y16 y17 (IntKind.i64.wrap (y18 + 1)) y19 kr k0)) False) (s_4_16 x1 x2 x3 x4 x5 x6 x7 x8 (x4.getD x7.toNat (env.d 39)).number (x4.getD x7.toNat (env.d 39)).worker (x4.getD x7.toNat (env.d 39)).from_ (x4.getD x7.toNat (env.d 39)).to_ fun y12 y13 y14 y15 y16 y17 y18 y19 ↦ l_4_11 k y12 y13 y14 y15 y16 y17 (IntKind.i64.wrap (y18 + 1)) y19 kr k0)))))) False) (k0 x1 x2 x3 x5 x6 x8)
def w_4_11 (k : Nat) (vs : List (SV env.T)) (K : Ex → List (SV env.T) → Prop) : Prop :=
  dCI .i64 vs fun x1 vs => dCB vs fun x2 vs => dCB vs fun x3 vs => dCD 39 vs fun x4 vs => dCI .i64 vs fun x5 vs => dCI .i64 vs fun x6 vs => dCI .i64 vs fun x7 vs => dCA .i64 8 vs fun x8 vs => dCE vs (l_4_11 k x1 x2 x3 x4 x5 x6 x7 x8 (fun y1 => K .ret [.bool y1]) (fun y1 y2 y3 y4 y5 y6 => K (.exit 0) [.int .i64 y1, .bool y2, .bool y3, .int .i64 y4, .int .i64 y5, .arr .i64 8 y6]))
def p_4_11 : Piece env := ⟨⟨[.any, .any, .any, .hole, .any, .any, .any, .any, .hole, .hole, .holeD 39, .any, .ptr 0 0, .hole, .hole, .hole, .any, .any, .any, .any, .any, .any, .any, .any, .any, .any, .any, .any, .any, .any, .any, .any, .any, .any, .any, .any, .any, .any, .any, .any, .any, .any, .any, .any, .any, .any, .any, .any, .any, .any, .any, .any, .any, .any, .any, .any, .any, .any, .any, .any, .any, .any, .any, .any, .any, .any, .any, .any, .any, .any, .any, .any, .any, .any, .any, .any, .any, .any, .any, .any, .any, .any, .any, .any, .any, .any, .any, .any, .any, .any, .any, .any, .any, .any, .any, .any, .any, .any, .any, .any, .any, .any, .any, .any, .any, .any, .any, .any, .any, .any, .any, .any, .any, .any, .any, .any, .any, .any, .any, .any, .any, .any, .any, .any, .any, .any, .any, .any, .any, .any, .any, .any, .any, .any, .any, .any, .any, .any, .any, .any, .any, .any, .any, .any, .any, .any, .any, .any, .any, .any, .any, .any, .any, .any, .any, .any, .any, .any, .any, .any, .any], [], [(0, .cells 40 [.hole])], 1⟩, exitF none [(0, ⟨[.any, .any, .any, .hole, .any, .any, .any, .any, .hole, .hole, .any, .any, .ptr 0 0, .hole, .hole, .any, .any, .any, .any, .any, .any, .any, .any, .any, .any, .any, .any, .any, .any, .any, .any, .any, .any, .any, .any, .any, .any, .any, .any, .any, .any, .any, .any, .any, .any, .any, .any, .any, .any, .any, .any, .any, .any, .any, .any, .any, .any, .any, .any, .any, .any, .any, .any, .any, .any, .any, .any, .any, .any, .any, .any, .any, .any, .any, .any, .any, .any, .any, .any, .any, .any, .any, .any, .any, .any, .any, .any, .any, .any, .any, .any, .any, .any, .any, .any, .any, .any, .any, .any, .any, .any, .any, .any, .any, .any, .any, .any, .any, .any, .any, .any, .any, .any, .any, .any, .any, .any, .any, .any, .any, .any, .any, .any, .any, .any, .any, .any, .any, .any, .any, .any, .any, .any, .any, .any, .any, .any, .any, .any, .any, .any, .any, .any, .any, .any, .any, .any, .any, .any, .any, .any, .any, .any, .any, .any, .any, .any, .any, .any, .any, .any], [], [(0, .cells 40 [.hole])], 1⟩)] (some ⟨[.any, .any, .any, .any, .any, .any, .any, .any, .hole, .any, .any, .any, .any, .any, .any, .any, .any, .any, .any, .any, .any, .any, .any, .any, .any, .any, .any, .any, .any, .any, .any, .any, .any, .any, .any, .any, .any, .any, .any, .any, .any, .any, .any, .any, .any, .any, .any, .any, .any, .any, .any, .any, .any, .any, .any, .any, .any, .any, .any, .any, .any, .any, .any, .any, .any, .any, .any, .any, .any, .any, .any, .any, .any, .any, .any, .any, .any, .any, .any, .any, .any, .any, .any, .any, .any, .any, .any, .any, .any, .any, .any, .any, .any, .any, .any, .any, .any, .any, .any, .any, .any, .any, .any, .any, .any, .any, .any, .any, .any, .any, .any, .any, .any, .any, .any, .any, .any, .any, .any, .any, .any, .any, .any, .any, .any, .any, .any, .any, .any, .any, .any, .any, .any, .any, .any, .any, .any, .any, .any, .any, .any, .any, .any, .any, .any, .any, .any, .any, .any, .any, .any, .any, .any, .any, .any, .any, .any, .any, .any, .any, .any], [], [], 0⟩), fun vs K => ∃ k, w_4_11 k vs K⟩
def l_4_23 : Nat → Int → Bool → Bool → Int → Int → Int → Int → (List Int) → (Int → Bool → Bool → Int → Int → Int → (List Int) → Prop) → Prop
  | 0 => fun _ _ _ _ _ _ _ _ _ => False
  | k + 1 => fun x1 x2 x3 x4 x5 x6 x7 x8 k4 ↦ br (decide (x7 < x1)) (br x3 (br (inb x6 (↑8 : Int)) (br (inb x7 (↑8 : Int)) (l_4_23 k x1 x2 (decide (IntKind.i64.wrap (x8.getD x6.toNat 0 - x8.getD x7.toNat 0) ≤ 1)) x4 x5 x6 (IntKind.i64.wrap (x7 + 1)) x8 k4) False) False) (l_4_23 k x1 x2 false x4 x5 x6 (IntKind.i64.wrap (x7 + 1)) x8 k4)) (k4 x1 x2 x3 x4 x5 x6 x8)
def w_4_23 (k : Nat) (vs : List (SV env.T)) (K : Ex → List (SV env.T) → Prop) : Prop :=
  dCI .i64 vs fun x1 vs => dCB vs fun x2 vs => dCB vs fun x3 vs => dCI .i64 vs fun x4 vs => dCI .i64 vs fun x5 vs => dCI .i64 vs fun x6 vs => dCI .i64 vs fun x7 vs => dCA .i64 8 vs fun x8 vs => dCE vs (l_4_23 k x1 x2 x3 x4 x5 x6 x7 x8 (fun y1 y2 y3 y4 y5 y6 y7 => K (.exit 4) [.int .i64 y1, .bool y2, .bool y3, .int .i64 y4, .int .i64 y5, .int .i64 y6, .arr .i64 8 y7]))
def p_4_23 : Piece env := ⟨⟨[.any, .any, .any, .hole, .any, .any, .any, .any, .hole, .hole, .any, .any, .ptr 0 0, .hole, .hole, .any, .any, .hole, .hole, .any, .any, .any, .any, .any, .any, .any, .any, .any, .any, .any, .any, .any, .any, .any, .any, .any, .any, .any, .any, .any, .any, .any, .any, .any, .any, .any, .any, .any, .any, .any, .any, .any, .any, .any, .any, .any, .any, .any, .any, .any, .any, .any, .any, .any, .any, .any, .any, .any, .any, .any, .any, .any, .any, .any, .any, .any, .any, .any, .any, .any, .any, .any, .any, .any, .any, .any, .any, .any, .any, .any, .any, .any, .any, .any, .any, .any, .any, .any, .any, .any, .any, .any, .any, .any, .any, .any, .any, .any, .any, .any, .any, .any, .any, .any, .any, .any, .any, .any, .any, .any, .any, .any, .any, .any, .any, .any, .any, .any, .any, .any, .any, .any, .any, .any, .any, .any, .any, .any, .any, .any, .any, .any, .any, .any, .any, .any, .any, .any, .any, .any, .any, .any, .any, .any, .any, .any, .any, .any, .any, .any, .any], [], [(0, .cells 40 [.hole])], 1⟩, exitF none [(4, ⟨[.any, .any, .any, .hole, .any, .any, .any, .any, .hole, .hole, .any, .any, .ptr 0 0, .hole, .hole, .any, .any, .hole, .any, .any, .any, .any, .any, .any, .any, .any, .any, .any, .any, .any, .any, .any, .any, .any, .any, .any, .any, .any, .any, .any, .any, .any, .any, .any, .any, .any, .any, .any, .any, .any, .any, .any, .any, .any, .any, .any, .any, .any, .any, .any, .any, .any, .any, .any, .any, .any, .any, .any, .any, .any, .any, .any, .any, .any, .any, .any, .any, .any, .any, .any, .any, .any, .any, .any, .any, .any, .any, .any, .any, .any, .any, .any, .any, .any, .any, .any, .any, .any, .any, .any, .any, .any, .any, .any, .any, .any, .any, .any, .any, .any, .any, .any, .any, .any, .any, .any, .any, .any, .any, .any, .any, .any, .any, .any, .any, .any, .any, .any, .any, .any, .any, .any, .any, .any, .any, .any, .any, .any, .any, .any, .any, .any, .any, .any, .any, .any, .any, .any, .any, .any, .any, .any, .any, .any, .any, .any, .any, .any, .any, .any, .any], [], [(0, .cells 40 [.hole])], 1⟩)] none, fun vs K => ∃ k, w_4_23 k vs K⟩
def l_4_20 : Nat → Int → Bool → Bool → Int → Int → Int → (List Int) → (Bool → Bool → Int → Int → Prop) → Prop
  | 0 => fun _ _ _ _ _ _ _ _ => False
  | k + 1 => fun x1 x2 x3 x4 x5 x6 x7 k2 ↦ br (decide (x6 < x1)) (∃ k10, l_4_23 k10 x1 x2 x3 x4 x5 x6 0 x7 fun y11 y12 y13 y14 y15 y16 y17 ↦ l_4_20 k y11 y12 y13 y14 y15 (IntKind.i64.wrap (y16 + 1)) y17 k2) (k2 x2 x3 x4 x5)
def w_4_20 (k : Nat) (vs : List (SV env.T)) (K : Ex → List (SV env.T) → Prop) : Prop :=
  dCI .i64 vs fun x1 vs => dCB vs fun x2 vs => dCB vs fun x3 vs => dCI .i64 vs fun x4 vs => dCI .i64 vs fun x5 vs => dCI .i64 vs fun x6 vs => dCA .i64 8 vs fun x7 vs => dCE vs (l_4_20 k x1 x2 x3 x4 x5 x6 x7 (fun y1 y2 y3 y4 => K (.exit 2) [.bool y1, .bool y2, .int .i64 y3, .int .i64 y4]))
def p_4_20 : Piece env := ⟨⟨[.any, .any, .any, .hole, .any, .any, .any, .any, .hole, .hole, .any, .any, .ptr 0 0, .hole, .hole, .any, .any, .hole, .any, .any, .any, .any, .any, .any, .any, .any, .any, .any, .any, .any, .any, .any, .any, .any, .any, .any, .any, .any, .any, .any, .any, .any, .any, .any, .any, .any, .any, .any, .any, .any, .any, .any, .any, .any, .any, .any, .any, .any, .any, .any, .any, .any, .any, .any, .any, .any, .any, .any, .any, .any, .any, .any, .any, .any, .any, .any, .any, .any, .any, .any, .any, .any, .any, .any, .any, .any, .any, .any, .any, .any, .any, .any, .any, .any, .any, .any, .any, .any, .any, .any, .any, .any, .any, .any, .any, .any, .any, .any, .any, .any, .any, .any, .any, .any, .any, .any, .any, .any, .any, .any, .any, .any, .any, .any, .any, .any, .any, .any, .any, .any, .any, .any, .any, .any, .any, .any, .any, .any, .any, .any, .any, .any, .any, .any, .any, .any, .any, .any, .any, .any, .any, .any, .any, .any, .any, .any, .any, .any, .any, .any, .any], [], [(0, .cells 40 [.hole])], 1⟩, exitF none [(2, ⟨[.any, .any, .any, .any, .any, .any, .any, .any, .hole, .hole, .any, .any, .any, .hole, .hole, .any, .any, .any, .any, .any, .any, .any, .any, .any, .any, .any, .any, .any, .any, .any, .any, .any, .any, .any, .any, .any, .any, .any, .any, .any, .any, .any, .any, .any, .any, .any, .any, .any, .any, .any, .any, .any, .any, .any, .any, .any, .any, .any, .any, .any, .any, .any, .any, .any, .any, .any, .any, .any, .any, .any, .any, .any, .any, .any, .any, .any, .any, .any, .any, .any, .any, .any, .any, .any, .any, .any, .any, .any, .any, .any, .any, .any, .any, .any, .any, .any, .any, .any, .any, .any, .any, .any, .any, .any, .any, .any, .any, .any, .any, .any, .any, .any, .any, .any, .any, .any, .any, .any, .any, .any, .any, .any, .any, .any, .any, .any, .any, .any, .any, .any, .any, .any, .any, .any, .any, .any, .any, .any, .any, .any, .any, .any, .any, .any, .any, .any, .any, .any, .any, .any, .any, .any, .any, .any, .any, .any, .any, .any, .any, .any, .any], [], [], 0⟩)] none, fun vs K => ∃ k, w_4_20 k vs K⟩
def s_4_7 : Int → Int → Int → Bool → Bool → (List Task) → (Bool → Prop) → Prop :=
  fun x1 x2 x3 x4 x5 x6 kr ↦ ∃ k9, l_4_11 k9 x3 x4 x5 x6 (IntKind.i64.wrap (x2 - x1)) 0 0 [0, 0, 0, 0, 0, 0, 0, 0] kr fun y10 y11 y12 y13 y14 y15 ↦ ∃ k16, l_4_20 k16 y10 y11 y12 y13 y14 0 y15 fun _ y18 y19 y20 ↦ br y18 (br (decide (y19 ≥ 1)) (kr (decide (IntKind.i64.wrap (y20 - y19) ≤ 1))) (kr false)) (kr false)
def v_4_7 (vs : List (SV env.T)) (K : Ex → List (SV env.T) → Prop) : Prop :=
  dCI .i64 vs fun x1 vs => dCI .i64 vs fun x2 vs => dCI .i64 vs fun x3 vs => dCB vs fun x4 vs => dCB vs fun x5 vs => dCD 39 vs fun x6 vs => dCE vs (s_4_7 x1 x2 x3 x4 x5 x6 (fun y1 => K .ret [.bool y1]))
def q_4_7 : Piece env := ⟨⟨[.hole, .hole, .any, .hole, .any, .any, .any, .any, .hole, .hole, .holeD 39, .any, .any, .any, .any, .any, .any, .any, .any, .any, .any, .any, .any, .any, .any, .any, .any, .any, .any, .any, .any, .any, .any, .any, .any, .any, .any, .any, .any, .any, .any, .any, .any, .any, .any, .any, .any, .any, .any, .any, .any, .any, .any, .any, .any, .any, .any, .any, .any, .any, .any, .any, .any, .any, .any, .any, .any, .any, .any, .any, .any, .any, .any, .any, .any, .any, .any, .any, .any, .any, .any, .any, .any, .any, .any, .any, .any, .any, .any, .any, .any, .any, .any, .any, .any, .any, .any, .any, .any, .any, .any, .any, .any, .any, .any, .any, .any, .any, .any, .any, .any, .any, .any, .any, .any, .any, .any, .any, .any, .any, .any, .any, .any, .any, .any, .any, .any, .any, .any, .any, .any, .any, .any, .any, .any, .any, .any, .any, .any, .any, .any, .any, .any, .any, .any, .any, .any, .any, .any, .any, .any, .any, .any, .any, .any, .any, .any, .any, .any, .any, .any], [], [], 0⟩, exitF none [] (some ⟨[.any, .any, .any, .any, .any, .any, .any, .any, .hole, .any, .any, .any, .any, .any, .any, .any, .any, .any, .any, .any, .any, .any, .any, .any, .any, .any, .any, .any, .any, .any, .any, .any, .any, .any, .any, .any, .any, .any, .any, .any, .any, .any, .any, .any, .any, .any, .any, .any, .any, .any, .any, .any, .any, .any, .any, .any, .any, .any, .any, .any, .any, .any, .any, .any, .any, .any, .any, .any, .any, .any, .any, .any, .any, .any, .any, .any, .any, .any, .any, .any, .any, .any, .any, .any, .any, .any, .any, .any, .any, .any, .any, .any, .any, .any, .any, .any, .any, .any, .any, .any, .any, .any, .any, .any, .any, .any, .any, .any, .any, .any, .any, .any, .any, .any, .any, .any, .any, .any, .any, .any, .any, .any, .any, .any, .any, .any, .any, .any, .any, .any, .any, .any, .any, .any, .any, .any, .any, .any, .any, .any, .any, .any, .any, .any, .any, .any, .any, .any, .any, .any, .any, .any, .any, .any, .any, .any, .any, .any, .any, .any, .any], [], [], 0⟩), v_4_7⟩
noncomputable def B4 : Int → Int → Int → Int → (Y4 → Prop) → Prop :=
  fun x0 x1 x2 x3 K ↦ V8 fun y5 ↦ V10 x0 x1 x2 x3 fun y6 ↦ br (y6.snd != 0) (br y5 (K ((↑y6.fst.length : Int) == 0)) (K false)) (br ((↑y6.fst.length : Int) != x2) (K false) (br (decide (x2 < 1)) (K false) (br (inb 0 (↑y6.fst.length : Int)) (br ((y6.fst.getD 0 (env.d 39)).from_ != x0) (K false) (br (inb (IntKind.i64.wrap (x2 - 1)) (↑y6.fst.length : Int)) (br ((y6.fst.getD (IntKind.i64.wrap (x2 - 1)).toNat (env.d 39)).to_ != x1) (K false) (s_4_7 x0 x1 x3 false y5 y6.fst K)) False)) False)))
theorem V4_ex : ∃ V : Int → Int → Int → Int → (Y4 → Prop) → Prop, V = B4 := ⟨_, rfl⟩
noncomputable def V4 : Int → Int → Int → Int → (Y4 → Prop) → Prop := Classical.choose V4_ex
theorem V4_eq : V4 = B4 := Classical.choose_spec V4_ex
theorem pooq_4_16_4 : PiecesOk Try.prog env (ctxG env false [] R3 [] []) 4 b4 :=
  pieces_at (rfIn_body (fn := f4) (b := b4) rfl hb4) (L := []) (S := []) (fun _ => rfl) (fun _ => rfl) (by kernel_rfl) (by kernel_rfl) (fun _ hq => by cases hq) (fun _ hq => by cases hq)
theorem booq_4_16 : BodiesOk Try.prog env (ctxG env false [] R3 [] []) := bodies_okG (ks := []) (by kernel_rfl) (fun _ hq => by cases hq)
theorem stoq_4_16 (x1 : Int) (x2 : Bool) (x3 : Bool) (x4 : (List Task)) (x5 : Int) (x6 : Int) (x7 : Int) (x8 : (List Int)) (x9 : Int) (x10 : Int) (x11 : Int) (x12 : Int) (K : Ex → List (SV env.T) → Prop) : s_4_16  x1 x2 x3 x4 x5 x6 x7 x8 x9 x10 x11 x12 (fun y1 y2 y3 y4 y5 y6 y7 y8 => K .normal [.int .i64 y1, .bool y2, .bool y3, .dat 39 y4, .int .i64 y5, .int .i64 y6, .int .i64 y7, .arr .i64 8 y8]) = vcCode env (ctxG env false [] R3 [] []) 2000 4 (seqAt b4 16) (insSt q_4_16.head [.int .i64 x1, .bool x2, .bool x3, .dat 39 x4, .int .i64 x5, .int .i64 x6, .int .i64 x7, .arr .i64 8 x8, .int .i64 x9, .int .i64 x10, .int .i64 x11, .int .i64 x12]) (outP env q_4_16 K) := by kernel_rfl
theorem wioq_4_16 (vs : List (SV env.T)) (K : Ex → List (SV env.T) → Prop) (h : v_4_16 vs K) : ∃ x1 : Int, ∃ x2 : Bool, ∃ x3 : Bool, ∃ x4 : (List Task), ∃ x5 : Int, ∃ x6 : Int, ∃ x7 : Int, ∃ x8 : (List Int), ∃ x9 : Int, ∃ x10 : Int, ∃ x11 : Int, ∃ x12 : Int, vs = [.int .i64 x1, .bool x2, .bool x3, .dat 39 x4, .int .i64 x5, .int .i64 x6, .int .i64 x7, .arr .i64 8 x8, .int .i64 x9, .int .i64 x10, .int .i64 x11, .int .i64 x12] ∧ s_4_16  x1 x2 x3 x4 x5 x6 x7 x8 x9 x10 x11 x12 (fun y1 y2 y3 y4 y5 y6 y7 y8 => K .normal [.int .i64 y1, .bool y2, .bool y3, .dat 39 y4, .int .i64 y5, .int .i64 y6, .int .i64 y7, .arr .i64 8 y8]) := by
  unfold v_4_16 at h
  replace h := dCI_spec h
  obtain ⟨x1, vs0, e0, h⟩ := h
  replace h := dCB_spec h
  obtain ⟨x2, vs1, e1, h⟩ := h
  replace h := dCB_spec h
  obtain ⟨x3, vs2, e2, h⟩ := h
  replace h := dCD_spec h
  obtain ⟨x4, vs3, e3, h⟩ := h
  replace h := dCI_spec h
  obtain ⟨x5, vs4, e4, h⟩ := h
  replace h := dCI_spec h
  obtain ⟨x6, vs5, e5, h⟩ := h
  replace h := dCI_spec h
  obtain ⟨x7, vs6, e6, h⟩ := h
  replace h := dCA_spec h
  obtain ⟨x8, vs7, e7, h⟩ := h
  replace h := dCI_spec h
  obtain ⟨x9, vs8, e8, h⟩ := h
  replace h := dCI_spec h
  obtain ⟨x10, vs9, e9, h⟩ := h
  replace h := dCI_spec h
  obtain ⟨x11, vs10, e10, h⟩ := h
  replace h := dCI_spec h
  obtain ⟨x12, vs11, e11, h⟩ := h
  replace h := dCE_spec h
  obtain ⟨e, h⟩ := h
  exact ⟨x1, x2, x3, x4, x5, x6, x7, x8, x9, x10, x11, x12, by rw [e0, e1, e2, e3, e4, e5, e6, e7, e8, e9, e10, e11, e], h⟩
theorem oq_4_16 : PieceOk Try.prog env q_4_16 (seqAt b4 16) := by
  refine seq_step tab (ctxG_ok R3_ok false [] _ _) booq_4_16 (pieces_subS pooq_4_16_4 (by kernel_rfl)) 2000 ?_
  intro vs K h
  obtain ⟨x1, x2, x3, x4, x5, x6, x7, x8, x9, x10, x11, x12, rfl, h⟩ := wioq_4_16 vs K h
  exact Eq.mp (stoq_4_16 x1 x2 x3 x4 x5 x6 x7 x8 x9 x10 x11 x12 K) h
theorem pook_4_11_4 : PiecesOk Try.prog env (ctxG env false [] R3 [] [(4, [(16, q_4_16)])]) 4 b4 :=
  pieces_at (rfIn_body (fn := f4) (b := b4) rfl hb4) (L := []) (S := [(16, q_4_16)]) (fun _ => rfl) (fun _ => rfl) (by kernel_rfl) (by kernel_rfl) (fun _ hq => by cases hq) (List.forall_mem_cons.2 ⟨fun _ => oq_4_16, (fun _ hq => by cases hq)⟩)
theorem book_4_11 : BodiesOk Try.prog env (ctxG env false [] R3 [] [(4, [(16, q_4_16)])]) := bodies_okG (ks := [4]) (by kernel_rfl) (List.forall_mem_cons.2 ⟨body_at (fn := f4) (body := b4) rfl hb4 pook_4_11_4, (fun _ hq => by cases hq)⟩)
theorem stok_4_11 (k : Nat) (x1 : Int) (x2 : Bool) (x3 : Bool) (x4 : (List Task)) (x5 : Int) (x6 : Int) (x7 : Int) (x8 : (List Int)) (K : Ex → List (SV env.T) → Prop) : l_4_11 (k + 1) x1 x2 x3 x4 x5 x6 x7 x8 (fun y1 => K .ret [.bool y1]) (fun y1 y2 y3 y4 y5 y6 => K (.exit 0) [.int .i64 y1, .bool y2, .bool y3, .int .i64 y4, .int .i64 y5, .arr .i64 8 y6]) = vcCode env (ctxG env false [] R3 [] [(4, [(16, q_4_16)])]) 2000 4 (loopAt b4 11) (insSt p_4_11.head [.int .i64 x1, .bool x2, .bool x3, .dat 39 x4, .int .i64 x5, .int .i64 x6, .int .i64 x7, .arr .i64 8 x8]) (stepK p_4_11 (w_4_11 k) K) := by kernel_rfl
theorem wiok_4_11 (k : Nat) (vs : List (SV env.T)) (K : Ex → List (SV env.T) → Prop) (h : w_4_11 k vs K) : ∃ x1 : Int, ∃ x2 : Bool, ∃ x3 : Bool, ∃ x4 : (List Task), ∃ x5 : Int, ∃ x6 : Int, ∃ x7 : Int, ∃ x8 : (List Int), vs = [.int .i64 x1, .bool x2, .bool x3, .dat 39 x4, .int .i64 x5, .int .i64 x6, .int .i64 x7, .arr .i64 8 x8] ∧ l_4_11 k x1 x2 x3 x4 x5 x6 x7 x8 (fun y1 => K .ret [.bool y1]) (fun y1 y2 y3 y4 y5 y6 => K (.exit 0) [.int .i64 y1, .bool y2, .bool y3, .int .i64 y4, .int .i64 y5, .arr .i64 8 y6]) := by
  unfold w_4_11 at h
  replace h := dCI_spec h
  obtain ⟨x1, vs0, e0, h⟩ := h
  replace h := dCB_spec h
  obtain ⟨x2, vs1, e1, h⟩ := h
  replace h := dCB_spec h
  obtain ⟨x3, vs2, e2, h⟩ := h
  replace h := dCD_spec h
  obtain ⟨x4, vs3, e3, h⟩ := h
  replace h := dCI_spec h
  obtain ⟨x5, vs4, e4, h⟩ := h
  replace h := dCI_spec h
  obtain ⟨x6, vs5, e5, h⟩ := h
  replace h := dCI_spec h
  obtain ⟨x7, vs6, e6, h⟩ := h
  replace h := dCA_spec h
  obtain ⟨x8, vs7, e7, h⟩ := h
  replace h := dCE_spec h
  obtain ⟨e, h⟩ := h
  exact ⟨x1, x2, x3, x4, x5, x6, x7, x8, by rw [e0, e1, e2, e3, e4, e5, e6, e7, e], h⟩
theorem zeok_4_11 (x1 : Int) (x2 : Bool) (x3 : Bool) (x4 : (List Task)) (x5 : Int) (x6 : Int) (x7 : Int) (x8 : (List Int)) (K : Ex → List (SV env.T) → Prop) : l_4_11 0 x1 x2 x3 x4 x5 x6 x7 x8 (fun y1 => K .ret [.bool y1]) (fun y1 y2 y3 y4 y5 y6 => K (.exit 0) [.int .i64 y1, .bool y2, .bool y3, .int .i64 y4, .int .i64 y5, .arr .i64 8 y6]) = False := by kernel_rfl
theorem ok_4_11 : PieceOk Try.prog env p_4_11 (.loop (loopAt b4 11)) := by
  refine loop_step (Wn := w_4_11) tab (ctxG_ok R3_ok false [] _ _) book_4_11 (pieces_sub pook_4_11_4 (by kernel_rfl)) rfl ?_ 2000 ?_
  · intro vs K h
    obtain ⟨x1, x2, x3, x4, x5, x6, x7, x8, _, h⟩ := wiok_4_11 0 vs K h
    exact Eq.mp (zeok_4_11 x1 x2 x3 x4 x5 x6 x7 x8 K) h
  · intro k vs K h
    obtain ⟨x1, x2, x3, x4, x5, x6, x7, x8, rfl, h⟩ := wiok_4_11 (k + 1) vs K h
    exact Eq.mp (stok_4_11 k x1 x2 x3 x4 x5 x6 x7 x8 K) h
theorem pook_4_23_4 : PiecesOk Try.prog env (ctxG env false [] R3 [] []) 4 b4 :=
  pieces_at (rfIn_body (fn := f4) (b := b4) rfl hb4) (L := []) (S := []) (fun _ => rfl) (fun _ => rfl) (by kernel_rfl) (by kernel_rfl) (fun _ hq => by cases hq) (fun _ hq => by cases hq)
theorem book_4_23 : BodiesOk Try.prog env (ctxG env false [] R3 [] []) := bodies_okG (ks := []) (by kernel_rfl) (fun _ hq => by cases hq)
theorem stok_4_23 (k : Nat) (x1 : Int) (x2 : Bool) (x3 : Bool) (x4 : Int) (x5 : Int) (x6 : Int) (x7 : Int) (x8 : (List Int)) (K : Ex → List (SV env.T) → Prop) : l_4_23 (k + 1) x1 x2 x3 x4 x5 x6 x7 x8 (fun y1 y2 y3 y4 y5 y6 y7 => K (.exit 4) [.int .i64 y1, .bool y2, .bool y3, .int .i64 y4, .int .i64 y5, .int .i64 y6, .arr .i64 8 y7]) = vcCode env (ctxG env false [] R3 [] []) 2000 4 (loopAt b4 23) (insSt p_4_23.head [.int .i64 x1, .bool x2, .bool x3, .int .i64 x4, .int .i64 x5, .int .i64 x6, .int .i64 x7, .arr .i64 8 x8]) (stepK p_4_23 (w_4_23 k) K) := by kernel_rfl
theorem wiok_4_23 (k : Nat) (vs : List (SV env.T)) (K : Ex → List (SV env.T) → Prop) (h : w_4_23 k vs K) : ∃ x1 : Int, ∃ x2 : Bool, ∃ x3 : Bool, ∃ x4 : Int, ∃ x5 : Int, ∃ x6 : Int, ∃ x7 : Int, ∃ x8 : (List Int), vs = [.int .i64 x1, .bool x2, .bool x3, .int .i64 x4, .int .i64 x5, .int .i64 x6, .int .i64 x7, .arr .i64 8 x8] ∧ l_4_23 k x1 x2 x3 x4 x5 x6 x7 x8 (fun y1 y2 y3 y4 y5 y6 y7 => K (.exit 4) [.int .i64 y1, .bool y2, .bool y3, .int .i64 y4, .int .i64 y5, .int .i64 y6, .arr .i64 8 y7]) := by
  unfold w_4_23 at h
  replace h := dCI_spec h
  obtain ⟨x1, vs0, e0, h⟩ := h
  replace h := dCB_spec h
  obtain ⟨x2, vs1, e1, h⟩ := h
  replace h := dCB_spec h
  obtain ⟨x3, vs2, e2, h⟩ := h
  replace h := dCI_spec h
  obtain ⟨x4, vs3, e3, h⟩ := h
  replace h := dCI_spec h
  obtain ⟨x5, vs4, e4, h⟩ := h
  replace h := dCI_spec h
  obtain ⟨x6, vs5, e5, h⟩ := h
  replace h := dCI_spec h
  obtain ⟨x7, vs6, e6, h⟩ := h
  replace h := dCA_spec h
  obtain ⟨x8, vs7, e7, h⟩ := h
  replace h := dCE_spec h
  obtain ⟨e, h⟩ := h
  exact ⟨x1, x2, x3, x4, x5, x6, x7, x8, by rw [e0, e1, e2, e3, e4, e5, e6, e7, e], h⟩
theorem zeok_4_23 (x1 : Int) (x2 : Bool) (x3 : Bool) (x4 : Int) (x5 : Int) (x6 : Int) (x7 : Int) (x8 : (List Int)) (K : Ex → List (SV env.T) → Prop) : l_4_23 0 x1 x2 x3 x4 x5 x6 x7 x8 (fun y1 y2 y3 y4 y5 y6 y7 => K (.exit 4) [.int .i64 y1, .bool y2, .bool y3, .int .i64 y4, .int .i64 y5, .int .i64 y6, .arr .i64 8 y7]) = False := by kernel_rfl
theorem ok_4_23 : PieceOk Try.prog env p_4_23 (.loop (loopAt b4 23)) := by
  refine loop_step (Wn := w_4_23) tab (ctxG_ok R3_ok false [] _ _) book_4_23 (pieces_sub pook_4_23_4 (by kernel_rfl)) rfl ?_ 2000 ?_
  · intro vs K h
    obtain ⟨x1, x2, x3, x4, x5, x6, x7, x8, _, h⟩ := wiok_4_23 0 vs K h
    exact Eq.mp (zeok_4_23 x1 x2 x3 x4 x5 x6 x7 x8 K) h
  · intro k vs K h
    obtain ⟨x1, x2, x3, x4, x5, x6, x7, x8, rfl, h⟩ := wiok_4_23 (k + 1) vs K h
    exact Eq.mp (stok_4_23 k x1 x2 x3 x4 x5 x6 x7 x8 K) h
theorem pook_4_20_4 : PiecesOk Try.prog env (ctxG env false [] R3 [(4, [(23, p_4_23)])] []) 4 b4 :=
  pieces_at (rfIn_body (fn := f4) (b := b4) rfl hb4) (L := [(23, p_4_23)]) (S := []) (fun _ => rfl) (fun _ => rfl) (by kernel_rfl) (by kernel_rfl) (List.forall_mem_cons.2 ⟨fun _ => ok_4_23, (fun _ hq => by cases hq)⟩) (fun _ hq => by cases hq)
theorem book_4_20 : BodiesOk Try.prog env (ctxG env false [] R3 [(4, [(23, p_4_23)])] []) := bodies_okG (ks := [4]) (by kernel_rfl) (List.forall_mem_cons.2 ⟨body_at (fn := f4) (body := b4) rfl hb4 pook_4_20_4, (fun _ hq => by cases hq)⟩)
theorem stok_4_20 (k : Nat) (x1 : Int) (x2 : Bool) (x3 : Bool) (x4 : Int) (x5 : Int) (x6 : Int) (x7 : (List Int)) (K : Ex → List (SV env.T) → Prop) : l_4_20 (k + 1) x1 x2 x3 x4 x5 x6 x7 (fun y1 y2 y3 y4 => K (.exit 2) [.bool y1, .bool y2, .int .i64 y3, .int .i64 y4]) = vcCode env (ctxG env false [] R3 [(4, [(23, p_4_23)])] []) 2000 4 (loopAt b4 20) (insSt p_4_20.head [.int .i64 x1, .bool x2, .bool x3, .int .i64 x4, .int .i64 x5, .int .i64 x6, .arr .i64 8 x7]) (stepK p_4_20 (w_4_20 k) K) := by kernel_rfl
theorem wiok_4_20 (k : Nat) (vs : List (SV env.T)) (K : Ex → List (SV env.T) → Prop) (h : w_4_20 k vs K) : ∃ x1 : Int, ∃ x2 : Bool, ∃ x3 : Bool, ∃ x4 : Int, ∃ x5 : Int, ∃ x6 : Int, ∃ x7 : (List Int), vs = [.int .i64 x1, .bool x2, .bool x3, .int .i64 x4, .int .i64 x5, .int .i64 x6, .arr .i64 8 x7] ∧ l_4_20 k x1 x2 x3 x4 x5 x6 x7 (fun y1 y2 y3 y4 => K (.exit 2) [.bool y1, .bool y2, .int .i64 y3, .int .i64 y4]) := by
  unfold w_4_20 at h
  replace h := dCI_spec h
  obtain ⟨x1, vs0, e0, h⟩ := h
  replace h := dCB_spec h
  obtain ⟨x2, vs1, e1, h⟩ := h
  replace h := dCB_spec h
  obtain ⟨x3, vs2, e2, h⟩ := h
  replace h := dCI_spec h
  obtain ⟨x4, vs3, e3, h⟩ := h
  replace h := dCI_spec h
  obtain ⟨x5, vs4, e4, h⟩ := h
  replace h := dCI_spec h
  obtain ⟨x6, vs5, e5, h⟩ := h
  replace h := dCA_spec h
  obtain ⟨x7, vs6, e6, h⟩ := h
  replace h := dCE_spec h
  obtain ⟨e, h⟩ := h
  exact ⟨x1, x2, x3, x4, x5, x6, x7, by rw [e0, e1, e2, e3, e4, e5, e6, e], h⟩
theorem zeok_4_20 (x1 : Int) (x2 : Bool) (x3 : Bool) (x4 : Int) (x5 : Int) (x6 : Int) (x7 : (List Int)) (K : Ex → List (SV env.T) → Prop) : l_4_20 0 x1 x2 x3 x4 x5 x6 x7 (fun y1 y2 y3 y4 => K (.exit 2) [.bool y1, .bool y2, .int .i64 y3, .int .i64 y4]) = False := by kernel_rfl
theorem ok_4_20 : PieceOk Try.prog env p_4_20 (.loop (loopAt b4 20)) := by
  refine loop_step (Wn := w_4_20) tab (ctxG_ok R3_ok false [] _ _) book_4_20 (pieces_sub pook_4_20_4 (by kernel_rfl)) rfl ?_ 2000 ?_
  · intro vs K h
    obtain ⟨x1, x2, x3, x4, x5, x6, x7, _, h⟩ := wiok_4_20 0 vs K h
    exact Eq.mp (zeok_4_20 x1 x2 x3 x4 x5 x6 x7 K) h
  · intro k vs K h
    obtain ⟨x1, x2, x3, x4, x5, x6, x7, rfl, h⟩ := wiok_4_20 (k + 1) vs K h
    exact Eq.mp (stok_4_20 k x1 x2 x3 x4 x5 x6 x7 K) h
theorem pooq_4_7_4 : PiecesOk Try.prog env (ctxG env false [] R3 [(4, [(11, p_4_11), (23, p_4_23), (20, p_4_20)])] [(4, [(16, q_4_16)])]) 4 b4 :=
  pieces_at (rfIn_body (fn := f4) (b := b4) rfl hb4) (L := [(11, p_4_11), (23, p_4_23), (20, p_4_20)]) (S := [(16, q_4_16)]) (fun _ => rfl) (fun _ => rfl) (by kernel_rfl) (by kernel_rfl) (List.forall_mem_cons.2 ⟨fun _ => ok_4_11, (List.forall_mem_cons.2 ⟨fun _ => ok_4_23, (List.forall_mem_cons.2 ⟨fun _ => ok_4_20, (fun _ hq => by cases hq)⟩)⟩)⟩) (List.forall_mem_cons.2 ⟨fun _ => oq_4_16, (fun _ hq => by cases hq)⟩)
theorem booq_4_7 : BodiesOk Try.prog env (ctxG env false [] R3 [(4, [(11, p_4_11), (23, p_4_23), (20, p_4_20)])] [(4, [(16, q_4_16)])]) := bodies_okG (ks := [4]) (by kernel_rfl) (List.forall_mem_cons.2 ⟨body_at (fn := f4) (body := b4) rfl hb4 pooq_4_7_4, (fun _ hq => by cases hq)⟩)
theorem stoq_4_7 (x1 : Int) (x2 : Int) (x3 : Int) (x4 : Bool) (x5 : Bool) (x6 : (List Task)) (K : Ex → List (SV env.T) → Prop) : s_4_7  x1 x2 x3 x4 x5 x6 (fun y1 => K .ret [.bool y1]) = vcCode env (ctxG env false [] R3 [(4, [(11, p_4_11), (23, p_4_23), (20, p_4_20)])] [(4, [(16, q_4_16)])]) 2000 4 (seqAt b4 7) (insSt q_4_7.head [.int .i64 x1, .int .i64 x2, .int .i64 x3, .bool x4, .bool x5, .dat 39 x6]) (outP env q_4_7 K) := by kernel_rfl
theorem wioq_4_7 (vs : List (SV env.T)) (K : Ex → List (SV env.T) → Prop) (h : v_4_7 vs K) : ∃ x1 : Int, ∃ x2 : Int, ∃ x3 : Int, ∃ x4 : Bool, ∃ x5 : Bool, ∃ x6 : (List Task), vs = [.int .i64 x1, .int .i64 x2, .int .i64 x3, .bool x4, .bool x5, .dat 39 x6] ∧ s_4_7  x1 x2 x3 x4 x5 x6 (fun y1 => K .ret [.bool y1]) := by
  unfold v_4_7 at h
  replace h := dCI_spec h
  obtain ⟨x1, vs0, e0, h⟩ := h
  replace h := dCI_spec h
  obtain ⟨x2, vs1, e1, h⟩ := h
  replace h := dCI_spec h
  obtain ⟨x3, vs2, e2, h⟩ := h
  replace h := dCB_spec h
  obtain ⟨x4, vs3, e3, h⟩ := h
  replace h := dCB_spec h
  obtain ⟨x5, vs4, e4, h⟩ := h
  replace h := dCD_spec h
  obtain ⟨x6, vs5, e5, h⟩ := h
  replace h := dCE_spec h
  obtain ⟨e, h⟩ := h
  exact ⟨x1, x2, x3, x4, x5, x6, by rw [e0, e1, e2, e3, e4, e5, e], h⟩
theorem oq_4_7 : PieceOk Try.prog env q_4_7 (seqAt b4 7) := by
  refine seq_step tab (ctxG_ok R3_ok false [] _ _) booq_4_7 (pieces_subS pooq_4_7_4 (by kernel_rfl)) 2000 ?_
  intro vs K h
  obtain ⟨x1, x2, x3, x4, x5, x6, rfl, h⟩ := wioq_4_7 vs K h
  exact Eq.mp (stoq_4_7 x1 x2 x3 x4 x5 x6 K) h
theorem po_4_4 : PiecesOk Try.prog env (ctxG env false [] R3 [(4, [(11, p_4_11), (23, p_4_23), (20, p_4_20)])] [(4, [(16, q_4_16), (7, q_4_7)])]) 4 b4 :=
  pieces_at (rfIn_body (fn := f4) (b := b4) rfl hb4) (L := [(11, p_4_11), (23, p_4_23), (20, p_4_20)]) (S := [(16, q_4_16), (7, q_4_7)]) (fun _ => rfl) (fun _ => rfl) (by kernel_rfl) (by kernel_rfl) (List.forall_mem_cons.2 ⟨fun _ => ok_4_11, (List.forall_mem_cons.2 ⟨fun _ => ok_4_23, (List.forall_mem_cons.2 ⟨fun _ => ok_4_20, (fun _ hq => by cases hq)⟩)⟩)⟩) (List.forall_mem_cons.2 ⟨fun _ => oq_4_16, (List.forall_mem_cons.2 ⟨fun _ => oq_4_7, (fun _ hq => by cases hq)⟩)⟩)
theorem bo_4 : BodiesOk Try.prog env (ctxG env false [] R3 [(4, [(11, p_4_11), (23, p_4_23), (20, p_4_20)])] [(4, [(16, q_4_16), (7, q_4_7)])]) := bodies_okG (ks := [4]) (by kernel_rfl) (List.forall_mem_cons.2 ⟨body_at (fn := f4) (body := b4) rfl hb4 po_4_4, (fun _ hq => by cases hq)⟩)
theorem eq_4 (x0 : Int) (x1 : Int) (x2 : Int) (x3 : Int) (K : Y4 → Prop) : vcCode env (ctxG env false [] R3 [(4, [(11, p_4_11), (23, p_4_23), (20, p_4_20)])] [(4, [(16, q_4_16), (7, q_4_7)])]) 2000 4 b4 (entry env f4 [v3 x0, v3 x1, v3 x2, v3 x3]) (finR env f4 decR4 K) = B4 x0 x1 x2 x3 K := by kernel_rfl
noncomputable def rule4 : Nat × Rule env := (4, ruleF env decA4 encR4 fun x => V4 x.1 x.2.1 x.2.2.1 x.2.2.2)
theorem r4 : RuleOk Try.prog env 4 rule4.2 :=
  rule_fun tab (ctxG_ok R3_ok false [] _ _) bo_4 (f := 4) (fn := f4) rfl hb4 po_4_4 2000 encA4 hA4 hR4 hD4 (fun _ => of_decide_eq_true (by kernel_rfl)) (fun x K => (eq_4 x.1 x.2.1 x.2.2.1 x.2.2.2 K).trans (by rw [V4_eq]))
noncomputable def R4 : List (Nat × Rule env) := rule4 :: R3
theorem R4_ok : AllOk Try.prog env R4 := ⟨r4, R3_ok⟩
-- 5 queuelab/queuelablaw37.WorkersOrder
noncomputable def f5 : Func := Try.f5
noncomputable def b5 : Code := (Try.f5.body).getD .skip
abbrev X5 := (List Task) × (List Segment) × (List Int) × Int
def encA5 (x : X5) : List (SV env.T) := [v22 x.1, v23 x.2.1, v42 x.2.2.1, v5 x.2.2.2]
def decA5 (l : List (SV env.T)) : Option X5 := match l with
  | [s0, s1, s2, s3] => match u22 s0, u23 s1, u42 s2, u5 s3 with
    | some x0, some x1, some x2, some x3 => some (x0, x1, x2, x3)
    | _, _, _, _ => none
  | _ => none
theorem hA5 (l : List (SV env.T)) (x : X5) (h : decA5 l = some x) : WkA env.has l (encA5 x) := by
  unfold decA5 at h; split at h
  · split at h
    · rename_i h0 h1 h2 h3; cases h; exact (.cons (u22_wk h0) (.cons (u23_wk h1) (.cons (u42_wk h2) (.cons (u5_wk h3) .nil))))
    · cases h
  · cases h
abbrev Y5 := Bool
def encR5 (x : Y5) : List (SV env.T) := [v4 x]
def decR5 (l : List (SV env.T)) : Option Y5 := match l with
  | [s0] => match u4 s0 with
    | some x0 => some (x0)
    | _ => none
  | _ => none
theorem hR5 (l : List (SV env.T)) (x : Y5) (h : decR5 l = some x) : WkA env.has l (encR5 x) := by
  unfold decR5 at h; split at h
  · split at h
    · rename_i h0; cases h; exact (.cons (u4_wk h0) .nil)
    · cases h
  · cases h
theorem hD5 (y : Y5) : isDataV (tupV (encR5 y)) = true := rfl
theorem hb5 : f5.body = some b5 := by kernel_rfl
def l_5_7 : Nat → (List Task) → (List Segment) → (List Int) → Int → Bool → Bool → Int → (List Task) → ((List Task) → (List Segment) → (List Int) → Bool → Bool → (List Task) → Prop) → Prop
  | 0 => fun _ _ _ _ _ _ _ _ _ => False
  | k + 1 => fun x1 x2 x3 x4 x5 x6 x7 x8 k0 ↦ br (decide (x7 < (↑x8.length : Int))) (br (inb x7 (↑x8.length : Int)) (br (decide ((x8.getD x7.toNat (env.d 39)).worker ≥ 0)) (br (inb x7 (↑x8.length : Int)) (br (decide ((x8.getD x7.toNat (env.d 39)).worker < 8)) (br (inb x7 (↑x8.length : Int)) (br (inb x7 (↑x8.length : Int)) (l_5_7 k x1 x2 x3 x4 x5 x6 (IntKind.i64.wrap (x7 + 1)) (x8.set x7.toNat (Task.mk (x8.getD x7.toNat (env.d 39)).number ((IntKind.i64.wrap ((x8.getD x7.toNat (env.d 39)).worker + IntKind.i64.wrap x4)).tmod 8) (x8.getD x7.toNat (env.d 39)).from_ (x8.getD x7.toNat (env.d 39)).to_)) k0) False) False) (l_5_7 k x1 x2 x3 x4 x5 x6 (IntKind.i64.wrap (x7 + 1)) x8 k0)) False) (l_5_7 k x1 x2 x3 x4 x5 x6 (IntKind.i64.wrap (x7 + 1)) x8 k0)) False) (k0 x1 x2 x3 x5 x6 x8)
def w_5_7 (k : Nat) (vs : List (SV env.T)) (K : Ex → List (SV env.T) → Prop) : Prop :=
  dCD 39 vs fun x1 vs => dCD 32 vs fun x2 vs => dCD 5 vs fun x3 vs => dCI .u8 vs fun x4 vs => dCB vs fun x5 vs => dCB vs fun x6 vs => dCI .i64 vs fun x7 vs => dCD 39 vs fun x8 vs => dCE vs (l_5_7 k x1 x2 x3 x4 x5 x6 x7 x8 (fun y1 y2 y3 y4 y5 y6 => K (.exit 0) [.dat 39 y1, .dat 32 y2, .dat 5 y3, .bool y4, .bool y5, .dat 39 y6]))
def p_5_7 : Piece env := ⟨⟨[.holeD 39, .holeD 32, .holeD 5, .hole, .any, .any, .any, .any, .hole, .hole, .any, .row 0, .hole, .any, .any, .any, .any, .any, .any, .any, .any, .any, .any, .any, .any, .any, .any, .any, .any, .any, .any, .any, .any, .any, .any, .any, .any, .any, .any, .any, .any, .any, .any, .any, .any, .any, .any, .any, .any, .any, .any, .any, .any, .any, .any, .any, .any, .any, .any, .any, .any, .any, .any, .any, .any, .any, .any, .any, .any, .any, .any, .any, .any, .any, .any, .any, .any, .any, .any, .any, .any, .any, .any, .any, .any, .any, .any, .any, .any, .any, .any, .any, .any, .any, .any, .any, .any, .any, .any, .any, .any, .any, .any, .any, .any, .any, .any, .any, .any, .any, .any, .any, .any, .any, .any, .any, .any, .any, .any, .any, .any, .any], [], [(0, .row 39)], 1⟩, exitF none [(0, ⟨[.holeD 39, .holeD 32, .holeD 5, .any, .any, .any, .any, .any, .hole, .hole, .any, .row 0, .any, .any, .any, .any, .any, .any, .any, .any, .any, .any, .any, .any, .any, .any, .any, .any, .any, .any, .any, .any, .any, .any, .any, .any, .any, .any, .any, .any, .any, .any, .any, .any, .any, .any, .any, .any, .any, .any, .any, .any, .any, .any, .any, .any, .any, .any, .any, .any, .any, .any, .any, .any, .any, .any, .any, .any, .any, .any, .any, .any, .any, .any, .any, .any, .any, .any, .any, .any, .any, .any, .any, .any, .any, .any, .any, .any, .any, .any, .any, .any, .any, .any, .any, .any, .any, .any, .any, .any, .any, .any, .any, .any, .any, .any, .any, .any, .any, .any, .any, .any, .any, .any, .any, .any, .any, .any, .any, .any, .any, .any], [], [(0, .row 39)], 1⟩)] none, fun vs K => ∃ k, w_5_7 k vs K⟩
def s_5_5 : (List Task) → (List Segment) → (List Int) → Int → Bool → Bool → (Bool → Prop) → Prop :=
  fun x1 x2 x3 x4 x5 x6 kr ↦ br (andb (leb 0 0) (andb (leb 0 (↑x1.length : Int)) (roomB (↑x1.length : Int).toNat (bytesB env 39)))) (br (roomB (List.replicate 0 (Task.mk 0 0 0 0) ++ x1).length (bytesB env 39)) (∃ k9, l_5_7 k9 x1 x2 x3 x4 x5 x6 0 (List.replicate 0 (Task.mk 0 0 0 0) ++ x1) fun y10 y11 y12 _ y14 y15 ↦ V12 y10 y11 fun y16 ↦ V16 y11 y12 fun y17 ↦ V12 y15 y17 fun y18 ↦ br (y16.snd != 0) (br y14 (kr (y16.snd == y18.snd)) (kr false)) (V12 [Task.mk 0 0 y16.fst.from_ y16.fst.to_] [y16.fst] fun y19 ↦ br y14 (br (y18.snd == 0) (V15 y16.fst y18.fst fun y20 ↦ br y20 (br (y19.snd == 0) (V15 y16.fst y19.fst kr) (kr false)) (kr false)) (kr false)) (kr false))) False) False
def v_5_5 (vs : List (SV env.T)) (K : Ex → List (SV env.T) → Prop) : Prop :=
  dCD 39 vs fun x1 vs => dCD 32 vs fun x2 vs => dCD 5 vs fun x3 vs => dCI .u8 vs fun x4 vs => dCB vs fun x5 vs => dCB vs fun x6 vs => dCE vs (s_5_5 x1 x2 x3 x4 x5 x6 (fun y1 => K .ret [.bool y1]))
def q_5_5 : Piece env := ⟨⟨[.holeD 39, .holeD 32, .holeD 5, .hole, .any, .any, .any, .any, .hole, .hole, .any, .any, .any, .any, .any, .any, .any, .any, .any, .any, .any, .any, .any, .any, .any, .any, .any, .any, .any, .any, .any, .any, .any, .any, .any, .any, .any, .any, .any, .any, .any, .any, .any, .any, .any, .any, .any, .any, .any, .any, .any, .any, .any, .any, .any, .any, .any, .any, .any, .any, .any, .any, .any, .any, .any, .any, .any, .any, .any, .any, .any, .any, .any, .any, .any, .any, .any, .any, .any, .any, .any, .any, .any, .any, .any, .any, .any, .any, .any, .any, .any, .any, .any, .any, .any, .any, .any, .any, .any, .any, .any, .any, .any, .any, .any, .any, .any, .any, .any, .any, .any, .any, .any, .any, .any, .any, .any, .any, .any, .any, .any, .any], [], [], 0⟩, exitF none [] (some ⟨[.any, .any, .any, .any, .any, .any, .any, .any, .hole, .any, .any, .any, .any, .any, .any, .any, .any, .any, .any, .any, .any, .any, .any, .any, .any, .any, .any, .any, .any, .any, .any, .any, .any, .any, .any, .any, .any, .any, .any, .any, .any, .any, .any, .any, .any, .any, .any, .any, .any, .any, .any, .any, .any, .any, .any, .any, .any, .any, .any, .any, .any, .any, .any, .any, .any, .any, .any, .any, .any, .any, .any, .any, .any, .any, .any, .any, .any, .any, .any, .any, .any, .any, .any, .any, .any, .any, .any, .any, .any, .any, .any, .any, .any, .any, .any, .any, .any, .any, .any, .any, .any, .any, .any, .any, .any, .any, .any, .any, .any, .any, .any, .any, .any, .any, .any, .any, .any, .any, .any, .any, .any, .any], [], [], 0⟩), v_5_5⟩
noncomputable def B5 : (List Task) → (List Segment) → (List Int) → Int → (Y5 → Prop) → Prop :=
  fun x0 x1 x2 x3 K ↦ V8 fun y5 ↦ V9 x0 x1 fun y6 ↦ br (!y6) (K y5) (br (decide ((↑x2.length : Int) > 40)) (K y5) (s_5_5 x0 x1 x2 x3 false y5 K))
theorem V5_ex : ∃ V : (List Task) → (List Segment) → (List Int) → Int → (Y5 → Prop) → Prop, V = B5 := ⟨_, rfl⟩
noncomputable def V5 : (List Task) → (List Segment) → (List Int) → Int → (Y5 → Prop) → Prop := Classical.choose V5_ex
theorem V5_eq : V5 = B5 := Classical.choose_spec V5_ex
theorem pook_5_7_5 : PiecesOk Try.prog env (ctxG env false [] R4 [] []) 5 b5 :=
  pieces_at (rfIn_body (fn := f5) (b := b5) rfl hb5) (L := []) (S := []) (fun _ => rfl) (fun _ => rfl) (by kernel_rfl) (by kernel_rfl) (fun _ hq => by cases hq) (fun _ hq => by cases hq)
theorem book_5_7 : BodiesOk Try.prog env (ctxG env false [] R4 [] []) := bodies_okG (ks := []) (by kernel_rfl) (fun _ hq => by cases hq)
theorem stok_5_7 (k : Nat) (x1 : (List Task)) (x2 : (List Segment)) (x3 : (List Int)) (x4 : Int) (x5 : Bool) (x6 : Bool) (x7 : Int) (x8 : (List Task)) (K : Ex → List (SV env.T) → Prop) : l_5_7 (k + 1) x1 x2 x3 x4 x5 x6 x7 x8 (fun y1 y2 y3 y4 y5 y6 => K (.exit 0) [.dat 39 y1, .dat 32 y2, .dat 5 y3, .bool y4, .bool y5, .dat 39 y6]) = vcCode env (ctxG env false [] R4 [] []) 2000 5 (loopAt b5 7) (insSt p_5_7.head [.dat 39 x1, .dat 32 x2, .dat 5 x3, .int .u8 x4, .bool x5, .bool x6, .int .i64 x7, .dat 39 x8]) (stepK p_5_7 (w_5_7 k) K) := by kernel_rfl
theorem wiok_5_7 (k : Nat) (vs : List (SV env.T)) (K : Ex → List (SV env.T) → Prop) (h : w_5_7 k vs K) : ∃ x1 : (List Task), ∃ x2 : (List Segment), ∃ x3 : (List Int), ∃ x4 : Int, ∃ x5 : Bool, ∃ x6 : Bool, ∃ x7 : Int, ∃ x8 : (List Task), vs = [.dat 39 x1, .dat 32 x2, .dat 5 x3, .int .u8 x4, .bool x5, .bool x6, .int .i64 x7, .dat 39 x8] ∧ l_5_7 k x1 x2 x3 x4 x5 x6 x7 x8 (fun y1 y2 y3 y4 y5 y6 => K (.exit 0) [.dat 39 y1, .dat 32 y2, .dat 5 y3, .bool y4, .bool y5, .dat 39 y6]) := by
  unfold w_5_7 at h
  replace h := dCD_spec h
  obtain ⟨x1, vs0, e0, h⟩ := h
  replace h := dCD_spec h
  obtain ⟨x2, vs1, e1, h⟩ := h
  replace h := dCD_spec h
  obtain ⟨x3, vs2, e2, h⟩ := h
  replace h := dCI_spec h
  obtain ⟨x4, vs3, e3, h⟩ := h
  replace h := dCB_spec h
  obtain ⟨x5, vs4, e4, h⟩ := h
  replace h := dCB_spec h
  obtain ⟨x6, vs5, e5, h⟩ := h
  replace h := dCI_spec h
  obtain ⟨x7, vs6, e6, h⟩ := h
  replace h := dCD_spec h
  obtain ⟨x8, vs7, e7, h⟩ := h
  replace h := dCE_spec h
  obtain ⟨e, h⟩ := h
  exact ⟨x1, x2, x3, x4, x5, x6, x7, x8, by rw [e0, e1, e2, e3, e4, e5, e6, e7, e], h⟩
theorem zeok_5_7 (x1 : (List Task)) (x2 : (List Segment)) (x3 : (List Int)) (x4 : Int) (x5 : Bool) (x6 : Bool) (x7 : Int) (x8 : (List Task)) (K : Ex → List (SV env.T) → Prop) : l_5_7 0 x1 x2 x3 x4 x5 x6 x7 x8 (fun y1 y2 y3 y4 y5 y6 => K (.exit 0) [.dat 39 y1, .dat 32 y2, .dat 5 y3, .bool y4, .bool y5, .dat 39 y6]) = False := by kernel_rfl
theorem ok_5_7 : PieceOk Try.prog env p_5_7 (.loop (loopAt b5 7)) := by
  refine loop_step (Wn := w_5_7) tab (ctxG_ok R4_ok false [] _ _) book_5_7 (pieces_sub pook_5_7_5 (by kernel_rfl)) rfl ?_ 2000 ?_
  · intro vs K h
    obtain ⟨x1, x2, x3, x4, x5, x6, x7, x8, _, h⟩ := wiok_5_7 0 vs K h
    exact Eq.mp (zeok_5_7 x1 x2 x3 x4 x5 x6 x7 x8 K) h
  · intro k vs K h
    obtain ⟨x1, x2, x3, x4, x5, x6, x7, x8, rfl, h⟩ := wiok_5_7 (k + 1) vs K h
    exact Eq.mp (stok_5_7 k x1 x2 x3 x4 x5 x6 x7 x8 K) h
theorem pooq_5_5_5 : PiecesOk Try.prog env (ctxG env false [] R4 [(5, [(7, p_5_7)])] []) 5 b5 :=
  pieces_at (rfIn_body (fn := f5) (b := b5) rfl hb5) (L := [(7, p_5_7)]) (S := []) (fun _ => rfl) (fun _ => rfl) (by kernel_rfl) (by kernel_rfl) (List.forall_mem_cons.2 ⟨fun _ => ok_5_7, (fun _ hq => by cases hq)⟩) (fun _ hq => by cases hq)
theorem booq_5_5 : BodiesOk Try.prog env (ctxG env false [] R4 [(5, [(7, p_5_7)])] []) := bodies_okG (ks := [5]) (by kernel_rfl) (List.forall_mem_cons.2 ⟨body_at (fn := f5) (body := b5) rfl hb5 pooq_5_5_5, (fun _ hq => by cases hq)⟩)
theorem stoq_5_5 (x1 : (List Task)) (x2 : (List Segment)) (x3 : (List Int)) (x4 : Int) (x5 : Bool) (x6 : Bool) (K : Ex → List (SV env.T) → Prop) : s_5_5  x1 x2 x3 x4 x5 x6 (fun y1 => K .ret [.bool y1]) = vcCode env (ctxG env false [] R4 [(5, [(7, p_5_7)])] []) 2000 5 (seqAt b5 5) (insSt q_5_5.head [.dat 39 x1, .dat 32 x2, .dat 5 x3, .int .u8 x4, .bool x5, .bool x6]) (outP env q_5_5 K) := by kernel_rfl
theorem wioq_5_5 (vs : List (SV env.T)) (K : Ex → List (SV env.T) → Prop) (h : v_5_5 vs K) : ∃ x1 : (List Task), ∃ x2 : (List Segment), ∃ x3 : (List Int), ∃ x4 : Int, ∃ x5 : Bool, ∃ x6 : Bool, vs = [.dat 39 x1, .dat 32 x2, .dat 5 x3, .int .u8 x4, .bool x5, .bool x6] ∧ s_5_5  x1 x2 x3 x4 x5 x6 (fun y1 => K .ret [.bool y1]) := by
  unfold v_5_5 at h
  replace h := dCD_spec h
  obtain ⟨x1, vs0, e0, h⟩ := h
  replace h := dCD_spec h
  obtain ⟨x2, vs1, e1, h⟩ := h
  replace h := dCD_spec h
  obtain ⟨x3, vs2, e2, h⟩ := h
  replace h := dCI_spec h
  obtain ⟨x4, vs3, e3, h⟩ := h
  replace h := dCB_spec h
  obtain ⟨x5, vs4, e4, h⟩ := h
  replace h := dCB_spec h
  obtain ⟨x6, vs5, e5, h⟩ := h
  replace h := dCE_spec h
  obtain ⟨e, h⟩ := h
  exact ⟨x1, x2, x3, x4, x5, x6, by rw [e0, e1, e2, e3, e4, e5, e], h⟩
theorem oq_5_5 : PieceOk Try.prog env q_5_5 (seqAt b5 5) := by
  refine seq_step tab (ctxG_ok R4_ok false [] _ _) booq_5_5 (pieces_subS pooq_5_5_5 (by kernel_rfl)) 2000 ?_
  intro vs K h
  obtain ⟨x1, x2, x3, x4, x5, x6, rfl, h⟩ := wioq_5_5 vs K h
  exact Eq.mp (stoq_5_5 x1 x2 x3 x4 x5 x6 K) h
theorem po_5_5 : PiecesOk Try.prog env (ctxG env false [] R4 [(5, [(7, p_5_7)])] [(5, [(5, q_5_5)])]) 5 b5 :=
  pieces_at (rfIn_body (fn := f5) (b := b5) rfl hb5) (L := [(7, p_5_7)]) (S := [(5, q_5_5)]) (fun _ => rfl) (fun _ => rfl) (by kernel_rfl) (by kernel_rfl) (List.forall_mem_cons.2 ⟨fun _ => ok_5_7, (fun _ hq => by cases hq)⟩) (List.forall_mem_cons.2 ⟨fun _ => oq_5_5, (fun _ hq => by cases hq)⟩)
theorem bo_5 : BodiesOk Try.prog env (ctxG env false [] R4 [(5, [(7, p_5_7)])] [(5, [(5, q_5_5)])]) := bodies_okG (ks := [5]) (by kernel_rfl) (List.forall_mem_cons.2 ⟨body_at (fn := f5) (body := b5) rfl hb5 po_5_5, (fun _ hq => by cases hq)⟩)
theorem eq_5 (x0 : (List Task)) (x1 : (List Segment)) (x2 : (List Int)) (x3 : Int) (K : Y5 → Prop) : vcCode env (ctxG env false [] R4 [(5, [(7, p_5_7)])] [(5, [(5, q_5_5)])]) 2000 5 b5 (entry env f5 [v22 x0, v23 x1, v42 x2, v5 x3]) (finR env f5 decR5 K) = B5 x0 x1 x2 x3 K := by kernel_rfl
noncomputable def rule5 : Nat × Rule env := (5, ruleF env decA5 encR5 fun x => V5 x.1 x.2.1 x.2.2.1 x.2.2.2)
theorem r5 : RuleOk Try.prog env 5 rule5.2 :=
  rule_fun tab (ctxG_ok R4_ok false [] _ _) bo_5 (f := 5) (fn := f5) rfl hb5 po_5_5 2000 encA5 hA5 hR5 hD5 (fun _ => of_decide_eq_true (by kernel_rfl)) (fun x K => (eq_5 x.1 x.2.1 x.2.2.1 x.2.2.2 K).trans (by rw [V5_eq]))
noncomputable def R5 : List (Nat × Rule env) := rule5 :: R4
theorem R5_ok : AllOk Try.prog env R5 := ⟨r5, R4_ok⟩
-- 6 queuelab/queuelablaw37.WorkersComplete
noncomputable def f6 : Func := Try.f6
noncomputable def b6 : Code := (Try.f6.body).getD .skip
abbrev X6 := (List Task) × (List Segment) × Int
def encA6 (x : X6) : List (SV env.T) := [v22 x.1, v23 x.2.1, v5 x.2.2]
def decA6 (l : List (SV env.T)) : Option X6 := match l with
  | [s0, s1, s2] => match u22 s0, u23 s1, u5 s2 with
    | some x0, some x1, some x2 => some (x0, x1, x2)
    | _, _, _ => none
  | _ => none
theorem hA6 (l : List (SV env.T)) (x : X6) (h : decA6 l = some x) : WkA env.has l (encA6 x) := by
  unfold decA6 at h; split at h
  · split at h
    · rename_i h0 h1 h2; cases h; exact (.cons (u22_wk h0) (.cons (u23_wk h1) (.cons (u5_wk h2) .nil)))
    · cases h
  · cases h
abbrev Y6 := Bool
def encR6 (x : Y6) : List (SV env.T) := [v4 x]
def decR6 (l : List (SV env.T)) : Option Y6 := match l with
  | [s0] => match u4 s0 with
    | some x0 => some (x0)
    | _ => none
  | _ => none
theorem hR6 (l : List (SV env.T)) (x : Y6) (h : decR6 l = some x) : WkA env.has l (encR6 x) := by
  unfold decR6 at h; split at h
  · split at h
    · rename_i h0; cases h; exact (.cons (u4_wk h0) .nil)
    · cases h
  · cases h
theorem hD6 (y : Y6) : isDataV (tupV (encR6 y)) = true := rfl
theorem hb6 : f6.body = some b6 := by kernel_rfl
def s_6_6 : (List Task) → (List Segment) → Int → Bool → Bool → (Bool → Prop) → Prop :=
  fun x1 x2 x3 _ x5 kr ↦ br (!(↑x2.length : Int) == 0) (br (andb (leb 0 0) (andb (leb 0 (↑x2.length : Int)) (roomB (↑x2.length : Int).toNat (bytesB env 32)))) (br (cutOk none (some ((IntKind.i64.wrap x3).tmod (↑x2.length : Int))) x2.length) (br (roomB (List.replicate 0 (Segment.mk 0 0 0 0 []) ++ cutL x2 (none.getD 0) ((some ((IntKind.i64.wrap x3).tmod (↑x2.length : Int))).getD (↑x2.length : Int))).length (bytesB env 32)) (br (cutOk (some (IntKind.i64.wrap ((IntKind.i64.wrap x3).tmod (↑x2.length : Int) + 1))) none x2.length) (br (roomB (List.replicate 0 (Segment.mk 0 0 0 0 []) ++ cutL x2 (none.getD 0) ((some ((IntKind.i64.wrap x3).tmod (↑x2.length : Int))).getD (↑x2.length : Int)) ++ cutL x2 ((some (IntKind.i64.wrap ((IntKind.i64.wrap x3).tmod (↑x2.length : Int) + 1))).getD 0) (none.getD (↑x2.length : Int))).length (bytesB env 32)) (br (andb (leb 0 0) (andb (leb 0 (IntKind.i64.wrap ((↑x2.length : Int) + 1))) (roomB (IntKind.i64.wrap ((↑x2.length : Int) + 1)).toNat (bytesB env 32)))) (br (roomB (List.replicate 0 (Segment.mk 0 0 0 0 []) ++ x2).length (bytesB env 32)) (br (inb ((IntKind.i64.wrap x3).tmod (↑x2.length : Int)) (↑x2.length : Int)) (br (roomB (List.replicate 0 (Segment.mk 0 0 0 0 []) ++ x2 ++ [Segment.mk (x2.getD ((IntKind.i64.wrap x3).tmod (↑x2.length : Int)).toNat (env.d 32)).from_ (x2.getD ((IntKind.i64.wrap x3).tmod (↑x2.length : Int)).toNat (env.d 32)).to_ (x2.getD ((IntKind.i64.wrap x3).tmod (↑x2.length : Int)).toNat (env.d 32)).begin_ (x2.getD ((IntKind.i64.wrap x3).tmod (↑x2.length : Int)).toNat (env.d 32)).end_ (x2.getD ((IntKind.i64.wrap x3).tmod (↑x2.length : Int)).toNat (env.d 32)).records]).length (bytesB env 32)) (V12 x1 (List.replicate 0 (Segment.mk 0 0 0 0 []) ++ cutL x2 (none.getD 0) ((some ((IntKind.i64.wrap x3).tmod (↑x2.length : Int))).getD (↑x2.length : Int)) ++ cutL x2 ((some (IntKind.i64.wrap ((IntKind.i64.wrap x3).tmod (↑x2.length : Int) + 1))).getD 0) (none.getD (↑x2.length : Int))) fun y8 ↦ V12 x1 (List.replicate 0 (Segment.mk 0 0 0 0 []) ++ x2 ++ [Segment.mk (x2.getD ((IntKind.i64.wrap x3).tmod (↑x2.length : Int)).toNat (env.d 32)).from_ (x2.getD ((IntKind.i64.wrap x3).tmod (↑x2.length : Int)).toNat (env.d 32)).to_ (x2.getD ((IntKind.i64.wrap x3).tmod (↑x2.length : Int)).toNat (env.d 32)).begin_ (x2.getD ((IntKind.i64.wrap x3).tmod (↑x2.length : Int)).toNat (env.d 32)).end_ (x2.getD ((IntKind.i64.wrap x3).tmod (↑x2.length : Int)).toNat (env.d 32)).records]) fun y9 ↦ br (inb ((IntKind.i64.wrap x3).tmod (↑x2.length : Int)) (↑x2.length : Int)) (br ((x2.getD ((IntKind.i64.wrap x3).tmod (↑x2.length : Int)).toNat (env.d 32)).to_ == 10000000) (br x5 (br (y8.snd == 4) (kr (y9.snd == 5)) (kr false)) (kr false)) (br (andb (leb 0 0) (andb (leb 0 (↑x2.length : Int)) (roomB (↑x2.length : Int).toNat (bytesB env 32)))) (br (roomB (List.replicate 0 (Segment.mk 0 0 0 0 []) ++ x2).length (bytesB env 32)) (br (inb ((IntKind.i64.wrap x3).tmod (↑x2.length : Int)) (↑(List.replicate 0 (Segment.mk 0 0 0 0 []) ++ x2).length : Int)) (br (inb ((IntKind.i64.wrap x3).tmod (↑x2.length : Int)) (↑(List.replicate 0 (Segment.mk 0 0 0 0 []) ++ x2).length : Int)) (V12 x1 ((List.replicate 0 (Segment.mk 0 0 0 0 []) ++ x2).set ((IntKind.i64.wrap x3).tmod (↑x2.length : Int)).toNat (Segment.mk ((List.replicate 0 (Segment.mk 0 0 0 0 []) ++ x2).getD ((IntKind.i64.wrap x3).tmod (↑x2.length : Int)).toNat (env.d 32)).from_ (IntKind.i64.wrap (((List.replicate 0 (Segment.mk 0 0 0 0 []) ++ x2).getD ((IntKind.i64.wrap x3).tmod (↑x2.length : Int)).toNat (env.d 32)).to_ + 1)) ((List.replicate 0 (Segment.mk 0 0 0 0 []) ++ x2).getD ((IntKind.i64.wrap x3).tmod (↑x2.length : Int)).toNat (env.d 32)).begin_ ((List.replicate 0 (Segment.mk 0 0 0 0 []) ++ x2).getD ((IntKind.i64.wrap x3).tmod (↑x2.length : Int)).toNat (env.d 32)).end_ ((List.replicate 0 (Segment.mk 0 0 0 0 []) ++ x2).getD ((IntKind.i64.wrap x3).tmod (↑x2.length : Int)).toNat (env.d 32)).records)) fun y10 ↦ br x5 (br (y8.snd == 4) (br (y9.snd == 5) (kr (y10.snd == 18)) (kr false)) (kr false)) (kr false)) False) False) False) False)) False) False) False) False) False) False) False) False) False) False) False
def v_6_6 (vs : List (SV env.T)) (K : Ex → List (SV env.T) → Prop) : Prop :=
  dCD 39 vs fun x1 vs => dCD 32 vs fun x2 vs => dCI .u8 vs fun x3 vs => dCB vs fun x4 vs => dCB vs fun x5 vs => dCE vs (s_6_6 x1 x2 x3 x4 x5 (fun y1 => K .ret [.bool y1]))
def q_6_6 : Piece env := ⟨⟨[.holeD 39, .holeD 32, .hole, .any, .any, .any, .hole, .hole, .any, .any, .any, .any, .any, .any, .any, .any, .any, .any, .any, .any, .any, .any, .any, .any, .any, .any, .any, .any, .any, .any, .any, .any, .any, .any, .any, .any, .any, .any, .any, .any, .any, .any, .any, .any, .any, .any, .any, .any, .any, .any, .any, .any, .any, .any, .any, .any, .any, .any, .any, .any, .any, .any, .any, .any, .any, .any, .any, .any, .any, .any, .any, .any, .any, .any, .any, .any, .any, .any, .any, .any, .any, .any, .any, .any, .any, .any, .any, .any, .any, .any, .any, .any, .any, .any, .any, .any, .any, .any, .any, .any, .any, .any, .any, .any, .any, .any, .any, .any, .any, .any, .any, .any, .any, .any, .any, .any, .any, .any, .any, .any, .any, .any, .any, .any, .any, .any, .any, .any, .any, .any, .any, .any, .any, .any, .any, .any], [], [], 0⟩, exitF none [] (some ⟨[.any, .any, .any, .any, .any, .any, .hole, .any, .any, .any, .any, .any, .any, .any, .any, .any, .any, .any, .any, .any, .any, .any, .any, .any, .any, .any, .any, .any, .any, .any, .any, .any, .any, .any, .any, .any, .any, .any, .any, .any, .any, .any, .any, .any, .any, .any, .any, .any, .any, .any, .any, .any, .any, .any, .any, .any, .any, .any, .any, .any, .any, .any, .any, .any, .any, .any, .any, .any, .any, .any, .any, .any, .any, .any, .any, .any, .any, .any, .any, .any, .any, .any, .any, .any, .any, .any, .any, .any, .any, .any, .any, .any, .any, .any, .any, .any, .any, .any, .any, .any, .any, .any, .any, .any, .any, .any, .any, .any, .any, .any, .any, .any, .any, .any, .any, .any, .any, .any, .any, .any, .any, .any, .any, .any, .any, .any, .any, .any, .any, .any, .any, .any, .any, .any, .any, .any], [], [], 0⟩), v_6_6⟩
noncomputable def B6 : (List Task) → (List Segment) → Int → (Y6 → Prop) → Prop :=
  fun x0 x1 x2 K ↦ V8 fun y4 ↦ V9 x0 x1 fun y5 ↦ V12 x0 x1 fun y6 ↦ br (!y5) (K y4) (br (y6.snd != 0) (K y4) (br (decide ((↑x1.length : Int) > 31)) (K y4) (br ((↑x1.length : Int) == 0) (K y4) (s_6_6 x0 x1 x2 false y4 K))))
theorem V6_ex : ∃ V : (List Task) → (List Segment) → Int → (Y6 → Prop) → Prop, V = B6 := ⟨_, rfl⟩
noncomputable def V6 : (List Task) → (List Segment) → Int → (Y6 → Prop) → Prop := Classical.choose V6_ex
theorem V6_eq : V6 = B6 := Classical.choose_spec V6_ex
theorem pooq_6_6_6 : PiecesOk Try.prog env (ctxG env false [] R5 [] []) 6 b6 :=
  pieces_at (rfIn_body (fn := f6) (b := b6) rfl hb6) (L := []) (S := []) (fun _ => rfl) (fun _ => rfl) (by kernel_rfl) (by kernel_rfl) (fun _ hq => by cases hq) (fun _ hq => by cases hq)
theorem booq_6_6 : BodiesOk Try.prog env (ctxG env false [] R5 [] []) := bodies_okG (ks := []) (by kernel_rfl) (fun _ hq => by cases hq)
theorem stoq_6_6 (x1 : (List Task)) (x2 : (List Segment)) (x3 : Int) (x4 : Bool) (x5 : Bool) (K : Ex → List (SV env.T) → Prop) : s_6_6  x1 x2 x3 x4 x5 (fun y1 => K .ret [.bool y1]) = vcCode env (ctxG env false [] R5 [] []) 2000 6 (seqAt b6 6) (insSt q_6_6.head [.dat 39 x1, .dat 32 x2, .int .u8 x3, .bool x4, .bool x5]) (outP env q_6_6 K) := by kernel_rfl
theorem wioq_6_6 (vs : List (SV env.T)) (K : Ex → List (SV env.T) → Prop) (h : v_6_6 vs K) : ∃ x1 : (List Task), ∃ x2 : (List Segment), ∃ x3 : Int, ∃ x4 : Bool, ∃ x5 : Bool, vs = [.dat 39 x1, .dat 32 x2, .int .u8 x3, .bool x4, .bool x5] ∧ s_6_6  x1 x2 x3 x4 x5 (fun y1 => K .ret [.bool y1]) := by
  unfold v_6_6 at h
  replace h := dCD_spec h
  obtain ⟨x1, vs0, e0, h⟩ := h
  replace h := dCD_spec h
  obtain ⟨x2, vs1, e1, h⟩ := h
  replace h := dCI_spec h
  obtain ⟨x3, vs2, e2, h⟩ := h
  replace h := dCB_spec h
  obtain ⟨x4, vs3, e3, h⟩ := h
  replace h := dCB_spec h
  obtain ⟨x5, vs4, e4, h⟩ := h
  replace h := dCE_spec h
  obtain ⟨e, h⟩ := h
  exact ⟨x1, x2, x3, x4, x5, by rw [e0, e1, e2, e3, e4, e], h⟩
theorem oq_6_6 : PieceOk Try.prog env q_6_6 (seqAt b6 6) := by
  refine seq_step tab (ctxG_ok R5_ok false [] _ _) booq_6_6 (pieces_subS pooq_6_6_6 (by kernel_rfl)) 2000 ?_
  intro vs K h
  obtain ⟨x1, x2, x3, x4, x5, rfl, h⟩ := wioq_6_6 vs K h
  exact Eq.mp (stoq_6_6 x1 x2 x3 x4 x5 K) h
theorem po_6_6 : PiecesOk Try.prog env (ctxG env false [] R5 [] [(6, [(6, q_6_6)])]) 6 b6 :=
  pieces_at (rfIn_body (fn := f6) (b := b6) rfl hb6) (L := []) (S := [(6, q_6_6)]) (fun _ => rfl) (fun _ => rfl) (by kernel_rfl) (by kernel_rfl) (fun _ hq => by cases hq) (List.forall_mem_cons.2 ⟨fun _ => oq_6_6, (fun _ hq => by cases hq)⟩)
theorem bo_6 : BodiesOk Try.prog env (ctxG env false [] R5 [] [(6, [(6, q_6_6)])]) := bodies_okG (ks := [6]) (by kernel_rfl) (List.forall_mem_cons.2 ⟨body_at (fn := f6) (body := b6) rfl hb6 po_6_6, (fun _ hq => by cases hq)⟩)
theorem eq_6 (x0 : (List Task)) (x1 : (List Segment)) (x2 : Int) (K : Y6 → Prop) : vcCode env (ctxG env false [] R5 [] [(6, [(6, q_6_6)])]) 2000 6 b6 (entry env f6 [v22 x0, v23 x1, v5 x2]) (finR env f6 decR6 K) = B6 x0 x1 x2 K := by kernel_rfl
noncomputable def rule6 : Nat × Rule env := (6, ruleF env decA6 encR6 fun x => V6 x.1 x.2.1 x.2.2)
theorem r6 : RuleOk Try.prog env 6 rule6.2 :=
  rule_fun tab (ctxG_ok R5_ok false [] _ _) bo_6 (f := 6) (fn := f6) rfl hb6 po_6_6 2000 encA6 hA6 hR6 hD6 (fun _ => of_decide_eq_true (by kernel_rfl)) (fun x K => (eq_6 x.1 x.2.1 x.2.2 K).trans (by rw [V6_eq]))
noncomputable def R6 : List (Nat × Rule env) := rule6 :: R5
theorem R6_ok : AllOk Try.prog env R6 := ⟨r6, R5_ok⟩
-- 7 queuelab/queuelablaw37.WorkersForeign
noncomputable def f7 : Func := Try.f7
noncomputable def b7 : Code := (Try.f7.body).getD .skip
abbrev X7 := (List Task) × (List Segment) × Int × Int
def encA7 (x : X7) : List (SV env.T) := [v22 x.1, v23 x.2.1, v5 x.2.2.1, v29 x.2.2.2]
def decA7 (l : List (SV env.T)) : Option X7 := match l with
  | [s0, s1, s2, s3] => match u22 s0, u23 s1, u5 s2, u29 s3 with
    | some x0, some x1, some x2, some x3 => some (x0, x1, x2, x3)
    | _, _, _, _ => none
  | _ => none
theorem hA7 (l : List (SV env.T)) (x : X7) (h : decA7 l = some x) : WkA env.has l (encA7 x) := by
  unfold decA7 at h; split at h
  · split at h
    · rename_i h0 h1 h2 h3; cases h; exact (.cons (u22_wk h0) (.cons (u23_wk h1) (.cons (u5_wk h2) (.cons (u29_wk h3) .nil))))
    · cases h
  · cases h
abbrev Y7 := Bool
def encR7 (x : Y7) : List (SV env.T) := [v4 x]
def decR7 (l : List (SV env.T)) : Option Y7 := match l with
  | [s0] => match u4 s0 with
    | some x0 => some (x0)
    | _ => none
  | _ => none
theorem hR7 (l : List (SV env.T)) (x : Y7) (h : decR7 l = some x) : WkA env.has l (encR7 x) := by
  unfold decR7 at h; split at h
  · split at h
    · rename_i h0; cases h; exact (.cons (u4_wk h0) .nil)
    · cases h
  · cases h
theorem hD7 (y : Y7) : isDataV (tupV (encR7 y)) = true := rfl
theorem hb7 : f7.body = some b7 := by kernel_rfl
def l_7_13 : Nat → (List Task) → Bool → Bool → Int → Int → Int → (List Segment) → ((List Task) → Bool → Bool → Int → Int → (List Segment) → Prop) → Prop
  | 0 => fun _ _ _ _ _ _ _ _ => False
  | k + 1 => fun x1 x2 x3 x4 x5 x6 x7 k0 ↦ br (inb x4 (↑x7.length : Int)) (br (decide (x6 < (↑(x7.getD x4.toNat (env.d 32)).records.length : Int))) (br (inb x4 (↑x7.length : Int)) (br (inb x6 (↑(x7.getD x4.toNat (env.d 32)).records.length : Int)) (V17 x5 ((x7.getD x4.toNat (env.d 32)).records.getD x6.toNat (env.d 50)) fun y10 ↦ l_7_13 k x1 x2 x3 x4 y10 (IntKind.i64.wrap (x6 + 1)) x7 k0) False) False) (k0 x1 x2 x3 x4 x5 x7)) False
def w_7_13 (k : Nat) (vs : List (SV env.T)) (K : Ex → List (SV env.T) → Prop) : Prop :=
  dCD 39 vs fun x1 vs => dCB vs fun x2 vs => dCB vs fun x3 vs => dCI .i64 vs fun x4 vs => dCI .u64 vs fun x5 vs => dCI .i64 vs fun x6 vs => dCD 32 vs fun x7 vs => dCE vs (l_7_13 k x1 x2 x3 x4 x5 x6 x7 (fun y1 y2 y3 y4 y5 y6 => K (.exit 0) [.dat 39 y1, .bool y2, .bool y3, .int .i64 y4, .int .u64 y5, .dat 32 y6]))
def p_7_13 : Piece env := ⟨⟨[.holeD 39, .any, .any, .any, .any, .any, .any, .any, .hole, .hole, .any, .any, .any, .hole, .row 0, .hole, .hole, .any, .any, .any, .any, .any, .any, .any, .any, .any, .any, .any, .any, .any, .any, .any, .any, .any, .any, .any, .any, .any, .any, .any, .any, .any, .any, .any, .any, .any, .any, .any, .any, .any, .any, .any, .any, .any, .any, .any, .any, .any, .any, .any, .any, .any, .any, .any, .any, .any, .any, .any, .any, .any, .any, .any, .any, .any, .any, .any, .any, .any, .any, .any, .any, .any, .any, .any, .any, .any, .any, .any, .any, .any, .any, .any, .any, .any, .any, .any, .any, .any, .any, .any, .any, .any, .any, .any, .any, .any, .any, .any, .any, .any, .any, .any, .any, .any, .any, .any], [], [(0, .row 32)], 1⟩, exitF none [(0, ⟨[.holeD 39, .any, .any, .any, .any, .any, .any, .any, .hole, .hole, .any, .any, .any, .hole, .row 0, .hole, .any, .any, .any, .any, .any, .any, .any, .any, .any, .any, .any, .any, .any, .any, .any, .any, .any, .any, .any, .any, .any, .any, .any, .any, .any, .any, .any, .any, .any, .any, .any, .any, .any, .any, .any, .any, .any, .any, .any, .any, .any, .any, .any, .any, .any, .any, .any, .any, .any, .any, .any, .any, .any, .any, .any, .any, .any, .any, .any, .any, .any, .any, .any, .any, .any, .any, .any, .any, .any, .any, .any, .any, .any, .any, .any, .any, .any, .any, .any, .any, .any, .any, .any, .any, .any, .any, .any, .any, .any, .any, .any, .any, .any, .any, .any, .any, .any, .any, .any, .any], [], [(0, .row 32)], 1⟩)] none, fun vs K => ∃ k, w_7_13 k vs K⟩
def s_7_6 : (List Task) → (List Segment) → Int → Int → Bool → Bool → (Bool → Prop) → Prop :=
  fun x1 x2 x3 x4 x5 x6 kr ↦ br (!(↑x2.length : Int) == 0) (br (andb (leb 0 0) (andb (leb 0 (↑x2.length : Int)) (roomB (↑x2.length : Int).toNat (bytesB env 32)))) (br (roomB (List.replicate 0 (Segment.mk 0 0 0 0 []) ++ x2).length (bytesB env 32)) (br (inb ((IntKind.i64.wrap x3).tmod (↑x2.length : Int)) (↑(List.replicate 0 (Segment.mk 0 0 0 0 []) ++ x2).length : Int)) (br (inb 0 (↑x1.length : Int)) (br (((List.replicate 0 (Segment.mk 0 0 0 0 []) ++ x2).getD ((IntKind.i64.wrap x3).tmod (↑x2.length : Int)).toNat (env.d 32)).from_ == (x1.getD 0 (env.d 39)).from_) (kr x6) (br (inb ((IntKind.i64.wrap x3).tmod (↑x2.length : Int)) (↑(List.replicate 0 (Segment.mk 0 0 0 0 []) ++ x2).length : Int)) (br (inb ((IntKind.i64.wrap x3).tmod (↑x2.length : Int)) (↑(List.replicate 0 (Segment.mk 0 0 0 0 []) ++ x2).length : Int)) (br (inb ((IntKind.i64.wrap x3).tmod (↑x2.length : Int)) (↑((List.replicate 0 (Segment.mk 0 0 0 0 []) ++ x2).set ((IntKind.i64.wrap x3).tmod (↑x2.length : Int)).toNat (Segment.mk ((List.replicate 0 (Segment.mk 0 0 0 0 []) ++ x2).getD ((IntKind.i64.wrap x3).tmod (↑x2.length : Int)).toNat (env.d 32)).from_ ((List.replicate 0 (Segment.mk 0 0 0 0 []) ++ x2).getD ((IntKind.i64.wrap x3).tmod (↑x2.length : Int)).toNat (env.d 32)).to_ (xorI IntKind.u64 ((List.replicate 0 (Segment.mk 0 0 0 0 []) ++ x2).getD ((IntKind.i64.wrap x3).tmod (↑x2.length : Int)).toNat (env.d 32)).begin_ x4) ((List.replicate 0 (Segment.mk 0 0 0 0 []) ++ x2).getD ((IntKind.i64.wrap x3).tmod (↑x2.length : Int)).toNat (env.d 32)).end_ ((List.replicate 0 (Segment.mk 0 0 0 0 []) ++ x2).getD ((IntKind.i64.wrap x3).tmod (↑x2.length : Int)).toNat (env.d 32)).records)).length : Int)) (∃ k9, l_7_13 k9 x1 x5 x6 ((IntKind.i64.wrap x3).tmod (↑x2.length : Int)) (((List.replicate 0 (Segment.mk 0 0 0 0 []) ++ x2).set ((IntKind.i64.wrap x3).tmod (↑x2.length : Int)).toNat (Segment.mk ((List.replicate 0 (Segment.mk 0 0 0 0 []) ++ x2).getD ((IntKind.i64.wrap x3).tmod (↑x2.length : Int)).toNat (env.d 32)).from_ ((List.replicate 0 (Segment.mk 0 0 0 0 []) ++ x2).getD ((IntKind.i64.wrap x3).tmod (↑x2.length : Int)).toNat (env.d 32)).to_ (xorI IntKind.u64 ((List.replicate 0 (Segment.mk 0 0 0 0 []) ++ x2).getD ((IntKind.i64.wrap x3).tmod (↑x2.length : Int)).toNat (env.d 32)).begin_ x4) ((List.replicate 0 (Segment.mk 0 0 0 0 []) ++ x2).getD ((IntKind.i64.wrap x3).tmod (↑x2.length : Int)).toNat (env.d 32)).end_ ((List.replicate 0 (Segment.mk 0 0 0 0 []) ++ x2).getD ((IntKind.i64.wrap x3).tmod (↑x2.length : Int)).toNat (env.d 32)).records)).getD ((IntKind.i64.wrap x3).tmod (↑x2.length : Int)).toNat (env.d 32)).begin_ 0 ((List.replicate 0 (Segment.mk 0 0 0 0 []) ++ x2).set ((IntKind.i64.wrap x3).tmod (↑x2.length : Int)).toNat (Segment.mk ((List.replicate 0 (Segment.mk 0 0 0 0 []) ++ x2).getD ((IntKind.i64.wrap x3).tmod (↑x2.length : Int)).toNat (env.d 32)).from_ ((List.replicate 0 (Segment.mk 0 0 0 0 []) ++ x2).getD ((IntKind.i64.wrap x3).tmod (↑x2.length : Int)).toNat (env.d 32)).to_ (xorI IntKind.u64 ((List.replicate 0 (Segment.mk 0 0 0 0 []) ++ x2).getD ((IntKind.i64.wrap x3).tmod (↑x2.length : Int)).toNat (env.d 32)).begin_ x4) ((List.replicate 0 (Segment.mk 0 0 0 0 []) ++ x2).getD ((IntKind.i64.wrap x3).tmod (↑x2.length : Int)).toNat (env.d 32)).end_ ((List.replicate 0 (Segment.mk 0 0 0 0 []) ++ x2).getD ((IntKind.i64.wrap x3).tmod (↑x2.length : Int)).toNat (env.d 32)).records)) fun y10 _ y12 y13 y14 y15 ↦ br (inb y13 (↑y15.length : Int)) (V12 y10 (y15.set y13.toNat (Segment.mk (y15.getD y13.toNat (env.d 32)).from_ (y15.getD y13.toNat (env.d 32)).to_ (y15.getD y13.toNat (env.d 32)).begin_ y14 (y15.getD y13.toNat (env.d 32)).records)) fun y16 ↦ br y12 (kr (y16.snd == 11)) (kr false)) False) False) False) False)) False) False) False) False) False
def v_7_6 (vs : List (SV env.T)) (K : Ex → List (SV env.T) → Prop) : Prop :=
  dCD 39 vs fun x1 vs => dCD 32 vs fun x2 vs => dCI .u8 vs fun x3 vs => dCI .u64 vs fun x4 vs => dCB vs fun x5 vs => dCB vs fun x6 vs => dCE vs (s_7_6 x1 x2 x3 x4 x5 x6 (fun y1 => K .ret [.bool y1]))
def q_7_6 : Piece env := ⟨⟨[.holeD 39, .holeD 32, .hole, .hole, .any, .any, .any, .any, .hole, .hole, .any, .any, .any, .any, .any, .any, .any, .any, .any, .any, .any, .any, .any, .any, .any, .any, .any, .any, .any, .any, .any, .any, .any, .any, .any, .any, .any, .any, .any, .any, .any, .any, .any, .any, .any, .any, .any, .any, .any, .any, .any, .any, .any, .any, .any, .any, .any, .any, .any, .any, .any, .any, .any, .any, .any, .any, .any, .any, .any, .any, .any, .any, .any, .any, .any, .any, .any, .any, .any, .any, .any, .any, .any, .any, .any, .any, .any, .any, .any, .any, .any, .any, .any, .any, .any, .any, .any, .any, .any, .any, .any, .any, .any, .any, .any, .any, .any, .any, .any, .any, .any, .any, .any, .any, .any, .any], [], [], 0⟩, exitF none [] (some ⟨[.any, .any, .any, .any, .any, .any, .any, .any, .hole, .any, .any, .any, .any, .any, .any, .any, .any, .any, .any, .any, .any, .any, .any, .any, .any, .any, .any, .any, .any, .any, .any, .any, .any, .any, .any, .any, .any, .any, .any, .any, .any, .any, .any, .any, .any, .any, .any, .any, .any, .any, .any, .any, .any, .any, .any, .any, .any, .any, .any, .any, .any, .any, .any, .any, .any, .any, .any, .any, .any, .any, .any, .any, .any, .any, .any, .any, .any, .any, .any, .any, .any, .any, .any, .any, .any, .any, .any, .any, .any, .any, .any, .any, .any, .any, .any, .any, .any, .any, .any, .any, .any, .any, .any, .any, .any, .any, .any, .any, .any, .any, .any, .any, .any, .any, .any, .any], [], [], 0⟩), v_7_6⟩
noncomputable def B7 : (List Task) → (List Segment) → Int → Int → (Y7 → Prop) → Prop :=
  fun x0 x1 x2 x3 K ↦ V8 fun y5 ↦ V9 x0 x1 fun y6 ↦ V12 x0 x1 fun y7 ↦ br (!y6) (K y5) (br (y7.snd != 0) (K y5) (br (decide ((↑x1.length : Int) < 2)) (K y5) (br (x3 == 0) (K y5) (s_7_6 x0 x1 x2 x3 false y5 K))))
theorem V7_ex : ∃ V : (List Task) → (List Segment) → Int → Int → (Y7 → Prop) → Prop, V = B7 := ⟨_, rfl⟩
noncomputable def V7 : (List Task) → (List Segment) → Int → Int → (Y7 → Prop) → Prop := Classical.choose V7_ex
theorem V7_eq : V7 = B7 := Classical.choose_spec V7_ex
theorem pook_7_13_7 : PiecesOk Try.prog env (ctxG env false [] R6 [] []) 7 b7 :=
  pieces_at (rfIn_body (fn := f7) (b := b7) rfl hb7) (L := []) (S := []) (fun _ => rfl) (fun _ => rfl) (by kernel_rfl) (by kernel_rfl) (fun _ hq => by cases hq) (fun _ hq => by cases hq)
theorem book_7_13 : BodiesOk Try.prog env (ctxG env false [] R6 [] []) := bodies_okG (ks := []) (by kernel_rfl) (fun _ hq => by cases hq)
theorem stok_7_13 (k : Nat) (x1 : (List Task)) (x2 : Bool) (x3 : Bool) (x4 : Int) (x5 : Int) (x6 : Int) (x7 : (List Segment)) (K : Ex → List (SV env.T) → Prop) : l_7_13 (k + 1) x1 x2 x3 x4 x5 x6 x7 (fun y1 y2 y3 y4 y5 y6 => K (.exit 0) [.dat 39 y1, .bool y2, .bool y3, .int .i64 y4, .int .u64 y5, .dat 32 y6]) = vcCode env (ctxG env false [] R6 [] []) 2000 7 (loopAt b7 13) (insSt p_7_13.head [.dat 39 x1, .bool x2, .bool x3, .int .i64 x4, .int .u64 x5, .int .i64 x6, .dat 32 x7]) (stepK p_7_13 (w_7_13 k) K) := by kernel_rfl
theorem wiok_7_13 (k : Nat) (vs : List (SV env.T)) (K : Ex → List (SV env.T) → Prop) (h : w_7_13 k vs K) : ∃ x1 : (List Task), ∃ x2 : Bool, ∃ x3 : Bool, ∃ x4 : Int, ∃ x5 : Int, ∃ x6 : Int, ∃ x7 : (List Segment), vs = [.dat 39 x1, .bool x2, .bool x3, .int .i64 x4, .int .u64 x5, .int .i64 x6, .dat 32 x7] ∧ l_7_13 k x1 x2 x3 x4 x5 x6 x7 (fun y1 y2 y3 y4 y5 y6 => K (.exit 0) [.dat 39 y1, .bool y2, .bool y3, .int .i64 y4, .int .u64 y5, .dat 32 y6]) := by
  unfold w_7_13 at h
  replace h := dCD_spec h
  obtain ⟨x1, vs0, e0, h⟩ := h
  replace h := dCB_spec h
  obtain ⟨x2, vs1, e1, h⟩ := h
  replace h := dCB_spec h
  obtain ⟨x3, vs2, e2, h⟩ := h
  replace h := dCI_spec h
  obtain ⟨x4, vs3, e3, h⟩ := h
  replace h := dCI_spec h
  obtain ⟨x5, vs4, e4, h⟩ := h
  replace h := dCI_spec h
  obtain ⟨x6, vs5, e5, h⟩ := h
  replace h := dCD_spec h
  obtain ⟨x7, vs6, e6, h⟩ := h
  replace h := dCE_spec h
  obtain ⟨e, h⟩ := h
  exact ⟨x1, x2, x3, x4, x5, x6, x7, by rw [e0, e1, e2, e3, e4, e5, e6, e], h⟩
theorem zeok_7_13 (x1 : (List Task)) (x2 : Bool) (x3 : Bool) (x4 : Int) (x5 : Int) (x6 : Int) (x7 : (List Segment)) (K : Ex → List (SV env.T) → Prop) : l_7_13 0 x1 x2 x3 x4 x5 x6 x7 (fun y1 y2 y3 y4 y5 y6 => K (.exit 0) [.dat 39 y1, .bool y2, .bool y3, .int .i64 y4, .int .u64 y5, .dat 32 y6]) = False := by kernel_rfl
theorem ok_7_13 : PieceOk Try.prog env p_7_13 (.loop (loopAt b7 13)) := by
  refine loop_step (Wn := w_7_13) tab (ctxG_ok R6_ok false [] _ _) book_7_13 (pieces_sub pook_7_13_7 (by kernel_rfl)) rfl ?_ 2000 ?_
  · intro vs K h
    obtain ⟨x1, x2, x3, x4, x5, x6, x7, _, h⟩ := wiok_7_13 0 vs K h
    exact Eq.mp (zeok_7_13 x1 x2 x3 x4 x5 x6 x7 K) h
  · intro k vs K h
    obtain ⟨x1, x2, x3, x4, x5, x6, x7, rfl, h⟩ := wiok_7_13 (k + 1) vs K h
    exact Eq.mp (stok_7_13 k x1 x2 x3 x4 x5 x6 x7 K) h
theorem pooq_7_6_7 : PiecesOk Try.prog env (ctxG env false [] R6 [(7, [(13, p_7_13)])] []) 7 b7 :=
  pieces_at (rfIn_body (fn := f7) (b := b7) rfl hb7) (L := [(13, p_7_13)]) (S := []) (fun _ => rfl) (fun _ => rfl) (by kernel_rfl) (by kernel_rfl) (List.forall_mem_cons.2 ⟨fun _ => ok_7_13, (fun _ hq => by cases hq)⟩) (fun _ hq => by cases hq)
theorem booq_7_6 : BodiesOk Try.prog env (ctxG env false [] R6 [(7, [(13, p_7_13)])] []) := bodies_okG (ks := [7]) (by kernel_rfl) (List.forall_mem_cons.2 ⟨body_at (fn := f7) (body := b7) rfl hb7 pooq_7_6_7, (fun _ hq => by cases hq)⟩)
theorem stoq_7_6 (x1 : (List Task)) (x2 : (List Segment)) (x3 : Int) (x4 : Int) (x5 : Bool) (x6 : Bool) (K : Ex → List (SV env.T) → Prop) : s_7_6  x1 x2 x3 x4 x5 x6 (fun y1 => K .ret [.bool y1]) = vcCode env (ctxG env false [] R6 [(7, [(13, p_7_13)])] []) 2000 7 (seqAt b7 6) (insSt q_7_6.head [.dat 39 x1, .dat 32 x2, .int .u8 x3, .int .u64 x4, .bool x5, .bool x6]) (outP env q_7_6 K) := by kernel_rfl
theorem wioq_7_6 (vs : List (SV env.T)) (K : Ex → List (SV env.T) → Prop) (h : v_7_6 vs K) : ∃ x1 : (List Task), ∃ x2 : (List Segment), ∃ x3 : Int, ∃ x4 : Int, ∃ x5 : Bool, ∃ x6 : Bool, vs = [.dat 39 x1, .dat 32 x2, .int .u8 x3, .int .u64 x4, .bool x5, .bool x6] ∧ s_7_6  x1 x2 x3 x4 x5 x6 (fun y1 => K .ret [.bool y1]) := by
  unfold v_7_6 at h
  replace h := dCD_spec h
  obtain ⟨x1, vs0, e0, h⟩ := h
  replace h := dCD_spec h
  obtain ⟨x2, vs1, e1, h⟩ := h
  replace h := dCI_spec h
  obtain ⟨x3, vs2, e2, h⟩ := h
  replace h := dCI_spec h
  obtain ⟨x4, vs3, e3, h⟩ := h
  replace h := dCB_spec h
  obtain ⟨x5, vs4, e4, h⟩ := h
  replace h := dCB_spec h
  obtain ⟨x6, vs5, e5, h⟩ := h
  replace h := dCE_spec h
  obtain ⟨e, h⟩ := h
  exact ⟨x1, x2, x3, x4, x5, x6, by rw [e0, e1, e2, e3, e4, e5, e], h⟩
theorem oq_7_6 : PieceOk Try.prog env q_7_6 (seqAt b7 6) := by
  refine seq_step tab (ctxG_ok R6_ok false [] _ _) booq_7_6 (pieces_subS pooq_7_6_7 (by kernel_rfl)) 2000 ?_
  intro vs K h
  obtain ⟨x1, x2, x3, x4, x5, x6, rfl, h⟩ := wioq_7_6 vs K h
  exact Eq.mp (stoq_7_6 x1 x2 x3 x4 x5 x6 K) h
theorem po_7_7 : PiecesOk Try.prog env (ctxG env false [] R6 [(7, [(13, p_7_13)])] [(7, [(6, q_7_6)])]) 7 b7 :=
  pieces_at (rfIn_body (fn := f7) (b := b7) rfl hb7) (L := [(13, p_7_13)]) (S := [(6, q_7_6)]) (fun _ => rfl) (fun _ => rfl) (by kernel_rfl) (by kernel_rfl) (List.forall_mem_cons.2 ⟨fun _ => ok_7_13, (fun _ hq => by cases hq)⟩) (List.forall_mem_cons.2 ⟨fun _ => oq_7_6, (fun _ hq => by cases hq)⟩)
theorem bo_7 : BodiesOk Try.prog env (ctxG env false [] R6 [(7, [(13, p_7_13)])] [(7, [(6, q_7_6)])]) := bodies_okG (ks := [7]) (by kernel_rfl) (List.forall_mem_cons.2 ⟨body_at (fn := f7) (body := b7) rfl hb7 po_7_7, (fun _ hq => by cases hq)⟩)
theorem eq_7 (x0 : (List Task)) (x1 : (List Segment)) (x2 : Int) (x3 : Int) (K : Y7 → Prop) : vcCode env (ctxG env false [] R6 [(7, [(13, p_7_13)])] [(7, [(6, q_7_6)])]) 2000 7 b7 (entry env f7 [v22 x0, v23 x1, v5 x2, v29 x3]) (finR env f7 decR7 K) = B7 x0 x1 x2 x3 K := by kernel_rfl
noncomputable def rule7 : Nat × Rule env := (7, ruleF env decA7 encR7 fun x => V7 x.1 x.2.1 x.2.2.1 x.2.2.2)
theorem r7 : RuleOk Try.prog env 7 rule7.2 :=
  rule_fun tab (ctxG_ok R6_ok false [] _ _) bo_7 (f := 7) (fn := f7) rfl hb7 po_7_7 2000 encA7 hA7 hR7 hD7 (fun _ => of_decide_eq_true (by kernel_rfl)) (fun x K => (eq_7 x.1 x.2.1 x.2.2.1 x.2.2.2 K).trans (by rw [V7_eq]))
noncomputable def R7 : List (Nat × Rule env) := rule7 :: R6
theorem R7_ok : AllOk Try.prog env R7 := ⟨r7, R6_ok⟩
end Go.Vg.Ytkaodeodiakldaa
