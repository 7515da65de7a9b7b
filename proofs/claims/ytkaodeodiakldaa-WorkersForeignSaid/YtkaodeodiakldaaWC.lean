/-
  Walked functions of the program: predicate transformers and their rules. Written by a program of this work (gen.py, VgGen.lean) out of the executor's own reduction; no condition.
-/
import Derived.Test.YtkaodeodiakldaaWB
set_option maxRecDepth 100000
set_option maxHeartbeats 4000000
namespace Go.Vg.Ytkaodeodiakldaa
open Go.Vg Go.Proofs
-- 36 queuelab/workers.divided$1
noncomputable def f36 : Func := Try.f36
noncomputable def b36 : Code := (Try.f36.body).getD .skip
abbrev X36 := Int × Int × Int × Int
def encA36 (x : X36) : List (SV env.T) := [v3 x.1, v10003 x.2.1, v10003 x.2.2.1, v10003 x.2.2.2]
def decA36 (l : List (SV env.T)) : Option X36 := match l with
  | [s0, s1, s2, s3] => match u3 s0, u10003 s1, u10003 s2, u10003 s3 with
    | some x0, some x1, some x2, some x3 => some (x0, x1, x2, x3)
    | _, _, _, _ => none
  | _ => none
theorem hA36 (l : List (SV env.T)) (x : X36) (h : decA36 l = some x) : WkA env.has l (encA36 x) := by
  unfold decA36 at h; split at h
  · split at h
    · rename_i h0 h1 h2 h3; cases h; exact (.cons (u3_wk h0) (.cons (u10003_wk h1) (.cons (u10003_wk h2) (.cons (u10003_wk h3) .nil))))
    · cases h
  · cases h
abbrev Y36 := Int
def encR36 (x : Y36) : List (SV env.T) := [v3 x]
def decR36 (l : List (SV env.T)) : Option Y36 := match l with
  | [s0] => match u3 s0 with
    | some x0 => some (x0)
    | _ => none
  | _ => none
theorem hR36 (l : List (SV env.T)) (x : Y36) (h : decR36 l = some x) : WkA env.has l (encR36 x) := by
  unfold decR36 at h; split at h
  · split at h
    · rename_i h0; cases h; exact (.cons (u3_wk h0) .nil)
    · cases h
  · cases h
theorem hD36 (y : Y36) : isDataV (tupV (encR36 y)) = true := rfl
theorem hb36 : f36.body = some b36 := by kernel_rfl
noncomputable def B36 : Int → Int → Int → Int → (Y36 → Prop) → Prop :=
  fun x0 x1 x2 x3 K ↦ br (!x3 == 0) (K (IntKind.i64.wrap (x1 + IntKind.i64.wrap ((IntKind.i64.wrap (IntKind.i64.wrap (x2 - x1) * x0)).tdiv x3)))) False
theorem V36_ex : ∃ V : Int → Int → Int → Int → (Y36 → Prop) → Prop, V = B36 := ⟨_, rfl⟩
noncomputable def V36 : Int → Int → Int → Int → (Y36 → Prop) → Prop := Classical.choose V36_ex
theorem V36_eq : V36 = B36 := Classical.choose_spec V36_ex
theorem po_36_36 : PiecesOk Try.prog env (ctxG env false [] R24 [] []) 36 b36 :=
  pieces_at (rfIn_body (fn := f36) (b := b36) rfl hb36) (L := []) (S := []) (fun _ => rfl) (fun _ => rfl) (by kernel_rfl) (by kernel_rfl) (fun _ hq => by cases hq) (fun _ hq => by cases hq)
theorem bo_36 : BodiesOk Try.prog env (ctxG env false [] R24 [] []) := bodies_okG (ks := []) (by kernel_rfl) (fun _ hq => by cases hq)
theorem eq_36 (x0 : Int) (x1 : Int) (x2 : Int) (x3 : Int) (K : Y36 → Prop) : vcCode env (ctxG env false [] R24 [] []) 2000 36 b36 (entry env f36 [v3 x0, v10003 x1, v10003 x2, v10003 x3]) (finR env f36 decR36 K) = B36 x0 x1 x2 x3 K := by kernel_rfl
noncomputable def rule36 : Nat × Rule env := (36, ruleF env decA36 encR36 fun x => V36 x.1 x.2.1 x.2.2.1 x.2.2.2)
theorem r36 : RuleOk Try.prog env 36 rule36.2 :=
  rule_fun tab (ctxG_ok R24_ok false [] _ _) bo_36 (f := 36) (fn := f36) rfl hb36 po_36_36 2000 encA36 hA36 hR36 hD36 (fun _ => of_decide_eq_true (by kernel_rfl)) (fun x K => (eq_36 x.1 x.2.1 x.2.2.1 x.2.2.2 K).trans (by rw [V36_eq]))
noncomputable def R36 : List (Nat × Rule env) := rule36 :: R24
theorem R36_ok : AllOk Try.prog env R36 := ⟨r36, R24_ok⟩
-- 21 queuelab/workers.divided
noncomputable def f21 : Func := Try.f21
noncomputable def b21 : Code := (Try.f21.body).getD .skip
abbrev X21 := Int × Int × Int
def encA21 (x : X21) : List (SV env.T) := [v3 x.1, v3 x.2.1, v3 x.2.2]
def decA21 (l : List (SV env.T)) : Option X21 := match l with
  | [s0, s1, s2] => match u3 s0, u3 s1, u3 s2 with
    | some x0, some x1, some x2 => some (x0, x1, x2)
    | _, _, _ => none
  | _ => none
theorem hA21 (l : List (SV env.T)) (x : X21) (h : decA21 l = some x) : WkA env.has l (encA21 x) := by
  unfold decA21 at h; split at h
  · split at h
    · rename_i h0 h1 h2; cases h; exact (.cons (u3_wk h0) (.cons (u3_wk h1) (.cons (u3_wk h2) .nil)))
    · cases h
  · cases h
abbrev Y21 := (Int × (Int × Int × Int))
def encR21 (x : Y21) : List (SV env.T) := [v56 x]
def decR21 (l : List (SV env.T)) : Option Y21 := match l with
  | [s0] => match u56 s0 with
    | some x0 => some (x0)
    | _ => none
  | _ => none
theorem hR21 (l : List (SV env.T)) (x : Y21) (h : decR21 l = some x) : WkA env.has l (encR21 x) := by
  unfold decR21 at h; split at h
  · split at h
    · rename_i h0; cases h; exact (.cons (u56_wk h0) .nil)
    · cases h
  · cases h
theorem hD21 (y : Y21) : isDataV (tupV (encR21 y)) = true := rfl
theorem hb21 : f21.body = some b21 := by kernel_rfl
noncomputable def B21 : Int → Int → Int → (Y21 → Prop) → Prop :=
  fun x0 x1 x2 K ↦ K (x2, x0, x1, x2)
theorem V21_ex : ∃ V : Int → Int → Int → (Y21 → Prop) → Prop, V = B21 := ⟨_, rfl⟩
noncomputable def V21 : Int → Int → Int → (Y21 → Prop) → Prop := Classical.choose V21_ex
theorem V21_eq : V21 = B21 := Classical.choose_spec V21_ex
theorem po_21_21 : PiecesOk Try.prog env (ctxG env false [] R36 [] []) 21 b21 :=
  pieces_at (rfIn_body (fn := f21) (b := b21) rfl hb21) (L := []) (S := []) (fun _ => rfl) (fun _ => rfl) (by kernel_rfl) (by kernel_rfl) (fun _ hq => by cases hq) (fun _ hq => by cases hq)
theorem bo_21 : BodiesOk Try.prog env (ctxG env false [] R36 [] []) := bodies_okG (ks := []) (by kernel_rfl) (fun _ hq => by cases hq)
theorem eq_21 (x0 : Int) (x1 : Int) (x2 : Int) (K : Y21 → Prop) : vcCode env (ctxG env false [] R36 [] []) 2000 21 b21 (entry env f21 [v3 x0, v3 x1, v3 x2]) (finR env f21 decR21 K) = B21 x0 x1 x2 K := by kernel_rfl
noncomputable def rule21 : Nat × Rule env := (21, ruleF env decA21 encR21 fun x => V21 x.1 x.2.1 x.2.2)
theorem r21 : RuleOk Try.prog env 21 rule21.2 :=
  rule_fun tab (ctxG_ok R36_ok false [] _ _) bo_21 (f := 21) (fn := f21) rfl hb21 po_21_21 2000 encA21 hA21 hR21 hD21 (fun _ => of_decide_eq_true (by kernel_rfl)) (fun x K => (eq_21 x.1 x.2.1 x.2.2 K).trans (by rw [V21_eq]))
noncomputable def R21 : List (Nat × Rule env) := rule21 :: R36
theorem R21_ok : AllOk Try.prog env R21 := ⟨r21, R36_ok⟩
noncomputable def f37 : Func := Try.f37
noncomputable def b37 : Code := (Try.f37.body).getD .skip
theorem hb37 : f37.body = some b37 := by kernel_rfl
-- 10 queuelab/workers.Assign
noncomputable def f10 : Func := Try.f10
noncomputable def b10 : Code := (Try.f10.body).getD .skip
abbrev X10 := Int × Int × Int × Int
def encA10 (x : X10) : List (SV env.T) := [v3 x.1, v3 x.2.1, v3 x.2.2.1, v3 x.2.2.2]
def decA10 (l : List (SV env.T)) : Option X10 := match l with
  | [s0, s1, s2, s3] => match u3 s0, u3 s1, u3 s2, u3 s3 with
    | some x0, some x1, some x2, some x3 => some (x0, x1, x2, x3)
    | _, _, _, _ => none
  | _ => none
theorem hA10 (l : List (SV env.T)) (x : X10) (h : decA10 l = some x) : WkA env.has l (encA10 x) := by
  unfold decA10 at h; split at h
  · split at h
    · rename_i h0 h1 h2 h3; cases h; exact (.cons (u3_wk h0) (.cons (u3_wk h1) (.cons (u3_wk h2) (.cons (u3_wk h3) .nil))))
    · cases h
  · cases h
abbrev Y10 := (List Task) × Int
def encR10 (x : Y10) : List (SV env.T) := [v22 x.1, v26 x.2]
def decR10 (l : List (SV env.T)) : Option Y10 := match l with
  | [s0, s1] => match u22 s0, u26 s1 with
    | some x0, some x1 => some (x0, x1)
    | _, _ => none
  | _ => none
theorem hR10 (l : List (SV env.T)) (x : Y10) (h : decR10 l = some x) : WkA env.has l (encR10 x) := by
  unfold decR10 at h; split at h
  · split at h
    · rename_i h0 h1; cases h; exact (.cons (u22_wk h0) (.cons (u26_wk h1) .nil))
    · cases h
  · cases h
theorem hD10 (y : Y10) : isDataV (tupV (encR10 y)) = true := rfl
theorem hb10 : f10.body = some b10 := by kernel_rfl
def l_10x37_1 : Nat → Int → Int → Int → Int → Int → Int → Int → Int → Int → Int → Int → Int → Int → Int → Int → Int → Int → (List Task) → (Int → Int → Int → Int → Int → Int → Int → Int → Int → Int → Int → Int → (List Task) → Prop) → Prop
  | 0 => fun _ _ _ _ _ _ _ _ _ _ _ _ _ _ _ _ _ _ _ => False
  | k + 1 => fun x1 x2 x3 x4 x5 x6 x7 x8 x9 x10 x11 x12 x13 x14 x15 x16 x17 x18 k0 ↦ br (decide (x5 < x4)) (∃ k21, (V36 x5 x1 x2 x3 fun y22 ↦ tupV (encR36 y22) = tupV (encR36 k21)) ∧ ∃ k22, (V36 (IntKind.i64.wrap (x5 + 1)) x1 x2 x3 fun y23 ↦ tupV (encR36 y23) = tupV (encR36 k22)) ∧ br (!x17 == 0) (br (roomB (x18 ++ [Task.mk x5 (x5.tmod x17) k21 k22]).length (bytesB env 39)) (l_10x37_1 k x1 x2 x3 x4 (IntKind.i64.wrap (x5 + 1)) x6 x7 x8 x9 x10 x11 x12 x13 x14 x15 x16 x17 (x18 ++ [Task.mk x5 (x5.tmod x17) k21 k22]) k0) False) False) (k0 x6 x7 x8 x9 x10 x11 x12 x13 x14 x15 x16 x17 x18)
def w_10x37_1 (k : Nat) (vs : List (SV env.T)) (K : Ex → List (SV env.T) → Prop) : Prop :=
  dCI .i64 vs fun x1 vs => dCI .i64 vs fun x2 vs => dCI .i64 vs fun x3 vs => dCI .i64 vs fun x4 vs => dCI .i64 vs fun x5 vs => dCI .i64 vs fun x6 vs => dCI .i64 vs fun x7 vs => dCI .i64 vs fun x8 vs => dCN vs fun vs => dCI .i64 vs fun x9 vs => dCI .i64 vs fun x10 vs => dCI .i64 vs fun x11 vs => dCI .i64 vs fun x12 vs => dCI .i64 vs fun x13 vs => dCI .i64 vs fun x14 vs => dCI .i64 vs fun x15 vs => dCI .i64 vs fun x16 vs => dCI .i64 vs fun x17 vs => dCD 39 vs fun x18 vs => dCE vs (l_10x37_1 k x1 x2 x3 x4 x5 x6 x7 x8 x9 x10 x11 x12 x13 x14 x15 x16 x17 x18 (fun y1 y2 y3 y4 y5 y6 y7 y8 y9 y10 y11 y12 y13 => K (.exit 0) [.int .i64 y1, .int .i64 y2, .int .i64 y3, .nils, .int .i64 y4, .int .i64 y5, .int .i64 y6, .int .i64 y7, .int .i64 y8, .int .i64 y9, .int .i64 y10, .int .i64 y11, .int .i64 y12, .dat 39 y13]))
def p_10x37_1 : Piece env := ⟨⟨[.yld 0, .any, .boxd 76 [.fn 36 [.boxd 3 [.hole] 0, .boxd 3 [.hole] 0, .boxd 3 [.hole] 0]] 0, .any, .any, .hole, .hole, .any, .any, .any, .any, .any, .any, .any, .any, .any, .any, .any, .any, .any, .any, .any], [.yld 0, .hole, .hole, .hole, .any, .any, .any, .any, .ptr 1 0, .hole, .hole, .ptr 2 0, .any, .any, .any, .any, .any, .any, .any, .any, .any, .any, .any, .any, .any, .any, .any, .any, .any, .any, .any, .any, .any, .any, .any, .any, .hole, .hole, .hole, .fn 37 [.boxd 3 [.hole] 0, .boxd 76 [.fn 36 [.boxd 3 [.hole] 0, .boxd 3 [.hole] 0, .boxd 3 [.hole] 0]] 0], .any, .any, .any, .any, .any, .any, .any, .any, .any, .any, .any, .any, .any, .any, .any], [(0, .loop ⟨10, 7, 54, 0, 0, none⟩), (1, .cells 3 [.hole]), (2, .cells 22 [.row 3]), (3, .row 39)], 4⟩, exitF none [(0, ⟨[.any, .any, .any, .any, .any, .any, .any, .any, .any, .any, .any, .any, .any, .any, .any, .any, .any, .any, .any, .any, .any, .any], [.yld 0, .hole, .hole, .hole, .any, .any, .any, .any, .ptr 1 0, .hole, .hole, .ptr 2 0, .any, .any, .any, .any, .any, .any, .any, .any, .any, .any, .any, .any, .any, .any, .any, .any, .any, .any, .any, .any, .any, .any, .any, .any, .hole, .hole, .hole, .fn 37 [.boxd 3 [.hole] 0, .boxd 76 [.fn 36 [.boxd 3 [.hole] 0, .boxd 3 [.hole] 0, .boxd 3 [.hole] 0]] 0], .any, .any, .any, .any, .any, .any, .any, .any, .any, .any, .any, .any, .any, .any, .any], [(0, .loop ⟨10, 7, 54, 0, 0, none⟩), (1, .cells 3 [.hole]), (2, .cells 22 [.row 3]), (3, .row 39)], 4⟩)] none, fun vs K => ∃ k, w_10x37_1 k vs K⟩
def s_10_3 : Int → Int → Int → Int → Int → (Int → (List Task) → Prop) → Prop :=
  fun x1 x2 x3 x4 x5 kr ↦ V21 x1 x2 x3 fun y8 ↦ ∃ k9, l_10x37_1 k9 y8.snd.fst y8.snd.snd.fst y8.snd.snd.snd y8.fst 0 x1 x2 x3 x4 x1 x2 x3 y8.fst y8.snd.fst y8.snd.snd.fst y8.snd.snd.snd x5 [] fun _ _ _ _ _ _ _ _ _ _ _ _ ↦ kr 0
def v_10_3 (vs : List (SV env.T)) (K : Ex → List (SV env.T) → Prop) : Prop :=
  dCI .i64 vs fun x1 vs => dCI .i64 vs fun x2 vs => dCI .i64 vs fun x3 vs => dCN vs fun vs => dCI .i64 vs fun x4 vs => dCI .i64 vs fun x5 vs => dCE vs (s_10_3 x1 x2 x3 x4 x5 (fun y1 y2 => K .ret [.int .i64 y1, .dat 39 y2]))
def q_10_3 : Piece env := ⟨⟨[.hole, .hole, .hole, .any, .any, .any, .any, .ptr 0 0, .hole, .hole, .any, .any, .any, .any, .any, .any, .any, .any, .any, .any, .any, .any, .any, .any, .any, .any, .any, .any, .any, .any, .any, .any, .any, .any, .any, .any, .any, .any, .any, .any, .any, .any, .any, .any, .any, .any, .any, .any, .any, .any, .any, .any, .any, .any], [], [(0, .cells 3 [.hole])], 1⟩, exitF none [] (some ⟨[.any, .any, .any, .any, .any, .any, .any, .any, .row 0, .hole, .any, .any, .any, .any, .any, .any, .any, .any, .any, .any, .any, .any, .any, .any, .any, .any, .any, .any, .any, .any, .any, .any, .any, .any, .any, .any, .any, .any, .any, .any, .any, .any, .any, .any, .any, .any, .any, .any, .any, .any, .any, .any, .any, .any], [], [(0, .row 39)], 1⟩), v_10_3⟩
noncomputable def B10 : Int → Int → Int → Int → (Y10 → Prop) → Prop :=
  fun x0 x1 x2 x3 K ↦ V20 x0 0 10000000 fun y5 ↦ br (!y5) (K ([], 1)) (V20 x1 0 10000000 fun y6 ↦ br (!y6) (K ([], 1)) (V20 x3 1 8 fun y7 ↦ br (!y7) (K ([], 1)) (V20 x2 1 (if IntKind.i64.wrap (x1 - x0) < 32 then IntKind.i64.wrap (x1 - x0) else 32) fun y8 ↦ br (!y8) (K ([], 1)) (s_10_3 x0 x1 x2 0 x3 fun y9 y10 ↦ K (y10, y9)))))
theorem V10_ex : ∃ V : Int → Int → Int → Int → (Y10 → Prop) → Prop, V = B10 := ⟨_, rfl⟩
noncomputable def V10 : Int → Int → Int → Int → (Y10 → Prop) → Prop := Classical.choose V10_ex
theorem V10_eq : V10 = B10 := Classical.choose_spec V10_ex
theorem pook_10x37_1_37 : PiecesOk Try.prog env (ctxG env false [] R21 [] []) 37 b37 :=
  pieces_at (rfIn_body (fn := f37) (b := b37) rfl hb37) (L := []) (S := []) (fun _ => rfl) (fun _ => rfl) (by kernel_rfl) (by kernel_rfl) (fun _ hq => by cases hq) (fun _ hq => by cases hq)
theorem book_10x37_1 : BodiesOk Try.prog env (ctxG env false [] R21 [] []) := bodies_okG (ks := []) (by kernel_rfl) (fun _ hq => by cases hq)
theorem stok_10x37_1 (k : Nat) (x1 : Int) (x2 : Int) (x3 : Int) (x4 : Int) (x5 : Int) (x6 : Int) (x7 : Int) (x8 : Int) (x9 : Int) (x10 : Int) (x11 : Int) (x12 : Int) (x13 : Int) (x14 : Int) (x15 : Int) (x16 : Int) (x17 : Int) (x18 : (List Task)) (K : Ex → List (SV env.T) → Prop) : l_10x37_1 (k + 1) x1 x2 x3 x4 x5 x6 x7 x8 x9 x10 x11 x12 x13 x14 x15 x16 x17 x18 (fun y1 y2 y3 y4 y5 y6 y7 y8 y9 y10 y11 y12 y13 => K (.exit 0) [.int .i64 y1, .int .i64 y2, .int .i64 y3, .nils, .int .i64 y4, .int .i64 y5, .int .i64 y6, .int .i64 y7, .int .i64 y8, .int .i64 y9, .int .i64 y10, .int .i64 y11, .int .i64 y12, .dat 39 y13]) = vcCode env (ctxG env false [] R21 [] []) 2000 37 (loopAt b37 1) (insSt p_10x37_1.head [.int .i64 x1, .int .i64 x2, .int .i64 x3, .int .i64 x4, .int .i64 x5, .int .i64 x6, .int .i64 x7, .int .i64 x8, .nils, .int .i64 x9, .int .i64 x10, .int .i64 x11, .int .i64 x12, .int .i64 x13, .int .i64 x14, .int .i64 x15, .int .i64 x16, .int .i64 x17, .dat 39 x18]) (stepK p_10x37_1 (w_10x37_1 k) K) := by kernel_rfl
theorem wiok_10x37_1 (k : Nat) (vs : List (SV env.T)) (K : Ex → List (SV env.T) → Prop) (h : w_10x37_1 k vs K) : ∃ x1 : Int, ∃ x2 : Int, ∃ x3 : Int, ∃ x4 : Int, ∃ x5 : Int, ∃ x6 : Int, ∃ x7 : Int, ∃ x8 : Int, ∃ x9 : Int, ∃ x10 : Int, ∃ x11 : Int, ∃ x12 : Int, ∃ x13 : Int, ∃ x14 : Int, ∃ x15 : Int, ∃ x16 : Int, ∃ x17 : Int, ∃ x18 : (List Task), vs = [.int .i64 x1, .int .i64 x2, .int .i64 x3, .int .i64 x4, .int .i64 x5, .int .i64 x6, .int .i64 x7, .int .i64 x8, .nils, .int .i64 x9, .int .i64 x10, .int .i64 x11, .int .i64 x12, .int .i64 x13, .int .i64 x14, .int .i64 x15, .int .i64 x16, .int .i64 x17, .dat 39 x18] ∧ l_10x37_1 k x1 x2 x3 x4 x5 x6 x7 x8 x9 x10 x11 x12 x13 x14 x15 x16 x17 x18 (fun y1 y2 y3 y4 y5 y6 y7 y8 y9 y10 y11 y12 y13 => K (.exit 0) [.int .i64 y1, .int .i64 y2, .int .i64 y3, .nils, .int .i64 y4, .int .i64 y5, .int .i64 y6, .int .i64 y7, .int .i64 y8, .int .i64 y9, .int .i64 y10, .int .i64 y11, .int .i64 y12, .dat 39 y13]) := by
  unfold w_10x37_1 at h
  replace h := dCI_spec h
  obtain ⟨x1, vs0, e0, h⟩ := h
  replace h := dCI_spec h
  obtain ⟨x2, vs1, e1, h⟩ := h
  replace h := dCI_spec h
  obtain ⟨x3, vs2, e2, h⟩ := h
  replace h := dCI_spec h
  obtain ⟨x4, vs3, e3, h⟩ := h
  replace h := dCI_spec h
  obtain ⟨x5, vs4, e4, h⟩ := h
  replace h := dCI_spec h
  obtain ⟨x6, vs5, e5, h⟩ := h
  replace h := dCI_spec h
  obtain ⟨x7, vs6, e6, h⟩ := h
  replace h := dCI_spec h
  obtain ⟨x8, vs7, e7, h⟩ := h
  replace h := dCN_spec h
  obtain ⟨vs8, e8, h⟩ := h
  replace h := dCI_spec h
  obtain ⟨x9, vs9, e9, h⟩ := h
  replace h := dCI_spec h
  obtain ⟨x10, vs10, e10, h⟩ := h
  replace h := dCI_spec h
  obtain ⟨x11, vs11, e11, h⟩ := h
  replace h := dCI_spec h
  obtain ⟨x12, vs12, e12, h⟩ := h
  replace h := dCI_spec h
  obtain ⟨x13, vs13, e13, h⟩ := h
  replace h := dCI_spec h
  obtain ⟨x14, vs14, e14, h⟩ := h
  replace h := dCI_spec h
  obtain ⟨x15, vs15, e15, h⟩ := h
  replace h := dCI_spec h
  obtain ⟨x16, vs16, e16, h⟩ := h
  replace h := dCI_spec h
  obtain ⟨x17, vs17, e17, h⟩ := h
  replace h := dCD_spec h
  obtain ⟨x18, vs18, e18, h⟩ := h
  replace h := dCE_spec h
  obtain ⟨e, h⟩ := h
  exact ⟨x1, x2, x3, x4, x5, x6, x7, x8, x9, x10, x11, x12, x13, x14, x15, x16, x17, x18, by rw [e0, e1, e2, e3, e4, e5, e6, e7, e8, e9, e10, e11, e12, e13, e14, e15, e16, e17, e18, e], h⟩
theorem zeok_10x37_1 (x1 : Int) (x2 : Int) (x3 : Int) (x4 : Int) (x5 : Int) (x6 : Int) (x7 : Int) (x8 : Int) (x9 : Int) (x10 : Int) (x11 : Int) (x12 : Int) (x13 : Int) (x14 : Int) (x15 : Int) (x16 : Int) (x17 : Int) (x18 : (List Task)) (K : Ex → List (SV env.T) → Prop) : l_10x37_1 0 x1 x2 x3 x4 x5 x6 x7 x8 x9 x10 x11 x12 x13 x14 x15 x16 x17 x18 (fun y1 y2 y3 y4 y5 y6 y7 y8 y9 y10 y11 y12 y13 => K (.exit 0) [.int .i64 y1, .int .i64 y2, .int .i64 y3, .nils, .int .i64 y4, .int .i64 y5, .int .i64 y6, .int .i64 y7, .int .i64 y8, .int .i64 y9, .int .i64 y10, .int .i64 y11, .int .i64 y12, .dat 39 y13]) = False := by kernel_rfl
theorem ok_10x37_1 : PieceOk Try.prog env p_10x37_1 (.loop (loopAt b37 1)) := by
  refine loop_step (Wn := w_10x37_1) tab (ctxG_ok R21_ok false [] _ _) book_10x37_1 (pieces_sub pook_10x37_1_37 (by kernel_rfl)) rfl ?_ 2000 ?_
  · intro vs K h
    obtain ⟨x1, x2, x3, x4, x5, x6, x7, x8, x9, x10, x11, x12, x13, x14, x15, x16, x17, x18, _, h⟩ := wiok_10x37_1 0 vs K h
    exact Eq.mp (zeok_10x37_1 x1 x2 x3 x4 x5 x6 x7 x8 x9 x10 x11 x12 x13 x14 x15 x16 x17 x18 K) h
  · intro k vs K h
    obtain ⟨x1, x2, x3, x4, x5, x6, x7, x8, x9, x10, x11, x12, x13, x14, x15, x16, x17, x18, rfl, h⟩ := wiok_10x37_1 (k + 1) vs K h
    exact Eq.mp (stok_10x37_1 k x1 x2 x3 x4 x5 x6 x7 x8 x9 x10 x11 x12 x13 x14 x15 x16 x17 x18 K) h
theorem pooq_10_3_10 : PiecesOk Try.prog env (ctxG env false [] R21 [(37, [(1, p_10x37_1)])] []) 10 b10 :=
  pieces_at (rfIn_body (fn := f10) (b := b10) rfl hb10) (L := []) (S := []) (fun _ => rfl) (fun _ => rfl) (by kernel_rfl) (by kernel_rfl) (fun _ hq => by cases hq) (fun _ hq => by cases hq)
theorem pooq_10_3_37 : PiecesOk Try.prog env (ctxG env false [] R21 [(37, [(1, p_10x37_1)])] []) 37 b37 :=
  pieces_at (rfIn_body (fn := f37) (b := b37) rfl hb37) (L := [(1, p_10x37_1)]) (S := []) (fun _ => rfl) (fun _ => rfl) (by kernel_rfl) (by kernel_rfl) (List.forall_mem_cons.2 ⟨fun _ => ok_10x37_1, (fun _ hq => by cases hq)⟩) (fun _ hq => by cases hq)
theorem booq_10_3 : BodiesOk Try.prog env (ctxG env false [] R21 [(37, [(1, p_10x37_1)])] []) := bodies_okG (ks := [37]) (by kernel_rfl) (List.forall_mem_cons.2 ⟨body_at (fn := f37) (body := b37) rfl hb37 pooq_10_3_37, (fun _ hq => by cases hq)⟩)
theorem stoq_10_3 (x1 : Int) (x2 : Int) (x3 : Int) (x4 : Int) (x5 : Int) (K : Ex → List (SV env.T) → Prop) : s_10_3  x1 x2 x3 x4 x5 (fun y1 y2 => K .ret [.int .i64 y1, .dat 39 y2]) = vcCode env (ctxG env false [] R21 [(37, [(1, p_10x37_1)])] []) 2000 10 (seqAt b10 3) (insSt q_10_3.head [.int .i64 x1, .int .i64 x2, .int .i64 x3, .nils, .int .i64 x4, .int .i64 x5]) (outP env q_10_3 K) := by kernel_rfl
theorem wioq_10_3 (vs : List (SV env.T)) (K : Ex → List (SV env.T) → Prop) (h : v_10_3 vs K) : ∃ x1 : Int, ∃ x2 : Int, ∃ x3 : Int, ∃ x4 : Int, ∃ x5 : Int, vs = [.int .i64 x1, .int .i64 x2, .int .i64 x3, .nils, .int .i64 x4, .int .i64 x5] ∧ s_10_3  x1 x2 x3 x4 x5 (fun y1 y2 => K .ret [.int .i64 y1, .dat 39 y2]) := by
  unfold v_10_3 at h
  replace h := dCI_spec h
  obtain ⟨x1, vs0, e0, h⟩ := h
  replace h := dCI_spec h
  obtain ⟨x2, vs1, e1, h⟩ := h
  replace h := dCI_spec h
  obtain ⟨x3, vs2, e2, h⟩ := h
  replace h := dCN_spec h
  obtain ⟨vs3, e3, h⟩ := h
  replace h := dCI_spec h
  obtain ⟨x4, vs4, e4, h⟩ := h
  replace h := dCI_spec h
  obtain ⟨x5, vs5, e5, h⟩ := h
  replace h := dCE_spec h
  obtain ⟨e, h⟩ := h
  exact ⟨x1, x2, x3, x4, x5, by rw [e0, e1, e2, e3, e4, e5, e], h⟩
theorem oq_10_3 : PieceOk Try.prog env q_10_3 (seqAt b10 3) := by
  refine seq_step tab (ctxG_ok R21_ok false [] _ _) booq_10_3 (pieces_subS pooq_10_3_10 (by kernel_rfl)) 2000 ?_
  intro vs K h
  obtain ⟨x1, x2, x3, x4, x5, rfl, h⟩ := wioq_10_3 vs K h
  exact Eq.mp (stoq_10_3 x1 x2 x3 x4 x5 K) h
theorem po_10_10 : PiecesOk Try.prog env (ctxG env false [] R21 [(37, [(1, p_10x37_1)])] [(10, [(3, q_10_3)])]) 10 b10 :=
  pieces_at (rfIn_body (fn := f10) (b := b10) rfl hb10) (L := []) (S := [(3, q_10_3)]) (fun _ => rfl) (fun _ => rfl) (by kernel_rfl) (by kernel_rfl) (fun _ hq => by cases hq) (List.forall_mem_cons.2 ⟨fun _ => oq_10_3, (fun _ hq => by cases hq)⟩)
theorem po_10_37 : PiecesOk Try.prog env (ctxG env false [] R21 [(37, [(1, p_10x37_1)])] [(10, [(3, q_10_3)])]) 37 b37 :=
  pieces_at (rfIn_body (fn := f37) (b := b37) rfl hb37) (L := [(1, p_10x37_1)]) (S := []) (fun _ => rfl) (fun _ => rfl) (by kernel_rfl) (by kernel_rfl) (List.forall_mem_cons.2 ⟨fun _ => ok_10x37_1, (fun _ hq => by cases hq)⟩) (fun _ hq => by cases hq)
theorem bo_10 : BodiesOk Try.prog env (ctxG env false [] R21 [(37, [(1, p_10x37_1)])] [(10, [(3, q_10_3)])]) := bodies_okG (ks := [10, 37]) (by kernel_rfl) (List.forall_mem_cons.2 ⟨body_at (fn := f10) (body := b10) rfl hb10 po_10_10, (List.forall_mem_cons.2 ⟨body_at (fn := f37) (body := b37) rfl hb37 po_10_37, (fun _ hq => by cases hq)⟩)⟩)
theorem eq_10 (x0 : Int) (x1 : Int) (x2 : Int) (x3 : Int) (K : Y10 → Prop) : vcCode env (ctxG env false [] R21 [(37, [(1, p_10x37_1)])] [(10, [(3, q_10_3)])]) 2000 10 b10 (entry env f10 [v3 x0, v3 x1, v3 x2, v3 x3]) (finR env f10 decR10 K) = B10 x0 x1 x2 x3 K := by kernel_rfl
noncomputable def rule10 : Nat × Rule env := (10, ruleF env decA10 encR10 fun x => V10 x.1 x.2.1 x.2.2.1 x.2.2.2)
theorem r10 : RuleOk Try.prog env 10 rule10.2 :=
  rule_fun tab (ctxG_ok R21_ok false [] _ _) bo_10 (f := 10) (fn := f10) rfl hb10 po_10_10 2000 encA10 hA10 hR10 hD10 (fun _ => of_decide_eq_true (by kernel_rfl)) (fun x K => (eq_10 x.1 x.2.1 x.2.2.1 x.2.2.2 K).trans (by rw [V10_eq]))
noncomputable def R10 : List (Nat × Rule env) := rule10 :: R21
theorem R10_ok : AllOk Try.prog env R10 := ⟨r10, R21_ok⟩
-- 25 queuelab/workers.places
noncomputable def f25 : Func := Try.f25
noncomputable def b25 : Code := (Try.f25.body).getD .skip
abbrev X25 := (List Task)
def encA25 (x : X25) : List (SV env.T) := [v22 x]
def decA25 (l : List (SV env.T)) : Option X25 := match l with
  | [s0] => match u22 s0 with
    | some x0 => some (x0)
    | _ => none
  | _ => none
theorem hA25 (l : List (SV env.T)) (x : X25) (h : decA25 l = some x) : WkA env.has l (encA25 x) := by
  unfold decA25 at h; split at h
  · split at h
    · rename_i h0; cases h; exact (.cons (u22_wk h0) .nil)
    · cases h
  · cases h
abbrev Y25 := (List (stretch × Int))
def encR25 (x : Y25) : List (SV env.T) := [v63 x]
def decR25 (l : List (SV env.T)) : Option Y25 := match l with
  | [s0] => match u63 s0 with
    | some x0 => some (x0)
    | _ => none
  | _ => none
theorem hR25 (l : List (SV env.T)) (x : Y25) (h : decR25 l = some x) : WkA env.has l (encR25 x) := by
  unfold decR25 at h; split at h
  · split at h
    · rename_i h0; cases h; exact (.cons (u63_wk h0) .nil)
    · cases h
  · cases h
theorem hD25 (y : Y25) : isDataV (tupV (encR25 y)) = true := rfl
theorem hb25 : f25.body = some b25 := by kernel_rfl
def l_25_3 : Nat → (List Task) → Int → Int → (List (stretch × Int)) → ((List (stretch × Int)) → Prop) → Prop
  | 0 => fun _ _ _ _ _ => False
  | k + 1 => fun x1 x2 x3 x4 k0 ↦ br (decide (x3 < x2)) (br (inb x3 (↑x1.length : Int)) (l_25_3 k x1 x2 (IntKind.i64.wrap (x3 + 1)) (mPut (keyEq env 59 (stretch.mk (x1.getD x3.toNat (env.d 39)).from_ (x1.getD x3.toNat (env.d 39)).to_)) (stretch.mk (x1.getD x3.toNat (env.d 39)).from_ (x1.getD x3.toNat (env.d 39)).to_) x3 x4) k0) False) (k0 x4)
def w_25_3 (k : Nat) (vs : List (SV env.T)) (K : Ex → List (SV env.T) → Prop) : Prop :=
  dCD 39 vs fun x1 vs => dCI .i64 vs fun x2 vs => dCI .i64 vs fun x3 vs => dCM 59 3 vs fun x4 vs => dCE vs (l_25_3 k x1 x2 x3 x4 (fun y1 => K (.exit 0) [.mdat 59 3 y1]))
def p_25_3 : Piece env := ⟨⟨[.any, .any, .any, .map 0, .any, .any, .any, .holeD 39, .hole, .hole, .any, .any, .any, .any, .any, .any, .any, .any, .any, .any, .any, .any, .any], [], [(0, .map 59 3)], 1⟩, exitF none [(0, ⟨[.any, .any, .any, .map 0, .any, .any, .any, .any, .any, .any, .any, .any, .any, .any, .any, .any, .any, .any, .any, .any, .any, .any, .any], [], [(0, .map 59 3)], 1⟩)] none, fun vs K => ∃ k, w_25_3 k vs K⟩
noncomputable def B25 : (List Task) → (Y25 → Prop) → Prop :=
  fun x0 K ↦ ∃ k2, l_25_3 k2 x0 (↑x0.length : Int) 0 [] K
theorem V25_ex : ∃ V : (List Task) → (Y25 → Prop) → Prop, V = B25 := ⟨_, rfl⟩
noncomputable def V25 : (List Task) → (Y25 → Prop) → Prop := Classical.choose V25_ex
theorem V25_eq : V25 = B25 := Classical.choose_spec V25_ex
theorem pook_25_3_25 : PiecesOk Try.prog env (ctxG env false [] R10 [] []) 25 b25 :=
  pieces_at (rfIn_body (fn := f25) (b := b25) rfl hb25) (L := []) (S := []) (fun _ => rfl) (fun _ => rfl) (by kernel_rfl) (by kernel_rfl) (fun _ hq => by cases hq) (fun _ hq => by cases hq)
theorem book_25_3 : BodiesOk Try.prog env (ctxG env false [] R10 [] []) := bodies_okG (ks := []) (by kernel_rfl) (fun _ hq => by cases hq)
theorem stok_25_3 (k : Nat) (x1 : (List Task)) (x2 : Int) (x3 : Int) (x4 : (List (stretch × Int))) (K : Ex → List (SV env.T) → Prop) : l_25_3 (k + 1) x1 x2 x3 x4 (fun y1 => K (.exit 0) [.mdat 59 3 y1]) = vcCode env (ctxG env false [] R10 [] []) 2000 25 (loopAt b25 3) (insSt p_25_3.head [.dat 39 x1, .int .i64 x2, .int .i64 x3, .mdat 59 3 x4]) (stepK p_25_3 (w_25_3 k) K) := by kernel_rfl
theorem wiok_25_3 (k : Nat) (vs : List (SV env.T)) (K : Ex → List (SV env.T) → Prop) (h : w_25_3 k vs K) : ∃ x1 : (List Task), ∃ x2 : Int, ∃ x3 : Int, ∃ x4 : (List (stretch × Int)), vs = [.dat 39 x1, .int .i64 x2, .int .i64 x3, .mdat 59 3 x4] ∧ l_25_3 k x1 x2 x3 x4 (fun y1 => K (.exit 0) [.mdat 59 3 y1]) := by
  unfold w_25_3 at h
  replace h := dCD_spec h
  obtain ⟨x1, vs0, e0, h⟩ := h
  replace h := dCI_spec h
  obtain ⟨x2, vs1, e1, h⟩ := h
  replace h := dCI_spec h
  obtain ⟨x3, vs2, e2, h⟩ := h
  replace h := dCM_spec h
  obtain ⟨x4, vs3, e3, h⟩ := h
  replace h := dCE_spec h
  obtain ⟨e, h⟩ := h
  exact ⟨x1, x2, x3, x4, by rw [e0, e1, e2, e3, e], h⟩
theorem zeok_25_3 (x1 : (List Task)) (x2 : Int) (x3 : Int) (x4 : (List (stretch × Int))) (K : Ex → List (SV env.T) → Prop) : l_25_3 0 x1 x2 x3 x4 (fun y1 => K (.exit 0) [.mdat 59 3 y1]) = False := by kernel_rfl
theorem ok_25_3 : PieceOk Try.prog env p_25_3 (.loop (loopAt b25 3)) := by
  refine loop_step (Wn := w_25_3) tab (ctxG_ok R10_ok false [] _ _) book_25_3 (pieces_sub pook_25_3_25 (by kernel_rfl)) rfl ?_ 2000 ?_
  · intro vs K h
    obtain ⟨x1, x2, x3, x4, _, h⟩ := wiok_25_3 0 vs K h
    exact Eq.mp (zeok_25_3 x1 x2 x3 x4 K) h
  · intro k vs K h
    obtain ⟨x1, x2, x3, x4, rfl, h⟩ := wiok_25_3 (k + 1) vs K h
    exact Eq.mp (stok_25_3 k x1 x2 x3 x4 K) h
theorem po_25_25 : PiecesOk Try.prog env (ctxG env false [] R10 [(25, [(3, p_25_3)])] []) 25 b25 :=
  pieces_at (rfIn_body (fn := f25) (b := b25) rfl hb25) (L := [(3, p_25_3)]) (S := []) (fun _ => rfl) (fun _ => rfl) (by kernel_rfl) (by kernel_rfl) (List.forall_mem_cons.2 ⟨fun _ => ok_25_3, (fun _ hq => by cases hq)⟩) (fun _ hq => by cases hq)
theorem bo_25 : BodiesOk Try.prog env (ctxG env false [] R10 [(25, [(3, p_25_3)])] []) := bodies_okG (ks := [25]) (by kernel_rfl) (List.forall_mem_cons.2 ⟨body_at (fn := f25) (body := b25) rfl hb25 po_25_25, (fun _ hq => by cases hq)⟩)
theorem eq_25 (x0 : (List Task)) (K : Y25 → Prop) : vcCode env (ctxG env false [] R10 [(25, [(3, p_25_3)])] []) 2000 25 b25 (entry env f25 [v22 x0]) (finR env f25 decR25 K) = B25 x0 K := by kernel_rfl
noncomputable def rule25 : Nat × Rule env := (25, ruleF env decA25 encR25 fun x => V25 x)
theorem r25 : RuleOk Try.prog env 25 rule25.2 :=
  rule_fun tab (ctxG_ok R10_ok false [] _ _) bo_25 (f := 25) (fn := f25) rfl hb25 po_25_25 2000 encA25 hA25 hR25 hD25 (fun _ => of_decide_eq_true (by kernel_rfl)) (fun x K => (eq_25 x K).trans (by rw [V25_eq]))
noncomputable def R25 : List (Nat × Rule env) := rule25 :: R10
theorem R25_ok : AllOk Try.prog env R25 := ⟨r25, R10_ok⟩
-- 26 queuelab/workers.Merge$1
noncomputable def f26 : Func := Try.f26
noncomputable def b26 : Code := (Try.f26.body).getD .skip
abbrev X26 := Segment × (List (stretch × Int))
def encA26 (x : X26) : List (SV env.T) := [v32 x.1, v10063 x.2]
def decA26 (l : List (SV env.T)) : Option X26 := match l with
  | [s0, s1] => match u32 s0, u10063 s1 with
    | some x0, some x1 => some (x0, x1)
    | _, _ => none
  | _ => none
theorem hA26 (l : List (SV env.T)) (x : X26) (h : decA26 l = some x) : WkA env.has l (encA26 x) := by
  unfold decA26 at h; split at h
  · split at h
    · rename_i h0 h1; cases h; exact (.cons (u32_wk h0) (.cons (u10063_wk h1) .nil))
    · cases h
  · cases h
abbrev Y26 := Int
def encR26 (x : Y26) : List (SV env.T) := [v3 x]
def decR26 (l : List (SV env.T)) : Option Y26 := match l with
  | [s0] => match u3 s0 with
    | some x0 => some (x0)
    | _ => none
  | _ => none
theorem hR26 (l : List (SV env.T)) (x : Y26) (h : decR26 l = some x) : WkA env.has l (encR26 x) := by
  unfold decR26 at h; split at h
  · split at h
    · rename_i h0; cases h; exact (.cons (u3_wk h0) .nil)
    · cases h
  · cases h
theorem hD26 (y : Y26) : isDataV (tupV (encR26 y)) = true := rfl
theorem hb26 : f26.body = some b26 := by kernel_rfl
noncomputable def B26 : Segment → (List (stretch × Int)) → (Y26 → Prop) → Prop :=
  fun x0 x1 K ↦ K (mGet (keyEq env 59 (stretch.mk x0.from_ x0.to_)) 0 x1)
theorem V26_ex : ∃ V : Segment → (List (stretch × Int)) → (Y26 → Prop) → Prop, V = B26 := ⟨_, rfl⟩
noncomputable def V26 : Segment → (List (stretch × Int)) → (Y26 → Prop) → Prop := Classical.choose V26_ex
theorem V26_eq : V26 = B26 := Classical.choose_spec V26_ex
theorem po_26_26 : PiecesOk Try.prog env (ctxG env false [] R25 [] []) 26 b26 :=
  pieces_at (rfIn_body (fn := f26) (b := b26) rfl hb26) (L := []) (S := []) (fun _ => rfl) (fun _ => rfl) (by kernel_rfl) (by kernel_rfl) (fun _ hq => by cases hq) (fun _ hq => by cases hq)
theorem bo_26 : BodiesOk Try.prog env (ctxG env false [] R25 [] []) := bodies_okG (ks := []) (by kernel_rfl) (fun _ hq => by cases hq)
theorem eq_26 (x0 : Segment) (x1 : (List (stretch × Int))) (K : Y26 → Prop) : vcCode env (ctxG env false [] R25 [] []) 2000 26 b26 (entry env f26 [v32 x0, v10063 x1]) (finR env f26 decR26 K) = B26 x0 x1 K := by kernel_rfl
noncomputable def rule26 : Nat × Rule env := (26, ruleF env decA26 encR26 fun x => V26 x.1 x.2)
theorem r26 : RuleOk Try.prog env 26 rule26.2 :=
  rule_fun tab (ctxG_ok R25_ok false [] _ _) bo_26 (f := 26) (fn := f26) rfl hb26 po_26_26 2000 encA26 hA26 hR26 hD26 (fun _ => of_decide_eq_true (by kernel_rfl)) (fun x K => (eq_26 x.1 x.2 K).trans (by rw [V26_eq]))
noncomputable def R26 : List (Nat × Rule env) := rule26 :: R25
theorem R26_ok : AllOk Try.prog env R26 := ⟨r26, R25_ok⟩
-- 28 slices.Values[[]queuelab/api.Segment,queuelab/api.Segment]
noncomputable def f28 : Func := Try.f28
noncomputable def b28 : Code := (Try.f28.body).getD .skip
abbrev X28 := (List Segment)
def encA28 (x : X28) : List (SV env.T) := [v23 x]
def decA28 (l : List (SV env.T)) : Option X28 := match l with
  | [s0] => match u23 s0 with
    | some x0 => some (x0)
    | _ => none
  | _ => none
theorem hA28 (l : List (SV env.T)) (x : X28) (h : decA28 l = some x) : WkA env.has l (encA28 x) := by
  unfold decA28 at h; split at h
  · split at h
    · rename_i h0; cases h; exact (.cons (u23_wk h0) .nil)
    · cases h
  · cases h
abbrev Y28 := (List Segment)
def encR28 (x : Y28) : List (SV env.T) := [v69 x]
def decR28 (l : List (SV env.T)) : Option Y28 := match l with
  | [s0] => match u69 s0 with
    | some x0 => some (x0)
    | _ => none
  | _ => none
theorem hR28 (l : List (SV env.T)) (x : Y28) (h : decR28 l = some x) : WkA env.has l (encR28 x) := by
  unfold decR28 at h; split at h
  · split at h
    · rename_i h0; cases h; exact (.cons (u69_wk h0) .nil)
    · cases h
  · cases h
theorem hD28 (y : Y28) : isDataV (tupV (encR28 y)) = true := rfl
theorem hb28 : f28.body = some b28 := by kernel_rfl
noncomputable def B28 : (List Segment) → (Y28 → Prop) → Prop :=
  fun x0 K ↦ K x0
theorem V28_ex : ∃ V : (List Segment) → (Y28 → Prop) → Prop, V = B28 := ⟨_, rfl⟩
noncomputable def V28 : (List Segment) → (Y28 → Prop) → Prop := Classical.choose V28_ex
theorem V28_eq : V28 = B28 := Classical.choose_spec V28_ex
theorem po_28_28 : PiecesOk Try.prog env (ctxG env false [] R26 [] []) 28 b28 :=
  pieces_at (rfIn_body (fn := f28) (b := b28) rfl hb28) (L := []) (S := []) (fun _ => rfl) (fun _ => rfl) (by kernel_rfl) (by kernel_rfl) (fun _ hq => by cases hq) (fun _ hq => by cases hq)
theorem bo_28 : BodiesOk Try.prog env (ctxG env false [] R26 [] []) := bodies_okG (ks := []) (by kernel_rfl) (fun _ hq => by cases hq)
theorem eq_28 (x0 : (List Segment)) (K : Y28 → Prop) : vcCode env (ctxG env false [] R26 [] []) 2000 28 b28 (entry env f28 [v23 x0]) (finR env f28 decR28 K) = B28 x0 K := by kernel_rfl
noncomputable def rule28 : Nat × Rule env := (28, ruleF env decA28 encR28 fun x => V28 x)
theorem r28 : RuleOk Try.prog env 28 rule28.2 :=
  rule_fun tab (ctxG_ok R26_ok false [] _ _) bo_28 (f := 28) (fn := f28) rfl hb28 po_28_28 2000 encA28 hA28 hR28 hD28 (fun _ => of_decide_eq_true (by kernel_rfl)) (fun x K => (eq_28 x K).trans (by rw [V28_eq]))
noncomputable def R28 : List (Nat × Rule env) := rule28 :: R26
theorem R28_ok : AllOk Try.prog env R28 := ⟨r28, R26_ok⟩
-- 29 queuelab/workers.Merge$2
noncomputable def f29 : Func := Try.f29
noncomputable def b29 : Code := (Try.f29.body).getD .skip
abbrev X29 := Segment × Segment × (List (stretch × Int))
def encA29 (x : X29) : List (SV env.T) := [v32 x.1, v32 x.2.1, v10065 x.2.2]
def decA29 (l : List (SV env.T)) : Option X29 := match l with
  | [s0, s1, s2] => match u32 s0, u32 s1, u10065 s2 with
    | some x0, some x1, some x2 => some (x0, x1, x2)
    | _, _, _ => none
  | _ => none
theorem hA29 (l : List (SV env.T)) (x : X29) (h : decA29 l = some x) : WkA env.has l (encA29 x) := by
  unfold decA29 at h; split at h
  · split at h
    · rename_i h0 h1 h2; cases h; exact (.cons (u32_wk h0) (.cons (u32_wk h1) (.cons (u10065_wk h2) .nil)))
    · cases h
  · cases h
abbrev Y29 := Int
def encR29 (x : Y29) : List (SV env.T) := [v3 x]
def decR29 (l : List (SV env.T)) : Option Y29 := match l with
  | [s0] => match u3 s0 with
    | some x0 => some (x0)
    | _ => none
  | _ => none
theorem hR29 (l : List (SV env.T)) (x : Y29) (h : decR29 l = some x) : WkA env.has l (encR29 x) := by
  unfold decR29 at h; split at h
  · split at h
    · rename_i h0; cases h; exact (.cons (u3_wk h0) .nil)
    · cases h
  · cases h
theorem hD29 (y : Y29) : isDataV (tupV (encR29 y)) = true := rfl
theorem hb29 : f29.body = some b29 := by kernel_rfl
noncomputable def B29 : Segment → Segment → (List (stretch × Int)) → (Y29 → Prop) → Prop :=
  fun x0 x1 x2 K ↦ ∃ k4, (V26 x0 x2 fun y5 ↦ tupV (encR26 y5) = tupV (encR26 k4)) ∧ ∃ k5, (V26 x1 x2 fun y6 ↦ tupV (encR26 y6) = tupV (encR26 k5)) ∧ K (IntKind.i64.wrap (k4 - k5))
theorem V29_ex : ∃ V : Segment → Segment → (List (stretch × Int)) → (Y29 → Prop) → Prop, V = B29 := ⟨_, rfl⟩
noncomputable def V29 : Segment → Segment → (List (stretch × Int)) → (Y29 → Prop) → Prop := Classical.choose V29_ex
theorem V29_eq : V29 = B29 := Classical.choose_spec V29_ex
theorem po_29_29 : PiecesOk Try.prog env (ctxG env false [] R28 [] []) 29 b29 :=
  pieces_at (rfIn_body (fn := f29) (b := b29) rfl hb29) (L := []) (S := []) (fun _ => rfl) (fun _ => rfl) (by kernel_rfl) (by kernel_rfl) (fun _ hq => by cases hq) (fun _ hq => by cases hq)
theorem bo_29 : BodiesOk Try.prog env (ctxG env false [] R28 [] []) := bodies_okG (ks := []) (by kernel_rfl) (fun _ hq => by cases hq)
theorem eq_29 (x0 : Segment) (x1 : Segment) (x2 : (List (stretch × Int))) (K : Y29 → Prop) : vcCode env (ctxG env false [] R28 [] []) 2000 29 b29 (entry env f29 [v32 x0, v32 x1, v10065 x2]) (finR env f29 decR29 K) = B29 x0 x1 x2 K := by kernel_rfl
noncomputable def rule29 : Nat × Rule env := (29, ruleF env decA29 encR29 fun x => V29 x.1 x.2.1 x.2.2)
theorem r29 : RuleOk Try.prog env 29 rule29.2 :=
  rule_fun tab (ctxG_ok R28_ok false [] _ _) bo_29 (f := 29) (fn := f29) rfl hb29 po_29_29 2000 encA29 hA29 hR29 hD29 (fun _ => of_decide_eq_true (by kernel_rfl)) (fun x K => (eq_29 x.1 x.2.1 x.2.2 K).trans (by rw [V29_eq]))
noncomputable def R29 : List (Nat × Rule env) := rule29 :: R28
theorem R29_ok : AllOk Try.prog env R29 := ⟨r29, R28_ok⟩
end Go.Vg.Ytkaodeodiakldaa
