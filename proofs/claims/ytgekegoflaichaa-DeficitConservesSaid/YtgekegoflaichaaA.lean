/-
  Walked functions of the program: predicate transformers and their rules. Written by a program of this work (gen.py, VgGen.lean) out of the executor's own reduction; no condition.
-/
import Derived.Test.YtgekegoflaichaaEnv
set_option maxRecDepth 100000
set_option maxHeartbeats 4000000
namespace Go.Vg.Ytgekegoflaichaa
open Go.Vg Go.Proofs
noncomputable def R0 : List (Nat × Rule env) := []
theorem R0_ok : AllOk Try.prog env R0 := trivial
-- 55 queuelab/deficit.in
noncomputable def f55 : Func := Try.f55
noncomputable def b55 : Code := (Try.f55.body).getD .skip
abbrev X55 := Int × Int × Int
def encA55 (x : X55) : List (SV env.T) := [v3 x.1, v3 x.2.1, v3 x.2.2]
def decA55 (l : List (SV env.T)) : Option X55 := match l with
  | [s0, s1, s2] => match u3 s0, u3 s1, u3 s2 with
    | some x0, some x1, some x2 => some (x0, x1, x2)
    | _, _, _ => none
  | _ => none
theorem hA55 (l : List (SV env.T)) (x : X55) (h : decA55 l = some x) : WkA env.has l (encA55 x) := by
  unfold decA55 at h; split at h
  · split at h
    · rename_i h0 h1 h2; cases h; exact (.cons (u3_wk h0) (.cons (u3_wk h1) (.cons (u3_wk h2) .nil)))
    · cases h
  · cases h
abbrev Y55 := Bool
def encR55 (x : Y55) : List (SV env.T) := [v4 x]
def decR55 (l : List (SV env.T)) : Option Y55 := match l with
  | [s0] => match u4 s0 with
    | some x0 => some (x0)
    | _ => none
  | _ => none
theorem hR55 (l : List (SV env.T)) (x : Y55) (h : decR55 l = some x) : WkA env.has l (encR55 x) := by
  unfold decR55 at h; split at h
  · split at h
    · rename_i h0; cases h; exact (.cons (u4_wk h0) .nil)
    · cases h
  · cases h
theorem hD55 (y : Y55) : isDataV (tupV (encR55 y)) = true := rfl
theorem hb55 : f55.body = some b55 := by kernel_rfl
noncomputable def B55 : Int → Int → Int → (Y55 → Prop) → Prop :=
  fun x0 x1 x2 K ↦ br (decide (x0 ≥ x1)) (K (decide (x0 ≤ x2))) (K false)
theorem V55_ex : ∃ V : Int → Int → Int → (Y55 → Prop) → Prop, V = B55 := ⟨_, rfl⟩
noncomputable def V55 : Int → Int → Int → (Y55 → Prop) → Prop := Classical.choose V55_ex
theorem V55_eq : V55 = B55 := Classical.choose_spec V55_ex
theorem po_55_55 : PiecesOk Try.prog env (ctxG env false [] R0 [] []) 55 b55 :=
  pieces_at (L := []) (S := []) (fun _ => rfl) (fun _ => rfl) (by kernel_rfl) (by kernel_rfl) (fun _ hq => by cases hq) (fun _ hq => by cases hq)
theorem bo_55 : BodiesOk Try.prog env (ctxG env false [] R0 [] []) := bodies_okG (ks := []) (by kernel_rfl) (fun _ hq => by cases hq)
theorem eq_55 (x0 : Int) (x1 : Int) (x2 : Int) (K : Y55 → Prop) : vcCode env (ctxG env false [] R0 [] []) 2000 55 b55 (entry env f55 [v3 x0, v3 x1, v3 x2]) (finR env f55 decR55 K) = B55 x0 x1 x2 K := by kernel_rfl
noncomputable def rule55 : Nat × Rule env := (55, ruleF env decA55 encR55 fun x => V55 x.1 x.2.1 x.2.2)
theorem r55 : RuleOk Try.prog env 55 rule55.2 :=
  rule_fun tab (ctxG_ok R0_ok false [] _ _) bo_55 (f := 55) (fn := f55) rfl hb55 po_55_55 2000 encA55 hA55 hR55 hD55 (fun _ => of_decide_eq_true (by kernel_rfl)) (fun x K => (eq_55 x.1 x.2.1 x.2.2 K).trans (by rw [V55_eq]))
noncomputable def R55 : List (Nat × Rule env) := rule55 :: R0
theorem R55_ok : AllOk Try.prog env R55 := ⟨r55, R0_ok⟩
-- 45 queuelab/deficit.isPacket
noncomputable def f45 : Func := Try.f45
noncomputable def b45 : Code := (Try.f45.body).getD .skip
abbrev X45 := Packet
def encA45 (x : X45) : List (SV env.T) := [v30 x]
def decA45 (l : List (SV env.T)) : Option X45 := match l with
  | [s0] => match u30 s0 with
    | some x0 => some (x0)
    | _ => none
  | _ => none
theorem hA45 (l : List (SV env.T)) (x : X45) (h : decA45 l = some x) : WkA env.has l (encA45 x) := by
  unfold decA45 at h; split at h
  · split at h
    · rename_i h0; cases h; exact (.cons (u30_wk h0) .nil)
    · cases h
  · cases h
abbrev Y45 := Bool
def encR45 (x : Y45) : List (SV env.T) := [v4 x]
def decR45 (l : List (SV env.T)) : Option Y45 := match l with
  | [s0] => match u4 s0 with
    | some x0 => some (x0)
    | _ => none
  | _ => none
theorem hR45 (l : List (SV env.T)) (x : Y45) (h : decR45 l = some x) : WkA env.has l (encR45 x) := by
  unfold decR45 at h; split at h
  · split at h
    · rename_i h0; cases h; exact (.cons (u4_wk h0) .nil)
    · cases h
  · cases h
theorem hD45 (y : Y45) : isDataV (tupV (encR45 y)) = true := rfl
theorem hb45 : f45.body = some b45 := by kernel_rfl
noncomputable def B45 : Packet → (Y45 → Prop) → Prop :=
  fun x0 K ↦ V55 x0.flow 0 7 fun y2 ↦ br y2 (V55 x0.sub 0 3 fun y3 ↦ br y3 (V55 x0.number 0 1000000000 fun y4 ↦ br y4 (V55 x0.data 0 1000000000 fun y5 ↦ br y5 (V55 x0.size 1 10000 fun y6 ↦ br y6 (V55 x0.sent 0 10000000 K) (K false)) (K false)) (K false)) (K false)) (K false)
theorem V45_ex : ∃ V : Packet → (Y45 → Prop) → Prop, V = B45 := ⟨_, rfl⟩
noncomputable def V45 : Packet → (Y45 → Prop) → Prop := Classical.choose V45_ex
theorem V45_eq : V45 = B45 := Classical.choose_spec V45_ex
theorem po_45_45 : PiecesOk Try.prog env (ctxG env false [] R55 [] []) 45 b45 :=
  pieces_at (L := []) (S := []) (fun _ => rfl) (fun _ => rfl) (by kernel_rfl) (by kernel_rfl) (fun _ hq => by cases hq) (fun _ hq => by cases hq)
theorem bo_45 : BodiesOk Try.prog env (ctxG env false [] R55 [] []) := bodies_okG (ks := []) (by kernel_rfl) (fun _ hq => by cases hq)
theorem eq_45 (x0 : Packet) (K : Y45 → Prop) : vcCode env (ctxG env false [] R55 [] []) 2000 45 b45 (entry env f45 [v30 x0]) (finR env f45 decR45 K) = B45 x0 K := by kernel_rfl
noncomputable def rule45 : Nat × Rule env := (45, ruleF env decA45 encR45 fun x => V45 x)
theorem r45 : RuleOk Try.prog env 45 rule45.2 :=
  rule_fun tab (ctxG_ok R55_ok false [] _ _) bo_45 (f := 45) (fn := f45) rfl hb45 po_45_45 2000 encA45 hA45 hR45 hD45 (fun _ => of_decide_eq_true (by kernel_rfl)) (fun x K => (eq_45 x K).trans (by rw [V45_eq]))
noncomputable def R45 : List (Nat × Rule env) := rule45 :: R55
theorem R45_ok : AllOk Try.prog env R45 := ⟨r45, R55_ok⟩
-- 50 queuelab/deficit.deficits
noncomputable def f50 : Func := Try.f50
noncomputable def b50 : Code := (Try.f50.body).getD .skip
abbrev X50 := Queue
def encA50 (x : X50) : List (SV env.T) := [v28 x]
def decA50 (l : List (SV env.T)) : Option X50 := match l with
  | [s0] => match u28 s0 with
    | some x0 => some (x0)
    | _ => none
  | _ => none
theorem hA50 (l : List (SV env.T)) (x : X50) (h : decA50 l = some x) : WkA env.has l (encA50 x) := by
  unfold decA50 at h; split at h
  · split at h
    · rename_i h0; cases h; exact (.cons (u28_wk h0) .nil)
    · cases h
  · cases h
abbrev Y50 := (List Int)
def encR50 (x : Y50) : List (SV env.T) := [v25 x]
def decR50 (l : List (SV env.T)) : Option Y50 := match l with
  | [s0] => match u25 s0 with
    | some x0 => some (x0)
    | _ => none
  | _ => none
theorem hR50 (l : List (SV env.T)) (x : Y50) (h : decR50 l = some x) : WkA env.has l (encR50 x) := by
  unfold decR50 at h; split at h
  · split at h
    · rename_i h0; cases h; exact (.cons (u25_wk h0) .nil)
    · cases h
  · cases h
theorem hD50 (y : Y50) : isDataV (tupV (encR50 y)) = true := rfl
theorem hb50 : f50.body = some b50 := by kernel_rfl
def l_50_3 : Nat → Int → Int → Int → Int → Int → Int → (List (List Queued)) → (List Int) → Int → (List Int) → (List Int) → ((List Int) → (List Int) → Prop) → Prop
  | 0 => fun _ _ _ _ _ _ _ _ _ _ _ _ => False
  | k + 1 => fun x1 x2 x3 x4 x5 x6 x7 x8 x9 x10 x11 k0 ↦ br (decide (x1 < 4)) (br (inb (IntKind.i64.wrap (2 + x1)) (↑8 : Int)) (br (inb (IntKind.i64.wrap (2 + x1)) (↑8 : Int)) (br (inb (IntKind.i64.wrap (2 * x1)) (↑8 : Int)) (br (inb (IntKind.i64.wrap (IntKind.i64.wrap (2 * x1) + 1)) (↑8 : Int)) (l_50_3 k (IntKind.i64.wrap (x1 + 1)) x2 x3 x4 x5 x6 x7 x8 x9 x10 ((x11.set (IntKind.i64.wrap (2 * x1)).toNat (IntKind.i64.wrap ((x8.getD (IntKind.i64.wrap (2 + x1)).toNat 0).tdiv 32768))).set (IntKind.i64.wrap (IntKind.i64.wrap (2 * x1) + 1)).toNat ((x8.getD (IntKind.i64.wrap (2 + x1)).toNat 0).tmod 32768)) k0) False) False) False) False) (k0 x10 x11)
def w_50_3 (k : Nat) (vs : List (SV env.T)) (K : Ex → List (SV env.T) → Prop) : Prop :=
  dCI .i64 vs fun x1 vs => dCI .i64 vs fun x2 vs => dCI .i64 vs fun x3 vs => dCI .i64 vs fun x4 vs => dCI .i64 vs fun x5 vs => dCI .i64 vs fun x6 vs => dCD 43 vs fun x7 vs => dCA .i64 8 vs fun x8 vs => dCI .u64 vs fun x9 vs => dCA .i64 8 vs fun x10 vs => dCA .i64 8 vs fun x11 vs => dCE vs (l_50_3 k x1 x2 x3 x4 x5 x6 x7 x8 x9 x10 x11 (fun y1 y2 => K (.exit 0) [.arr .i64 8 y1, .arr .i64 8 y2]))
def p_50_3 : Piece env := ⟨⟨[.any, .ptr 0 0, .ptr 1 0, .ptr 2 0, .any, .hole, .any, .any, .any, .any, .any, .any, .any, .any, .any, .any, .any, .any, .any, .any, .any, .any, .any, .any, .any, .any, .any, .any, .any], [], [(0, .cells 28 [.hole, .hole, .hole, .hole, .hole, .holeD 43, .hole, .hole]), (1, .cells 25 [.hole]), (2, .cells 25 [.hole])], 3⟩, exitF none [(0, ⟨[.any, .any, .ptr 0 0, .ptr 1 0, .any, .any, .any, .any, .any, .any, .any, .any, .any, .any, .any, .any, .any, .any, .any, .any, .any, .any, .any, .any, .any, .any, .any, .any, .any], [], [(0, .cells 25 [.hole]), (1, .cells 25 [.hole])], 2⟩)] none, fun vs K => ∃ k, w_50_3 k vs K⟩
noncomputable def B50 : Queue → (Y50 → Prop) → Prop :=
  fun x0 K ↦ ∃ k2, l_50_3 k2 0 x0.policy.kind x0.policy.a x0.policy.b x0.policy.c x0.room x0.lists x0.vars x0.seed (List.replicate 8 0) (List.replicate 8 0) fun _ ↦ K
theorem V50_ex : ∃ V : Queue → (Y50 → Prop) → Prop, V = B50 := ⟨_, rfl⟩
noncomputable def V50 : Queue → (Y50 → Prop) → Prop := Classical.choose V50_ex
theorem V50_eq : V50 = B50 := Classical.choose_spec V50_ex
theorem pook_50_3_50 : PiecesOk Try.prog env (ctxG env false [] R45 [] []) 50 b50 :=
  pieces_at (L := []) (S := []) (fun _ => rfl) (fun _ => rfl) (by kernel_rfl) (by kernel_rfl) (fun _ hq => by cases hq) (fun _ hq => by cases hq)
theorem book_50_3 : BodiesOk Try.prog env (ctxG env false [] R45 [] []) := bodies_okG (ks := []) (by kernel_rfl) (fun _ hq => by cases hq)
theorem stok_50_3 (k : Nat) (x1 : Int) (x2 : Int) (x3 : Int) (x4 : Int) (x5 : Int) (x6 : Int) (x7 : (List (List Queued))) (x8 : (List Int)) (x9 : Int) (x10 : (List Int)) (x11 : (List Int)) (K : Ex → List (SV env.T) → Prop) : l_50_3 (k + 1) x1 x2 x3 x4 x5 x6 x7 x8 x9 x10 x11 (fun y1 y2 => K (.exit 0) [.arr .i64 8 y1, .arr .i64 8 y2]) = vcCode env (ctxG env false [] R45 [] []) 2000 50 (loopAt b50 3) (insSt p_50_3.head [.int .i64 x1, .int .i64 x2, .int .i64 x3, .int .i64 x4, .int .i64 x5, .int .i64 x6, .dat 43 x7, .arr .i64 8 x8, .int .u64 x9, .arr .i64 8 x10, .arr .i64 8 x11]) (stepK p_50_3 (w_50_3 k) K) := by kernel_rfl
theorem wiok_50_3 (k : Nat) (vs : List (SV env.T)) (K : Ex → List (SV env.T) → Prop) (h : w_50_3 k vs K) : ∃ x1 : Int, ∃ x2 : Int, ∃ x3 : Int, ∃ x4 : Int, ∃ x5 : Int, ∃ x6 : Int, ∃ x7 : (List (List Queued)), ∃ x8 : (List Int), ∃ x9 : Int, ∃ x10 : (List Int), ∃ x11 : (List Int), vs = [.int .i64 x1, .int .i64 x2, .int .i64 x3, .int .i64 x4, .int .i64 x5, .int .i64 x6, .dat 43 x7, .arr .i64 8 x8, .int .u64 x9, .arr .i64 8 x10, .arr .i64 8 x11] ∧ l_50_3 k x1 x2 x3 x4 x5 x6 x7 x8 x9 x10 x11 (fun y1 y2 => K (.exit 0) [.arr .i64 8 y1, .arr .i64 8 y2]) := by
  unfold w_50_3 at h
  replace h := dCI_spec h
  obtain ⟨x1, vs0, e0, h⟩ := h
  replace h := dCI_spec h
  obtain ⟨x2, vs1, e1, h⟩ := h
  replace h := dCI_spec h
  obtain ⟨x3, vs2, e2, h⟩ := h
  replace h := dCI_spec h
  obtain ⟨x4, vs3, e3, h⟩ := h
  replace h := dCI_spec h
  obtain ⟨x5, vs4, e4, h⟩ := h
  replace h := dCI_spec h
  obtain ⟨x6, vs5, e5, h⟩ := h
  replace h := dCD_spec h
  obtain ⟨x7, vs6, e6, h⟩ := h
  replace h := dCA_spec h
  obtain ⟨x8, vs7, e7, h⟩ := h
  replace h := dCI_spec h
  obtain ⟨x9, vs8, e8, h⟩ := h
  replace h := dCA_spec h
  obtain ⟨x10, vs9, e9, h⟩ := h
  replace h := dCA_spec h
  obtain ⟨x11, vs10, e10, h⟩ := h
  replace h := dCE_spec h
  obtain ⟨e, h⟩ := h
  exact ⟨x1, x2, x3, x4, x5, x6, x7, x8, x9, x10, x11, by rw [e0, e1, e2, e3, e4, e5, e6, e7, e8, e9, e10, e], h⟩
theorem zeok_50_3 (x1 : Int) (x2 : Int) (x3 : Int) (x4 : Int) (x5 : Int) (x6 : Int) (x7 : (List (List Queued))) (x8 : (List Int)) (x9 : Int) (x10 : (List Int)) (x11 : (List Int)) (K : Ex → List (SV env.T) → Prop) : l_50_3 0 x1 x2 x3 x4 x5 x6 x7 x8 x9 x10 x11 (fun y1 y2 => K (.exit 0) [.arr .i64 8 y1, .arr .i64 8 y2]) = False := by kernel_rfl
theorem ok_50_3 : PieceOk Try.prog env p_50_3 (.loop (loopAt b50 3)) := by
  refine loop_step (Wn := w_50_3) tab (ctxG_ok R45_ok false [] _ _) book_50_3 (pieces_sub pook_50_3_50 (by kernel_rfl)) rfl ?_ 2000 ?_
  · intro vs K h
    obtain ⟨x1, x2, x3, x4, x5, x6, x7, x8, x9, x10, x11, _, h⟩ := wiok_50_3 0 vs K h
    exact Eq.mp (zeok_50_3 x1 x2 x3 x4 x5 x6 x7 x8 x9 x10 x11 K) h
  · intro k vs K h
    obtain ⟨x1, x2, x3, x4, x5, x6, x7, x8, x9, x10, x11, rfl, h⟩ := wiok_50_3 (k + 1) vs K h
    exact Eq.mp (stok_50_3 k x1 x2 x3 x4 x5 x6 x7 x8 x9 x10 x11 K) h
theorem po_50_50 : PiecesOk Try.prog env (ctxG env false [] R45 [(50, [(3, p_50_3)])] []) 50 b50 :=
  pieces_at (L := [(3, p_50_3)]) (S := []) (fun _ => rfl) (fun _ => rfl) (by kernel_rfl) (by kernel_rfl) (List.forall_mem_cons.2 ⟨fun _ => ok_50_3, (fun _ hq => by cases hq)⟩) (fun _ hq => by cases hq)
theorem bo_50 : BodiesOk Try.prog env (ctxG env false [] R45 [(50, [(3, p_50_3)])] []) := bodies_okG (ks := [50]) (by kernel_rfl) (List.forall_mem_cons.2 ⟨body_at (fn := f50) (body := b50) rfl hb50 po_50_50, (fun _ hq => by cases hq)⟩)
theorem eq_50 (x0 : Queue) (K : Y50 → Prop) : vcCode env (ctxG env false [] R45 [(50, [(3, p_50_3)])] []) 2000 50 b50 (entry env f50 [v28 x0]) (finR env f50 decR50 K) = B50 x0 K := by kernel_rfl
noncomputable def rule50 : Nat × Rule env := (50, ruleF env decA50 encR50 fun x => V50 x)
theorem r50 : RuleOk Try.prog env 50 rule50.2 :=
  rule_fun tab (ctxG_ok R45_ok false [] _ _) bo_50 (f := 50) (fn := f50) rfl hb50 po_50_50 2000 encA50 hA50 hR50 hD50 (fun _ => of_decide_eq_true (by kernel_rfl)) (fun x K => (eq_50 x K).trans (by rw [V50_eq]))
noncomputable def R50 : List (Nat × Rule env) := rule50 :: R45
theorem R50_ok : AllOk Try.prog env R50 := ⟨r50, R45_ok⟩
-- 56 queuelab/deficit.isList
noncomputable def f56 : Func := Try.f56
noncomputable def b56 : Code := (Try.f56.body).getD .skip
abbrev X56 := (List Queued) × Int × Int
def encA56 (x : X56) : List (SV env.T) := [v43 x.1, v3 x.2.1, v3 x.2.2]
def decA56 (l : List (SV env.T)) : Option X56 := match l with
  | [s0, s1, s2] => match u43 s0, u3 s1, u3 s2 with
    | some x0, some x1, some x2 => some (x0, x1, x2)
    | _, _, _ => none
  | _ => none
theorem hA56 (l : List (SV env.T)) (x : X56) (h : decA56 l = some x) : WkA env.has l (encA56 x) := by
  unfold decA56 at h; split at h
  · split at h
    · rename_i h0 h1 h2; cases h; exact (.cons (u43_wk h0) (.cons (u3_wk h1) (.cons (u3_wk h2) .nil)))
    · cases h
  · cases h
abbrev Y56 := Bool
def encR56 (x : Y56) : List (SV env.T) := [v4 x]
def decR56 (l : List (SV env.T)) : Option Y56 := match l with
  | [s0] => match u4 s0 with
    | some x0 => some (x0)
    | _ => none
  | _ => none
theorem hR56 (l : List (SV env.T)) (x : Y56) (h : decR56 l = some x) : WkA env.has l (encR56 x) := by
  unfold decR56 at h; split at h
  · split at h
    · rename_i h0; cases h; exact (.cons (u4_wk h0) .nil)
    · cases h
  · cases h
theorem hD56 (y : Y56) : isDataV (tupV (encR56 y)) = true := rfl
theorem hb56 : f56.body = some b56 := by kernel_rfl
def l_56_3 : Nat → Int → Int → Bool → Int → (List Queued) → Int → Int → (Bool → Prop) → (Bool → Prop) → Prop
  | 0 => fun _ _ _ _ _ _ _ _ _ => False
  | k + 1 => fun x1 x2 x3 x4 x5 x6 x7 kr k0 ↦ br (decide (x7 < x6)) (br (inb x7 (↑x5.length : Int)) (V45 (x5.getD x7.toNat (env.d 45)).p fun y11 ↦ br (!y11) (kr false) (br ((x5.getD x7.toNat (env.d 45)).p.flow != x1) (kr false) (V55 (x5.getD x7.toNat (env.d 45)).at_ x4 x2 fun y12 ↦ br (!y12) (kr false) (l_56_3 k x1 x2 x3 (x5.getD x7.toNat (env.d 45)).at_ x5 x6 (IntKind.i64.wrap (x7 + 1)) kr k0)))) False) (k0 x3)
def w_56_3 (k : Nat) (vs : List (SV env.T)) (K : Ex → List (SV env.T) → Prop) : Prop :=
  dCI .i64 vs fun x1 vs => dCI .i64 vs fun x2 vs => dCB vs fun x3 vs => dCI .i64 vs fun x4 vs => dCD 45 vs fun x5 vs => dCI .i64 vs fun x6 vs => dCI .i64 vs fun x7 vs => dCE vs (l_56_3 k x1 x2 x3 x4 x5 x6 x7 (fun y1 => K .ret [.bool y1]) (fun y1 => K (.exit 0) [.bool y1]))
def p_56_3 : Piece env := ⟨⟨[.any, .hole, .hole, .any, .any, .any, .hole, .hole, .any, .any, .holeD 45, .hole, .hole, .any, .any, .any, .any, .any, .any, .any, .any, .any, .any, .any, .any, .any, .any, .any, .any, .any, .any, .any, .any, .any, .any, .any, .any, .any], [], [], 0⟩, exitF none [(0, ⟨[.any, .any, .any, .any, .any, .any, .hole, .any, .any, .any, .any, .any, .any, .any, .any, .any, .any, .any, .any, .any, .any, .any, .any, .any, .any, .any, .any, .any, .any, .any, .any, .any, .any, .any, .any, .any, .any, .any], [], [], 0⟩)] (some ⟨[.any, .any, .any, .any, .any, .any, .hole, .any, .any, .any, .any, .any, .any, .any, .any, .any, .any, .any, .any, .any, .any, .any, .any, .any, .any, .any, .any, .any, .any, .any, .any, .any, .any, .any, .any, .any, .any, .any], [], [], 0⟩), fun vs K => ∃ k, w_56_3 k vs K⟩
noncomputable def B56 : (List Queued) → Int → Int → (Y56 → Prop) → Prop :=
  fun x0 x1 x2 K ↦ ∃ k4, l_56_3 k4 x1 x2 false 0 x0 (↑x0.length : Int) 0 K fun _ ↦ K true
theorem V56_ex : ∃ V : (List Queued) → Int → Int → (Y56 → Prop) → Prop, V = B56 := ⟨_, rfl⟩
noncomputable def V56 : (List Queued) → Int → Int → (Y56 → Prop) → Prop := Classical.choose V56_ex
theorem V56_eq : V56 = B56 := Classical.choose_spec V56_ex
theorem pook_56_3_56 : PiecesOk Try.prog env (ctxG env false [] R50 [] []) 56 b56 :=
  pieces_at (L := []) (S := []) (fun _ => rfl) (fun _ => rfl) (by kernel_rfl) (by kernel_rfl) (fun _ hq => by cases hq) (fun _ hq => by cases hq)
theorem book_56_3 : BodiesOk Try.prog env (ctxG env false [] R50 [] []) := bodies_okG (ks := []) (by kernel_rfl) (fun _ hq => by cases hq)
theorem stok_56_3 (k : Nat) (x1 : Int) (x2 : Int) (x3 : Bool) (x4 : Int) (x5 : (List Queued)) (x6 : Int) (x7 : Int) (K : Ex → List (SV env.T) → Prop) : l_56_3 (k + 1) x1 x2 x3 x4 x5 x6 x7 (fun y1 => K .ret [.bool y1]) (fun y1 => K (.exit 0) [.bool y1]) = vcCode env (ctxG env false [] R50 [] []) 2000 56 (loopAt b56 3) (insSt p_56_3.head [.int .i64 x1, .int .i64 x2, .bool x3, .int .i64 x4, .dat 45 x5, .int .i64 x6, .int .i64 x7]) (stepK p_56_3 (w_56_3 k) K) := by kernel_rfl
theorem wiok_56_3 (k : Nat) (vs : List (SV env.T)) (K : Ex → List (SV env.T) → Prop) (h : w_56_3 k vs K) : ∃ x1 : Int, ∃ x2 : Int, ∃ x3 : Bool, ∃ x4 : Int, ∃ x5 : (List Queued), ∃ x6 : Int, ∃ x7 : Int, vs = [.int .i64 x1, .int .i64 x2, .bool x3, .int .i64 x4, .dat 45 x5, .int .i64 x6, .int .i64 x7] ∧ l_56_3 k x1 x2 x3 x4 x5 x6 x7 (fun y1 => K .ret [.bool y1]) (fun y1 => K (.exit 0) [.bool y1]) := by
  unfold w_56_3 at h
  replace h := dCI_spec h
  obtain ⟨x1, vs0, e0, h⟩ := h
  replace h := dCI_spec h
  obtain ⟨x2, vs1, e1, h⟩ := h
  replace h := dCB_spec h
  obtain ⟨x3, vs2, e2, h⟩ := h
  replace h := dCI_spec h
  obtain ⟨x4, vs3, e3, h⟩ := h
  replace h := dCD_spec h
  obtain ⟨x5, vs4, e4, h⟩ := h
  replace h := dCI_spec h
  obtain ⟨x6, vs5, e5, h⟩ := h
  replace h := dCI_spec h
  obtain ⟨x7, vs6, e6, h⟩ := h
  replace h := dCE_spec h
  obtain ⟨e, h⟩ := h
  exact ⟨x1, x2, x3, x4, x5, x6, x7, by rw [e0, e1, e2, e3, e4, e5, e6, e], h⟩
theorem zeok_56_3 (x1 : Int) (x2 : Int) (x3 : Bool) (x4 : Int) (x5 : (List Queued)) (x6 : Int) (x7 : Int) (K : Ex → List (SV env.T) → Prop) : l_56_3 0 x1 x2 x3 x4 x5 x6 x7 (fun y1 => K .ret [.bool y1]) (fun y1 => K (.exit 0) [.bool y1]) = False := by kernel_rfl
theorem ok_56_3 : PieceOk Try.prog env p_56_3 (.loop (loopAt b56 3)) := by
  refine loop_step (Wn := w_56_3) tab (ctxG_ok R50_ok false [] _ _) book_56_3 (pieces_sub pook_56_3_56 (by kernel_rfl)) rfl ?_ 2000 ?_
  · intro vs K h
    obtain ⟨x1, x2, x3, x4, x5, x6, x7, _, h⟩ := wiok_56_3 0 vs K h
    exact Eq.mp (zeok_56_3 x1 x2 x3 x4 x5 x6 x7 K) h
  · intro k vs K h
    obtain ⟨x1, x2, x3, x4, x5, x6, x7, rfl, h⟩ := wiok_56_3 (k + 1) vs K h
    exact Eq.mp (stok_56_3 k x1 x2 x3 x4 x5 x6 x7 K) h
theorem po_56_56 : PiecesOk Try.prog env (ctxG env false [] R50 [(56, [(3, p_56_3)])] []) 56 b56 :=
  pieces_at (L := [(3, p_56_3)]) (S := []) (fun _ => rfl) (fun _ => rfl) (by kernel_rfl) (by kernel_rfl) (List.forall_mem_cons.2 ⟨fun _ => ok_56_3, (fun _ hq => by cases hq)⟩) (fun _ hq => by cases hq)
theorem bo_56 : BodiesOk Try.prog env (ctxG env false [] R50 [(56, [(3, p_56_3)])] []) := bodies_okG (ks := [56]) (by kernel_rfl) (List.forall_mem_cons.2 ⟨body_at (fn := f56) (body := b56) rfl hb56 po_56_56, (fun _ hq => by cases hq)⟩)
theorem eq_56 (x0 : (List Queued)) (x1 : Int) (x2 : Int) (K : Y56 → Prop) : vcCode env (ctxG env false [] R50 [(56, [(3, p_56_3)])] []) 2000 56 b56 (entry env f56 [v43 x0, v3 x1, v3 x2]) (finR env f56 decR56 K) = B56 x0 x1 x2 K := by kernel_rfl
noncomputable def rule56 : Nat × Rule env := (56, ruleF env decA56 encR56 fun x => V56 x.1 x.2.1 x.2.2)
theorem r56 : RuleOk Try.prog env 56 rule56.2 :=
  rule_fun tab (ctxG_ok R50_ok false [] _ _) bo_56 (f := 56) (fn := f56) rfl hb56 po_56_56 2000 encA56 hA56 hR56 hD56 (fun _ => of_decide_eq_true (by kernel_rfl)) (fun x K => (eq_56 x.1 x.2.1 x.2.2 K).trans (by rw [V56_eq]))
noncomputable def R56 : List (Nat × Rule env) := rule56 :: R50
theorem R56_ok : AllOk Try.prog env R56 := ⟨r56, R50_ok⟩
-- 47 queuelab/deficit.size
noncomputable def f47 : Func := Try.f47
noncomputable def b47 : Code := (Try.f47.body).getD .skip
abbrev X47 := Queue
def encA47 (x : X47) : List (SV env.T) := [v28 x]
def decA47 (l : List (SV env.T)) : Option X47 := match l with
  | [s0] => match u28 s0 with
    | some x0 => some (x0)
    | _ => none
  | _ => none
theorem hA47 (l : List (SV env.T)) (x : X47) (h : decA47 l = some x) : WkA env.has l (encA47 x) := by
  unfold decA47 at h; split at h
  · split at h
    · rename_i h0; cases h; exact (.cons (u28_wk h0) .nil)
    · cases h
  · cases h
abbrev Y47 := Int
def encR47 (x : Y47) : List (SV env.T) := [v3 x]
def decR47 (l : List (SV env.T)) : Option Y47 := match l with
  | [s0] => match u3 s0 with
    | some x0 => some (x0)
    | _ => none
  | _ => none
theorem hR47 (l : List (SV env.T)) (x : Y47) (h : decR47 l = some x) : WkA env.has l (encR47 x) := by
  unfold decR47 at h; split at h
  · split at h
    · rename_i h0; cases h; exact (.cons (u3_wk h0) .nil)
    · cases h
  · cases h
theorem hD47 (y : Y47) : isDataV (tupV (encR47 y)) = true := rfl
theorem hb47 : f47.body = some b47 := by kernel_rfl
def l_47_3 : Nat → Int → Int → (List (List Queued)) → Int → Int → (Int → Int → Prop) → Prop
  | 0 => fun _ _ _ _ _ _ => False
  | k + 1 => fun x1 x2 x3 x4 x5 k0 ↦ br (decide (x5 < x4)) (br (inb x5 (↑x3.length : Int)) (l_47_3 k x1 (IntKind.i64.wrap (x2 + (↑(List.length (x3.getD x5.toNat (env.d 43))) : Int))) x3 x4 (IntKind.i64.wrap (x5 + 1)) k0) False) (k0 x1 x2)
def w_47_3 (k : Nat) (vs : List (SV env.T)) (K : Ex → List (SV env.T) → Prop) : Prop :=
  dCI .i64 vs fun x1 vs => dCI .i64 vs fun x2 vs => dCD 43 vs fun x3 vs => dCI .i64 vs fun x4 vs => dCI .i64 vs fun x5 vs => dCE vs (l_47_3 k x1 x2 x3 x4 x5 (fun y1 y2 => K (.exit 0) [.int .i64 y1, .int .i64 y2]))
def p_47_3 : Piece env := ⟨⟨[.any, .any, .hole, .hole, .any, .any, .any, .holeD 43, .hole, .hole, .any, .any, .any, .any, .any, .any, .any, .any, .any], [], [], 0⟩, exitF none [(0, ⟨[.any, .any, .hole, .hole, .any, .any, .any, .any, .any, .any, .any, .any, .any, .any, .any, .any, .any, .any, .any], [], [], 0⟩)] none, fun vs K => ∃ k, w_47_3 k vs K⟩
noncomputable def B47 : Queue → (Y47 → Prop) → Prop :=
  fun x0 K ↦ ∃ k2, l_47_3 k2 0 0 x0.lists (↑x0.lists.length : Int) 0 fun _ ↦ K
theorem V47_ex : ∃ V : Queue → (Y47 → Prop) → Prop, V = B47 := ⟨_, rfl⟩
noncomputable def V47 : Queue → (Y47 → Prop) → Prop := Classical.choose V47_ex
theorem V47_eq : V47 = B47 := Classical.choose_spec V47_ex
theorem pook_47_3_47 : PiecesOk Try.prog env (ctxG env false [] R56 [] []) 47 b47 :=
  pieces_at (L := []) (S := []) (fun _ => rfl) (fun _ => rfl) (by kernel_rfl) (by kernel_rfl) (fun _ hq => by cases hq) (fun _ hq => by cases hq)
theorem book_47_3 : BodiesOk Try.prog env (ctxG env false [] R56 [] []) := bodies_okG (ks := []) (by kernel_rfl) (fun _ hq => by cases hq)
theorem stok_47_3 (k : Nat) (x1 : Int) (x2 : Int) (x3 : (List (List Queued))) (x4 : Int) (x5 : Int) (K : Ex → List (SV env.T) → Prop) : l_47_3 (k + 1) x1 x2 x3 x4 x5 (fun y1 y2 => K (.exit 0) [.int .i64 y1, .int .i64 y2]) = vcCode env (ctxG env false [] R56 [] []) 2000 47 (loopAt b47 3) (insSt p_47_3.head [.int .i64 x1, .int .i64 x2, .dat 43 x3, .int .i64 x4, .int .i64 x5]) (stepK p_47_3 (w_47_3 k) K) := by kernel_rfl
theorem wiok_47_3 (k : Nat) (vs : List (SV env.T)) (K : Ex → List (SV env.T) → Prop) (h : w_47_3 k vs K) : ∃ x1 : Int, ∃ x2 : Int, ∃ x3 : (List (List Queued)), ∃ x4 : Int, ∃ x5 : Int, vs = [.int .i64 x1, .int .i64 x2, .dat 43 x3, .int .i64 x4, .int .i64 x5] ∧ l_47_3 k x1 x2 x3 x4 x5 (fun y1 y2 => K (.exit 0) [.int .i64 y1, .int .i64 y2]) := by
  unfold w_47_3 at h
  replace h := dCI_spec h
  obtain ⟨x1, vs0, e0, h⟩ := h
  replace h := dCI_spec h
  obtain ⟨x2, vs1, e1, h⟩ := h
  replace h := dCD_spec h
  obtain ⟨x3, vs2, e2, h⟩ := h
  replace h := dCI_spec h
  obtain ⟨x4, vs3, e3, h⟩ := h
  replace h := dCI_spec h
  obtain ⟨x5, vs4, e4, h⟩ := h
  replace h := dCE_spec h
  obtain ⟨e, h⟩ := h
  exact ⟨x1, x2, x3, x4, x5, by rw [e0, e1, e2, e3, e4, e], h⟩
theorem zeok_47_3 (x1 : Int) (x2 : Int) (x3 : (List (List Queued))) (x4 : Int) (x5 : Int) (K : Ex → List (SV env.T) → Prop) : l_47_3 0 x1 x2 x3 x4 x5 (fun y1 y2 => K (.exit 0) [.int .i64 y1, .int .i64 y2]) = False := by kernel_rfl
theorem ok_47_3 : PieceOk Try.prog env p_47_3 (.loop (loopAt b47 3)) := by
  refine loop_step (Wn := w_47_3) tab (ctxG_ok R56_ok false [] _ _) book_47_3 (pieces_sub pook_47_3_47 (by kernel_rfl)) rfl ?_ 2000 ?_
  · intro vs K h
    obtain ⟨x1, x2, x3, x4, x5, _, h⟩ := wiok_47_3 0 vs K h
    exact Eq.mp (zeok_47_3 x1 x2 x3 x4 x5 K) h
  · intro k vs K h
    obtain ⟨x1, x2, x3, x4, x5, rfl, h⟩ := wiok_47_3 (k + 1) vs K h
    exact Eq.mp (stok_47_3 k x1 x2 x3 x4 x5 K) h
theorem po_47_47 : PiecesOk Try.prog env (ctxG env false [] R56 [(47, [(3, p_47_3)])] []) 47 b47 :=
  pieces_at (L := [(3, p_47_3)]) (S := []) (fun _ => rfl) (fun _ => rfl) (by kernel_rfl) (by kernel_rfl) (List.forall_mem_cons.2 ⟨fun _ => ok_47_3, (fun _ hq => by cases hq)⟩) (fun _ hq => by cases hq)
theorem bo_47 : BodiesOk Try.prog env (ctxG env false [] R56 [(47, [(3, p_47_3)])] []) := bodies_okG (ks := [47]) (by kernel_rfl) (List.forall_mem_cons.2 ⟨body_at (fn := f47) (body := b47) rfl hb47 po_47_47, (fun _ hq => by cases hq)⟩)
theorem eq_47 (x0 : Queue) (K : Y47 → Prop) : vcCode env (ctxG env false [] R56 [(47, [(3, p_47_3)])] []) 2000 47 b47 (entry env f47 [v28 x0]) (finR env f47 decR47 K) = B47 x0 K := by kernel_rfl
noncomputable def rule47 : Nat × Rule env := (47, ruleF env decA47 encR47 fun x => V47 x)
theorem r47 : RuleOk Try.prog env 47 rule47.2 :=
  rule_fun tab (ctxG_ok R56_ok false [] _ _) bo_47 (f := 47) (fn := f47) rfl hb47 po_47_47 2000 encA47 hA47 hR47 hD47 (fun _ => of_decide_eq_true (by kernel_rfl)) (fun x K => (eq_47 x K).trans (by rw [V47_eq]))
noncomputable def R47 : List (Nat × Rule env) := rule47 :: R56
theorem R47_ok : AllOk Try.prog env R47 := ⟨r47, R56_ok⟩
-- 21 queuelab/deficit.Valid
noncomputable def f21 : Func := Try.f21
noncomputable def b21 : Code := (Try.f21.body).getD .skip
abbrev X21 := Queue
def encA21 (x : X21) : List (SV env.T) := [v28 x]
def decA21 (l : List (SV env.T)) : Option X21 := match l with
  | [s0] => match u28 s0 with
    | some x0 => some (x0)
    | _ => none
  | _ => none
theorem hA21 (l : List (SV env.T)) (x : X21) (h : decA21 l = some x) : WkA env.has l (encA21 x) := by
  unfold decA21 at h; split at h
  · split at h
    · rename_i h0; cases h; exact (.cons (u28_wk h0) .nil)
    · cases h
  · cases h
abbrev Y21 := Bool
def encR21 (x : Y21) : List (SV env.T) := [v4 x]
def decR21 (l : List (SV env.T)) : Option Y21 := match l with
  | [s0] => match u4 s0 with
    | some x0 => some (x0)
    | _ => none
  | _ => none
theorem hR21 (l : List (SV env.T)) (x : Y21) (h : decR21 l = some x) : WkA env.has l (encR21 x) := by
  unfold decR21 at h; split at h
  · split at h
    · rename_i h0; cases h; exact (.cons (u4_wk h0) .nil)
    · cases h
  · cases h
theorem hD21 (y : Y21) : isDataV (tupV (encR21 y)) = true := rfl
theorem hb21 : f21.body = some b21 := by kernel_rfl
def l_21_7 : Nat → Bool → Int → Int → Int → Int → Int → Int → (List (List Queued)) → (List Int) → Int → (List Int) → (Bool → Prop) → (Bool → Int → Int → Int → Int → Int → (List (List Queued)) → (List Int) → Int → (List Int) → Prop) → Prop
  | 0 => fun _ _ _ _ _ _ _ _ _ _ _ _ _ => False
  | k + 1 => fun x1 x2 x3 x4 x5 x6 x7 x8 x9 x10 x11 kr k0 ↦ br (decide (x2 < 4)) (br (inb (IntKind.i64.wrap (2 + x2)) (↑8 : Int)) (br (decide (x11.getD (IntKind.i64.wrap (2 + x2)).toNat 0 < 0)) (kr false) (l_21_7 k x1 (IntKind.i64.wrap (x2 + 1)) x3 x4 x5 x6 x7 x8 x9 x10 x11 kr k0)) False) (k0 x1 x3 x4 x5 x6 x7 x8 x9 x10 x11)
def w_21_7 (k : Nat) (vs : List (SV env.T)) (K : Ex → List (SV env.T) → Prop) : Prop :=
  dCB vs fun x1 vs => dCI .i64 vs fun x2 vs => dCI .i64 vs fun x3 vs => dCI .i64 vs fun x4 vs => dCI .i64 vs fun x5 vs => dCI .i64 vs fun x6 vs => dCI .i64 vs fun x7 vs => dCD 43 vs fun x8 vs => dCA .i64 8 vs fun x9 vs => dCI .u64 vs fun x10 vs => dCA .i64 8 vs fun x11 vs => dCE vs (l_21_7 k x1 x2 x3 x4 x5 x6 x7 x8 x9 x10 x11 (fun y1 => K .ret [.bool y1]) (fun y1 y2 y3 y4 y5 y6 y7 y8 y9 y10 => K (.exit 0) [.bool y1, .int .i64 y2, .int .i64 y3, .int .i64 y4, .int .i64 y5, .int .i64 y6, .dat 43 y7, .arr .i64 8 y8, .int .u64 y9, .arr .i64 8 y10]))
def p_21_7 : Piece env := ⟨⟨[.any, .ptr 0 0, .hole, .any, .ptr 1 0, .any, .any, .any, .any, .any, .any, .any, .any, .any, .any, .any, .any, .any, .any, .any, .any, .any, .any, .any, .any, .any, .any, .any, .any, .any, .any, .any, .any, .any, .any, .any, .any, .any, .any, .any, .any, .any, .any, .any, .any, .any, .any, .any, .any, .any, .any, .any, .any, .any, .any, .any, .any, .any, .any, .any, .any, .any, .any, .any, .any, .any, .any, .any, .any, .any, .any, .any, .any, .any, .any, .any, .any, .any, .any, .any, .any, .any, .any, .any, .any, .hole, .any, .any, .any, .any, .any, .any, .any, .any, .any, .any, .any, .any, .any, .any, .any, .any, .any, .any, .any, .any, .any, .any, .any, .any, .any, .any, .any, .any, .any, .any, .any, .any, .any, .any, .any, .any, .any, .any, .any, .any, .any, .any, .any, .any, .any, .any, .any, .any, .any, .any, .any, .any, .any, .any, .any, .any, .any, .any, .any, .any, .any, .any, .any, .any, .any, .any, .any, .any, .any, .any, .any, .any, .any, .any, .any, .any], [], [(0, .cells 28 [.hole, .hole, .hole, .hole, .hole, .holeD 43, .hole, .hole]), (1, .cells 25 [.hole])], 2⟩, exitF none [(0, ⟨[.any, .ptr 0 0, .hole, .any, .ptr 1 0, .any, .any, .any, .any, .any, .any, .any, .any, .any, .any, .any, .any, .any, .any, .any, .any, .any, .any, .any, .any, .any, .any, .any, .any, .any, .any, .any, .any, .any, .any, .any, .any, .any, .any, .any, .any, .any, .any, .any, .any, .any, .any, .any, .any, .any, .any, .any, .any, .any, .any, .any, .any, .any, .any, .any, .any, .any, .any, .any, .any, .any, .any, .any, .any, .any, .any, .any, .any, .any, .any, .any, .any, .any, .any, .any, .any, .any, .any, .any, .any, .any, .any, .any, .any, .any, .any, .any, .any, .any, .any, .any, .any, .any, .any, .any, .any, .any, .any, .any, .any, .any, .any, .any, .any, .any, .any, .any, .any, .any, .any, .any, .any, .any, .any, .any, .any, .any, .any, .any, .any, .any, .any, .any, .any, .any, .any, .any, .any, .any, .any, .any, .any, .any, .any, .any, .any, .any, .any, .any, .any, .any, .any, .any, .any, .any, .any, .any, .any, .any, .any, .any, .any, .any, .any, .any, .any, .any], [], [(0, .cells 28 [.hole, .hole, .hole, .hole, .hole, .holeD 43, .hole, .hole]), (1, .cells 25 [.hole])], 2⟩)] (some ⟨[.any, .any, .hole, .any, .any, .any, .any, .any, .any, .any, .any, .any, .any, .any, .any, .any, .any, .any, .any, .any, .any, .any, .any, .any, .any, .any, .any, .any, .any, .any, .any, .any, .any, .any, .any, .any, .any, .any, .any, .any, .any, .any, .any, .any, .any, .any, .any, .any, .any, .any, .any, .any, .any, .any, .any, .any, .any, .any, .any, .any, .any, .any, .any, .any, .any, .any, .any, .any, .any, .any, .any, .any, .any, .any, .any, .any, .any, .any, .any, .any, .any, .any, .any, .any, .any, .any, .any, .any, .any, .any, .any, .any, .any, .any, .any, .any, .any, .any, .any, .any, .any, .any, .any, .any, .any, .any, .any, .any, .any, .any, .any, .any, .any, .any, .any, .any, .any, .any, .any, .any, .any, .any, .any, .any, .any, .any, .any, .any, .any, .any, .any, .any, .any, .any, .any, .any, .any, .any, .any, .any, .any, .any, .any, .any, .any, .any, .any, .any, .any, .any, .any, .any, .any, .any, .any, .any, .any, .any, .any, .any, .any, .any], [], [], 0⟩), fun vs K => ∃ k, w_21_7 k vs K⟩
def s_21_18 : Bool → Int → Int → Bool → (List Int) → Int → Int → Int → Int → Int → Int → (List (List Queued)) → (List Int) → Int → (List Int) → (Bool → Prop) → (Bool → (List Int) → Int → Int → Int → Int → Int → Int → (List (List Queued)) → (List Int) → Int → (List Int) → Prop) → Prop :=
  fun x1 x2 x3 x4 x5 x6 x7 x8 x9 x10 x11 x12 x13 x14 x15 kr kn ↦ br (decide (x3 > 0)) (br (!x4) (br (inb x2 (↑x12.length : Int)) (br (inb 0 (↑(List.length (x12.getD x2.toNat (env.d 43))) : Int)) (br (decide (x3 ≥ (List.getD (x12.getD x2.toNat (env.d 43)) 0 (env.d 45)).p.size)) (kr false) (kn x1 x5 x6 x7 x8 x9 x10 x11 x12 x13 x14 x15)) False) False) (kn x1 x5 x6 x7 x8 x9 x10 x11 x12 x13 x14 x15)) (kn x1 x5 x6 x7 x8 x9 x10 x11 x12 x13 x14 x15)
def v_21_18 (vs : List (SV env.T)) (K : Ex → List (SV env.T) → Prop) : Prop :=
  dCB vs fun x1 vs => dCI .i64 vs fun x2 vs => dCI .i64 vs fun x3 vs => dCB vs fun x4 vs => dCA .i64 8 vs fun x5 vs => dCI .i64 vs fun x6 vs => dCI .i64 vs fun x7 vs => dCI .i64 vs fun x8 vs => dCI .i64 vs fun x9 vs => dCI .i64 vs fun x10 vs => dCI .i64 vs fun x11 vs => dCD 43 vs fun x12 vs => dCA .i64 8 vs fun x13 vs => dCI .u64 vs fun x14 vs => dCA .i64 8 vs fun x15 vs => dCE vs (s_21_18 x1 x2 x3 x4 x5 x6 x7 x8 x9 x10 x11 x12 x13 x14 x15 (fun y1 => K .ret [.bool y1]) (fun y1 y2 y3 y4 y5 y6 y7 y8 y9 y10 y11 y12 => K .normal [.bool y1, .arr .i64 8 y2, .int .i64 y3, .int .i64 y4, .int .i64 y5, .int .i64 y6, .int .i64 y7, .int .i64 y8, .dat 43 y9, .arr .i64 8 y10, .int .u64 y11, .arr .i64 8 y12]))
def q_21_18 : Piece env := ⟨⟨[.any, .ptr 0 0, .hole, .any, .ptr 1 0, .any, .hole, .hole, .hole, .any, .any, .any, .any, .any, .any, .any, .any, .any, .any, .any, .any, .any, .any, .any, .any, .any, .any, .any, .any, .any, .any, .any, .any, .any, .any, .any, .any, .any, .any, .any, .any, .any, .any, .any, .any, .any, .any, .any, .any, .any, .any, .any, .any, .any, .any, .any, .any, .any, .any, .any, .any, .any, .any, .any, .any, .any, .any, .any, .any, .any, .any, .any, .any, .any, .any, .any, .any, .any, .any, .any, .any, .any, .any, .any, .any, .any, .any, .any, .any, .any, .any, .any, .any, .any, .any, .agg [.hole], .hole, .any, .any, .any, .any, .any, .any, .any, .any, .any, .any, .any, .any, .any, .any, .any, .any, .any, .any, .any, .any, .any, .any, .any, .any, .any, .any, .any, .any, .any, .any, .any, .any, .any, .any, .any, .any, .any, .any, .any, .any, .any, .any, .any, .any, .any, .any, .any, .any, .any, .any, .any, .any, .any, .any, .any, .any, .any, .any, .any, .any, .any, .any, .any, .any, .any], [], [(0, .cells 28 [.hole, .hole, .hole, .hole, .hole, .holeD 43, .hole, .hole]), (1, .cells 25 [.hole])], 2⟩, exitF (some ⟨[.any, .ptr 0 0, .hole, .any, .ptr 1 0, .any, .any, .any, .any, .any, .any, .any, .any, .any, .any, .any, .any, .any, .any, .any, .any, .any, .any, .any, .any, .any, .any, .any, .any, .any, .any, .any, .any, .any, .any, .any, .any, .any, .any, .any, .any, .any, .any, .any, .any, .any, .any, .any, .any, .any, .any, .any, .any, .any, .any, .any, .any, .any, .any, .any, .any, .any, .any, .any, .any, .any, .any, .any, .any, .any, .any, .any, .any, .any, .any, .any, .any, .any, .any, .any, .any, .any, .any, .any, .any, .any, .any, .any, .any, .any, .any, .any, .any, .any, .any, .agg [.hole], .hole, .any, .any, .any, .any, .any, .any, .any, .any, .any, .any, .any, .any, .any, .any, .any, .any, .any, .any, .any, .any, .any, .any, .any, .any, .any, .any, .any, .any, .any, .any, .any, .any, .any, .any, .any, .any, .any, .any, .any, .any, .any, .any, .any, .any, .any, .any, .any, .any, .any, .any, .any, .any, .any, .any, .any, .any, .any, .any, .any, .any, .any, .any, .any, .any, .any], [], [(0, .cells 28 [.hole, .hole, .hole, .hole, .hole, .holeD 43, .hole, .hole]), (1, .cells 25 [.hole])], 2⟩) [] (some ⟨[.any, .any, .hole, .any, .any, .any, .any, .any, .any, .any, .any, .any, .any, .any, .any, .any, .any, .any, .any, .any, .any, .any, .any, .any, .any, .any, .any, .any, .any, .any, .any, .any, .any, .any, .any, .any, .any, .any, .any, .any, .any, .any, .any, .any, .any, .any, .any, .any, .any, .any, .any, .any, .any, .any, .any, .any, .any, .any, .any, .any, .any, .any, .any, .any, .any, .any, .any, .any, .any, .any, .any, .any, .any, .any, .any, .any, .any, .any, .any, .any, .any, .any, .any, .any, .any, .any, .any, .any, .any, .any, .any, .any, .any, .any, .any, .any, .any, .any, .any, .any, .any, .any, .any, .any, .any, .any, .any, .any, .any, .any, .any, .any, .any, .any, .any, .any, .any, .any, .any, .any, .any, .any, .any, .any, .any, .any, .any, .any, .any, .any, .any, .any, .any, .any, .any, .any, .any, .any, .any, .any, .any, .any, .any, .any, .any, .any, .any, .any, .any, .any, .any, .any, .any, .any, .any, .any, .any, .any, .any, .any, .any, .any], [], [], 0⟩), v_21_18⟩
def s_21_17 : Bool → Int → Int → (List Int) → Int → Int → Int → Int → Int → Int → (List (List Queued)) → (List Int) → Int → (List Int) → (Bool → Prop) → (Bool → (List Int) → Int → Int → Int → Int → Int → Int → (List (List Queued)) → (List Int) → Int → (List Int) → Prop) → Prop :=
  fun x1 x2 x3 x4 x5 x6 x7 x8 x9 x10 x11 x12 x13 x14 kr kn ↦ br (x14.getD 1 0 == 1) (s_21_18 x1 x2 x3 (x14.getD 0 0 == x2) x4 x5 x6 x7 x8 x9 x10 x11 x12 x13 x14 kr kn) (s_21_18 x1 x2 x3 false x4 x5 x6 x7 x8 x9 x10 x11 x12 x13 x14 kr kn)
def v_21_17 (vs : List (SV env.T)) (K : Ex → List (SV env.T) → Prop) : Prop :=
  dCB vs fun x1 vs => dCI .i64 vs fun x2 vs => dCI .i64 vs fun x3 vs => dCA .i64 8 vs fun x4 vs => dCI .i64 vs fun x5 vs => dCI .i64 vs fun x6 vs => dCI .i64 vs fun x7 vs => dCI .i64 vs fun x8 vs => dCI .i64 vs fun x9 vs => dCI .i64 vs fun x10 vs => dCD 43 vs fun x11 vs => dCA .i64 8 vs fun x12 vs => dCI .u64 vs fun x13 vs => dCA .i64 8 vs fun x14 vs => dCE vs (s_21_17 x1 x2 x3 x4 x5 x6 x7 x8 x9 x10 x11 x12 x13 x14 (fun y1 => K .ret [.bool y1]) (fun y1 y2 y3 y4 y5 y6 y7 y8 y9 y10 y11 y12 => K .normal [.bool y1, .arr .i64 8 y2, .int .i64 y3, .int .i64 y4, .int .i64 y5, .int .i64 y6, .int .i64 y7, .int .i64 y8, .dat 43 y9, .arr .i64 8 y10, .int .u64 y11, .arr .i64 8 y12]))
def q_21_17 : Piece env := ⟨⟨[.any, .ptr 0 0, .hole, .any, .ptr 1 0, .any, .hole, .hole, .any, .any, .any, .any, .any, .any, .any, .any, .any, .any, .any, .any, .any, .any, .any, .any, .any, .any, .any, .any, .any, .any, .any, .any, .any, .any, .any, .any, .any, .any, .any, .any, .any, .any, .any, .any, .any, .any, .any, .any, .any, .any, .any, .any, .any, .any, .any, .any, .any, .any, .any, .any, .any, .any, .any, .any, .any, .any, .any, .any, .any, .any, .any, .any, .any, .any, .any, .any, .any, .any, .any, .any, .any, .any, .any, .any, .any, .any, .any, .any, .any, .any, .any, .any, .any, .any, .any, .agg [.hole], .hole, .any, .any, .any, .any, .any, .any, .any, .any, .any, .any, .any, .any, .any, .any, .any, .any, .any, .any, .any, .any, .any, .any, .any, .any, .any, .any, .any, .any, .any, .any, .any, .any, .any, .any, .any, .any, .any, .any, .any, .any, .any, .any, .any, .any, .any, .any, .any, .any, .any, .any, .any, .any, .any, .any, .any, .any, .any, .any, .any, .any, .any, .any, .any, .any, .any], [], [(0, .cells 28 [.hole, .hole, .hole, .hole, .hole, .holeD 43, .hole, .hole]), (1, .cells 25 [.hole])], 2⟩, exitF (some ⟨[.any, .ptr 0 0, .hole, .any, .ptr 1 0, .any, .any, .any, .any, .any, .any, .any, .any, .any, .any, .any, .any, .any, .any, .any, .any, .any, .any, .any, .any, .any, .any, .any, .any, .any, .any, .any, .any, .any, .any, .any, .any, .any, .any, .any, .any, .any, .any, .any, .any, .any, .any, .any, .any, .any, .any, .any, .any, .any, .any, .any, .any, .any, .any, .any, .any, .any, .any, .any, .any, .any, .any, .any, .any, .any, .any, .any, .any, .any, .any, .any, .any, .any, .any, .any, .any, .any, .any, .any, .any, .any, .any, .any, .any, .any, .any, .any, .any, .any, .any, .agg [.hole], .hole, .any, .any, .any, .any, .any, .any, .any, .any, .any, .any, .any, .any, .any, .any, .any, .any, .any, .any, .any, .any, .any, .any, .any, .any, .any, .any, .any, .any, .any, .any, .any, .any, .any, .any, .any, .any, .any, .any, .any, .any, .any, .any, .any, .any, .any, .any, .any, .any, .any, .any, .any, .any, .any, .any, .any, .any, .any, .any, .any, .any, .any, .any, .any, .any, .any], [], [(0, .cells 28 [.hole, .hole, .hole, .hole, .hole, .holeD 43, .hole, .hole]), (1, .cells 25 [.hole])], 2⟩) [] (some ⟨[.any, .any, .hole, .any, .any, .any, .any, .any, .any, .any, .any, .any, .any, .any, .any, .any, .any, .any, .any, .any, .any, .any, .any, .any, .any, .any, .any, .any, .any, .any, .any, .any, .any, .any, .any, .any, .any, .any, .any, .any, .any, .any, .any, .any, .any, .any, .any, .any, .any, .any, .any, .any, .any, .any, .any, .any, .any, .any, .any, .any, .any, .any, .any, .any, .any, .any, .any, .any, .any, .any, .any, .any, .any, .any, .any, .any, .any, .any, .any, .any, .any, .any, .any, .any, .any, .any, .any, .any, .any, .any, .any, .any, .any, .any, .any, .any, .any, .any, .any, .any, .any, .any, .any, .any, .any, .any, .any, .any, .any, .any, .any, .any, .any, .any, .any, .any, .any, .any, .any, .any, .any, .any, .any, .any, .any, .any, .any, .any, .any, .any, .any, .any, .any, .any, .any, .any, .any, .any, .any, .any, .any, .any, .any, .any, .any, .any, .any, .any, .any, .any, .any, .any, .any, .any, .any, .any, .any, .any, .any, .any, .any, .any], [], [], 0⟩), v_21_17⟩
def l_21_13 : Nat → Bool → (List Int) → Int → Int → Int → Int → Int → Int → (List (List Queued)) → (List Int) → Int → (List Int) → (Bool → Prop) → (Bool → Int → Int → Int → Int → Int → (List (List Queued)) → (List Int) → Int → Prop) → Prop
  | 0 => fun _ _ _ _ _ _ _ _ _ _ _ _ _ _ => False
  | k + 1 => fun x1 x2 x3 x4 x5 x6 x7 x8 x9 x10 x11 x12 kr k2 ↦ br (decide (x3 < 8)) (br (inb x3 (↑8 : Int)) (∃ k16, (V55 (x2.getD x3.toNat 0) 0 19999 fun y17 ↦ tupV (encR55 y17) = tupV (encR55 k16)) ∧ br (!k16) (kr false) (br (decide (x2.getD x3.toNat 0 > 0)) (br (inb x3 (↑x9.length : Int)) (br ((↑(List.length (x9.getD x3.toNat (env.d 43))) : Int) == 0) (kr false) (br (inb x3 (↑x9.length : Int)) (∃ k17, (V56 (x9.getD x3.toNat (env.d 43)) x3 (x12.getD 7 0) fun y18 ↦ tupV (encR56 y18) = tupV (encR56 k17)) ∧ br (!k17) (kr false) (s_21_17 x1 x3 (x2.getD x3.toNat 0) x2 x3 x4 x5 x6 x7 x8 x9 x10 x11 x12 kr fun y18 y19 y20 y21 y22 y23 y24 y25 y26 y27 y28 y29 ↦ l_21_13 k y18 y19 (IntKind.i64.wrap (y20 + 1)) y21 y22 y23 y24 y25 y26 y27 y28 y29 kr k2)) False)) False) (br (inb x3 (↑x9.length : Int)) (∃ k17, (V56 (x9.getD x3.toNat (env.d 43)) x3 (x12.getD 7 0) fun y18 ↦ tupV (encR56 y18) = tupV (encR56 k17)) ∧ br (!k17) (kr false) (s_21_17 x1 x3 (x2.getD x3.toNat 0) x2 x3 x4 x5 x6 x7 x8 x9 x10 x11 x12 kr fun y18 y19 y20 y21 y22 y23 y24 y25 y26 y27 y28 y29 ↦ l_21_13 k y18 y19 (IntKind.i64.wrap (y20 + 1)) y21 y22 y23 y24 y25 y26 y27 y28 y29 kr k2)) False))) False) (k2 x1 x4 x5 x6 x7 x8 x9 x10 x11)
def w_21_13 (k : Nat) (vs : List (SV env.T)) (K : Ex → List (SV env.T) → Prop) : Prop :=
  dCB vs fun x1 vs => dCA .i64 8 vs fun x2 vs => dCI .i64 vs fun x3 vs => dCI .i64 vs fun x4 vs => dCI .i64 vs fun x5 vs => dCI .i64 vs fun x6 vs => dCI .i64 vs fun x7 vs => dCI .i64 vs fun x8 vs => dCD 43 vs fun x9 vs => dCA .i64 8 vs fun x10 vs => dCI .u64 vs fun x11 vs => dCA .i64 8 vs fun x12 vs => dCE vs (l_21_13 k x1 x2 x3 x4 x5 x6 x7 x8 x9 x10 x11 x12 (fun y1 => K .ret [.bool y1]) (fun y1 y2 y3 y4 y5 y6 y7 y8 y9 => K (.exit 2) [.bool y1, .int .i64 y2, .int .i64 y3, .int .i64 y4, .int .i64 y5, .int .i64 y6, .dat 43 y7, .arr .i64 8 y8, .int .u64 y9]))
def p_21_13 : Piece env := ⟨⟨[.any, .ptr 0 0, .hole, .any, .ptr 1 0, .any, .any, .any, .any, .any, .any, .any, .any, .any, .any, .any, .any, .any, .any, .any, .any, .any, .any, .any, .any, .any, .any, .any, .any, .any, .any, .any, .any, .any, .any, .any, .any, .any, .any, .any, .any, .any, .any, .any, .any, .any, .any, .any, .any, .any, .any, .any, .any, .any, .any, .any, .any, .any, .any, .any, .any, .any, .any, .any, .any, .any, .any, .any, .any, .any, .any, .any, .any, .any, .any, .any, .any, .any, .any, .any, .any, .any, .any, .any, .any, .any, .any, .any, .any, .any, .any, .any, .any, .any, .any, .agg [.hole], .hole, .any, .any, .any, .any, .any, .any, .any, .any, .any, .any, .any, .any, .any, .any, .any, .any, .any, .any, .any, .any, .any, .any, .any, .any, .any, .any, .any, .any, .any, .any, .any, .any, .any, .any, .any, .any, .any, .any, .any, .any, .any, .any, .any, .any, .any, .any, .any, .any, .any, .any, .any, .any, .any, .any, .any, .any, .any, .any, .any, .any, .any, .any, .any, .any, .any], [], [(0, .cells 28 [.hole, .hole, .hole, .hole, .hole, .holeD 43, .hole, .hole]), (1, .cells 25 [.hole])], 2⟩, exitF none [(2, ⟨[.any, .ptr 0 0, .hole, .any, .any, .any, .any, .any, .any, .any, .any, .any, .any, .any, .any, .any, .any, .any, .any, .any, .any, .any, .any, .any, .any, .any, .any, .any, .any, .any, .any, .any, .any, .any, .any, .any, .any, .any, .any, .any, .any, .any, .any, .any, .any, .any, .any, .any, .any, .any, .any, .any, .any, .any, .any, .any, .any, .any, .any, .any, .any, .any, .any, .any, .any, .any, .any, .any, .any, .any, .any, .any, .any, .any, .any, .any, .any, .any, .any, .any, .any, .any, .any, .any, .any, .any, .any, .any, .any, .any, .any, .any, .any, .any, .any, .any, .any, .any, .any, .any, .any, .any, .any, .any, .any, .any, .any, .any, .any, .any, .any, .any, .any, .any, .any, .any, .any, .any, .any, .any, .any, .any, .any, .any, .any, .any, .any, .any, .any, .any, .any, .any, .any, .any, .any, .any, .any, .any, .any, .any, .any, .any, .any, .any, .any, .any, .any, .any, .any, .any, .any, .any, .any, .any, .any, .any, .any, .any, .any, .any, .any, .any], [], [(0, .cells 28 [.hole, .hole, .hole, .hole, .hole, .holeD 43, .hole, .hole])], 1⟩)] (some ⟨[.any, .any, .hole, .any, .any, .any, .any, .any, .any, .any, .any, .any, .any, .any, .any, .any, .any, .any, .any, .any, .any, .any, .any, .any, .any, .any, .any, .any, .any, .any, .any, .any, .any, .any, .any, .any, .any, .any, .any, .any, .any, .any, .any, .any, .any, .any, .any, .any, .any, .any, .any, .any, .any, .any, .any, .any, .any, .any, .any, .any, .any, .any, .any, .any, .any, .any, .any, .any, .any, .any, .any, .any, .any, .any, .any, .any, .any, .any, .any, .any, .any, .any, .any, .any, .any, .any, .any, .any, .any, .any, .any, .any, .any, .any, .any, .any, .any, .any, .any, .any, .any, .any, .any, .any, .any, .any, .any, .any, .any, .any, .any, .any, .any, .any, .any, .any, .any, .any, .any, .any, .any, .any, .any, .any, .any, .any, .any, .any, .any, .any, .any, .any, .any, .any, .any, .any, .any, .any, .any, .any, .any, .any, .any, .any, .any, .any, .any, .any, .any, .any, .any, .any, .any, .any, .any, .any, .any, .any, .any, .any, .any, .any], [], [], 0⟩), fun vs K => ∃ k, w_21_13 k vs K⟩
def s_21_6 : Bool → Int → Int → Int → Int → Int → (List (List Queued)) → (List Int) → Int → (List Int) → (Bool → Prop) → Prop :=
  fun x1 x2 x3 x4 x5 x6 x7 x8 x9 x10 kr ↦ ∃ k13, l_21_7 k13 x1 0 x2 x3 x4 x5 x6 x7 x8 x9 x10 kr fun y14 y15 y16 y17 y18 y19 y20 y21 y22 y23 ↦ V50 (Queue.mk (Policy.mk y15 y16 y17 y18) y19 y20 y21 y22) fun y24 ↦ ∃ k25, l_21_13 k25 y14 y24 0 y15 y16 y17 y18 y19 y20 y21 y22 y23 kr fun _ y27 y28 y29 y30 y31 y32 y33 y34 ↦ ∃ k35, (V47 (Queue.mk (Policy.mk y27 y28 y29 y30) y31 y32 y33 y34) fun y36 ↦ tupV (encR47 y36) = tupV (encR47 k35)) ∧ kr (decide (k35 ≤ y31))
def v_21_6 (vs : List (SV env.T)) (K : Ex → List (SV env.T) → Prop) : Prop :=
  dCB vs fun x1 vs => dCI .i64 vs fun x2 vs => dCI .i64 vs fun x3 vs => dCI .i64 vs fun x4 vs => dCI .i64 vs fun x5 vs => dCI .i64 vs fun x6 vs => dCD 43 vs fun x7 vs => dCA .i64 8 vs fun x8 vs => dCI .u64 vs fun x9 vs => dCA .i64 8 vs fun x10 vs => dCE vs (s_21_6 x1 x2 x3 x4 x5 x6 x7 x8 x9 x10 (fun y1 => K .ret [.bool y1]))
def q_21_6 : Piece env := ⟨⟨[.any, .ptr 0 0, .hole, .any, .ptr 1 0, .any, .any, .any, .any, .any, .any, .any, .any, .any, .any, .any, .any, .any, .any, .any, .any, .any, .any, .any, .any, .any, .any, .any, .any, .any, .any, .any, .any, .any, .any, .any, .any, .any, .any, .any, .any, .any, .any, .any, .any, .any, .any, .any, .any, .any, .any, .any, .any, .any, .any, .any, .any, .any, .any, .any, .any, .any, .any, .any, .any, .any, .any, .any, .any, .any, .any, .any, .any, .any, .any, .any, .any, .any, .any, .any, .any, .any, .any, .any, .any, .any, .any, .any, .any, .any, .any, .any, .any, .any, .any, .any, .any, .any, .any, .any, .any, .any, .any, .any, .any, .any, .any, .any, .any, .any, .any, .any, .any, .any, .any, .any, .any, .any, .any, .any, .any, .any, .any, .any, .any, .any, .any, .any, .any, .any, .any, .any, .any, .any, .any, .any, .any, .any, .any, .any, .any, .any, .any, .any, .any, .any, .any, .any, .any, .any, .any, .any, .any, .any, .any, .any, .any, .any, .any, .any, .any, .any], [], [(0, .cells 28 [.hole, .hole, .hole, .hole, .hole, .holeD 43, .hole, .hole]), (1, .cells 25 [.hole])], 2⟩, exitF none [] (some ⟨[.any, .any, .hole, .any, .any, .any, .any, .any, .any, .any, .any, .any, .any, .any, .any, .any, .any, .any, .any, .any, .any, .any, .any, .any, .any, .any, .any, .any, .any, .any, .any, .any, .any, .any, .any, .any, .any, .any, .any, .any, .any, .any, .any, .any, .any, .any, .any, .any, .any, .any, .any, .any, .any, .any, .any, .any, .any, .any, .any, .any, .any, .any, .any, .any, .any, .any, .any, .any, .any, .any, .any, .any, .any, .any, .any, .any, .any, .any, .any, .any, .any, .any, .any, .any, .any, .any, .any, .any, .any, .any, .any, .any, .any, .any, .any, .any, .any, .any, .any, .any, .any, .any, .any, .any, .any, .any, .any, .any, .any, .any, .any, .any, .any, .any, .any, .any, .any, .any, .any, .any, .any, .any, .any, .any, .any, .any, .any, .any, .any, .any, .any, .any, .any, .any, .any, .any, .any, .any, .any, .any, .any, .any, .any, .any, .any, .any, .any, .any, .any, .any, .any, .any, .any, .any, .any, .any, .any, .any, .any, .any, .any, .any], [], [], 0⟩), v_21_6⟩
def s_21_4 : Bool → Int → Int → Int → Int → Int → (List (List Queued)) → (List Int) → Int → (List Int) → (Bool → Prop) → Prop :=
  fun x1 x2 x3 x4 x5 x6 x7 x8 x9 x10 kr ↦ V55 (x10.getD 0 0) 0 7 fun y13 ↦ br (!y13) (kr false) (V55 (x10.getD 1 0) 0 1 fun y14 ↦ br (!y14) (kr false) (br (x10.getD 1 0 == 1) (br (inb (x10.getD 0 0) (↑x7.length : Int)) (br ((↑(List.length (x7.getD (x10.getD 0 0).toNat (env.d 43))) : Int) == 0) (kr false) (V55 (x10.getD 7 0) 0 10000000 fun y15 ↦ br (!y15) (kr false) (s_21_6 x1 x2 x3 x4 x5 x6 x7 x8 x9 x10 kr))) False) (V55 (x10.getD 7 0) 0 10000000 fun y15 ↦ br (!y15) (kr false) (s_21_6 x1 x2 x3 x4 x5 x6 x7 x8 x9 x10 kr))))
def v_21_4 (vs : List (SV env.T)) (K : Ex → List (SV env.T) → Prop) : Prop :=
  dCB vs fun x1 vs => dCI .i64 vs fun x2 vs => dCI .i64 vs fun x3 vs => dCI .i64 vs fun x4 vs => dCI .i64 vs fun x5 vs => dCI .i64 vs fun x6 vs => dCD 43 vs fun x7 vs => dCA .i64 8 vs fun x8 vs => dCI .u64 vs fun x9 vs => dCA .i64 8 vs fun x10 vs => dCE vs (s_21_4 x1 x2 x3 x4 x5 x6 x7 x8 x9 x10 (fun y1 => K .ret [.bool y1]))
def q_21_4 : Piece env := ⟨⟨[.any, .ptr 0 0, .hole, .any, .ptr 1 0, .any, .any, .any, .any, .any, .any, .any, .any, .any, .any, .any, .any, .any, .any, .any, .any, .any, .any, .any, .any, .any, .any, .any, .any, .any, .any, .any, .any, .any, .any, .any, .any, .any, .any, .any, .any, .any, .any, .any, .any, .any, .any, .any, .any, .any, .any, .any, .any, .any, .any, .any, .any, .any, .any, .any, .any, .any, .any, .any, .any, .any, .any, .any, .any, .any, .any, .any, .any, .any, .any, .any, .any, .any, .any, .any, .any, .any, .any, .any, .any, .any, .any, .any, .any, .any, .any, .any, .any, .any, .any, .any, .any, .any, .any, .any, .any, .any, .any, .any, .any, .any, .any, .any, .any, .any, .any, .any, .any, .any, .any, .any, .any, .any, .any, .any, .any, .any, .any, .any, .any, .any, .any, .any, .any, .any, .any, .any, .any, .any, .any, .any, .any, .any, .any, .any, .any, .any, .any, .any, .any, .any, .any, .any, .any, .any, .any, .any, .any, .any, .any, .any, .any, .any, .any, .any, .any, .any], [], [(0, .cells 28 [.hole, .hole, .hole, .hole, .hole, .holeD 43, .hole, .hole]), (1, .cells 25 [.hole])], 2⟩, exitF none [] (some ⟨[.any, .any, .hole, .any, .any, .any, .any, .any, .any, .any, .any, .any, .any, .any, .any, .any, .any, .any, .any, .any, .any, .any, .any, .any, .any, .any, .any, .any, .any, .any, .any, .any, .any, .any, .any, .any, .any, .any, .any, .any, .any, .any, .any, .any, .any, .any, .any, .any, .any, .any, .any, .any, .any, .any, .any, .any, .any, .any, .any, .any, .any, .any, .any, .any, .any, .any, .any, .any, .any, .any, .any, .any, .any, .any, .any, .any, .any, .any, .any, .any, .any, .any, .any, .any, .any, .any, .any, .any, .any, .any, .any, .any, .any, .any, .any, .any, .any, .any, .any, .any, .any, .any, .any, .any, .any, .any, .any, .any, .any, .any, .any, .any, .any, .any, .any, .any, .any, .any, .any, .any, .any, .any, .any, .any, .any, .any, .any, .any, .any, .any, .any, .any, .any, .any, .any, .any, .any, .any, .any, .any, .any, .any, .any, .any, .any, .any, .any, .any, .any, .any, .any, .any, .any, .any, .any, .any, .any, .any, .any, .any, .any, .any], [], [], 0⟩), v_21_4⟩
noncomputable def B21 : Queue → (Y21 → Prop) → Prop :=
  fun x0 K ↦ br (x0.policy.kind != 5) (K false) (V55 x0.policy.a 100 10000 fun y2 ↦ br (!y2) (K false) (br (x0.policy.b != 0) (K false) (br (x0.policy.c != 0) (K false) (V55 x0.room 1 500 fun y3 ↦ br (!y3) (K false) (br ((↑x0.lists.length : Int) != 8) (K false) (br (x0.seed != 0) (K false) (br (x0.vars.getD 6 0 != 0) (K false) (s_21_4 false x0.policy.kind x0.policy.a x0.policy.b x0.policy.c x0.room x0.lists x0.vars x0.seed x0.vars K))))))))
theorem V21_ex : ∃ V : Queue → (Y21 → Prop) → Prop, V = B21 := ⟨_, rfl⟩
noncomputable def V21 : Queue → (Y21 → Prop) → Prop := Classical.choose V21_ex
theorem V21_eq : V21 = B21 := Classical.choose_spec V21_ex
theorem pook_21_7_21 : PiecesOk Try.prog env (ctxG env false [] R47 [] []) 21 b21 :=
  pieces_at (L := []) (S := []) (fun _ => rfl) (fun _ => rfl) (by kernel_rfl) (by kernel_rfl) (fun _ hq => by cases hq) (fun _ hq => by cases hq)
theorem book_21_7 : BodiesOk Try.prog env (ctxG env false [] R47 [] []) := bodies_okG (ks := []) (by kernel_rfl) (fun _ hq => by cases hq)
theorem stok_21_7 (k : Nat) (x1 : Bool) (x2 : Int) (x3 : Int) (x4 : Int) (x5 : Int) (x6 : Int) (x7 : Int) (x8 : (List (List Queued))) (x9 : (List Int)) (x10 : Int) (x11 : (List Int)) (K : Ex → List (SV env.T) → Prop) : l_21_7 (k + 1) x1 x2 x3 x4 x5 x6 x7 x8 x9 x10 x11 (fun y1 => K .ret [.bool y1]) (fun y1 y2 y3 y4 y5 y6 y7 y8 y9 y10 => K (.exit 0) [.bool y1, .int .i64 y2, .int .i64 y3, .int .i64 y4, .int .i64 y5, .int .i64 y6, .dat 43 y7, .arr .i64 8 y8, .int .u64 y9, .arr .i64 8 y10]) = vcCode env (ctxG env false [] R47 [] []) 2000 21 (loopAt b21 7) (insSt p_21_7.head [.bool x1, .int .i64 x2, .int .i64 x3, .int .i64 x4, .int .i64 x5, .int .i64 x6, .int .i64 x7, .dat 43 x8, .arr .i64 8 x9, .int .u64 x10, .arr .i64 8 x11]) (stepK p_21_7 (w_21_7 k) K) := by kernel_rfl
theorem wiok_21_7 (k : Nat) (vs : List (SV env.T)) (K : Ex → List (SV env.T) → Prop) (h : w_21_7 k vs K) : ∃ x1 : Bool, ∃ x2 : Int, ∃ x3 : Int, ∃ x4 : Int, ∃ x5 : Int, ∃ x6 : Int, ∃ x7 : Int, ∃ x8 : (List (List Queued)), ∃ x9 : (List Int), ∃ x10 : Int, ∃ x11 : (List Int), vs = [.bool x1, .int .i64 x2, .int .i64 x3, .int .i64 x4, .int .i64 x5, .int .i64 x6, .int .i64 x7, .dat 43 x8, .arr .i64 8 x9, .int .u64 x10, .arr .i64 8 x11] ∧ l_21_7 k x1 x2 x3 x4 x5 x6 x7 x8 x9 x10 x11 (fun y1 => K .ret [.bool y1]) (fun y1 y2 y3 y4 y5 y6 y7 y8 y9 y10 => K (.exit 0) [.bool y1, .int .i64 y2, .int .i64 y3, .int .i64 y4, .int .i64 y5, .int .i64 y6, .dat 43 y7, .arr .i64 8 y8, .int .u64 y9, .arr .i64 8 y10]) := by
  unfold w_21_7 at h
  replace h := dCB_spec h
  obtain ⟨x1, vs0, e0, h⟩ := h
  replace h := dCI_spec h
  obtain ⟨x2, vs1, e1, h⟩ := h
  replace h := dCI_spec h
  obtain ⟨x3, vs2, e2, h⟩ := h
  replace h := dCI_spec h
  obtain ⟨x4, vs3, e3, h⟩ := h
  replace h := dCI_spec h
  obtain ⟨x5, vs4, e4, h⟩ := h
  replace h := dCI_spec h
  obtain ⟨x6, vs5, e5, h⟩ := h
  replace h := dCI_spec h
  obtain ⟨x7, vs6, e6, h⟩ := h
  replace h := dCD_spec h
  obtain ⟨x8, vs7, e7, h⟩ := h
  replace h := dCA_spec h
  obtain ⟨x9, vs8, e8, h⟩ := h
  replace h := dCI_spec h
  obtain ⟨x10, vs9, e9, h⟩ := h
  replace h := dCA_spec h
  obtain ⟨x11, vs10, e10, h⟩ := h
  replace h := dCE_spec h
  obtain ⟨e, h⟩ := h
  exact ⟨x1, x2, x3, x4, x5, x6, x7, x8, x9, x10, x11, by rw [e0, e1, e2, e3, e4, e5, e6, e7, e8, e9, e10, e], h⟩
theorem zeok_21_7 (x1 : Bool) (x2 : Int) (x3 : Int) (x4 : Int) (x5 : Int) (x6 : Int) (x7 : Int) (x8 : (List (List Queued))) (x9 : (List Int)) (x10 : Int) (x11 : (List Int)) (K : Ex → List (SV env.T) → Prop) : l_21_7 0 x1 x2 x3 x4 x5 x6 x7 x8 x9 x10 x11 (fun y1 => K .ret [.bool y1]) (fun y1 y2 y3 y4 y5 y6 y7 y8 y9 y10 => K (.exit 0) [.bool y1, .int .i64 y2, .int .i64 y3, .int .i64 y4, .int .i64 y5, .int .i64 y6, .dat 43 y7, .arr .i64 8 y8, .int .u64 y9, .arr .i64 8 y10]) = False := by kernel_rfl
theorem ok_21_7 : PieceOk Try.prog env p_21_7 (.loop (loopAt b21 7)) := by
  refine loop_step (Wn := w_21_7) tab (ctxG_ok R47_ok false [] _ _) book_21_7 (pieces_sub pook_21_7_21 (by kernel_rfl)) rfl ?_ 2000 ?_
  · intro vs K h
    obtain ⟨x1, x2, x3, x4, x5, x6, x7, x8, x9, x10, x11, _, h⟩ := wiok_21_7 0 vs K h
    exact Eq.mp (zeok_21_7 x1 x2 x3 x4 x5 x6 x7 x8 x9 x10 x11 K) h
  · intro k vs K h
    obtain ⟨x1, x2, x3, x4, x5, x6, x7, x8, x9, x10, x11, rfl, h⟩ := wiok_21_7 (k + 1) vs K h
    exact Eq.mp (stok_21_7 k x1 x2 x3 x4 x5 x6 x7 x8 x9 x10 x11 K) h
theorem pooq_21_18_21 : PiecesOk Try.prog env (ctxG env false [] R47 [] []) 21 b21 :=
  pieces_at (L := []) (S := []) (fun _ => rfl) (fun _ => rfl) (by kernel_rfl) (by kernel_rfl) (fun _ hq => by cases hq) (fun _ hq => by cases hq)
theorem booq_21_18 : BodiesOk Try.prog env (ctxG env false [] R47 [] []) := bodies_okG (ks := []) (by kernel_rfl) (fun _ hq => by cases hq)
theorem stoq_21_18 (x1 : Bool) (x2 : Int) (x3 : Int) (x4 : Bool) (x5 : (List Int)) (x6 : Int) (x7 : Int) (x8 : Int) (x9 : Int) (x10 : Int) (x11 : Int) (x12 : (List (List Queued))) (x13 : (List Int)) (x14 : Int) (x15 : (List Int)) (K : Ex → List (SV env.T) → Prop) : s_21_18  x1 x2 x3 x4 x5 x6 x7 x8 x9 x10 x11 x12 x13 x14 x15 (fun y1 => K .ret [.bool y1]) (fun y1 y2 y3 y4 y5 y6 y7 y8 y9 y10 y11 y12 => K .normal [.bool y1, .arr .i64 8 y2, .int .i64 y3, .int .i64 y4, .int .i64 y5, .int .i64 y6, .int .i64 y7, .int .i64 y8, .dat 43 y9, .arr .i64 8 y10, .int .u64 y11, .arr .i64 8 y12]) = vcCode env (ctxG env false [] R47 [] []) 2000 21 (seqAt b21 18) (insSt q_21_18.head [.bool x1, .int .i64 x2, .int .i64 x3, .bool x4, .arr .i64 8 x5, .int .i64 x6, .int .i64 x7, .int .i64 x8, .int .i64 x9, .int .i64 x10, .int .i64 x11, .dat 43 x12, .arr .i64 8 x13, .int .u64 x14, .arr .i64 8 x15]) (outP env q_21_18 K) := by kernel_rfl
theorem wioq_21_18 (vs : List (SV env.T)) (K : Ex → List (SV env.T) → Prop) (h : v_21_18 vs K) : ∃ x1 : Bool, ∃ x2 : Int, ∃ x3 : Int, ∃ x4 : Bool, ∃ x5 : (List Int), ∃ x6 : Int, ∃ x7 : Int, ∃ x8 : Int, ∃ x9 : Int, ∃ x10 : Int, ∃ x11 : Int, ∃ x12 : (List (List Queued)), ∃ x13 : (List Int), ∃ x14 : Int, ∃ x15 : (List Int), vs = [.bool x1, .int .i64 x2, .int .i64 x3, .bool x4, .arr .i64 8 x5, .int .i64 x6, .int .i64 x7, .int .i64 x8, .int .i64 x9, .int .i64 x10, .int .i64 x11, .dat 43 x12, .arr .i64 8 x13, .int .u64 x14, .arr .i64 8 x15] ∧ s_21_18  x1 x2 x3 x4 x5 x6 x7 x8 x9 x10 x11 x12 x13 x14 x15 (fun y1 => K .ret [.bool y1]) (fun y1 y2 y3 y4 y5 y6 y7 y8 y9 y10 y11 y12 => K .normal [.bool y1, .arr .i64 8 y2, .int .i64 y3, .int .i64 y4, .int .i64 y5, .int .i64 y6, .int .i64 y7, .int .i64 y8, .dat 43 y9, .arr .i64 8 y10, .int .u64 y11, .arr .i64 8 y12]) := by
  unfold v_21_18 at h
  replace h := dCB_spec h
  obtain ⟨x1, vs0, e0, h⟩ := h
  replace h := dCI_spec h
  obtain ⟨x2, vs1, e1, h⟩ := h
  replace h := dCI_spec h
  obtain ⟨x3, vs2, e2, h⟩ := h
  replace h := dCB_spec h
  obtain ⟨x4, vs3, e3, h⟩ := h
  replace h := dCA_spec h
  obtain ⟨x5, vs4, e4, h⟩ := h
  replace h := dCI_spec h
  obtain ⟨x6, vs5, e5, h⟩ := h
  replace h := dCI_spec h
  obtain ⟨x7, vs6, e6, h⟩ := h
  replace h := dCI_spec h
  obtain ⟨x8, vs7, e7, h⟩ := h
  replace h := dCI_spec h
  obtain ⟨x9, vs8, e8, h⟩ := h
  replace h := dCI_spec h
  obtain ⟨x10, vs9, e9, h⟩ := h
  replace h := dCI_spec h
  obtain ⟨x11, vs10, e10, h⟩ := h
  replace h := dCD_spec h
  obtain ⟨x12, vs11, e11, h⟩ := h
  replace h := dCA_spec h
  obtain ⟨x13, vs12, e12, h⟩ := h
  replace h := dCI_spec h
  obtain ⟨x14, vs13, e13, h⟩ := h
  replace h := dCA_spec h
  obtain ⟨x15, vs14, e14, h⟩ := h
  replace h := dCE_spec h
  obtain ⟨e, h⟩ := h
  exact ⟨x1, x2, x3, x4, x5, x6, x7, x8, x9, x10, x11, x12, x13, x14, x15, by rw [e0, e1, e2, e3, e4, e5, e6, e7, e8, e9, e10, e11, e12, e13, e14, e], h⟩
theorem oq_21_18 : PieceOk Try.prog env q_21_18 (seqAt b21 18) := by
  refine seq_step tab (ctxG_ok R47_ok false [] _ _) booq_21_18 (pieces_subS pooq_21_18_21 (by kernel_rfl)) 2000 ?_
  intro vs K h
  obtain ⟨x1, x2, x3, x4, x5, x6, x7, x8, x9, x10, x11, x12, x13, x14, x15, rfl, h⟩ := wioq_21_18 vs K h
  exact Eq.mp (stoq_21_18 x1 x2 x3 x4 x5 x6 x7 x8 x9 x10 x11 x12 x13 x14 x15 K) h
theorem pooq_21_17_21 : PiecesOk Try.prog env (ctxG env false [] R47 [] [(21, [(18, q_21_18)])]) 21 b21 :=
  pieces_at (L := []) (S := [(18, q_21_18)]) (fun _ => rfl) (fun _ => rfl) (by kernel_rfl) (by kernel_rfl) (fun _ hq => by cases hq) (List.forall_mem_cons.2 ⟨fun _ => oq_21_18, (fun _ hq => by cases hq)⟩)
theorem booq_21_17 : BodiesOk Try.prog env (ctxG env false [] R47 [] [(21, [(18, q_21_18)])]) := bodies_okG (ks := [21]) (by kernel_rfl) (List.forall_mem_cons.2 ⟨body_at (fn := f21) (body := b21) rfl hb21 pooq_21_17_21, (fun _ hq => by cases hq)⟩)
theorem stoq_21_17 (x1 : Bool) (x2 : Int) (x3 : Int) (x4 : (List Int)) (x5 : Int) (x6 : Int) (x7 : Int) (x8 : Int) (x9 : Int) (x10 : Int) (x11 : (List (List Queued))) (x12 : (List Int)) (x13 : Int) (x14 : (List Int)) (K : Ex → List (SV env.T) → Prop) : s_21_17  x1 x2 x3 x4 x5 x6 x7 x8 x9 x10 x11 x12 x13 x14 (fun y1 => K .ret [.bool y1]) (fun y1 y2 y3 y4 y5 y6 y7 y8 y9 y10 y11 y12 => K .normal [.bool y1, .arr .i64 8 y2, .int .i64 y3, .int .i64 y4, .int .i64 y5, .int .i64 y6, .int .i64 y7, .int .i64 y8, .dat 43 y9, .arr .i64 8 y10, .int .u64 y11, .arr .i64 8 y12]) = vcCode env (ctxG env false [] R47 [] [(21, [(18, q_21_18)])]) 2000 21 (seqAt b21 17) (insSt q_21_17.head [.bool x1, .int .i64 x2, .int .i64 x3, .arr .i64 8 x4, .int .i64 x5, .int .i64 x6, .int .i64 x7, .int .i64 x8, .int .i64 x9, .int .i64 x10, .dat 43 x11, .arr .i64 8 x12, .int .u64 x13, .arr .i64 8 x14]) (outP env q_21_17 K) := by kernel_rfl
theorem wioq_21_17 (vs : List (SV env.T)) (K : Ex → List (SV env.T) → Prop) (h : v_21_17 vs K) : ∃ x1 : Bool, ∃ x2 : Int, ∃ x3 : Int, ∃ x4 : (List Int), ∃ x5 : Int, ∃ x6 : Int, ∃ x7 : Int, ∃ x8 : Int, ∃ x9 : Int, ∃ x10 : Int, ∃ x11 : (List (List Queued)), ∃ x12 : (List Int), ∃ x13 : Int, ∃ x14 : (List Int), vs = [.bool x1, .int .i64 x2, .int .i64 x3, .arr .i64 8 x4, .int .i64 x5, .int .i64 x6, .int .i64 x7, .int .i64 x8, .int .i64 x9, .int .i64 x10, .dat 43 x11, .arr .i64 8 x12, .int .u64 x13, .arr .i64 8 x14] ∧ s_21_17  x1 x2 x3 x4 x5 x6 x7 x8 x9 x10 x11 x12 x13 x14 (fun y1 => K .ret [.bool y1]) (fun y1 y2 y3 y4 y5 y6 y7 y8 y9 y10 y11 y12 => K .normal [.bool y1, .arr .i64 8 y2, .int .i64 y3, .int .i64 y4, .int .i64 y5, .int .i64 y6, .int .i64 y7, .int .i64 y8, .dat 43 y9, .arr .i64 8 y10, .int .u64 y11, .arr .i64 8 y12]) := by
  unfold v_21_17 at h
  replace h := dCB_spec h
  obtain ⟨x1, vs0, e0, h⟩ := h
  replace h := dCI_spec h
  obtain ⟨x2, vs1, e1, h⟩ := h
  replace h := dCI_spec h
  obtain ⟨x3, vs2, e2, h⟩ := h
  replace h := dCA_spec h
  obtain ⟨x4, vs3, e3, h⟩ := h
  replace h := dCI_spec h
  obtain ⟨x5, vs4, e4, h⟩ := h
  replace h := dCI_spec h
  obtain ⟨x6, vs5, e5, h⟩ := h
  replace h := dCI_spec h
  obtain ⟨x7, vs6, e6, h⟩ := h
  replace h := dCI_spec h
  obtain ⟨x8, vs7, e7, h⟩ := h
  replace h := dCI_spec h
  obtain ⟨x9, vs8, e8, h⟩ := h
  replace h := dCI_spec h
  obtain ⟨x10, vs9, e9, h⟩ := h
  replace h := dCD_spec h
  obtain ⟨x11, vs10, e10, h⟩ := h
  replace h := dCA_spec h
  obtain ⟨x12, vs11, e11, h⟩ := h
  replace h := dCI_spec h
  obtain ⟨x13, vs12, e12, h⟩ := h
  replace h := dCA_spec h
  obtain ⟨x14, vs13, e13, h⟩ := h
  replace h := dCE_spec h
  obtain ⟨e, h⟩ := h
  exact ⟨x1, x2, x3, x4, x5, x6, x7, x8, x9, x10, x11, x12, x13, x14, by rw [e0, e1, e2, e3, e4, e5, e6, e7, e8, e9, e10, e11, e12, e13, e], h⟩
theorem oq_21_17 : PieceOk Try.prog env q_21_17 (seqAt b21 17) := by
  refine seq_step tab (ctxG_ok R47_ok false [] _ _) booq_21_17 (pieces_subS pooq_21_17_21 (by kernel_rfl)) 2000 ?_
  intro vs K h
  obtain ⟨x1, x2, x3, x4, x5, x6, x7, x8, x9, x10, x11, x12, x13, x14, rfl, h⟩ := wioq_21_17 vs K h
  exact Eq.mp (stoq_21_17 x1 x2 x3 x4 x5 x6 x7 x8 x9 x10 x11 x12 x13 x14 K) h
theorem pook_21_13_21 : PiecesOk Try.prog env (ctxG env false [] R47 [] [(21, [(18, q_21_18), (17, q_21_17)])]) 21 b21 :=
  pieces_at (L := []) (S := [(18, q_21_18), (17, q_21_17)]) (fun _ => rfl) (fun _ => rfl) (by kernel_rfl) (by kernel_rfl) (fun _ hq => by cases hq) (List.forall_mem_cons.2 ⟨fun _ => oq_21_18, (List.forall_mem_cons.2 ⟨fun _ => oq_21_17, (fun _ hq => by cases hq)⟩)⟩)
theorem book_21_13 : BodiesOk Try.prog env (ctxG env false [] R47 [] [(21, [(18, q_21_18), (17, q_21_17)])]) := bodies_okG (ks := [21]) (by kernel_rfl) (List.forall_mem_cons.2 ⟨body_at (fn := f21) (body := b21) rfl hb21 pook_21_13_21, (fun _ hq => by cases hq)⟩)
theorem stok_21_13 (k : Nat) (x1 : Bool) (x2 : (List Int)) (x3 : Int) (x4 : Int) (x5 : Int) (x6 : Int) (x7 : Int) (x8 : Int) (x9 : (List (List Queued))) (x10 : (List Int)) (x11 : Int) (x12 : (List Int)) (K : Ex → List (SV env.T) → Prop) : l_21_13 (k + 1) x1 x2 x3 x4 x5 x6 x7 x8 x9 x10 x11 x12 (fun y1 => K .ret [.bool y1]) (fun y1 y2 y3 y4 y5 y6 y7 y8 y9 => K (.exit 2) [.bool y1, .int .i64 y2, .int .i64 y3, .int .i64 y4, .int .i64 y5, .int .i64 y6, .dat 43 y7, .arr .i64 8 y8, .int .u64 y9]) = vcCode env (ctxG env false [] R47 [] [(21, [(18, q_21_18), (17, q_21_17)])]) 2000 21 (loopAt b21 13) (insSt p_21_13.head [.bool x1, .arr .i64 8 x2, .int .i64 x3, .int .i64 x4, .int .i64 x5, .int .i64 x6, .int .i64 x7, .int .i64 x8, .dat 43 x9, .arr .i64 8 x10, .int .u64 x11, .arr .i64 8 x12]) (stepK p_21_13 (w_21_13 k) K) := by kernel_rfl
theorem wiok_21_13 (k : Nat) (vs : List (SV env.T)) (K : Ex → List (SV env.T) → Prop) (h : w_21_13 k vs K) : ∃ x1 : Bool, ∃ x2 : (List Int), ∃ x3 : Int, ∃ x4 : Int, ∃ x5 : Int, ∃ x6 : Int, ∃ x7 : Int, ∃ x8 : Int, ∃ x9 : (List (List Queued)), ∃ x10 : (List Int), ∃ x11 : Int, ∃ x12 : (List Int), vs = [.bool x1, .arr .i64 8 x2, .int .i64 x3, .int .i64 x4, .int .i64 x5, .int .i64 x6, .int .i64 x7, .int .i64 x8, .dat 43 x9, .arr .i64 8 x10, .int .u64 x11, .arr .i64 8 x12] ∧ l_21_13 k x1 x2 x3 x4 x5 x6 x7 x8 x9 x10 x11 x12 (fun y1 => K .ret [.bool y1]) (fun y1 y2 y3 y4 y5 y6 y7 y8 y9 => K (.exit 2) [.bool y1, .int .i64 y2, .int .i64 y3, .int .i64 y4, .int .i64 y5, .int .i64 y6, .dat 43 y7, .arr .i64 8 y8, .int .u64 y9]) := by
  unfold w_21_13 at h
  replace h := dCB_spec h
  obtain ⟨x1, vs0, e0, h⟩ := h
  replace h := dCA_spec h
  obtain ⟨x2, vs1, e1, h⟩ := h
  replace h := dCI_spec h
  obtain ⟨x3, vs2, e2, h⟩ := h
  replace h := dCI_spec h
  obtain ⟨x4, vs3, e3, h⟩ := h
  replace h := dCI_spec h
  obtain ⟨x5, vs4, e4, h⟩ := h
  replace h := dCI_spec h
  obtain ⟨x6, vs5, e5, h⟩ := h
  replace h := dCI_spec h
  obtain ⟨x7, vs6, e6, h⟩ := h
  replace h := dCI_spec h
  obtain ⟨x8, vs7, e7, h⟩ := h
  replace h := dCD_spec h
  obtain ⟨x9, vs8, e8, h⟩ := h
  replace h := dCA_spec h
  obtain ⟨x10, vs9, e9, h⟩ := h
  replace h := dCI_spec h
  obtain ⟨x11, vs10, e10, h⟩ := h
  replace h := dCA_spec h
  obtain ⟨x12, vs11, e11, h⟩ := h
  replace h := dCE_spec h
  obtain ⟨e, h⟩ := h
  exact ⟨x1, x2, x3, x4, x5, x6, x7, x8, x9, x10, x11, x12, by rw [e0, e1, e2, e3, e4, e5, e6, e7, e8, e9, e10, e11, e], h⟩
theorem zeok_21_13 (x1 : Bool) (x2 : (List Int)) (x3 : Int) (x4 : Int) (x5 : Int) (x6 : Int) (x7 : Int) (x8 : Int) (x9 : (List (List Queued))) (x10 : (List Int)) (x11 : Int) (x12 : (List Int)) (K : Ex → List (SV env.T) → Prop) : l_21_13 0 x1 x2 x3 x4 x5 x6 x7 x8 x9 x10 x11 x12 (fun y1 => K .ret [.bool y1]) (fun y1 y2 y3 y4 y5 y6 y7 y8 y9 => K (.exit 2) [.bool y1, .int .i64 y2, .int .i64 y3, .int .i64 y4, .int .i64 y5, .int .i64 y6, .dat 43 y7, .arr .i64 8 y8, .int .u64 y9]) = False := by kernel_rfl
theorem ok_21_13 : PieceOk Try.prog env p_21_13 (.loop (loopAt b21 13)) := by
  refine loop_step (Wn := w_21_13) tab (ctxG_ok R47_ok false [] _ _) book_21_13 (pieces_sub pook_21_13_21 (by kernel_rfl)) rfl ?_ 2000 ?_
  · intro vs K h
    obtain ⟨x1, x2, x3, x4, x5, x6, x7, x8, x9, x10, x11, x12, _, h⟩ := wiok_21_13 0 vs K h
    exact Eq.mp (zeok_21_13 x1 x2 x3 x4 x5 x6 x7 x8 x9 x10 x11 x12 K) h
  · intro k vs K h
    obtain ⟨x1, x2, x3, x4, x5, x6, x7, x8, x9, x10, x11, x12, rfl, h⟩ := wiok_21_13 (k + 1) vs K h
    exact Eq.mp (stok_21_13 k x1 x2 x3 x4 x5 x6 x7 x8 x9 x10 x11 x12 K) h
theorem pooq_21_6_21 : PiecesOk Try.prog env (ctxG env false [] R47 [(21, [(7, p_21_7), (13, p_21_13)])] [(21, [(18, q_21_18), (17, q_21_17)])]) 21 b21 :=
  pieces_at (L := [(7, p_21_7), (13, p_21_13)]) (S := [(18, q_21_18), (17, q_21_17)]) (fun _ => rfl) (fun _ => rfl) (by kernel_rfl) (by kernel_rfl) (List.forall_mem_cons.2 ⟨fun _ => ok_21_7, (List.forall_mem_cons.2 ⟨fun _ => ok_21_13, (fun _ hq => by cases hq)⟩)⟩) (List.forall_mem_cons.2 ⟨fun _ => oq_21_18, (List.forall_mem_cons.2 ⟨fun _ => oq_21_17, (fun _ hq => by cases hq)⟩)⟩)
theorem booq_21_6 : BodiesOk Try.prog env (ctxG env false [] R47 [(21, [(7, p_21_7), (13, p_21_13)])] [(21, [(18, q_21_18), (17, q_21_17)])]) := bodies_okG (ks := [21]) (by kernel_rfl) (List.forall_mem_cons.2 ⟨body_at (fn := f21) (body := b21) rfl hb21 pooq_21_6_21, (fun _ hq => by cases hq)⟩)
theorem stoq_21_6 (x1 : Bool) (x2 : Int) (x3 : Int) (x4 : Int) (x5 : Int) (x6 : Int) (x7 : (List (List Queued))) (x8 : (List Int)) (x9 : Int) (x10 : (List Int)) (K : Ex → List (SV env.T) → Prop) : s_21_6  x1 x2 x3 x4 x5 x6 x7 x8 x9 x10 (fun y1 => K .ret [.bool y1]) = vcCode env (ctxG env false [] R47 [(21, [(7, p_21_7), (13, p_21_13)])] [(21, [(18, q_21_18), (17, q_21_17)])]) 2000 21 (seqAt b21 6) (insSt q_21_6.head [.bool x1, .int .i64 x2, .int .i64 x3, .int .i64 x4, .int .i64 x5, .int .i64 x6, .dat 43 x7, .arr .i64 8 x8, .int .u64 x9, .arr .i64 8 x10]) (outP env q_21_6 K) := by kernel_rfl
theorem wioq_21_6 (vs : List (SV env.T)) (K : Ex → List (SV env.T) → Prop) (h : v_21_6 vs K) : ∃ x1 : Bool, ∃ x2 : Int, ∃ x3 : Int, ∃ x4 : Int, ∃ x5 : Int, ∃ x6 : Int, ∃ x7 : (List (List Queued)), ∃ x8 : (List Int), ∃ x9 : Int, ∃ x10 : (List Int), vs = [.bool x1, .int .i64 x2, .int .i64 x3, .int .i64 x4, .int .i64 x5, .int .i64 x6, .dat 43 x7, .arr .i64 8 x8, .int .u64 x9, .arr .i64 8 x10] ∧ s_21_6  x1 x2 x3 x4 x5 x6 x7 x8 x9 x10 (fun y1 => K .ret [.bool y1]) := by
  unfold v_21_6 at h
  replace h := dCB_spec h
  obtain ⟨x1, vs0, e0, h⟩ := h
  replace h := dCI_spec h
  obtain ⟨x2, vs1, e1, h⟩ := h
  replace h := dCI_spec h
  obtain ⟨x3, vs2, e2, h⟩ := h
  replace h := dCI_spec h
  obtain ⟨x4, vs3, e3, h⟩ := h
  replace h := dCI_spec h
  obtain ⟨x5, vs4, e4, h⟩ := h
  replace h := dCI_spec h
  obtain ⟨x6, vs5, e5, h⟩ := h
  replace h := dCD_spec h
  obtain ⟨x7, vs6, e6, h⟩ := h
  replace h := dCA_spec h
  obtain ⟨x8, vs7, e7, h⟩ := h
  replace h := dCI_spec h
  obtain ⟨x9, vs8, e8, h⟩ := h
  replace h := dCA_spec h
  obtain ⟨x10, vs9, e9, h⟩ := h
  replace h := dCE_spec h
  obtain ⟨e, h⟩ := h
  exact ⟨x1, x2, x3, x4, x5, x6, x7, x8, x9, x10, by rw [e0, e1, e2, e3, e4, e5, e6, e7, e8, e9, e], h⟩
theorem oq_21_6 : PieceOk Try.prog env q_21_6 (seqAt b21 6) := by
  refine seq_step tab (ctxG_ok R47_ok false [] _ _) booq_21_6 (pieces_subS pooq_21_6_21 (by kernel_rfl)) 2000 ?_
  intro vs K h
  obtain ⟨x1, x2, x3, x4, x5, x6, x7, x8, x9, x10, rfl, h⟩ := wioq_21_6 vs K h
  exact Eq.mp (stoq_21_6 x1 x2 x3 x4 x5 x6 x7 x8 x9 x10 K) h
theorem pooq_21_4_21 : PiecesOk Try.prog env (ctxG env false [] R47 [(21, [(7, p_21_7), (13, p_21_13)])] [(21, [(18, q_21_18), (17, q_21_17), (6, q_21_6)])]) 21 b21 :=
  pieces_at (L := [(7, p_21_7), (13, p_21_13)]) (S := [(18, q_21_18), (17, q_21_17), (6, q_21_6)]) (fun _ => rfl) (fun _ => rfl) (by kernel_rfl) (by kernel_rfl) (List.forall_mem_cons.2 ⟨fun _ => ok_21_7, (List.forall_mem_cons.2 ⟨fun _ => ok_21_13, (fun _ hq => by cases hq)⟩)⟩) (List.forall_mem_cons.2 ⟨fun _ => oq_21_18, (List.forall_mem_cons.2 ⟨fun _ => oq_21_17, (List.forall_mem_cons.2 ⟨fun _ => oq_21_6, (fun _ hq => by cases hq)⟩)⟩)⟩)
theorem booq_21_4 : BodiesOk Try.prog env (ctxG env false [] R47 [(21, [(7, p_21_7), (13, p_21_13)])] [(21, [(18, q_21_18), (17, q_21_17), (6, q_21_6)])]) := bodies_okG (ks := [21]) (by kernel_rfl) (List.forall_mem_cons.2 ⟨body_at (fn := f21) (body := b21) rfl hb21 pooq_21_4_21, (fun _ hq => by cases hq)⟩)
theorem stoq_21_4 (x1 : Bool) (x2 : Int) (x3 : Int) (x4 : Int) (x5 : Int) (x6 : Int) (x7 : (List (List Queued))) (x8 : (List Int)) (x9 : Int) (x10 : (List Int)) (K : Ex → List (SV env.T) → Prop) : s_21_4  x1 x2 x3 x4 x5 x6 x7 x8 x9 x10 (fun y1 => K .ret [.bool y1]) = vcCode env (ctxG env false [] R47 [(21, [(7, p_21_7), (13, p_21_13)])] [(21, [(18, q_21_18), (17, q_21_17), (6, q_21_6)])]) 2000 21 (seqAt b21 4) (insSt q_21_4.head [.bool x1, .int .i64 x2, .int .i64 x3, .int .i64 x4, .int .i64 x5, .int .i64 x6, .dat 43 x7, .arr .i64 8 x8, .int .u64 x9, .arr .i64 8 x10]) (outP env q_21_4 K) := by kernel_rfl
theorem wioq_21_4 (vs : List (SV env.T)) (K : Ex → List (SV env.T) → Prop) (h : v_21_4 vs K) : ∃ x1 : Bool, ∃ x2 : Int, ∃ x3 : Int, ∃ x4 : Int, ∃ x5 : Int, ∃ x6 : Int, ∃ x7 : (List (List Queued)), ∃ x8 : (List Int), ∃ x9 : Int, ∃ x10 : (List Int), vs = [.bool x1, .int .i64 x2, .int .i64 x3, .int .i64 x4, .int .i64 x5, .int .i64 x6, .dat 43 x7, .arr .i64 8 x8, .int .u64 x9, .arr .i64 8 x10] ∧ s_21_4  x1 x2 x3 x4 x5 x6 x7 x8 x9 x10 (fun y1 => K .ret [.bool y1]) := by
  unfold v_21_4 at h
  replace h := dCB_spec h
  obtain ⟨x1, vs0, e0, h⟩ := h
  replace h := dCI_spec h
  obtain ⟨x2, vs1, e1, h⟩ := h
  replace h := dCI_spec h
  obtain ⟨x3, vs2, e2, h⟩ := h
  replace h := dCI_spec h
  obtain ⟨x4, vs3, e3, h⟩ := h
  replace h := dCI_spec h
  obtain ⟨x5, vs4, e4, h⟩ := h
  replace h := dCI_spec h
  obtain ⟨x6, vs5, e5, h⟩ := h
  replace h := dCD_spec h
  obtain ⟨x7, vs6, e6, h⟩ := h
  replace h := dCA_spec h
  obtain ⟨x8, vs7, e7, h⟩ := h
  replace h := dCI_spec h
  obtain ⟨x9, vs8, e8, h⟩ := h
  replace h := dCA_spec h
  obtain ⟨x10, vs9, e9, h⟩ := h
  replace h := dCE_spec h
  obtain ⟨e, h⟩ := h
  exact ⟨x1, x2, x3, x4, x5, x6, x7, x8, x9, x10, by rw [e0, e1, e2, e3, e4, e5, e6, e7, e8, e9, e], h⟩
theorem oq_21_4 : PieceOk Try.prog env q_21_4 (seqAt b21 4) := by
  refine seq_step tab (ctxG_ok R47_ok false [] _ _) booq_21_4 (pieces_subS pooq_21_4_21 (by kernel_rfl)) 2000 ?_
  intro vs K h
  obtain ⟨x1, x2, x3, x4, x5, x6, x7, x8, x9, x10, rfl, h⟩ := wioq_21_4 vs K h
  exact Eq.mp (stoq_21_4 x1 x2 x3 x4 x5 x6 x7 x8 x9 x10 K) h
theorem po_21_21 : PiecesOk Try.prog env (ctxG env false [] R47 [(21, [(7, p_21_7), (13, p_21_13)])] [(21, [(18, q_21_18), (17, q_21_17), (6, q_21_6), (4, q_21_4)])]) 21 b21 :=
  pieces_at (L := [(7, p_21_7), (13, p_21_13)]) (S := [(18, q_21_18), (17, q_21_17), (6, q_21_6), (4, q_21_4)]) (fun _ => rfl) (fun _ => rfl) (by kernel_rfl) (by kernel_rfl) (List.forall_mem_cons.2 ⟨fun _ => ok_21_7, (List.forall_mem_cons.2 ⟨fun _ => ok_21_13, (fun _ hq => by cases hq)⟩)⟩) (List.forall_mem_cons.2 ⟨fun _ => oq_21_18, (List.forall_mem_cons.2 ⟨fun _ => oq_21_17, (List.forall_mem_cons.2 ⟨fun _ => oq_21_6, (List.forall_mem_cons.2 ⟨fun _ => oq_21_4, (fun _ hq => by cases hq)⟩)⟩)⟩)⟩)
theorem bo_21 : BodiesOk Try.prog env (ctxG env false [] R47 [(21, [(7, p_21_7), (13, p_21_13)])] [(21, [(18, q_21_18), (17, q_21_17), (6, q_21_6), (4, q_21_4)])]) := bodies_okG (ks := [21]) (by kernel_rfl) (List.forall_mem_cons.2 ⟨body_at (fn := f21) (body := b21) rfl hb21 po_21_21, (fun _ hq => by cases hq)⟩)
theorem eq_21 (x0 : Queue) (K : Y21 → Prop) : vcCode env (ctxG env false [] R47 [(21, [(7, p_21_7), (13, p_21_13)])] [(21, [(18, q_21_18), (17, q_21_17), (6, q_21_6), (4, q_21_4)])]) 2000 21 b21 (entry env f21 [v28 x0]) (finR env f21 decR21 K) = B21 x0 K := by kernel_rfl
noncomputable def rule21 : Nat × Rule env := (21, ruleF env decA21 encR21 fun x => V21 x)
theorem r21 : RuleOk Try.prog env 21 rule21.2 :=
  rule_fun tab (ctxG_ok R47_ok false [] _ _) bo_21 (f := 21) (fn := f21) rfl hb21 po_21_21 2000 encA21 hA21 hR21 hD21 (fun _ => of_decide_eq_true (by kernel_rfl)) (fun x K => (eq_21 x K).trans (by rw [V21_eq]))
noncomputable def R21 : List (Nat × Rule env) := rule21 :: R47
theorem R21_ok : AllOk Try.prog env R21 := ⟨r21, R47_ok⟩
end Go.Vg.Ytgekegoflaichaa
