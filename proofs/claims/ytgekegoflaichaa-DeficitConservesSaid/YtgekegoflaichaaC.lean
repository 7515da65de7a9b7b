/-
  Walked functions of the program: predicate transformers and their rules. Written by a program of this work (gen.py, VgGen.lean) out of the executor's own reduction; no condition.
-/
import Derived.Test.YtgekegoflaichaaA
set_option maxRecDepth 100000
set_option maxHeartbeats 4000000
namespace Go.Vg.Ytgekegoflaichaa
open Go.Vg Go.Proofs
noncomputable def f71 : Func := Try.f71
noncomputable def b71 : Code := (Try.f71.body).getD .skip
theorem hb71 : f71.body = some b71 := by kernel_rfl
noncomputable def f46 : Func := Try.f46
noncomputable def b46 : Code := (Try.f46.body).getD .skip
theorem hb46 : f46.body = some b46 := by kernel_rfl
-- 51 queuelab/deficit.pack
noncomputable def f51 : Func := Try.f51
noncomputable def b51 : Code := (Try.f51.body).getD .skip
abbrev X51 := Queue × (List Int)
def encA51 (x : X51) : List (SV env.T) := [v28 x.1, v25 x.2]
def decA51 (l : List (SV env.T)) : Option X51 := match l with
  | [s0, s1] => match u28 s0, u25 s1 with
    | some x0, some x1 => some (x0, x1)
    | _, _ => none
  | _ => none
theorem hA51 (l : List (SV env.T)) (x : X51) (h : decA51 l = some x) : WkA env.has l (encA51 x) := by
  unfold decA51 at h; split at h
  · split at h
    · rename_i h0 h1; cases h; exact (.cons (u28_wk h0) (.cons (u25_wk h1) .nil))
    · cases h
  · cases h
abbrev Y51 := Queue
def encR51 (x : Y51) : List (SV env.T) := [v28 x]
def decR51 (l : List (SV env.T)) : Option Y51 := match l with
  | [s0] => match u28 s0 with
    | some x0 => some (x0)
    | _ => none
  | _ => none
theorem hR51 (l : List (SV env.T)) (x : Y51) (h : decR51 l = some x) : WkA env.has l (encR51 x) := by
  unfold decR51 at h; split at h
  · split at h
    · rename_i h0; cases h; exact (.cons (u28_wk h0) .nil)
    · cases h
  · cases h
theorem hD51 (y : Y51) : isDataV (tupV (encR51 y)) = true := rfl
theorem hb51 : f51.body = some b51 := by kernel_rfl
def l_51_2 : Nat → Int → Int → Int → Int → Int → Int → (List (List Queued)) → (List Int) → Int → (List Int) → Int → Int → Int → Int → Int → (List Int) → Int → (Int → Int → Int → Int → Int → (List (List Queued)) → (List Int) → Int → Int → Int → Int → Int → Int → (List Int) → Int → Prop) → Prop
  | 0 => fun _ _ _ _ _ _ _ _ _ _ _ _ _ _ _ _ _ _ => False
  | k + 1 => fun x1 x2 x3 x4 x5 x6 x7 x8 x9 x10 x11 x12 x13 x14 x15 x16 x17 k0 ↦ br (decide (x1 < 4)) (br (inb (IntKind.i64.wrap (2 * x1)) (↑8 : Int)) (br (inb (IntKind.i64.wrap (IntKind.i64.wrap (2 * x1) + 1)) (↑8 : Int)) (br (inb (IntKind.i64.wrap (2 + x1)) (↑8 : Int)) (l_51_2 k (IntKind.i64.wrap (x1 + 1)) x2 x3 x4 x5 x6 x7 (x8.set (IntKind.i64.wrap (2 + x1)).toNat (IntKind.i64.wrap (IntKind.i64.wrap (32768 * x10.getD (IntKind.i64.wrap (2 * x1)).toNat 0) + x10.getD (IntKind.i64.wrap (IntKind.i64.wrap (2 * x1) + 1)).toNat 0))) x9 x10 x11 x12 x13 x14 x15 x16 x17 k0) False) False) False) (k0 x2 x3 x4 x5 x6 x7 x8 x9 x11 x12 x13 x14 x15 x16 x17)
def w_51_2 (k : Nat) (vs : List (SV env.T)) (K : Ex → List (SV env.T) → Prop) : Prop :=
  dCI .i64 vs fun x1 vs => dCI .i64 vs fun x2 vs => dCI .i64 vs fun x3 vs => dCI .i64 vs fun x4 vs => dCI .i64 vs fun x5 vs => dCI .i64 vs fun x6 vs => dCD 43 vs fun x7 vs => dCA .i64 8 vs fun x8 vs => dCI .u64 vs fun x9 vs => dCA .i64 8 vs fun x10 vs => dCI .i64 vs fun x11 vs => dCI .i64 vs fun x12 vs => dCI .i64 vs fun x13 vs => dCI .i64 vs fun x14 vs => dCI .i64 vs fun x15 vs => dCN vs fun vs => dCA .i64 8 vs fun x16 vs => dCI .u64 vs fun x17 vs => dCE vs (l_51_2 k x1 x2 x3 x4 x5 x6 x7 x8 x9 x10 x11 x12 x13 x14 x15 x16 x17 (fun y1 y2 y3 y4 y5 y6 y7 y8 y9 y10 y11 y12 y13 y14 y15 => K (.exit 0) [.int .i64 y1, .int .i64 y2, .int .i64 y3, .int .i64 y4, .int .i64 y5, .dat 43 y6, .arr .i64 8 y7, .int .u64 y8, .int .i64 y9, .int .i64 y10, .int .i64 y11, .int .i64 y12, .int .i64 y13, .nils, .arr .i64 8 y14, .int .u64 y15]))
def p_51_2 : Piece env := ⟨⟨[.any, .any, .ptr 0 0, .ptr 1 0, .ptr 2 0, .any, .hole, .any, .any, .any, .any, .any, .any, .any, .any, .any, .any, .any, .any, .any, .any, .any, .any, .any, .any, .any], [], [(0, .cells 28 [.hole, .hole, .hole, .hole, .hole, .holeD 43, .hole, .hole]), (1, .cells 25 [.hole]), (2, .cells 28 [.hole, .hole, .hole, .hole, .hole, .hole, .hole, .hole])], 3⟩, exitF none [(0, ⟨[.any, .any, .ptr 0 0, .any, .ptr 1 0, .any, .any, .any, .any, .any, .any, .any, .any, .any, .any, .any, .any, .any, .any, .any, .any, .any, .any, .any, .any, .any], [], [(0, .cells 28 [.hole, .hole, .hole, .hole, .hole, .holeD 43, .hole, .hole]), (1, .cells 28 [.hole, .hole, .hole, .hole, .hole, .hole, .hole, .hole])], 2⟩)] none, fun vs K => ∃ k, w_51_2 k vs K⟩
noncomputable def B51 : Queue → (List Int) → (Y51 → Prop) → Prop :=
  fun x0 x1 K ↦ ∃ k3, l_51_2 k3 0 x0.policy.kind x0.policy.a x0.policy.b x0.policy.c x0.room x0.lists x0.vars x0.seed x1 0 0 0 0 0 (List.replicate 8 0) 0 fun y4 y5 y6 y7 y8 y9 y10 y11 _ _ _ _ _ _ _ ↦ K (Queue.mk (Policy.mk y4 y5 y6 y7) y8 y9 y10 y11)
theorem V51_ex : ∃ V : Queue → (List Int) → (Y51 → Prop) → Prop, V = B51 := ⟨_, rfl⟩
noncomputable def V51 : Queue → (List Int) → (Y51 → Prop) → Prop := Classical.choose V51_ex
theorem V51_eq : V51 = B51 := Classical.choose_spec V51_ex
theorem pook_51_2_51 : PiecesOk Try.prog env (ctxG env false [] R21 [] []) 51 b51 :=
  pieces_at (L := []) (S := []) (fun _ => rfl) (fun _ => rfl) (by kernel_rfl) (by kernel_rfl) (fun _ hq => by cases hq) (fun _ hq => by cases hq)
theorem book_51_2 : BodiesOk Try.prog env (ctxG env false [] R21 [] []) := bodies_okG (ks := []) (by kernel_rfl) (fun _ hq => by cases hq)
theorem stok_51_2 (k : Nat) (x1 : Int) (x2 : Int) (x3 : Int) (x4 : Int) (x5 : Int) (x6 : Int) (x7 : (List (List Queued))) (x8 : (List Int)) (x9 : Int) (x10 : (List Int)) (x11 : Int) (x12 : Int) (x13 : Int) (x14 : Int) (x15 : Int) (x16 : (List Int)) (x17 : Int) (K : Ex → List (SV env.T) → Prop) : l_51_2 (k + 1) x1 x2 x3 x4 x5 x6 x7 x8 x9 x10 x11 x12 x13 x14 x15 x16 x17 (fun y1 y2 y3 y4 y5 y6 y7 y8 y9 y10 y11 y12 y13 y14 y15 => K (.exit 0) [.int .i64 y1, .int .i64 y2, .int .i64 y3, .int .i64 y4, .int .i64 y5, .dat 43 y6, .arr .i64 8 y7, .int .u64 y8, .int .i64 y9, .int .i64 y10, .int .i64 y11, .int .i64 y12, .int .i64 y13, .nils, .arr .i64 8 y14, .int .u64 y15]) = vcCode env (ctxG env false [] R21 [] []) 2000 51 (loopAt b51 2) (insSt p_51_2.head [.int .i64 x1, .int .i64 x2, .int .i64 x3, .int .i64 x4, .int .i64 x5, .int .i64 x6, .dat 43 x7, .arr .i64 8 x8, .int .u64 x9, .arr .i64 8 x10, .int .i64 x11, .int .i64 x12, .int .i64 x13, .int .i64 x14, .int .i64 x15, .nils, .arr .i64 8 x16, .int .u64 x17]) (stepK p_51_2 (w_51_2 k) K) := by kernel_rfl
theorem wiok_51_2 (k : Nat) (vs : List (SV env.T)) (K : Ex → List (SV env.T) → Prop) (h : w_51_2 k vs K) : ∃ x1 : Int, ∃ x2 : Int, ∃ x3 : Int, ∃ x4 : Int, ∃ x5 : Int, ∃ x6 : Int, ∃ x7 : (List (List Queued)), ∃ x8 : (List Int), ∃ x9 : Int, ∃ x10 : (List Int), ∃ x11 : Int, ∃ x12 : Int, ∃ x13 : Int, ∃ x14 : Int, ∃ x15 : Int, ∃ x16 : (List Int), ∃ x17 : Int, vs = [.int .i64 x1, .int .i64 x2, .int .i64 x3, .int .i64 x4, .int .i64 x5, .int .i64 x6, .dat 43 x7, .arr .i64 8 x8, .int .u64 x9, .arr .i64 8 x10, .int .i64 x11, .int .i64 x12, .int .i64 x13, .int .i64 x14, .int .i64 x15, .nils, .arr .i64 8 x16, .int .u64 x17] ∧ l_51_2 k x1 x2 x3 x4 x5 x6 x7 x8 x9 x10 x11 x12 x13 x14 x15 x16 x17 (fun y1 y2 y3 y4 y5 y6 y7 y8 y9 y10 y11 y12 y13 y14 y15 => K (.exit 0) [.int .i64 y1, .int .i64 y2, .int .i64 y3, .int .i64 y4, .int .i64 y5, .dat 43 y6, .arr .i64 8 y7, .int .u64 y8, .int .i64 y9, .int .i64 y10, .int .i64 y11, .int .i64 y12, .int .i64 y13, .nils, .arr .i64 8 y14, .int .u64 y15]) := by
  unfold w_51_2 at h
  replace h := dCI_spec h
  obtain ⟨x1, vs0, e0, h⟩ := h
  replace h := dCI_spec h
  obtain ⟨x2, vs1, e1, h⟩ := h
  replace h := dCI_spec h
  obtain ⟨x3, vs2, e2, h⟩ := h
  replace h := dCI_spec h
  obtain ⟨x4, vs3, e3, h⟩ := h
  replace h := dCI_spec h
  obtain ⟨x5, vs4, e4, h⟩ := h
  replace h := dCI_spec h
  obtain ⟨x6, vs5, e5, h⟩ := h
  replace h := dCD_spec h
  obtain ⟨x7, vs6, e6, h⟩ := h
  replace h := dCA_spec h
  obtain ⟨x8, vs7, e7, h⟩ := h
  replace h := dCI_spec h
  obtain ⟨x9, vs8, e8, h⟩ := h
  replace h := dCA_spec h
  obtain ⟨x10, vs9, e9, h⟩ := h
  replace h := dCI_spec h
  obtain ⟨x11, vs10, e10, h⟩ := h
  replace h := dCI_spec h
  obtain ⟨x12, vs11, e11, h⟩ := h
  replace h := dCI_spec h
  obtain ⟨x13, vs12, e12, h⟩ := h
  replace h := dCI_spec h
  obtain ⟨x14, vs13, e13, h⟩ := h
  replace h := dCI_spec h
  obtain ⟨x15, vs14, e14, h⟩ := h
  replace h := dCN_spec h
  obtain ⟨vs15, e15, h⟩ := h
  replace h := dCA_spec h
  obtain ⟨x16, vs16, e16, h⟩ := h
  replace h := dCI_spec h
  obtain ⟨x17, vs17, e17, h⟩ := h
  replace h := dCE_spec h
  obtain ⟨e, h⟩ := h
  exact ⟨x1, x2, x3, x4, x5, x6, x7, x8, x9, x10, x11, x12, x13, x14, x15, x16, x17, by rw [e0, e1, e2, e3, e4, e5, e6, e7, e8, e9, e10, e11, e12, e13, e14, e15, e16, e17, e], h⟩
theorem zeok_51_2 (x1 : Int) (x2 : Int) (x3 : Int) (x4 : Int) (x5 : Int) (x6 : Int) (x7 : (List (List Queued))) (x8 : (List Int)) (x9 : Int) (x10 : (List Int)) (x11 : Int) (x12 : Int) (x13 : Int) (x14 : Int) (x15 : Int) (x16 : (List Int)) (x17 : Int) (K : Ex → List (SV env.T) → Prop) : l_51_2 0 x1 x2 x3 x4 x5 x6 x7 x8 x9 x10 x11 x12 x13 x14 x15 x16 x17 (fun y1 y2 y3 y4 y5 y6 y7 y8 y9 y10 y11 y12 y13 y14 y15 => K (.exit 0) [.int .i64 y1, .int .i64 y2, .int .i64 y3, .int .i64 y4, .int .i64 y5, .dat 43 y6, .arr .i64 8 y7, .int .u64 y8, .int .i64 y9, .int .i64 y10, .int .i64 y11, .int .i64 y12, .int .i64 y13, .nils, .arr .i64 8 y14, .int .u64 y15]) = False := by kernel_rfl
theorem ok_51_2 : PieceOk Try.prog env p_51_2 (.loop (loopAt b51 2)) := by
  refine loop_step (Wn := w_51_2) tab (ctxG_ok R21_ok false [] _ _) book_51_2 (pieces_sub pook_51_2_51 (by kernel_rfl)) rfl ?_ 2000 ?_
  · intro vs K h
    obtain ⟨x1, x2, x3, x4, x5, x6, x7, x8, x9, x10, x11, x12, x13, x14, x15, x16, x17, _, h⟩ := wiok_51_2 0 vs K h
    exact Eq.mp (zeok_51_2 x1 x2 x3 x4 x5 x6 x7 x8 x9 x10 x11 x12 x13 x14 x15 x16 x17 K) h
  · intro k vs K h
    obtain ⟨x1, x2, x3, x4, x5, x6, x7, x8, x9, x10, x11, x12, x13, x14, x15, x16, x17, rfl, h⟩ := wiok_51_2 (k + 1) vs K h
    exact Eq.mp (stok_51_2 k x1 x2 x3 x4 x5 x6 x7 x8 x9 x10 x11 x12 x13 x14 x15 x16 x17 K) h
theorem po_51_51 : PiecesOk Try.prog env (ctxG env false [] R21 [(51, [(2, p_51_2)])] []) 51 b51 :=
  pieces_at (L := [(2, p_51_2)]) (S := []) (fun _ => rfl) (fun _ => rfl) (by kernel_rfl) (by kernel_rfl) (List.forall_mem_cons.2 ⟨fun _ => ok_51_2, (fun _ hq => by cases hq)⟩) (fun _ hq => by cases hq)
theorem bo_51 : BodiesOk Try.prog env (ctxG env false [] R21 [(51, [(2, p_51_2)])] []) := bodies_okG (ks := [51]) (by kernel_rfl) (List.forall_mem_cons.2 ⟨body_at (fn := f51) (body := b51) rfl hb51 po_51_51, (fun _ hq => by cases hq)⟩)
theorem eq_51 (x0 : Queue) (x1 : (List Int)) (K : Y51 → Prop) : vcCode env (ctxG env false [] R21 [(51, [(2, p_51_2)])] []) 2000 51 b51 (entry env f51 [v28 x0, v25 x1]) (finR env f51 decR51 K) = B51 x0 x1 K := by kernel_rfl
noncomputable def rule51 : Nat × Rule env := (51, ruleF env decA51 encR51 fun x => V51 x.1 x.2)
theorem r51 : RuleOk Try.prog env 51 rule51.2 :=
  rule_fun tab (ctxG_ok R21_ok false [] _ _) bo_51 (f := 51) (fn := f51) rfl hb51 po_51_51 2000 encA51 hA51 hR51 hD51 (fun _ => of_decide_eq_true (by kernel_rfl)) (fun x K => (eq_51 x.1 x.2 K).trans (by rw [V51_eq]))
noncomputable def R51 : List (Nat × Rule env) := rule51 :: R21
theorem R51_ok : AllOk Try.prog env R51 := ⟨r51, R21_ok⟩
-- 19 queuelab/deficit.Take
noncomputable def f19 : Func := Try.f19
noncomputable def b19 : Code := (Try.f19.body).getD .skip
abbrev X19 := Queue × Int
def encA19 (x : X19) : List (SV env.T) := [v28 x.1, v3 x.2]
def decA19 (l : List (SV env.T)) : Option X19 := match l with
  | [s0, s1] => match u28 s0, u3 s1 with
    | some x0, some x1 => some (x0, x1)
    | _, _ => none
  | _ => none
theorem hA19 (l : List (SV env.T)) (x : X19) (h : decA19 l = some x) : WkA env.has l (encA19 x) := by
  unfold decA19 at h; split at h
  · split at h
    · rename_i h0 h1; cases h; exact (.cons (u28_wk h0) (.cons (u3_wk h1) .nil))
    · cases h
  · cases h
abbrev Y19 := Queue × Packet × Bool × (List Packet) × Int
def encR19 (x : Y19) : List (SV env.T) := [v28 x.1, v30 x.2.1, v4 x.2.2.1, v33 x.2.2.2.1, v34 x.2.2.2.2]
def decR19 (l : List (SV env.T)) : Option Y19 := match l with
  | [s0, s1, s2, s3, s4] => match u28 s0, u30 s1, u4 s2, u33 s3, u34 s4 with
    | some x0, some x1, some x2, some x3, some x4 => some (x0, x1, x2, x3, x4)
    | _, _, _, _, _ => none
  | _ => none
theorem hR19 (l : List (SV env.T)) (x : Y19) (h : decR19 l = some x) : WkA env.has l (encR19 x) := by
  unfold decR19 at h; split at h
  · split at h
    · rename_i h0 h1 h2 h3 h4; cases h; exact (.cons (u28_wk h0) (.cons (u30_wk h1) (.cons (u4_wk h2) (.cons (u33_wk h3) (.cons (u34_wk h4) .nil)))))
    · cases h
  · cases h
theorem hD19 (y : Y19) : isDataV (tupV (encR19 y)) = true := rfl
theorem hb19 : f19.body = some b19 := by kernel_rfl
def l_19x71_3 : Nat → (List (List Queued)) → Int → Int → Int → Int → (List (List Queued)) → Int → Bool → Int → Int → Int → Int → Int → Int → (List (List Queued)) → (List Int) → Int → Int → (List (List Queued)) → Int → Int → Int → Int → Int → (List (List Queued)) → (List Int) → Int → Int → Int → Int → Int → Int → (List Int) → Int → Int → Int → Int → Int → Int → (List (List Queued)) → (List Int) → Int → Int → Int → Int → Int → Int → (List Int) → Int → Int → Int → Int → Int → Int → Int → Bool → Bool → (Int → Int → (List (List Queued)) → Int → Bool → Int → Int → Int → Int → Int → Int → (List (List Queued)) → (List Int) → Int → Int → (List (List Queued)) → Int → Int → Int → Int → Int → (List (List Queued)) → (List Int) → Int → Int → Int → Int → Int → Int → (List Int) → Int → Int → Int → Int → Int → Int → (List (List Queued)) → (List Int) → Int → Int → Int → Int → Int → Int → (List Int) → Int → Int → Int → Int → Int → Int → Int → Bool → Bool → Prop) → Prop
  | 0 => fun _ _ _ _ _ _ _ _ _ _ _ _ _ _ _ _ _ _ _ _ _ _ _ _ _ _ _ _ _ _ _ _ _ _ _ _ _ _ _ _ _ _ _ _ _ _ _ _ _ _ _ _ _ _ _ _ _ _ => False
  | k + 1 => fun x1 x2 x3 x4 x5 x6 x7 x8 x9 x10 x11 x12 x13 x14 x15 x16 x17 x18 x19 x20 x21 x22 x23 x24 x25 x26 x27 x28 x29 x30 x31 x32 x33 x34 x35 x36 x37 x38 x39 x40 x41 x42 x43 x44 x45 x46 x47 x48 x49 x50 x51 x52 x53 x54 x55 x56 x57 k0 ↦ br (decide (x3 < x2)) (br (inb x3 (↑x1.length : Int)) (br (andb (leb 0 0) (andb (leb 0 (IntKind.i64.wrap ((↑(List.length (x1.getD x3.toNat (env.d 43))) : Int) + 1))) (roomB (IntKind.i64.wrap ((↑(List.length (x1.getD x3.toNat (env.d 43))) : Int) + 1)).toNat (bytesB env 45)))) (br (roomB (List.replicate 0 (Queued.mk (Packet.mk 0 0 0 0 0 0 false false) 0) ++ x1.getD x3.toNat (env.d 43)).length (bytesB env 45)) (br (inb x3 (↑x19.length : Int)) (l_19x71_3 k x1 x2 (IntKind.i64.wrap (x3 + 1)) x4 x5 x6 x7 x8 x9 x10 x11 x12 x13 x14 x15 x16 x17 x18 (x19.set x3.toNat (List.replicate 0 (Queued.mk (Packet.mk 0 0 0 0 0 0 false false) 0) ++ x1.getD x3.toNat (env.d 43))) x20 x21 x22 x23 x24 x25 x26 x27 x28 x29 x30 x31 x32 x33 x34 x35 x36 x37 x38 x39 x40 x41 x42 x43 x44 x45 x46 x47 x48 x49 x50 x51 x52 x53 x54 x55 x56 x57 k0) False) False) False) False) (k0 x4 x5 x6 x7 x8 x9 x10 x11 x12 x13 x14 x15 x16 x17 x18 x19 x20 x21 x22 x23 x24 x25 x26 x27 x28 x29 x30 x31 x32 x33 x34 x35 x36 x37 x38 x39 x40 x41 x42 x43 x44 x45 x46 x47 x48 x49 x50 x51 x52 x53 x54 x55 x56 x57)
def w_19x71_3 (k : Nat) (vs : List (SV env.T)) (K : Ex → List (SV env.T) → Prop) : Prop :=
  dCN vs fun vs => dCD 43 vs fun x1 vs => dCI .i64 vs fun x2 vs => dCI .i64 vs fun x3 vs => dCI .i64 vs fun x4 vs => dCI .i64 vs fun x5 vs => dCD 43 vs fun x6 vs => dCI .i64 vs fun x7 vs => dCB vs fun x8 vs => dCN vs fun vs => dCI .i64 vs fun x9 vs => dCI .i64 vs fun x10 vs => dCI .i64 vs fun x11 vs => dCI .i64 vs fun x12 vs => dCI .i64 vs fun x13 vs => dCI .i64 vs fun x14 vs => dCD 43 vs fun x15 vs => dCA .i64 8 vs fun x16 vs => dCI .u64 vs fun x17 vs => dCI .i64 vs fun x18 vs => dCD 43 vs fun x19 vs => dCI .i64 vs fun x20 vs => dCI .i64 vs fun x21 vs => dCI .i64 vs fun x22 vs => dCI .i64 vs fun x23 vs => dCI .i64 vs fun x24 vs => dCD 43 vs fun x25 vs => dCA .i64 8 vs fun x26 vs => dCI .u64 vs fun x27 vs => dCI .i64 vs fun x28 vs => dCI .i64 vs fun x29 vs => dCI .i64 vs fun x30 vs => dCI .i64 vs fun x31 vs => dCI .i64 vs fun x32 vs => dCN vs fun vs => dCA .i64 8 vs fun x33 vs => dCI .u64 vs fun x34 vs => dCI .i64 vs fun x35 vs => dCI .i64 vs fun x36 vs => dCI .i64 vs fun x37 vs => dCI .i64 vs fun x38 vs => dCI .i64 vs fun x39 vs => dCD 43 vs fun x40 vs => dCA .i64 8 vs fun x41 vs => dCI .u64 vs fun x42 vs => dCI .i64 vs fun x43 vs => dCI .i64 vs fun x44 vs => dCI .i64 vs fun x45 vs => dCI .i64 vs fun x46 vs => dCI .i64 vs fun x47 vs => dCN vs fun vs => dCA .i64 8 vs fun x48 vs => dCI .u64 vs fun x49 vs => dCI .i64 vs fun x50 vs => dCI .i64 vs fun x51 vs => dCI .i64 vs fun x52 vs => dCI .i64 vs fun x53 vs => dCI .i64 vs fun x54 vs => dCI .i64 vs fun x55 vs => dCB vs fun x56 vs => dCB vs fun x57 vs => dCE vs (l_19x71_3 k x1 x2 x3 x4 x5 x6 x7 x8 x9 x10 x11 x12 x13 x14 x15 x16 x17 x18 x19 x20 x21 x22 x23 x24 x25 x26 x27 x28 x29 x30 x31 x32 x33 x34 x35 x36 x37 x38 x39 x40 x41 x42 x43 x44 x45 x46 x47 x48 x49 x50 x51 x52 x53 x54 x55 x56 x57 (fun y1 y2 y3 y4 y5 y6 y7 y8 y9 y10 y11 y12 y13 y14 y15 y16 y17 y18 y19 y20 y21 y22 y23 y24 y25 y26 y27 y28 y29 y30 y31 y32 y33 y34 y35 y36 y37 y38 y39 y40 y41 y42 y43 y44 y45 y46 y47 y48 y49 y50 y51 y52 y53 y54 => K (.exit 0) (.nils :: .int .i64 y1 :: .int .i64 y2 :: .dat 43 y3 :: .int .i64 y4 :: .bool y5 :: .nils :: .int .i64 y6 :: .int .i64 y7 :: .int .i64 y8 :: .int .i64 y9 :: .int .i64 y10 :: .int .i64 y11 :: .dat 43 y12 :: .arr .i64 8 y13 :: .int .u64 y14 :: .int .i64 y15 :: .dat 43 y16 :: .int .i64 y17 :: .int .i64 y18 :: .int .i64 y19 :: .int .i64 y20 :: .int .i64 y21 :: .dat 43 y22 :: .arr .i64 8 y23 :: .int .u64 y24 :: .int .i64 y25 :: .int .i64 y26 :: .int .i64 y27 :: .int .i64 y28 :: .int .i64 y29 :: .nils :: .arr .i64 8 y30 :: .int .u64 y31 :: .int .i64 y32 :: .int .i64 y33 :: .int .i64 y34 :: .int .i64 y35 :: .int .i64 y36 :: .dat 43 y37 :: .arr .i64 8 y38 :: .int .u64 y39 :: .int .i64 y40 :: .int .i64 y41 :: .int .i64 y42 :: .int .i64 y43 :: .int .i64 y44 :: .nils :: .arr .i64 8 y45 :: .int .u64 y46 :: .int .i64 y47 :: .int .i64 y48 :: .int .i64 y49 :: .int .i64 y50 :: .int .i64 y51 :: .int .i64 y52 :: .bool y53 :: .bool y54 :: [])))
def p_19x71_3 : Piece env := ⟨⟨[.any, .any, .hole, .row 0, .any, .any, .any, .any, .any, .holeD 43, .hole, .hole, .any, .any, .any, .any, .any, .any, .any, .any, .any, .any, .any, .any, .any, .any, .any], [.any, .hole, .ptr 1 0, .any, .ptr 2 0, .hole, .any, .any, .any, .any, .any, .any, .any, .any, .any, .any, .any, .any, .any, .any, .any, .ptr 1 5, .holeD 43, .tup0, .tup0, .any, .any, .any, .any, .any, .hole, .ptr 3 0, .any, .ptr 4 0, .ptr 5 0, .hole, .hole, .hole, .tup0, .any, .any, .any, .any, .any, .tup0, .agg [.hole, .hole, .hole, .hole, .hole, .holeD 43, .hole, .hole], .hole, .tup0, .tup0, .tup0, .any, .any, .any, .any, .any, .any, .any, .any, .any, .any, .any, .any, .any, .any, .any, .any, .any, .any, .any, .any, .any, .any, .any, .any, .any, .any, .any, .any, .any, .any, .any, .any, .any, .any, .any, .any, .any, .any, .any, .any, .any, .any, .any, .any, .any, .any, .any, .any, .any, .any, .any, .any, .any, .any, .any, .any, .any, .any, .any, .any, .any, .any, .any, .any, .any, .any, .any, .any, .any, .any, .any, .any, .any, .any, .any, .any, .any, .any, .any, .any, .any, .any, .any, .any, .any, .any, .any, .any], [(0, .row 43), (1, .cells 28 [.hole, .hole, .hole, .hole, .hole, .holeD 43, .hole, .hole]), (2, .cells 28 [.hole, .hole, .hole, .hole, .hole, .hole, .hole, .hole]), (3, .cells 28 [.hole, .hole, .hole, .hole, .hole, .holeD 43, .hole, .hole]), (4, .cells 28 [.hole, .hole, .hole, .hole, .hole, .hole, .hole, .hole]), (5, .cells 30 [.hole, .hole, .hole, .hole, .hole, .hole, .hole, .hole])], 6⟩, exitF none [(0, ⟨[.any, .any, .hole, .row 0, .any, .any, .any, .any, .any, .any, .any, .any, .any, .any, .any, .any, .any, .any, .any, .any, .any, .any, .any, .any, .any, .any, .any], [.any, .hole, .ptr 1 0, .any, .ptr 2 0, .hole, .any, .any, .any, .any, .any, .any, .any, .any, .any, .any, .any, .any, .any, .any, .any, .ptr 1 5, .holeD 43, .tup0, .tup0, .any, .any, .any, .any, .any, .hole, .ptr 3 0, .any, .ptr 4 0, .ptr 5 0, .hole, .hole, .hole, .tup0, .any, .any, .any, .any, .any, .tup0, .agg [.hole, .hole, .hole, .hole, .hole, .holeD 43, .hole, .hole], .hole, .tup0, .tup0, .tup0, .any, .any, .any, .any, .any, .any, .any, .any, .any, .any, .any, .any, .any, .any, .any, .any, .any, .any, .any, .any, .any, .any, .any, .any, .any, .any, .any, .any, .any, .any, .any, .any, .any, .any, .any, .any, .any, .any, .any, .any, .any, .any, .any, .any, .any, .any, .any, .any, .any, .any, .any, .any, .any, .any, .any, .any, .any, .any, .any, .any, .any, .any, .any, .any, .any, .any, .any, .any, .any, .any, .any, .any, .any, .any, .any, .any, .any, .any, .any, .any, .any, .any, .any, .any, .any, .any, .any, .any], [(0, .row 43), (1, .cells 28 [.hole, .hole, .hole, .hole, .hole, .holeD 43, .hole, .hole]), (2, .cells 28 [.hole, .hole, .hole, .hole, .hole, .hole, .hole, .hole]), (3, .cells 28 [.hole, .hole, .hole, .hole, .hole, .holeD 43, .hole, .hole]), (4, .cells 28 [.hole, .hole, .hole, .hole, .hole, .hole, .hole, .hole]), (5, .cells 30 [.hole, .hole, .hole, .hole, .hole, .hole, .hole, .hole])], 6⟩)] none, fun vs K => ∃ k, w_19x71_3 k vs K⟩
def s_19_13 : Bool → Int → Int → Int → (List Queued) → Int → Int → Int → Int → Int → (List Int) → Int → Int → Int → Int → Int → Int → (List Int) → Int → Int → Int → Int → Int → Int → Int → Bool → Bool → (List Int) → Int → Int → Int → Int → Int → Int → Bool → Bool → (List (List Queued)) → (Bool → Int → Int → Int → Int → Int → Int → Int → Int → (List Int) → Int → Int → Int → Int → Int → Int → (List Int) → Int → Int → Int → Int → Int → Int → Int → Bool → Bool → (List Int) → Int → Int → Int → Int → Int → Int → Bool → Bool → (List (List Queued)) → Prop) → (Bool → Int → Int → Int → Int → Int → Int → Int → Int → (List Int) → Int → Int → Int → Int → Int → Int → (List Int) → Int → Int → Int → Int → Int → Int → Int → Bool → Bool → (List Int) → Int → Int → Int → Int → Int → Int → Bool → Bool → (List (List Queued)) → Prop) → Prop :=
  fun x1 x2 x3 x4 x5 x6 x7 x8 x9 x10 x11 x12 x13 x14 x15 x16 x17 x18 x19 x20 x21 x22 x23 x24 x25 x26 x27 x28 _ _ _ _ _ _ _ _ x37 k0 kn ↦ br (inb 0 (↑x5.length : Int)) (br (inb x3 (↑8 : Int)) (br (decide ((x5.getD 0 (env.d 45)).p.size ≤ x28.getD x3.toNat 0)) (k0 x1 x2 x3 x4 x6 x7 x8 x9 x10 x11 x12 x13 x14 x15 x16 x17 x18 x19 x20 x21 x22 x23 x24 x25 x26 x27 x28 (x5.getD 0 (env.d 45)).p.flow (x5.getD 0 (env.d 45)).p.sub (x5.getD 0 (env.d 45)).p.number (x5.getD 0 (env.d 45)).p.data (x5.getD 0 (env.d 45)).p.size (x5.getD 0 (env.d 45)).p.sent (x5.getD 0 (env.d 45)).p.able (x5.getD 0 (env.d 45)).p.marked x37) (kn x1 x2 x3 x4 x6 x7 x8 x9 x10 x11 x12 x13 x14 x15 x16 x17 x18 x19 x20 x21 x22 x23 x24 x25 x26 x27 x28 (x5.getD 0 (env.d 45)).p.flow (x5.getD 0 (env.d 45)).p.sub (x5.getD 0 (env.d 45)).p.number (x5.getD 0 (env.d 45)).p.data (x5.getD 0 (env.d 45)).p.size (x5.getD 0 (env.d 45)).p.sent (x5.getD 0 (env.d 45)).p.able (x5.getD 0 (env.d 45)).p.marked x37)) False) False
def v_19_13 (vs : List (SV env.T)) (K : Ex → List (SV env.T) → Prop) : Prop :=
  dCB vs fun x1 vs => dCN vs fun vs => dCI .i64 vs fun x2 vs => dCI .i64 vs fun x3 vs => dCI .i64 vs fun x4 vs => dCD 45 vs fun x5 vs => dCI .i64 vs fun x6 vs => dCI .i64 vs fun x7 vs => dCI .i64 vs fun x8 vs => dCI .i64 vs fun x9 vs => dCI .i64 vs fun x10 vs => dCA .i64 8 vs fun x11 vs => dCI .u64 vs fun x12 vs => dCI .i64 vs fun x13 vs => dCI .i64 vs fun x14 vs => dCI .i64 vs fun x15 vs => dCI .i64 vs fun x16 vs => dCI .i64 vs fun x17 vs => dCN vs fun vs => dCA .i64 8 vs fun x18 vs => dCI .u64 vs fun x19 vs => dCI .i64 vs fun x20 vs => dCI .i64 vs fun x21 vs => dCI .i64 vs fun x22 vs => dCI .i64 vs fun x23 vs => dCI .i64 vs fun x24 vs => dCI .i64 vs fun x25 vs => dCB vs fun x26 vs => dCB vs fun x27 vs => dCA .i64 8 vs fun x28 vs => dCI .i64 vs fun x29 vs => dCI .i64 vs fun x30 vs => dCI .i64 vs fun x31 vs => dCI .i64 vs fun x32 vs => dCI .i64 vs fun x33 vs => dCI .i64 vs fun x34 vs => dCB vs fun x35 vs => dCB vs fun x36 vs => dCD 43 vs fun x37 vs => dCE vs (s_19_13 x1 x2 x3 x4 x5 x6 x7 x8 x9 x10 x11 x12 x13 x14 x15 x16 x17 x18 x19 x20 x21 x22 x23 x24 x25 x26 x27 x28 x29 x30 x31 x32 x33 x34 x35 x36 x37 (fun y1 y2 y3 y4 y5 y6 y7 y8 y9 y10 y11 y12 y13 y14 y15 y16 y17 y18 y19 y20 y21 y22 y23 y24 y25 y26 y27 y28 y29 y30 y31 y32 y33 y34 y35 y36 => K (.exit 0) [.bool y1, .nils, .int .i64 y2, .int .i64 y3, .int .i64 y4, .int .i64 y5, .int .i64 y6, .int .i64 y7, .int .i64 y8, .int .i64 y9, .arr .i64 8 y10, .int .u64 y11, .int .i64 y12, .int .i64 y13, .int .i64 y14, .int .i64 y15, .int .i64 y16, .nils, .arr .i64 8 y17, .int .u64 y18, .int .i64 y19, .int .i64 y20, .int .i64 y21, .int .i64 y22, .int .i64 y23, .int .i64 y24, .bool y25, .bool y26, .arr .i64 8 y27, .int .i64 y28, .int .i64 y29, .int .i64 y30, .int .i64 y31, .int .i64 y32, .int .i64 y33, .bool y34, .bool y35, .dat 43 y36]) (fun y1 y2 y3 y4 y5 y6 y7 y8 y9 y10 y11 y12 y13 y14 y15 y16 y17 y18 y19 y20 y21 y22 y23 y24 y25 y26 y27 y28 y29 y30 y31 y32 y33 y34 y35 y36 => K .normal [.bool y1, .nils, .int .i64 y2, .int .i64 y3, .int .i64 y4, .int .i64 y5, .int .i64 y6, .int .i64 y7, .int .i64 y8, .int .i64 y9, .arr .i64 8 y10, .int .u64 y11, .int .i64 y12, .int .i64 y13, .int .i64 y14, .int .i64 y15, .int .i64 y16, .nils, .arr .i64 8 y17, .int .u64 y18, .int .i64 y19, .int .i64 y20, .int .i64 y21, .int .i64 y22, .int .i64 y23, .int .i64 y24, .bool y25, .bool y26, .arr .i64 8 y27, .int .i64 y28, .int .i64 y29, .int .i64 y30, .int .i64 y31, .int .i64 y32, .int .i64 y33, .bool y34, .bool y35, .dat 43 y36]))
def q_19_13 : Piece env := ⟨⟨[.any, .any, .ptr 0 0, .any, .ptr 1 0, .ptr 2 0, .hole, .hole, .hole, .any, .ptr 3 0, .hole, .hole, .ptr 4 0, .holeD 45, .any, .any, .any, .any, .any, .any, .any, .any, .any, .any, .any, .any, .any, .any, .any, .any, .any, .any, .any, .any, .any, .any, .any, .any, .any, .any, .any, .any, .any, .any, .any, .any, .any, .any, .any, .any, .any, .any, .any, .any, .any, .any, .any, .any, .any, .any, .any, .any, .any, .any, .any, .any, .any, .any, .any, .any, .any, .any, .any, .any, .any, .any, .any, .any, .any, .any, .any, .any, .any, .any, .any, .any, .any, .any, .any, .any, .any, .any, .any, .any, .any, .any, .any, .any, .any, .any, .any, .any, .any, .any, .any, .any, .any, .any], [], [(0, .cells 28 [.hole, .hole, .hole, .hole, .hole, .row 5, .hole, .hole]), (1, .cells 28 [.hole, .hole, .hole, .hole, .hole, .hole, .hole, .hole]), (2, .cells 30 [.hole, .hole, .hole, .hole, .hole, .hole, .hole, .hole]), (3, .cells 25 [.hole]), (4, .cells 30 [.hole, .hole, .hole, .hole, .hole, .hole, .hole, .hole]), (5, .row 43)], 6⟩, exitF (some ⟨[.any, .any, .ptr 0 0, .any, .ptr 1 0, .ptr 2 0, .hole, .hole, .hole, .any, .ptr 3 0, .hole, .hole, .ptr 4 0, .any, .any, .any, .any, .any, .any, .any, .any, .any, .any, .any, .any, .any, .any, .any, .any, .any, .any, .any, .any, .any, .any, .any, .any, .any, .any, .any, .any, .any, .any, .any, .any, .any, .any, .any, .any, .any, .any, .any, .any, .any, .any, .any, .any, .any, .any, .any, .any, .any, .any, .any, .any, .any, .any, .any, .any, .any, .any, .any, .any, .any, .any, .any, .any, .any, .any, .any, .any, .any, .any, .any, .any, .any, .any, .any, .any, .any, .any, .any, .any, .any, .any, .any, .any, .any, .any, .any, .any, .any, .any, .any, .any, .any, .any, .any], [], [(0, .cells 28 [.hole, .hole, .hole, .hole, .hole, .row 5, .hole, .hole]), (1, .cells 28 [.hole, .hole, .hole, .hole, .hole, .hole, .hole, .hole]), (2, .cells 30 [.hole, .hole, .hole, .hole, .hole, .hole, .hole, .hole]), (3, .cells 25 [.hole]), (4, .cells 30 [.hole, .hole, .hole, .hole, .hole, .hole, .hole, .hole]), (5, .row 43)], 6⟩) [(0, ⟨[.any, .any, .ptr 0 0, .any, .ptr 1 0, .ptr 2 0, .hole, .hole, .hole, .any, .ptr 3 0, .hole, .hole, .ptr 4 0, .any, .any, .any, .any, .any, .any, .any, .any, .any, .any, .any, .any, .any, .any, .any, .any, .any, .any, .any, .any, .any, .any, .any, .any, .any, .any, .any, .any, .any, .any, .any, .any, .any, .any, .any, .any, .any, .any, .any, .any, .any, .any, .any, .any, .any, .any, .any, .any, .any, .any, .any, .any, .any, .any, .any, .any, .any, .any, .any, .any, .any, .any, .any, .any, .any, .any, .any, .any, .any, .any, .any, .any, .any, .any, .any, .any, .any, .any, .any, .any, .any, .any, .any, .any, .any, .any, .any, .any, .any, .any, .any, .any, .any, .any, .any], [], [(0, .cells 28 [.hole, .hole, .hole, .hole, .hole, .row 5, .hole, .hole]), (1, .cells 28 [.hole, .hole, .hole, .hole, .hole, .hole, .hole, .hole]), (2, .cells 30 [.hole, .hole, .hole, .hole, .hole, .hole, .hole, .hole]), (3, .cells 25 [.hole]), (4, .cells 30 [.hole, .hole, .hole, .hole, .hole, .hole, .hole, .hole]), (5, .row 43)], 6⟩)] none, v_19_13⟩
def l_19_8 : Nat → Bool → Int → Int → Int → Int → Int → Int → Int → Int → (List Int) → Int → Int → Int → Int → Int → Int → (List Int) → Int → Int → Int → Int → Int → Int → Int → Bool → Bool → (List Int) → Int → Int → Int → Int → Int → Int → Bool → Bool → (List (List Queued)) → (Bool → Int → Int → Int → Int → Int → Int → Int → Int → (List Int) → Int → Int → Int → Int → Int → Int → (List Int) → Int → Int → Int → Int → Int → Int → Int → Bool → Bool → (List Int) → Int → Int → Int → Int → Int → Int → Bool → Bool → (List (List Queued)) → Prop) → Prop
  | 0 => fun _ _ _ _ _ _ _ _ _ _ _ _ _ _ _ _ _ _ _ _ _ _ _ _ _ _ _ _ _ _ _ _ _ _ _ _ _ => False
  | k + 1 => fun x1 x2 x3 x4 x5 x6 x7 x8 x9 x10 x11 x12 x13 x14 x15 x16 x17 x18 x19 x20 x21 x22 x23 x24 x25 x26 x27 x28 x29 x30 x31 x32 x33 x34 x35 x36 k0 ↦ br (inb x3 (↑x36.length : Int)) (br ((↑(List.length (x36.getD x3.toNat (env.d 43))) : Int) == 0) (l_19_8 k x1 x2 ((IntKind.i64.wrap (x3 + 1)).tmod 8) 0 x5 x6 x7 x8 x9 x10 x11 x12 x13 x14 x15 x16 x17 x18 x19 x20 x21 x22 x23 x24 x25 x26 x27 x28 x29 x30 x31 x32 x33 x34 x35 x36 k0) (br (x4 == 0) (br (inb x3 (↑8 : Int)) (br (inb x3 (↑8 : Int)) (s_19_13 x1 x2 x3 1 (x36.getD x3.toNat (env.d 43)) x5 x6 x7 x8 x9 x10 x11 x12 x13 x14 x15 x16 x17 x18 x19 x20 x21 x22 x23 x24 x25 x26 (x27.set x3.toNat (IntKind.i64.wrap (x27.getD x3.toNat 0 + x6))) x28 x29 x30 x31 x32 x33 x34 x35 x36 k0 fun y39 y40 y41 _ y43 y44 y45 y46 y47 y48 y49 y50 y51 y52 y53 y54 y55 y56 y57 y58 y59 y60 y61 y62 y63 y64 y65 y66 y67 y68 y69 y70 y71 y72 y73 y74 ↦ l_19_8 k y39 y40 ((IntKind.i64.wrap (y41 + 1)).tmod 8) 0 y43 y44 y45 y46 y47 y48 y49 y50 y51 y52 y53 y54 y55 y56 y57 y58 y59 y60 y61 y62 y63 y64 y65 y66 y67 y68 y69 y70 y71 y72 y73 y74 k0) False) False) (s_19_13 x1 x2 x3 x4 (x36.getD x3.toNat (env.d 43)) x5 x6 x7 x8 x9 x10 x11 x12 x13 x14 x15 x16 x17 x18 x19 x20 x21 x22 x23 x24 x25 x26 x27 x28 x29 x30 x31 x32 x33 x34 x35 x36 k0 fun y39 y40 y41 _ y43 y44 y45 y46 y47 y48 y49 y50 y51 y52 y53 y54 y55 y56 y57 y58 y59 y60 y61 y62 y63 y64 y65 y66 y67 y68 y69 y70 y71 y72 y73 y74 ↦ l_19_8 k y39 y40 ((IntKind.i64.wrap (y41 + 1)).tmod 8) 0 y43 y44 y45 y46 y47 y48 y49 y50 y51 y52 y53 y54 y55 y56 y57 y58 y59 y60 y61 y62 y63 y64 y65 y66 y67 y68 y69 y70 y71 y72 y73 y74 k0))) False
def w_19_8 (k : Nat) (vs : List (SV env.T)) (K : Ex → List (SV env.T) → Prop) : Prop :=
  dCB vs fun x1 vs => dCN vs fun vs => dCI .i64 vs fun x2 vs => dCI .i64 vs fun x3 vs => dCI .i64 vs fun x4 vs => dCI .i64 vs fun x5 vs => dCI .i64 vs fun x6 vs => dCI .i64 vs fun x7 vs => dCI .i64 vs fun x8 vs => dCI .i64 vs fun x9 vs => dCA .i64 8 vs fun x10 vs => dCI .u64 vs fun x11 vs => dCI .i64 vs fun x12 vs => dCI .i64 vs fun x13 vs => dCI .i64 vs fun x14 vs => dCI .i64 vs fun x15 vs => dCI .i64 vs fun x16 vs => dCN vs fun vs => dCA .i64 8 vs fun x17 vs => dCI .u64 vs fun x18 vs => dCI .i64 vs fun x19 vs => dCI .i64 vs fun x20 vs => dCI .i64 vs fun x21 vs => dCI .i64 vs fun x22 vs => dCI .i64 vs fun x23 vs => dCI .i64 vs fun x24 vs => dCB vs fun x25 vs => dCB vs fun x26 vs => dCA .i64 8 vs fun x27 vs => dCI .i64 vs fun x28 vs => dCI .i64 vs fun x29 vs => dCI .i64 vs fun x30 vs => dCI .i64 vs fun x31 vs => dCI .i64 vs fun x32 vs => dCI .i64 vs fun x33 vs => dCB vs fun x34 vs => dCB vs fun x35 vs => dCD 43 vs fun x36 vs => dCE vs (l_19_8 k x1 x2 x3 x4 x5 x6 x7 x8 x9 x10 x11 x12 x13 x14 x15 x16 x17 x18 x19 x20 x21 x22 x23 x24 x25 x26 x27 x28 x29 x30 x31 x32 x33 x34 x35 x36 (fun y1 y2 y3 y4 y5 y6 y7 y8 y9 y10 y11 y12 y13 y14 y15 y16 y17 y18 y19 y20 y21 y22 y23 y24 y25 y26 y27 y28 y29 y30 y31 y32 y33 y34 y35 y36 => K (.exit 0) [.bool y1, .nils, .int .i64 y2, .int .i64 y3, .int .i64 y4, .int .i64 y5, .int .i64 y6, .int .i64 y7, .int .i64 y8, .int .i64 y9, .arr .i64 8 y10, .int .u64 y11, .int .i64 y12, .int .i64 y13, .int .i64 y14, .int .i64 y15, .int .i64 y16, .nils, .arr .i64 8 y17, .int .u64 y18, .int .i64 y19, .int .i64 y20, .int .i64 y21, .int .i64 y22, .int .i64 y23, .int .i64 y24, .bool y25, .bool y26, .arr .i64 8 y27, .int .i64 y28, .int .i64 y29, .int .i64 y30, .int .i64 y31, .int .i64 y32, .int .i64 y33, .bool y34, .bool y35, .dat 43 y36]))
def p_19_8 : Piece env := ⟨⟨[.any, .any, .ptr 0 0, .any, .ptr 1 0, .ptr 2 0, .hole, .hole, .hole, .any, .ptr 3 0, .hole, .hole, .ptr 4 0, .any, .any, .any, .any, .any, .any, .any, .any, .any, .any, .any, .any, .any, .any, .any, .any, .any, .any, .any, .any, .any, .any, .any, .any, .any, .any, .any, .any, .any, .any, .any, .any, .any, .any, .any, .any, .any, .any, .any, .any, .any, .any, .any, .any, .any, .any, .any, .any, .any, .any, .any, .any, .any, .any, .any, .any, .any, .any, .any, .any, .any, .any, .any, .any, .any, .any, .any, .any, .any, .any, .any, .any, .any, .any, .any, .any, .any, .any, .any, .any, .any, .any, .any, .any, .any, .any, .any, .any, .any, .any, .any, .any, .any, .any, .any], [], [(0, .cells 28 [.hole, .hole, .hole, .hole, .hole, .row 5, .hole, .hole]), (1, .cells 28 [.hole, .hole, .hole, .hole, .hole, .hole, .hole, .hole]), (2, .cells 30 [.hole, .hole, .hole, .hole, .hole, .hole, .hole, .hole]), (3, .cells 25 [.hole]), (4, .cells 30 [.hole, .hole, .hole, .hole, .hole, .hole, .hole, .hole]), (5, .row 43)], 6⟩, exitF none [(0, ⟨[.any, .any, .ptr 0 0, .any, .ptr 1 0, .ptr 2 0, .hole, .hole, .hole, .any, .ptr 3 0, .hole, .hole, .ptr 4 0, .any, .any, .any, .any, .any, .any, .any, .any, .any, .any, .any, .any, .any, .any, .any, .any, .any, .any, .any, .any, .any, .any, .any, .any, .any, .any, .any, .any, .any, .any, .any, .any, .any, .any, .any, .any, .any, .any, .any, .any, .any, .any, .any, .any, .any, .any, .any, .any, .any, .any, .any, .any, .any, .any, .any, .any, .any, .any, .any, .any, .any, .any, .any, .any, .any, .any, .any, .any, .any, .any, .any, .any, .any, .any, .any, .any, .any, .any, .any, .any, .any, .any, .any, .any, .any, .any, .any, .any, .any, .any, .any, .any, .any, .any, .any], [], [(0, .cells 28 [.hole, .hole, .hole, .hole, .hole, .row 5, .hole, .hole]), (1, .cells 28 [.hole, .hole, .hole, .hole, .hole, .hole, .hole, .hole]), (2, .cells 30 [.hole, .hole, .hole, .hole, .hole, .hole, .hole, .hole]), (3, .cells 25 [.hole]), (4, .cells 30 [.hole, .hole, .hole, .hole, .hole, .hole, .hole, .hole]), (5, .row 43)], 6⟩)] none, fun vs K => ∃ k, w_19_8 k vs K⟩
def s_19_20 : Bool → Int → Int → Int → Int → Int → Int → Int → Int → (List Int) → Int → Int → Int → Int → Int → Int → (List Int) → Int → Int → Int → Int → Int → Int → Int → Bool → Bool → (List Int) → Int → Int → Int → Int → Int → Int → Bool → Bool → (List (List Queued)) → (Bool → Int → Int → Int → Int → Int → Int → (List (List Queued)) → (List Int) → Int → Int → Int → Int → Int → Int → Int → Bool → Bool → Prop) → Prop :=
  fun _ _ x3 x4 x5 x6 x7 x8 x9 x10 x11 _ _ _ _ _ _ _ _ _ _ _ _ _ _ _ x27 x28 x29 x30 x31 x32 x33 x34 x35 x36 kr ↦ ∃ k39, (V51 (Queue.mk (Policy.mk x5 x6 x7 x8) x9 x36 ((x10.set 0 x3).set 1 x4) x11) x27 fun y40 ↦ tupV (encR51 y40) = tupV (encR51 k39)) ∧ kr true 0 k39.policy.kind k39.policy.a k39.policy.b k39.policy.c k39.room k39.lists k39.vars k39.seed x28 x29 x30 x31 x32 x33 x34 x35
def v_19_20 (vs : List (SV env.T)) (K : Ex → List (SV env.T) → Prop) : Prop :=
  dCB vs fun x1 vs => dCN vs fun vs => dCI .i64 vs fun x2 vs => dCI .i64 vs fun x3 vs => dCI .i64 vs fun x4 vs => dCI .i64 vs fun x5 vs => dCI .i64 vs fun x6 vs => dCI .i64 vs fun x7 vs => dCI .i64 vs fun x8 vs => dCI .i64 vs fun x9 vs => dCA .i64 8 vs fun x10 vs => dCI .u64 vs fun x11 vs => dCI .i64 vs fun x12 vs => dCI .i64 vs fun x13 vs => dCI .i64 vs fun x14 vs => dCI .i64 vs fun x15 vs => dCI .i64 vs fun x16 vs => dCN vs fun vs => dCA .i64 8 vs fun x17 vs => dCI .u64 vs fun x18 vs => dCI .i64 vs fun x19 vs => dCI .i64 vs fun x20 vs => dCI .i64 vs fun x21 vs => dCI .i64 vs fun x22 vs => dCI .i64 vs fun x23 vs => dCI .i64 vs fun x24 vs => dCB vs fun x25 vs => dCB vs fun x26 vs => dCA .i64 8 vs fun x27 vs => dCI .i64 vs fun x28 vs => dCI .i64 vs fun x29 vs => dCI .i64 vs fun x30 vs => dCI .i64 vs fun x31 vs => dCI .i64 vs fun x32 vs => dCI .i64 vs fun x33 vs => dCB vs fun x34 vs => dCB vs fun x35 vs => dCD 43 vs fun x36 vs => dCE vs (s_19_20 x1 x2 x3 x4 x5 x6 x7 x8 x9 x10 x11 x12 x13 x14 x15 x16 x17 x18 x19 x20 x21 x22 x23 x24 x25 x26 x27 x28 x29 x30 x31 x32 x33 x34 x35 x36 (fun y1 y2 y3 y4 y5 y6 y7 y8 y9 y10 y11 y12 y13 y14 y15 y16 y17 y18 => K .ret [.bool y1, .nils, .int .i64 y2, .int .i64 y3, .int .i64 y4, .int .i64 y5, .int .i64 y6, .int .i64 y7, .dat 43 y8, .arr .i64 8 y9, .int .u64 y10, .int .i64 y11, .int .i64 y12, .int .i64 y13, .int .i64 y14, .int .i64 y15, .int .i64 y16, .bool y17, .bool y18]))
def q_19_20 : Piece env := ⟨⟨[.any, .any, .ptr 0 0, .any, .ptr 1 0, .ptr 2 0, .hole, .hole, .hole, .any, .ptr 3 0, .hole, .hole, .ptr 4 0, .any, .any, .any, .any, .any, .any, .any, .any, .any, .any, .any, .any, .any, .any, .any, .any, .any, .any, .any, .any, .any, .any, .any, .any, .any, .any, .any, .any, .any, .any, .any, .any, .any, .any, .any, .any, .any, .any, .any, .any, .any, .any, .any, .any, .any, .any, .any, .any, .any, .any, .any, .any, .any, .any, .any, .any, .any, .any, .any, .any, .any, .any, .any, .any, .any, .any, .any, .any, .any, .any, .any, .any, .any, .any, .any, .any, .any, .any, .any, .any, .any, .any, .any, .any, .any, .any, .any, .any, .any, .any, .any, .any, .any, .any, .any], [], [(0, .cells 28 [.hole, .hole, .hole, .hole, .hole, .row 5, .hole, .hole]), (1, .cells 28 [.hole, .hole, .hole, .hole, .hole, .hole, .hole, .hole]), (2, .cells 30 [.hole, .hole, .hole, .hole, .hole, .hole, .hole, .hole]), (3, .cells 25 [.hole]), (4, .cells 30 [.hole, .hole, .hole, .hole, .hole, .hole, .hole, .hole]), (5, .row 43)], 6⟩, exitF none [] (some ⟨[.any, .any, .any, .any, .ptr 0 0, .ptr 1 0, .hole, .hole, .hole, .any, .any, .any, .any, .any, .any, .any, .any, .any, .any, .any, .any, .any, .any, .any, .any, .any, .any, .any, .any, .any, .any, .any, .any, .any, .any, .any, .any, .any, .any, .any, .any, .any, .any, .any, .any, .any, .any, .any, .any, .any, .any, .any, .any, .any, .any, .any, .any, .any, .any, .any, .any, .any, .any, .any, .any, .any, .any, .any, .any, .any, .any, .any, .any, .any, .any, .any, .any, .any, .any, .any, .any, .any, .any, .any, .any, .any, .any, .any, .any, .any, .any, .any, .any, .any, .any, .any, .any, .any, .any, .any, .any, .any, .any, .any, .any, .any, .any, .any, .any], [], [(0, .cells 28 [.hole, .hole, .hole, .hole, .hole, .holeD 43, .hole, .hole]), (1, .cells 30 [.hole, .hole, .hole, .hole, .hole, .hole, .hole, .hole])], 2⟩), v_19_20⟩
def s_19_4 : Bool → Int → Int → Int → Int → Int → Int → (List Int) → Int → Int → Int → Int → Int → Int → (List Int) → Int → Int → Int → Int → Int → Int → Int → Bool → Bool → (List (List Queued)) → (Bool → Int → Int → Int → Int → Int → Int → (List (List Queued)) → (List Int) → Int → Int → Int → Int → Int → Int → Int → Bool → Bool → Prop) → Prop :=
  fun x1 x2 x3 x4 x5 x6 x7 x8 x9 x10 x11 x12 x13 x14 x15 x16 x17 x18 x19 x20 x21 x22 x23 x24 x25 kr ↦ V50 (Queue.mk (Policy.mk x3 x4 x5 x6) x7 x25 x8 x9) fun y28 ↦ ∃ k29, l_19_8 k29 x1 x2 (x8.getD 0 0) (x8.getD 1 0) x3 x4 x5 x6 x7 x8 x9 x10 x11 x12 x13 x14 x15 x16 x17 x18 x19 x20 x21 x22 x23 x24 y28 0 0 0 0 0 0 false false x25 fun y30 y31 y32 y33 y34 y35 y36 y37 y38 y39 y40 y41 y42 y43 y44 y45 y46 y47 y48 y49 y50 y51 y52 y53 y54 y55 y56 y57 y58 y59 y60 y61 y62 y63 y64 y65 ↦ br (inb y32 (↑8 : Int)) (br (inb y32 (↑8 : Int)) (br (inb y32 (↑y65.length : Int)) (br (cutOk (some 1) none (List.length (y65.getD y32.toNat (env.d 43)))) (br (inb y32 (↑y65.length : Int)) (br (inb y32 (↑(y65.set y32.toNat (cutL (y65.getD y32.toNat (env.d 43)) ((some 1).getD 0) (none.getD (↑(List.length (y65.getD y32.toNat (env.d 43))) : Int)))).length : Int)) (br ((↑(List.length ((y65.set y32.toNat (cutL (y65.getD y32.toNat (env.d 43)) ((some 1).getD 0) (none.getD (↑(List.length (y65.getD y32.toNat (env.d 43))) : Int)))).getD y32.toNat (env.d 43))) : Int) == 0) (br (inb y32 (↑8 : Int)) (s_19_20 y30 y31 ((IntKind.i64.wrap (y32 + 1)).tmod 8) 0 y34 y35 y36 y37 y38 y39 y40 y41 y42 y43 y44 y45 y46 y47 y48 y49 y50 y51 y52 y53 y54 y55 ((y56.set y32.toNat (IntKind.i64.wrap (y56.getD y32.toNat 0 - y61))).set y32.toNat 0) y57 y58 y59 y60 y61 y62 y63 y64 (y65.set y32.toNat (cutL (y65.getD y32.toNat (env.d 43)) ((some 1).getD 0) (none.getD (↑(List.length (y65.getD y32.toNat (env.d 43))) : Int)))) kr) False) (s_19_20 y30 y31 y32 y33 y34 y35 y36 y37 y38 y39 y40 y41 y42 y43 y44 y45 y46 y47 y48 y49 y50 y51 y52 y53 y54 y55 (y56.set y32.toNat (IntKind.i64.wrap (y56.getD y32.toNat 0 - y61))) y57 y58 y59 y60 y61 y62 y63 y64 (y65.set y32.toNat (cutL (y65.getD y32.toNat (env.d 43)) ((some 1).getD 0) (none.getD (↑(List.length (y65.getD y32.toNat (env.d 43))) : Int)))) kr)) False) False) False) False) False) False
def v_19_4 (vs : List (SV env.T)) (K : Ex → List (SV env.T) → Prop) : Prop :=
  dCB vs fun x1 vs => dCN vs fun vs => dCI .i64 vs fun x2 vs => dCI .i64 vs fun x3 vs => dCI .i64 vs fun x4 vs => dCI .i64 vs fun x5 vs => dCI .i64 vs fun x6 vs => dCI .i64 vs fun x7 vs => dCA .i64 8 vs fun x8 vs => dCI .u64 vs fun x9 vs => dCI .i64 vs fun x10 vs => dCI .i64 vs fun x11 vs => dCI .i64 vs fun x12 vs => dCI .i64 vs fun x13 vs => dCI .i64 vs fun x14 vs => dCN vs fun vs => dCA .i64 8 vs fun x15 vs => dCI .u64 vs fun x16 vs => dCI .i64 vs fun x17 vs => dCI .i64 vs fun x18 vs => dCI .i64 vs fun x19 vs => dCI .i64 vs fun x20 vs => dCI .i64 vs fun x21 vs => dCI .i64 vs fun x22 vs => dCB vs fun x23 vs => dCB vs fun x24 vs => dCD 43 vs fun x25 vs => dCE vs (s_19_4 x1 x2 x3 x4 x5 x6 x7 x8 x9 x10 x11 x12 x13 x14 x15 x16 x17 x18 x19 x20 x21 x22 x23 x24 x25 (fun y1 y2 y3 y4 y5 y6 y7 y8 y9 y10 y11 y12 y13 y14 y15 y16 y17 y18 => K .ret [.bool y1, .nils, .int .i64 y2, .int .i64 y3, .int .i64 y4, .int .i64 y5, .int .i64 y6, .int .i64 y7, .dat 43 y8, .arr .i64 8 y9, .int .u64 y10, .int .i64 y11, .int .i64 y12, .int .i64 y13, .int .i64 y14, .int .i64 y15, .int .i64 y16, .bool y17, .bool y18]))
def q_19_4 : Piece env := ⟨⟨[.any, .any, .ptr 0 0, .any, .ptr 1 0, .ptr 2 0, .hole, .hole, .hole, .any, .any, .any, .any, .any, .any, .any, .any, .any, .any, .any, .any, .any, .any, .any, .any, .any, .any, .any, .any, .any, .any, .any, .any, .any, .any, .any, .any, .any, .any, .any, .any, .any, .any, .any, .any, .any, .any, .any, .any, .any, .any, .any, .any, .any, .any, .any, .any, .any, .any, .any, .any, .any, .any, .any, .any, .any, .any, .any, .any, .any, .any, .any, .any, .any, .any, .any, .any, .any, .any, .any, .any, .any, .any, .any, .any, .any, .any, .any, .any, .any, .any, .any, .any, .any, .any, .any, .any, .any, .any, .any, .any, .any, .any, .any, .any, .any, .any, .any, .any], [], [(0, .cells 28 [.hole, .hole, .hole, .hole, .hole, .row 3, .hole, .hole]), (1, .cells 28 [.hole, .hole, .hole, .hole, .hole, .hole, .hole, .hole]), (2, .cells 30 [.hole, .hole, .hole, .hole, .hole, .hole, .hole, .hole]), (3, .row 43)], 4⟩, exitF none [] (some ⟨[.any, .any, .any, .any, .ptr 0 0, .ptr 1 0, .hole, .hole, .hole, .any, .any, .any, .any, .any, .any, .any, .any, .any, .any, .any, .any, .any, .any, .any, .any, .any, .any, .any, .any, .any, .any, .any, .any, .any, .any, .any, .any, .any, .any, .any, .any, .any, .any, .any, .any, .any, .any, .any, .any, .any, .any, .any, .any, .any, .any, .any, .any, .any, .any, .any, .any, .any, .any, .any, .any, .any, .any, .any, .any, .any, .any, .any, .any, .any, .any, .any, .any, .any, .any, .any, .any, .any, .any, .any, .any, .any, .any, .any, .any, .any, .any, .any, .any, .any, .any, .any, .any, .any, .any, .any, .any, .any, .any, .any, .any, .any, .any, .any, .any], [], [(0, .cells 28 [.hole, .hole, .hole, .hole, .hole, .holeD 43, .hole, .hole]), (1, .cells 30 [.hole, .hole, .hole, .hole, .hole, .hole, .hole, .hole])], 2⟩), v_19_4⟩
noncomputable def B19 : Queue → Int → (Y19 → Prop) → Prop :=
  fun x0 x1 K ↦ V21 x0 fun y3 ↦ br (!y3) (K (Queue.mk (Policy.mk 0 0 0 0) 0 [] (List.replicate 8 0) 0, Packet.mk 0 0 0 0 0 0 false false, false, [], 1)) (V55 x1 0 10000000 fun y4 ↦ br (!y4) (K (Queue.mk (Policy.mk 0 0 0 0) 0 [] (List.replicate 8 0) 0, Packet.mk 0 0 0 0 0 0 false false, false, [], 1)) (br (decide (x1 < x0.vars.getD 7 0)) (K (Queue.mk (Policy.mk 0 0 0 0) 0 [] (List.replicate 8 0) 0, Packet.mk 0 0 0 0 0 0 false false, false, [], 18)) (br (andb (leb 0 (↑x0.lists.length : Int)) (andb (leb (↑x0.lists.length : Int) (↑x0.lists.length : Int)) (roomB (↑x0.lists.length : Int).toNat (bytesB env 43)))) (∃ k5, l_19x71_3 k5 x0.lists (↑x0.lists.length : Int) 0 x1 0 x0.lists x1 false 0 x0.policy.kind x0.policy.a x0.policy.b x0.policy.c x0.room x0.lists x0.vars x0.seed x1 (List.replicate (↑x0.lists.length : Int).toNat []) x0.policy.kind x0.policy.a x0.policy.b x0.policy.c x0.room x0.lists x0.vars x0.seed 0 0 0 0 0 (List.replicate 8 0) 0 x0.policy.kind x0.policy.a x0.policy.b x0.policy.c x0.room x0.lists x0.vars x0.seed 0 0 0 0 0 (List.replicate 8 0) 0 0 0 0 0 0 0 false false fun y6 _ _ _ y10 y11 _ _ _ _ _ _ _ _ _ y21 y22 y23 y24 y25 y26 _ y28 y29 _ _ _ _ _ _ _ _ _ _ _ _ _ _ _ y45 y46 y47 y48 y49 y50 y51 y52 y53 y54 y55 y56 y57 y58 y59 ↦ V47 (Queue.mk (Policy.mk y22 y23 y24 y25) y26 y21 (y28.set 7 y6) y29) fun y60 ↦ br (y60 == 0) (K (Queue.mk (Policy.mk y22 y23 y24 y25) y26 y21 (y28.set 7 y6) y29, Packet.mk 0 0 0 0 0 0 false false, false, [], 0)) (s_19_4 y10 y11 y22 y23 y24 y25 y26 (y28.set 7 y6) y29 y45 y46 y47 y48 y49 y50 y51 y52 y53 y54 y55 y56 y57 y58 y59 y21 fun y61 y62 y63 y64 y65 y66 y67 y68 y69 y70 y71 y72 y73 y74 y75 y76 y77 y78 ↦ K (Queue.mk (Policy.mk y63 y64 y65 y66) y67 y68 y69 y70, Packet.mk y71 y72 y73 y74 y75 y76 y77 y78, y61, [], y62))) False)))
theorem V19_ex : ∃ V : Queue → Int → (Y19 → Prop) → Prop, V = B19 := ⟨_, rfl⟩
noncomputable def V19 : Queue → Int → (Y19 → Prop) → Prop := Classical.choose V19_ex
theorem V19_eq : V19 = B19 := Classical.choose_spec V19_ex
theorem pook_19x71_3_71 : PiecesOk Try.prog env (ctxG env false [] R51 [] []) 71 b71 :=
  pieces_at (L := []) (S := []) (fun _ => rfl) (fun _ => rfl) (by kernel_rfl) (by kernel_rfl) (fun _ hq => by cases hq) (fun _ hq => by cases hq)
theorem book_19x71_3 : BodiesOk Try.prog env (ctxG env false [] R51 [] []) := bodies_okG (ks := []) (by kernel_rfl) (fun _ hq => by cases hq)
theorem stok_19x71_3 (k : Nat) (x1 : (List (List Queued))) (x2 : Int) (x3 : Int) (x4 : Int) (x5 : Int) (x6 : (List (List Queued))) (x7 : Int) (x8 : Bool) (x9 : Int) (x10 : Int) (x11 : Int) (x12 : Int) (x13 : Int) (x14 : Int) (x15 : (List (List Queued))) (x16 : (List Int)) (x17 : Int) (x18 : Int) (x19 : (List (List Queued))) (x20 : Int) (x21 : Int) (x22 : Int) (x23 : Int) (x24 : Int) (x25 : (List (List Queued))) (x26 : (List Int)) (x27 : Int) (x28 : Int) (x29 : Int) (x30 : Int) (x31 : Int) (x32 : Int) (x33 : (List Int)) (x34 : Int) (x35 : Int) (x36 : Int) (x37 : Int) (x38 : Int) (x39 : Int) (x40 : (List (List Queued))) (x41 : (List Int)) (x42 : Int) (x43 : Int) (x44 : Int) (x45 : Int) (x46 : Int) (x47 : Int) (x48 : (List Int)) (x49 : Int) (x50 : Int) (x51 : Int) (x52 : Int) (x53 : Int) (x54 : Int) (x55 : Int) (x56 : Bool) (x57 : Bool) (K : Ex → List (SV env.T) → Prop) : l_19x71_3 (k + 1) x1 x2 x3 x4 x5 x6 x7 x8 x9 x10 x11 x12 x13 x14 x15 x16 x17 x18 x19 x20 x21 x22 x23 x24 x25 x26 x27 x28 x29 x30 x31 x32 x33 x34 x35 x36 x37 x38 x39 x40 x41 x42 x43 x44 x45 x46 x47 x48 x49 x50 x51 x52 x53 x54 x55 x56 x57 (fun y1 y2 y3 y4 y5 y6 y7 y8 y9 y10 y11 y12 y13 y14 y15 y16 y17 y18 y19 y20 y21 y22 y23 y24 y25 y26 y27 y28 y29 y30 y31 y32 y33 y34 y35 y36 y37 y38 y39 y40 y41 y42 y43 y44 y45 y46 y47 y48 y49 y50 y51 y52 y53 y54 => K (.exit 0) (.nils :: .int .i64 y1 :: .int .i64 y2 :: .dat 43 y3 :: .int .i64 y4 :: .bool y5 :: .nils :: .int .i64 y6 :: .int .i64 y7 :: .int .i64 y8 :: .int .i64 y9 :: .int .i64 y10 :: .int .i64 y11 :: .dat 43 y12 :: .arr .i64 8 y13 :: .int .u64 y14 :: .int .i64 y15 :: .dat 43 y16 :: .int .i64 y17 :: .int .i64 y18 :: .int .i64 y19 :: .int .i64 y20 :: .int .i64 y21 :: .dat 43 y22 :: .arr .i64 8 y23 :: .int .u64 y24 :: .int .i64 y25 :: .int .i64 y26 :: .int .i64 y27 :: .int .i64 y28 :: .int .i64 y29 :: .nils :: .arr .i64 8 y30 :: .int .u64 y31 :: .int .i64 y32 :: .int .i64 y33 :: .int .i64 y34 :: .int .i64 y35 :: .int .i64 y36 :: .dat 43 y37 :: .arr .i64 8 y38 :: .int .u64 y39 :: .int .i64 y40 :: .int .i64 y41 :: .int .i64 y42 :: .int .i64 y43 :: .int .i64 y44 :: .nils :: .arr .i64 8 y45 :: .int .u64 y46 :: .int .i64 y47 :: .int .i64 y48 :: .int .i64 y49 :: .int .i64 y50 :: .int .i64 y51 :: .int .i64 y52 :: .bool y53 :: .bool y54 :: [])) = vcCode env (ctxG env false [] R51 [] []) 2000 71 (loopAt b71 3) (insSt p_19x71_3.head (.nils :: .dat 43 x1 :: .int .i64 x2 :: .int .i64 x3 :: .int .i64 x4 :: .int .i64 x5 :: .dat 43 x6 :: .int .i64 x7 :: .bool x8 :: .nils :: .int .i64 x9 :: .int .i64 x10 :: .int .i64 x11 :: .int .i64 x12 :: .int .i64 x13 :: .int .i64 x14 :: .dat 43 x15 :: .arr .i64 8 x16 :: .int .u64 x17 :: .int .i64 x18 :: .dat 43 x19 :: .int .i64 x20 :: .int .i64 x21 :: .int .i64 x22 :: .int .i64 x23 :: .int .i64 x24 :: .dat 43 x25 :: .arr .i64 8 x26 :: .int .u64 x27 :: .int .i64 x28 :: .int .i64 x29 :: .int .i64 x30 :: .int .i64 x31 :: .int .i64 x32 :: .nils :: .arr .i64 8 x33 :: .int .u64 x34 :: .int .i64 x35 :: .int .i64 x36 :: .int .i64 x37 :: .int .i64 x38 :: .int .i64 x39 :: .dat 43 x40 :: .arr .i64 8 x41 :: .int .u64 x42 :: .int .i64 x43 :: .int .i64 x44 :: .int .i64 x45 :: .int .i64 x46 :: .int .i64 x47 :: .nils :: .arr .i64 8 x48 :: .int .u64 x49 :: .int .i64 x50 :: .int .i64 x51 :: .int .i64 x52 :: .int .i64 x53 :: .int .i64 x54 :: .int .i64 x55 :: .bool x56 :: .bool x57 :: [])) (stepK p_19x71_3 (w_19x71_3 k) K) := by kernel_rfl
theorem wiok_19x71_3 (k : Nat) (vs : List (SV env.T)) (K : Ex → List (SV env.T) → Prop) (h : w_19x71_3 k vs K) : ∃ x1 : (List (List Queued)), ∃ x2 : Int, ∃ x3 : Int, ∃ x4 : Int, ∃ x5 : Int, ∃ x6 : (List (List Queued)), ∃ x7 : Int, ∃ x8 : Bool, ∃ x9 : Int, ∃ x10 : Int, ∃ x11 : Int, ∃ x12 : Int, ∃ x13 : Int, ∃ x14 : Int, ∃ x15 : (List (List Queued)), ∃ x16 : (List Int), ∃ x17 : Int, ∃ x18 : Int, ∃ x19 : (List (List Queued)), ∃ x20 : Int, ∃ x21 : Int, ∃ x22 : Int, ∃ x23 : Int, ∃ x24 : Int, ∃ x25 : (List (List Queued)), ∃ x26 : (List Int), ∃ x27 : Int, ∃ x28 : Int, ∃ x29 : Int, ∃ x30 : Int, ∃ x31 : Int, ∃ x32 : Int, ∃ x33 : (List Int), ∃ x34 : Int, ∃ x35 : Int, ∃ x36 : Int, ∃ x37 : Int, ∃ x38 : Int, ∃ x39 : Int, ∃ x40 : (List (List Queued)), ∃ x41 : (List Int), ∃ x42 : Int, ∃ x43 : Int, ∃ x44 : Int, ∃ x45 : Int, ∃ x46 : Int, ∃ x47 : Int, ∃ x48 : (List Int), ∃ x49 : Int, ∃ x50 : Int, ∃ x51 : Int, ∃ x52 : Int, ∃ x53 : Int, ∃ x54 : Int, ∃ x55 : Int, ∃ x56 : Bool, ∃ x57 : Bool, vs = (.nils :: .dat 43 x1 :: .int .i64 x2 :: .int .i64 x3 :: .int .i64 x4 :: .int .i64 x5 :: .dat 43 x6 :: .int .i64 x7 :: .bool x8 :: .nils :: .int .i64 x9 :: .int .i64 x10 :: .int .i64 x11 :: .int .i64 x12 :: .int .i64 x13 :: .int .i64 x14 :: .dat 43 x15 :: .arr .i64 8 x16 :: .int .u64 x17 :: .int .i64 x18 :: .dat 43 x19 :: .int .i64 x20 :: .int .i64 x21 :: .int .i64 x22 :: .int .i64 x23 :: .int .i64 x24 :: .dat 43 x25 :: .arr .i64 8 x26 :: .int .u64 x27 :: .int .i64 x28 :: .int .i64 x29 :: .int .i64 x30 :: .int .i64 x31 :: .int .i64 x32 :: .nils :: .arr .i64 8 x33 :: .int .u64 x34 :: .int .i64 x35 :: .int .i64 x36 :: .int .i64 x37 :: .int .i64 x38 :: .int .i64 x39 :: .dat 43 x40 :: .arr .i64 8 x41 :: .int .u64 x42 :: .int .i64 x43 :: .int .i64 x44 :: .int .i64 x45 :: .int .i64 x46 :: .int .i64 x47 :: .nils :: .arr .i64 8 x48 :: .int .u64 x49 :: .int .i64 x50 :: .int .i64 x51 :: .int .i64 x52 :: .int .i64 x53 :: .int .i64 x54 :: .int .i64 x55 :: .bool x56 :: .bool x57 :: []) ∧ l_19x71_3 k x1 x2 x3 x4 x5 x6 x7 x8 x9 x10 x11 x12 x13 x14 x15 x16 x17 x18 x19 x20 x21 x22 x23 x24 x25 x26 x27 x28 x29 x30 x31 x32 x33 x34 x35 x36 x37 x38 x39 x40 x41 x42 x43 x44 x45 x46 x47 x48 x49 x50 x51 x52 x53 x54 x55 x56 x57 (fun y1 y2 y3 y4 y5 y6 y7 y8 y9 y10 y11 y12 y13 y14 y15 y16 y17 y18 y19 y20 y21 y22 y23 y24 y25 y26 y27 y28 y29 y30 y31 y32 y33 y34 y35 y36 y37 y38 y39 y40 y41 y42 y43 y44 y45 y46 y47 y48 y49 y50 y51 y52 y53 y54 => K (.exit 0) (.nils :: .int .i64 y1 :: .int .i64 y2 :: .dat 43 y3 :: .int .i64 y4 :: .bool y5 :: .nils :: .int .i64 y6 :: .int .i64 y7 :: .int .i64 y8 :: .int .i64 y9 :: .int .i64 y10 :: .int .i64 y11 :: .dat 43 y12 :: .arr .i64 8 y13 :: .int .u64 y14 :: .int .i64 y15 :: .dat 43 y16 :: .int .i64 y17 :: .int .i64 y18 :: .int .i64 y19 :: .int .i64 y20 :: .int .i64 y21 :: .dat 43 y22 :: .arr .i64 8 y23 :: .int .u64 y24 :: .int .i64 y25 :: .int .i64 y26 :: .int .i64 y27 :: .int .i64 y28 :: .int .i64 y29 :: .nils :: .arr .i64 8 y30 :: .int .u64 y31 :: .int .i64 y32 :: .int .i64 y33 :: .int .i64 y34 :: .int .i64 y35 :: .int .i64 y36 :: .dat 43 y37 :: .arr .i64 8 y38 :: .int .u64 y39 :: .int .i64 y40 :: .int .i64 y41 :: .int .i64 y42 :: .int .i64 y43 :: .int .i64 y44 :: .nils :: .arr .i64 8 y45 :: .int .u64 y46 :: .int .i64 y47 :: .int .i64 y48 :: .int .i64 y49 :: .int .i64 y50 :: .int .i64 y51 :: .int .i64 y52 :: .bool y53 :: .bool y54 :: [])) := by
  unfold w_19x71_3 at h
  replace h := dCN_spec h
  obtain ⟨vs0, e0, h⟩ := h
  replace h := dCD_spec h
  obtain ⟨x1, vs1, e1, h⟩ := h
  replace h := dCI_spec h
  obtain ⟨x2, vs2, e2, h⟩ := h
  replace h := dCI_spec h
  obtain ⟨x3, vs3, e3, h⟩ := h
  replace h := dCI_spec h
  obtain ⟨x4, vs4, e4, h⟩ := h
  replace h := dCI_spec h
  obtain ⟨x5, vs5, e5, h⟩ := h
  replace h := dCD_spec h
  obtain ⟨x6, vs6, e6, h⟩ := h
  replace h := dCI_spec h
  obtain ⟨x7, vs7, e7, h⟩ := h
  replace h := dCB_spec h
  obtain ⟨x8, vs8, e8, h⟩ := h
  replace h := dCN_spec h
  obtain ⟨vs9, e9, h⟩ := h
  replace h := dCI_spec h
  obtain ⟨x9, vs10, e10, h⟩ := h
  replace h := dCI_spec h
  obtain ⟨x10, vs11, e11, h⟩ := h
  replace h := dCI_spec h
  obtain ⟨x11, vs12, e12, h⟩ := h
  replace h := dCI_spec h
  obtain ⟨x12, vs13, e13, h⟩ := h
  replace h := dCI_spec h
  obtain ⟨x13, vs14, e14, h⟩ := h
  replace h := dCI_spec h
  obtain ⟨x14, vs15, e15, h⟩ := h
  replace h := dCD_spec h
  obtain ⟨x15, vs16, e16, h⟩ := h
  replace h := dCA_spec h
  obtain ⟨x16, vs17, e17, h⟩ := h
  replace h := dCI_spec h
  obtain ⟨x17, vs18, e18, h⟩ := h
  replace h := dCI_spec h
  obtain ⟨x18, vs19, e19, h⟩ := h
  replace h := dCD_spec h
  obtain ⟨x19, vs20, e20, h⟩ := h
  replace h := dCI_spec h
  obtain ⟨x20, vs21, e21, h⟩ := h
  replace h := dCI_spec h
  obtain ⟨x21, vs22, e22, h⟩ := h
  replace h := dCI_spec h
  obtain ⟨x22, vs23, e23, h⟩ := h
  replace h := dCI_spec h
  obtain ⟨x23, vs24, e24, h⟩ := h
  replace h := dCI_spec h
  obtain ⟨x24, vs25, e25, h⟩ := h
  replace h := dCD_spec h
  obtain ⟨x25, vs26, e26, h⟩ := h
  replace h := dCA_spec h
  obtain ⟨x26, vs27, e27, h⟩ := h
  replace h := dCI_spec h
  obtain ⟨x27, vs28, e28, h⟩ := h
  replace h := dCI_spec h
  obtain ⟨x28, vs29, e29, h⟩ := h
  replace h := dCI_spec h
  obtain ⟨x29, vs30, e30, h⟩ := h
  replace h := dCI_spec h
  obtain ⟨x30, vs31, e31, h⟩ := h
  replace h := dCI_spec h
  obtain ⟨x31, vs32, e32, h⟩ := h
  replace h := dCI_spec h
  obtain ⟨x32, vs33, e33, h⟩ := h
  replace h := dCN_spec h
  obtain ⟨vs34, e34, h⟩ := h
  replace h := dCA_spec h
  obtain ⟨x33, vs35, e35, h⟩ := h
  replace h := dCI_spec h
  obtain ⟨x34, vs36, e36, h⟩ := h
  replace h := dCI_spec h
  obtain ⟨x35, vs37, e37, h⟩ := h
  replace h := dCI_spec h
  obtain ⟨x36, vs38, e38, h⟩ := h
  replace h := dCI_spec h
  obtain ⟨x37, vs39, e39, h⟩ := h
  replace h := dCI_spec h
  obtain ⟨x38, vs40, e40, h⟩ := h
  replace h := dCI_spec h
  obtain ⟨x39, vs41, e41, h⟩ := h
  replace h := dCD_spec h
  obtain ⟨x40, vs42, e42, h⟩ := h
  replace h := dCA_spec h
  obtain ⟨x41, vs43, e43, h⟩ := h
  replace h := dCI_spec h
  obtain ⟨x42, vs44, e44, h⟩ := h
  replace h := dCI_spec h
  obtain ⟨x43, vs45, e45, h⟩ := h
  replace h := dCI_spec h
  obtain ⟨x44, vs46, e46, h⟩ := h
  replace h := dCI_spec h
  obtain ⟨x45, vs47, e47, h⟩ := h
  replace h := dCI_spec h
  obtain ⟨x46, vs48, e48, h⟩ := h
  replace h := dCI_spec h
  obtain ⟨x47, vs49, e49, h⟩ := h
  replace h := dCN_spec h
  obtain ⟨vs50, e50, h⟩ := h
  replace h := dCA_spec h
  obtain ⟨x48, vs51, e51, h⟩ := h
  replace h := dCI_spec h
  obtain ⟨x49, vs52, e52, h⟩ := h
  replace h := dCI_spec h
  obtain ⟨x50, vs53, e53, h⟩ := h
  replace h := dCI_spec h
  obtain ⟨x51, vs54, e54, h⟩ := h
  replace h := dCI_spec h
  obtain ⟨x52, vs55, e55, h⟩ := h
  replace h := dCI_spec h
  obtain ⟨x53, vs56, e56, h⟩ := h
  replace h := dCI_spec h
  obtain ⟨x54, vs57, e57, h⟩ := h
  replace h := dCI_spec h
  obtain ⟨x55, vs58, e58, h⟩ := h
  replace h := dCB_spec h
  obtain ⟨x56, vs59, e59, h⟩ := h
  replace h := dCB_spec h
  obtain ⟨x57, vs60, e60, h⟩ := h
  replace h := dCE_spec h
  obtain ⟨e, h⟩ := h
  exact ⟨x1, x2, x3, x4, x5, x6, x7, x8, x9, x10, x11, x12, x13, x14, x15, x16, x17, x18, x19, x20, x21, x22, x23, x24, x25, x26, x27, x28, x29, x30, x31, x32, x33, x34, x35, x36, x37, x38, x39, x40, x41, x42, x43, x44, x45, x46, x47, x48, x49, x50, x51, x52, x53, x54, x55, x56, x57, by rw [e0, e1, e2, e3, e4, e5, e6, e7, e8, e9, e10, e11, e12, e13, e14, e15, e16, e17, e18, e19, e20, e21, e22, e23, e24, e25, e26, e27, e28, e29, e30, e31, e32, e33, e34, e35, e36, e37, e38, e39, e40, e41, e42, e43, e44, e45, e46, e47, e48, e49, e50, e51, e52, e53, e54, e55, e56, e57, e58, e59, e60, e], h⟩
theorem zeok_19x71_3 (x1 : (List (List Queued))) (x2 : Int) (x3 : Int) (x4 : Int) (x5 : Int) (x6 : (List (List Queued))) (x7 : Int) (x8 : Bool) (x9 : Int) (x10 : Int) (x11 : Int) (x12 : Int) (x13 : Int) (x14 : Int) (x15 : (List (List Queued))) (x16 : (List Int)) (x17 : Int) (x18 : Int) (x19 : (List (List Queued))) (x20 : Int) (x21 : Int) (x22 : Int) (x23 : Int) (x24 : Int) (x25 : (List (List Queued))) (x26 : (List Int)) (x27 : Int) (x28 : Int) (x29 : Int) (x30 : Int) (x31 : Int) (x32 : Int) (x33 : (List Int)) (x34 : Int) (x35 : Int) (x36 : Int) (x37 : Int) (x38 : Int) (x39 : Int) (x40 : (List (List Queued))) (x41 : (List Int)) (x42 : Int) (x43 : Int) (x44 : Int) (x45 : Int) (x46 : Int) (x47 : Int) (x48 : (List Int)) (x49 : Int) (x50 : Int) (x51 : Int) (x52 : Int) (x53 : Int) (x54 : Int) (x55 : Int) (x56 : Bool) (x57 : Bool) (K : Ex → List (SV env.T) → Prop) : l_19x71_3 0 x1 x2 x3 x4 x5 x6 x7 x8 x9 x10 x11 x12 x13 x14 x15 x16 x17 x18 x19 x20 x21 x22 x23 x24 x25 x26 x27 x28 x29 x30 x31 x32 x33 x34 x35 x36 x37 x38 x39 x40 x41 x42 x43 x44 x45 x46 x47 x48 x49 x50 x51 x52 x53 x54 x55 x56 x57 (fun y1 y2 y3 y4 y5 y6 y7 y8 y9 y10 y11 y12 y13 y14 y15 y16 y17 y18 y19 y20 y21 y22 y23 y24 y25 y26 y27 y28 y29 y30 y31 y32 y33 y34 y35 y36 y37 y38 y39 y40 y41 y42 y43 y44 y45 y46 y47 y48 y49 y50 y51 y52 y53 y54 => K (.exit 0) (.nils :: .int .i64 y1 :: .int .i64 y2 :: .dat 43 y3 :: .int .i64 y4 :: .bool y5 :: .nils :: .int .i64 y6 :: .int .i64 y7 :: .int .i64 y8 :: .int .i64 y9 :: .int .i64 y10 :: .int .i64 y11 :: .dat 43 y12 :: .arr .i64 8 y13 :: .int .u64 y14 :: .int .i64 y15 :: .dat 43 y16 :: .int .i64 y17 :: .int .i64 y18 :: .int .i64 y19 :: .int .i64 y20 :: .int .i64 y21 :: .dat 43 y22 :: .arr .i64 8 y23 :: .int .u64 y24 :: .int .i64 y25 :: .int .i64 y26 :: .int .i64 y27 :: .int .i64 y28 :: .int .i64 y29 :: .nils :: .arr .i64 8 y30 :: .int .u64 y31 :: .int .i64 y32 :: .int .i64 y33 :: .int .i64 y34 :: .int .i64 y35 :: .int .i64 y36 :: .dat 43 y37 :: .arr .i64 8 y38 :: .int .u64 y39 :: .int .i64 y40 :: .int .i64 y41 :: .int .i64 y42 :: .int .i64 y43 :: .int .i64 y44 :: .nils :: .arr .i64 8 y45 :: .int .u64 y46 :: .int .i64 y47 :: .int .i64 y48 :: .int .i64 y49 :: .int .i64 y50 :: .int .i64 y51 :: .int .i64 y52 :: .bool y53 :: .bool y54 :: [])) = False := by kernel_rfl
theorem ok_19x71_3 : PieceOk Try.prog env p_19x71_3 (.loop (loopAt b71 3)) := by
  refine loop_step (Wn := w_19x71_3) tab (ctxG_ok R51_ok false [] _ _) book_19x71_3 (pieces_sub pook_19x71_3_71 (by kernel_rfl)) rfl ?_ 2000 ?_
  · intro vs K h
    obtain ⟨x1, x2, x3, x4, x5, x6, x7, x8, x9, x10, x11, x12, x13, x14, x15, x16, x17, x18, x19, x20, x21, x22, x23, x24, x25, x26, x27, x28, x29, x30, x31, x32, x33, x34, x35, x36, x37, x38, x39, x40, x41, x42, x43, x44, x45, x46, x47, x48, x49, x50, x51, x52, x53, x54, x55, x56, x57, _, h⟩ := wiok_19x71_3 0 vs K h
    exact Eq.mp (zeok_19x71_3 x1 x2 x3 x4 x5 x6 x7 x8 x9 x10 x11 x12 x13 x14 x15 x16 x17 x18 x19 x20 x21 x22 x23 x24 x25 x26 x27 x28 x29 x30 x31 x32 x33 x34 x35 x36 x37 x38 x39 x40 x41 x42 x43 x44 x45 x46 x47 x48 x49 x50 x51 x52 x53 x54 x55 x56 x57 K) h
  · intro k vs K h
    obtain ⟨x1, x2, x3, x4, x5, x6, x7, x8, x9, x10, x11, x12, x13, x14, x15, x16, x17, x18, x19, x20, x21, x22, x23, x24, x25, x26, x27, x28, x29, x30, x31, x32, x33, x34, x35, x36, x37, x38, x39, x40, x41, x42, x43, x44, x45, x46, x47, x48, x49, x50, x51, x52, x53, x54, x55, x56, x57, rfl, h⟩ := wiok_19x71_3 (k + 1) vs K h
    exact Eq.mp (stok_19x71_3 k x1 x2 x3 x4 x5 x6 x7 x8 x9 x10 x11 x12 x13 x14 x15 x16 x17 x18 x19 x20 x21 x22 x23 x24 x25 x26 x27 x28 x29 x30 x31 x32 x33 x34 x35 x36 x37 x38 x39 x40 x41 x42 x43 x44 x45 x46 x47 x48 x49 x50 x51 x52 x53 x54 x55 x56 x57 K) h
theorem pooq_19_13_19 : PiecesOk Try.prog env (ctxG env false [] R51 [(71, [(3, p_19x71_3)])] []) 19 b19 :=
  pieces_at (L := []) (S := []) (fun _ => rfl) (fun _ => rfl) (by kernel_rfl) (by kernel_rfl) (fun _ hq => by cases hq) (fun _ hq => by cases hq)
theorem pooq_19_13_71 : PiecesOk Try.prog env (ctxG env false [] R51 [(71, [(3, p_19x71_3)])] []) 71 b71 :=
  pieces_at (L := [(3, p_19x71_3)]) (S := []) (fun _ => rfl) (fun _ => rfl) (by kernel_rfl) (by kernel_rfl) (List.forall_mem_cons.2 ⟨fun _ => ok_19x71_3, (fun _ hq => by cases hq)⟩) (fun _ hq => by cases hq)
theorem booq_19_13 : BodiesOk Try.prog env (ctxG env false [] R51 [(71, [(3, p_19x71_3)])] []) := bodies_okG (ks := [71]) (by kernel_rfl) (List.forall_mem_cons.2 ⟨body_at (fn := f71) (body := b71) rfl hb71 pooq_19_13_71, (fun _ hq => by cases hq)⟩)
theorem stoq_19_13 (x1 : Bool) (x2 : Int) (x3 : Int) (x4 : Int) (x5 : (List Queued)) (x6 : Int) (x7 : Int) (x8 : Int) (x9 : Int) (x10 : Int) (x11 : (List Int)) (x12 : Int) (x13 : Int) (x14 : Int) (x15 : Int) (x16 : Int) (x17 : Int) (x18 : (List Int)) (x19 : Int) (x20 : Int) (x21 : Int) (x22 : Int) (x23 : Int) (x24 : Int) (x25 : Int) (x26 : Bool) (x27 : Bool) (x28 : (List Int)) (x29 : Int) (x30 : Int) (x31 : Int) (x32 : Int) (x33 : Int) (x34 : Int) (x35 : Bool) (x36 : Bool) (x37 : (List (List Queued))) (K : Ex → List (SV env.T) → Prop) : s_19_13  x1 x2 x3 x4 x5 x6 x7 x8 x9 x10 x11 x12 x13 x14 x15 x16 x17 x18 x19 x20 x21 x22 x23 x24 x25 x26 x27 x28 x29 x30 x31 x32 x33 x34 x35 x36 x37 (fun y1 y2 y3 y4 y5 y6 y7 y8 y9 y10 y11 y12 y13 y14 y15 y16 y17 y18 y19 y20 y21 y22 y23 y24 y25 y26 y27 y28 y29 y30 y31 y32 y33 y34 y35 y36 => K (.exit 0) [.bool y1, .nils, .int .i64 y2, .int .i64 y3, .int .i64 y4, .int .i64 y5, .int .i64 y6, .int .i64 y7, .int .i64 y8, .int .i64 y9, .arr .i64 8 y10, .int .u64 y11, .int .i64 y12, .int .i64 y13, .int .i64 y14, .int .i64 y15, .int .i64 y16, .nils, .arr .i64 8 y17, .int .u64 y18, .int .i64 y19, .int .i64 y20, .int .i64 y21, .int .i64 y22, .int .i64 y23, .int .i64 y24, .bool y25, .bool y26, .arr .i64 8 y27, .int .i64 y28, .int .i64 y29, .int .i64 y30, .int .i64 y31, .int .i64 y32, .int .i64 y33, .bool y34, .bool y35, .dat 43 y36]) (fun y1 y2 y3 y4 y5 y6 y7 y8 y9 y10 y11 y12 y13 y14 y15 y16 y17 y18 y19 y20 y21 y22 y23 y24 y25 y26 y27 y28 y29 y30 y31 y32 y33 y34 y35 y36 => K .normal [.bool y1, .nils, .int .i64 y2, .int .i64 y3, .int .i64 y4, .int .i64 y5, .int .i64 y6, .int .i64 y7, .int .i64 y8, .int .i64 y9, .arr .i64 8 y10, .int .u64 y11, .int .i64 y12, .int .i64 y13, .int .i64 y14, .int .i64 y15, .int .i64 y16, .nils, .arr .i64 8 y17, .int .u64 y18, .int .i64 y19, .int .i64 y20, .int .i64 y21, .int .i64 y22, .int .i64 y23, .int .i64 y24, .bool y25, .bool y26, .arr .i64 8 y27, .int .i64 y28, .int .i64 y29, .int .i64 y30, .int .i64 y31, .int .i64 y32, .int .i64 y33, .bool y34, .bool y35, .dat 43 y36]) = vcCode env (ctxG env false [] R51 [(71, [(3, p_19x71_3)])] []) 2000 19 (seqAt b19 13) (insSt q_19_13.head [.bool x1, .nils, .int .i64 x2, .int .i64 x3, .int .i64 x4, .dat 45 x5, .int .i64 x6, .int .i64 x7, .int .i64 x8, .int .i64 x9, .int .i64 x10, .arr .i64 8 x11, .int .u64 x12, .int .i64 x13, .int .i64 x14, .int .i64 x15, .int .i64 x16, .int .i64 x17, .nils, .arr .i64 8 x18, .int .u64 x19, .int .i64 x20, .int .i64 x21, .int .i64 x22, .int .i64 x23, .int .i64 x24, .int .i64 x25, .bool x26, .bool x27, .arr .i64 8 x28, .int .i64 x29, .int .i64 x30, .int .i64 x31, .int .i64 x32, .int .i64 x33, .int .i64 x34, .bool x35, .bool x36, .dat 43 x37]) (outP env q_19_13 K) := by kernel_rfl
theorem wioq_19_13 (vs : List (SV env.T)) (K : Ex → List (SV env.T) → Prop) (h : v_19_13 vs K) : ∃ x1 : Bool, ∃ x2 : Int, ∃ x3 : Int, ∃ x4 : Int, ∃ x5 : (List Queued), ∃ x6 : Int, ∃ x7 : Int, ∃ x8 : Int, ∃ x9 : Int, ∃ x10 : Int, ∃ x11 : (List Int), ∃ x12 : Int, ∃ x13 : Int, ∃ x14 : Int, ∃ x15 : Int, ∃ x16 : Int, ∃ x17 : Int, ∃ x18 : (List Int), ∃ x19 : Int, ∃ x20 : Int, ∃ x21 : Int, ∃ x22 : Int, ∃ x23 : Int, ∃ x24 : Int, ∃ x25 : Int, ∃ x26 : Bool, ∃ x27 : Bool, ∃ x28 : (List Int), ∃ x29 : Int, ∃ x30 : Int, ∃ x31 : Int, ∃ x32 : Int, ∃ x33 : Int, ∃ x34 : Int, ∃ x35 : Bool, ∃ x36 : Bool, ∃ x37 : (List (List Queued)), vs = [.bool x1, .nils, .int .i64 x2, .int .i64 x3, .int .i64 x4, .dat 45 x5, .int .i64 x6, .int .i64 x7, .int .i64 x8, .int .i64 x9, .int .i64 x10, .arr .i64 8 x11, .int .u64 x12, .int .i64 x13, .int .i64 x14, .int .i64 x15, .int .i64 x16, .int .i64 x17, .nils, .arr .i64 8 x18, .int .u64 x19, .int .i64 x20, .int .i64 x21, .int .i64 x22, .int .i64 x23, .int .i64 x24, .int .i64 x25, .bool x26, .bool x27, .arr .i64 8 x28, .int .i64 x29, .int .i64 x30, .int .i64 x31, .int .i64 x32, .int .i64 x33, .int .i64 x34, .bool x35, .bool x36, .dat 43 x37] ∧ s_19_13  x1 x2 x3 x4 x5 x6 x7 x8 x9 x10 x11 x12 x13 x14 x15 x16 x17 x18 x19 x20 x21 x22 x23 x24 x25 x26 x27 x28 x29 x30 x31 x32 x33 x34 x35 x36 x37 (fun y1 y2 y3 y4 y5 y6 y7 y8 y9 y10 y11 y12 y13 y14 y15 y16 y17 y18 y19 y20 y21 y22 y23 y24 y25 y26 y27 y28 y29 y30 y31 y32 y33 y34 y35 y36 => K (.exit 0) [.bool y1, .nils, .int .i64 y2, .int .i64 y3, .int .i64 y4, .int .i64 y5, .int .i64 y6, .int .i64 y7, .int .i64 y8, .int .i64 y9, .arr .i64 8 y10, .int .u64 y11, .int .i64 y12, .int .i64 y13, .int .i64 y14, .int .i64 y15, .int .i64 y16, .nils, .arr .i64 8 y17, .int .u64 y18, .int .i64 y19, .int .i64 y20, .int .i64 y21, .int .i64 y22, .int .i64 y23, .int .i64 y24, .bool y25, .bool y26, .arr .i64 8 y27, .int .i64 y28, .int .i64 y29, .int .i64 y30, .int .i64 y31, .int .i64 y32, .int .i64 y33, .bool y34, .bool y35, .dat 43 y36]) (fun y1 y2 y3 y4 y5 y6 y7 y8 y9 y10 y11 y12 y13 y14 y15 y16 y17 y18 y19 y20 y21 y22 y23 y24 y25 y26 y27 y28 y29 y30 y31 y32 y33 y34 y35 y36 => K .normal [.bool y1, .nils, .int .i64 y2, .int .i64 y3, .int .i64 y4, .int .i64 y5, .int .i64 y6, .int .i64 y7, .int .i64 y8, .int .i64 y9, .arr .i64 8 y10, .int .u64 y11, .int .i64 y12, .int .i64 y13, .int .i64 y14, .int .i64 y15, .int .i64 y16, .nils, .arr .i64 8 y17, .int .u64 y18, .int .i64 y19, .int .i64 y20, .int .i64 y21, .int .i64 y22, .int .i64 y23, .int .i64 y24, .bool y25, .bool y26, .arr .i64 8 y27, .int .i64 y28, .int .i64 y29, .int .i64 y30, .int .i64 y31, .int .i64 y32, .int .i64 y33, .bool y34, .bool y35, .dat 43 y36]) := by
  unfold v_19_13 at h
  replace h := dCB_spec h
  obtain ⟨x1, vs0, e0, h⟩ := h
  replace h := dCN_spec h
  obtain ⟨vs1, e1, h⟩ := h
  replace h := dCI_spec h
  obtain ⟨x2, vs2, e2, h⟩ := h
  replace h := dCI_spec h
  obtain ⟨x3, vs3, e3, h⟩ := h
  replace h := dCI_spec h
  obtain ⟨x4, vs4, e4, h⟩ := h
  replace h := dCD_spec h
  obtain ⟨x5, vs5, e5, h⟩ := h
  replace h := dCI_spec h
  obtain ⟨x6, vs6, e6, h⟩ := h
  replace h := dCI_spec h
  obtain ⟨x7, vs7, e7, h⟩ := h
  replace h := dCI_spec h
  obtain ⟨x8, vs8, e8, h⟩ := h
  replace h := dCI_spec h
  obtain ⟨x9, vs9, e9, h⟩ := h
  replace h := dCI_spec h
  obtain ⟨x10, vs10, e10, h⟩ := h
  replace h := dCA_spec h
  obtain ⟨x11, vs11, e11, h⟩ := h
  replace h := dCI_spec h
  obtain ⟨x12, vs12, e12, h⟩ := h
  replace h := dCI_spec h
  obtain ⟨x13, vs13, e13, h⟩ := h
  replace h := dCI_spec h
  obtain ⟨x14, vs14, e14, h⟩ := h
  replace h := dCI_spec h
  obtain ⟨x15, vs15, e15, h⟩ := h
  replace h := dCI_spec h
  obtain ⟨x16, vs16, e16, h⟩ := h
  replace h := dCI_spec h
  obtain ⟨x17, vs17, e17, h⟩ := h
  replace h := dCN_spec h
  obtain ⟨vs18, e18, h⟩ := h
  replace h := dCA_spec h
  obtain ⟨x18, vs19, e19, h⟩ := h
  replace h := dCI_spec h
  obtain ⟨x19, vs20, e20, h⟩ := h
  replace h := dCI_spec h
  obtain ⟨x20, vs21, e21, h⟩ := h
  replace h := dCI_spec h
  obtain ⟨x21, vs22, e22, h⟩ := h
  replace h := dCI_spec h
  obtain ⟨x22, vs23, e23, h⟩ := h
  replace h := dCI_spec h
  obtain ⟨x23, vs24, e24, h⟩ := h
  replace h := dCI_spec h
  obtain ⟨x24, vs25, e25, h⟩ := h
  replace h := dCI_spec h
  obtain ⟨x25, vs26, e26, h⟩ := h
  replace h := dCB_spec h
  obtain ⟨x26, vs27, e27, h⟩ := h
  replace h := dCB_spec h
  obtain ⟨x27, vs28, e28, h⟩ := h
  replace h := dCA_spec h
  obtain ⟨x28, vs29, e29, h⟩ := h
  replace h := dCI_spec h
  obtain ⟨x29, vs30, e30, h⟩ := h
  replace h := dCI_spec h
  obtain ⟨x30, vs31, e31, h⟩ := h
  replace h := dCI_spec h
  obtain ⟨x31, vs32, e32, h⟩ := h
  replace h := dCI_spec h
  obtain ⟨x32, vs33, e33, h⟩ := h
  replace h := dCI_spec h
  obtain ⟨x33, vs34, e34, h⟩ := h
  replace h := dCI_spec h
  obtain ⟨x34, vs35, e35, h⟩ := h
  replace h := dCB_spec h
  obtain ⟨x35, vs36, e36, h⟩ := h
  replace h := dCB_spec h
  obtain ⟨x36, vs37, e37, h⟩ := h
  replace h := dCD_spec h
  obtain ⟨x37, vs38, e38, h⟩ := h
  replace h := dCE_spec h
  obtain ⟨e, h⟩ := h
  exact ⟨x1, x2, x3, x4, x5, x6, x7, x8, x9, x10, x11, x12, x13, x14, x15, x16, x17, x18, x19, x20, x21, x22, x23, x24, x25, x26, x27, x28, x29, x30, x31, x32, x33, x34, x35, x36, x37, by rw [e0, e1, e2, e3, e4, e5, e6, e7, e8, e9, e10, e11, e12, e13, e14, e15, e16, e17, e18, e19, e20, e21, e22, e23, e24, e25, e26, e27, e28, e29, e30, e31, e32, e33, e34, e35, e36, e37, e38, e], h⟩
theorem oq_19_13 : PieceOk Try.prog env q_19_13 (seqAt b19 13) := by
  refine seq_step tab (ctxG_ok R51_ok false [] _ _) booq_19_13 (pieces_subS pooq_19_13_19 (by kernel_rfl)) 2000 ?_
  intro vs K h
  obtain ⟨x1, x2, x3, x4, x5, x6, x7, x8, x9, x10, x11, x12, x13, x14, x15, x16, x17, x18, x19, x20, x21, x22, x23, x24, x25, x26, x27, x28, x29, x30, x31, x32, x33, x34, x35, x36, x37, rfl, h⟩ := wioq_19_13 vs K h
  exact Eq.mp (stoq_19_13 x1 x2 x3 x4 x5 x6 x7 x8 x9 x10 x11 x12 x13 x14 x15 x16 x17 x18 x19 x20 x21 x22 x23 x24 x25 x26 x27 x28 x29 x30 x31 x32 x33 x34 x35 x36 x37 K) h
theorem pook_19_8_19 : PiecesOk Try.prog env (ctxG env false [] R51 [(71, [(3, p_19x71_3)])] [(19, [(13, q_19_13)])]) 19 b19 :=
  pieces_at (L := []) (S := [(13, q_19_13)]) (fun _ => rfl) (fun _ => rfl) (by kernel_rfl) (by kernel_rfl) (fun _ hq => by cases hq) (List.forall_mem_cons.2 ⟨fun _ => oq_19_13, (fun _ hq => by cases hq)⟩)
theorem pook_19_8_71 : PiecesOk Try.prog env (ctxG env false [] R51 [(71, [(3, p_19x71_3)])] [(19, [(13, q_19_13)])]) 71 b71 :=
  pieces_at (L := [(3, p_19x71_3)]) (S := []) (fun _ => rfl) (fun _ => rfl) (by kernel_rfl) (by kernel_rfl) (List.forall_mem_cons.2 ⟨fun _ => ok_19x71_3, (fun _ hq => by cases hq)⟩) (fun _ hq => by cases hq)
theorem book_19_8 : BodiesOk Try.prog env (ctxG env false [] R51 [(71, [(3, p_19x71_3)])] [(19, [(13, q_19_13)])]) := bodies_okG (ks := [19, 71]) (by kernel_rfl) (List.forall_mem_cons.2 ⟨body_at (fn := f19) (body := b19) rfl hb19 pook_19_8_19, (List.forall_mem_cons.2 ⟨body_at (fn := f71) (body := b71) rfl hb71 pook_19_8_71, (fun _ hq => by cases hq)⟩)⟩)
theorem stok_19_8 (k : Nat) (x1 : Bool) (x2 : Int) (x3 : Int) (x4 : Int) (x5 : Int) (x6 : Int) (x7 : Int) (x8 : Int) (x9 : Int) (x10 : (List Int)) (x11 : Int) (x12 : Int) (x13 : Int) (x14 : Int) (x15 : Int) (x16 : Int) (x17 : (List Int)) (x18 : Int) (x19 : Int) (x20 : Int) (x21 : Int) (x22 : Int) (x23 : Int) (x24 : Int) (x25 : Bool) (x26 : Bool) (x27 : (List Int)) (x28 : Int) (x29 : Int) (x30 : Int) (x31 : Int) (x32 : Int) (x33 : Int) (x34 : Bool) (x35 : Bool) (x36 : (List (List Queued))) (K : Ex → List (SV env.T) → Prop) : l_19_8 (k + 1) x1 x2 x3 x4 x5 x6 x7 x8 x9 x10 x11 x12 x13 x14 x15 x16 x17 x18 x19 x20 x21 x22 x23 x24 x25 x26 x27 x28 x29 x30 x31 x32 x33 x34 x35 x36 (fun y1 y2 y3 y4 y5 y6 y7 y8 y9 y10 y11 y12 y13 y14 y15 y16 y17 y18 y19 y20 y21 y22 y23 y24 y25 y26 y27 y28 y29 y30 y31 y32 y33 y34 y35 y36 => K (.exit 0) [.bool y1, .nils, .int .i64 y2, .int .i64 y3, .int .i64 y4, .int .i64 y5, .int .i64 y6, .int .i64 y7, .int .i64 y8, .int .i64 y9, .arr .i64 8 y10, .int .u64 y11, .int .i64 y12, .int .i64 y13, .int .i64 y14, .int .i64 y15, .int .i64 y16, .nils, .arr .i64 8 y17, .int .u64 y18, .int .i64 y19, .int .i64 y20, .int .i64 y21, .int .i64 y22, .int .i64 y23, .int .i64 y24, .bool y25, .bool y26, .arr .i64 8 y27, .int .i64 y28, .int .i64 y29, .int .i64 y30, .int .i64 y31, .int .i64 y32, .int .i64 y33, .bool y34, .bool y35, .dat 43 y36]) = vcCode env (ctxG env false [] R51 [(71, [(3, p_19x71_3)])] [(19, [(13, q_19_13)])]) 2000 19 (loopAt b19 8) (insSt p_19_8.head [.bool x1, .nils, .int .i64 x2, .int .i64 x3, .int .i64 x4, .int .i64 x5, .int .i64 x6, .int .i64 x7, .int .i64 x8, .int .i64 x9, .arr .i64 8 x10, .int .u64 x11, .int .i64 x12, .int .i64 x13, .int .i64 x14, .int .i64 x15, .int .i64 x16, .nils, .arr .i64 8 x17, .int .u64 x18, .int .i64 x19, .int .i64 x20, .int .i64 x21, .int .i64 x22, .int .i64 x23, .int .i64 x24, .bool x25, .bool x26, .arr .i64 8 x27, .int .i64 x28, .int .i64 x29, .int .i64 x30, .int .i64 x31, .int .i64 x32, .int .i64 x33, .bool x34, .bool x35, .dat 43 x36]) (stepK p_19_8 (w_19_8 k) K) := by kernel_rfl
theorem wiok_19_8 (k : Nat) (vs : List (SV env.T)) (K : Ex → List (SV env.T) → Prop) (h : w_19_8 k vs K) : ∃ x1 : Bool, ∃ x2 : Int, ∃ x3 : Int, ∃ x4 : Int, ∃ x5 : Int, ∃ x6 : Int, ∃ x7 : Int, ∃ x8 : Int, ∃ x9 : Int, ∃ x10 : (List Int), ∃ x11 : Int, ∃ x12 : Int, ∃ x13 : Int, ∃ x14 : Int, ∃ x15 : Int, ∃ x16 : Int, ∃ x17 : (List Int), ∃ x18 : Int, ∃ x19 : Int, ∃ x20 : Int, ∃ x21 : Int, ∃ x22 : Int, ∃ x23 : Int, ∃ x24 : Int, ∃ x25 : Bool, ∃ x26 : Bool, ∃ x27 : (List Int), ∃ x28 : Int, ∃ x29 : Int, ∃ x30 : Int, ∃ x31 : Int, ∃ x32 : Int, ∃ x33 : Int, ∃ x34 : Bool, ∃ x35 : Bool, ∃ x36 : (List (List Queued)), vs = [.bool x1, .nils, .int .i64 x2, .int .i64 x3, .int .i64 x4, .int .i64 x5, .int .i64 x6, .int .i64 x7, .int .i64 x8, .int .i64 x9, .arr .i64 8 x10, .int .u64 x11, .int .i64 x12, .int .i64 x13, .int .i64 x14, .int .i64 x15, .int .i64 x16, .nils, .arr .i64 8 x17, .int .u64 x18, .int .i64 x19, .int .i64 x20, .int .i64 x21, .int .i64 x22, .int .i64 x23, .int .i64 x24, .bool x25, .bool x26, .arr .i64 8 x27, .int .i64 x28, .int .i64 x29, .int .i64 x30, .int .i64 x31, .int .i64 x32, .int .i64 x33, .bool x34, .bool x35, .dat 43 x36] ∧ l_19_8 k x1 x2 x3 x4 x5 x6 x7 x8 x9 x10 x11 x12 x13 x14 x15 x16 x17 x18 x19 x20 x21 x22 x23 x24 x25 x26 x27 x28 x29 x30 x31 x32 x33 x34 x35 x36 (fun y1 y2 y3 y4 y5 y6 y7 y8 y9 y10 y11 y12 y13 y14 y15 y16 y17 y18 y19 y20 y21 y22 y23 y24 y25 y26 y27 y28 y29 y30 y31 y32 y33 y34 y35 y36 => K (.exit 0) [.bool y1, .nils, .int .i64 y2, .int .i64 y3, .int .i64 y4, .int .i64 y5, .int .i64 y6, .int .i64 y7, .int .i64 y8, .int .i64 y9, .arr .i64 8 y10, .int .u64 y11, .int .i64 y12, .int .i64 y13, .int .i64 y14, .int .i64 y15, .int .i64 y16, .nils, .arr .i64 8 y17, .int .u64 y18, .int .i64 y19, .int .i64 y20, .int .i64 y21, .int .i64 y22, .int .i64 y23, .int .i64 y24, .bool y25, .bool y26, .arr .i64 8 y27, .int .i64 y28, .int .i64 y29, .int .i64 y30, .int .i64 y31, .int .i64 y32, .int .i64 y33, .bool y34, .bool y35, .dat 43 y36]) := by
  unfold w_19_8 at h
  replace h := dCB_spec h
  obtain ⟨x1, vs0, e0, h⟩ := h
  replace h := dCN_spec h
  obtain ⟨vs1, e1, h⟩ := h
  replace h := dCI_spec h
  obtain ⟨x2, vs2, e2, h⟩ := h
  replace h := dCI_spec h
  obtain ⟨x3, vs3, e3, h⟩ := h
  replace h := dCI_spec h
  obtain ⟨x4, vs4, e4, h⟩ := h
  replace h := dCI_spec h
  obtain ⟨x5, vs5, e5, h⟩ := h
  replace h := dCI_spec h
  obtain ⟨x6, vs6, e6, h⟩ := h
  replace h := dCI_spec h
  obtain ⟨x7, vs7, e7, h⟩ := h
  replace h := dCI_spec h
  obtain ⟨x8, vs8, e8, h⟩ := h
  replace h := dCI_spec h
  obtain ⟨x9, vs9, e9, h⟩ := h
  replace h := dCA_spec h
  obtain ⟨x10, vs10, e10, h⟩ := h
  replace h := dCI_spec h
  obtain ⟨x11, vs11, e11, h⟩ := h
  replace h := dCI_spec h
  obtain ⟨x12, vs12, e12, h⟩ := h
  replace h := dCI_spec h
  obtain ⟨x13, vs13, e13, h⟩ := h
  replace h := dCI_spec h
  obtain ⟨x14, vs14, e14, h⟩ := h
  replace h := dCI_spec h
  obtain ⟨x15, vs15, e15, h⟩ := h
  replace h := dCI_spec h
  obtain ⟨x16, vs16, e16, h⟩ := h
  replace h := dCN_spec h
  obtain ⟨vs17, e17, h⟩ := h
  replace h := dCA_spec h
  obtain ⟨x17, vs18, e18, h⟩ := h
  replace h := dCI_spec h
  obtain ⟨x18, vs19, e19, h⟩ := h
  replace h := dCI_spec h
  obtain ⟨x19, vs20, e20, h⟩ := h
  replace h := dCI_spec h
  obtain ⟨x20, vs21, e21, h⟩ := h
  replace h := dCI_spec h
  obtain ⟨x21, vs22, e22, h⟩ := h
  replace h := dCI_spec h
  obtain ⟨x22, vs23, e23, h⟩ := h
  replace h := dCI_spec h
  obtain ⟨x23, vs24, e24, h⟩ := h
  replace h := dCI_spec h
  obtain ⟨x24, vs25, e25, h⟩ := h
  replace h := dCB_spec h
  obtain ⟨x25, vs26, e26, h⟩ := h
  replace h := dCB_spec h
  obtain ⟨x26, vs27, e27, h⟩ := h
  replace h := dCA_spec h
  obtain ⟨x27, vs28, e28, h⟩ := h
  replace h := dCI_spec h
  obtain ⟨x28, vs29, e29, h⟩ := h
  replace h := dCI_spec h
  obtain ⟨x29, vs30, e30, h⟩ := h
  replace h := dCI_spec h
  obtain ⟨x30, vs31, e31, h⟩ := h
  replace h := dCI_spec h
  obtain ⟨x31, vs32, e32, h⟩ := h
  replace h := dCI_spec h
  obtain ⟨x32, vs33, e33, h⟩ := h
  replace h := dCI_spec h
  obtain ⟨x33, vs34, e34, h⟩ := h
  replace h := dCB_spec h
  obtain ⟨x34, vs35, e35, h⟩ := h
  replace h := dCB_spec h
  obtain ⟨x35, vs36, e36, h⟩ := h
  replace h := dCD_spec h
  obtain ⟨x36, vs37, e37, h⟩ := h
  replace h := dCE_spec h
  obtain ⟨e, h⟩ := h
  exact ⟨x1, x2, x3, x4, x5, x6, x7, x8, x9, x10, x11, x12, x13, x14, x15, x16, x17, x18, x19, x20, x21, x22, x23, x24, x25, x26, x27, x28, x29, x30, x31, x32, x33, x34, x35, x36, by rw [e0, e1, e2, e3, e4, e5, e6, e7, e8, e9, e10, e11, e12, e13, e14, e15, e16, e17, e18, e19, e20, e21, e22, e23, e24, e25, e26, e27, e28, e29, e30, e31, e32, e33, e34, e35, e36, e37, e], h⟩
theorem zeok_19_8 (x1 : Bool) (x2 : Int) (x3 : Int) (x4 : Int) (x5 : Int) (x6 : Int) (x7 : Int) (x8 : Int) (x9 : Int) (x10 : (List Int)) (x11 : Int) (x12 : Int) (x13 : Int) (x14 : Int) (x15 : Int) (x16 : Int) (x17 : (List Int)) (x18 : Int) (x19 : Int) (x20 : Int) (x21 : Int) (x22 : Int) (x23 : Int) (x24 : Int) (x25 : Bool) (x26 : Bool) (x27 : (List Int)) (x28 : Int) (x29 : Int) (x30 : Int) (x31 : Int) (x32 : Int) (x33 : Int) (x34 : Bool) (x35 : Bool) (x36 : (List (List Queued))) (K : Ex → List (SV env.T) → Prop) : l_19_8 0 x1 x2 x3 x4 x5 x6 x7 x8 x9 x10 x11 x12 x13 x14 x15 x16 x17 x18 x19 x20 x21 x22 x23 x24 x25 x26 x27 x28 x29 x30 x31 x32 x33 x34 x35 x36 (fun y1 y2 y3 y4 y5 y6 y7 y8 y9 y10 y11 y12 y13 y14 y15 y16 y17 y18 y19 y20 y21 y22 y23 y24 y25 y26 y27 y28 y29 y30 y31 y32 y33 y34 y35 y36 => K (.exit 0) [.bool y1, .nils, .int .i64 y2, .int .i64 y3, .int .i64 y4, .int .i64 y5, .int .i64 y6, .int .i64 y7, .int .i64 y8, .int .i64 y9, .arr .i64 8 y10, .int .u64 y11, .int .i64 y12, .int .i64 y13, .int .i64 y14, .int .i64 y15, .int .i64 y16, .nils, .arr .i64 8 y17, .int .u64 y18, .int .i64 y19, .int .i64 y20, .int .i64 y21, .int .i64 y22, .int .i64 y23, .int .i64 y24, .bool y25, .bool y26, .arr .i64 8 y27, .int .i64 y28, .int .i64 y29, .int .i64 y30, .int .i64 y31, .int .i64 y32, .int .i64 y33, .bool y34, .bool y35, .dat 43 y36]) = False := by kernel_rfl
theorem ok_19_8 : PieceOk Try.prog env p_19_8 (.loop (loopAt b19 8)) := by
  refine loop_step (Wn := w_19_8) tab (ctxG_ok R51_ok false [] _ _) book_19_8 (pieces_sub pook_19_8_19 (by kernel_rfl)) rfl ?_ 2000 ?_
  · intro vs K h
    obtain ⟨x1, x2, x3, x4, x5, x6, x7, x8, x9, x10, x11, x12, x13, x14, x15, x16, x17, x18, x19, x20, x21, x22, x23, x24, x25, x26, x27, x28, x29, x30, x31, x32, x33, x34, x35, x36, _, h⟩ := wiok_19_8 0 vs K h
    exact Eq.mp (zeok_19_8 x1 x2 x3 x4 x5 x6 x7 x8 x9 x10 x11 x12 x13 x14 x15 x16 x17 x18 x19 x20 x21 x22 x23 x24 x25 x26 x27 x28 x29 x30 x31 x32 x33 x34 x35 x36 K) h
  · intro k vs K h
    obtain ⟨x1, x2, x3, x4, x5, x6, x7, x8, x9, x10, x11, x12, x13, x14, x15, x16, x17, x18, x19, x20, x21, x22, x23, x24, x25, x26, x27, x28, x29, x30, x31, x32, x33, x34, x35, x36, rfl, h⟩ := wiok_19_8 (k + 1) vs K h
    exact Eq.mp (stok_19_8 k x1 x2 x3 x4 x5 x6 x7 x8 x9 x10 x11 x12 x13 x14 x15 x16 x17 x18 x19 x20 x21 x22 x23 x24 x25 x26 x27 x28 x29 x30 x31 x32 x33 x34 x35 x36 K) h
theorem pooq_19_20_19 : PiecesOk Try.prog env (ctxG env false [] R51 [(71, [(3, p_19x71_3)])] []) 19 b19 :=
  pieces_at (L := []) (S := []) (fun _ => rfl) (fun _ => rfl) (by kernel_rfl) (by kernel_rfl) (fun _ hq => by cases hq) (fun _ hq => by cases hq)
theorem pooq_19_20_71 : PiecesOk Try.prog env (ctxG env false [] R51 [(71, [(3, p_19x71_3)])] []) 71 b71 :=
  pieces_at (L := [(3, p_19x71_3)]) (S := []) (fun _ => rfl) (fun _ => rfl) (by kernel_rfl) (by kernel_rfl) (List.forall_mem_cons.2 ⟨fun _ => ok_19x71_3, (fun _ hq => by cases hq)⟩) (fun _ hq => by cases hq)
theorem booq_19_20 : BodiesOk Try.prog env (ctxG env false [] R51 [(71, [(3, p_19x71_3)])] []) := bodies_okG (ks := [71]) (by kernel_rfl) (List.forall_mem_cons.2 ⟨body_at (fn := f71) (body := b71) rfl hb71 pooq_19_20_71, (fun _ hq => by cases hq)⟩)
theorem stoq_19_20 (x1 : Bool) (x2 : Int) (x3 : Int) (x4 : Int) (x5 : Int) (x6 : Int) (x7 : Int) (x8 : Int) (x9 : Int) (x10 : (List Int)) (x11 : Int) (x12 : Int) (x13 : Int) (x14 : Int) (x15 : Int) (x16 : Int) (x17 : (List Int)) (x18 : Int) (x19 : Int) (x20 : Int) (x21 : Int) (x22 : Int) (x23 : Int) (x24 : Int) (x25 : Bool) (x26 : Bool) (x27 : (List Int)) (x28 : Int) (x29 : Int) (x30 : Int) (x31 : Int) (x32 : Int) (x33 : Int) (x34 : Bool) (x35 : Bool) (x36 : (List (List Queued))) (K : Ex → List (SV env.T) → Prop) : s_19_20  x1 x2 x3 x4 x5 x6 x7 x8 x9 x10 x11 x12 x13 x14 x15 x16 x17 x18 x19 x20 x21 x22 x23 x24 x25 x26 x27 x28 x29 x30 x31 x32 x33 x34 x35 x36 (fun y1 y2 y3 y4 y5 y6 y7 y8 y9 y10 y11 y12 y13 y14 y15 y16 y17 y18 => K .ret [.bool y1, .nils, .int .i64 y2, .int .i64 y3, .int .i64 y4, .int .i64 y5, .int .i64 y6, .int .i64 y7, .dat 43 y8, .arr .i64 8 y9, .int .u64 y10, .int .i64 y11, .int .i64 y12, .int .i64 y13, .int .i64 y14, .int .i64 y15, .int .i64 y16, .bool y17, .bool y18]) = vcCode env (ctxG env false [] R51 [(71, [(3, p_19x71_3)])] []) 2000 19 (seqAt b19 20) (insSt q_19_20.head [.bool x1, .nils, .int .i64 x2, .int .i64 x3, .int .i64 x4, .int .i64 x5, .int .i64 x6, .int .i64 x7, .int .i64 x8, .int .i64 x9, .arr .i64 8 x10, .int .u64 x11, .int .i64 x12, .int .i64 x13, .int .i64 x14, .int .i64 x15, .int .i64 x16, .nils, .arr .i64 8 x17, .int .u64 x18, .int .i64 x19, .int .i64 x20, .int .i64 x21, .int .i64 x22, .int .i64 x23, .int .i64 x24, .bool x25, .bool x26, .arr .i64 8 x27, .int .i64 x28, .int .i64 x29, .int .i64 x30, .int .i64 x31, .int .i64 x32, .int .i64 x33, .bool x34, .bool x35, .dat 43 x36]) (outP env q_19_20 K) := by kernel_rfl
theorem wioq_19_20 (vs : List (SV env.T)) (K : Ex → List (SV env.T) → Prop) (h : v_19_20 vs K) : ∃ x1 : Bool, ∃ x2 : Int, ∃ x3 : Int, ∃ x4 : Int, ∃ x5 : Int, ∃ x6 : Int, ∃ x7 : Int, ∃ x8 : Int, ∃ x9 : Int, ∃ x10 : (List Int), ∃ x11 : Int, ∃ x12 : Int, ∃ x13 : Int, ∃ x14 : Int, ∃ x15 : Int, ∃ x16 : Int, ∃ x17 : (List Int), ∃ x18 : Int, ∃ x19 : Int, ∃ x20 : Int, ∃ x21 : Int, ∃ x22 : Int, ∃ x23 : Int, ∃ x24 : Int, ∃ x25 : Bool, ∃ x26 : Bool, ∃ x27 : (List Int), ∃ x28 : Int, ∃ x29 : Int, ∃ x30 : Int, ∃ x31 : Int, ∃ x32 : Int, ∃ x33 : Int, ∃ x34 : Bool, ∃ x35 : Bool, ∃ x36 : (List (List Queued)), vs = [.bool x1, .nils, .int .i64 x2, .int .i64 x3, .int .i64 x4, .int .i64 x5, .int .i64 x6, .int .i64 x7, .int .i64 x8, .int .i64 x9, .arr .i64 8 x10, .int .u64 x11, .int .i64 x12, .int .i64 x13, .int .i64 x14, .int .i64 x15, .int .i64 x16, .nils, .arr .i64 8 x17, .int .u64 x18, .int .i64 x19, .int .i64 x20, .int .i64 x21, .int .i64 x22, .int .i64 x23, .int .i64 x24, .bool x25, .bool x26, .arr .i64 8 x27, .int .i64 x28, .int .i64 x29, .int .i64 x30, .int .i64 x31, .int .i64 x32, .int .i64 x33, .bool x34, .bool x35, .dat 43 x36] ∧ s_19_20  x1 x2 x3 x4 x5 x6 x7 x8 x9 x10 x11 x12 x13 x14 x15 x16 x17 x18 x19 x20 x21 x22 x23 x24 x25 x26 x27 x28 x29 x30 x31 x32 x33 x34 x35 x36 (fun y1 y2 y3 y4 y5 y6 y7 y8 y9 y10 y11 y12 y13 y14 y15 y16 y17 y18 => K .ret [.bool y1, .nils, .int .i64 y2, .int .i64 y3, .int .i64 y4, .int .i64 y5, .int .i64 y6, .int .i64 y7, .dat 43 y8, .arr .i64 8 y9, .int .u64 y10, .int .i64 y11, .int .i64 y12, .int .i64 y13, .int .i64 y14, .int .i64 y15, .int .i64 y16, .bool y17, .bool y18]) := by
  unfold v_19_20 at h
  replace h := dCB_spec h
  obtain ⟨x1, vs0, e0, h⟩ := h
  replace h := dCN_spec h
  obtain ⟨vs1, e1, h⟩ := h
  replace h := dCI_spec h
  obtain ⟨x2, vs2, e2, h⟩ := h
  replace h := dCI_spec h
  obtain ⟨x3, vs3, e3, h⟩ := h
  replace h := dCI_spec h
  obtain ⟨x4, vs4, e4, h⟩ := h
  replace h := dCI_spec h
  obtain ⟨x5, vs5, e5, h⟩ := h
  replace h := dCI_spec h
  obtain ⟨x6, vs6, e6, h⟩ := h
  replace h := dCI_spec h
  obtain ⟨x7, vs7, e7, h⟩ := h
  replace h := dCI_spec h
  obtain ⟨x8, vs8, e8, h⟩ := h
  replace h := dCI_spec h
  obtain ⟨x9, vs9, e9, h⟩ := h
  replace h := dCA_spec h
  obtain ⟨x10, vs10, e10, h⟩ := h
  replace h := dCI_spec h
  obtain ⟨x11, vs11, e11, h⟩ := h
  replace h := dCI_spec h
  obtain ⟨x12, vs12, e12, h⟩ := h
  replace h := dCI_spec h
  obtain ⟨x13, vs13, e13, h⟩ := h
  replace h := dCI_spec h
  obtain ⟨x14, vs14, e14, h⟩ := h
  replace h := dCI_spec h
  obtain ⟨x15, vs15, e15, h⟩ := h
  replace h := dCI_spec h
  obtain ⟨x16, vs16, e16, h⟩ := h
  replace h := dCN_spec h
  obtain ⟨vs17, e17, h⟩ := h
  replace h := dCA_spec h
  obtain ⟨x17, vs18, e18, h⟩ := h
  replace h := dCI_spec h
  obtain ⟨x18, vs19, e19, h⟩ := h
  replace h := dCI_spec h
  obtain ⟨x19, vs20, e20, h⟩ := h
  replace h := dCI_spec h
  obtain ⟨x20, vs21, e21, h⟩ := h
  replace h := dCI_spec h
  obtain ⟨x21, vs22, e22, h⟩ := h
  replace h := dCI_spec h
  obtain ⟨x22, vs23, e23, h⟩ := h
  replace h := dCI_spec h
  obtain ⟨x23, vs24, e24, h⟩ := h
  replace h := dCI_spec h
  obtain ⟨x24, vs25, e25, h⟩ := h
  replace h := dCB_spec h
  obtain ⟨x25, vs26, e26, h⟩ := h
  replace h := dCB_spec h
  obtain ⟨x26, vs27, e27, h⟩ := h
  replace h := dCA_spec h
  obtain ⟨x27, vs28, e28, h⟩ := h
  replace h := dCI_spec h
  obtain ⟨x28, vs29, e29, h⟩ := h
  replace h := dCI_spec h
  obtain ⟨x29, vs30, e30, h⟩ := h
  replace h := dCI_spec h
  obtain ⟨x30, vs31, e31, h⟩ := h
  replace h := dCI_spec h
  obtain ⟨x31, vs32, e32, h⟩ := h
  replace h := dCI_spec h
  obtain ⟨x32, vs33, e33, h⟩ := h
  replace h := dCI_spec h
  obtain ⟨x33, vs34, e34, h⟩ := h
  replace h := dCB_spec h
  obtain ⟨x34, vs35, e35, h⟩ := h
  replace h := dCB_spec h
  obtain ⟨x35, vs36, e36, h⟩ := h
  replace h := dCD_spec h
  obtain ⟨x36, vs37, e37, h⟩ := h
  replace h := dCE_spec h
  obtain ⟨e, h⟩ := h
  exact ⟨x1, x2, x3, x4, x5, x6, x7, x8, x9, x10, x11, x12, x13, x14, x15, x16, x17, x18, x19, x20, x21, x22, x23, x24, x25, x26, x27, x28, x29, x30, x31, x32, x33, x34, x35, x36, by rw [e0, e1, e2, e3, e4, e5, e6, e7, e8, e9, e10, e11, e12, e13, e14, e15, e16, e17, e18, e19, e20, e21, e22, e23, e24, e25, e26, e27, e28, e29, e30, e31, e32, e33, e34, e35, e36, e37, e], h⟩
theorem oq_19_20 : PieceOk Try.prog env q_19_20 (seqAt b19 20) := by
  refine seq_step tab (ctxG_ok R51_ok false [] _ _) booq_19_20 (pieces_subS pooq_19_20_19 (by kernel_rfl)) 2000 ?_
  intro vs K h
  obtain ⟨x1, x2, x3, x4, x5, x6, x7, x8, x9, x10, x11, x12, x13, x14, x15, x16, x17, x18, x19, x20, x21, x22, x23, x24, x25, x26, x27, x28, x29, x30, x31, x32, x33, x34, x35, x36, rfl, h⟩ := wioq_19_20 vs K h
  exact Eq.mp (stoq_19_20 x1 x2 x3 x4 x5 x6 x7 x8 x9 x10 x11 x12 x13 x14 x15 x16 x17 x18 x19 x20 x21 x22 x23 x24 x25 x26 x27 x28 x29 x30 x31 x32 x33 x34 x35 x36 K) h
theorem pooq_19_4_19 : PiecesOk Try.prog env (ctxG env false [] R51 [(71, [(3, p_19x71_3)]), (19, [(8, p_19_8)])] [(19, [(13, q_19_13), (20, q_19_20)])]) 19 b19 :=
  pieces_at (L := [(8, p_19_8)]) (S := [(13, q_19_13), (20, q_19_20)]) (fun _ => rfl) (fun _ => rfl) (by kernel_rfl) (by kernel_rfl) (List.forall_mem_cons.2 ⟨fun _ => ok_19_8, (fun _ hq => by cases hq)⟩) (List.forall_mem_cons.2 ⟨fun _ => oq_19_13, (List.forall_mem_cons.2 ⟨fun _ => oq_19_20, (fun _ hq => by cases hq)⟩)⟩)
theorem pooq_19_4_71 : PiecesOk Try.prog env (ctxG env false [] R51 [(71, [(3, p_19x71_3)]), (19, [(8, p_19_8)])] [(19, [(13, q_19_13), (20, q_19_20)])]) 71 b71 :=
  pieces_at (L := [(3, p_19x71_3)]) (S := []) (fun _ => rfl) (fun _ => rfl) (by kernel_rfl) (by kernel_rfl) (List.forall_mem_cons.2 ⟨fun _ => ok_19x71_3, (fun _ hq => by cases hq)⟩) (fun _ hq => by cases hq)
theorem booq_19_4 : BodiesOk Try.prog env (ctxG env false [] R51 [(71, [(3, p_19x71_3)]), (19, [(8, p_19_8)])] [(19, [(13, q_19_13), (20, q_19_20)])]) := bodies_okG (ks := [19, 71]) (by kernel_rfl) (List.forall_mem_cons.2 ⟨body_at (fn := f19) (body := b19) rfl hb19 pooq_19_4_19, (List.forall_mem_cons.2 ⟨body_at (fn := f71) (body := b71) rfl hb71 pooq_19_4_71, (fun _ hq => by cases hq)⟩)⟩)
theorem stoq_19_4 (x1 : Bool) (x2 : Int) (x3 : Int) (x4 : Int) (x5 : Int) (x6 : Int) (x7 : Int) (x8 : (List Int)) (x9 : Int) (x10 : Int) (x11 : Int) (x12 : Int) (x13 : Int) (x14 : Int) (x15 : (List Int)) (x16 : Int) (x17 : Int) (x18 : Int) (x19 : Int) (x20 : Int) (x21 : Int) (x22 : Int) (x23 : Bool) (x24 : Bool) (x25 : (List (List Queued))) (K : Ex → List (SV env.T) → Prop) : s_19_4  x1 x2 x3 x4 x5 x6 x7 x8 x9 x10 x11 x12 x13 x14 x15 x16 x17 x18 x19 x20 x21 x22 x23 x24 x25 (fun y1 y2 y3 y4 y5 y6 y7 y8 y9 y10 y11 y12 y13 y14 y15 y16 y17 y18 => K .ret [.bool y1, .nils, .int .i64 y2, .int .i64 y3, .int .i64 y4, .int .i64 y5, .int .i64 y6, .int .i64 y7, .dat 43 y8, .arr .i64 8 y9, .int .u64 y10, .int .i64 y11, .int .i64 y12, .int .i64 y13, .int .i64 y14, .int .i64 y15, .int .i64 y16, .bool y17, .bool y18]) = vcCode env (ctxG env false [] R51 [(71, [(3, p_19x71_3)]), (19, [(8, p_19_8)])] [(19, [(13, q_19_13), (20, q_19_20)])]) 2000 19 (seqAt b19 4) (insSt q_19_4.head [.bool x1, .nils, .int .i64 x2, .int .i64 x3, .int .i64 x4, .int .i64 x5, .int .i64 x6, .int .i64 x7, .arr .i64 8 x8, .int .u64 x9, .int .i64 x10, .int .i64 x11, .int .i64 x12, .int .i64 x13, .int .i64 x14, .nils, .arr .i64 8 x15, .int .u64 x16, .int .i64 x17, .int .i64 x18, .int .i64 x19, .int .i64 x20, .int .i64 x21, .int .i64 x22, .bool x23, .bool x24, .dat 43 x25]) (outP env q_19_4 K) := by kernel_rfl
theorem wioq_19_4 (vs : List (SV env.T)) (K : Ex → List (SV env.T) → Prop) (h : v_19_4 vs K) : ∃ x1 : Bool, ∃ x2 : Int, ∃ x3 : Int, ∃ x4 : Int, ∃ x5 : Int, ∃ x6 : Int, ∃ x7 : Int, ∃ x8 : (List Int), ∃ x9 : Int, ∃ x10 : Int, ∃ x11 : Int, ∃ x12 : Int, ∃ x13 : Int, ∃ x14 : Int, ∃ x15 : (List Int), ∃ x16 : Int, ∃ x17 : Int, ∃ x18 : Int, ∃ x19 : Int, ∃ x20 : Int, ∃ x21 : Int, ∃ x22 : Int, ∃ x23 : Bool, ∃ x24 : Bool, ∃ x25 : (List (List Queued)), vs = [.bool x1, .nils, .int .i64 x2, .int .i64 x3, .int .i64 x4, .int .i64 x5, .int .i64 x6, .int .i64 x7, .arr .i64 8 x8, .int .u64 x9, .int .i64 x10, .int .i64 x11, .int .i64 x12, .int .i64 x13, .int .i64 x14, .nils, .arr .i64 8 x15, .int .u64 x16, .int .i64 x17, .int .i64 x18, .int .i64 x19, .int .i64 x20, .int .i64 x21, .int .i64 x22, .bool x23, .bool x24, .dat 43 x25] ∧ s_19_4  x1 x2 x3 x4 x5 x6 x7 x8 x9 x10 x11 x12 x13 x14 x15 x16 x17 x18 x19 x20 x21 x22 x23 x24 x25 (fun y1 y2 y3 y4 y5 y6 y7 y8 y9 y10 y11 y12 y13 y14 y15 y16 y17 y18 => K .ret [.bool y1, .nils, .int .i64 y2, .int .i64 y3, .int .i64 y4, .int .i64 y5, .int .i64 y6, .int .i64 y7, .dat 43 y8, .arr .i64 8 y9, .int .u64 y10, .int .i64 y11, .int .i64 y12, .int .i64 y13, .int .i64 y14, .int .i64 y15, .int .i64 y16, .bool y17, .bool y18]) := by
  unfold v_19_4 at h
  replace h := dCB_spec h
  obtain ⟨x1, vs0, e0, h⟩ := h
  replace h := dCN_spec h
  obtain ⟨vs1, e1, h⟩ := h
  replace h := dCI_spec h
  obtain ⟨x2, vs2, e2, h⟩ := h
  replace h := dCI_spec h
  obtain ⟨x3, vs3, e3, h⟩ := h
  replace h := dCI_spec h
  obtain ⟨x4, vs4, e4, h⟩ := h
  replace h := dCI_spec h
  obtain ⟨x5, vs5, e5, h⟩ := h
  replace h := dCI_spec h
  obtain ⟨x6, vs6, e6, h⟩ := h
  replace h := dCI_spec h
  obtain ⟨x7, vs7, e7, h⟩ := h
  replace h := dCA_spec h
  obtain ⟨x8, vs8, e8, h⟩ := h
  replace h := dCI_spec h
  obtain ⟨x9, vs9, e9, h⟩ := h
  replace h := dCI_spec h
  obtain ⟨x10, vs10, e10, h⟩ := h
  replace h := dCI_spec h
  obtain ⟨x11, vs11, e11, h⟩ := h
  replace h := dCI_spec h
  obtain ⟨x12, vs12, e12, h⟩ := h
  replace h := dCI_spec h
  obtain ⟨x13, vs13, e13, h⟩ := h
  replace h := dCI_spec h
  obtain ⟨x14, vs14, e14, h⟩ := h
  replace h := dCN_spec h
  obtain ⟨vs15, e15, h⟩ := h
  replace h := dCA_spec h
  obtain ⟨x15, vs16, e16, h⟩ := h
  replace h := dCI_spec h
  obtain ⟨x16, vs17, e17, h⟩ := h
  replace h := dCI_spec h
  obtain ⟨x17, vs18, e18, h⟩ := h
  replace h := dCI_spec h
  obtain ⟨x18, vs19, e19, h⟩ := h
  replace h := dCI_spec h
  obtain ⟨x19, vs20, e20, h⟩ := h
  replace h := dCI_spec h
  obtain ⟨x20, vs21, e21, h⟩ := h
  replace h := dCI_spec h
  obtain ⟨x21, vs22, e22, h⟩ := h
  replace h := dCI_spec h
  obtain ⟨x22, vs23, e23, h⟩ := h
  replace h := dCB_spec h
  obtain ⟨x23, vs24, e24, h⟩ := h
  replace h := dCB_spec h
  obtain ⟨x24, vs25, e25, h⟩ := h
  replace h := dCD_spec h
  obtain ⟨x25, vs26, e26, h⟩ := h
  replace h := dCE_spec h
  obtain ⟨e, h⟩ := h
  exact ⟨x1, x2, x3, x4, x5, x6, x7, x8, x9, x10, x11, x12, x13, x14, x15, x16, x17, x18, x19, x20, x21, x22, x23, x24, x25, by rw [e0, e1, e2, e3, e4, e5, e6, e7, e8, e9, e10, e11, e12, e13, e14, e15, e16, e17, e18, e19, e20, e21, e22, e23, e24, e25, e26, e], h⟩
theorem oq_19_4 : PieceOk Try.prog env q_19_4 (seqAt b19 4) := by
  refine seq_step tab (ctxG_ok R51_ok false [] _ _) booq_19_4 (pieces_subS pooq_19_4_19 (by kernel_rfl)) 2000 ?_
  intro vs K h
  obtain ⟨x1, x2, x3, x4, x5, x6, x7, x8, x9, x10, x11, x12, x13, x14, x15, x16, x17, x18, x19, x20, x21, x22, x23, x24, x25, rfl, h⟩ := wioq_19_4 vs K h
  exact Eq.mp (stoq_19_4 x1 x2 x3 x4 x5 x6 x7 x8 x9 x10 x11 x12 x13 x14 x15 x16 x17 x18 x19 x20 x21 x22 x23 x24 x25 K) h
theorem po_19_19 : PiecesOk Try.prog env (ctxG env false [] R51 [(71, [(3, p_19x71_3)]), (19, [(8, p_19_8)])] [(19, [(13, q_19_13), (20, q_19_20), (4, q_19_4)])]) 19 b19 :=
  pieces_at (L := [(8, p_19_8)]) (S := [(13, q_19_13), (20, q_19_20), (4, q_19_4)]) (fun _ => rfl) (fun _ => rfl) (by kernel_rfl) (by kernel_rfl) (List.forall_mem_cons.2 ⟨fun _ => ok_19_8, (fun _ hq => by cases hq)⟩) (List.forall_mem_cons.2 ⟨fun _ => oq_19_13, (List.forall_mem_cons.2 ⟨fun _ => oq_19_20, (List.forall_mem_cons.2 ⟨fun _ => oq_19_4, (fun _ hq => by cases hq)⟩)⟩)⟩)
theorem po_19_71 : PiecesOk Try.prog env (ctxG env false [] R51 [(71, [(3, p_19x71_3)]), (19, [(8, p_19_8)])] [(19, [(13, q_19_13), (20, q_19_20), (4, q_19_4)])]) 71 b71 :=
  pieces_at (L := [(3, p_19x71_3)]) (S := []) (fun _ => rfl) (fun _ => rfl) (by kernel_rfl) (by kernel_rfl) (List.forall_mem_cons.2 ⟨fun _ => ok_19x71_3, (fun _ hq => by cases hq)⟩) (fun _ hq => by cases hq)
theorem bo_19 : BodiesOk Try.prog env (ctxG env false [] R51 [(71, [(3, p_19x71_3)]), (19, [(8, p_19_8)])] [(19, [(13, q_19_13), (20, q_19_20), (4, q_19_4)])]) := bodies_okG (ks := [19, 71]) (by kernel_rfl) (List.forall_mem_cons.2 ⟨body_at (fn := f19) (body := b19) rfl hb19 po_19_19, (List.forall_mem_cons.2 ⟨body_at (fn := f71) (body := b71) rfl hb71 po_19_71, (fun _ hq => by cases hq)⟩)⟩)
theorem eq_19 (x0 : Queue) (x1 : Int) (K : Y19 → Prop) : vcCode env (ctxG env false [] R51 [(71, [(3, p_19x71_3)]), (19, [(8, p_19_8)])] [(19, [(13, q_19_13), (20, q_19_20), (4, q_19_4)])]) 2000 19 b19 (entry env f19 [v28 x0, v3 x1]) (finR env f19 decR19 K) = B19 x0 x1 K := by kernel_rfl
noncomputable def rule19 : Nat × Rule env := (19, ruleF env decA19 encR19 fun x => V19 x.1 x.2)
theorem r19 : RuleOk Try.prog env 19 rule19.2 :=
  rule_fun tab (ctxG_ok R51_ok false [] _ _) bo_19 (f := 19) (fn := f19) rfl hb19 po_19_19 2000 encA19 hA19 hR19 hD19 (fun _ => of_decide_eq_true (by kernel_rfl)) (fun x K => (eq_19 x.1 x.2 K).trans (by rw [V19_eq]))
noncomputable def R19 : List (Nat × Rule env) := rule19 :: R51
theorem R19_ok : AllOk Try.prog env R19 := ⟨r19, R51_ok⟩
end Go.Vg.Ytgekegoflaichaa
