/-
  Walked functions of the program: predicate transformers and their rules. Written by a program of this work (gen.py, VgGen.lean) out of the executor's own reduction; no condition.
-/
import Derived.Test.YtkaodeodiakldaaEnv
set_option maxRecDepth 100000
set_option maxHeartbeats 4000000
namespace Go.Vg.Ytkaodeodiakldaa
open Go.Vg Go.Proofs
noncomputable def R0 : List (Nat × Rule env) := []
theorem R0_ok : AllOk Try.prog env R0 := trivial
-- 20 queuelab/workers.in
noncomputable def f20 : Func := Try.f20
noncomputable def b20 : Code := (Try.f20.body).getD .skip
abbrev X20 := Int × Int × Int
def encA20 (x : X20) : List (SV env.T) := [v3 x.1, v3 x.2.1, v3 x.2.2]
def decA20 (l : List (SV env.T)) : Option X20 := match l with
  | [s0, s1, s2] => match u3 s0, u3 s1, u3 s2 with
    | some x0, some x1, some x2 => some (x0, x1, x2)
    | _, _, _ => none
  | _ => none
theorem hA20 (l : List (SV env.T)) (x : X20) (h : decA20 l = some x) : WkA env.has l (encA20 x) := by
  unfold decA20 at h; split at h
  · split at h
    · rename_i h0 h1 h2; cases h; exact (.cons (u3_wk h0) (.cons (u3_wk h1) (.cons (u3_wk h2) .nil)))
    · cases h
  · cases h
abbrev Y20 := Bool
def encR20 (x : Y20) : List (SV env.T) := [v4 x]
def decR20 (l : List (SV env.T)) : Option Y20 := match l with
  | [s0] => match u4 s0 with
    | some x0 => some (x0)
    | _ => none
  | _ => none
theorem hR20 (l : List (SV env.T)) (x : Y20) (h : decR20 l = some x) : WkA env.has l (encR20 x) := by
  unfold decR20 at h; split at h
  · split at h
    · rename_i h0; cases h; exact (.cons (u4_wk h0) .nil)
    · cases h
  · cases h
theorem hD20 (y : Y20) : isDataV (tupV (encR20 y)) = true := rfl
theorem hb20 : f20.body = some b20 := by kernel_rfl
noncomputable def B20 : Int → Int → Int → (Y20 → Prop) → Prop :=
  fun x0 x1 x2 K ↦ br (decide (x0 ≥ x1)) (K (decide (x0 ≤ x2))) (K false)
theorem V20_ex : ∃ V : Int → Int → Int → (Y20 → Prop) → Prop, V = B20 := ⟨_, rfl⟩
noncomputable def V20 : Int → Int → Int → (Y20 → Prop) → Prop := Classical.choose V20_ex
theorem V20_eq : V20 = B20 := Classical.choose_spec V20_ex
theorem po_20_20 : PiecesOk Try.prog env (ctxG env false [] R0 [] []) 20 b20 :=
  pieces_at (rfIn_body (fn := f20) (b := b20) rfl hb20) (L := []) (S := []) (fun _ => rfl) (fun _ => rfl) (by kernel_rfl) (by kernel_rfl) (fun _ hq => by cases hq) (fun _ hq => by cases hq)
theorem bo_20 : BodiesOk Try.prog env (ctxG env false [] R0 [] []) := bodies_okG (ks := []) (by kernel_rfl) (fun _ hq => by cases hq)
theorem eq_20 (x0 : Int) (x1 : Int) (x2 : Int) (K : Y20 → Prop) : vcCode env (ctxG env false [] R0 [] []) 2000 20 b20 (entry env f20 [v3 x0, v3 x1, v3 x2]) (finR env f20 decR20 K) = B20 x0 x1 x2 K := by kernel_rfl
noncomputable def rule20 : Nat × Rule env := (20, ruleF env decA20 encR20 fun x => V20 x.1 x.2.1 x.2.2)
theorem r20 : RuleOk Try.prog env 20 rule20.2 :=
  rule_fun tab (ctxG_ok R0_ok false [] _ _) bo_20 (f := 20) (fn := f20) rfl hb20 po_20_20 2000 encA20 hA20 hR20 hD20 (fun _ => of_decide_eq_true (by kernel_rfl)) (fun x K => (eq_20 x.1 x.2.1 x.2.2 K).trans (by rw [V20_eq]))
noncomputable def R20 : List (Nat × Rule env) := rule20 :: R0
theorem R20_ok : AllOk Try.prog env R20 := ⟨r20, R0_ok⟩
-- 14 queuelab/queuelabref37.Same
noncomputable def f14 : Func := Try.f14
noncomputable def b14 : Code := (Try.f14.body).getD .skip
abbrev X14 := (List Task) × (List Task)
def encA14 (x : X14) : List (SV env.T) := [v22 x.1, v22 x.2]
def decA14 (l : List (SV env.T)) : Option X14 := match l with
  | [s0, s1] => match u22 s0, u22 s1 with
    | some x0, some x1 => some (x0, x1)
    | _, _ => none
  | _ => none
theorem hA14 (l : List (SV env.T)) (x : X14) (h : decA14 l = some x) : WkA env.has l (encA14 x) := by
  unfold decA14 at h; split at h
  · split at h
    · rename_i h0 h1; cases h; exact (.cons (u22_wk h0) (.cons (u22_wk h1) .nil))
    · cases h
  · cases h
abbrev Y14 := Bool
def encR14 (x : Y14) : List (SV env.T) := [v4 x]
def decR14 (l : List (SV env.T)) : Option Y14 := match l with
  | [s0] => match u4 s0 with
    | some x0 => some (x0)
    | _ => none
  | _ => none
theorem hR14 (l : List (SV env.T)) (x : Y14) (h : decR14 l = some x) : WkA env.has l (encR14 x) := by
  unfold decR14 at h; split at h
  · split at h
    · rename_i h0; cases h; exact (.cons (u4_wk h0) .nil)
    · cases h
  · cases h
theorem hD14 (y : Y14) : isDataV (tupV (encR14 y)) = true := rfl
theorem hb14 : f14.body = some b14 := by kernel_rfl
def l_14_4 : Nat → (List Task) → (List Task) → Bool → Int → (Bool → Prop) → (Bool → Prop) → Prop
  | 0 => fun _ _ _ _ _ _ => False
  | k + 1 => fun x1 x2 x3 x4 kr k0 ↦ br (decide (x4 < (↑x1.length : Int))) (br (inb x4 (↑x1.length : Int)) (br (inb x4 (↑x2.length : Int)) (br (!andb ((x1.getD x4.toNat (env.d 39)).number == (x2.getD x4.toNat (env.d 39)).number) (andb ((x1.getD x4.toNat (env.d 39)).worker == (x2.getD x4.toNat (env.d 39)).worker) (andb ((x1.getD x4.toNat (env.d 39)).from_ == (x2.getD x4.toNat (env.d 39)).from_) ((x1.getD x4.toNat (env.d 39)).to_ == (x2.getD x4.toNat (env.d 39)).to_)))) (kr false) (l_14_4 k x1 x2 x3 (IntKind.i64.wrap (x4 + 1)) kr k0)) False) False) (k0 x3)
def w_14_4 (k : Nat) (vs : List (SV env.T)) (K : Ex → List (SV env.T) → Prop) : Prop :=
  dCD 39 vs fun x1 vs => dCD 39 vs fun x2 vs => dCB vs fun x3 vs => dCI .i64 vs fun x4 vs => dCE vs (l_14_4 k x1 x2 x3 x4 (fun y1 => K .ret [.bool y1]) (fun y1 => K (.exit 0) [.bool y1]))
def p_14_4 : Piece env := ⟨⟨[.holeD 39, .holeD 39, .any, .any, .hole, .hole, .any, .any, .any, .any, .any, .any, .any, .any, .any, .any, .any, .any, .any, .any, .any, .any, .any, .any, .any, .any], [], [], 0⟩, exitF none [(0, ⟨[.any, .any, .any, .any, .hole, .any, .any, .any, .any, .any, .any, .any, .any, .any, .any, .any, .any, .any, .any, .any, .any, .any, .any, .any, .any, .any], [], [], 0⟩)] (some ⟨[.any, .any, .any, .any, .hole, .any, .any, .any, .any, .any, .any, .any, .any, .any, .any, .any, .any, .any, .any, .any, .any, .any, .any, .any, .any, .any], [], [], 0⟩), fun vs K => ∃ k, w_14_4 k vs K⟩
noncomputable def B14 : (List Task) → (List Task) → (Y14 → Prop) → Prop :=
  fun x0 x1 K ↦ br ((↑x0.length : Int) != (↑x1.length : Int)) (K false) (∃ k3, l_14_4 k3 x0 x1 false 0 K fun _ ↦ K true)
theorem V14_ex : ∃ V : (List Task) → (List Task) → (Y14 → Prop) → Prop, V = B14 := ⟨_, rfl⟩
noncomputable def V14 : (List Task) → (List Task) → (Y14 → Prop) → Prop := Classical.choose V14_ex
theorem V14_eq : V14 = B14 := Classical.choose_spec V14_ex
theorem pook_14_4_14 : PiecesOk Try.prog env (ctxG env false [] R20 [] []) 14 b14 :=
  pieces_at (rfIn_body (fn := f14) (b := b14) rfl hb14) (L := []) (S := []) (fun _ => rfl) (fun _ => rfl) (by kernel_rfl) (by kernel_rfl) (fun _ hq => by cases hq) (fun _ hq => by cases hq)
theorem book_14_4 : BodiesOk Try.prog env (ctxG env false [] R20 [] []) := bodies_okG (ks := []) (by kernel_rfl) (fun _ hq => by cases hq)
theorem stok_14_4 (k : Nat) (x1 : (List Task)) (x2 : (List Task)) (x3 : Bool) (x4 : Int) (K : Ex → List (SV env.T) → Prop) : l_14_4 (k + 1) x1 x2 x3 x4 (fun y1 => K .ret [.bool y1]) (fun y1 => K (.exit 0) [.bool y1]) = vcCode env (ctxG env false [] R20 [] []) 2000 14 (loopAt b14 4) (insSt p_14_4.head [.dat 39 x1, .dat 39 x2, .bool x3, .int .i64 x4]) (stepK p_14_4 (w_14_4 k) K) := by kernel_rfl
theorem wiok_14_4 (k : Nat) (vs : List (SV env.T)) (K : Ex → List (SV env.T) → Prop) (h : w_14_4 k vs K) : ∃ x1 : (List Task), ∃ x2 : (List Task), ∃ x3 : Bool, ∃ x4 : Int, vs = [.dat 39 x1, .dat 39 x2, .bool x3, .int .i64 x4] ∧ l_14_4 k x1 x2 x3 x4 (fun y1 => K .ret [.bool y1]) (fun y1 => K (.exit 0) [.bool y1]) := by
  unfold w_14_4 at h
  replace h := dCD_spec h
  obtain ⟨x1, vs0, e0, h⟩ := h
  replace h := dCD_spec h
  obtain ⟨x2, vs1, e1, h⟩ := h
  replace h := dCB_spec h
  obtain ⟨x3, vs2, e2, h⟩ := h
  replace h := dCI_spec h
  obtain ⟨x4, vs3, e3, h⟩ := h
  replace h := dCE_spec h
  obtain ⟨e, h⟩ := h
  exact ⟨x1, x2, x3, x4, by rw [e0, e1, e2, e3, e], h⟩
theorem zeok_14_4 (x1 : (List Task)) (x2 : (List Task)) (x3 : Bool) (x4 : Int) (K : Ex → List (SV env.T) → Prop) : l_14_4 0 x1 x2 x3 x4 (fun y1 => K .ret [.bool y1]) (fun y1 => K (.exit 0) [.bool y1]) = False := by kernel_rfl
theorem ok_14_4 : PieceOk Try.prog env p_14_4 (.loop (loopAt b14 4)) := by
  refine loop_step (Wn := w_14_4) tab (ctxG_ok R20_ok false [] _ _) book_14_4 (pieces_sub pook_14_4_14 (by kernel_rfl)) rfl ?_ 2000 ?_
  · intro vs K h
    obtain ⟨x1, x2, x3, x4, _, h⟩ := wiok_14_4 0 vs K h
    exact Eq.mp (zeok_14_4 x1 x2 x3 x4 K) h
  · intro k vs K h
    obtain ⟨x1, x2, x3, x4, rfl, h⟩ := wiok_14_4 (k + 1) vs K h
    exact Eq.mp (stok_14_4 k x1 x2 x3 x4 K) h
theorem po_14_14 : PiecesOk Try.prog env (ctxG env false [] R20 [(14, [(4, p_14_4)])] []) 14 b14 :=
  pieces_at (rfIn_body (fn := f14) (b := b14) rfl hb14) (L := [(4, p_14_4)]) (S := []) (fun _ => rfl) (fun _ => rfl) (by kernel_rfl) (by kernel_rfl) (List.forall_mem_cons.2 ⟨fun _ => ok_14_4, (fun _ hq => by cases hq)⟩) (fun _ hq => by cases hq)
theorem bo_14 : BodiesOk Try.prog env (ctxG env false [] R20 [(14, [(4, p_14_4)])] []) := bodies_okG (ks := [14]) (by kernel_rfl) (List.forall_mem_cons.2 ⟨body_at (fn := f14) (body := b14) rfl hb14 po_14_14, (fun _ hq => by cases hq)⟩)
theorem eq_14 (x0 : (List Task)) (x1 : (List Task)) (K : Y14 → Prop) : vcCode env (ctxG env false [] R20 [(14, [(4, p_14_4)])] []) 2000 14 b14 (entry env f14 [v22 x0, v22 x1]) (finR env f14 decR14 K) = B14 x0 x1 K := by kernel_rfl
noncomputable def rule14 : Nat × Rule env := (14, ruleF env decA14 encR14 fun x => V14 x.1 x.2)
theorem r14 : RuleOk Try.prog env 14 rule14.2 :=
  rule_fun tab (ctxG_ok R20_ok false [] _ _) bo_14 (f := 14) (fn := f14) rfl hb14 po_14_14 2000 encA14 hA14 hR14 hD14 (fun _ => of_decide_eq_true (by kernel_rfl)) (fun x K => (eq_14 x.1 x.2 K).trans (by rw [V14_eq]))
noncomputable def R14 : List (Nat × Rule env) := rule14 :: R20
theorem R14_ok : AllOk Try.prog env R14 := ⟨r14, R20_ok⟩
-- 23 queuelab/workers.isList
noncomputable def f23 : Func := Try.f23
noncomputable def b23 : Code := (Try.f23.body).getD .skip
abbrev X23 := (List Task)
def encA23 (x : X23) : List (SV env.T) := [v22 x]
def decA23 (l : List (SV env.T)) : Option X23 := match l with
  | [s0] => match u22 s0 with
    | some x0 => some (x0)
    | _ => none
  | _ => none
theorem hA23 (l : List (SV env.T)) (x : X23) (h : decA23 l = some x) : WkA env.has l (encA23 x) := by
  unfold decA23 at h; split at h
  · split at h
    · rename_i h0; cases h; exact (.cons (u22_wk h0) .nil)
    · cases h
  · cases h
abbrev Y23 := Bool
def encR23 (x : Y23) : List (SV env.T) := [v4 x]
def decR23 (l : List (SV env.T)) : Option Y23 := match l with
  | [s0] => match u4 s0 with
    | some x0 => some (x0)
    | _ => none
  | _ => none
theorem hR23 (l : List (SV env.T)) (x : Y23) (h : decR23 l = some x) : WkA env.has l (encR23 x) := by
  unfold decR23 at h; split at h
  · split at h
    · rename_i h0; cases h; exact (.cons (u4_wk h0) .nil)
    · cases h
  · cases h
theorem hD23 (y : Y23) : isDataV (tupV (encR23 y)) = true := rfl
theorem hb23 : f23.body = some b23 := by kernel_rfl
def l_23_2 : Nat → (List Task) → Bool → (List Task) → Int → Int → (Bool → Prop) → ((List Task) → Bool → Prop) → Prop
  | 0 => fun _ _ _ _ _ _ _ => False
  | k + 1 => fun x1 x2 x3 x4 x5 kr k0 ↦ br (decide (x5 < x4)) (br (inb x5 (↑x3.length : Int)) (br ((x3.getD x5.toNat (env.d 39)).number != x5) (kr false) (∃ k9, (V20 (x3.getD x5.toNat (env.d 39)).worker 0 7 fun y10 ↦ tupV (encR20 y10) = tupV (encR20 k9)) ∧ br (!k9) (kr false) (br (decide ((x3.getD x5.toNat (env.d 39)).from_ < 0)) (kr false) (br (decide ((x3.getD x5.toNat (env.d 39)).from_ ≥ (x3.getD x5.toNat (env.d 39)).to_)) (kr false) (br (decide ((x3.getD x5.toNat (env.d 39)).to_ > 10000000)) (kr false) (br (decide (x5 > 0)) (br (inb (IntKind.i64.wrap (x5 - 1)) (↑x1.length : Int)) (br ((x3.getD x5.toNat (env.d 39)).from_ != (x1.getD (IntKind.i64.wrap (x5 - 1)).toNat (env.d 39)).to_) (kr false) (l_23_2 k x1 x2 x3 x4 (IntKind.i64.wrap (x5 + 1)) kr k0)) False) (l_23_2 k x1 x2 x3 x4 (IntKind.i64.wrap (x5 + 1)) kr k0))))))) False) (k0 x1 x2)
def w_23_2 (k : Nat) (vs : List (SV env.T)) (K : Ex → List (SV env.T) → Prop) : Prop :=
  dCD 39 vs fun x1 vs => dCB vs fun x2 vs => dCD 39 vs fun x3 vs => dCI .i64 vs fun x4 vs => dCI .i64 vs fun x5 vs => dCE vs (l_23_2 k x1 x2 x3 x4 x5 (fun y1 => K .ret [.bool y1]) (fun y1 y2 => K (.exit 0) [.dat 39 y1, .bool y2]))
def p_23_2 : Piece env := ⟨⟨[.holeD 39, .any, .hole, .any, .any, .holeD 39, .hole, .hole, .any, .any, .any, .any, .any, .any, .any, .any, .any, .any, .any, .any, .any, .any, .any, .any, .any, .any, .any, .any, .any, .any, .any, .any, .any, .any, .any, .any, .any, .any, .any, .any, .any, .any, .any, .any, .any, .any, .any, .any, .any, .any, .any, .any, .any, .any, .any, .any, .any, .any], [], [], 0⟩, exitF none [(0, ⟨[.holeD 39, .any, .hole, .any, .any, .any, .any, .any, .any, .any, .any, .any, .any, .any, .any, .any, .any, .any, .any, .any, .any, .any, .any, .any, .any, .any, .any, .any, .any, .any, .any, .any, .any, .any, .any, .any, .any, .any, .any, .any, .any, .any, .any, .any, .any, .any, .any, .any, .any, .any, .any, .any, .any, .any, .any, .any, .any, .any], [], [], 0⟩)] (some ⟨[.any, .any, .hole, .any, .any, .any, .any, .any, .any, .any, .any, .any, .any, .any, .any, .any, .any, .any, .any, .any, .any, .any, .any, .any, .any, .any, .any, .any, .any, .any, .any, .any, .any, .any, .any, .any, .any, .any, .any, .any, .any, .any, .any, .any, .any, .any, .any, .any, .any, .any, .any, .any, .any, .any, .any, .any, .any, .any], [], [], 0⟩), fun vs K => ∃ k, w_23_2 k vs K⟩
noncomputable def B23 : (List Task) → (Y23 → Prop) → Prop :=
  fun x0 K ↦ ∃ k2, l_23_2 k2 x0 false x0 (↑x0.length : Int) 0 K fun y3 _ ↦ V20 (↑y3.length : Int) 1 32 K
theorem V23_ex : ∃ V : (List Task) → (Y23 → Prop) → Prop, V = B23 := ⟨_, rfl⟩
noncomputable def V23 : (List Task) → (Y23 → Prop) → Prop := Classical.choose V23_ex
theorem V23_eq : V23 = B23 := Classical.choose_spec V23_ex
theorem pook_23_2_23 : PiecesOk Try.prog env (ctxG env false [] R14 [] []) 23 b23 :=
  pieces_at (rfIn_body (fn := f23) (b := b23) rfl hb23) (L := []) (S := []) (fun _ => rfl) (fun _ => rfl) (by kernel_rfl) (by kernel_rfl) (fun _ hq => by cases hq) (fun _ hq => by cases hq)
theorem book_23_2 : BodiesOk Try.prog env (ctxG env false [] R14 [] []) := bodies_okG (ks := []) (by kernel_rfl) (fun _ hq => by cases hq)
theorem stok_23_2 (k : Nat) (x1 : (List Task)) (x2 : Bool) (x3 : (List Task)) (x4 : Int) (x5 : Int) (K : Ex → List (SV env.T) → Prop) : l_23_2 (k + 1) x1 x2 x3 x4 x5 (fun y1 => K .ret [.bool y1]) (fun y1 y2 => K (.exit 0) [.dat 39 y1, .bool y2]) = vcCode env (ctxG env false [] R14 [] []) 2000 23 (loopAt b23 2) (insSt p_23_2.head [.dat 39 x1, .bool x2, .dat 39 x3, .int .i64 x4, .int .i64 x5]) (stepK p_23_2 (w_23_2 k) K) := by kernel_rfl
theorem wiok_23_2 (k : Nat) (vs : List (SV env.T)) (K : Ex → List (SV env.T) → Prop) (h : w_23_2 k vs K) : ∃ x1 : (List Task), ∃ x2 : Bool, ∃ x3 : (List Task), ∃ x4 : Int, ∃ x5 : Int, vs = [.dat 39 x1, .bool x2, .dat 39 x3, .int .i64 x4, .int .i64 x5] ∧ l_23_2 k x1 x2 x3 x4 x5 (fun y1 => K .ret [.bool y1]) (fun y1 y2 => K (.exit 0) [.dat 39 y1, .bool y2]) := by
  unfold w_23_2 at h
  replace h := dCD_spec h
  obtain ⟨x1, vs0, e0, h⟩ := h
  replace h := dCB_spec h
  obtain ⟨x2, vs1, e1, h⟩ := h
  replace h := dCD_spec h
  obtain ⟨x3, vs2, e2, h⟩ := h
  replace h := dCI_spec h
  obtain ⟨x4, vs3, e3, h⟩ := h
  replace h := dCI_spec h
  obtain ⟨x5, vs4, e4, h⟩ := h
  replace h := dCE_spec h
  obtain ⟨e, h⟩ := h
  exact ⟨x1, x2, x3, x4, x5, by rw [e0, e1, e2, e3, e4, e], h⟩
theorem zeok_23_2 (x1 : (List Task)) (x2 : Bool) (x3 : (List Task)) (x4 : Int) (x5 : Int) (K : Ex → List (SV env.T) → Prop) : l_23_2 0 x1 x2 x3 x4 x5 (fun y1 => K .ret [.bool y1]) (fun y1 y2 => K (.exit 0) [.dat 39 y1, .bool y2]) = False := by kernel_rfl
theorem ok_23_2 : PieceOk Try.prog env p_23_2 (.loop (loopAt b23 2)) := by
  refine loop_step (Wn := w_23_2) tab (ctxG_ok R14_ok false [] _ _) book_23_2 (pieces_sub pook_23_2_23 (by kernel_rfl)) rfl ?_ 2000 ?_
  · intro vs K h
    obtain ⟨x1, x2, x3, x4, x5, _, h⟩ := wiok_23_2 0 vs K h
    exact Eq.mp (zeok_23_2 x1 x2 x3 x4 x5 K) h
  · intro k vs K h
    obtain ⟨x1, x2, x3, x4, x5, rfl, h⟩ := wiok_23_2 (k + 1) vs K h
    exact Eq.mp (stok_23_2 k x1 x2 x3 x4 x5 K) h
theorem po_23_23 : PiecesOk Try.prog env (ctxG env false [] R14 [(23, [(2, p_23_2)])] []) 23 b23 :=
  pieces_at (rfIn_body (fn := f23) (b := b23) rfl hb23) (L := [(2, p_23_2)]) (S := []) (fun _ => rfl) (fun _ => rfl) (by kernel_rfl) (by kernel_rfl) (List.forall_mem_cons.2 ⟨fun _ => ok_23_2, (fun _ hq => by cases hq)⟩) (fun _ hq => by cases hq)
theorem bo_23 : BodiesOk Try.prog env (ctxG env false [] R14 [(23, [(2, p_23_2)])] []) := bodies_okG (ks := [23]) (by kernel_rfl) (List.forall_mem_cons.2 ⟨body_at (fn := f23) (body := b23) rfl hb23 po_23_23, (fun _ hq => by cases hq)⟩)
theorem eq_23 (x0 : (List Task)) (K : Y23 → Prop) : vcCode env (ctxG env false [] R14 [(23, [(2, p_23_2)])] []) 2000 23 b23 (entry env f23 [v22 x0]) (finR env f23 decR23 K) = B23 x0 K := by kernel_rfl
noncomputable def rule23 : Nat × Rule env := (23, ruleF env decA23 encR23 fun x => V23 x)
theorem r23 : RuleOk Try.prog env 23 rule23.2 :=
  rule_fun tab (ctxG_ok R14_ok false [] _ _) bo_23 (f := 23) (fn := f23) rfl hb23 po_23_23 2000 encA23 hA23 hR23 hD23 (fun _ => of_decide_eq_true (by kernel_rfl)) (fun x K => (eq_23 x K).trans (by rw [V23_eq]))
noncomputable def R23 : List (Nat × Rule env) := rule23 :: R14
theorem R23_ok : AllOk Try.prog env R23 := ⟨r23, R14_ok⟩
-- 49 queuelab/ledger.numbers
noncomputable def f49 : Func := Try.f49
noncomputable def b49 : Code := (Try.f49.body).getD .skip
abbrev X49 := Record
def encA49 (x : X49) : List (SV env.T) := [v50 x]
def decA49 (l : List (SV env.T)) : Option X49 := match l with
  | [s0] => match u50 s0 with
    | some x0 => some (x0)
    | _ => none
  | _ => none
theorem hA49 (l : List (SV env.T)) (x : X49) (h : decA49 l = some x) : WkA env.has l (encA49 x) := by
  unfold decA49 at h; split at h
  · split at h
    · rename_i h0; cases h; exact (.cons (u50_wk h0) .nil)
    · cases h
  · cases h
abbrev Y49 := (List Int)
def encR49 (x : Y49) : List (SV env.T) := [v85 x]
def decR49 (l : List (SV env.T)) : Option Y49 := match l with
  | [s0] => match u85 s0 with
    | some x0 => some (x0)
    | _ => none
  | _ => none
theorem hR49 (l : List (SV env.T)) (x : Y49) (h : decR49 l = some x) : WkA env.has l (encR49 x) := by
  unfold decR49 at h; split at h
  · split at h
    · rename_i h0; cases h; exact (.cons (u85_wk h0) .nil)
    · cases h
  · cases h
theorem hD49 (y : Y49) : isDataV (tupV (encR49 y)) = true := rfl
theorem hb49 : f49.body = some b49 := by kernel_rfl
def s_49_4 : Int → Int → Int → Int → Int → Int → Int → Int → Int → Int → Bool → Bool → (List Int) → ((List Int) → Prop) → Prop :=
  fun x1 x2 x3 x4 x5 x6 x7 x8 x9 x10 _ x12 _ kr ↦ br x12 (kr [x2, x3, x4, x5, x6, x7, x8, x9, x10, IntKind.i64.wrap (x1 + 2)]) (kr [x2, x3, x4, x5, x6, x7, x8, x9, x10, x1])
def v_49_4 (vs : List (SV env.T)) (K : Ex → List (SV env.T) → Prop) : Prop :=
  dCI .i64 vs fun x1 vs => dCI .i64 vs fun x2 vs => dCI .i64 vs fun x3 vs => dCI .i64 vs fun x4 vs => dCI .i64 vs fun x5 vs => dCI .i64 vs fun x6 vs => dCI .i64 vs fun x7 vs => dCI .i64 vs fun x8 vs => dCI .i64 vs fun x9 vs => dCI .i64 vs fun x10 vs => dCB vs fun x11 vs => dCB vs fun x12 vs => dCA .i64 10 vs fun x13 vs => dCE vs (s_49_4 x1 x2 x3 x4 x5 x6 x7 x8 x9 x10 x11 x12 x13 (fun y1 => K .ret [.arr .i64 10 y1]))
def q_49_4 : Piece env := ⟨⟨[.any, .ptr 0 0, .ptr 1 0, .hole, .any, .any, .any, .any, .any, .any, .any, .any, .any, .any, .any, .any, .any, .any, .any, .any, .any, .any, .any, .any, .any, .any, .any, .any, .any, .any, .any, .any, .any, .any, .any, .any, .any, .any], [], [(0, .cells 50 [.hole, .hole, .hole, .hole, .hole, .hole, .hole, .hole, .hole, .hole, .hole]), (1, .cells 85 [.hole])], 2⟩, exitF none [] (some ⟨[.any, .any, .ptr 0 0, .any, .any, .any, .any, .any, .any, .any, .any, .any, .any, .any, .any, .any, .any, .any, .any, .any, .any, .any, .any, .any, .any, .any, .any, .any, .any, .any, .any, .any, .any, .any, .any, .any, .any, .any], [], [(0, .cells 85 [.hole])], 1⟩), v_49_4⟩
noncomputable def B49 : Record → (Y49 → Prop) → Prop :=
  fun x0 K ↦ br x0.p.able (s_49_4 1 x0.at_ x0.kind x0.a x0.p.flow x0.p.sub x0.p.number x0.p.data x0.p.size x0.p.sent x0.p.able x0.p.marked [0, 0, 0, 0, 0, 0, 0, 0, 0, 0] K) (s_49_4 0 x0.at_ x0.kind x0.a x0.p.flow x0.p.sub x0.p.number x0.p.data x0.p.size x0.p.sent x0.p.able x0.p.marked [0, 0, 0, 0, 0, 0, 0, 0, 0, 0] K)
theorem V49_ex : ∃ V : Record → (Y49 → Prop) → Prop, V = B49 := ⟨_, rfl⟩
noncomputable def V49 : Record → (Y49 → Prop) → Prop := Classical.choose V49_ex
theorem V49_eq : V49 = B49 := Classical.choose_spec V49_ex
theorem pooq_49_4_49 : PiecesOk Try.prog env (ctxG env false [] R23 [] []) 49 b49 :=
  pieces_at (rfIn_body (fn := f49) (b := b49) rfl hb49) (L := []) (S := []) (fun _ => rfl) (fun _ => rfl) (by kernel_rfl) (by kernel_rfl) (fun _ hq => by cases hq) (fun _ hq => by cases hq)
theorem booq_49_4 : BodiesOk Try.prog env (ctxG env false [] R23 [] []) := bodies_okG (ks := []) (by kernel_rfl) (fun _ hq => by cases hq)
theorem stoq_49_4 (x1 : Int) (x2 : Int) (x3 : Int) (x4 : Int) (x5 : Int) (x6 : Int) (x7 : Int) (x8 : Int) (x9 : Int) (x10 : Int) (x11 : Bool) (x12 : Bool) (x13 : (List Int)) (K : Ex → List (SV env.T) → Prop) : s_49_4  x1 x2 x3 x4 x5 x6 x7 x8 x9 x10 x11 x12 x13 (fun y1 => K .ret [.arr .i64 10 y1]) = vcCode env (ctxG env false [] R23 [] []) 2000 49 (seqAt b49 4) (insSt q_49_4.head [.int .i64 x1, .int .i64 x2, .int .i64 x3, .int .i64 x4, .int .i64 x5, .int .i64 x6, .int .i64 x7, .int .i64 x8, .int .i64 x9, .int .i64 x10, .bool x11, .bool x12, .arr .i64 10 x13]) (outP env q_49_4 K) := by kernel_rfl
theorem wioq_49_4 (vs : List (SV env.T)) (K : Ex → List (SV env.T) → Prop) (h : v_49_4 vs K) : ∃ x1 : Int, ∃ x2 : Int, ∃ x3 : Int, ∃ x4 : Int, ∃ x5 : Int, ∃ x6 : Int, ∃ x7 : Int, ∃ x8 : Int, ∃ x9 : Int, ∃ x10 : Int, ∃ x11 : Bool, ∃ x12 : Bool, ∃ x13 : (List Int), vs = [.int .i64 x1, .int .i64 x2, .int .i64 x3, .int .i64 x4, .int .i64 x5, .int .i64 x6, .int .i64 x7, .int .i64 x8, .int .i64 x9, .int .i64 x10, .bool x11, .bool x12, .arr .i64 10 x13] ∧ s_49_4  x1 x2 x3 x4 x5 x6 x7 x8 x9 x10 x11 x12 x13 (fun y1 => K .ret [.arr .i64 10 y1]) := by
  unfold v_49_4 at h
  replace h := dCI_spec h
  obtain ⟨x1, vs0, e0, h⟩ := h
  replace h := dCI_spec h
  obtain ⟨x2, vs1, e1, h⟩ := h
  replace h := dCI_spec h
  obtain ⟨x3, vs2, e2, h⟩ := h
  replace h := dCI_spec h
  obtain ⟨x4, vs3, e3, h⟩ := h
  replace h := dCI_spec h
  obtain ⟨x5, vs4, e4, h⟩ := h
  replace h := dCI_spec h
  obtain ⟨x6, vs5, e5, h⟩ := h
  replace h := dCI_spec h
  obtain ⟨x7, vs6, e6, h⟩ := h
  replace h := dCI_spec h
  obtain ⟨x8, vs7, e7, h⟩ := h
  replace h := dCI_spec h
  obtain ⟨x9, vs8, e8, h⟩ := h
  replace h := dCI_spec h
  obtain ⟨x10, vs9, e9, h⟩ := h
  replace h := dCB_spec h
  obtain ⟨x11, vs10, e10, h⟩ := h
  replace h := dCB_spec h
  obtain ⟨x12, vs11, e11, h⟩ := h
  replace h := dCA_spec h
  obtain ⟨x13, vs12, e12, h⟩ := h
  replace h := dCE_spec h
  obtain ⟨e, h⟩ := h
  exact ⟨x1, x2, x3, x4, x5, x6, x7, x8, x9, x10, x11, x12, x13, by rw [e0, e1, e2, e3, e4, e5, e6, e7, e8, e9, e10, e11, e12, e], h⟩
theorem oq_49_4 : PieceOk Try.prog env q_49_4 (seqAt b49 4) := by
  refine seq_step tab (ctxG_ok R23_ok false [] _ _) booq_49_4 (pieces_subS pooq_49_4_49 (by kernel_rfl)) 2000 ?_
  intro vs K h
  obtain ⟨x1, x2, x3, x4, x5, x6, x7, x8, x9, x10, x11, x12, x13, rfl, h⟩ := wioq_49_4 vs K h
  exact Eq.mp (stoq_49_4 x1 x2 x3 x4 x5 x6 x7 x8 x9 x10 x11 x12 x13 K) h
theorem po_49_49 : PiecesOk Try.prog env (ctxG env false [] R23 [] [(49, [(4, q_49_4)])]) 49 b49 :=
  pieces_at (rfIn_body (fn := f49) (b := b49) rfl hb49) (L := []) (S := [(4, q_49_4)]) (fun _ => rfl) (fun _ => rfl) (by kernel_rfl) (by kernel_rfl) (fun _ hq => by cases hq) (List.forall_mem_cons.2 ⟨fun _ => oq_49_4, (fun _ hq => by cases hq)⟩)
theorem bo_49 : BodiesOk Try.prog env (ctxG env false [] R23 [] [(49, [(4, q_49_4)])]) := bodies_okG (ks := [49]) (by kernel_rfl) (List.forall_mem_cons.2 ⟨body_at (fn := f49) (body := b49) rfl hb49 po_49_49, (fun _ hq => by cases hq)⟩)
theorem eq_49 (x0 : Record) (K : Y49 → Prop) : vcCode env (ctxG env false [] R23 [] [(49, [(4, q_49_4)])]) 2000 49 b49 (entry env f49 [v50 x0]) (finR env f49 decR49 K) = B49 x0 K := by kernel_rfl
noncomputable def rule49 : Nat × Rule env := (49, ruleF env decA49 encR49 fun x => V49 x)
theorem r49 : RuleOk Try.prog env 49 rule49.2 :=
  rule_fun tab (ctxG_ok R23_ok false [] _ _) bo_49 (f := 49) (fn := f49) rfl hb49 po_49_49 2000 encA49 hA49 hR49 hD49 (fun _ => of_decide_eq_true (by kernel_rfl)) (fun x K => (eq_49 x K).trans (by rw [V49_eq]))
noncomputable def R49 : List (Nat × Rule env) := rule49 :: R23
theorem R49_ok : AllOk Try.prog env R49 := ⟨r49, R23_ok⟩
-- 45 queuelab/ledger.Digest
noncomputable def f45 : Func := Try.f45
noncomputable def b45 : Code := (Try.f45.body).getD .skip
abbrev X45 := Int × Record
def encA45 (x : X45) : List (SV env.T) := [v29 x.1, v50 x.2]
def decA45 (l : List (SV env.T)) : Option X45 := match l with
  | [s0, s1] => match u29 s0, u50 s1 with
    | some x0, some x1 => some (x0, x1)
    | _, _ => none
  | _ => none
theorem hA45 (l : List (SV env.T)) (x : X45) (h : decA45 l = some x) : WkA env.has l (encA45 x) := by
  unfold decA45 at h; split at h
  · split at h
    · rename_i h0 h1; cases h; exact (.cons (u29_wk h0) (.cons (u50_wk h1) .nil))
    · cases h
  · cases h
abbrev Y45 := Int
def encR45 (x : Y45) : List (SV env.T) := [v29 x]
def decR45 (l : List (SV env.T)) : Option Y45 := match l with
  | [s0] => match u29 s0 with
    | some x0 => some (x0)
    | _ => none
  | _ => none
theorem hR45 (l : List (SV env.T)) (x : Y45) (h : decR45 l = some x) : WkA env.has l (encR45 x) := by
  unfold decR45 at h; split at h
  · split at h
    · rename_i h0; cases h; exact (.cons (u29_wk h0) .nil)
    · cases h
  · cases h
theorem hD45 (y : Y45) : isDataV (tupV (encR45 y)) = true := rfl
theorem hb45 : f45.body = some b45 := by kernel_rfl
def l_45_5 : Nat → Int → Int → Int → Int → (List Int) → Int → (Int → Int → (List Int) → Int → Prop) → Prop
  | 0 => fun _ _ _ _ _ _ _ => False
  | k + 1 => fun x1 x2 x3 x4 x5 x6 k2 ↦ br (decide (x4 < 64)) (br (leb 0 x4) (l_45_5 k (IntKind.u64.wrap (xorI IntKind.u64 x1 (andI IntKind.u64 ((IntKind.u64.wrap x3).fdiv (2 ^ min x4.toNat IntKind.u64.bits)) 255) * 1099511628211)) x2 x3 (IntKind.i64.wrap (x4 + 8)) x5 x6 k2) False) (k2 x1 x2 x5 x6)
def w_45_5 (k : Nat) (vs : List (SV env.T)) (K : Ex → List (SV env.T) → Prop) : Prop :=
  dCI .u64 vs fun x1 vs => dCI .u64 vs fun x2 vs => dCI .i64 vs fun x3 vs => dCI .i64 vs fun x4 vs => dCA .i64 10 vs fun x5 vs => dCI .i64 vs fun x6 vs => dCE vs (l_45_5 k x1 x2 x3 x4 x5 x6 (fun y1 y2 y3 y4 => K (.exit 2) [.int .u64 y1, .int .u64 y2, .arr .i64 10 y3, .int .i64 y4]))
def p_45_5 : Piece env := ⟨⟨[.hole, .any, .any, .any, .hole, .any, .hole, .hole, .any, .agg [.hole], .hole, .any, .any, .any, .any, .any, .any, .any, .any, .any, .any, .any, .any, .any, .any, .any, .any], [], [], 0⟩, exitF none [(2, ⟨[.hole, .any, .any, .any, .hole, .any, .any, .any, .any, .agg [.hole], .hole, .any, .any, .any, .any, .any, .any, .any, .any, .any, .any, .any, .any, .any, .any, .any, .any], [], [], 0⟩)] none, fun vs K => ∃ k, w_45_5 k vs K⟩
def l_45_2 : Nat → Int → Int → (List Int) → Int → (Int → Int → Prop) → Prop
  | 0 => fun _ _ _ _ _ => False
  | k + 1 => fun x1 x2 x3 x4 k0 ↦ br (decide (x4 < 10)) (br (inb x4 (↑10 : Int)) (∃ k7, l_45_5 k7 x1 x2 (x3.getD x4.toNat 0) 0 x3 x4 fun y8 y9 y10 y11 ↦ l_45_2 k y8 y9 y10 (IntKind.i64.wrap (y11 + 1)) k0) False) (k0 x1 x2)
def w_45_2 (k : Nat) (vs : List (SV env.T)) (K : Ex → List (SV env.T) → Prop) : Prop :=
  dCI .u64 vs fun x1 vs => dCI .u64 vs fun x2 vs => dCA .i64 10 vs fun x3 vs => dCI .i64 vs fun x4 vs => dCE vs (l_45_2 k x1 x2 x3 x4 (fun y1 y2 => K (.exit 0) [.int .u64 y1, .int .u64 y2]))
def p_45_2 : Piece env := ⟨⟨[.hole, .any, .any, .any, .hole, .any, .any, .any, .any, .agg [.hole], .hole, .any, .any, .any, .any, .any, .any, .any, .any, .any, .any, .any, .any, .any, .any, .any, .any], [], [], 0⟩, exitF none [(0, ⟨[.hole, .any, .any, .any, .hole, .any, .any, .any, .any, .any, .any, .any, .any, .any, .any, .any, .any, .any, .any, .any, .any, .any, .any, .any, .any, .any, .any], [], [], 0⟩)] none, fun vs K => ∃ k, w_45_2 k vs K⟩
noncomputable def B45 : Int → Record → (Y45 → Prop) → Prop :=
  fun x0 x1 K ↦ V49 x1 fun y3 ↦ ∃ k4, l_45_2 k4 x0 0 y3 0 fun y5 _ ↦ K y5
theorem V45_ex : ∃ V : Int → Record → (Y45 → Prop) → Prop, V = B45 := ⟨_, rfl⟩
noncomputable def V45 : Int → Record → (Y45 → Prop) → Prop := Classical.choose V45_ex
theorem V45_eq : V45 = B45 := Classical.choose_spec V45_ex
theorem pook_45_5_45 : PiecesOk Try.prog env (ctxG env false [] R49 [] []) 45 b45 :=
  pieces_at (rfIn_body (fn := f45) (b := b45) rfl hb45) (L := []) (S := []) (fun _ => rfl) (fun _ => rfl) (by kernel_rfl) (by kernel_rfl) (fun _ hq => by cases hq) (fun _ hq => by cases hq)
theorem book_45_5 : BodiesOk Try.prog env (ctxG env false [] R49 [] []) := bodies_okG (ks := []) (by kernel_rfl) (fun _ hq => by cases hq)
theorem stok_45_5 (k : Nat) (x1 : Int) (x2 : Int) (x3 : Int) (x4 : Int) (x5 : (List Int)) (x6 : Int) (K : Ex → List (SV env.T) → Prop) : l_45_5 (k + 1) x1 x2 x3 x4 x5 x6 (fun y1 y2 y3 y4 => K (.exit 2) [.int .u64 y1, .int .u64 y2, .arr .i64 10 y3, .int .i64 y4]) = vcCode env (ctxG env false [] R49 [] []) 2000 45 (loopAt b45 5) (insSt p_45_5.head [.int .u64 x1, .int .u64 x2, .int .i64 x3, .int .i64 x4, .arr .i64 10 x5, .int .i64 x6]) (stepK p_45_5 (w_45_5 k) K) := by kernel_rfl
theorem wiok_45_5 (k : Nat) (vs : List (SV env.T)) (K : Ex → List (SV env.T) → Prop) (h : w_45_5 k vs K) : ∃ x1 : Int, ∃ x2 : Int, ∃ x3 : Int, ∃ x4 : Int, ∃ x5 : (List Int), ∃ x6 : Int, vs = [.int .u64 x1, .int .u64 x2, .int .i64 x3, .int .i64 x4, .arr .i64 10 x5, .int .i64 x6] ∧ l_45_5 k x1 x2 x3 x4 x5 x6 (fun y1 y2 y3 y4 => K (.exit 2) [.int .u64 y1, .int .u64 y2, .arr .i64 10 y3, .int .i64 y4]) := by
  unfold w_45_5 at h
  replace h := dCI_spec h
  obtain ⟨x1, vs0, e0, h⟩ := h
  replace h := dCI_spec h
  obtain ⟨x2, vs1, e1, h⟩ := h
  replace h := dCI_spec h
  obtain ⟨x3, vs2, e2, h⟩ := h
  replace h := dCI_spec h
  obtain ⟨x4, vs3, e3, h⟩ := h
  replace h := dCA_spec h
  obtain ⟨x5, vs4, e4, h⟩ := h
  replace h := dCI_spec h
  obtain ⟨x6, vs5, e5, h⟩ := h
  replace h := dCE_spec h
  obtain ⟨e, h⟩ := h
  exact ⟨x1, x2, x3, x4, x5, x6, by rw [e0, e1, e2, e3, e4, e5, e], h⟩
theorem zeok_45_5 (x1 : Int) (x2 : Int) (x3 : Int) (x4 : Int) (x5 : (List Int)) (x6 : Int) (K : Ex → List (SV env.T) → Prop) : l_45_5 0 x1 x2 x3 x4 x5 x6 (fun y1 y2 y3 y4 => K (.exit 2) [.int .u64 y1, .int .u64 y2, .arr .i64 10 y3, .int .i64 y4]) = False := by kernel_rfl
theorem ok_45_5 : PieceOk Try.prog env p_45_5 (.loop (loopAt b45 5)) := by
  refine loop_step (Wn := w_45_5) tab (ctxG_ok R49_ok false [] _ _) book_45_5 (pieces_sub pook_45_5_45 (by kernel_rfl)) rfl ?_ 2000 ?_
  · intro vs K h
    obtain ⟨x1, x2, x3, x4, x5, x6, _, h⟩ := wiok_45_5 0 vs K h
    exact Eq.mp (zeok_45_5 x1 x2 x3 x4 x5 x6 K) h
  · intro k vs K h
    obtain ⟨x1, x2, x3, x4, x5, x6, rfl, h⟩ := wiok_45_5 (k + 1) vs K h
    exact Eq.mp (stok_45_5 k x1 x2 x3 x4 x5 x6 K) h
theorem pook_45_2_45 : PiecesOk Try.prog env (ctxG env false [] R49 [(45, [(5, p_45_5)])] []) 45 b45 :=
  pieces_at (rfIn_body (fn := f45) (b := b45) rfl hb45) (L := [(5, p_45_5)]) (S := []) (fun _ => rfl) (fun _ => rfl) (by kernel_rfl) (by kernel_rfl) (List.forall_mem_cons.2 ⟨fun _ => ok_45_5, (fun _ hq => by cases hq)⟩) (fun _ hq => by cases hq)
theorem book_45_2 : BodiesOk Try.prog env (ctxG env false [] R49 [(45, [(5, p_45_5)])] []) := bodies_okG (ks := [45]) (by kernel_rfl) (List.forall_mem_cons.2 ⟨body_at (fn := f45) (body := b45) rfl hb45 pook_45_2_45, (fun _ hq => by cases hq)⟩)
theorem stok_45_2 (k : Nat) (x1 : Int) (x2 : Int) (x3 : (List Int)) (x4 : Int) (K : Ex → List (SV env.T) → Prop) : l_45_2 (k + 1) x1 x2 x3 x4 (fun y1 y2 => K (.exit 0) [.int .u64 y1, .int .u64 y2]) = vcCode env (ctxG env false [] R49 [(45, [(5, p_45_5)])] []) 2000 45 (loopAt b45 2) (insSt p_45_2.head [.int .u64 x1, .int .u64 x2, .arr .i64 10 x3, .int .i64 x4]) (stepK p_45_2 (w_45_2 k) K) := by kernel_rfl
theorem wiok_45_2 (k : Nat) (vs : List (SV env.T)) (K : Ex → List (SV env.T) → Prop) (h : w_45_2 k vs K) : ∃ x1 : Int, ∃ x2 : Int, ∃ x3 : (List Int), ∃ x4 : Int, vs = [.int .u64 x1, .int .u64 x2, .arr .i64 10 x3, .int .i64 x4] ∧ l_45_2 k x1 x2 x3 x4 (fun y1 y2 => K (.exit 0) [.int .u64 y1, .int .u64 y2]) := by
  unfold w_45_2 at h
  replace h := dCI_spec h
  obtain ⟨x1, vs0, e0, h⟩ := h
  replace h := dCI_spec h
  obtain ⟨x2, vs1, e1, h⟩ := h
  replace h := dCA_spec h
  obtain ⟨x3, vs2, e2, h⟩ := h
  replace h := dCI_spec h
  obtain ⟨x4, vs3, e3, h⟩ := h
  replace h := dCE_spec h
  obtain ⟨e, h⟩ := h
  exact ⟨x1, x2, x3, x4, by rw [e0, e1, e2, e3, e], h⟩
theorem zeok_45_2 (x1 : Int) (x2 : Int) (x3 : (List Int)) (x4 : Int) (K : Ex → List (SV env.T) → Prop) : l_45_2 0 x1 x2 x3 x4 (fun y1 y2 => K (.exit 0) [.int .u64 y1, .int .u64 y2]) = False := by kernel_rfl
theorem ok_45_2 : PieceOk Try.prog env p_45_2 (.loop (loopAt b45 2)) := by
  refine loop_step (Wn := w_45_2) tab (ctxG_ok R49_ok false [] _ _) book_45_2 (pieces_sub pook_45_2_45 (by kernel_rfl)) rfl ?_ 2000 ?_
  · intro vs K h
    obtain ⟨x1, x2, x3, x4, _, h⟩ := wiok_45_2 0 vs K h
    exact Eq.mp (zeok_45_2 x1 x2 x3 x4 K) h
  · intro k vs K h
    obtain ⟨x1, x2, x3, x4, rfl, h⟩ := wiok_45_2 (k + 1) vs K h
    exact Eq.mp (stok_45_2 k x1 x2 x3 x4 K) h
theorem po_45_45 : PiecesOk Try.prog env (ctxG env false [] R49 [(45, [(5, p_45_5), (2, p_45_2)])] []) 45 b45 :=
  pieces_at (rfIn_body (fn := f45) (b := b45) rfl hb45) (L := [(5, p_45_5), (2, p_45_2)]) (S := []) (fun _ => rfl) (fun _ => rfl) (by kernel_rfl) (by kernel_rfl) (List.forall_mem_cons.2 ⟨fun _ => ok_45_5, (List.forall_mem_cons.2 ⟨fun _ => ok_45_2, (fun _ hq => by cases hq)⟩)⟩) (fun _ hq => by cases hq)
theorem bo_45 : BodiesOk Try.prog env (ctxG env false [] R49 [(45, [(5, p_45_5), (2, p_45_2)])] []) := bodies_okG (ks := [45]) (by kernel_rfl) (List.forall_mem_cons.2 ⟨body_at (fn := f45) (body := b45) rfl hb45 po_45_45, (fun _ hq => by cases hq)⟩)
theorem eq_45 (x0 : Int) (x1 : Record) (K : Y45 → Prop) : vcCode env (ctxG env false [] R49 [(45, [(5, p_45_5), (2, p_45_2)])] []) 2000 45 b45 (entry env f45 [v29 x0, v50 x1]) (finR env f45 decR45 K) = B45 x0 x1 K := by kernel_rfl
noncomputable def rule45 : Nat × Rule env := (45, ruleF env decA45 encR45 fun x => V45 x.1 x.2)
theorem r45 : RuleOk Try.prog env 45 rule45.2 :=
  rule_fun tab (ctxG_ok R49_ok false [] _ _) bo_45 (f := 45) (fn := f45) rfl hb45 po_45_45 2000 encA45 hA45 hR45 hD45 (fun _ => of_decide_eq_true (by kernel_rfl)) (fun x K => (eq_45 x.1 x.2 K).trans (by rw [V45_eq]))
noncomputable def R45 : List (Nat × Rule env) := rule45 :: R49
theorem R45_ok : AllOk Try.prog env R45 := ⟨r45, R49_ok⟩
-- 38 queuelab/cut.isSegment
noncomputable def f38 : Func := Try.f38
noncomputable def b38 : Code := (Try.f38.body).getD .skip
abbrev X38 := Segment
def encA38 (x : X38) : List (SV env.T) := [v32 x]
def decA38 (l : List (SV env.T)) : Option X38 := match l with
  | [s0] => match u32 s0 with
    | some x0 => some (x0)
    | _ => none
  | _ => none
theorem hA38 (l : List (SV env.T)) (x : X38) (h : decA38 l = some x) : WkA env.has l (encA38 x) := by
  unfold decA38 at h; split at h
  · split at h
    · rename_i h0; cases h; exact (.cons (u32_wk h0) .nil)
    · cases h
  · cases h
abbrev Y38 := Bool
def encR38 (x : Y38) : List (SV env.T) := [v4 x]
def decR38 (l : List (SV env.T)) : Option Y38 := match l with
  | [s0] => match u4 s0 with
    | some x0 => some (x0)
    | _ => none
  | _ => none
theorem hR38 (l : List (SV env.T)) (x : Y38) (h : decR38 l = some x) : WkA env.has l (encR38 x) := by
  unfold decR38 at h; split at h
  · split at h
    · rename_i h0; cases h; exact (.cons (u4_wk h0) .nil)
    · cases h
  · cases h
theorem hD38 (y : Y38) : isDataV (tupV (encR38 y)) = true := rfl
theorem hb38 : f38.body = some b38 := by kernel_rfl
def s_38_9 : Bool → Int → Int → (List Record) → Int → Int → Int → Int → Int → Int → (List Record) → Int → Int → Int → Int → Int → Int → Int → Int → Int → Bool → Bool → (Bool → Int → Int → (List Record) → Int → Int → Int → Int → Int → Int → (List Record) → Prop) → Prop :=
  fun x1 x2 _ x4 x5 x6 x7 x8 x9 x10 x11 x12 x13 x14 x15 x16 x17 x18 x19 x20 x21 x22 kn ↦ ∃ k25, (V45 x2 (Record.mk x12 x13 x14 (Packet.mk x15 x16 x17 x18 x19 x20 x21 x22)) fun y26 ↦ tupV (encR45 y26) = tupV (encR45 k25)) ∧ kn x1 k25 x12 x4 x5 x6 x7 x8 x9 x10 x11
def v_38_9 (vs : List (SV env.T)) (K : Ex → List (SV env.T) → Prop) : Prop :=
  dCB vs fun x1 vs => dCI .u64 vs fun x2 vs => dCI .i64 vs fun x3 vs => dCD 50 vs fun x4 vs => dCI .i64 vs fun x5 vs => dCI .i64 vs fun x6 vs => dCI .i64 vs fun x7 vs => dCI .i64 vs fun x8 vs => dCI .u64 vs fun x9 vs => dCI .u64 vs fun x10 vs => dCD 50 vs fun x11 vs => dCI .i64 vs fun x12 vs => dCI .i64 vs fun x13 vs => dCI .i64 vs fun x14 vs => dCI .i64 vs fun x15 vs => dCI .i64 vs fun x16 vs => dCI .i64 vs fun x17 vs => dCI .i64 vs fun x18 vs => dCI .i64 vs fun x19 vs => dCI .i64 vs fun x20 vs => dCB vs fun x21 vs => dCB vs fun x22 vs => dCE vs (s_38_9 x1 x2 x3 x4 x5 x6 x7 x8 x9 x10 x11 x12 x13 x14 x15 x16 x17 x18 x19 x20 x21 x22 (fun y1 y2 y3 y4 y5 y6 y7 y8 y9 y10 y11 => K .normal [.bool y1, .int .u64 y2, .int .i64 y3, .dat 50 y4, .int .i64 y5, .int .i64 y6, .int .i64 y7, .int .i64 y8, .int .u64 y9, .int .u64 y10, .dat 50 y11]))
def q_38_9 : Piece env := ⟨⟨[.any, .ptr 0 0, .hole, .hole, .hole, .any, .ptr 1 0, .any, .any, .any, .any, .any, .any, .any, .any, .any, .any, .any, .any, .any, .any, .any, .any, .any, .any, .any, .any, .any, .any, .any, .any, .any, .any, .holeD 50, .hole, .hole, .any, .any, .any, .any, .any, .any, .any, .any, .any, .any, .any, .any, .any, .any, .any, .any, .any, .any, .any, .any, .any, .any, .any, .any], [], [(0, .cells 32 [.hole, .hole, .hole, .hole, .holeD 50]), (1, .cells 50 [.hole, .hole, .hole, .hole, .hole, .hole, .hole, .hole, .hole, .hole, .hole])], 2⟩, exitF (some ⟨[.any, .ptr 0 0, .hole, .hole, .hole, .any, .any, .any, .any, .any, .any, .any, .any, .any, .any, .any, .any, .any, .any, .any, .any, .any, .any, .any, .any, .any, .any, .any, .any, .any, .any, .any, .any, .holeD 50, .hole, .hole, .any, .any, .any, .any, .any, .any, .any, .any, .any, .any, .any, .any, .any, .any, .any, .any, .any, .any, .any, .any, .any, .any, .any, .any], [], [(0, .cells 32 [.hole, .hole, .hole, .hole, .holeD 50])], 1⟩) [] none, v_38_9⟩
def l_38_5 : Nat → Bool → Int → Int → (List Record) → Int → Int → Int → Int → Int → Int → (List Record) → (Bool → Prop) → (Bool → Int → Int → Int → Int → Int → (List Record) → Prop) → Prop
  | 0 => fun _ _ _ _ _ _ _ _ _ _ _ _ _ => False
  | k + 1 => fun x1 x2 x3 x4 x5 x6 x7 x8 x9 x10 x11 kr k0 ↦ br (decide (x6 < x5)) (br (inb x6 (↑x4.length : Int)) (br (decide ((x4.getD x6.toNat (env.d 50)).at_ < x3)) (kr false) (br (decide ((x4.getD x6.toNat (env.d 50)).at_ ≥ x8)) (kr false) (s_38_9 x1 x2 x3 x4 x5 x6 x7 x8 x9 x10 x11 (x4.getD x6.toNat (env.d 50)).at_ (x4.getD x6.toNat (env.d 50)).kind (x4.getD x6.toNat (env.d 50)).a (x4.getD x6.toNat (env.d 50)).p.flow (x4.getD x6.toNat (env.d 50)).p.sub (x4.getD x6.toNat (env.d 50)).p.number (x4.getD x6.toNat (env.d 50)).p.data (x4.getD x6.toNat (env.d 50)).p.size (x4.getD x6.toNat (env.d 50)).p.sent (x4.getD x6.toNat (env.d 50)).p.able (x4.getD x6.toNat (env.d 50)).p.marked fun y15 y16 y17 y18 y19 y20 y21 y22 y23 y24 y25 ↦ l_38_5 k y15 y16 y17 y18 y19 (IntKind.i64.wrap (y20 + 1)) y21 y22 y23 y24 y25 kr k0))) False) (k0 x1 x2 x7 x8 x9 x10 x11)
def w_38_5 (k : Nat) (vs : List (SV env.T)) (K : Ex → List (SV env.T) → Prop) : Prop :=
  dCB vs fun x1 vs => dCI .u64 vs fun x2 vs => dCI .i64 vs fun x3 vs => dCD 50 vs fun x4 vs => dCI .i64 vs fun x5 vs => dCI .i64 vs fun x6 vs => dCI .i64 vs fun x7 vs => dCI .i64 vs fun x8 vs => dCI .u64 vs fun x9 vs => dCI .u64 vs fun x10 vs => dCD 50 vs fun x11 vs => dCE vs (l_38_5 k x1 x2 x3 x4 x5 x6 x7 x8 x9 x10 x11 (fun y1 => K .ret [.bool y1]) (fun y1 y2 y3 y4 y5 y6 y7 => K (.exit 0) [.bool y1, .int .u64 y2, .int .i64 y3, .int .i64 y4, .int .u64 y5, .int .u64 y6, .dat 50 y7]))
def p_38_5 : Piece env := ⟨⟨[.any, .ptr 0 0, .hole, .hole, .hole, .any, .any, .any, .any, .any, .any, .any, .any, .any, .any, .any, .any, .any, .any, .any, .any, .any, .any, .any, .any, .any, .any, .any, .any, .any, .any, .any, .any, .holeD 50, .hole, .hole, .any, .any, .any, .any, .any, .any, .any, .any, .any, .any, .any, .any, .any, .any, .any, .any, .any, .any, .any, .any, .any, .any, .any, .any], [], [(0, .cells 32 [.hole, .hole, .hole, .hole, .holeD 50])], 1⟩, exitF none [(0, ⟨[.any, .ptr 0 0, .hole, .hole, .any, .any, .any, .any, .any, .any, .any, .any, .any, .any, .any, .any, .any, .any, .any, .any, .any, .any, .any, .any, .any, .any, .any, .any, .any, .any, .any, .any, .any, .any, .any, .any, .any, .any, .any, .any, .any, .any, .any, .any, .any, .any, .any, .any, .any, .any, .any, .any, .any, .any, .any, .any, .any, .any, .any, .any], [], [(0, .cells 32 [.hole, .hole, .hole, .hole, .holeD 50])], 1⟩)] (some ⟨[.any, .any, .hole, .any, .any, .any, .any, .any, .any, .any, .any, .any, .any, .any, .any, .any, .any, .any, .any, .any, .any, .any, .any, .any, .any, .any, .any, .any, .any, .any, .any, .any, .any, .any, .any, .any, .any, .any, .any, .any, .any, .any, .any, .any, .any, .any, .any, .any, .any, .any, .any, .any, .any, .any, .any, .any, .any, .any, .any, .any], [], [], 0⟩), fun vs K => ∃ k, w_38_5 k vs K⟩
def s_38_3 : Bool → Int → Int → Int → Int → (List Record) → (Bool → Prop) → Prop :=
  fun x1 x2 x3 x4 x5 x6 kr ↦ ∃ k9, l_38_5 k9 x1 x4 x2 x6 (↑x6.length : Int) 0 x2 x3 x4 x5 x6 kr fun _ y11 _ _ _ y15 _ ↦ kr (y11 == y15)
def v_38_3 (vs : List (SV env.T)) (K : Ex → List (SV env.T) → Prop) : Prop :=
  dCB vs fun x1 vs => dCI .i64 vs fun x2 vs => dCI .i64 vs fun x3 vs => dCI .u64 vs fun x4 vs => dCI .u64 vs fun x5 vs => dCD 50 vs fun x6 vs => dCE vs (s_38_3 x1 x2 x3 x4 x5 x6 (fun y1 => K .ret [.bool y1]))
def q_38_3 : Piece env := ⟨⟨[.any, .ptr 0 0, .hole, .any, .any, .any, .any, .any, .any, .any, .any, .any, .any, .any, .any, .any, .any, .any, .any, .any, .any, .any, .any, .any, .any, .any, .any, .any, .any, .any, .any, .any, .any, .any, .any, .any, .any, .any, .any, .any, .any, .any, .any, .any, .any, .any, .any, .any, .any, .any, .any, .any, .any, .any, .any, .any, .any, .any, .any, .any], [], [(0, .cells 32 [.hole, .hole, .hole, .hole, .holeD 50])], 1⟩, exitF none [] (some ⟨[.any, .any, .hole, .any, .any, .any, .any, .any, .any, .any, .any, .any, .any, .any, .any, .any, .any, .any, .any, .any, .any, .any, .any, .any, .any, .any, .any, .any, .any, .any, .any, .any, .any, .any, .any, .any, .any, .any, .any, .any, .any, .any, .any, .any, .any, .any, .any, .any, .any, .any, .any, .any, .any, .any, .any, .any, .any, .any, .any, .any], [], [], 0⟩), v_38_3⟩
noncomputable def B38 : Segment → (Y38 → Prop) → Prop :=
  fun x0 K ↦ br (decide (x0.from_ < 0)) (K false) (br (decide (x0.from_ > x0.to_)) (K false) (br (decide (x0.to_ > 10000000)) (K false) (br (decide ((↑x0.records.length : Int) > 5000)) (K false) (s_38_3 false x0.from_ x0.to_ x0.begin_ x0.end_ x0.records K))))
theorem V38_ex : ∃ V : Segment → (Y38 → Prop) → Prop, V = B38 := ⟨_, rfl⟩
noncomputable def V38 : Segment → (Y38 → Prop) → Prop := Classical.choose V38_ex
theorem V38_eq : V38 = B38 := Classical.choose_spec V38_ex
theorem pooq_38_9_38 : PiecesOk Try.prog env (ctxG env false [] R45 [] []) 38 b38 :=
  pieces_at (rfIn_body (fn := f38) (b := b38) rfl hb38) (L := []) (S := []) (fun _ => rfl) (fun _ => rfl) (by kernel_rfl) (by kernel_rfl) (fun _ hq => by cases hq) (fun _ hq => by cases hq)
theorem booq_38_9 : BodiesOk Try.prog env (ctxG env false [] R45 [] []) := bodies_okG (ks := []) (by kernel_rfl) (fun _ hq => by cases hq)
theorem stoq_38_9 (x1 : Bool) (x2 : Int) (x3 : Int) (x4 : (List Record)) (x5 : Int) (x6 : Int) (x7 : Int) (x8 : Int) (x9 : Int) (x10 : Int) (x11 : (List Record)) (x12 : Int) (x13 : Int) (x14 : Int) (x15 : Int) (x16 : Int) (x17 : Int) (x18 : Int) (x19 : Int) (x20 : Int) (x21 : Bool) (x22 : Bool) (K : Ex → List (SV env.T) → Prop) : s_38_9  x1 x2 x3 x4 x5 x6 x7 x8 x9 x10 x11 x12 x13 x14 x15 x16 x17 x18 x19 x20 x21 x22 (fun y1 y2 y3 y4 y5 y6 y7 y8 y9 y10 y11 => K .normal [.bool y1, .int .u64 y2, .int .i64 y3, .dat 50 y4, .int .i64 y5, .int .i64 y6, .int .i64 y7, .int .i64 y8, .int .u64 y9, .int .u64 y10, .dat 50 y11]) = vcCode env (ctxG env false [] R45 [] []) 2000 38 (seqAt b38 9) (insSt q_38_9.head [.bool x1, .int .u64 x2, .int .i64 x3, .dat 50 x4, .int .i64 x5, .int .i64 x6, .int .i64 x7, .int .i64 x8, .int .u64 x9, .int .u64 x10, .dat 50 x11, .int .i64 x12, .int .i64 x13, .int .i64 x14, .int .i64 x15, .int .i64 x16, .int .i64 x17, .int .i64 x18, .int .i64 x19, .int .i64 x20, .bool x21, .bool x22]) (outP env q_38_9 K) := by kernel_rfl
theorem wioq_38_9 (vs : List (SV env.T)) (K : Ex → List (SV env.T) → Prop) (h : v_38_9 vs K) : ∃ x1 : Bool, ∃ x2 : Int, ∃ x3 : Int, ∃ x4 : (List Record), ∃ x5 : Int, ∃ x6 : Int, ∃ x7 : Int, ∃ x8 : Int, ∃ x9 : Int, ∃ x10 : Int, ∃ x11 : (List Record), ∃ x12 : Int, ∃ x13 : Int, ∃ x14 : Int, ∃ x15 : Int, ∃ x16 : Int, ∃ x17 : Int, ∃ x18 : Int, ∃ x19 : Int, ∃ x20 : Int, ∃ x21 : Bool, ∃ x22 : Bool, vs = [.bool x1, .int .u64 x2, .int .i64 x3, .dat 50 x4, .int .i64 x5, .int .i64 x6, .int .i64 x7, .int .i64 x8, .int .u64 x9, .int .u64 x10, .dat 50 x11, .int .i64 x12, .int .i64 x13, .int .i64 x14, .int .i64 x15, .int .i64 x16, .int .i64 x17, .int .i64 x18, .int .i64 x19, .int .i64 x20, .bool x21, .bool x22] ∧ s_38_9  x1 x2 x3 x4 x5 x6 x7 x8 x9 x10 x11 x12 x13 x14 x15 x16 x17 x18 x19 x20 x21 x22 (fun y1 y2 y3 y4 y5 y6 y7 y8 y9 y10 y11 => K .normal [.bool y1, .int .u64 y2, .int .i64 y3, .dat 50 y4, .int .i64 y5, .int .i64 y6, .int .i64 y7, .int .i64 y8, .int .u64 y9, .int .u64 y10, .dat 50 y11]) := by
  unfold v_38_9 at h
  replace h := dCB_spec h
  obtain ⟨x1, vs0, e0, h⟩ := h
  replace h := dCI_spec h
  obtain ⟨x2, vs1, e1, h⟩ := h
  replace h := dCI_spec h
  obtain ⟨x3, vs2, e2, h⟩ := h
  replace h := dCD_spec h
  obtain ⟨x4, vs3, e3, h⟩ := h
  replace h := dCI_spec h
  obtain ⟨x5, vs4, e4, h⟩ := h
  replace h := dCI_spec h
  obtain ⟨x6, vs5, e5, h⟩ := h
  replace h := dCI_spec h
  obtain ⟨x7, vs6, e6, h⟩ := h
  replace h := dCI_spec h
  obtain ⟨x8, vs7, e7, h⟩ := h
  replace h := dCI_spec h
  obtain ⟨x9, vs8, e8, h⟩ := h
  replace h := dCI_spec h
  obtain ⟨x10, vs9, e9, h⟩ := h
  replace h := dCD_spec h
  obtain ⟨x11, vs10, e10, h⟩ := h
  replace h := dCI_spec h
  obtain ⟨x12, vs11, e11, h⟩ := h
  replace h := dCI_spec h
  obtain ⟨x13, vs12, e12, h⟩ := h
  replace h := dCI_spec h
  obtain ⟨x14, vs13, e13, h⟩ := h
  replace h := dCI_spec h
  obtain ⟨x15, vs14, e14, h⟩ := h
  replace h := dCI_spec h
  obtain ⟨x16, vs15, e15, h⟩ := h
  replace h := dCI_spec h
  obtain ⟨x17, vs16, e16, h⟩ := h
  replace h := dCI_spec h
  obtain ⟨x18, vs17, e17, h⟩ := h
  replace h := dCI_spec h
  obtain ⟨x19, vs18, e18, h⟩ := h
  replace h := dCI_spec h
  obtain ⟨x20, vs19, e19, h⟩ := h
  replace h := dCB_spec h
  obtain ⟨x21, vs20, e20, h⟩ := h
  replace h := dCB_spec h
  obtain ⟨x22, vs21, e21, h⟩ := h
  replace h := dCE_spec h
  obtain ⟨e, h⟩ := h
  exact ⟨x1, x2, x3, x4, x5, x6, x7, x8, x9, x10, x11, x12, x13, x14, x15, x16, x17, x18, x19, x20, x21, x22, by rw [e0, e1, e2, e3, e4, e5, e6, e7, e8, e9, e10, e11, e12, e13, e14, e15, e16, e17, e18, e19, e20, e21, e], h⟩
theorem oq_38_9 : PieceOk Try.prog env q_38_9 (seqAt b38 9) := by
  refine seq_step tab (ctxG_ok R45_ok false [] _ _) booq_38_9 (pieces_subS pooq_38_9_38 (by kernel_rfl)) 2000 ?_
  intro vs K h
  obtain ⟨x1, x2, x3, x4, x5, x6, x7, x8, x9, x10, x11, x12, x13, x14, x15, x16, x17, x18, x19, x20, x21, x22, rfl, h⟩ := wioq_38_9 vs K h
  exact Eq.mp (stoq_38_9 x1 x2 x3 x4 x5 x6 x7 x8 x9 x10 x11 x12 x13 x14 x15 x16 x17 x18 x19 x20 x21 x22 K) h
theorem pook_38_5_38 : PiecesOk Try.prog env (ctxG env false [] R45 [] [(38, [(9, q_38_9)])]) 38 b38 :=
  pieces_at (rfIn_body (fn := f38) (b := b38) rfl hb38) (L := []) (S := [(9, q_38_9)]) (fun _ => rfl) (fun _ => rfl) (by kernel_rfl) (by kernel_rfl) (fun _ hq => by cases hq) (List.forall_mem_cons.2 ⟨fun _ => oq_38_9, (fun _ hq => by cases hq)⟩)
theorem book_38_5 : BodiesOk Try.prog env (ctxG env false [] R45 [] [(38, [(9, q_38_9)])]) := bodies_okG (ks := [38]) (by kernel_rfl) (List.forall_mem_cons.2 ⟨body_at (fn := f38) (body := b38) rfl hb38 pook_38_5_38, (fun _ hq => by cases hq)⟩)
theorem stok_38_5 (k : Nat) (x1 : Bool) (x2 : Int) (x3 : Int) (x4 : (List Record)) (x5 : Int) (x6 : Int) (x7 : Int) (x8 : Int) (x9 : Int) (x10 : Int) (x11 : (List Record)) (K : Ex → List (SV env.T) → Prop) : l_38_5 (k + 1) x1 x2 x3 x4 x5 x6 x7 x8 x9 x10 x11 (fun y1 => K .ret [.bool y1]) (fun y1 y2 y3 y4 y5 y6 y7 => K (.exit 0) [.bool y1, .int .u64 y2, .int .i64 y3, .int .i64 y4, .int .u64 y5, .int .u64 y6, .dat 50 y7]) = vcCode env (ctxG env false [] R45 [] [(38, [(9, q_38_9)])]) 2000 38 (loopAt b38 5) (insSt p_38_5.head [.bool x1, .int .u64 x2, .int .i64 x3, .dat 50 x4, .int .i64 x5, .int .i64 x6, .int .i64 x7, .int .i64 x8, .int .u64 x9, .int .u64 x10, .dat 50 x11]) (stepK p_38_5 (w_38_5 k) K) := by kernel_rfl
theorem wiok_38_5 (k : Nat) (vs : List (SV env.T)) (K : Ex → List (SV env.T) → Prop) (h : w_38_5 k vs K) : ∃ x1 : Bool, ∃ x2 : Int, ∃ x3 : Int, ∃ x4 : (List Record), ∃ x5 : Int, ∃ x6 : Int, ∃ x7 : Int, ∃ x8 : Int, ∃ x9 : Int, ∃ x10 : Int, ∃ x11 : (List Record), vs = [.bool x1, .int .u64 x2, .int .i64 x3, .dat 50 x4, .int .i64 x5, .int .i64 x6, .int .i64 x7, .int .i64 x8, .int .u64 x9, .int .u64 x10, .dat 50 x11] ∧ l_38_5 k x1 x2 x3 x4 x5 x6 x7 x8 x9 x10 x11 (fun y1 => K .ret [.bool y1]) (fun y1 y2 y3 y4 y5 y6 y7 => K (.exit 0) [.bool y1, .int .u64 y2, .int .i64 y3, .int .i64 y4, .int .u64 y5, .int .u64 y6, .dat 50 y7]) := by
  unfold w_38_5 at h
  replace h := dCB_spec h
  obtain ⟨x1, vs0, e0, h⟩ := h
  replace h := dCI_spec h
  obtain ⟨x2, vs1, e1, h⟩ := h
  replace h := dCI_spec h
  obtain ⟨x3, vs2, e2, h⟩ := h
  replace h := dCD_spec h
  obtain ⟨x4, vs3, e3, h⟩ := h
  replace h := dCI_spec h
  obtain ⟨x5, vs4, e4, h⟩ := h
  replace h := dCI_spec h
  obtain ⟨x6, vs5, e5, h⟩ := h
  replace h := dCI_spec h
  obtain ⟨x7, vs6, e6, h⟩ := h
  replace h := dCI_spec h
  obtain ⟨x8, vs7, e7, h⟩ := h
  replace h := dCI_spec h
  obtain ⟨x9, vs8, e8, h⟩ := h
  replace h := dCI_spec h
  obtain ⟨x10, vs9, e9, h⟩ := h
  replace h := dCD_spec h
  obtain ⟨x11, vs10, e10, h⟩ := h
  replace h := dCE_spec h
  obtain ⟨e, h⟩ := h
  exact ⟨x1, x2, x3, x4, x5, x6, x7, x8, x9, x10, x11, by rw [e0, e1, e2, e3, e4, e5, e6, e7, e8, e9, e10, e], h⟩
theorem zeok_38_5 (x1 : Bool) (x2 : Int) (x3 : Int) (x4 : (List Record)) (x5 : Int) (x6 : Int) (x7 : Int) (x8 : Int) (x9 : Int) (x10 : Int) (x11 : (List Record)) (K : Ex → List (SV env.T) → Prop) : l_38_5 0 x1 x2 x3 x4 x5 x6 x7 x8 x9 x10 x11 (fun y1 => K .ret [.bool y1]) (fun y1 y2 y3 y4 y5 y6 y7 => K (.exit 0) [.bool y1, .int .u64 y2, .int .i64 y3, .int .i64 y4, .int .u64 y5, .int .u64 y6, .dat 50 y7]) = False := by kernel_rfl
theorem ok_38_5 : PieceOk Try.prog env p_38_5 (.loop (loopAt b38 5)) := by
  refine loop_step (Wn := w_38_5) tab (ctxG_ok R45_ok false [] _ _) book_38_5 (pieces_sub pook_38_5_38 (by kernel_rfl)) rfl ?_ 2000 ?_
  · intro vs K h
    obtain ⟨x1, x2, x3, x4, x5, x6, x7, x8, x9, x10, x11, _, h⟩ := wiok_38_5 0 vs K h
    exact Eq.mp (zeok_38_5 x1 x2 x3 x4 x5 x6 x7 x8 x9 x10 x11 K) h
  · intro k vs K h
    obtain ⟨x1, x2, x3, x4, x5, x6, x7, x8, x9, x10, x11, rfl, h⟩ := wiok_38_5 (k + 1) vs K h
    exact Eq.mp (stok_38_5 k x1 x2 x3 x4 x5 x6 x7 x8 x9 x10 x11 K) h
theorem pooq_38_3_38 : PiecesOk Try.prog env (ctxG env false [] R45 [(38, [(5, p_38_5)])] [(38, [(9, q_38_9)])]) 38 b38 :=
  pieces_at (rfIn_body (fn := f38) (b := b38) rfl hb38) (L := [(5, p_38_5)]) (S := [(9, q_38_9)]) (fun _ => rfl) (fun _ => rfl) (by kernel_rfl) (by kernel_rfl) (List.forall_mem_cons.2 ⟨fun _ => ok_38_5, (fun _ hq => by cases hq)⟩) (List.forall_mem_cons.2 ⟨fun _ => oq_38_9, (fun _ hq => by cases hq)⟩)
theorem booq_38_3 : BodiesOk Try.prog env (ctxG env false [] R45 [(38, [(5, p_38_5)])] [(38, [(9, q_38_9)])]) := bodies_okG (ks := [38]) (by kernel_rfl) (List.forall_mem_cons.2 ⟨body_at (fn := f38) (body := b38) rfl hb38 pooq_38_3_38, (fun _ hq => by cases hq)⟩)
theorem stoq_38_3 (x1 : Bool) (x2 : Int) (x3 : Int) (x4 : Int) (x5 : Int) (x6 : (List Record)) (K : Ex → List (SV env.T) → Prop) : s_38_3  x1 x2 x3 x4 x5 x6 (fun y1 => K .ret [.bool y1]) = vcCode env (ctxG env false [] R45 [(38, [(5, p_38_5)])] [(38, [(9, q_38_9)])]) 2000 38 (seqAt b38 3) (insSt q_38_3.head [.bool x1, .int .i64 x2, .int .i64 x3, .int .u64 x4, .int .u64 x5, .dat 50 x6]) (outP env q_38_3 K) := by kernel_rfl
theorem wioq_38_3 (vs : List (SV env.T)) (K : Ex → List (SV env.T) → Prop) (h : v_38_3 vs K) : ∃ x1 : Bool, ∃ x2 : Int, ∃ x3 : Int, ∃ x4 : Int, ∃ x5 : Int, ∃ x6 : (List Record), vs = [.bool x1, .int .i64 x2, .int .i64 x3, .int .u64 x4, .int .u64 x5, .dat 50 x6] ∧ s_38_3  x1 x2 x3 x4 x5 x6 (fun y1 => K .ret [.bool y1]) := by
  unfold v_38_3 at h
  replace h := dCB_spec h
  obtain ⟨x1, vs0, e0, h⟩ := h
  replace h := dCI_spec h
  obtain ⟨x2, vs1, e1, h⟩ := h
  replace h := dCI_spec h
  obtain ⟨x3, vs2, e2, h⟩ := h
  replace h := dCI_spec h
  obtain ⟨x4, vs3, e3, h⟩ := h
  replace h := dCI_spec h
  obtain ⟨x5, vs4, e4, h⟩ := h
  replace h := dCD_spec h
  obtain ⟨x6, vs5, e5, h⟩ := h
  replace h := dCE_spec h
  obtain ⟨e, h⟩ := h
  exact ⟨x1, x2, x3, x4, x5, x6, by rw [e0, e1, e2, e3, e4, e5, e], h⟩
theorem oq_38_3 : PieceOk Try.prog env q_38_3 (seqAt b38 3) := by
  refine seq_step tab (ctxG_ok R45_ok false [] _ _) booq_38_3 (pieces_subS pooq_38_3_38 (by kernel_rfl)) 2000 ?_
  intro vs K h
  obtain ⟨x1, x2, x3, x4, x5, x6, rfl, h⟩ := wioq_38_3 vs K h
  exact Eq.mp (stoq_38_3 x1 x2 x3 x4 x5 x6 K) h
theorem po_38_38 : PiecesOk Try.prog env (ctxG env false [] R45 [(38, [(5, p_38_5)])] [(38, [(9, q_38_9), (3, q_38_3)])]) 38 b38 :=
  pieces_at (rfIn_body (fn := f38) (b := b38) rfl hb38) (L := [(5, p_38_5)]) (S := [(9, q_38_9), (3, q_38_3)]) (fun _ => rfl) (fun _ => rfl) (by kernel_rfl) (by kernel_rfl) (List.forall_mem_cons.2 ⟨fun _ => ok_38_5, (fun _ hq => by cases hq)⟩) (List.forall_mem_cons.2 ⟨fun _ => oq_38_9, (List.forall_mem_cons.2 ⟨fun _ => oq_38_3, (fun _ hq => by cases hq)⟩)⟩)
theorem bo_38 : BodiesOk Try.prog env (ctxG env false [] R45 [(38, [(5, p_38_5)])] [(38, [(9, q_38_9), (3, q_38_3)])]) := bodies_okG (ks := [38]) (by kernel_rfl) (List.forall_mem_cons.2 ⟨body_at (fn := f38) (body := b38) rfl hb38 po_38_38, (fun _ hq => by cases hq)⟩)
theorem eq_38 (x0 : Segment) (K : Y38 → Prop) : vcCode env (ctxG env false [] R45 [(38, [(5, p_38_5)])] [(38, [(9, q_38_9), (3, q_38_3)])]) 2000 38 b38 (entry env f38 [v32 x0]) (finR env f38 decR38 K) = B38 x0 K := by kernel_rfl
noncomputable def rule38 : Nat × Rule env := (38, ruleF env decA38 encR38 fun x => V38 x)
theorem r38 : RuleOk Try.prog env 38 rule38.2 :=
  rule_fun tab (ctxG_ok R45_ok false [] _ _) bo_38 (f := 38) (fn := f38) rfl hb38 po_38_38 2000 encA38 hA38 hR38 hD38 (fun _ => of_decide_eq_true (by kernel_rfl)) (fun x K => (eq_38 x K).trans (by rw [V38_eq]))
noncomputable def R38 : List (Nat × Rule env) := rule38 :: R45
theorem R38_ok : AllOk Try.prog env R38 := ⟨r38, R45_ok⟩
end Go.Vg.Ytkaodeodiakldaa
