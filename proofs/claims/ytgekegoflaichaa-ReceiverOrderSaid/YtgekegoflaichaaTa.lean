/-
  Walked functions of the program: predicate transformers and their rules. Written by a program of this work (gen.py, VgGen.lean) out of the executor's own reduction; no condition.
-/
import Derived.Test.YtgekegoflaichaaEnv
set_option maxRecDepth 100000
set_option maxHeartbeats 4000000
namespace Go.Vg.Ytgekegoflaichaa
open Go.Vg Go.Proofs
noncomputable def R0 : List (Nat × Rule env) := []
theorem R0_ok : AllOk Try.prog env R0 := trivial
-- 67 queuelab/receiver.inside
noncomputable def f67 : Func := Try.f67
noncomputable def b67 : Code := (Try.f67.body).getD .skip
abbrev X67 := Int × Int × Int
def encA67 (x : X67) : List (SV env.T) := [v3 x.1, v3 x.2.1, v3 x.2.2]
def decA67 (l : List (SV env.T)) : Option X67 := match l with
  | [s0, s1, s2] => match u3 s0, u3 s1, u3 s2 with
    | some x0, some x1, some x2 => some (x0, x1, x2)
    | _, _, _ => none
  | _ => none
theorem hA67 (l : List (SV env.T)) (x : X67) (h : decA67 l = some x) : WkA env.has l (encA67 x) := by
  unfold decA67 at h; split at h
  · split at h
    · rename_i h0 h1 h2; cases h; exact (.cons (u3_wk h0) (.cons (u3_wk h1) (.cons (u3_wk h2) .nil)))
    · cases h
  · cases h
abbrev Y67 := Bool
def encR67 (x : Y67) : List (SV env.T) := [v4 x]
def decR67 (l : List (SV env.T)) : Option Y67 := match l with
  | [s0] => match u4 s0 with
    | some x0 => some (x0)
    | _ => none
  | _ => none
theorem hR67 (l : List (SV env.T)) (x : Y67) (h : decR67 l = some x) : WkA env.has l (encR67 x) := by
  unfold decR67 at h; split at h
  · split at h
    · rename_i h0; cases h; exact (.cons (u4_wk h0) .nil)
    · cases h
  · cases h
theorem hD67 (y : Y67) : isDataV (tupV (encR67 y)) = true := rfl
theorem hb67 : f67.body = some b67 := by kernel_rfl
noncomputable def B67 : Int → Int → Int → (Y67 → Prop) → Prop :=
  fun x0 x1 x2 K ↦ br (decide (x0 ≥ x1)) (K (decide (x0 ≤ x2))) (K false)
theorem V67_ex : ∃ V : Int → Int → Int → (Y67 → Prop) → Prop, V = B67 := ⟨_, rfl⟩
noncomputable def V67 : Int → Int → Int → (Y67 → Prop) → Prop := Classical.choose V67_ex
theorem V67_eq : V67 = B67 := Classical.choose_spec V67_ex
theorem po_67_67 : PiecesOk Try.prog env (ctxG env false [] R0 [] []) 67 b67 :=
  pieces_at (L := []) (S := []) (fun _ => rfl) (fun _ => rfl) (by kernel_rfl) (by kernel_rfl) (fun _ hq => by cases hq) (fun _ hq => by cases hq)
theorem bo_67 : BodiesOk Try.prog env (ctxG env false [] R0 [] []) := bodies_okG (ks := []) (by kernel_rfl) (fun _ hq => by cases hq)
theorem eq_67 (x0 : Int) (x1 : Int) (x2 : Int) (K : Y67 → Prop) : vcCode env (ctxG env false [] R0 [] []) 2000 67 b67 (entry env f67 [v3 x0, v3 x1, v3 x2]) (finR env f67 decR67 K) = B67 x0 x1 x2 K := by kernel_rfl
noncomputable def rule67 : Nat × Rule env := (67, ruleF env decA67 encR67 fun x => V67 x.1 x.2.1 x.2.2)
theorem r67 : RuleOk Try.prog env 67 rule67.2 :=
  rule_fun tab (ctxG_ok R0_ok false [] _ _) bo_67 (f := 67) (fn := f67) rfl hb67 po_67_67 2000 encA67 hA67 hR67 hD67 (fun _ => of_decide_eq_true (by kernel_rfl)) (fun x K => (eq_67 x.1 x.2.1 x.2.2 K).trans (by rw [V67_eq]))
noncomputable def R67 : List (Nat × Rule env) := rule67 :: R0
theorem R67_ok : AllOk Try.prog env R67 := ⟨r67, R0_ok⟩
-- 61 queuelab/receiver.packet
noncomputable def f61 : Func := Try.f61
noncomputable def b61 : Code := (Try.f61.body).getD .skip
abbrev X61 := Packet
def encA61 (x : X61) : List (SV env.T) := [v30 x]
def decA61 (l : List (SV env.T)) : Option X61 := match l with
  | [s0] => match u30 s0 with
    | some x0 => some (x0)
    | _ => none
  | _ => none
theorem hA61 (l : List (SV env.T)) (x : X61) (h : decA61 l = some x) : WkA env.has l (encA61 x) := by
  unfold decA61 at h; split at h
  · split at h
    · rename_i h0; cases h; exact (.cons (u30_wk h0) .nil)
    · cases h
  · cases h
abbrev Y61 := Bool
def encR61 (x : Y61) : List (SV env.T) := [v4 x]
def decR61 (l : List (SV env.T)) : Option Y61 := match l with
  | [s0] => match u4 s0 with
    | some x0 => some (x0)
    | _ => none
  | _ => none
theorem hR61 (l : List (SV env.T)) (x : Y61) (h : decR61 l = some x) : WkA env.has l (encR61 x) := by
  unfold decR61 at h; split at h
  · split at h
    · rename_i h0; cases h; exact (.cons (u4_wk h0) .nil)
    · cases h
  · cases h
theorem hD61 (y : Y61) : isDataV (tupV (encR61 y)) = true := rfl
theorem hb61 : f61.body = some b61 := by kernel_rfl
noncomputable def B61 : Packet → (Y61 → Prop) → Prop :=
  fun x0 K ↦ V67 x0.flow 0 7 fun y2 ↦ br y2 (V67 x0.sub 0 3 fun y3 ↦ br y3 (V67 x0.number 0 1000000000 fun y4 ↦ br y4 (V67 x0.data 0 1000000000 fun y5 ↦ br y5 (V67 x0.size 1 10000 fun y6 ↦ br y6 (V67 x0.sent 0 10000000 K) (K false)) (K false)) (K false)) (K false)) (K false)
theorem V61_ex : ∃ V : Packet → (Y61 → Prop) → Prop, V = B61 := ⟨_, rfl⟩
noncomputable def V61 : Packet → (Y61 → Prop) → Prop := Classical.choose V61_ex
theorem V61_eq : V61 = B61 := Classical.choose_spec V61_ex
theorem po_61_61 : PiecesOk Try.prog env (ctxG env false [] R67 [] []) 61 b61 :=
  pieces_at (L := []) (S := []) (fun _ => rfl) (fun _ => rfl) (by kernel_rfl) (by kernel_rfl) (fun _ hq => by cases hq) (fun _ hq => by cases hq)
theorem bo_61 : BodiesOk Try.prog env (ctxG env false [] R67 [] []) := bodies_okG (ks := []) (by kernel_rfl) (fun _ hq => by cases hq)
theorem eq_61 (x0 : Packet) (K : Y61 → Prop) : vcCode env (ctxG env false [] R67 [] []) 2000 61 b61 (entry env f61 [v30 x0]) (finR env f61 decR61 K) = B61 x0 K := by kernel_rfl
noncomputable def rule61 : Nat × Rule env := (61, ruleF env decA61 encR61 fun x => V61 x)
theorem r61 : RuleOk Try.prog env 61 rule61.2 :=
  rule_fun tab (ctxG_ok R67_ok false [] _ _) bo_61 (f := 61) (fn := f61) rfl hb61 po_61_61 2000 encA61 hA61 hR61 hD61 (fun _ => of_decide_eq_true (by kernel_rfl)) (fun x K => (eq_61 x K).trans (by rw [V61_eq]))
noncomputable def R61 : List (Nat × Rule env) := rule61 :: R67
theorem R61_ok : AllOk Try.prog env R61 := ⟨r61, R67_ok⟩
noncomputable def f68 : Func := Try.f68
noncomputable def b68 : Code := (Try.f68.body).getD .skip
theorem hb68 : f68.body = some b68 := by kernel_rfl
noncomputable def f69 : Func := Try.f69
noncomputable def b69 : Code := (Try.f69.body).getD .skip
theorem hb69 : f69.body = some b69 := by kernel_rfl
noncomputable def f76 : Func := Try.f76
noncomputable def b76 : Code := (Try.f76.body).getD .skip
theorem hb76 : f76.body = some b76 := by kernel_rfl
-- 39 queuelab/receiver.Valid
noncomputable def f39 : Func := Try.f39
noncomputable def b39 : Code := (Try.f39.body).getD .skip
abbrev X39 := Receiver × Int
def encA39 (x : X39) : List (SV env.T) := [v67 x.1, v3 x.2]
def decA39 (l : List (SV env.T)) : Option X39 := match l with
  | [s0, s1] => match u67 s0, u3 s1 with
    | some x0, some x1 => some (x0, x1)
    | _, _ => none
  | _ => none
theorem hA39 (l : List (SV env.T)) (x : X39) (h : decA39 l = some x) : WkA env.has l (encA39 x) := by
  unfold decA39 at h; split at h
  · split at h
    · rename_i h0 h1; cases h; exact (.cons (u67_wk h0) (.cons (u3_wk h1) .nil))
    · cases h
  · cases h
abbrev Y39 := Bool
def encR39 (x : Y39) : List (SV env.T) := [v4 x]
def decR39 (l : List (SV env.T)) : Option Y39 := match l with
  | [s0] => match u4 s0 with
    | some x0 => some (x0)
    | _ => none
  | _ => none
theorem hR39 (l : List (SV env.T)) (x : Y39) (h : decR39 l = some x) : WkA env.has l (encR39 x) := by
  unfold decR39 at h; split at h
  · split at h
    · rename_i h0; cases h; exact (.cons (u4_wk h0) .nil)
    · cases h
  · cases h
theorem hD39 (y : Y39) : isDataV (tupV (encR39 y)) = true := rfl
theorem hb39 : f39.body = some b39 := by kernel_rfl
def l_39x76_2 : Nat → (List Int) → Int → Int → Int → (List Int) → Bool → (List Int) → Bool → (List Int) → Int → Int → (List Int) → Int → (Int → (List Int) → Bool → (List Int) → Bool → (List Int) → Int → Int → (List Int) → Int → Prop) → (Int → (List Int) → Bool → (List Int) → Bool → (List Int) → Int → Int → (List Int) → Int → Prop) → Prop
  | 0 => fun _ _ _ _ _ _ _ _ _ _ _ _ _ _ _ => False
  | k + 1 => fun x1 x2 x3 x4 x5 x6 x7 x8 x9 x10 x11 x12 x13 kr k0 ↦ br (decide (x4 < x3)) (br (inb x4 (↑x1.length : Int)) (V67 (x1.getD x4.toNat (env.d 3)) (IntKind.i64.wrap (x10 + 1)) (IntKind.i64.wrap ((if 1000000000 < IntKind.i64.wrap (x11 + x13) then 1000000000 else IntKind.i64.wrap (x11 + x13)) - 1)) fun y17 ↦ br (!y17) (kr x4 x5 x6 x7 x8 x9 (x1.getD x4.toNat (env.d 3)) x11 x12 x13) (l_39x76_2 k x1 x2 x3 (IntKind.i64.wrap (x4 + 1)) x5 x6 x7 x8 x9 (x1.getD x4.toNat (env.d 3)) x11 x12 x13 kr k0)) False) (k0 x2 x5 x6 x7 x8 x9 x10 x11 x12 x13)
def w_39x76_2 (k : Nat) (vs : List (SV env.T)) (K : Ex → List (SV env.T) → Prop) : Prop :=
  dCD 3 vs fun x1 vs => dCI .i64 vs fun x2 vs => dCI .i64 vs fun x3 vs => dCI .i64 vs fun x4 vs => dCD 3 vs fun x5 vs => dCB vs fun x6 vs => dCD 3 vs fun x7 vs => dCB vs fun x8 vs => dCD 3 vs fun x9 vs => dCI .i64 vs fun x10 vs => dCI .i64 vs fun x11 vs => dCD 3 vs fun x12 vs => dCI .i64 vs fun x13 vs => dCE vs (l_39x76_2 k x1 x2 x3 x4 x5 x6 x7 x8 x9 x10 x11 x12 x13 (fun y1 y2 y3 y4 y5 y6 y7 y8 y9 y10 => K .ret [.int .i64 y1, .dat 3 y2, .bool y3, .dat 3 y4, .bool y5, .dat 3 y6, .int .i64 y7, .int .i64 y8, .dat 3 y9, .int .i64 y10]) (fun y1 y2 y3 y4 y5 y6 y7 y8 y9 y10 => K (.exit 0) [.int .i64 y1, .dat 3 y2, .bool y3, .dat 3 y4, .bool y5, .dat 3 y6, .int .i64 y7, .int .i64 y8, .dat 3 y9, .int .i64 y10]))
def p_39x76_2 : Piece env := ⟨⟨[.holeD 3, .fn 68 [.ptr 0 0, .ptr 1 0, .ptr 2 0], .any, .any, .hole, .any, .any, .hole, .hole, .any, .any, .any, .any, .any, .any, .any, .any, .any, .any], [.holeD 3, .fn 68 [.ptr 0 0, .ptr 1 0, .ptr 2 0], .any, .any, .hole, .holeD 3, .fn 68 [.ptr 0 0, .ptr 1 0, .ptr 2 0], .tup0, .tup0, .any, .any, .ptr 1 0, .any, .hole, .any, .fn 68 [.ptr 0 0, .ptr 1 0, .ptr 2 0], .any, .any, .any, .any, .any, .any, .any, .any, .any, .any, .any, .any, .ptr 1 1, .holeD 3, .fn 68 [.ptr 0 0, .ptr 1 0, .ptr 2 0], .any, .any], [(0, .cells 3 [.hole]), (1, .cells 67 [.hole, .holeD 3]), (2, .cells 3 [.hole])], 3⟩, exitF none [(0, ⟨[.any, .any, .any, .any, .hole, .any, .any, .any, .any, .any, .any, .any, .any, .any, .any, .any, .any, .any, .any], [.holeD 3, .fn 68 [.ptr 0 0, .ptr 1 0, .ptr 2 0], .any, .any, .hole, .holeD 3, .fn 68 [.ptr 0 0, .ptr 1 0, .ptr 2 0], .tup0, .tup0, .any, .any, .ptr 1 0, .any, .hole, .any, .fn 68 [.ptr 0 0, .ptr 1 0, .ptr 2 0], .any, .any, .any, .any, .any, .any, .any, .any, .any, .any, .any, .any, .ptr 1 1, .holeD 3, .fn 68 [.ptr 0 0, .ptr 1 0, .ptr 2 0], .any, .any], [(0, .cells 3 [.hole]), (1, .cells 67 [.hole, .holeD 3]), (2, .cells 3 [.hole])], 3⟩)] (some ⟨[.any, .any, .any, .any, .hole, .any, .any, .any, .any, .any, .any, .any, .any, .any, .any, .any, .any, .any, .any], [.holeD 3, .fn 68 [.ptr 0 0, .ptr 1 0, .ptr 2 0], .any, .any, .hole, .holeD 3, .fn 68 [.ptr 0 0, .ptr 1 0, .ptr 2 0], .tup0, .tup0, .any, .any, .ptr 1 0, .any, .hole, .any, .fn 68 [.ptr 0 0, .ptr 1 0, .ptr 2 0], .any, .any, .any, .any, .any, .any, .any, .any, .any, .any, .any, .any, .ptr 1 1, .holeD 3, .fn 68 [.ptr 0 0, .ptr 1 0, .ptr 2 0], .any, .any], [(0, .cells 3 [.hole]), (1, .cells 67 [.hole, .holeD 3]), (2, .cells 3 [.hole])], 3⟩), fun vs K => ∃ k, w_39x76_2 k vs K⟩
def s_39_3 : Bool → Int → (List Int) → Int → (Bool → Prop) → Prop :=
  fun x1 x2 x3 x4 kr ↦ ∃ k7, l_39x76_2 k7 x3 0 (↑x3.length : Int) 0 x3 false x3 x1 x3 x2 x2 x3 x4 (fun y8 _ _ _ _ _ _ _ _ _ ↦ kr !decide (y8 ≥ 0)) fun _ _ _ _ _ _ _ _ _ _ ↦ kr !decide (-1 ≥ 0)
def v_39_3 (vs : List (SV env.T)) (K : Ex → List (SV env.T) → Prop) : Prop :=
  dCB vs fun x1 vs => dCI .i64 vs fun x2 vs => dCD 3 vs fun x3 vs => dCI .i64 vs fun x4 vs => dCE vs (s_39_3 x1 x2 x3 x4 (fun y1 => K .ret [.bool y1]))
def q_39_3 : Piece env := ⟨⟨[.any, .any, .ptr 0 0, .ptr 1 0, .hole, .any, .any, .any, .any, .any, .any, .any, .any, .any, .any, .any, .any, .any, .any, .any, .any, .any, .any, .any], [], [(0, .cells 67 [.hole, .holeD 3]), (1, .cells 3 [.hole])], 2⟩, exitF none [] (some ⟨[.any, .any, .any, .any, .hole, .any, .any, .any, .any, .any, .any, .any, .any, .any, .any, .any, .any, .any, .any, .any, .any, .any, .any, .any], [], [], 0⟩), v_39_3⟩
noncomputable def B39 : Receiver → Int → (Y39 → Prop) → Prop :=
  fun x0 x1 K ↦ V67 x1 1 1000 fun y3 ↦ br (!y3) (K false) (V67 x0.next_ 0 1000000000 fun y4 ↦ br (!y4) (K false) (s_39_3 false x0.next_ x0.have_ x1 K))
theorem V39_ex : ∃ V : Receiver → Int → (Y39 → Prop) → Prop, V = B39 := ⟨_, rfl⟩
noncomputable def V39 : Receiver → Int → (Y39 → Prop) → Prop := Classical.choose V39_ex
theorem V39_eq : V39 = B39 := Classical.choose_spec V39_ex
theorem pook_39x76_2_76 : PiecesOk Try.prog env (ctxG env false [] R61 [] []) 76 b76 :=
  pieces_at (L := []) (S := []) (fun _ => rfl) (fun _ => rfl) (by kernel_rfl) (by kernel_rfl) (fun _ hq => by cases hq) (fun _ hq => by cases hq)
theorem book_39x76_2 : BodiesOk Try.prog env (ctxG env false [] R61 [] []) := bodies_okG (ks := []) (by kernel_rfl) (fun _ hq => by cases hq)
theorem stok_39x76_2 (k : Nat) (x1 : (List Int)) (x2 : Int) (x3 : Int) (x4 : Int) (x5 : (List Int)) (x6 : Bool) (x7 : (List Int)) (x8 : Bool) (x9 : (List Int)) (x10 : Int) (x11 : Int) (x12 : (List Int)) (x13 : Int) (K : Ex → List (SV env.T) → Prop) : l_39x76_2 (k + 1) x1 x2 x3 x4 x5 x6 x7 x8 x9 x10 x11 x12 x13 (fun y1 y2 y3 y4 y5 y6 y7 y8 y9 y10 => K .ret [.int .i64 y1, .dat 3 y2, .bool y3, .dat 3 y4, .bool y5, .dat 3 y6, .int .i64 y7, .int .i64 y8, .dat 3 y9, .int .i64 y10]) (fun y1 y2 y3 y4 y5 y6 y7 y8 y9 y10 => K (.exit 0) [.int .i64 y1, .dat 3 y2, .bool y3, .dat 3 y4, .bool y5, .dat 3 y6, .int .i64 y7, .int .i64 y8, .dat 3 y9, .int .i64 y10]) = vcCode env (ctxG env false [] R61 [] []) 2000 76 (loopAt b76 2) (insSt p_39x76_2.head [.dat 3 x1, .int .i64 x2, .int .i64 x3, .int .i64 x4, .dat 3 x5, .bool x6, .dat 3 x7, .bool x8, .dat 3 x9, .int .i64 x10, .int .i64 x11, .dat 3 x12, .int .i64 x13]) (stepK p_39x76_2 (w_39x76_2 k) K) := by kernel_rfl
theorem wiok_39x76_2 (k : Nat) (vs : List (SV env.T)) (K : Ex → List (SV env.T) → Prop) (h : w_39x76_2 k vs K) : ∃ x1 : (List Int), ∃ x2 : Int, ∃ x3 : Int, ∃ x4 : Int, ∃ x5 : (List Int), ∃ x6 : Bool, ∃ x7 : (List Int), ∃ x8 : Bool, ∃ x9 : (List Int), ∃ x10 : Int, ∃ x11 : Int, ∃ x12 : (List Int), ∃ x13 : Int, vs = [.dat 3 x1, .int .i64 x2, .int .i64 x3, .int .i64 x4, .dat 3 x5, .bool x6, .dat 3 x7, .bool x8, .dat 3 x9, .int .i64 x10, .int .i64 x11, .dat 3 x12, .int .i64 x13] ∧ l_39x76_2 k x1 x2 x3 x4 x5 x6 x7 x8 x9 x10 x11 x12 x13 (fun y1 y2 y3 y4 y5 y6 y7 y8 y9 y10 => K .ret [.int .i64 y1, .dat 3 y2, .bool y3, .dat 3 y4, .bool y5, .dat 3 y6, .int .i64 y7, .int .i64 y8, .dat 3 y9, .int .i64 y10]) (fun y1 y2 y3 y4 y5 y6 y7 y8 y9 y10 => K (.exit 0) [.int .i64 y1, .dat 3 y2, .bool y3, .dat 3 y4, .bool y5, .dat 3 y6, .int .i64 y7, .int .i64 y8, .dat 3 y9, .int .i64 y10]) := by
  unfold w_39x76_2 at h
  replace h := dCD_spec h
  obtain ⟨x1, vs0, e0, h⟩ := h
  replace h := dCI_spec h
  obtain ⟨x2, vs1, e1, h⟩ := h
  replace h := dCI_spec h
  obtain ⟨x3, vs2, e2, h⟩ := h
  replace h := dCI_spec h
  obtain ⟨x4, vs3, e3, h⟩ := h
  replace h := dCD_spec h
  obtain ⟨x5, vs4, e4, h⟩ := h
  replace h := dCB_spec h
  obtain ⟨x6, vs5, e5, h⟩ := h
  replace h := dCD_spec h
  obtain ⟨x7, vs6, e6, h⟩ := h
  replace h := dCB_spec h
  obtain ⟨x8, vs7, e7, h⟩ := h
  replace h := dCD_spec h
  obtain ⟨x9, vs8, e8, h⟩ := h
  replace h := dCI_spec h
  obtain ⟨x10, vs9, e9, h⟩ := h
  replace h := dCI_spec h
  obtain ⟨x11, vs10, e10, h⟩ := h
  replace h := dCD_spec h
  obtain ⟨x12, vs11, e11, h⟩ := h
  replace h := dCI_spec h
  obtain ⟨x13, vs12, e12, h⟩ := h
  replace h := dCE_spec h
  obtain ⟨e, h⟩ := h
  exact ⟨x1, x2, x3, x4, x5, x6, x7, x8, x9, x10, x11, x12, x13, by rw [e0, e1, e2, e3, e4, e5, e6, e7, e8, e9, e10, e11, e12, e], h⟩
theorem zeok_39x76_2 (x1 : (List Int)) (x2 : Int) (x3 : Int) (x4 : Int) (x5 : (List Int)) (x6 : Bool) (x7 : (List Int)) (x8 : Bool) (x9 : (List Int)) (x10 : Int) (x11 : Int) (x12 : (List Int)) (x13 : Int) (K : Ex → List (SV env.T) → Prop) : l_39x76_2 0 x1 x2 x3 x4 x5 x6 x7 x8 x9 x10 x11 x12 x13 (fun y1 y2 y3 y4 y5 y6 y7 y8 y9 y10 => K .ret [.int .i64 y1, .dat 3 y2, .bool y3, .dat 3 y4, .bool y5, .dat 3 y6, .int .i64 y7, .int .i64 y8, .dat 3 y9, .int .i64 y10]) (fun y1 y2 y3 y4 y5 y6 y7 y8 y9 y10 => K (.exit 0) [.int .i64 y1, .dat 3 y2, .bool y3, .dat 3 y4, .bool y5, .dat 3 y6, .int .i64 y7, .int .i64 y8, .dat 3 y9, .int .i64 y10]) = False := by kernel_rfl
theorem ok_39x76_2 : PieceOk Try.prog env p_39x76_2 (.loop (loopAt b76 2)) := by
  refine loop_step (Wn := w_39x76_2) tab (ctxG_ok R61_ok false [] _ _) book_39x76_2 (pieces_sub pook_39x76_2_76 (by kernel_rfl)) rfl ?_ 2000 ?_
  · intro vs K h
    obtain ⟨x1, x2, x3, x4, x5, x6, x7, x8, x9, x10, x11, x12, x13, _, h⟩ := wiok_39x76_2 0 vs K h
    exact Eq.mp (zeok_39x76_2 x1 x2 x3 x4 x5 x6 x7 x8 x9 x10 x11 x12 x13 K) h
  · intro k vs K h
    obtain ⟨x1, x2, x3, x4, x5, x6, x7, x8, x9, x10, x11, x12, x13, rfl, h⟩ := wiok_39x76_2 (k + 1) vs K h
    exact Eq.mp (stok_39x76_2 k x1 x2 x3 x4 x5 x6 x7 x8 x9 x10 x11 x12 x13 K) h
theorem pooq_39_3_39 : PiecesOk Try.prog env (ctxG env false [] R61 [(76, [(2, p_39x76_2)])] []) 39 b39 :=
  pieces_at (L := []) (S := []) (fun _ => rfl) (fun _ => rfl) (by kernel_rfl) (by kernel_rfl) (fun _ hq => by cases hq) (fun _ hq => by cases hq)
theorem pooq_39_3_76 : PiecesOk Try.prog env (ctxG env false [] R61 [(76, [(2, p_39x76_2)])] []) 76 b76 :=
  pieces_at (L := [(2, p_39x76_2)]) (S := []) (fun _ => rfl) (fun _ => rfl) (by kernel_rfl) (by kernel_rfl) (List.forall_mem_cons.2 ⟨fun _ => ok_39x76_2, (fun _ hq => by cases hq)⟩) (fun _ hq => by cases hq)
theorem booq_39_3 : BodiesOk Try.prog env (ctxG env false [] R61 [(76, [(2, p_39x76_2)])] []) := bodies_okG (ks := [76]) (by kernel_rfl) (List.forall_mem_cons.2 ⟨body_at (fn := f76) (body := b76) rfl hb76 pooq_39_3_76, (fun _ hq => by cases hq)⟩)
theorem stoq_39_3 (x1 : Bool) (x2 : Int) (x3 : (List Int)) (x4 : Int) (K : Ex → List (SV env.T) → Prop) : s_39_3  x1 x2 x3 x4 (fun y1 => K .ret [.bool y1]) = vcCode env (ctxG env false [] R61 [(76, [(2, p_39x76_2)])] []) 2000 39 (seqAt b39 3) (insSt q_39_3.head [.bool x1, .int .i64 x2, .dat 3 x3, .int .i64 x4]) (outP env q_39_3 K) := by kernel_rfl
theorem wioq_39_3 (vs : List (SV env.T)) (K : Ex → List (SV env.T) → Prop) (h : v_39_3 vs K) : ∃ x1 : Bool, ∃ x2 : Int, ∃ x3 : (List Int), ∃ x4 : Int, vs = [.bool x1, .int .i64 x2, .dat 3 x3, .int .i64 x4] ∧ s_39_3  x1 x2 x3 x4 (fun y1 => K .ret [.bool y1]) := by
  unfold v_39_3 at h
  replace h := dCB_spec h
  obtain ⟨x1, vs0, e0, h⟩ := h
  replace h := dCI_spec h
  obtain ⟨x2, vs1, e1, h⟩ := h
  replace h := dCD_spec h
  obtain ⟨x3, vs2, e2, h⟩ := h
  replace h := dCI_spec h
  obtain ⟨x4, vs3, e3, h⟩ := h
  replace h := dCE_spec h
  obtain ⟨e, h⟩ := h
  exact ⟨x1, x2, x3, x4, by rw [e0, e1, e2, e3, e], h⟩
theorem oq_39_3 : PieceOk Try.prog env q_39_3 (seqAt b39 3) := by
  refine seq_step tab (ctxG_ok R61_ok false [] _ _) booq_39_3 (pieces_subS pooq_39_3_39 (by kernel_rfl)) 2000 ?_
  intro vs K h
  obtain ⟨x1, x2, x3, x4, rfl, h⟩ := wioq_39_3 vs K h
  exact Eq.mp (stoq_39_3 x1 x2 x3 x4 K) h
theorem po_39_39 : PiecesOk Try.prog env (ctxG env false [] R61 [(76, [(2, p_39x76_2)])] [(39, [(3, q_39_3)])]) 39 b39 :=
  pieces_at (L := []) (S := [(3, q_39_3)]) (fun _ => rfl) (fun _ => rfl) (by kernel_rfl) (by kernel_rfl) (fun _ hq => by cases hq) (List.forall_mem_cons.2 ⟨fun _ => oq_39_3, (fun _ hq => by cases hq)⟩)
theorem po_39_76 : PiecesOk Try.prog env (ctxG env false [] R61 [(76, [(2, p_39x76_2)])] [(39, [(3, q_39_3)])]) 76 b76 :=
  pieces_at (L := [(2, p_39x76_2)]) (S := []) (fun _ => rfl) (fun _ => rfl) (by kernel_rfl) (by kernel_rfl) (List.forall_mem_cons.2 ⟨fun _ => ok_39x76_2, (fun _ hq => by cases hq)⟩) (fun _ hq => by cases hq)
theorem bo_39 : BodiesOk Try.prog env (ctxG env false [] R61 [(76, [(2, p_39x76_2)])] [(39, [(3, q_39_3)])]) := bodies_okG (ks := [39, 76]) (by kernel_rfl) (List.forall_mem_cons.2 ⟨body_at (fn := f39) (body := b39) rfl hb39 po_39_39, (List.forall_mem_cons.2 ⟨body_at (fn := f76) (body := b76) rfl hb76 po_39_76, (fun _ hq => by cases hq)⟩)⟩)
theorem eq_39 (x0 : Receiver) (x1 : Int) (K : Y39 → Prop) : vcCode env (ctxG env false [] R61 [(76, [(2, p_39x76_2)])] [(39, [(3, q_39_3)])]) 2000 39 b39 (entry env f39 [v67 x0, v3 x1]) (finR env f39 decR39 K) = B39 x0 x1 K := by kernel_rfl
noncomputable def rule39 : Nat × Rule env := (39, ruleF env decA39 encR39 fun x => V39 x.1 x.2)
theorem r39 : RuleOk Try.prog env 39 rule39.2 :=
  rule_fun tab (ctxG_ok R61_ok false [] _ _) bo_39 (f := 39) (fn := f39) rfl hb39 po_39_39 2000 encA39 hA39 hR39 hD39 (fun _ => of_decide_eq_true (by kernel_rfl)) (fun x K => (eq_39 x.1 x.2 K).trans (by rw [V39_eq]))
noncomputable def R39 : List (Nat × Rule env) := rule39 :: R61
theorem R39_ok : AllOk Try.prog env R39 := ⟨r39, R61_ok⟩
-- 77 cmp.isNaN[int]
noncomputable def f77 : Func := Try.f77
noncomputable def b77 : Code := (Try.f77.body).getD .skip
abbrev X77 := Int
def encA77 (x : X77) : List (SV env.T) := [v3 x]
def decA77 (l : List (SV env.T)) : Option X77 := match l with
  | [s0] => match u3 s0 with
    | some x0 => some (x0)
    | _ => none
  | _ => none
theorem hA77 (l : List (SV env.T)) (x : X77) (h : decA77 l = some x) : WkA env.has l (encA77 x) := by
  unfold decA77 at h; split at h
  · split at h
    · rename_i h0; cases h; exact (.cons (u3_wk h0) .nil)
    · cases h
  · cases h
abbrev Y77 := Bool
def encR77 (x : Y77) : List (SV env.T) := [v4 x]
def decR77 (l : List (SV env.T)) : Option Y77 := match l with
  | [s0] => match u4 s0 with
    | some x0 => some (x0)
    | _ => none
  | _ => none
theorem hR77 (l : List (SV env.T)) (x : Y77) (h : decR77 l = some x) : WkA env.has l (encR77 x) := by
  unfold decR77 at h; split at h
  · split at h
    · rename_i h0; cases h; exact (.cons (u4_wk h0) .nil)
    · cases h
  · cases h
theorem hD77 (y : Y77) : isDataV (tupV (encR77 y)) = true := rfl
theorem hb77 : f77.body = some b77 := by kernel_rfl
noncomputable def B77 : Int → (Y77 → Prop) → Prop :=
  fun x0 K ↦ K (x0 != x0)
theorem V77_ex : ∃ V : Int → (Y77 → Prop) → Prop, V = B77 := ⟨_, rfl⟩
noncomputable def V77 : Int → (Y77 → Prop) → Prop := Classical.choose V77_ex
theorem V77_eq : V77 = B77 := Classical.choose_spec V77_ex
theorem po_77_77 : PiecesOk Try.prog env (ctxG env false [] R39 [] []) 77 b77 :=
  pieces_at (L := []) (S := []) (fun _ => rfl) (fun _ => rfl) (by kernel_rfl) (by kernel_rfl) (fun _ hq => by cases hq) (fun _ hq => by cases hq)
theorem bo_77 : BodiesOk Try.prog env (ctxG env false [] R39 [] []) := bodies_okG (ks := []) (by kernel_rfl) (fun _ hq => by cases hq)
theorem eq_77 (x0 : Int) (K : Y77 → Prop) : vcCode env (ctxG env false [] R39 [] []) 2000 77 b77 (entry env f77 [v3 x0]) (finR env f77 decR77 K) = B77 x0 K := by kernel_rfl
noncomputable def rule77 : Nat × Rule env := (77, ruleF env decA77 encR77 fun x => V77 x)
theorem r77 : RuleOk Try.prog env 77 rule77.2 :=
  rule_fun tab (ctxG_ok R39_ok false [] _ _) bo_77 (f := 77) (fn := f77) rfl hb77 po_77_77 2000 encA77 hA77 hR77 hD77 (fun _ => of_decide_eq_true (by kernel_rfl)) (fun x K => (eq_77 x K).trans (by rw [V77_eq]))
noncomputable def R77 : List (Nat × Rule env) := rule77 :: R39
theorem R77_ok : AllOk Try.prog env R77 := ⟨r77, R39_ok⟩
-- 72 cmp.Less[int]
noncomputable def f72 : Func := Try.f72
noncomputable def b72 : Code := (Try.f72.body).getD .skip
abbrev X72 := Int × Int
def encA72 (x : X72) : List (SV env.T) := [v3 x.1, v3 x.2]
def decA72 (l : List (SV env.T)) : Option X72 := match l with
  | [s0, s1] => match u3 s0, u3 s1 with
    | some x0, some x1 => some (x0, x1)
    | _, _ => none
  | _ => none
theorem hA72 (l : List (SV env.T)) (x : X72) (h : decA72 l = some x) : WkA env.has l (encA72 x) := by
  unfold decA72 at h; split at h
  · split at h
    · rename_i h0 h1; cases h; exact (.cons (u3_wk h0) (.cons (u3_wk h1) .nil))
    · cases h
  · cases h
abbrev Y72 := Bool
def encR72 (x : Y72) : List (SV env.T) := [v4 x]
def decR72 (l : List (SV env.T)) : Option Y72 := match l with
  | [s0] => match u4 s0 with
    | some x0 => some (x0)
    | _ => none
  | _ => none
theorem hR72 (l : List (SV env.T)) (x : Y72) (h : decR72 l = some x) : WkA env.has l (encR72 x) := by
  unfold decR72 at h; split at h
  · split at h
    · rename_i h0; cases h; exact (.cons (u4_wk h0) .nil)
    · cases h
  · cases h
theorem hD72 (y : Y72) : isDataV (tupV (encR72 y)) = true := rfl
theorem hb72 : f72.body = some b72 := by kernel_rfl
noncomputable def B72 : Int → Int → (Y72 → Prop) → Prop :=
  fun x0 x1 K ↦ V77 x0 fun y3 ↦ br y3 (V77 x1 fun y4 ↦ br (!y4) (K true) (K (decide (x0 < x1)))) (K (decide (x0 < x1)))
theorem V72_ex : ∃ V : Int → Int → (Y72 → Prop) → Prop, V = B72 := ⟨_, rfl⟩
noncomputable def V72 : Int → Int → (Y72 → Prop) → Prop := Classical.choose V72_ex
theorem V72_eq : V72 = B72 := Classical.choose_spec V72_ex
theorem po_72_72 : PiecesOk Try.prog env (ctxG env false [] R77 [] []) 72 b72 :=
  pieces_at (L := []) (S := []) (fun _ => rfl) (fun _ => rfl) (by kernel_rfl) (by kernel_rfl) (fun _ hq => by cases hq) (fun _ hq => by cases hq)
theorem bo_72 : BodiesOk Try.prog env (ctxG env false [] R77 [] []) := bodies_okG (ks := []) (by kernel_rfl) (fun _ hq => by cases hq)
theorem eq_72 (x0 : Int) (x1 : Int) (K : Y72 → Prop) : vcCode env (ctxG env false [] R77 [] []) 2000 72 b72 (entry env f72 [v3 x0, v3 x1]) (finR env f72 decR72 K) = B72 x0 x1 K := by kernel_rfl
noncomputable def rule72 : Nat × Rule env := (72, ruleF env decA72 encR72 fun x => V72 x.1 x.2)
theorem r72 : RuleOk Try.prog env 72 rule72.2 :=
  rule_fun tab (ctxG_ok R77_ok false [] _ _) bo_72 (f := 72) (fn := f72) rfl hb72 po_72_72 2000 encA72 hA72 hR72 hD72 (fun _ => of_decide_eq_true (by kernel_rfl)) (fun x K => (eq_72 x.1 x.2 K).trans (by rw [V72_eq]))
noncomputable def R72 : List (Nat × Rule env) := rule72 :: R77
theorem R72_ok : AllOk Try.prog env R72 := ⟨r72, R77_ok⟩
-- 73 slices.isNaN[int]
noncomputable def f73 : Func := Try.f73
noncomputable def b73 : Code := (Try.f73.body).getD .skip
abbrev X73 := Int
def encA73 (x : X73) : List (SV env.T) := [v3 x]
def decA73 (l : List (SV env.T)) : Option X73 := match l with
  | [s0] => match u3 s0 with
    | some x0 => some (x0)
    | _ => none
  | _ => none
theorem hA73 (l : List (SV env.T)) (x : X73) (h : decA73 l = some x) : WkA env.has l (encA73 x) := by
  unfold decA73 at h; split at h
  · split at h
    · rename_i h0; cases h; exact (.cons (u3_wk h0) .nil)
    · cases h
  · cases h
abbrev Y73 := Bool
def encR73 (x : Y73) : List (SV env.T) := [v4 x]
def decR73 (l : List (SV env.T)) : Option Y73 := match l with
  | [s0] => match u4 s0 with
    | some x0 => some (x0)
    | _ => none
  | _ => none
theorem hR73 (l : List (SV env.T)) (x : Y73) (h : decR73 l = some x) : WkA env.has l (encR73 x) := by
  unfold decR73 at h; split at h
  · split at h
    · rename_i h0; cases h; exact (.cons (u4_wk h0) .nil)
    · cases h
  · cases h
theorem hD73 (y : Y73) : isDataV (tupV (encR73 y)) = true := rfl
theorem hb73 : f73.body = some b73 := by kernel_rfl
noncomputable def B73 : Int → (Y73 → Prop) → Prop :=
  fun x0 K ↦ K (x0 != x0)
theorem V73_ex : ∃ V : Int → (Y73 → Prop) → Prop, V = B73 := ⟨_, rfl⟩
noncomputable def V73 : Int → (Y73 → Prop) → Prop := Classical.choose V73_ex
theorem V73_eq : V73 = B73 := Classical.choose_spec V73_ex
theorem po_73_73 : PiecesOk Try.prog env (ctxG env false [] R72 [] []) 73 b73 :=
  pieces_at (L := []) (S := []) (fun _ => rfl) (fun _ => rfl) (by kernel_rfl) (by kernel_rfl) (fun _ hq => by cases hq) (fun _ hq => by cases hq)
theorem bo_73 : BodiesOk Try.prog env (ctxG env false [] R72 [] []) := bodies_okG (ks := []) (by kernel_rfl) (fun _ hq => by cases hq)
theorem eq_73 (x0 : Int) (K : Y73 → Prop) : vcCode env (ctxG env false [] R72 [] []) 2000 73 b73 (entry env f73 [v3 x0]) (finR env f73 decR73 K) = B73 x0 K := by kernel_rfl
noncomputable def rule73 : Nat × Rule env := (73, ruleF env decA73 encR73 fun x => V73 x)
theorem r73 : RuleOk Try.prog env 73 rule73.2 :=
  rule_fun tab (ctxG_ok R72_ok false [] _ _) bo_73 (f := 73) (fn := f73) rfl hb73 po_73_73 2000 encA73 hA73 hR73 hD73 (fun _ => of_decide_eq_true (by kernel_rfl)) (fun x K => (eq_73 x K).trans (by rw [V73_eq]))
noncomputable def R73 : List (Nat × Rule env) := rule73 :: R72
theorem R73_ok : AllOk Try.prog env R73 := ⟨r73, R72_ok⟩
-- 62 slices.BinarySearch[[]int,int]
noncomputable def f62 : Func := Try.f62
noncomputable def b62 : Code := (Try.f62.body).getD .skip
abbrev X62 := (List Int) × Int
def encA62 (x : X62) : List (SV env.T) := [v65 x.1, v3 x.2]
def decA62 (l : List (SV env.T)) : Option X62 := match l with
  | [s0, s1] => match u65 s0, u3 s1 with
    | some x0, some x1 => some (x0, x1)
    | _, _ => none
  | _ => none
theorem hA62 (l : List (SV env.T)) (x : X62) (h : decA62 l = some x) : WkA env.has l (encA62 x) := by
  unfold decA62 at h; split at h
  · split at h
    · rename_i h0 h1; cases h; exact (.cons (u65_wk h0) (.cons (u3_wk h1) .nil))
    · cases h
  · cases h
abbrev Y62 := Int × Bool
def encR62 (x : Y62) : List (SV env.T) := [v3 x.1, v4 x.2]
def decR62 (l : List (SV env.T)) : Option Y62 := match l with
  | [s0, s1] => match u3 s0, u4 s1 with
    | some x0, some x1 => some (x0, x1)
    | _, _ => none
  | _ => none
theorem hR62 (l : List (SV env.T)) (x : Y62) (h : decR62 l = some x) : WkA env.has l (encR62 x) := by
  unfold decR62 at h; split at h
  · split at h
    · rename_i h0 h1; cases h; exact (.cons (u3_wk h0) (.cons (u4_wk h1) .nil))
    · cases h
  · cases h
theorem hD62 (y : Y62) : isDataV (tupV (encR62 y)) = true := rfl
theorem hb62 : f62.body = some b62 := by kernel_rfl
def l_62_3 : Nat → (List Int) → Int → Int → Bool → Int → Int → Int → ((List Int) → Int → Int → Bool → Int → Int → Prop) → Prop
  | 0 => fun _ _ _ _ _ _ _ _ => False
  | k + 1 => fun x1 x2 x3 x4 x5 x6 x7 k0 ↦ br (decide (x6 < x7)) (br (inb (IntKind.i64.wrap ((IntKind.u64.wrap (IntKind.i64.wrap (x6 + x7))).fdiv (2 ^ min 1 IntKind.u64.bits))) (↑x1.length : Int)) (V72 (x1.getD (IntKind.i64.wrap ((IntKind.u64.wrap (IntKind.i64.wrap (x6 + x7))).fdiv (2 ^ min 1 IntKind.u64.bits))).toNat (env.d 3)) x2 fun y10 ↦ br y10 (l_62_3 k x1 x2 x3 x4 x5 (IntKind.i64.wrap (IntKind.i64.wrap ((IntKind.u64.wrap (IntKind.i64.wrap (x6 + x7))).fdiv (2 ^ min 1 IntKind.u64.bits)) + 1)) x7 k0) (l_62_3 k x1 x2 x3 x4 x5 x6 (IntKind.i64.wrap ((IntKind.u64.wrap (IntKind.i64.wrap (x6 + x7))).fdiv (2 ^ min 1 IntKind.u64.bits))) k0)) False) (k0 x1 x2 x3 x4 x5 x6)
def w_62_3 (k : Nat) (vs : List (SV env.T)) (K : Ex → List (SV env.T) → Prop) : Prop :=
  dCD 3 vs fun x1 vs => dCI .i64 vs fun x2 vs => dCI .i64 vs fun x3 vs => dCB vs fun x4 vs => dCI .i64 vs fun x5 vs => dCI .i64 vs fun x6 vs => dCI .i64 vs fun x7 vs => dCE vs (l_62_3 k x1 x2 x3 x4 x5 x6 x7 (fun y1 y2 y3 y4 y5 y6 => K (.exit 0) [.dat 3 y1, .int .i64 y2, .int .i64 y3, .bool y4, .int .i64 y5, .int .i64 y6]))
def p_62_3 : Piece env := ⟨⟨[.holeD 3, .hole, .any, .any, .hole, .hole, .hole, .hole, .hole, .any, .any, .any, .any, .any, .any, .any, .any, .any, .any, .any, .any, .any, .any, .any, .any, .any, .any, .any, .any, .any, .any, .any, .any, .any, .any, .any, .any, .any, .any, .any, .any, .any, .any, .any, .any, .any, .any, .any, .any, .any, .any, .any, .any, .any], [], [], 0⟩, exitF none [(0, ⟨[.holeD 3, .hole, .any, .any, .hole, .hole, .hole, .hole, .any, .any, .any, .any, .any, .any, .any, .any, .any, .any, .any, .any, .any, .any, .any, .any, .any, .any, .any, .any, .any, .any, .any, .any, .any, .any, .any, .any, .any, .any, .any, .any, .any, .any, .any, .any, .any, .any, .any, .any, .any, .any, .any, .any, .any, .any], [], [], 0⟩)] none, fun vs K => ∃ k, w_62_3 k vs K⟩
noncomputable def B62 : (List Int) → Int → (Y62 → Prop) → Prop :=
  fun x0 x1 K ↦ ∃ k3, l_62_3 k3 x0 x1 0 false (↑x0.length : Int) 0 (↑x0.length : Int) fun y4 y5 _ _ y8 y9 ↦ br (decide (y9 < y8)) (br (inb y9 (↑y4.length : Int)) (br (y4.getD y9.toNat (env.d 3) == y5) (K (y9, true)) (br (inb y9 (↑y4.length : Int)) (V73 (y4.getD y9.toNat (env.d 3)) fun y10 ↦ br y10 (V73 y5 fun y11 ↦ K (y9, y11)) (K (y9, false))) False)) False) (K (y9, false))
theorem V62_ex : ∃ V : (List Int) → Int → (Y62 → Prop) → Prop, V = B62 := ⟨_, rfl⟩
noncomputable def V62 : (List Int) → Int → (Y62 → Prop) → Prop := Classical.choose V62_ex
theorem V62_eq : V62 = B62 := Classical.choose_spec V62_ex
theorem pook_62_3_62 : PiecesOk Try.prog env (ctxG env false [] R73 [] []) 62 b62 :=
  pieces_at (L := []) (S := []) (fun _ => rfl) (fun _ => rfl) (by kernel_rfl) (by kernel_rfl) (fun _ hq => by cases hq) (fun _ hq => by cases hq)
theorem book_62_3 : BodiesOk Try.prog env (ctxG env false [] R73 [] []) := bodies_okG (ks := []) (by kernel_rfl) (fun _ hq => by cases hq)
theorem stok_62_3 (k : Nat) (x1 : (List Int)) (x2 : Int) (x3 : Int) (x4 : Bool) (x5 : Int) (x6 : Int) (x7 : Int) (K : Ex → List (SV env.T) → Prop) : l_62_3 (k + 1) x1 x2 x3 x4 x5 x6 x7 (fun y1 y2 y3 y4 y5 y6 => K (.exit 0) [.dat 3 y1, .int .i64 y2, .int .i64 y3, .bool y4, .int .i64 y5, .int .i64 y6]) = vcCode env (ctxG env false [] R73 [] []) 2000 62 (loopAt b62 3) (insSt p_62_3.head [.dat 3 x1, .int .i64 x2, .int .i64 x3, .bool x4, .int .i64 x5, .int .i64 x6, .int .i64 x7]) (stepK p_62_3 (w_62_3 k) K) := by kernel_rfl
theorem wiok_62_3 (k : Nat) (vs : List (SV env.T)) (K : Ex → List (SV env.T) → Prop) (h : w_62_3 k vs K) : ∃ x1 : (List Int), ∃ x2 : Int, ∃ x3 : Int, ∃ x4 : Bool, ∃ x5 : Int, ∃ x6 : Int, ∃ x7 : Int, vs = [.dat 3 x1, .int .i64 x2, .int .i64 x3, .bool x4, .int .i64 x5, .int .i64 x6, .int .i64 x7] ∧ l_62_3 k x1 x2 x3 x4 x5 x6 x7 (fun y1 y2 y3 y4 y5 y6 => K (.exit 0) [.dat 3 y1, .int .i64 y2, .int .i64 y3, .bool y4, .int .i64 y5, .int .i64 y6]) := by
  unfold w_62_3 at h
  replace h := dCD_spec h
  obtain ⟨x1, vs0, e0, h⟩ := h
  replace h := dCI_spec h
  obtain ⟨x2, vs1, e1, h⟩ := h
  replace h := dCI_spec h
  obtain ⟨x3, vs2, e2, h⟩ := h
  replace h := dCB_spec h
  obtain ⟨x4, vs3, e3, h⟩ := h
  replace h := dCI_spec h
  obtain ⟨x5, vs4, e4, h⟩ := h
  replace h := dCI_spec h
  obtain ⟨x6, vs5, e5, h⟩ := h
  replace h := dCI_spec h
  obtain ⟨x7, vs6, e6, h⟩ := h
  replace h := dCE_spec h
  obtain ⟨e, h⟩ := h
  exact ⟨x1, x2, x3, x4, x5, x6, x7, by rw [e0, e1, e2, e3, e4, e5, e6, e], h⟩
theorem zeok_62_3 (x1 : (List Int)) (x2 : Int) (x3 : Int) (x4 : Bool) (x5 : Int) (x6 : Int) (x7 : Int) (K : Ex → List (SV env.T) → Prop) : l_62_3 0 x1 x2 x3 x4 x5 x6 x7 (fun y1 y2 y3 y4 y5 y6 => K (.exit 0) [.dat 3 y1, .int .i64 y2, .int .i64 y3, .bool y4, .int .i64 y5, .int .i64 y6]) = False := by kernel_rfl
theorem ok_62_3 : PieceOk Try.prog env p_62_3 (.loop (loopAt b62 3)) := by
  refine loop_step (Wn := w_62_3) tab (ctxG_ok R73_ok false [] _ _) book_62_3 (pieces_sub pook_62_3_62 (by kernel_rfl)) rfl ?_ 2000 ?_
  · intro vs K h
    obtain ⟨x1, x2, x3, x4, x5, x6, x7, _, h⟩ := wiok_62_3 0 vs K h
    exact Eq.mp (zeok_62_3 x1 x2 x3 x4 x5 x6 x7 K) h
  · intro k vs K h
    obtain ⟨x1, x2, x3, x4, x5, x6, x7, rfl, h⟩ := wiok_62_3 (k + 1) vs K h
    exact Eq.mp (stok_62_3 k x1 x2 x3 x4 x5 x6 x7 K) h
theorem po_62_62 : PiecesOk Try.prog env (ctxG env false [] R73 [(62, [(3, p_62_3)])] []) 62 b62 :=
  pieces_at (L := [(3, p_62_3)]) (S := []) (fun _ => rfl) (fun _ => rfl) (by kernel_rfl) (by kernel_rfl) (List.forall_mem_cons.2 ⟨fun _ => ok_62_3, (fun _ hq => by cases hq)⟩) (fun _ hq => by cases hq)
theorem bo_62 : BodiesOk Try.prog env (ctxG env false [] R73 [(62, [(3, p_62_3)])] []) := bodies_okG (ks := [62]) (by kernel_rfl) (List.forall_mem_cons.2 ⟨body_at (fn := f62) (body := b62) rfl hb62 po_62_62, (fun _ hq => by cases hq)⟩)
theorem eq_62 (x0 : (List Int)) (x1 : Int) (K : Y62 → Prop) : vcCode env (ctxG env false [] R73 [(62, [(3, p_62_3)])] []) 2000 62 b62 (entry env f62 [v65 x0, v3 x1]) (finR env f62 decR62 K) = B62 x0 x1 K := by kernel_rfl
noncomputable def rule62 : Nat × Rule env := (62, ruleF env decA62 encR62 fun x => V62 x.1 x.2)
theorem r62 : RuleOk Try.prog env 62 rule62.2 :=
  rule_fun tab (ctxG_ok R73_ok false [] _ _) bo_62 (f := 62) (fn := f62) rfl hb62 po_62_62 2000 encA62 hA62 hR62 hD62 (fun _ => of_decide_eq_true (by kernel_rfl)) (fun x K => (eq_62 x.1 x.2 K).trans (by rw [V62_eq]))
noncomputable def R62 : List (Nat × Rule env) := rule62 :: R73
theorem R62_ok : AllOk Try.prog env R62 := ⟨r62, R73_ok⟩
-- 63 slices.Clone[[]int,int]
noncomputable def f63 : Func := Try.f63
noncomputable def b63 : Code := (Try.f63.body).getD .skip
abbrev X63 := (List Int)
def encA63 (x : X63) : List (SV env.T) := [v65 x]
def decA63 (l : List (SV env.T)) : Option X63 := match l with
  | [s0] => match u65 s0 with
    | some x0 => some (x0)
    | _ => none
  | _ => none
theorem hA63 (l : List (SV env.T)) (x : X63) (h : decA63 l = some x) : WkA env.has l (encA63 x) := by
  unfold decA63 at h; split at h
  · split at h
    · rename_i h0; cases h; exact (.cons (u65_wk h0) .nil)
    · cases h
  · cases h
abbrev Y63 := (List Int)
def encR63 (x : Y63) : List (SV env.T) := [v65 x]
def decR63 (l : List (SV env.T)) : Option Y63 := match l with
  | [s0] => match u65 s0 with
    | some x0 => some (x0)
    | _ => none
  | _ => none
theorem hR63 (l : List (SV env.T)) (x : Y63) (h : decR63 l = some x) : WkA env.has l (encR63 x) := by
  unfold decR63 at h; split at h
  · split at h
    · rename_i h0; cases h; exact (.cons (u65_wk h0) .nil)
    · cases h
  · cases h
theorem hD63 (y : Y63) : isDataV (tupV (encR63 y)) = true := rfl
theorem hb63 : f63.body = some b63 := by kernel_rfl
noncomputable def B63 : (List Int) → (Y63 → Prop) → Prop :=
  fun x0 K ↦ ∀ (b2 : Bool), (b2 = true → x0.length = 0) → br b2 (K []) (br (roomB ([] ++ x0).length (bytesB env 3)) (K ([] ++ x0)) False)
theorem V63_ex : ∃ V : (List Int) → (Y63 → Prop) → Prop, V = B63 := ⟨_, rfl⟩
noncomputable def V63 : (List Int) → (Y63 → Prop) → Prop := Classical.choose V63_ex
theorem V63_eq : V63 = B63 := Classical.choose_spec V63_ex
theorem po_63_63 : PiecesOk Try.prog env (ctxG env false [] R62 [] []) 63 b63 :=
  pieces_at (L := []) (S := []) (fun _ => rfl) (fun _ => rfl) (by kernel_rfl) (by kernel_rfl) (fun _ hq => by cases hq) (fun _ hq => by cases hq)
theorem bo_63 : BodiesOk Try.prog env (ctxG env false [] R62 [] []) := bodies_okG (ks := []) (by kernel_rfl) (fun _ hq => by cases hq)
theorem eq_63 (x0 : (List Int)) (K : Y63 → Prop) : vcCode env (ctxG env false [] R62 [] []) 2000 63 b63 (entry env f63 [v65 x0]) (finO env f63 3 K) = B63 x0 K := by kernel_rfl
noncomputable def rule63 : Nat × Rule env := (63, ruleW env 3 decA63 fun x => V63 x)
theorem r63 : RuleOk Try.prog env 63 rule63.2 :=
  rule_funW tab (ctxG_ok R62_ok false [] _ _) bo_63 (f := 63) (fn := f63) rfl hb63 po_63_63 2000 (e := 3) (by kernel_rfl) (fun _ => rfl) encA63 hA63 (fun _ => of_decide_eq_true (by kernel_rfl)) (fun x K => (eq_63 x K).trans (by rw [V63_eq]))
noncomputable def R63 : List (Nat × Rule env) := rule63 :: R62
theorem R63_ok : AllOk Try.prog env R63 := ⟨r63, R62_ok⟩
-- 64 queuelab/receiver.advance
noncomputable def f64 : Func := Try.f64
noncomputable def b64 : Code := (Try.f64.body).getD .skip
abbrev X64 := Receiver
def encA64 (x : X64) : List (SV env.T) := [v67 x]
def decA64 (l : List (SV env.T)) : Option X64 := match l with
  | [s0] => match u67 s0 with
    | some x0 => some (x0)
    | _ => none
  | _ => none
theorem hA64 (l : List (SV env.T)) (x : X64) (h : decA64 l = some x) : WkA env.has l (encA64 x) := by
  unfold decA64 at h; split at h
  · split at h
    · rename_i h0; cases h; exact (.cons (u67_wk h0) .nil)
    · cases h
  · cases h
abbrev Y64 := Receiver
def encR64 (x : Y64) : List (SV env.T) := [v67 x]
def decR64 (l : List (SV env.T)) : Option Y64 := match l with
  | [s0] => match u67 s0 with
    | some x0 => some (x0)
    | _ => none
  | _ => none
theorem hR64 (l : List (SV env.T)) (x : Y64) (h : decR64 l = some x) : WkA env.has l (encR64 x) := by
  unfold decR64 at h; split at h
  · split at h
    · rename_i h0; cases h; exact (.cons (u67_wk h0) .nil)
    · cases h
  · cases h
theorem hD64 (y : Y64) : isDataV (tupV (encR64 y)) = true := rfl
theorem hb64 : f64.body = some b64 := by kernel_rfl
def l_64_2 : Nat → Int → (List Int) → Int → (Int → (List Int) → Int → Prop) → Prop
  | 0 => fun _ _ _ _ => False
  | k + 1 => fun x1 x2 x3 k0 ↦ br (decide ((↑x2.length : Int) > 0)) (br (inb 0 (↑x2.length : Int)) (br (x2.getD 0 (env.d 3) != x1) (k0 x1 x2 x3) (br (cutOk (some 1) none x2.length) (l_64_2 k (IntKind.i64.wrap (x1 + 1)) (cutL x2 ((some 1).getD 0) (none.getD (↑x2.length : Int))) x3 k0) False)) False) (k0 x1 x2 x3)
def w_64_2 (k : Nat) (vs : List (SV env.T)) (K : Ex → List (SV env.T) → Prop) : Prop :=
  dCI .i64 vs fun x1 vs => dCD 3 vs fun x2 vs => dCI .i64 vs fun x3 vs => dCN vs fun vs => dCE vs (l_64_2 k x1 x2 x3 (fun y1 y2 y3 => K (.exit 0) [.int .i64 y1, .dat 3 y2, .int .i64 y3, .nils]))
def p_64_2 : Piece env := ⟨⟨[.any, .ptr 0 0, .ptr 1 0, .any, .any, .any, .any, .any, .any, .any, .any, .any, .any, .any, .any, .any, .any, .any, .any, .any, .any, .any, .any, .any, .any, .any, .any], [], [(0, .cells 67 [.hole, .holeD 3]), (1, .cells 67 [.hole, .hole])], 2⟩, exitF none [(0, ⟨[.any, .ptr 0 0, .ptr 1 0, .any, .any, .any, .any, .any, .any, .any, .any, .any, .any, .any, .any, .any, .any, .any, .any, .any, .any, .any, .any, .any, .any, .any, .any], [], [(0, .cells 67 [.hole, .holeD 3]), (1, .cells 67 [.hole, .hole])], 2⟩)] none, fun vs K => ∃ k, w_64_2 k vs K⟩
noncomputable def B64 : Receiver → (Y64 → Prop) → Prop :=
  fun x0 K ↦ ∃ k2, l_64_2 k2 (IntKind.i64.wrap (x0.next_ + 1)) x0.have_ 0 fun y3 y4 _ ↦ K (Receiver.mk y3 y4)
theorem V64_ex : ∃ V : Receiver → (Y64 → Prop) → Prop, V = B64 := ⟨_, rfl⟩
noncomputable def V64 : Receiver → (Y64 → Prop) → Prop := Classical.choose V64_ex
theorem V64_eq : V64 = B64 := Classical.choose_spec V64_ex
theorem pook_64_2_64 : PiecesOk Try.prog env (ctxG env false [] R63 [] []) 64 b64 :=
  pieces_at (L := []) (S := []) (fun _ => rfl) (fun _ => rfl) (by kernel_rfl) (by kernel_rfl) (fun _ hq => by cases hq) (fun _ hq => by cases hq)
theorem book_64_2 : BodiesOk Try.prog env (ctxG env false [] R63 [] []) := bodies_okG (ks := []) (by kernel_rfl) (fun _ hq => by cases hq)
theorem stok_64_2 (k : Nat) (x1 : Int) (x2 : (List Int)) (x3 : Int) (K : Ex → List (SV env.T) → Prop) : l_64_2 (k + 1) x1 x2 x3 (fun y1 y2 y3 => K (.exit 0) [.int .i64 y1, .dat 3 y2, .int .i64 y3, .nils]) = vcCode env (ctxG env false [] R63 [] []) 2000 64 (loopAt b64 2) (insSt p_64_2.head [.int .i64 x1, .dat 3 x2, .int .i64 x3, .nils]) (stepK p_64_2 (w_64_2 k) K) := by kernel_rfl
theorem wiok_64_2 (k : Nat) (vs : List (SV env.T)) (K : Ex → List (SV env.T) → Prop) (h : w_64_2 k vs K) : ∃ x1 : Int, ∃ x2 : (List Int), ∃ x3 : Int, vs = [.int .i64 x1, .dat 3 x2, .int .i64 x3, .nils] ∧ l_64_2 k x1 x2 x3 (fun y1 y2 y3 => K (.exit 0) [.int .i64 y1, .dat 3 y2, .int .i64 y3, .nils]) := by
  unfold w_64_2 at h
  replace h := dCI_spec h
  obtain ⟨x1, vs0, e0, h⟩ := h
  replace h := dCD_spec h
  obtain ⟨x2, vs1, e1, h⟩ := h
  replace h := dCI_spec h
  obtain ⟨x3, vs2, e2, h⟩ := h
  replace h := dCN_spec h
  obtain ⟨vs3, e3, h⟩ := h
  replace h := dCE_spec h
  obtain ⟨e, h⟩ := h
  exact ⟨x1, x2, x3, by rw [e0, e1, e2, e3, e], h⟩
theorem zeok_64_2 (x1 : Int) (x2 : (List Int)) (x3 : Int) (K : Ex → List (SV env.T) → Prop) : l_64_2 0 x1 x2 x3 (fun y1 y2 y3 => K (.exit 0) [.int .i64 y1, .dat 3 y2, .int .i64 y3, .nils]) = False := by kernel_rfl
theorem ok_64_2 : PieceOk Try.prog env p_64_2 (.loop (loopAt b64 2)) := by
  refine loop_step (Wn := w_64_2) tab (ctxG_ok R63_ok false [] _ _) book_64_2 (pieces_sub pook_64_2_64 (by kernel_rfl)) rfl ?_ 2000 ?_
  · intro vs K h
    obtain ⟨x1, x2, x3, _, h⟩ := wiok_64_2 0 vs K h
    exact Eq.mp (zeok_64_2 x1 x2 x3 K) h
  · intro k vs K h
    obtain ⟨x1, x2, x3, rfl, h⟩ := wiok_64_2 (k + 1) vs K h
    exact Eq.mp (stok_64_2 k x1 x2 x3 K) h
theorem po_64_64 : PiecesOk Try.prog env (ctxG env false [] R63 [(64, [(2, p_64_2)])] []) 64 b64 :=
  pieces_at (L := [(2, p_64_2)]) (S := []) (fun _ => rfl) (fun _ => rfl) (by kernel_rfl) (by kernel_rfl) (List.forall_mem_cons.2 ⟨fun _ => ok_64_2, (fun _ hq => by cases hq)⟩) (fun _ hq => by cases hq)
theorem bo_64 : BodiesOk Try.prog env (ctxG env false [] R63 [(64, [(2, p_64_2)])] []) := bodies_okG (ks := [64]) (by kernel_rfl) (List.forall_mem_cons.2 ⟨body_at (fn := f64) (body := b64) rfl hb64 po_64_64, (fun _ hq => by cases hq)⟩)
theorem eq_64 (x0 : Receiver) (K : Y64 → Prop) : vcCode env (ctxG env false [] R63 [(64, [(2, p_64_2)])] []) 2000 64 b64 (entry env f64 [v67 x0]) (finR env f64 decR64 K) = B64 x0 K := by kernel_rfl
noncomputable def rule64 : Nat × Rule env := (64, ruleF env decA64 encR64 fun x => V64 x)
theorem r64 : RuleOk Try.prog env 64 rule64.2 :=
  rule_fun tab (ctxG_ok R63_ok false [] _ _) bo_64 (f := 64) (fn := f64) rfl hb64 po_64_64 2000 encA64 hA64 hR64 hD64 (fun _ => of_decide_eq_true (by kernel_rfl)) (fun x K => (eq_64 x K).trans (by rw [V64_eq]))
noncomputable def R64 : List (Nat × Rule env) := rule64 :: R63
theorem R64_ok : AllOk Try.prog env R64 := ⟨r64, R63_ok⟩
end Go.Vg.Ytgekegoflaichaa
