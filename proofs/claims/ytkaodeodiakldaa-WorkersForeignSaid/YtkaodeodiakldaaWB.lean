/-
  Walked functions of the program: predicate transformers and their rules. Written by a program of this work (gen.py, VgGen.lean) out of the executor's own reduction; no condition.
-/
import Derived.Test.YtkaodeodiakldaaWA
set_option maxRecDepth 100000
set_option maxHeartbeats 4000000
namespace Go.Vg.Ytkaodeodiakldaa
open Go.Vg Go.Proofs
-- 40 queuelab/cut.Join$1
noncomputable def f40 : Func := Try.f40
noncomputable def b40 : Code := (Try.f40.body).getD .skip
abbrev X40 := Segment × Segment
def encA40 (x : X40) : List (SV env.T) := [v32 x.1, v32 x.2]
def decA40 (l : List (SV env.T)) : Option X40 := match l with
  | [s0, s1] => match u32 s0, u32 s1 with
    | some x0, some x1 => some (x0, x1)
    | _, _ => none
  | _ => none
theorem hA40 (l : List (SV env.T)) (x : X40) (h : decA40 l = some x) : WkA env.has l (encA40 x) := by
  unfold decA40 at h; split at h
  · split at h
    · rename_i h0 h1; cases h; exact (.cons (u32_wk h0) (.cons (u32_wk h1) .nil))
    · cases h
  · cases h
abbrev Y40 := Bool
def encR40 (x : Y40) : List (SV env.T) := [v4 x]
def decR40 (l : List (SV env.T)) : Option Y40 := match l with
  | [s0] => match u4 s0 with
    | some x0 => some (x0)
    | _ => none
  | _ => none
theorem hR40 (l : List (SV env.T)) (x : Y40) (h : decR40 l = some x) : WkA env.has l (encR40 x) := by
  unfold decR40 at h; split at h
  · split at h
    · rename_i h0; cases h; exact (.cons (u4_wk h0) .nil)
    · cases h
  · cases h
theorem hD40 (y : Y40) : isDataV (tupV (encR40 y)) = true := rfl
theorem hb40 : f40.body = some b40 := by kernel_rfl
noncomputable def B40 : Segment → Segment → (Y40 → Prop) → Prop :=
  fun x0 x1 K ↦ K (x0.to_ == x1.from_)
theorem V40_ex : ∃ V : Segment → Segment → (Y40 → Prop) → Prop, V = B40 := ⟨_, rfl⟩
noncomputable def V40 : Segment → Segment → (Y40 → Prop) → Prop := Classical.choose V40_ex
theorem V40_eq : V40 = B40 := Classical.choose_spec V40_ex
theorem po_40_40 : PiecesOk Try.prog env (ctxG env false [] R38 [] []) 40 b40 :=
  pieces_at (rfIn_body (fn := f40) (b := b40) rfl hb40) (L := []) (S := []) (fun _ => rfl) (fun _ => rfl) (by kernel_rfl) (by kernel_rfl) (fun _ hq => by cases hq) (fun _ hq => by cases hq)
theorem bo_40 : BodiesOk Try.prog env (ctxG env false [] R38 [] []) := bodies_okG (ks := []) (by kernel_rfl) (fun _ hq => by cases hq)
theorem eq_40 (x0 : Segment) (x1 : Segment) (K : Y40 → Prop) : vcCode env (ctxG env false [] R38 [] []) 2000 40 b40 (entry env f40 [v32 x0, v32 x1]) (finR env f40 decR40 K) = B40 x0 x1 K := by kernel_rfl
noncomputable def rule40 : Nat × Rule env := (40, ruleF env decA40 encR40 fun x => V40 x.1 x.2)
theorem r40 : RuleOk Try.prog env 40 rule40.2 :=
  rule_fun tab (ctxG_ok R38_ok false [] _ _) bo_40 (f := 40) (fn := f40) rfl hb40 po_40_40 2000 encA40 hA40 hR40 hD40 (fun _ => of_decide_eq_true (by kernel_rfl)) (fun x K => (eq_40 x.1 x.2 K).trans (by rw [V40_eq]))
noncomputable def R40 : List (Nat × Rule env) := rule40 :: R38
theorem R40_ok : AllOk Try.prog env R40 := ⟨r40, R38_ok⟩
-- 41 queuelab/cut.Join$2
noncomputable def f41 : Func := Try.f41
noncomputable def b41 : Code := (Try.f41.body).getD .skip
abbrev X41 := Segment × Segment
def encA41 (x : X41) : List (SV env.T) := [v32 x.1, v32 x.2]
def decA41 (l : List (SV env.T)) : Option X41 := match l with
  | [s0, s1] => match u32 s0, u32 s1 with
    | some x0, some x1 => some (x0, x1)
    | _, _ => none
  | _ => none
theorem hA41 (l : List (SV env.T)) (x : X41) (h : decA41 l = some x) : WkA env.has l (encA41 x) := by
  unfold decA41 at h; split at h
  · split at h
    · rename_i h0 h1; cases h; exact (.cons (u32_wk h0) (.cons (u32_wk h1) .nil))
    · cases h
  · cases h
abbrev Y41 := Bool
def encR41 (x : Y41) : List (SV env.T) := [v4 x]
def decR41 (l : List (SV env.T)) : Option Y41 := match l with
  | [s0] => match u4 s0 with
    | some x0 => some (x0)
    | _ => none
  | _ => none
theorem hR41 (l : List (SV env.T)) (x : Y41) (h : decR41 l = some x) : WkA env.has l (encR41 x) := by
  unfold decR41 at h; split at h
  · split at h
    · rename_i h0; cases h; exact (.cons (u4_wk h0) .nil)
    · cases h
  · cases h
theorem hD41 (y : Y41) : isDataV (tupV (encR41 y)) = true := rfl
theorem hb41 : f41.body = some b41 := by kernel_rfl
noncomputable def B41 : Segment → Segment → (Y41 → Prop) → Prop :=
  fun x0 x1 K ↦ K (x0.end_ == x1.begin_)
theorem V41_ex : ∃ V : Segment → Segment → (Y41 → Prop) → Prop, V = B41 := ⟨_, rfl⟩
noncomputable def V41 : Segment → Segment → (Y41 → Prop) → Prop := Classical.choose V41_ex
theorem V41_eq : V41 = B41 := Classical.choose_spec V41_ex
theorem po_41_41 : PiecesOk Try.prog env (ctxG env false [] R40 [] []) 41 b41 :=
  pieces_at (rfIn_body (fn := f41) (b := b41) rfl hb41) (L := []) (S := []) (fun _ => rfl) (fun _ => rfl) (by kernel_rfl) (by kernel_rfl) (fun _ hq => by cases hq) (fun _ hq => by cases hq)
theorem bo_41 : BodiesOk Try.prog env (ctxG env false [] R40 [] []) := bodies_okG (ks := []) (by kernel_rfl) (fun _ hq => by cases hq)
theorem eq_41 (x0 : Segment) (x1 : Segment) (K : Y41 → Prop) : vcCode env (ctxG env false [] R40 [] []) 2000 41 b41 (entry env f41 [v32 x0, v32 x1]) (finR env f41 decR41 K) = B41 x0 x1 K := by kernel_rfl
noncomputable def rule41 : Nat × Rule env := (41, ruleF env decA41 encR41 fun x => V41 x.1 x.2)
theorem r41 : RuleOk Try.prog env 41 rule41.2 :=
  rule_fun tab (ctxG_ok R40_ok false [] _ _) bo_41 (f := 41) (fn := f41) rfl hb41 po_41_41 2000 encA41 hA41 hR41 hD41 (fun _ => of_decide_eq_true (by kernel_rfl)) (fun x K => (eq_41 x.1 x.2 K).trans (by rw [V41_eq]))
noncomputable def R41 : List (Nat × Rule env) := rule41 :: R40
theorem R41_ok : AllOk Try.prog env R41 := ⟨r41, R40_ok⟩
-- 39 queuelab/cut.all
noncomputable def f39 : Func := Try.f39
noncomputable def b39 : Code := (Try.f39.body).getD .skip
abbrev X39 := Nat × (List Segment)
def encA39 (x : X39) : List (SV env.T) := [v36 x.1, v23 x.2]
def decA39 (l : List (SV env.T)) : Option X39 := match l with
  | [s0, s1] => match u36 s0, u23 s1 with
    | some x0, some x1 => some (x0, x1)
    | _, _ => none
  | _ => none
theorem hA39 (l : List (SV env.T)) (x : X39) (h : decA39 l = some x) : WkA env.has l (encA39 x) := by
  unfold decA39 at h; split at h
  · split at h
    · rename_i h0 h1; cases h; exact (.cons (u36_wk h0) (.cons (u23_wk h1) .nil))
    · cases h
  · cases h
abbrev Y39 := Bool
def encR39 (x : Y39) : List (SV env.T) := [v4 x]
def decR39 (l : List (SV env.T)) : Option Y39 := match l with
  | [s0] => match u4 s0 with
    | some x0 => some (x0)
    | _ => none
  | _ => none
theorem hR39 (l : List (SV env.T)) (x : Y39) (h : decR39 l = some x) : WkA env.has l (encR39 x) := by
  unfold decR39 at h; split at h
  · split at h
    · rename_i h0; cases h; exact (.cons (u4_wk h0) .nil)
    · cases h
  · cases h
theorem hD39 (y : Y39) : isDataV (tupV (encR39 y)) = true := rfl
theorem hb39 : f39.body = some b39 := by kernel_rfl
abbrev X39a := X39
def encA39a (x : X39a) : List (SV env.T) := [.fn 40 [], v23 x.2]
def decA39a (l : List (SV env.T)) : Option X39a := match decA39 l with
  | some x => if x.1 = 40 then some x else none
  | none => none
theorem hA39a (l : List (SV env.T)) (x : X39a) (h : decA39a l = some x) : WkA env.has l (encA39a x) := by
  unfold decA39a at h; split at h
  · rename_i y hy; split at h
    · rename_i hf; cases h; have := hA39 l _ hy; simp only [encA39, v36, hf] at this; exact this
    · cases h
  · cases h
def l_39ax39_2 : Nat → (List Segment) → Bool → Int → Int → (Bool → Prop) → (Bool → Prop) → Prop
  | 0 => fun _ _ _ _ _ _ => False
  | k + 1 => fun x1 x2 x3 x4 kr k0 ↦ br (decide (x4 < x3)) (br (inb x4 (↑x1.length : Int)) (br (inb (IntKind.i64.wrap (x4 + 1)) (↑x1.length : Int)) (∃ k8, (V40 (x1.getD x4.toNat (env.d 32)) (x1.getD (IntKind.i64.wrap (x4 + 1)).toNat (env.d 32)) fun y9 ↦ tupV (encR40 y9) = tupV (encR40 k8)) ∧ br (!k8) (kr false) (l_39ax39_2 k x1 x2 x3 (IntKind.i64.wrap (x4 + 1)) kr k0)) False) False) (k0 x2)
def w_39ax39_2 (k : Nat) (vs : List (SV env.T)) (K : Ex → List (SV env.T) → Prop) : Prop :=
  dCD 32 vs fun x1 vs => dCB vs fun x2 vs => dCI .i64 vs fun x3 vs => dCI .i64 vs fun x4 vs => dCE vs (l_39ax39_2 k x1 x2 x3 x4 (fun y1 => K .ret [.bool y1]) (fun y1 => K (.exit 0) [.bool y1]))
def p_39ax39_2 : Piece env := ⟨⟨[.fn 40 [], .holeD 32, .any, .any, .hole, .any, .any, .any, .hole, .hole, .any, .any, .any, .any, .any, .any, .any, .any, .any, .any, .any, .any, .any, .any, .any], [], [], 0⟩, exitF none [(0, ⟨[.any, .any, .any, .any, .hole, .any, .any, .any, .any, .any, .any, .any, .any, .any, .any, .any, .any, .any, .any, .any, .any, .any, .any, .any, .any], [], [], 0⟩)] (some ⟨[.any, .any, .any, .any, .hole, .any, .any, .any, .any, .any, .any, .any, .any, .any, .any, .any, .any, .any, .any, .any, .any, .any, .any, .any, .any], [], [], 0⟩), fun vs K => ∃ k, w_39ax39_2 k vs K⟩
noncomputable def B39a : Nat → (List Segment) → (Y39 → Prop) → Prop :=
  fun _ x1 K ↦ ∃ k3, l_39ax39_2 k3 x1 false (IntKind.i64.wrap ((↑x1.length : Int) - 1)) 0 K fun _ ↦ K true
theorem V39a_ex : ∃ V : Nat → (List Segment) → (Y39 → Prop) → Prop, V = B39a := ⟨_, rfl⟩
noncomputable def V39a : Nat → (List Segment) → (Y39 → Prop) → Prop := Classical.choose V39a_ex
theorem V39a_eq : V39a = B39a := Classical.choose_spec V39a_ex
theorem pook_39ax39_2_39 : PiecesOk Try.prog env (ctxG env false [] R41 [] []) 39 b39 :=
  pieces_at (rfIn_body (fn := f39) (b := b39) rfl hb39) (L := []) (S := []) (fun _ => rfl) (fun _ => rfl) (by kernel_rfl) (by kernel_rfl) (fun _ hq => by cases hq) (fun _ hq => by cases hq)
theorem book_39ax39_2 : BodiesOk Try.prog env (ctxG env false [] R41 [] []) := bodies_okG (ks := []) (by kernel_rfl) (fun _ hq => by cases hq)
theorem stok_39ax39_2 (k : Nat) (x1 : (List Segment)) (x2 : Bool) (x3 : Int) (x4 : Int) (K : Ex → List (SV env.T) → Prop) : l_39ax39_2 (k + 1) x1 x2 x3 x4 (fun y1 => K .ret [.bool y1]) (fun y1 => K (.exit 0) [.bool y1]) = vcCode env (ctxG env false [] R41 [] []) 2000 39 (loopAt b39 2) (insSt p_39ax39_2.head [.dat 32 x1, .bool x2, .int .i64 x3, .int .i64 x4]) (stepK p_39ax39_2 (w_39ax39_2 k) K) := by kernel_rfl
theorem wiok_39ax39_2 (k : Nat) (vs : List (SV env.T)) (K : Ex → List (SV env.T) → Prop) (h : w_39ax39_2 k vs K) : ∃ x1 : (List Segment), ∃ x2 : Bool, ∃ x3 : Int, ∃ x4 : Int, vs = [.dat 32 x1, .bool x2, .int .i64 x3, .int .i64 x4] ∧ l_39ax39_2 k x1 x2 x3 x4 (fun y1 => K .ret [.bool y1]) (fun y1 => K (.exit 0) [.bool y1]) := by
  unfold w_39ax39_2 at h
  replace h := dCD_spec h
  obtain ⟨x1, vs0, e0, h⟩ := h
  replace h := dCB_spec h
  obtain ⟨x2, vs1, e1, h⟩ := h
  replace h := dCI_spec h
  obtain ⟨x3, vs2, e2, h⟩ := h
  replace h := dCI_spec h
  obtain ⟨x4, vs3, e3, h⟩ := h
  replace h := dCE_spec h
  obtain ⟨e, h⟩ := h
  exact ⟨x1, x2, x3, x4, by rw [e0, e1, e2, e3, e], h⟩
theorem zeok_39ax39_2 (x1 : (List Segment)) (x2 : Bool) (x3 : Int) (x4 : Int) (K : Ex → List (SV env.T) → Prop) : l_39ax39_2 0 x1 x2 x3 x4 (fun y1 => K .ret [.bool y1]) (fun y1 => K (.exit 0) [.bool y1]) = False := by kernel_rfl
theorem ok_39ax39_2 : PieceOk Try.prog env p_39ax39_2 (.loop (loopAt b39 2)) := by
  refine loop_step (Wn := w_39ax39_2) tab (ctxG_ok R41_ok false [] _ _) book_39ax39_2 (pieces_sub pook_39ax39_2_39 (by kernel_rfl)) rfl ?_ 2000 ?_
  · intro vs K h
    obtain ⟨x1, x2, x3, x4, _, h⟩ := wiok_39ax39_2 0 vs K h
    exact Eq.mp (zeok_39ax39_2 x1 x2 x3 x4 K) h
  · intro k vs K h
    obtain ⟨x1, x2, x3, x4, rfl, h⟩ := wiok_39ax39_2 (k + 1) vs K h
    exact Eq.mp (stok_39ax39_2 k x1 x2 x3 x4 K) h
theorem po_39a_39 : PiecesOk Try.prog env (ctxG env false [] R41 [(39, [(2, p_39ax39_2)])] []) 39 b39 :=
  pieces_at (rfIn_body (fn := f39) (b := b39) rfl hb39) (L := [(2, p_39ax39_2)]) (S := []) (fun _ => rfl) (fun _ => rfl) (by kernel_rfl) (by kernel_rfl) (List.forall_mem_cons.2 ⟨fun _ => ok_39ax39_2, (fun _ hq => by cases hq)⟩) (fun _ hq => by cases hq)
theorem bo_39a : BodiesOk Try.prog env (ctxG env false [] R41 [(39, [(2, p_39ax39_2)])] []) := bodies_okG (ks := [39]) (by kernel_rfl) (List.forall_mem_cons.2 ⟨body_at (fn := f39) (body := b39) rfl hb39 po_39a_39, (fun _ hq => by cases hq)⟩)
theorem eq_39a (x0 : Nat) (x1 : (List Segment)) (K : Y39 → Prop) : vcCode env (ctxG env false [] R41 [(39, [(2, p_39ax39_2)])] []) 2000 39 b39 (entry env f39 [.fn 40 [], v23 x1]) (finR env f39 decR39 K) = B39a x0 x1 K := by kernel_rfl
noncomputable def rule39a : Nat × Rule env := (39, ruleF env decA39a encR39 fun x => V39a x.1 x.2)
theorem r39a : RuleOk Try.prog env 39 rule39a.2 :=
  rule_fun tab (ctxG_ok R41_ok false [] _ _) bo_39a (f := 39) (fn := f39) rfl hb39 po_39a_39 2000 encA39a hA39a hR39 hD39 (fun _ => of_decide_eq_true (by kernel_rfl)) (fun x K => (eq_39a x.1 x.2 K).trans (by rw [V39a_eq]))
abbrev X39b := X39
def encA39b (x : X39b) : List (SV env.T) := [.fn 41 [], v23 x.2]
def decA39b (l : List (SV env.T)) : Option X39b := match decA39 l with
  | some x => if x.1 = 41 then some x else none
  | none => none
theorem hA39b (l : List (SV env.T)) (x : X39b) (h : decA39b l = some x) : WkA env.has l (encA39b x) := by
  unfold decA39b at h; split at h
  · rename_i y hy; split at h
    · rename_i hf; cases h; have := hA39 l _ hy; simp only [encA39, v36, hf] at this; exact this
    · cases h
  · cases h
def l_39bx39_2 : Nat → (List Segment) → Bool → Int → Int → (Bool → Prop) → (Bool → Prop) → Prop
  | 0 => fun _ _ _ _ _ _ => False
  | k + 1 => fun x1 x2 x3 x4 kr k0 ↦ br (decide (x4 < x3)) (br (inb x4 (↑x1.length : Int)) (br (inb (IntKind.i64.wrap (x4 + 1)) (↑x1.length : Int)) (∃ k8, (V41 (x1.getD x4.toNat (env.d 32)) (x1.getD (IntKind.i64.wrap (x4 + 1)).toNat (env.d 32)) fun y9 ↦ tupV (encR41 y9) = tupV (encR41 k8)) ∧ br (!k8) (kr false) (l_39bx39_2 k x1 x2 x3 (IntKind.i64.wrap (x4 + 1)) kr k0)) False) False) (k0 x2)
def w_39bx39_2 (k : Nat) (vs : List (SV env.T)) (K : Ex → List (SV env.T) → Prop) : Prop :=
  dCD 32 vs fun x1 vs => dCB vs fun x2 vs => dCI .i64 vs fun x3 vs => dCI .i64 vs fun x4 vs => dCE vs (l_39bx39_2 k x1 x2 x3 x4 (fun y1 => K .ret [.bool y1]) (fun y1 => K (.exit 0) [.bool y1]))
def p_39bx39_2 : Piece env := ⟨⟨[.fn 41 [], .holeD 32, .any, .any, .hole, .any, .any, .any, .hole, .hole, .any, .any, .any, .any, .any, .any, .any, .any, .any, .any, .any, .any, .any, .any, .any], [], [], 0⟩, exitF none [(0, ⟨[.any, .any, .any, .any, .hole, .any, .any, .any, .any, .any, .any, .any, .any, .any, .any, .any, .any, .any, .any, .any, .any, .any, .any, .any, .any], [], [], 0⟩)] (some ⟨[.any, .any, .any, .any, .hole, .any, .any, .any, .any, .any, .any, .any, .any, .any, .any, .any, .any, .any, .any, .any, .any, .any, .any, .any, .any], [], [], 0⟩), fun vs K => ∃ k, w_39bx39_2 k vs K⟩
noncomputable def B39b : Nat → (List Segment) → (Y39 → Prop) → Prop :=
  fun _ x1 K ↦ ∃ k3, l_39bx39_2 k3 x1 false (IntKind.i64.wrap ((↑x1.length : Int) - 1)) 0 K fun _ ↦ K true
theorem V39b_ex : ∃ V : Nat → (List Segment) → (Y39 → Prop) → Prop, V = B39b := ⟨_, rfl⟩
noncomputable def V39b : Nat → (List Segment) → (Y39 → Prop) → Prop := Classical.choose V39b_ex
theorem V39b_eq : V39b = B39b := Classical.choose_spec V39b_ex
theorem pook_39bx39_2_39 : PiecesOk Try.prog env (ctxG env false [] R41 [] []) 39 b39 :=
  pieces_at (rfIn_body (fn := f39) (b := b39) rfl hb39) (L := []) (S := []) (fun _ => rfl) (fun _ => rfl) (by kernel_rfl) (by kernel_rfl) (fun _ hq => by cases hq) (fun _ hq => by cases hq)
theorem book_39bx39_2 : BodiesOk Try.prog env (ctxG env false [] R41 [] []) := bodies_okG (ks := []) (by kernel_rfl) (fun _ hq => by cases hq)
theorem stok_39bx39_2 (k : Nat) (x1 : (List Segment)) (x2 : Bool) (x3 : Int) (x4 : Int) (K : Ex → List (SV env.T) → Prop) : l_39bx39_2 (k + 1) x1 x2 x3 x4 (fun y1 => K .ret [.bool y1]) (fun y1 => K (.exit 0) [.bool y1]) = vcCode env (ctxG env false [] R41 [] []) 2000 39 (loopAt b39 2) (insSt p_39bx39_2.head [.dat 32 x1, .bool x2, .int .i64 x3, .int .i64 x4]) (stepK p_39bx39_2 (w_39bx39_2 k) K) := by kernel_rfl
theorem wiok_39bx39_2 (k : Nat) (vs : List (SV env.T)) (K : Ex → List (SV env.T) → Prop) (h : w_39bx39_2 k vs K) : ∃ x1 : (List Segment), ∃ x2 : Bool, ∃ x3 : Int, ∃ x4 : Int, vs = [.dat 32 x1, .bool x2, .int .i64 x3, .int .i64 x4] ∧ l_39bx39_2 k x1 x2 x3 x4 (fun y1 => K .ret [.bool y1]) (fun y1 => K (.exit 0) [.bool y1]) := by
  unfold w_39bx39_2 at h
  replace h := dCD_spec h
  obtain ⟨x1, vs0, e0, h⟩ := h
  replace h := dCB_spec h
  obtain ⟨x2, vs1, e1, h⟩ := h
  replace h := dCI_spec h
  obtain ⟨x3, vs2, e2, h⟩ := h
  replace h := dCI_spec h
  obtain ⟨x4, vs3, e3, h⟩ := h
  replace h := dCE_spec h
  obtain ⟨e, h⟩ := h
  exact ⟨x1, x2, x3, x4, by rw [e0, e1, e2, e3, e], h⟩
theorem zeok_39bx39_2 (x1 : (List Segment)) (x2 : Bool) (x3 : Int) (x4 : Int) (K : Ex → List (SV env.T) → Prop) : l_39bx39_2 0 x1 x2 x3 x4 (fun y1 => K .ret [.bool y1]) (fun y1 => K (.exit 0) [.bool y1]) = False := by kernel_rfl
theorem ok_39bx39_2 : PieceOk Try.prog env p_39bx39_2 (.loop (loopAt b39 2)) := by
  refine loop_step (Wn := w_39bx39_2) tab (ctxG_ok R41_ok false [] _ _) book_39bx39_2 (pieces_sub pook_39bx39_2_39 (by kernel_rfl)) rfl ?_ 2000 ?_
  · intro vs K h
    obtain ⟨x1, x2, x3, x4, _, h⟩ := wiok_39bx39_2 0 vs K h
    exact Eq.mp (zeok_39bx39_2 x1 x2 x3 x4 K) h
  · intro k vs K h
    obtain ⟨x1, x2, x3, x4, rfl, h⟩ := wiok_39bx39_2 (k + 1) vs K h
    exact Eq.mp (stok_39bx39_2 k x1 x2 x3 x4 K) h
theorem po_39b_39 : PiecesOk Try.prog env (ctxG env false [] R41 [(39, [(2, p_39bx39_2)])] []) 39 b39 :=
  pieces_at (rfIn_body (fn := f39) (b := b39) rfl hb39) (L := [(2, p_39bx39_2)]) (S := []) (fun _ => rfl) (fun _ => rfl) (by kernel_rfl) (by kernel_rfl) (List.forall_mem_cons.2 ⟨fun _ => ok_39bx39_2, (fun _ hq => by cases hq)⟩) (fun _ hq => by cases hq)
theorem bo_39b : BodiesOk Try.prog env (ctxG env false [] R41 [(39, [(2, p_39bx39_2)])] []) := bodies_okG (ks := [39]) (by kernel_rfl) (List.forall_mem_cons.2 ⟨body_at (fn := f39) (body := b39) rfl hb39 po_39b_39, (fun _ hq => by cases hq)⟩)
theorem eq_39b (x0 : Nat) (x1 : (List Segment)) (K : Y39 → Prop) : vcCode env (ctxG env false [] R41 [(39, [(2, p_39bx39_2)])] []) 2000 39 b39 (entry env f39 [.fn 41 [], v23 x1]) (finR env f39 decR39 K) = B39b x0 x1 K := by kernel_rfl
noncomputable def rule39b : Nat × Rule env := (39, ruleF env decA39b encR39 fun x => V39b x.1 x.2)
theorem r39b : RuleOk Try.prog env 39 rule39b.2 :=
  rule_fun tab (ctxG_ok R41_ok false [] _ _) bo_39b (f := 39) (fn := f39) rfl hb39 po_39b_39 2000 encA39b hA39b hR39 hD39 (fun _ => of_decide_eq_true (by kernel_rfl)) (fun x K => (eq_39b x.1 x.2 K).trans (by rw [V39b_eq]))
noncomputable def V39_1 (x0 : Nat) (x1 : (List Segment)) (K : Y39 → Prop) : Prop := (x0 = 41 ∧ V39b x0 x1 K) ∨ False
noncomputable def B39 (x0 : Nat) (x1 : (List Segment)) (K : Y39 → Prop) : Prop := (x0 = 40 ∧ V39a x0 x1 K) ∨ V39_1 x0 x1 K
theorem V39_ex : ∃ V : Nat → (List Segment) → (Y39 → Prop) → Prop, V = B39 := ⟨_, rfl⟩
noncomputable def V39 : Nat → (List Segment) → (Y39 → Prop) → Prop := Classical.choose V39_ex
theorem V39_eq : V39 = B39 := Classical.choose_spec V39_ex
noncomputable def rule39 : Nat × Rule env := (39, ruleF env decA39 encR39 fun x => V39 x.1 x.2)
theorem r39_1 : RuleOk Try.prog env 39 (ruleF env decA39 encR39 fun x : X39 => V39_1 x.1 x.2) := by
  refine rule_or (V := fun x : X39 => V39_1 x.1 x.2) r39b r39b ?_
  intro args y K hy h
  unfold V39_1 at h
  rcases h with h | h
  · exact .inl ⟨_, by unfold decA39b; rw [hy]; simp only [h.1]; rfl, h.2⟩
  · exact h.elim
theorem r39 : RuleOk Try.prog env 39 (ruleF env decA39 encR39 fun x : X39 => V39 x.1 x.2) := by
  refine rule_or (V := fun x : X39 => V39 x.1 x.2) r39a r39_1 ?_
  intro args y K hy h
  simp only [V39_eq, B39] at h
  rcases h with h | h
  · exact .inl ⟨_, by unfold decA39a; rw [hy]; simp only [h.1]; rfl, h.2⟩
  · exact .inr ⟨y, hy, h⟩
noncomputable def R39 : List (Nat × Rule env) := rule39 :: R41
theorem R39_ok : AllOk Try.prog env R39 := ⟨r39, R41_ok⟩
-- 24 queuelab/cut.Join
noncomputable def f24 : Func := Try.f24
noncomputable def b24 : Code := (Try.f24.body).getD .skip
abbrev X24 := (List Segment)
def encA24 (x : X24) : List (SV env.T) := [v23 x]
def decA24 (l : List (SV env.T)) : Option X24 := match l with
  | [s0] => match u23 s0 with
    | some x0 => some (x0)
    | _ => none
  | _ => none
theorem hA24 (l : List (SV env.T)) (x : X24) (h : decA24 l = some x) : WkA env.has l (encA24 x) := by
  unfold decA24 at h; split at h
  · split at h
    · rename_i h0; cases h; exact (.cons (u23_wk h0) .nil)
    · cases h
  · cases h
abbrev Y24 := Segment × Int
def encR24 (x : Y24) : List (SV env.T) := [v32 x.1, v26 x.2]
def decR24 (l : List (SV env.T)) : Option Y24 := match l with
  | [s0, s1] => match u32 s0, u26 s1 with
    | some x0, some x1 => some (x0, x1)
    | _, _ => none
  | _ => none
theorem hR24 (l : List (SV env.T)) (x : Y24) (h : decR24 l = some x) : WkA env.has l (encR24 x) := by
  unfold decR24 at h; split at h
  · split at h
    · rename_i h0 h1; cases h; exact (.cons (u32_wk h0) (.cons (u26_wk h1) .nil))
    · cases h
  · cases h
theorem hD24 (y : Y24) : isDataV (tupV (encR24 y)) = true := rfl
theorem hb24 : f24.body = some b24 := by kernel_rfl
def l_24_4 : Nat → (List Segment) → Int → (List Segment) → Int → Int → Int → Int → Int → Int → (Int → Int → Int → Int → Int → Prop) → ((List Segment) → Int → Int → Int → Int → Int → Prop) → Prop
  | 0 => fun _ _ _ _ _ _ _ _ _ _ _ => False
  | k + 1 => fun x1 x2 x3 x4 x5 x6 x7 x8 x9 kr k0 ↦ br (decide (x5 < x4)) (br (inb x5 (↑x3.length : Int)) (V38 (x3.getD x5.toNat (env.d 32)) fun y13 ↦ br (!y13) (kr 1 0 0 0 0) (l_24_4 k x1 x2 x3 x4 (IntKind.i64.wrap (x5 + 1)) x6 x7 x8 x9 kr k0)) False) (k0 x1 x2 x6 x7 x8 x9)
def w_24_4 (k : Nat) (vs : List (SV env.T)) (K : Ex → List (SV env.T) → Prop) : Prop :=
  dCD 32 vs fun x1 vs => dCI .i64 vs fun x2 vs => dCD 32 vs fun x3 vs => dCI .i64 vs fun x4 vs => dCI .i64 vs fun x5 vs => dCI .i64 vs fun x6 vs => dCI .i64 vs fun x7 vs => dCI .u64 vs fun x8 vs => dCI .u64 vs fun x9 vs => dCN vs fun vs => dCE vs (l_24_4 k x1 x2 x3 x4 x5 x6 x7 x8 x9 (fun y1 y2 y3 y4 y5 => K .ret [.int .i64 y1, .int .i64 y2, .int .i64 y3, .int .u64 y4, .int .u64 y5, .nils]) (fun y1 y2 y3 y4 y5 y6 => K (.exit 0) [.dat 32 y1, .int .i64 y2, .int .i64 y3, .int .i64 y4, .int .u64 y5, .int .u64 y6, .nils]))
def p_24_4 : Piece env := ⟨⟨[.holeD 32, .any, .ptr 0 0, .hole, .any, .any, .any, .any, .any, .any, .any, .any, .any, .any, .any, .any, .any, .any, .holeD 32, .hole, .hole, .any, .any, .any, .any, .any, .any, .any, .any, .any, .any, .any, .any, .any, .any, .any, .any, .any, .any, .any, .any, .any, .any, .any, .any, .any, .any, .any, .any, .any, .any, .any, .any, .any, .any, .any, .any, .any, .any, .any, .any, .any, .any, .any, .any, .any, .any, .any, .any, .any, .any, .any, .any, .any, .any, .any, .any, .any, .any], [], [(0, .cells 32 [.hole, .hole, .hole, .hole, .hole])], 1⟩, exitF none [(0, ⟨[.holeD 32, .any, .ptr 0 0, .hole, .any, .any, .any, .any, .any, .any, .any, .any, .any, .any, .any, .any, .any, .any, .any, .any, .any, .any, .any, .any, .any, .any, .any, .any, .any, .any, .any, .any, .any, .any, .any, .any, .any, .any, .any, .any, .any, .any, .any, .any, .any, .any, .any, .any, .any, .any, .any, .any, .any, .any, .any, .any, .any, .any, .any, .any, .any, .any, .any, .any, .any, .any, .any, .any, .any, .any, .any, .any, .any, .any, .any, .any, .any, .any, .any], [], [(0, .cells 32 [.hole, .hole, .hole, .hole, .hole])], 1⟩)] (some ⟨[.any, .any, .ptr 0 0, .hole, .any, .any, .any, .any, .any, .any, .any, .any, .any, .any, .any, .any, .any, .any, .any, .any, .any, .any, .any, .any, .any, .any, .any, .any, .any, .any, .any, .any, .any, .any, .any, .any, .any, .any, .any, .any, .any, .any, .any, .any, .any, .any, .any, .any, .any, .any, .any, .any, .any, .any, .any, .any, .any, .any, .any, .any, .any, .any, .any, .any, .any, .any, .any, .any, .any, .any, .any, .any, .any, .any, .any, .any, .any, .any, .any], [], [(0, .cells 32 [.hole, .hole, .hole, .hole, .hole])], 1⟩), fun vs K => ∃ k, w_24_4 k vs K⟩
def l_24_15 : Nat → Int → (List Segment) → Int → Int → Int → Int → Int → Int → Int → Int → Int → Int → (List Record) → (Int → Int → Int → Int → Int → Int → Int → Int → Int → (List Record) → Prop) → Prop
  | 0 => fun _ _ _ _ _ _ _ _ _ _ _ _ _ _ => False
  | k + 1 => fun x1 x2 x3 x4 x5 x6 x7 x8 x9 x10 x11 x12 x13 k2 ↦ br (decide (x4 < x3)) (br (inb x4 (↑x2.length : Int)) (br (roomB (x13 ++ (x2.getD x4.toNat (env.d 32)).records).length (bytesB env 50)) (l_24_15 k x1 x2 x3 (IntKind.i64.wrap (x4 + 1)) x5 x6 x7 x8 x9 x10 x11 x12 (x13 ++ (x2.getD x4.toNat (env.d 32)).records) k2) False) False) (k2 x1 x5 x6 x7 x8 x9 x10 x11 x12 x13)
def w_24_15 (k : Nat) (vs : List (SV env.T)) (K : Ex → List (SV env.T) → Prop) : Prop :=
  dCI .i64 vs fun x1 vs => dCD 32 vs fun x2 vs => dCI .i64 vs fun x3 vs => dCI .i64 vs fun x4 vs => dCI .i64 vs fun x5 vs => dCI .i64 vs fun x6 vs => dCI .u64 vs fun x7 vs => dCI .u64 vs fun x8 vs => dCN vs fun vs => dCI .i64 vs fun x9 vs => dCI .i64 vs fun x10 vs => dCI .u64 vs fun x11 vs => dCI .u64 vs fun x12 vs => dCD 50 vs fun x13 vs => dCE vs (l_24_15 k x1 x2 x3 x4 x5 x6 x7 x8 x9 x10 x11 x12 x13 (fun y1 y2 y3 y4 y5 y6 y7 y8 y9 y10 => K (.exit 2) [.int .i64 y1, .int .i64 y2, .int .i64 y3, .int .u64 y4, .int .u64 y5, .nils, .int .i64 y6, .int .i64 y7, .int .u64 y8, .int .u64 y9, .dat 50 y10]))
def p_24_15 : Piece env := ⟨⟨[.any, .any, .ptr 0 0, .hole, .any, .any, .ptr 1 0, .any, .any, .any, .any, .any, .any, .any, .any, .any, .any, .any, .any, .any, .any, .any, .any, .any, .any, .any, .any, .any, .any, .any, .any, .any, .any, .any, .any, .any, .any, .any, .any, .any, .any, .any, .any, .any, .any, .any, .any, .any, .any, .any, .any, .any, .any, .any, .any, .any, .any, .any, .any, .any, .holeD 32, .hole, .hole, .any, .any, .any, .any, .any, .any, .any, .any, .any, .any, .any, .any, .any, .any, .any, .any], [], [(0, .cells 32 [.hole, .hole, .hole, .hole, .hole]), (1, .cells 32 [.hole, .hole, .hole, .hole, .row 2]), (2, .row 50)], 3⟩, exitF none [(2, ⟨[.any, .any, .ptr 0 0, .hole, .any, .any, .ptr 1 0, .any, .any, .any, .any, .any, .any, .any, .any, .any, .any, .any, .any, .any, .any, .any, .any, .any, .any, .any, .any, .any, .any, .any, .any, .any, .any, .any, .any, .any, .any, .any, .any, .any, .any, .any, .any, .any, .any, .any, .any, .any, .any, .any, .any, .any, .any, .any, .any, .any, .any, .any, .any, .any, .any, .any, .any, .any, .any, .any, .any, .any, .any, .any, .any, .any, .any, .any, .any, .any, .any, .any, .any], [], [(0, .cells 32 [.hole, .hole, .hole, .hole, .hole]), (1, .cells 32 [.hole, .hole, .hole, .hole, .row 2]), (2, .row 50)], 3⟩)] none, fun vs K => ∃ k, w_24_15 k vs K⟩
def s_24_3 : (List Segment) → Int → Int → Int → Int → Int → (Int → Int → Int → Int → Int → (List Record) → Prop) → Prop :=
  fun x1 x2 x3 x4 x5 x6 kr ↦ ∃ k9, l_24_4 k9 x1 x2 x1 (↑x1.length : Int) 0 x3 x4 x5 x6 (fun y10 y11 y12 y13 y14 ↦ kr y10 y11 y12 y13 y14 []) fun y10 y11 y12 y13 y14 y15 ↦ V39 40 y10 fun y16 ↦ br (!y16) (kr 18 0 0 0 0 []) (V39 41 y10 fun y17 ↦ br (!y17) (kr 11 0 0 0 0 []) (br (inb 0 (↑y10.length : Int)) (br (inb (IntKind.i64.wrap ((↑y10.length : Int) - 1)) (↑y10.length : Int)) (br (inb 0 (↑y10.length : Int)) (br (inb (IntKind.i64.wrap ((↑y10.length : Int) - 1)) (↑y10.length : Int)) (∃ k18, l_24_15 k18 y11 y10 (↑y10.length : Int) 0 y12 y13 y14 y15 (y10.getD 0 (env.d 32)).from_ (y10.getD (IntKind.i64.wrap ((↑y10.length : Int) - 1)).toNat (env.d 32)).to_ (y10.getD 0 (env.d 32)).begin_ (y10.getD (IntKind.i64.wrap ((↑y10.length : Int) - 1)).toNat (env.d 32)).end_ [] fun _ _ _ _ _ y24 y25 y26 y27 y28 ↦ br (decide ((↑y28.length : Int) > 5000)) (kr 2 0 0 0 0 []) (kr 0 y24 y25 y26 y27 y28)) False) False) False) False))
def v_24_3 (vs : List (SV env.T)) (K : Ex → List (SV env.T) → Prop) : Prop :=
  dCD 32 vs fun x1 vs => dCI .i64 vs fun x2 vs => dCI .i64 vs fun x3 vs => dCI .i64 vs fun x4 vs => dCI .u64 vs fun x5 vs => dCI .u64 vs fun x6 vs => dCN vs fun vs => dCE vs (s_24_3 x1 x2 x3 x4 x5 x6 (fun y1 y2 y3 y4 y5 y6 => K .ret [.int .i64 y1, .int .i64 y2, .int .i64 y3, .int .u64 y4, .int .u64 y5, .dat 50 y6]))
def q_24_3 : Piece env := ⟨⟨[.holeD 32, .any, .ptr 0 0, .hole, .any, .any, .any, .any, .any, .any, .any, .any, .any, .any, .any, .any, .any, .any, .any, .any, .any, .any, .any, .any, .any, .any, .any, .any, .any, .any, .any, .any, .any, .any, .any, .any, .any, .any, .any, .any, .any, .any, .any, .any, .any, .any, .any, .any, .any, .any, .any, .any, .any, .any, .any, .any, .any, .any, .any, .any, .any, .any, .any, .any, .any, .any, .any, .any, .any, .any, .any, .any, .any, .any, .any, .any, .any, .any, .any], [], [(0, .cells 32 [.hole, .hole, .hole, .hole, .hole])], 1⟩, exitF none [] (some ⟨[.any, .any, .ptr 0 0, .hole, .any, .any, .any, .any, .any, .any, .any, .any, .any, .any, .any, .any, .any, .any, .any, .any, .any, .any, .any, .any, .any, .any, .any, .any, .any, .any, .any, .any, .any, .any, .any, .any, .any, .any, .any, .any, .any, .any, .any, .any, .any, .any, .any, .any, .any, .any, .any, .any, .any, .any, .any, .any, .any, .any, .any, .any, .any, .any, .any, .any, .any, .any, .any, .any, .any, .any, .any, .any, .any, .any, .any, .any, .any, .any, .any], [], [(0, .cells 32 [.hole, .hole, .hole, .hole, .row 1]), (1, .row 50)], 2⟩), v_24_3⟩
noncomputable def B24 : (List Segment) → (Y24 → Prop) → Prop :=
  fun x0 K ↦ br ((↑x0.length : Int) == 0) (K (Segment.mk 0 0 0 0 [], 1)) (br (decide ((↑x0.length : Int) > 32)) (K (Segment.mk 0 0 0 0 [], 1)) (s_24_3 x0 0 0 0 0 0 fun y2 y3 y4 y5 y6 y7 ↦ K (Segment.mk y3 y4 y5 y6 y7, y2)))
theorem V24_ex : ∃ V : (List Segment) → (Y24 → Prop) → Prop, V = B24 := ⟨_, rfl⟩
noncomputable def V24 : (List Segment) → (Y24 → Prop) → Prop := Classical.choose V24_ex
theorem V24_eq : V24 = B24 := Classical.choose_spec V24_ex
theorem pook_24_4_24 : PiecesOk Try.prog env (ctxG env false [] R39 [] []) 24 b24 :=
  pieces_at (rfIn_body (fn := f24) (b := b24) rfl hb24) (L := []) (S := []) (fun _ => rfl) (fun _ => rfl) (by kernel_rfl) (by kernel_rfl) (fun _ hq => by cases hq) (fun _ hq => by cases hq)
theorem book_24_4 : BodiesOk Try.prog env (ctxG env false [] R39 [] []) := bodies_okG (ks := []) (by kernel_rfl) (fun _ hq => by cases hq)
theorem stok_24_4 (k : Nat) (x1 : (List Segment)) (x2 : Int) (x3 : (List Segment)) (x4 : Int) (x5 : Int) (x6 : Int) (x7 : Int) (x8 : Int) (x9 : Int) (K : Ex → List (SV env.T) → Prop) : l_24_4 (k + 1) x1 x2 x3 x4 x5 x6 x7 x8 x9 (fun y1 y2 y3 y4 y5 => K .ret [.int .i64 y1, .int .i64 y2, .int .i64 y3, .int .u64 y4, .int .u64 y5, .nils]) (fun y1 y2 y3 y4 y5 y6 => K (.exit 0) [.dat 32 y1, .int .i64 y2, .int .i64 y3, .int .i64 y4, .int .u64 y5, .int .u64 y6, .nils]) = vcCode env (ctxG env false [] R39 [] []) 2000 24 (loopAt b24 4) (insSt p_24_4.head [.dat 32 x1, .int .i64 x2, .dat 32 x3, .int .i64 x4, .int .i64 x5, .int .i64 x6, .int .i64 x7, .int .u64 x8, .int .u64 x9, .nils]) (stepK p_24_4 (w_24_4 k) K) := by kernel_rfl
theorem wiok_24_4 (k : Nat) (vs : List (SV env.T)) (K : Ex → List (SV env.T) → Prop) (h : w_24_4 k vs K) : ∃ x1 : (List Segment), ∃ x2 : Int, ∃ x3 : (List Segment), ∃ x4 : Int, ∃ x5 : Int, ∃ x6 : Int, ∃ x7 : Int, ∃ x8 : Int, ∃ x9 : Int, vs = [.dat 32 x1, .int .i64 x2, .dat 32 x3, .int .i64 x4, .int .i64 x5, .int .i64 x6, .int .i64 x7, .int .u64 x8, .int .u64 x9, .nils] ∧ l_24_4 k x1 x2 x3 x4 x5 x6 x7 x8 x9 (fun y1 y2 y3 y4 y5 => K .ret [.int .i64 y1, .int .i64 y2, .int .i64 y3, .int .u64 y4, .int .u64 y5, .nils]) (fun y1 y2 y3 y4 y5 y6 => K (.exit 0) [.dat 32 y1, .int .i64 y2, .int .i64 y3, .int .i64 y4, .int .u64 y5, .int .u64 y6, .nils]) := by
  unfold w_24_4 at h
  replace h := dCD_spec h
  obtain ⟨x1, vs0, e0, h⟩ := h
  replace h := dCI_spec h
  obtain ⟨x2, vs1, e1, h⟩ := h
  replace h := dCD_spec h
  obtain ⟨x3, vs2, e2, h⟩ := h
  replace h := dCI_spec h
  obtain ⟨x4, vs3, e3, h⟩ := h
  replace h := dCI_spec h
  obtain ⟨x5, vs4, e4, h⟩ := h
  replace h := dCI_spec h
  obtain ⟨x6, vs5, e5, h⟩ := h
  replace h := dCI_spec h
  obtain ⟨x7, vs6, e6, h⟩ := h
  replace h := dCI_spec h
  obtain ⟨x8, vs7, e7, h⟩ := h
  replace h := dCI_spec h
  obtain ⟨x9, vs8, e8, h⟩ := h
  replace h := dCN_spec h
  obtain ⟨vs9, e9, h⟩ := h
  replace h := dCE_spec h
  obtain ⟨e, h⟩ := h
  exact ⟨x1, x2, x3, x4, x5, x6, x7, x8, x9, by rw [e0, e1, e2, e3, e4, e5, e6, e7, e8, e9, e], h⟩
theorem zeok_24_4 (x1 : (List Segment)) (x2 : Int) (x3 : (List Segment)) (x4 : Int) (x5 : Int) (x6 : Int) (x7 : Int) (x8 : Int) (x9 : Int) (K : Ex → List (SV env.T) → Prop) : l_24_4 0 x1 x2 x3 x4 x5 x6 x7 x8 x9 (fun y1 y2 y3 y4 y5 => K .ret [.int .i64 y1, .int .i64 y2, .int .i64 y3, .int .u64 y4, .int .u64 y5, .nils]) (fun y1 y2 y3 y4 y5 y6 => K (.exit 0) [.dat 32 y1, .int .i64 y2, .int .i64 y3, .int .i64 y4, .int .u64 y5, .int .u64 y6, .nils]) = False := by kernel_rfl
theorem ok_24_4 : PieceOk Try.prog env p_24_4 (.loop (loopAt b24 4)) := by
  refine loop_step (Wn := w_24_4) tab (ctxG_ok R39_ok false [] _ _) book_24_4 (pieces_sub pook_24_4_24 (by kernel_rfl)) rfl ?_ 2000 ?_
  · intro vs K h
    obtain ⟨x1, x2, x3, x4, x5, x6, x7, x8, x9, _, h⟩ := wiok_24_4 0 vs K h
    exact Eq.mp (zeok_24_4 x1 x2 x3 x4 x5 x6 x7 x8 x9 K) h
  · intro k vs K h
    obtain ⟨x1, x2, x3, x4, x5, x6, x7, x8, x9, rfl, h⟩ := wiok_24_4 (k + 1) vs K h
    exact Eq.mp (stok_24_4 k x1 x2 x3 x4 x5 x6 x7 x8 x9 K) h
theorem pook_24_15_24 : PiecesOk Try.prog env (ctxG env false [] R39 [] []) 24 b24 :=
  pieces_at (rfIn_body (fn := f24) (b := b24) rfl hb24) (L := []) (S := []) (fun _ => rfl) (fun _ => rfl) (by kernel_rfl) (by kernel_rfl) (fun _ hq => by cases hq) (fun _ hq => by cases hq)
theorem book_24_15 : BodiesOk Try.prog env (ctxG env false [] R39 [] []) := bodies_okG (ks := []) (by kernel_rfl) (fun _ hq => by cases hq)
theorem stok_24_15 (k : Nat) (x1 : Int) (x2 : (List Segment)) (x3 : Int) (x4 : Int) (x5 : Int) (x6 : Int) (x7 : Int) (x8 : Int) (x9 : Int) (x10 : Int) (x11 : Int) (x12 : Int) (x13 : (List Record)) (K : Ex → List (SV env.T) → Prop) : l_24_15 (k + 1) x1 x2 x3 x4 x5 x6 x7 x8 x9 x10 x11 x12 x13 (fun y1 y2 y3 y4 y5 y6 y7 y8 y9 y10 => K (.exit 2) [.int .i64 y1, .int .i64 y2, .int .i64 y3, .int .u64 y4, .int .u64 y5, .nils, .int .i64 y6, .int .i64 y7, .int .u64 y8, .int .u64 y9, .dat 50 y10]) = vcCode env (ctxG env false [] R39 [] []) 2000 24 (loopAt b24 15) (insSt p_24_15.head [.int .i64 x1, .dat 32 x2, .int .i64 x3, .int .i64 x4, .int .i64 x5, .int .i64 x6, .int .u64 x7, .int .u64 x8, .nils, .int .i64 x9, .int .i64 x10, .int .u64 x11, .int .u64 x12, .dat 50 x13]) (stepK p_24_15 (w_24_15 k) K) := by kernel_rfl
theorem wiok_24_15 (k : Nat) (vs : List (SV env.T)) (K : Ex → List (SV env.T) → Prop) (h : w_24_15 k vs K) : ∃ x1 : Int, ∃ x2 : (List Segment), ∃ x3 : Int, ∃ x4 : Int, ∃ x5 : Int, ∃ x6 : Int, ∃ x7 : Int, ∃ x8 : Int, ∃ x9 : Int, ∃ x10 : Int, ∃ x11 : Int, ∃ x12 : Int, ∃ x13 : (List Record), vs = [.int .i64 x1, .dat 32 x2, .int .i64 x3, .int .i64 x4, .int .i64 x5, .int .i64 x6, .int .u64 x7, .int .u64 x8, .nils, .int .i64 x9, .int .i64 x10, .int .u64 x11, .int .u64 x12, .dat 50 x13] ∧ l_24_15 k x1 x2 x3 x4 x5 x6 x7 x8 x9 x10 x11 x12 x13 (fun y1 y2 y3 y4 y5 y6 y7 y8 y9 y10 => K (.exit 2) [.int .i64 y1, .int .i64 y2, .int .i64 y3, .int .u64 y4, .int .u64 y5, .nils, .int .i64 y6, .int .i64 y7, .int .u64 y8, .int .u64 y9, .dat 50 y10]) := by
  unfold w_24_15 at h
  replace h := dCI_spec h
  obtain ⟨x1, vs0, e0, h⟩ := h
  replace h := dCD_spec h
  obtain ⟨x2, vs1, e1, h⟩ := h
  replace h := dCI_spec h
  obtain ⟨x3, vs2, e2, h⟩ := h
  replace h := dCI_spec h
  obtain ⟨x4, vs3, e3, h⟩ := h
  replace h := dCI_spec h
  obtain ⟨x5, vs4, e4, h⟩ := h
  replace h := dCI_spec h
  obtain ⟨x6, vs5, e5, h⟩ := h
  replace h := dCI_spec h
  obtain ⟨x7, vs6, e6, h⟩ := h
  replace h := dCI_spec h
  obtain ⟨x8, vs7, e7, h⟩ := h
  replace h := dCN_spec h
  obtain ⟨vs8, e8, h⟩ := h
  replace h := dCI_spec h
  obtain ⟨x9, vs9, e9, h⟩ := h
  replace h := dCI_spec h
  obtain ⟨x10, vs10, e10, h⟩ := h
  replace h := dCI_spec h
  obtain ⟨x11, vs11, e11, h⟩ := h
  replace h := dCI_spec h
  obtain ⟨x12, vs12, e12, h⟩ := h
  replace h := dCD_spec h
  obtain ⟨x13, vs13, e13, h⟩ := h
  replace h := dCE_spec h
  obtain ⟨e, h⟩ := h
  exact ⟨x1, x2, x3, x4, x5, x6, x7, x8, x9, x10, x11, x12, x13, by rw [e0, e1, e2, e3, e4, e5, e6, e7, e8, e9, e10, e11, e12, e13, e], h⟩
theorem zeok_24_15 (x1 : Int) (x2 : (List Segment)) (x3 : Int) (x4 : Int) (x5 : Int) (x6 : Int) (x7 : Int) (x8 : Int) (x9 : Int) (x10 : Int) (x11 : Int) (x12 : Int) (x13 : (List Record)) (K : Ex → List (SV env.T) → Prop) : l_24_15 0 x1 x2 x3 x4 x5 x6 x7 x8 x9 x10 x11 x12 x13 (fun y1 y2 y3 y4 y5 y6 y7 y8 y9 y10 => K (.exit 2) [.int .i64 y1, .int .i64 y2, .int .i64 y3, .int .u64 y4, .int .u64 y5, .nils, .int .i64 y6, .int .i64 y7, .int .u64 y8, .int .u64 y9, .dat 50 y10]) = False := by kernel_rfl
theorem ok_24_15 : PieceOk Try.prog env p_24_15 (.loop (loopAt b24 15)) := by
  refine loop_step (Wn := w_24_15) tab (ctxG_ok R39_ok false [] _ _) book_24_15 (pieces_sub pook_24_15_24 (by kernel_rfl)) rfl ?_ 2000 ?_
  · intro vs K h
    obtain ⟨x1, x2, x3, x4, x5, x6, x7, x8, x9, x10, x11, x12, x13, _, h⟩ := wiok_24_15 0 vs K h
    exact Eq.mp (zeok_24_15 x1 x2 x3 x4 x5 x6 x7 x8 x9 x10 x11 x12 x13 K) h
  · intro k vs K h
    obtain ⟨x1, x2, x3, x4, x5, x6, x7, x8, x9, x10, x11, x12, x13, rfl, h⟩ := wiok_24_15 (k + 1) vs K h
    exact Eq.mp (stok_24_15 k x1 x2 x3 x4 x5 x6 x7 x8 x9 x10 x11 x12 x13 K) h
theorem pooq_24_3_24 : PiecesOk Try.prog env (ctxG env false [] R39 [(24, [(4, p_24_4), (15, p_24_15)])] []) 24 b24 :=
  pieces_at (rfIn_body (fn := f24) (b := b24) rfl hb24) (L := [(4, p_24_4), (15, p_24_15)]) (S := []) (fun _ => rfl) (fun _ => rfl) (by kernel_rfl) (by kernel_rfl) (List.forall_mem_cons.2 ⟨fun _ => ok_24_4, (List.forall_mem_cons.2 ⟨fun _ => ok_24_15, (fun _ hq => by cases hq)⟩)⟩) (fun _ hq => by cases hq)
theorem booq_24_3 : BodiesOk Try.prog env (ctxG env false [] R39 [(24, [(4, p_24_4), (15, p_24_15)])] []) := bodies_okG (ks := [24]) (by kernel_rfl) (List.forall_mem_cons.2 ⟨body_at (fn := f24) (body := b24) rfl hb24 pooq_24_3_24, (fun _ hq => by cases hq)⟩)
theorem stoq_24_3 (x1 : (List Segment)) (x2 : Int) (x3 : Int) (x4 : Int) (x5 : Int) (x6 : Int) (K : Ex → List (SV env.T) → Prop) : s_24_3  x1 x2 x3 x4 x5 x6 (fun y1 y2 y3 y4 y5 y6 => K .ret [.int .i64 y1, .int .i64 y2, .int .i64 y3, .int .u64 y4, .int .u64 y5, .dat 50 y6]) = vcCode env (ctxG env false [] R39 [(24, [(4, p_24_4), (15, p_24_15)])] []) 2000 24 (seqAt b24 3) (insSt q_24_3.head [.dat 32 x1, .int .i64 x2, .int .i64 x3, .int .i64 x4, .int .u64 x5, .int .u64 x6, .nils]) (outP env q_24_3 K) := by kernel_rfl
theorem wioq_24_3 (vs : List (SV env.T)) (K : Ex → List (SV env.T) → Prop) (h : v_24_3 vs K) : ∃ x1 : (List Segment), ∃ x2 : Int, ∃ x3 : Int, ∃ x4 : Int, ∃ x5 : Int, ∃ x6 : Int, vs = [.dat 32 x1, .int .i64 x2, .int .i64 x3, .int .i64 x4, .int .u64 x5, .int .u64 x6, .nils] ∧ s_24_3  x1 x2 x3 x4 x5 x6 (fun y1 y2 y3 y4 y5 y6 => K .ret [.int .i64 y1, .int .i64 y2, .int .i64 y3, .int .u64 y4, .int .u64 y5, .dat 50 y6]) := by
  unfold v_24_3 at h
  replace h := dCD_spec h
  obtain ⟨x1, vs0, e0, h⟩ := h
  replace h := dCI_spec h
  obtain ⟨x2, vs1, e1, h⟩ := h
  replace h := dCI_spec h
  obtain ⟨x3, vs2, e2, h⟩ := h
  replace h := dCI_spec h
  obtain ⟨x4, vs3, e3, h⟩ := h
  replace h := dCI_spec h
  obtain ⟨x5, vs4, e4, h⟩ := h
  replace h := dCI_spec h
  obtain ⟨x6, vs5, e5, h⟩ := h
  replace h := dCN_spec h
  obtain ⟨vs6, e6, h⟩ := h
  replace h := dCE_spec h
  obtain ⟨e, h⟩ := h
  exact ⟨x1, x2, x3, x4, x5, x6, by rw [e0, e1, e2, e3, e4, e5, e6, e], h⟩
theorem oq_24_3 : PieceOk Try.prog env q_24_3 (seqAt b24 3) := by
  refine seq_step tab (ctxG_ok R39_ok false [] _ _) booq_24_3 (pieces_subS pooq_24_3_24 (by kernel_rfl)) 2000 ?_
  intro vs K h
  obtain ⟨x1, x2, x3, x4, x5, x6, rfl, h⟩ := wioq_24_3 vs K h
  exact Eq.mp (stoq_24_3 x1 x2 x3 x4 x5 x6 K) h
theorem po_24_24 : PiecesOk Try.prog env (ctxG env false [] R39 [(24, [(4, p_24_4), (15, p_24_15)])] [(24, [(3, q_24_3)])]) 24 b24 :=
  pieces_at (rfIn_body (fn := f24) (b := b24) rfl hb24) (L := [(4, p_24_4), (15, p_24_15)]) (S := [(3, q_24_3)]) (fun _ => rfl) (fun _ => rfl) (by kernel_rfl) (by kernel_rfl) (List.forall_mem_cons.2 ⟨fun _ => ok_24_4, (List.forall_mem_cons.2 ⟨fun _ => ok_24_15, (fun _ hq => by cases hq)⟩)⟩) (List.forall_mem_cons.2 ⟨fun _ => oq_24_3, (fun _ hq => by cases hq)⟩)
theorem bo_24 : BodiesOk Try.prog env (ctxG env false [] R39 [(24, [(4, p_24_4), (15, p_24_15)])] [(24, [(3, q_24_3)])]) := bodies_okG (ks := [24]) (by kernel_rfl) (List.forall_mem_cons.2 ⟨body_at (fn := f24) (body := b24) rfl hb24 po_24_24, (fun _ hq => by cases hq)⟩)
theorem eq_24 (x0 : (List Segment)) (K : Y24 → Prop) : vcCode env (ctxG env false [] R39 [(24, [(4, p_24_4), (15, p_24_15)])] [(24, [(3, q_24_3)])]) 2000 24 b24 (entry env f24 [v23 x0]) (finR env f24 decR24 K) = B24 x0 K := by kernel_rfl
noncomputable def rule24 : Nat × Rule env := (24, ruleF env decA24 encR24 fun x => V24 x)
theorem r24 : RuleOk Try.prog env 24 rule24.2 :=
  rule_fun tab (ctxG_ok R39_ok false [] _ _) bo_24 (f := 24) (fn := f24) rfl hb24 po_24_24 2000 encA24 hA24 hR24 hD24 (fun _ => of_decide_eq_true (by kernel_rfl)) (fun x K => (eq_24 x K).trans (by rw [V24_eq]))
noncomputable def R24 : List (Nat × Rule env) := rule24 :: R39
theorem R24_ok : AllOk Try.prog env R24 := ⟨r24, R39_ok⟩
end Go.Vg.Ytkaodeodiakldaa
