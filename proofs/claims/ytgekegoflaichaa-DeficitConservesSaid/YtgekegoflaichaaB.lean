/-
  Walked functions of the program: predicate transformers and their rules. Written by a program of this work (gen.py, VgGen.lean) out of the executor's own reduction; no condition.
-/
import Derived.Test.YtgekegoflaichaaP
set_option maxRecDepth 100000
set_option maxHeartbeats 4000000
namespace Go.Vg.Ytgekegoflaichaa
open Go.Vg Go.Proofs
-- 59 queuelab/queuelabref18.number
noncomputable def f59 : Func := Try.f59
noncomputable def b59 : Code := (Try.f59.body).getD .skip
abbrev X59 := Int
def encA59 (x : X59) : List (SV env.T) := [v3 x]
def decA59 (l : List (SV env.T)) : Option X59 := match l with
  | [s0] => match u3 s0 with
    | some x0 => some (x0)
    | _ => none
  | _ => none
theorem hA59 (l : List (SV env.T)) (x : X59) (h : decA59 l = some x) : WkA env.has l (encA59 x) := by
  unfold decA59 at h; split at h
  · split at h
    · rename_i h0; cases h; exact (.cons (u3_wk h0) .nil)
    · cases h
  · cases h
abbrev Y59 := Bool
def encR59 (x : Y59) : List (SV env.T) := [v4 x]
def decR59 (l : List (SV env.T)) : Option Y59 := match l with
  | [s0] => match u4 s0 with
    | some x0 => some (x0)
    | _ => none
  | _ => none
theorem hR59 (l : List (SV env.T)) (x : Y59) (h : decR59 l = some x) : WkA env.has l (encR59 x) := by
  unfold decR59 at h; split at h
  · split at h
    · rename_i h0; cases h; exact (.cons (u4_wk h0) .nil)
    · cases h
  · cases h
theorem hD59 (y : Y59) : isDataV (tupV (encR59 y)) = true := rfl
theorem hb59 : f59.body = some b59 := by kernel_rfl
noncomputable def B59 : Int → (Y59 → Prop) → Prop :=
  fun x0 K ↦ br (decide (x0 ≥ 0)) (K (decide (x0 ≤ 1000000000))) (K false)
theorem V59_ex : ∃ V : Int → (Y59 → Prop) → Prop, V = B59 := ⟨_, rfl⟩
noncomputable def V59 : Int → (Y59 → Prop) → Prop := Classical.choose V59_ex
theorem V59_eq : V59 = B59 := Classical.choose_spec V59_ex
theorem po_59_59 : PiecesOk Try.prog env (ctxG env false [] R17 [] []) 59 b59 :=
  pieces_at (L := []) (S := []) (fun _ => rfl) (fun _ => rfl) (by kernel_rfl) (by kernel_rfl) (fun _ hq => by cases hq) (fun _ hq => by cases hq)
theorem bo_59 : BodiesOk Try.prog env (ctxG env false [] R17 [] []) := bodies_okG (ks := []) (by kernel_rfl) (fun _ hq => by cases hq)
theorem eq_59 (x0 : Int) (K : Y59 → Prop) : vcCode env (ctxG env false [] R17 [] []) 2000 59 b59 (entry env f59 [v3 x0]) (finR env f59 decR59 K) = B59 x0 K := by kernel_rfl
noncomputable def rule59 : Nat × Rule env := (59, ruleF env decA59 encR59 fun x => V59 x)
theorem r59 : RuleOk Try.prog env 59 rule59.2 :=
  rule_fun tab (ctxG_ok R17_ok false [] _ _) bo_59 (f := 59) (fn := f59) rfl hb59 po_59_59 2000 encA59 hA59 hR59 hD59 (fun _ => of_decide_eq_true (by kernel_rfl)) (fun x K => (eq_59 x K).trans (by rw [V59_eq]))
noncomputable def R59 : List (Nat × Rule env) := rule59 :: R17
theorem R59_ok : AllOk Try.prog env R59 := ⟨r59, R17_ok⟩
-- 29 queuelab/queuelabref18.Time
noncomputable def f29 : Func := Try.f29
noncomputable def b29 : Code := (Try.f29.body).getD .skip
abbrev X29 := Int
def encA29 (x : X29) : List (SV env.T) := [v3 x]
def decA29 (l : List (SV env.T)) : Option X29 := match l with
  | [s0] => match u3 s0 with
    | some x0 => some (x0)
    | _ => none
  | _ => none
theorem hA29 (l : List (SV env.T)) (x : X29) (h : decA29 l = some x) : WkA env.has l (encA29 x) := by
  unfold decA29 at h; split at h
  · split at h
    · rename_i h0; cases h; exact (.cons (u3_wk h0) .nil)
    · cases h
  · cases h
abbrev Y29 := Bool
def encR29 (x : Y29) : List (SV env.T) := [v4 x]
def decR29 (l : List (SV env.T)) : Option Y29 := match l with
  | [s0] => match u4 s0 with
    | some x0 => some (x0)
    | _ => none
  | _ => none
theorem hR29 (l : List (SV env.T)) (x : Y29) (h : decR29 l = some x) : WkA env.has l (encR29 x) := by
  unfold decR29 at h; split at h
  · split at h
    · rename_i h0; cases h; exact (.cons (u4_wk h0) .nil)
    · cases h
  · cases h
theorem hD29 (y : Y29) : isDataV (tupV (encR29 y)) = true := rfl
theorem hb29 : f29.body = some b29 := by kernel_rfl
noncomputable def B29 : Int → (Y29 → Prop) → Prop :=
  fun x0 K ↦ br (decide (x0 ≥ 0)) (K (decide (x0 ≤ 10000000))) (K false)
theorem V29_ex : ∃ V : Int → (Y29 → Prop) → Prop, V = B29 := ⟨_, rfl⟩
noncomputable def V29 : Int → (Y29 → Prop) → Prop := Classical.choose V29_ex
theorem V29_eq : V29 = B29 := Classical.choose_spec V29_ex
theorem po_29_29 : PiecesOk Try.prog env (ctxG env false [] R59 [] []) 29 b29 :=
  pieces_at (L := []) (S := []) (fun _ => rfl) (fun _ => rfl) (by kernel_rfl) (by kernel_rfl) (fun _ hq => by cases hq) (fun _ hq => by cases hq)
theorem bo_29 : BodiesOk Try.prog env (ctxG env false [] R59 [] []) := bodies_okG (ks := []) (by kernel_rfl) (fun _ hq => by cases hq)
theorem eq_29 (x0 : Int) (K : Y29 → Prop) : vcCode env (ctxG env false [] R59 [] []) 2000 29 b29 (entry env f29 [v3 x0]) (finR env f29 decR29 K) = B29 x0 K := by kernel_rfl
noncomputable def rule29 : Nat × Rule env := (29, ruleF env decA29 encR29 fun x => V29 x)
theorem r29 : RuleOk Try.prog env 29 rule29.2 :=
  rule_fun tab (ctxG_ok R59_ok false [] _ _) bo_29 (f := 29) (fn := f29) rfl hb29 po_29_29 2000 encA29 hA29 hR29 hD29 (fun _ => of_decide_eq_true (by kernel_rfl)) (fun x K => (eq_29 x K).trans (by rw [V29_eq]))
noncomputable def R29 : List (Nat × Rule env) := rule29 :: R59
theorem R29_ok : AllOk Try.prog env R29 := ⟨r29, R59_ok⟩
-- 26 queuelab/queuelabref18.Packet
noncomputable def f26 : Func := Try.f26
noncomputable def b26 : Code := (Try.f26.body).getD .skip
abbrev X26 := Packet
def encA26 (x : X26) : List (SV env.T) := [v30 x]
def decA26 (l : List (SV env.T)) : Option X26 := match l with
  | [s0] => match u30 s0 with
    | some x0 => some (x0)
    | _ => none
  | _ => none
theorem hA26 (l : List (SV env.T)) (x : X26) (h : decA26 l = some x) : WkA env.has l (encA26 x) := by
  unfold decA26 at h; split at h
  · split at h
    · rename_i h0; cases h; exact (.cons (u30_wk h0) .nil)
    · cases h
  · cases h
abbrev Y26 := Bool
def encR26 (x : Y26) : List (SV env.T) := [v4 x]
def decR26 (l : List (SV env.T)) : Option Y26 := match l with
  | [s0] => match u4 s0 with
    | some x0 => some (x0)
    | _ => none
  | _ => none
theorem hR26 (l : List (SV env.T)) (x : Y26) (h : decR26 l = some x) : WkA env.has l (encR26 x) := by
  unfold decR26 at h; split at h
  · split at h
    · rename_i h0; cases h; exact (.cons (u4_wk h0) .nil)
    · cases h
  · cases h
theorem hD26 (y : Y26) : isDataV (tupV (encR26 y)) = true := rfl
theorem hb26 : f26.body = some b26 := by kernel_rfl
noncomputable def B26 : Packet → (Y26 → Prop) → Prop :=
  fun x0 K ↦ br (decide (x0.flow ≥ 0)) (br (decide (x0.flow < 8)) (br (decide (x0.sub ≥ 0)) (br (decide (x0.sub < 4)) (V59 x0.number fun y2 ↦ br y2 (V59 x0.data fun y3 ↦ br y3 (br (decide (x0.size ≥ 1)) (br (decide (x0.size ≤ 10000)) (V29 x0.sent K) (K false)) (K false)) (K false)) (K false)) (K false)) (K false)) (K false)) (K false)
theorem V26_ex : ∃ V : Packet → (Y26 → Prop) → Prop, V = B26 := ⟨_, rfl⟩
noncomputable def V26 : Packet → (Y26 → Prop) → Prop := Classical.choose V26_ex
theorem V26_eq : V26 = B26 := Classical.choose_spec V26_ex
theorem po_26_26 : PiecesOk Try.prog env (ctxG env false [] R29 [] []) 26 b26 :=
  pieces_at (L := []) (S := []) (fun _ => rfl) (fun _ => rfl) (by kernel_rfl) (by kernel_rfl) (fun _ hq => by cases hq) (fun _ hq => by cases hq)
theorem bo_26 : BodiesOk Try.prog env (ctxG env false [] R29 [] []) := bodies_okG (ks := []) (by kernel_rfl) (fun _ hq => by cases hq)
theorem eq_26 (x0 : Packet) (K : Y26 → Prop) : vcCode env (ctxG env false [] R29 [] []) 2000 26 b26 (entry env f26 [v30 x0]) (finR env f26 decR26 K) = B26 x0 K := by kernel_rfl
noncomputable def rule26 : Nat × Rule env := (26, ruleF env decA26 encR26 fun x => V26 x)
theorem r26 : RuleOk Try.prog env 26 rule26.2 :=
  rule_fun tab (ctxG_ok R29_ok false [] _ _) bo_26 (f := 26) (fn := f26) rfl hb26 po_26_26 2000 encA26 hA26 hR26 hD26 (fun _ => of_decide_eq_true (by kernel_rfl)) (fun x K => (eq_26 x K).trans (by rw [V26_eq]))
noncomputable def R26 : List (Nat × Rule env) := rule26 :: R29
theorem R26_ok : AllOk Try.prog env R26 := ⟨r26, R29_ok⟩
-- 57 queuelab/queuelabref18.List
noncomputable def f57 : Func := Try.f57
noncomputable def b57 : Code := (Try.f57.body).getD .skip
abbrev X57 := (List Queued) × Int
def encA57 (x : X57) : List (SV env.T) := [v43 x.1, v3 x.2]
def decA57 (l : List (SV env.T)) : Option X57 := match l with
  | [s0, s1] => match u43 s0, u3 s1 with
    | some x0, some x1 => some (x0, x1)
    | _, _ => none
  | _ => none
theorem hA57 (l : List (SV env.T)) (x : X57) (h : decA57 l = some x) : WkA env.has l (encA57 x) := by
  unfold decA57 at h; split at h
  · split at h
    · rename_i h0 h1; cases h; exact (.cons (u43_wk h0) (.cons (u3_wk h1) .nil))
    · cases h
  · cases h
abbrev Y57 := Bool
def encR57 (x : Y57) : List (SV env.T) := [v4 x]
def decR57 (l : List (SV env.T)) : Option Y57 := match l with
  | [s0] => match u4 s0 with
    | some x0 => some (x0)
    | _ => none
  | _ => none
theorem hR57 (l : List (SV env.T)) (x : Y57) (h : decR57 l = some x) : WkA env.has l (encR57 x) := by
  unfold decR57 at h; split at h
  · split at h
    · rename_i h0; cases h; exact (.cons (u4_wk h0) .nil)
    · cases h
  · cases h
theorem hD57 (y : Y57) : isDataV (tupV (encR57 y)) = true := rfl
theorem hb57 : f57.body = some b57 := by kernel_rfl
def l_57_2 : Nat → (List Queued) → Int → Bool → Int → (Bool → Prop) → (Bool → Prop) → Prop
  | 0 => fun _ _ _ _ _ _ => False
  | k + 1 => fun x1 x2 x3 x4 kr k0 ↦ br (decide (x4 < (↑x1.length : Int))) (br (inb x4 (↑x1.length : Int)) (∃ k8, (V26 (x1.getD x4.toNat (env.d 45)).p fun y9 ↦ tupV (encR26 y9) = tupV (encR26 k8)) ∧ br (!k8) (kr false) (br (inb x4 (↑x1.length : Int)) (∃ k9, (V29 (x1.getD x4.toNat (env.d 45)).at_ fun y10 ↦ tupV (encR29 y10) = tupV (encR29 k9)) ∧ br (!k9) (kr false) (br (inb x4 (↑x1.length : Int)) (br (decide ((x1.getD x4.toNat (env.d 45)).at_ > x2)) (kr false) (br (decide (x4 > 0)) (br (inb x4 (↑x1.length : Int)) (br (inb (IntKind.i64.wrap (x4 - 1)) (↑x1.length : Int)) (br (decide ((x1.getD x4.toNat (env.d 45)).at_ < (x1.getD (IntKind.i64.wrap (x4 - 1)).toNat (env.d 45)).at_)) (kr false) (l_57_2 k x1 x2 x3 (IntKind.i64.wrap (x4 + 1)) kr k0)) False) False) (l_57_2 k x1 x2 x3 (IntKind.i64.wrap (x4 + 1)) kr k0))) False)) False)) False) (k0 x3)
def w_57_2 (k : Nat) (vs : List (SV env.T)) (K : Ex → List (SV env.T) → Prop) : Prop :=
  dCD 45 vs fun x1 vs => dCI .i64 vs fun x2 vs => dCB vs fun x3 vs => dCI .i64 vs fun x4 vs => dCE vs (l_57_2 k x1 x2 x3 x4 (fun y1 => K .ret [.bool y1]) (fun y1 => K (.exit 0) [.bool y1]))
def p_57_2 : Piece env := ⟨⟨[.holeD 45, .hole, .any, .any, .hole, .hole, .any, .any, .any, .any, .any, .any, .any, .any, .any, .any, .any, .any, .any, .any, .any, .any, .any, .any, .any, .any, .any, .any, .any, .any, .any, .any, .any, .any, .any, .any, .any, .any, .any, .any, .any, .any, .any, .any, .any, .any, .any, .any, .any, .any, .any, .any, .any, .any, .any], [], [], 0⟩, exitF none [(0, ⟨[.any, .any, .any, .any, .hole, .any, .any, .any, .any, .any, .any, .any, .any, .any, .any, .any, .any, .any, .any, .any, .any, .any, .any, .any, .any, .any, .any, .any, .any, .any, .any, .any, .any, .any, .any, .any, .any, .any, .any, .any, .any, .any, .any, .any, .any, .any, .any, .any, .any, .any, .any, .any, .any, .any, .any], [], [], 0⟩)] (some ⟨[.any, .any, .any, .any, .hole, .any, .any, .any, .any, .any, .any, .any, .any, .any, .any, .any, .any, .any, .any, .any, .any, .any, .any, .any, .any, .any, .any, .any, .any, .any, .any, .any, .any, .any, .any, .any, .any, .any, .any, .any, .any, .any, .any, .any, .any, .any, .any, .any, .any, .any, .any, .any, .any, .any, .any], [], [], 0⟩), fun vs K => ∃ k, w_57_2 k vs K⟩
noncomputable def B57 : (List Queued) → Int → (Y57 → Prop) → Prop :=
  fun x0 x1 K ↦ ∃ k3, l_57_2 k3 x0 x1 false 0 K fun _ ↦ K true
theorem V57_ex : ∃ V : (List Queued) → Int → (Y57 → Prop) → Prop, V = B57 := ⟨_, rfl⟩
noncomputable def V57 : (List Queued) → Int → (Y57 → Prop) → Prop := Classical.choose V57_ex
theorem V57_eq : V57 = B57 := Classical.choose_spec V57_ex
theorem pook_57_2_57 : PiecesOk Try.prog env (ctxG env false [] R26 [] []) 57 b57 :=
  pieces_at (L := []) (S := []) (fun _ => rfl) (fun _ => rfl) (by kernel_rfl) (by kernel_rfl) (fun _ hq => by cases hq) (fun _ hq => by cases hq)
theorem book_57_2 : BodiesOk Try.prog env (ctxG env false [] R26 [] []) := bodies_okG (ks := []) (by kernel_rfl) (fun _ hq => by cases hq)
theorem stok_57_2 (k : Nat) (x1 : (List Queued)) (x2 : Int) (x3 : Bool) (x4 : Int) (K : Ex → List (SV env.T) → Prop) : l_57_2 (k + 1) x1 x2 x3 x4 (fun y1 => K .ret [.bool y1]) (fun y1 => K (.exit 0) [.bool y1]) = vcCode env (ctxG env false [] R26 [] []) 2000 57 (loopAt b57 2) (insSt p_57_2.head [.dat 45 x1, .int .i64 x2, .bool x3, .int .i64 x4]) (stepK p_57_2 (w_57_2 k) K) := by kernel_rfl
theorem wiok_57_2 (k : Nat) (vs : List (SV env.T)) (K : Ex → List (SV env.T) → Prop) (h : w_57_2 k vs K) : ∃ x1 : (List Queued), ∃ x2 : Int, ∃ x3 : Bool, ∃ x4 : Int, vs = [.dat 45 x1, .int .i64 x2, .bool x3, .int .i64 x4] ∧ l_57_2 k x1 x2 x3 x4 (fun y1 => K .ret [.bool y1]) (fun y1 => K (.exit 0) [.bool y1]) := by
  unfold w_57_2 at h
  replace h := dCD_spec h
  obtain ⟨x1, vs0, e0, h⟩ := h
  replace h := dCI_spec h
  obtain ⟨x2, vs1, e1, h⟩ := h
  replace h := dCB_spec h
  obtain ⟨x3, vs2, e2, h⟩ := h
  replace h := dCI_spec h
  obtain ⟨x4, vs3, e3, h⟩ := h
  replace h := dCE_spec h
  obtain ⟨e, h⟩ := h
  exact ⟨x1, x2, x3, x4, by rw [e0, e1, e2, e3, e], h⟩
theorem zeok_57_2 (x1 : (List Queued)) (x2 : Int) (x3 : Bool) (x4 : Int) (K : Ex → List (SV env.T) → Prop) : l_57_2 0 x1 x2 x3 x4 (fun y1 => K .ret [.bool y1]) (fun y1 => K (.exit 0) [.bool y1]) = False := by kernel_rfl
theorem ok_57_2 : PieceOk Try.prog env p_57_2 (.loop (loopAt b57 2)) := by
  refine loop_step (Wn := w_57_2) tab (ctxG_ok R26_ok false [] _ _) book_57_2 (pieces_sub pook_57_2_57 (by kernel_rfl)) rfl ?_ 2000 ?_
  · intro vs K h
    obtain ⟨x1, x2, x3, x4, _, h⟩ := wiok_57_2 0 vs K h
    exact Eq.mp (zeok_57_2 x1 x2 x3 x4 K) h
  · intro k vs K h
    obtain ⟨x1, x2, x3, x4, rfl, h⟩ := wiok_57_2 (k + 1) vs K h
    exact Eq.mp (stok_57_2 k x1 x2 x3 x4 K) h
theorem po_57_57 : PiecesOk Try.prog env (ctxG env false [] R26 [(57, [(2, p_57_2)])] []) 57 b57 :=
  pieces_at (L := [(2, p_57_2)]) (S := []) (fun _ => rfl) (fun _ => rfl) (by kernel_rfl) (by kernel_rfl) (List.forall_mem_cons.2 ⟨fun _ => ok_57_2, (fun _ hq => by cases hq)⟩) (fun _ hq => by cases hq)
theorem bo_57 : BodiesOk Try.prog env (ctxG env false [] R26 [(57, [(2, p_57_2)])] []) := bodies_okG (ks := [57]) (by kernel_rfl) (List.forall_mem_cons.2 ⟨body_at (fn := f57) (body := b57) rfl hb57 po_57_57, (fun _ hq => by cases hq)⟩)
theorem eq_57 (x0 : (List Queued)) (x1 : Int) (K : Y57 → Prop) : vcCode env (ctxG env false [] R26 [(57, [(2, p_57_2)])] []) 2000 57 b57 (entry env f57 [v43 x0, v3 x1]) (finR env f57 decR57 K) = B57 x0 x1 K := by kernel_rfl
noncomputable def rule57 : Nat × Rule env := (57, ruleF env decA57 encR57 fun x => V57 x.1 x.2)
theorem r57 : RuleOk Try.prog env 57 rule57.2 :=
  rule_fun tab (ctxG_ok R26_ok false [] _ _) bo_57 (f := 57) (fn := f57) rfl hb57 po_57_57 2000 encA57 hA57 hR57 hD57 (fun _ => of_decide_eq_true (by kernel_rfl)) (fun x K => (eq_57 x.1 x.2 K).trans (by rw [V57_eq]))
noncomputable def R57 : List (Nat × Rule env) := rule57 :: R26
theorem R57_ok : AllOk Try.prog env R57 := ⟨r57, R26_ok⟩
-- 54 queuelab/queuelabref22.Deficit
noncomputable def f54 : Func := Try.f54
noncomputable def b54 : Code := (Try.f54.body).getD .skip
abbrev X54 := Queue × Int
def encA54 (x : X54) : List (SV env.T) := [v28 x.1, v3 x.2]
def decA54 (l : List (SV env.T)) : Option X54 := match l with
  | [s0, s1] => match u28 s0, u3 s1 with
    | some x0, some x1 => some (x0, x1)
    | _, _ => none
  | _ => none
theorem hA54 (l : List (SV env.T)) (x : X54) (h : decA54 l = some x) : WkA env.has l (encA54 x) := by
  unfold decA54 at h; split at h
  · split at h
    · rename_i h0 h1; cases h; exact (.cons (u28_wk h0) (.cons (u3_wk h1) .nil))
    · cases h
  · cases h
abbrev Y54 := Int
def encR54 (x : Y54) : List (SV env.T) := [v3 x]
def decR54 (l : List (SV env.T)) : Option Y54 := match l with
  | [s0] => match u3 s0 with
    | some x0 => some (x0)
    | _ => none
  | _ => none
theorem hR54 (l : List (SV env.T)) (x : Y54) (h : decR54 l = some x) : WkA env.has l (encR54 x) := by
  unfold decR54 at h; split at h
  · split at h
    · rename_i h0; cases h; exact (.cons (u3_wk h0) .nil)
    · cases h
  · cases h
theorem hD54 (y : Y54) : isDataV (tupV (encR54 y)) = true := rfl
theorem hb54 : f54.body = some b54 := by kernel_rfl
noncomputable def B54 : Queue → Int → (Y54 → Prop) → Prop :=
  fun x0 x1 K ↦ br (inb (IntKind.i64.wrap (2 + IntKind.i64.wrap (x1.tdiv 2))) (↑8 : Int)) (br (x1.tmod 2 == 0) (K (IntKind.i64.wrap ((x0.vars.getD (IntKind.i64.wrap (2 + IntKind.i64.wrap (x1.tdiv 2))).toNat 0).tdiv 32768))) (K ((x0.vars.getD (IntKind.i64.wrap (2 + IntKind.i64.wrap (x1.tdiv 2))).toNat 0).tmod 32768))) False
theorem V54_ex : ∃ V : Queue → Int → (Y54 → Prop) → Prop, V = B54 := ⟨_, rfl⟩
noncomputable def V54 : Queue → Int → (Y54 → Prop) → Prop := Classical.choose V54_ex
theorem V54_eq : V54 = B54 := Classical.choose_spec V54_ex
theorem po_54_54 : PiecesOk Try.prog env (ctxG env false [] R57 [] []) 54 b54 :=
  pieces_at (L := []) (S := []) (fun _ => rfl) (fun _ => rfl) (by kernel_rfl) (by kernel_rfl) (fun _ hq => by cases hq) (fun _ hq => by cases hq)
theorem bo_54 : BodiesOk Try.prog env (ctxG env false [] R57 [] []) := bodies_okG (ks := []) (by kernel_rfl) (fun _ hq => by cases hq)
theorem eq_54 (x0 : Queue) (x1 : Int) (K : Y54 → Prop) : vcCode env (ctxG env false [] R57 [] []) 2000 54 b54 (entry env f54 [v28 x0, v3 x1]) (finR env f54 decR54 K) = B54 x0 x1 K := by kernel_rfl
noncomputable def rule54 : Nat × Rule env := (54, ruleF env decA54 encR54 fun x => V54 x.1 x.2)
theorem r54 : RuleOk Try.prog env 54 rule54.2 :=
  rule_fun tab (ctxG_ok R57_ok false [] _ _) bo_54 (f := 54) (fn := f54) rfl hb54 po_54_54 2000 encA54 hA54 hR54 hD54 (fun _ => of_decide_eq_true (by kernel_rfl)) (fun x K => (eq_54 x.1 x.2 K).trans (by rw [V54_eq]))
noncomputable def R54 : List (Nat × Rule env) := rule54 :: R57
theorem R54_ok : AllOk Try.prog env R54 := ⟨r54, R57_ok⟩
-- 27 queuelab/queuelabref22.Many
noncomputable def f27 : Func := Try.f27
noncomputable def b27 : Code := (Try.f27.body).getD .skip
abbrev X27 := Queue
def encA27 (x : X27) : List (SV env.T) := [v28 x]
def decA27 (l : List (SV env.T)) : Option X27 := match l with
  | [s0] => match u28 s0 with
    | some x0 => some (x0)
    | _ => none
  | _ => none
theorem hA27 (l : List (SV env.T)) (x : X27) (h : decA27 l = some x) : WkA env.has l (encA27 x) := by
  unfold decA27 at h; split at h
  · split at h
    · rename_i h0; cases h; exact (.cons (u28_wk h0) .nil)
    · cases h
  · cases h
abbrev Y27 := Int
def encR27 (x : Y27) : List (SV env.T) := [v3 x]
def decR27 (l : List (SV env.T)) : Option Y27 := match l with
  | [s0] => match u3 s0 with
    | some x0 => some (x0)
    | _ => none
  | _ => none
theorem hR27 (l : List (SV env.T)) (x : Y27) (h : decR27 l = some x) : WkA env.has l (encR27 x) := by
  unfold decR27 at h; split at h
  · split at h
    · rename_i h0; cases h; exact (.cons (u3_wk h0) .nil)
    · cases h
  · cases h
theorem hD27 (y : Y27) : isDataV (tupV (encR27 y)) = true := rfl
theorem hb27 : f27.body = some b27 := by kernel_rfl
def l_27_3 : Nat → Int → Int → Int → Int → Int → Int → Int → Int → (List (List Queued)) → (List Int) → Int → (Int → Int → Prop) → Prop
  | 0 => fun _ _ _ _ _ _ _ _ _ _ _ _ => False
  | k + 1 => fun x1 x2 x3 x4 x5 x6 x7 x8 x9 x10 x11 k0 ↦ br (decide (x3 < (↑x9.length : Int))) (br (inb x3 (↑x9.length : Int)) (l_27_3 k x1 (IntKind.i64.wrap (x2 + (↑(List.length (x9.getD x3.toNat (env.d 43))) : Int))) (IntKind.i64.wrap (x3 + 1)) x4 x5 x6 x7 x8 x9 x10 x11 k0) False) (k0 x1 x2)
def w_27_3 (k : Nat) (vs : List (SV env.T)) (K : Ex → List (SV env.T) → Prop) : Prop :=
  dCI .i64 vs fun x1 vs => dCI .i64 vs fun x2 vs => dCI .i64 vs fun x3 vs => dCI .i64 vs fun x4 vs => dCI .i64 vs fun x5 vs => dCI .i64 vs fun x6 vs => dCI .i64 vs fun x7 vs => dCI .i64 vs fun x8 vs => dCD 43 vs fun x9 vs => dCA .i64 8 vs fun x10 vs => dCI .u64 vs fun x11 vs => dCE vs (l_27_3 k x1 x2 x3 x4 x5 x6 x7 x8 x9 x10 x11 (fun y1 y2 => K (.exit 0) [.int .i64 y1, .int .i64 y2]))
def p_27_3 : Piece env := ⟨⟨[.any, .ptr 0 0, .hole, .hole, .hole, .any, .any, .any, .any, .any, .any, .any, .any, .any, .any, .any, .any, .any, .any, .any, .any], [], [(0, .cells 28 [.hole, .hole, .hole, .hole, .hole, .holeD 43, .hole, .hole])], 1⟩, exitF none [(0, ⟨[.any, .any, .hole, .hole, .any, .any, .any, .any, .any, .any, .any, .any, .any, .any, .any, .any, .any, .any, .any, .any, .any], [], [], 0⟩)] none, fun vs K => ∃ k, w_27_3 k vs K⟩
noncomputable def B27 : Queue → (Y27 → Prop) → Prop :=
  fun x0 K ↦ ∃ k2, l_27_3 k2 0 0 0 x0.policy.kind x0.policy.a x0.policy.b x0.policy.c x0.room x0.lists x0.vars x0.seed fun _ ↦ K
theorem V27_ex : ∃ V : Queue → (Y27 → Prop) → Prop, V = B27 := ⟨_, rfl⟩
noncomputable def V27 : Queue → (Y27 → Prop) → Prop := Classical.choose V27_ex
theorem V27_eq : V27 = B27 := Classical.choose_spec V27_ex
theorem pook_27_3_27 : PiecesOk Try.prog env (ctxG env false [] R54 [] []) 27 b27 :=
  pieces_at (L := []) (S := []) (fun _ => rfl) (fun _ => rfl) (by kernel_rfl) (by kernel_rfl) (fun _ hq => by cases hq) (fun _ hq => by cases hq)
theorem book_27_3 : BodiesOk Try.prog env (ctxG env false [] R54 [] []) := bodies_okG (ks := []) (by kernel_rfl) (fun _ hq => by cases hq)
theorem stok_27_3 (k : Nat) (x1 : Int) (x2 : Int) (x3 : Int) (x4 : Int) (x5 : Int) (x6 : Int) (x7 : Int) (x8 : Int) (x9 : (List (List Queued))) (x10 : (List Int)) (x11 : Int) (K : Ex → List (SV env.T) → Prop) : l_27_3 (k + 1) x1 x2 x3 x4 x5 x6 x7 x8 x9 x10 x11 (fun y1 y2 => K (.exit 0) [.int .i64 y1, .int .i64 y2]) = vcCode env (ctxG env false [] R54 [] []) 2000 27 (loopAt b27 3) (insSt p_27_3.head [.int .i64 x1, .int .i64 x2, .int .i64 x3, .int .i64 x4, .int .i64 x5, .int .i64 x6, .int .i64 x7, .int .i64 x8, .dat 43 x9, .arr .i64 8 x10, .int .u64 x11]) (stepK p_27_3 (w_27_3 k) K) := by kernel_rfl
theorem wiok_27_3 (k : Nat) (vs : List (SV env.T)) (K : Ex → List (SV env.T) → Prop) (h : w_27_3 k vs K) : ∃ x1 : Int, ∃ x2 : Int, ∃ x3 : Int, ∃ x4 : Int, ∃ x5 : Int, ∃ x6 : Int, ∃ x7 : Int, ∃ x8 : Int, ∃ x9 : (List (List Queued)), ∃ x10 : (List Int), ∃ x11 : Int, vs = [.int .i64 x1, .int .i64 x2, .int .i64 x3, .int .i64 x4, .int .i64 x5, .int .i64 x6, .int .i64 x7, .int .i64 x8, .dat 43 x9, .arr .i64 8 x10, .int .u64 x11] ∧ l_27_3 k x1 x2 x3 x4 x5 x6 x7 x8 x9 x10 x11 (fun y1 y2 => K (.exit 0) [.int .i64 y1, .int .i64 y2]) := by
  unfold w_27_3 at h
  replace h := dCI_spec h
  obtain ⟨x1, vs0, e0, h⟩ := h
  replace h := dCI_spec h
  obtain ⟨x2, vs1, e1, h⟩ := h
  replace h := dCI_spec h
  obtain ⟨x3, vs2, e2, h⟩ := h
  replace h := dCI_spec h
  obtain ⟨x4, vs3, e3, h⟩ := h
  replace h := dCI_spec h
  obtain ⟨x5, vs4, e4, h⟩ := h
  replace h := dCI_spec h
  obtain ⟨x6, vs5, e5, h⟩ := h
  replace h := dCI_spec h
  obtain ⟨x7, vs6, e6, h⟩ := h
  replace h := dCI_spec h
  obtain ⟨x8, vs7, e7, h⟩ := h
  replace h := dCD_spec h
  obtain ⟨x9, vs8, e8, h⟩ := h
  replace h := dCA_spec h
  obtain ⟨x10, vs9, e9, h⟩ := h
  replace h := dCI_spec h
  obtain ⟨x11, vs10, e10, h⟩ := h
  replace h := dCE_spec h
  obtain ⟨e, h⟩ := h
  exact ⟨x1, x2, x3, x4, x5, x6, x7, x8, x9, x10, x11, by rw [e0, e1, e2, e3, e4, e5, e6, e7, e8, e9, e10, e], h⟩
theorem zeok_27_3 (x1 : Int) (x2 : Int) (x3 : Int) (x4 : Int) (x5 : Int) (x6 : Int) (x7 : Int) (x8 : Int) (x9 : (List (List Queued))) (x10 : (List Int)) (x11 : Int) (K : Ex → List (SV env.T) → Prop) : l_27_3 0 x1 x2 x3 x4 x5 x6 x7 x8 x9 x10 x11 (fun y1 y2 => K (.exit 0) [.int .i64 y1, .int .i64 y2]) = False := by kernel_rfl
theorem ok_27_3 : PieceOk Try.prog env p_27_3 (.loop (loopAt b27 3)) := by
  refine loop_step (Wn := w_27_3) tab (ctxG_ok R54_ok false [] _ _) book_27_3 (pieces_sub pook_27_3_27 (by kernel_rfl)) rfl ?_ 2000 ?_
  · intro vs K h
    obtain ⟨x1, x2, x3, x4, x5, x6, x7, x8, x9, x10, x11, _, h⟩ := wiok_27_3 0 vs K h
    exact Eq.mp (zeok_27_3 x1 x2 x3 x4 x5 x6 x7 x8 x9 x10 x11 K) h
  · intro k vs K h
    obtain ⟨x1, x2, x3, x4, x5, x6, x7, x8, x9, x10, x11, rfl, h⟩ := wiok_27_3 (k + 1) vs K h
    exact Eq.mp (stok_27_3 k x1 x2 x3 x4 x5 x6 x7 x8 x9 x10 x11 K) h
theorem po_27_27 : PiecesOk Try.prog env (ctxG env false [] R54 [(27, [(3, p_27_3)])] []) 27 b27 :=
  pieces_at (L := [(3, p_27_3)]) (S := []) (fun _ => rfl) (fun _ => rfl) (by kernel_rfl) (by kernel_rfl) (List.forall_mem_cons.2 ⟨fun _ => ok_27_3, (fun _ hq => by cases hq)⟩) (fun _ hq => by cases hq)
theorem bo_27 : BodiesOk Try.prog env (ctxG env false [] R54 [(27, [(3, p_27_3)])] []) := bodies_okG (ks := [27]) (by kernel_rfl) (List.forall_mem_cons.2 ⟨body_at (fn := f27) (body := b27) rfl hb27 po_27_27, (fun _ hq => by cases hq)⟩)
theorem eq_27 (x0 : Queue) (K : Y27 → Prop) : vcCode env (ctxG env false [] R54 [(27, [(3, p_27_3)])] []) 2000 27 b27 (entry env f27 [v28 x0]) (finR env f27 decR27 K) = B27 x0 K := by kernel_rfl
noncomputable def rule27 : Nat × Rule env := (27, ruleF env decA27 encR27 fun x => V27 x)
theorem r27 : RuleOk Try.prog env 27 rule27.2 :=
  rule_fun tab (ctxG_ok R54_ok false [] _ _) bo_27 (f := 27) (fn := f27) rfl hb27 po_27_27 2000 encA27 hA27 hR27 hD27 (fun _ => of_decide_eq_true (by kernel_rfl)) (fun x K => (eq_27 x K).trans (by rw [V27_eq]))
noncomputable def R27 : List (Nat × Rule env) := rule27 :: R54
theorem R27_ok : AllOk Try.prog env R27 := ⟨r27, R54_ok⟩
-- 22 queuelab/queuelabref22.Valid
noncomputable def f22 : Func := Try.f22
noncomputable def b22 : Code := (Try.f22.body).getD .skip
abbrev X22 := Queue
def encA22 (x : X22) : List (SV env.T) := [v28 x]
def decA22 (l : List (SV env.T)) : Option X22 := match l with
  | [s0] => match u28 s0 with
    | some x0 => some (x0)
    | _ => none
  | _ => none
theorem hA22 (l : List (SV env.T)) (x : X22) (h : decA22 l = some x) : WkA env.has l (encA22 x) := by
  unfold decA22 at h; split at h
  · split at h
    · rename_i h0; cases h; exact (.cons (u28_wk h0) .nil)
    · cases h
  · cases h
abbrev Y22 := Bool
def encR22 (x : Y22) : List (SV env.T) := [v4 x]
def decR22 (l : List (SV env.T)) : Option Y22 := match l with
  | [s0] => match u4 s0 with
    | some x0 => some (x0)
    | _ => none
  | _ => none
theorem hR22 (l : List (SV env.T)) (x : Y22) (h : decR22 l = some x) : WkA env.has l (encR22 x) := by
  unfold decR22 at h; split at h
  · split at h
    · rename_i h0; cases h; exact (.cons (u4_wk h0) .nil)
    · cases h
  · cases h
theorem hD22 (y : Y22) : isDataV (tupV (encR22 y)) = true := rfl
theorem hb22 : f22.body = some b22 := by kernel_rfl
def l_22_20 : Nat → Bool → Int → (List Queued) → Int → Int → Int → Int → Int → Int → (List (List Queued)) → (List Int) → Int → (Bool → Prop) → (Bool → Int → Int → Int → Int → Int → Int → (List (List Queued)) → (List Int) → Int → Prop) → Prop
  | 0 => fun _ _ _ _ _ _ _ _ _ _ _ _ _ _ => False
  | k + 1 => fun x1 x2 x3 x4 x5 x6 x7 x8 x9 x10 x11 x12 kr k2 ↦ br (decide (x4 < (↑x3.length : Int))) (br (inb x4 (↑x3.length : Int)) (br ((x3.getD x4.toNat (env.d 45)).p.flow != x2) (kr false) (l_22_20 k x1 x2 x3 (IntKind.i64.wrap (x4 + 1)) x5 x6 x7 x8 x9 x10 x11 x12 kr k2)) False) (k2 x1 x2 x5 x6 x7 x8 x9 x10 x11 x12)
def w_22_20 (k : Nat) (vs : List (SV env.T)) (K : Ex → List (SV env.T) → Prop) : Prop :=
  dCB vs fun x1 vs => dCI .i64 vs fun x2 vs => dCD 45 vs fun x3 vs => dCI .i64 vs fun x4 vs => dCI .i64 vs fun x5 vs => dCI .i64 vs fun x6 vs => dCI .i64 vs fun x7 vs => dCI .i64 vs fun x8 vs => dCI .i64 vs fun x9 vs => dCD 43 vs fun x10 vs => dCA .i64 8 vs fun x11 vs => dCI .u64 vs fun x12 vs => dCE vs (l_22_20 k x1 x2 x3 x4 x5 x6 x7 x8 x9 x10 x11 x12 (fun y1 => K .ret [.bool y1]) (fun y1 y2 y3 y4 y5 y6 y7 y8 y9 y10 => K (.exit 2) [.bool y1, .int .i64 y2, .int .i64 y3, .int .i64 y4, .int .i64 y5, .int .i64 y6, .int .i64 y7, .dat 43 y8, .arr .i64 8 y9, .int .u64 y10]))
def p_22_20 : Piece env := ⟨⟨[.any, .ptr 0 0, .hole, .any, .hole, .holeD 45, .any, .any, .any, .hole, .any, .any, .any, .any, .any, .any, .any, .any, .any, .any, .any, .any, .any, .any, .any, .any, .any, .any, .any, .any, .any, .any, .any, .any, .any, .any, .any, .any, .any, .any, .any, .any, .any, .any, .any, .any, .any, .any, .any, .any, .any, .any, .any, .any, .any, .any, .any, .any, .any, .any, .any, .any, .any, .any, .any, .any, .any, .any, .any, .any, .any, .any, .any, .any, .any, .any, .any, .any, .any, .any, .any, .any, .any, .any, .any, .any, .any, .any, .any, .any, .any, .any, .any, .any, .any, .any, .any, .any, .any, .any, .any, .any, .any, .any, .any, .any, .any, .any, .any, .any, .any, .any, .any, .any, .any, .any, .any, .any, .any, .any, .any, .any, .any, .any, .any, .any, .any, .any, .any, .any, .any, .any, .any, .any, .any, .any, .any, .any, .any, .any, .any, .any, .any, .any, .any, .any, .any, .any, .any, .any, .any, .any, .any, .any, .any, .any, .any, .any, .any, .any, .any, .any, .any, .any, .any, .any, .any, .any, .any, .any, .any, .any, .any, .any, .any, .any, .any, .any, .any, .any, .any, .any, .any, .any, .any, .any, .any, .any, .any, .any, .any, .any, .any, .any, .any, .any, .any], [], [(0, .cells 28 [.hole, .hole, .hole, .hole, .hole, .holeD 43, .hole, .hole])], 1⟩, exitF none [(2, ⟨[.any, .ptr 0 0, .hole, .any, .hole, .any, .any, .any, .any, .any, .any, .any, .any, .any, .any, .any, .any, .any, .any, .any, .any, .any, .any, .any, .any, .any, .any, .any, .any, .any, .any, .any, .any, .any, .any, .any, .any, .any, .any, .any, .any, .any, .any, .any, .any, .any, .any, .any, .any, .any, .any, .any, .any, .any, .any, .any, .any, .any, .any, .any, .any, .any, .any, .any, .any, .any, .any, .any, .any, .any, .any, .any, .any, .any, .any, .any, .any, .any, .any, .any, .any, .any, .any, .any, .any, .any, .any, .any, .any, .any, .any, .any, .any, .any, .any, .any, .any, .any, .any, .any, .any, .any, .any, .any, .any, .any, .any, .any, .any, .any, .any, .any, .any, .any, .any, .any, .any, .any, .any, .any, .any, .any, .any, .any, .any, .any, .any, .any, .any, .any, .any, .any, .any, .any, .any, .any, .any, .any, .any, .any, .any, .any, .any, .any, .any, .any, .any, .any, .any, .any, .any, .any, .any, .any, .any, .any, .any, .any, .any, .any, .any, .any, .any, .any, .any, .any, .any, .any, .any, .any, .any, .any, .any, .any, .any, .any, .any, .any, .any, .any, .any, .any, .any, .any, .any, .any, .any, .any, .any, .any, .any, .any, .any, .any, .any, .any, .any], [], [(0, .cells 28 [.hole, .hole, .hole, .hole, .hole, .holeD 43, .hole, .hole])], 1⟩)] (some ⟨[.any, .any, .hole, .any, .any, .any, .any, .any, .any, .any, .any, .any, .any, .any, .any, .any, .any, .any, .any, .any, .any, .any, .any, .any, .any, .any, .any, .any, .any, .any, .any, .any, .any, .any, .any, .any, .any, .any, .any, .any, .any, .any, .any, .any, .any, .any, .any, .any, .any, .any, .any, .any, .any, .any, .any, .any, .any, .any, .any, .any, .any, .any, .any, .any, .any, .any, .any, .any, .any, .any, .any, .any, .any, .any, .any, .any, .any, .any, .any, .any, .any, .any, .any, .any, .any, .any, .any, .any, .any, .any, .any, .any, .any, .any, .any, .any, .any, .any, .any, .any, .any, .any, .any, .any, .any, .any, .any, .any, .any, .any, .any, .any, .any, .any, .any, .any, .any, .any, .any, .any, .any, .any, .any, .any, .any, .any, .any, .any, .any, .any, .any, .any, .any, .any, .any, .any, .any, .any, .any, .any, .any, .any, .any, .any, .any, .any, .any, .any, .any, .any, .any, .any, .any, .any, .any, .any, .any, .any, .any, .any, .any, .any, .any, .any, .any, .any, .any, .any, .any, .any, .any, .any, .any, .any, .any, .any, .any, .any, .any, .any, .any, .any, .any, .any, .any, .any, .any, .any, .any, .any, .any, .any, .any, .any, .any, .any, .any], [], [], 0⟩), fun vs K => ∃ k, w_22_20 k vs K⟩
def s_22_19 : Bool → Int → (List Queued) → Int → Int → Int → Int → Int → (List (List Queued)) → (List Int) → Int → (Bool → Prop) → (Bool → Int → Int → Int → Int → Int → Int → (List (List Queued)) → (List Int) → Int → Prop) → Prop :=
  fun x1 x2 x3 x4 x5 x6 x7 x8 x9 x10 x11 kr kn ↦ ∃ k15, l_22_20 k15 x1 x2 x3 0 x4 x5 x6 x7 x8 x9 x10 x11 kr kn
def v_22_19 (vs : List (SV env.T)) (K : Ex → List (SV env.T) → Prop) : Prop :=
  dCB vs fun x1 vs => dCI .i64 vs fun x2 vs => dCD 45 vs fun x3 vs => dCI .i64 vs fun x4 vs => dCI .i64 vs fun x5 vs => dCI .i64 vs fun x6 vs => dCI .i64 vs fun x7 vs => dCI .i64 vs fun x8 vs => dCD 43 vs fun x9 vs => dCA .i64 8 vs fun x10 vs => dCI .u64 vs fun x11 vs => dCE vs (s_22_19 x1 x2 x3 x4 x5 x6 x7 x8 x9 x10 x11 (fun y1 => K .ret [.bool y1]) (fun y1 y2 y3 y4 y5 y6 y7 y8 y9 y10 => K .normal [.bool y1, .int .i64 y2, .int .i64 y3, .int .i64 y4, .int .i64 y5, .int .i64 y6, .int .i64 y7, .dat 43 y8, .arr .i64 8 y9, .int .u64 y10]))
def q_22_19 : Piece env := ⟨⟨[.any, .ptr 0 0, .hole, .any, .hole, .holeD 45, .any, .any, .any, .any, .any, .any, .any, .any, .any, .any, .any, .any, .any, .any, .any, .any, .any, .any, .any, .any, .any, .any, .any, .any, .any, .any, .any, .any, .any, .any, .any, .any, .any, .any, .any, .any, .any, .any, .any, .any, .any, .any, .any, .any, .any, .any, .any, .any, .any, .any, .any, .any, .any, .any, .any, .any, .any, .any, .any, .any, .any, .any, .any, .any, .any, .any, .any, .any, .any, .any, .any, .any, .any, .any, .any, .any, .any, .any, .any, .any, .any, .any, .any, .any, .any, .any, .any, .any, .any, .any, .any, .any, .any, .any, .any, .any, .any, .any, .any, .any, .any, .any, .any, .any, .any, .any, .any, .any, .any, .any, .any, .any, .any, .any, .any, .any, .any, .any, .any, .any, .any, .any, .any, .any, .any, .any, .any, .any, .any, .any, .any, .any, .any, .any, .any, .any, .any, .any, .any, .any, .any, .any, .any, .any, .any, .any, .any, .any, .any, .any, .any, .any, .any, .any, .any, .any, .any, .any, .any, .any, .any, .any, .any, .any, .any, .any, .any, .any, .any, .any, .any, .any, .any, .any, .any, .any, .any, .any, .any, .any, .any, .any, .any, .any, .any, .any, .any, .any, .any, .any, .any], [], [(0, .cells 28 [.hole, .hole, .hole, .hole, .hole, .holeD 43, .hole, .hole])], 1⟩, exitF (some ⟨[.any, .ptr 0 0, .hole, .any, .hole, .any, .any, .any, .any, .any, .any, .any, .any, .any, .any, .any, .any, .any, .any, .any, .any, .any, .any, .any, .any, .any, .any, .any, .any, .any, .any, .any, .any, .any, .any, .any, .any, .any, .any, .any, .any, .any, .any, .any, .any, .any, .any, .any, .any, .any, .any, .any, .any, .any, .any, .any, .any, .any, .any, .any, .any, .any, .any, .any, .any, .any, .any, .any, .any, .any, .any, .any, .any, .any, .any, .any, .any, .any, .any, .any, .any, .any, .any, .any, .any, .any, .any, .any, .any, .any, .any, .any, .any, .any, .any, .any, .any, .any, .any, .any, .any, .any, .any, .any, .any, .any, .any, .any, .any, .any, .any, .any, .any, .any, .any, .any, .any, .any, .any, .any, .any, .any, .any, .any, .any, .any, .any, .any, .any, .any, .any, .any, .any, .any, .any, .any, .any, .any, .any, .any, .any, .any, .any, .any, .any, .any, .any, .any, .any, .any, .any, .any, .any, .any, .any, .any, .any, .any, .any, .any, .any, .any, .any, .any, .any, .any, .any, .any, .any, .any, .any, .any, .any, .any, .any, .any, .any, .any, .any, .any, .any, .any, .any, .any, .any, .any, .any, .any, .any, .any, .any, .any, .any, .any, .any, .any, .any], [], [(0, .cells 28 [.hole, .hole, .hole, .hole, .hole, .holeD 43, .hole, .hole])], 1⟩) [] (some ⟨[.any, .any, .hole, .any, .any, .any, .any, .any, .any, .any, .any, .any, .any, .any, .any, .any, .any, .any, .any, .any, .any, .any, .any, .any, .any, .any, .any, .any, .any, .any, .any, .any, .any, .any, .any, .any, .any, .any, .any, .any, .any, .any, .any, .any, .any, .any, .any, .any, .any, .any, .any, .any, .any, .any, .any, .any, .any, .any, .any, .any, .any, .any, .any, .any, .any, .any, .any, .any, .any, .any, .any, .any, .any, .any, .any, .any, .any, .any, .any, .any, .any, .any, .any, .any, .any, .any, .any, .any, .any, .any, .any, .any, .any, .any, .any, .any, .any, .any, .any, .any, .any, .any, .any, .any, .any, .any, .any, .any, .any, .any, .any, .any, .any, .any, .any, .any, .any, .any, .any, .any, .any, .any, .any, .any, .any, .any, .any, .any, .any, .any, .any, .any, .any, .any, .any, .any, .any, .any, .any, .any, .any, .any, .any, .any, .any, .any, .any, .any, .any, .any, .any, .any, .any, .any, .any, .any, .any, .any, .any, .any, .any, .any, .any, .any, .any, .any, .any, .any, .any, .any, .any, .any, .any, .any, .any, .any, .any, .any, .any, .any, .any, .any, .any, .any, .any, .any, .any, .any, .any, .any, .any, .any, .any, .any, .any, .any, .any], [], [], 0⟩), v_22_19⟩
def s_22_17 : Bool → Int → (List Queued) → Int → Bool → Int → Int → Int → Int → Int → (List (List Queued)) → (List Int) → Int → (Bool → Prop) → (Bool → Int → Int → Int → Int → Int → Int → (List (List Queued)) → (List Int) → Int → Prop) → Prop :=
  fun x1 x2 x3 x4 x5 x6 x7 x8 x9 x10 x11 x12 x13 kr kn ↦ br (decide ((↑x3.length : Int) > 0)) (br (!x5) (br (inb 0 (↑x3.length : Int)) (br (decide (x4 ≥ (x3.getD 0 (env.d 45)).p.size)) (kr false) (s_22_19 x1 x2 x3 x6 x7 x8 x9 x10 x11 x12 x13 kr kn)) False) (s_22_19 x1 x2 x3 x6 x7 x8 x9 x10 x11 x12 x13 kr kn)) (s_22_19 x1 x2 x3 x6 x7 x8 x9 x10 x11 x12 x13 kr kn)
def v_22_17 (vs : List (SV env.T)) (K : Ex → List (SV env.T) → Prop) : Prop :=
  dCB vs fun x1 vs => dCI .i64 vs fun x2 vs => dCD 45 vs fun x3 vs => dCI .i64 vs fun x4 vs => dCB vs fun x5 vs => dCI .i64 vs fun x6 vs => dCI .i64 vs fun x7 vs => dCI .i64 vs fun x8 vs => dCI .i64 vs fun x9 vs => dCI .i64 vs fun x10 vs => dCD 43 vs fun x11 vs => dCA .i64 8 vs fun x12 vs => dCI .u64 vs fun x13 vs => dCE vs (s_22_17 x1 x2 x3 x4 x5 x6 x7 x8 x9 x10 x11 x12 x13 (fun y1 => K .ret [.bool y1]) (fun y1 y2 y3 y4 y5 y6 y7 y8 y9 y10 => K .normal [.bool y1, .int .i64 y2, .int .i64 y3, .int .i64 y4, .int .i64 y5, .int .i64 y6, .int .i64 y7, .dat 43 y8, .arr .i64 8 y9, .int .u64 y10]))
def q_22_17 : Piece env := ⟨⟨[.any, .ptr 0 0, .hole, .any, .hole, .holeD 45, .any, .hole, .hole, .any, .any, .any, .any, .any, .any, .any, .any, .any, .any, .any, .any, .any, .any, .any, .any, .any, .any, .any, .any, .any, .any, .any, .any, .any, .any, .any, .any, .any, .any, .any, .any, .any, .any, .any, .any, .any, .any, .any, .any, .any, .any, .any, .any, .any, .any, .any, .any, .any, .any, .any, .any, .any, .any, .any, .any, .any, .any, .any, .any, .any, .any, .any, .any, .any, .any, .any, .any, .any, .any, .any, .any, .any, .any, .any, .any, .any, .any, .any, .any, .any, .any, .any, .any, .any, .any, .any, .any, .any, .any, .any, .any, .any, .any, .any, .any, .any, .any, .any, .any, .any, .any, .any, .any, .any, .any, .any, .any, .any, .any, .any, .any, .any, .any, .any, .any, .any, .any, .any, .any, .any, .any, .any, .any, .any, .any, .any, .any, .any, .any, .any, .any, .any, .any, .any, .any, .any, .any, .any, .any, .any, .any, .any, .any, .any, .any, .any, .any, .any, .any, .any, .any, .any, .any, .any, .any, .any, .any, .any, .any, .any, .any, .any, .any, .any, .any, .any, .any, .any, .any, .any, .any, .any, .any, .any, .any, .any, .any, .any, .any, .any, .any, .any, .any, .any, .any, .any, .any], [], [(0, .cells 28 [.hole, .hole, .hole, .hole, .hole, .holeD 43, .hole, .hole])], 1⟩, exitF (some ⟨[.any, .ptr 0 0, .hole, .any, .hole, .any, .any, .any, .any, .any, .any, .any, .any, .any, .any, .any, .any, .any, .any, .any, .any, .any, .any, .any, .any, .any, .any, .any, .any, .any, .any, .any, .any, .any, .any, .any, .any, .any, .any, .any, .any, .any, .any, .any, .any, .any, .any, .any, .any, .any, .any, .any, .any, .any, .any, .any, .any, .any, .any, .any, .any, .any, .any, .any, .any, .any, .any, .any, .any, .any, .any, .any, .any, .any, .any, .any, .any, .any, .any, .any, .any, .any, .any, .any, .any, .any, .any, .any, .any, .any, .any, .any, .any, .any, .any, .any, .any, .any, .any, .any, .any, .any, .any, .any, .any, .any, .any, .any, .any, .any, .any, .any, .any, .any, .any, .any, .any, .any, .any, .any, .any, .any, .any, .any, .any, .any, .any, .any, .any, .any, .any, .any, .any, .any, .any, .any, .any, .any, .any, .any, .any, .any, .any, .any, .any, .any, .any, .any, .any, .any, .any, .any, .any, .any, .any, .any, .any, .any, .any, .any, .any, .any, .any, .any, .any, .any, .any, .any, .any, .any, .any, .any, .any, .any, .any, .any, .any, .any, .any, .any, .any, .any, .any, .any, .any, .any, .any, .any, .any, .any, .any, .any, .any, .any, .any, .any, .any], [], [(0, .cells 28 [.hole, .hole, .hole, .hole, .hole, .holeD 43, .hole, .hole])], 1⟩) [] (some ⟨[.any, .any, .hole, .any, .any, .any, .any, .any, .any, .any, .any, .any, .any, .any, .any, .any, .any, .any, .any, .any, .any, .any, .any, .any, .any, .any, .any, .any, .any, .any, .any, .any, .any, .any, .any, .any, .any, .any, .any, .any, .any, .any, .any, .any, .any, .any, .any, .any, .any, .any, .any, .any, .any, .any, .any, .any, .any, .any, .any, .any, .any, .any, .any, .any, .any, .any, .any, .any, .any, .any, .any, .any, .any, .any, .any, .any, .any, .any, .any, .any, .any, .any, .any, .any, .any, .any, .any, .any, .any, .any, .any, .any, .any, .any, .any, .any, .any, .any, .any, .any, .any, .any, .any, .any, .any, .any, .any, .any, .any, .any, .any, .any, .any, .any, .any, .any, .any, .any, .any, .any, .any, .any, .any, .any, .any, .any, .any, .any, .any, .any, .any, .any, .any, .any, .any, .any, .any, .any, .any, .any, .any, .any, .any, .any, .any, .any, .any, .any, .any, .any, .any, .any, .any, .any, .any, .any, .any, .any, .any, .any, .any, .any, .any, .any, .any, .any, .any, .any, .any, .any, .any, .any, .any, .any, .any, .any, .any, .any, .any, .any, .any, .any, .any, .any, .any, .any, .any, .any, .any, .any, .any, .any, .any, .any, .any, .any, .any], [], [], 0⟩), v_22_17⟩
def s_22_16 : Bool → Int → (List Queued) → Int → Int → Int → Int → Int → Int → (List (List Queued)) → (List Int) → Int → (Bool → Prop) → (Bool → Int → Int → Int → Int → Int → Int → (List (List Queued)) → (List Int) → Int → Prop) → Prop :=
  fun x1 x2 x3 x4 x5 x6 x7 x8 x9 x10 x11 x12 kr kn ↦ br (x11.getD 0 0 == x2) (s_22_17 x1 x2 x3 x4 (x11.getD 1 0 == 1) x5 x6 x7 x8 x9 x10 x11 x12 kr kn) (s_22_17 x1 x2 x3 x4 false x5 x6 x7 x8 x9 x10 x11 x12 kr kn)
def v_22_16 (vs : List (SV env.T)) (K : Ex → List (SV env.T) → Prop) : Prop :=
  dCB vs fun x1 vs => dCI .i64 vs fun x2 vs => dCD 45 vs fun x3 vs => dCI .i64 vs fun x4 vs => dCI .i64 vs fun x5 vs => dCI .i64 vs fun x6 vs => dCI .i64 vs fun x7 vs => dCI .i64 vs fun x8 vs => dCI .i64 vs fun x9 vs => dCD 43 vs fun x10 vs => dCA .i64 8 vs fun x11 vs => dCI .u64 vs fun x12 vs => dCE vs (s_22_16 x1 x2 x3 x4 x5 x6 x7 x8 x9 x10 x11 x12 (fun y1 => K .ret [.bool y1]) (fun y1 y2 y3 y4 y5 y6 y7 y8 y9 y10 => K .normal [.bool y1, .int .i64 y2, .int .i64 y3, .int .i64 y4, .int .i64 y5, .int .i64 y6, .int .i64 y7, .dat 43 y8, .arr .i64 8 y9, .int .u64 y10]))
def q_22_16 : Piece env := ⟨⟨[.any, .ptr 0 0, .hole, .any, .hole, .holeD 45, .any, .hole, .any, .any, .any, .any, .any, .any, .any, .any, .any, .any, .any, .any, .any, .any, .any, .any, .any, .any, .any, .any, .any, .any, .any, .any, .any, .any, .any, .any, .any, .any, .any, .any, .any, .any, .any, .any, .any, .any, .any, .any, .any, .any, .any, .any, .any, .any, .any, .any, .any, .any, .any, .any, .any, .any, .any, .any, .any, .any, .any, .any, .any, .any, .any, .any, .any, .any, .any, .any, .any, .any, .any, .any, .any, .any, .any, .any, .any, .any, .any, .any, .any, .any, .any, .any, .any, .any, .any, .any, .any, .any, .any, .any, .any, .any, .any, .any, .any, .any, .any, .any, .any, .any, .any, .any, .any, .any, .any, .any, .any, .any, .any, .any, .any, .any, .any, .any, .any, .any, .any, .any, .any, .any, .any, .any, .any, .any, .any, .any, .any, .any, .any, .any, .any, .any, .any, .any, .any, .any, .any, .any, .any, .any, .any, .any, .any, .any, .any, .any, .any, .any, .any, .any, .any, .any, .any, .any, .any, .any, .any, .any, .any, .any, .any, .any, .any, .any, .any, .any, .any, .any, .any, .any, .any, .any, .any, .any, .any, .any, .any, .any, .any, .any, .any, .any, .any, .any, .any, .any, .any], [], [(0, .cells 28 [.hole, .hole, .hole, .hole, .hole, .holeD 43, .hole, .hole])], 1⟩, exitF (some ⟨[.any, .ptr 0 0, .hole, .any, .hole, .any, .any, .any, .any, .any, .any, .any, .any, .any, .any, .any, .any, .any, .any, .any, .any, .any, .any, .any, .any, .any, .any, .any, .any, .any, .any, .any, .any, .any, .any, .any, .any, .any, .any, .any, .any, .any, .any, .any, .any, .any, .any, .any, .any, .any, .any, .any, .any, .any, .any, .any, .any, .any, .any, .any, .any, .any, .any, .any, .any, .any, .any, .any, .any, .any, .any, .any, .any, .any, .any, .any, .any, .any, .any, .any, .any, .any, .any, .any, .any, .any, .any, .any, .any, .any, .any, .any, .any, .any, .any, .any, .any, .any, .any, .any, .any, .any, .any, .any, .any, .any, .any, .any, .any, .any, .any, .any, .any, .any, .any, .any, .any, .any, .any, .any, .any, .any, .any, .any, .any, .any, .any, .any, .any, .any, .any, .any, .any, .any, .any, .any, .any, .any, .any, .any, .any, .any, .any, .any, .any, .any, .any, .any, .any, .any, .any, .any, .any, .any, .any, .any, .any, .any, .any, .any, .any, .any, .any, .any, .any, .any, .any, .any, .any, .any, .any, .any, .any, .any, .any, .any, .any, .any, .any, .any, .any, .any, .any, .any, .any, .any, .any, .any, .any, .any, .any, .any, .any, .any, .any, .any, .any], [], [(0, .cells 28 [.hole, .hole, .hole, .hole, .hole, .holeD 43, .hole, .hole])], 1⟩) [] (some ⟨[.any, .any, .hole, .any, .any, .any, .any, .any, .any, .any, .any, .any, .any, .any, .any, .any, .any, .any, .any, .any, .any, .any, .any, .any, .any, .any, .any, .any, .any, .any, .any, .any, .any, .any, .any, .any, .any, .any, .any, .any, .any, .any, .any, .any, .any, .any, .any, .any, .any, .any, .any, .any, .any, .any, .any, .any, .any, .any, .any, .any, .any, .any, .any, .any, .any, .any, .any, .any, .any, .any, .any, .any, .any, .any, .any, .any, .any, .any, .any, .any, .any, .any, .any, .any, .any, .any, .any, .any, .any, .any, .any, .any, .any, .any, .any, .any, .any, .any, .any, .any, .any, .any, .any, .any, .any, .any, .any, .any, .any, .any, .any, .any, .any, .any, .any, .any, .any, .any, .any, .any, .any, .any, .any, .any, .any, .any, .any, .any, .any, .any, .any, .any, .any, .any, .any, .any, .any, .any, .any, .any, .any, .any, .any, .any, .any, .any, .any, .any, .any, .any, .any, .any, .any, .any, .any, .any, .any, .any, .any, .any, .any, .any, .any, .any, .any, .any, .any, .any, .any, .any, .any, .any, .any, .any, .any, .any, .any, .any, .any, .any, .any, .any, .any, .any, .any, .any, .any, .any, .any, .any, .any, .any, .any, .any, .any, .any, .any], [], [], 0⟩), v_22_16⟩
def l_22_9 : Nat → Bool → Int → Int → Int → Int → Int → Int → (List (List Queued)) → (List Int) → Int → (Bool → Prop) → (Bool → Int → Int → Int → Int → Int → (List (List Queued)) → (List Int) → Int → Prop) → Prop
  | 0 => fun _ _ _ _ _ _ _ _ _ _ _ _ => False
  | k + 1 => fun x1 x2 x3 x4 x5 x6 x7 x8 x9 x10 kr k0 ↦ br (decide (x2 < 8)) (br (inb x2 (↑x8.length : Int)) (V57 (x8.getD x2.toNat (env.d 43)) (x9.getD 7 0) fun y14 ↦ V54 (Queue.mk (Policy.mk x3 x4 x5 x6) x7 x8 x9 x10) x2 fun y15 ↦ br (!y14) (kr false) (br (inb (IntKind.i64.wrap (2 + IntKind.i64.wrap (x2.tdiv 2))) (↑8 : Int)) (br (decide (x9.getD (IntKind.i64.wrap (2 + IntKind.i64.wrap (x2.tdiv 2))).toNat 0 < 0)) (kr false) (br (decide (y15 > 19999)) (kr false) (br ((↑(List.length (x8.getD x2.toNat (env.d 43))) : Int) == 0) (br (y15 != 0) (kr false) (s_22_16 x1 x2 (x8.getD x2.toNat (env.d 43)) y15 x3 x4 x5 x6 x7 x8 x9 x10 kr fun y16 y17 y18 y19 y20 y21 y22 y23 y24 y25 ↦ l_22_9 k y16 (IntKind.i64.wrap (y17 + 1)) y18 y19 y20 y21 y22 y23 y24 y25 kr k0)) (s_22_16 x1 x2 (x8.getD x2.toNat (env.d 43)) y15 x3 x4 x5 x6 x7 x8 x9 x10 kr fun y16 y17 y18 y19 y20 y21 y22 y23 y24 y25 ↦ l_22_9 k y16 (IntKind.i64.wrap (y17 + 1)) y18 y19 y20 y21 y22 y23 y24 y25 kr k0)))) False)) False) (k0 x1 x3 x4 x5 x6 x7 x8 x9 x10)
def w_22_9 (k : Nat) (vs : List (SV env.T)) (K : Ex → List (SV env.T) → Prop) : Prop :=
  dCB vs fun x1 vs => dCI .i64 vs fun x2 vs => dCI .i64 vs fun x3 vs => dCI .i64 vs fun x4 vs => dCI .i64 vs fun x5 vs => dCI .i64 vs fun x6 vs => dCI .i64 vs fun x7 vs => dCD 43 vs fun x8 vs => dCA .i64 8 vs fun x9 vs => dCI .u64 vs fun x10 vs => dCE vs (l_22_9 k x1 x2 x3 x4 x5 x6 x7 x8 x9 x10 (fun y1 => K .ret [.bool y1]) (fun y1 y2 y3 y4 y5 y6 y7 y8 y9 => K (.exit 0) [.bool y1, .int .i64 y2, .int .i64 y3, .int .i64 y4, .int .i64 y5, .int .i64 y6, .dat 43 y7, .arr .i64 8 y8, .int .u64 y9]))
def p_22_9 : Piece env := ⟨⟨[.any, .ptr 0 0, .hole, .any, .hole, .any, .any, .any, .any, .any, .any, .any, .any, .any, .any, .any, .any, .any, .any, .any, .any, .any, .any, .any, .any, .any, .any, .any, .any, .any, .any, .any, .any, .any, .any, .any, .any, .any, .any, .any, .any, .any, .any, .any, .any, .any, .any, .any, .any, .any, .any, .any, .any, .any, .any, .any, .any, .any, .any, .any, .any, .any, .any, .any, .any, .any, .any, .any, .any, .any, .any, .any, .any, .any, .any, .any, .any, .any, .any, .any, .any, .any, .any, .any, .any, .any, .any, .any, .any, .any, .any, .any, .any, .any, .any, .any, .any, .any, .any, .any, .any, .any, .any, .any, .any, .any, .any, .any, .any, .any, .any, .any, .any, .any, .any, .any, .any, .any, .any, .any, .any, .any, .any, .any, .any, .any, .any, .any, .any, .any, .any, .any, .any, .any, .any, .any, .any, .any, .any, .any, .any, .any, .any, .any, .any, .any, .any, .any, .any, .any, .any, .any, .any, .any, .any, .any, .any, .any, .any, .any, .any, .any, .any, .any, .any, .any, .any, .any, .any, .any, .any, .any, .any, .any, .any, .any, .any, .any, .any, .any, .any, .any, .any, .any, .any, .any, .any, .any, .any, .any, .any, .any, .any, .any, .any, .any, .any], [], [(0, .cells 28 [.hole, .hole, .hole, .hole, .hole, .holeD 43, .hole, .hole])], 1⟩, exitF none [(0, ⟨[.any, .ptr 0 0, .hole, .any, .any, .any, .any, .any, .any, .any, .any, .any, .any, .any, .any, .any, .any, .any, .any, .any, .any, .any, .any, .any, .any, .any, .any, .any, .any, .any, .any, .any, .any, .any, .any, .any, .any, .any, .any, .any, .any, .any, .any, .any, .any, .any, .any, .any, .any, .any, .any, .any, .any, .any, .any, .any, .any, .any, .any, .any, .any, .any, .any, .any, .any, .any, .any, .any, .any, .any, .any, .any, .any, .any, .any, .any, .any, .any, .any, .any, .any, .any, .any, .any, .any, .any, .any, .any, .any, .any, .any, .any, .any, .any, .any, .any, .any, .any, .any, .any, .any, .any, .any, .any, .any, .any, .any, .any, .any, .any, .any, .any, .any, .any, .any, .any, .any, .any, .any, .any, .any, .any, .any, .any, .any, .any, .any, .any, .any, .any, .any, .any, .any, .any, .any, .any, .any, .any, .any, .any, .any, .any, .any, .any, .any, .any, .any, .any, .any, .any, .any, .any, .any, .any, .any, .any, .any, .any, .any, .any, .any, .any, .any, .any, .any, .any, .any, .any, .any, .any, .any, .any, .any, .any, .any, .any, .any, .any, .any, .any, .any, .any, .any, .any, .any, .any, .any, .any, .any, .any, .any, .any, .any, .any, .any, .any, .any], [], [(0, .cells 28 [.hole, .hole, .hole, .hole, .hole, .holeD 43, .hole, .hole])], 1⟩)] (some ⟨[.any, .any, .hole, .any, .any, .any, .any, .any, .any, .any, .any, .any, .any, .any, .any, .any, .any, .any, .any, .any, .any, .any, .any, .any, .any, .any, .any, .any, .any, .any, .any, .any, .any, .any, .any, .any, .any, .any, .any, .any, .any, .any, .any, .any, .any, .any, .any, .any, .any, .any, .any, .any, .any, .any, .any, .any, .any, .any, .any, .any, .any, .any, .any, .any, .any, .any, .any, .any, .any, .any, .any, .any, .any, .any, .any, .any, .any, .any, .any, .any, .any, .any, .any, .any, .any, .any, .any, .any, .any, .any, .any, .any, .any, .any, .any, .any, .any, .any, .any, .any, .any, .any, .any, .any, .any, .any, .any, .any, .any, .any, .any, .any, .any, .any, .any, .any, .any, .any, .any, .any, .any, .any, .any, .any, .any, .any, .any, .any, .any, .any, .any, .any, .any, .any, .any, .any, .any, .any, .any, .any, .any, .any, .any, .any, .any, .any, .any, .any, .any, .any, .any, .any, .any, .any, .any, .any, .any, .any, .any, .any, .any, .any, .any, .any, .any, .any, .any, .any, .any, .any, .any, .any, .any, .any, .any, .any, .any, .any, .any, .any, .any, .any, .any, .any, .any, .any, .any, .any, .any, .any, .any, .any, .any, .any, .any, .any, .any], [], [], 0⟩), fun vs K => ∃ k, w_22_9 k vs K⟩
def s_22_8 : Bool → Int → Int → Int → Int → Int → (List (List Queued)) → (List Int) → Int → (Bool → Prop) → Prop :=
  fun x1 x2 x3 x4 x5 x6 x7 x8 x9 kr ↦ ∃ k12, l_22_9 k12 x1 0 x2 x3 x4 x5 x6 x7 x8 x9 kr fun _ y14 y15 y16 y17 y18 y19 y20 y21 ↦ ∃ k22, (V27 (Queue.mk (Policy.mk y14 y15 y16 y17) y18 y19 y20 y21) fun y23 ↦ tupV (encR27 y23) = tupV (encR27 k22)) ∧ kr (decide (k22 ≤ y18))
def v_22_8 (vs : List (SV env.T)) (K : Ex → List (SV env.T) → Prop) : Prop :=
  dCB vs fun x1 vs => dCI .i64 vs fun x2 vs => dCI .i64 vs fun x3 vs => dCI .i64 vs fun x4 vs => dCI .i64 vs fun x5 vs => dCI .i64 vs fun x6 vs => dCD 43 vs fun x7 vs => dCA .i64 8 vs fun x8 vs => dCI .u64 vs fun x9 vs => dCE vs (s_22_8 x1 x2 x3 x4 x5 x6 x7 x8 x9 (fun y1 => K .ret [.bool y1]))
def q_22_8 : Piece env := ⟨⟨[.any, .ptr 0 0, .hole, .any, .any, .any, .any, .any, .any, .any, .any, .any, .any, .any, .any, .any, .any, .any, .any, .any, .any, .any, .any, .any, .any, .any, .any, .any, .any, .any, .any, .any, .any, .any, .any, .any, .any, .any, .any, .any, .any, .any, .any, .any, .any, .any, .any, .any, .any, .any, .any, .any, .any, .any, .any, .any, .any, .any, .any, .any, .any, .any, .any, .any, .any, .any, .any, .any, .any, .any, .any, .any, .any, .any, .any, .any, .any, .any, .any, .any, .any, .any, .any, .any, .any, .any, .any, .any, .any, .any, .any, .any, .any, .any, .any, .any, .any, .any, .any, .any, .any, .any, .any, .any, .any, .any, .any, .any, .any, .any, .any, .any, .any, .any, .any, .any, .any, .any, .any, .any, .any, .any, .any, .any, .any, .any, .any, .any, .any, .any, .any, .any, .any, .any, .any, .any, .any, .any, .any, .any, .any, .any, .any, .any, .any, .any, .any, .any, .any, .any, .any, .any, .any, .any, .any, .any, .any, .any, .any, .any, .any, .any, .any, .any, .any, .any, .any, .any, .any, .any, .any, .any, .any, .any, .any, .any, .any, .any, .any, .any, .any, .any, .any, .any, .any, .any, .any, .any, .any, .any, .any, .any, .any, .any, .any, .any, .any], [], [(0, .cells 28 [.hole, .hole, .hole, .hole, .hole, .holeD 43, .hole, .hole])], 1⟩, exitF none [] (some ⟨[.any, .any, .hole, .any, .any, .any, .any, .any, .any, .any, .any, .any, .any, .any, .any, .any, .any, .any, .any, .any, .any, .any, .any, .any, .any, .any, .any, .any, .any, .any, .any, .any, .any, .any, .any, .any, .any, .any, .any, .any, .any, .any, .any, .any, .any, .any, .any, .any, .any, .any, .any, .any, .any, .any, .any, .any, .any, .any, .any, .any, .any, .any, .any, .any, .any, .any, .any, .any, .any, .any, .any, .any, .any, .any, .any, .any, .any, .any, .any, .any, .any, .any, .any, .any, .any, .any, .any, .any, .any, .any, .any, .any, .any, .any, .any, .any, .any, .any, .any, .any, .any, .any, .any, .any, .any, .any, .any, .any, .any, .any, .any, .any, .any, .any, .any, .any, .any, .any, .any, .any, .any, .any, .any, .any, .any, .any, .any, .any, .any, .any, .any, .any, .any, .any, .any, .any, .any, .any, .any, .any, .any, .any, .any, .any, .any, .any, .any, .any, .any, .any, .any, .any, .any, .any, .any, .any, .any, .any, .any, .any, .any, .any, .any, .any, .any, .any, .any, .any, .any, .any, .any, .any, .any, .any, .any, .any, .any, .any, .any, .any, .any, .any, .any, .any, .any, .any, .any, .any, .any, .any, .any, .any, .any, .any, .any, .any, .any], [], [], 0⟩), v_22_8⟩
def s_22_6 : Bool → Int → Int → Int → Int → Int → (List (List Queued)) → (List Int) → Int → (Bool → Prop) → Prop :=
  fun x1 x2 x3 x4 x5 x6 x7 x8 x9 kr ↦ br (x8.getD 1 0 == 1) (br (inb (x8.getD 0 0) (↑x7.length : Int)) (br ((↑(List.length (x7.getD (x8.getD 0 0).toNat (env.d 43))) : Int) == 0) (kr false) (s_22_8 x1 x2 x3 x4 x5 x6 x7 x8 x9 kr)) False) (s_22_8 x1 x2 x3 x4 x5 x6 x7 x8 x9 kr)
def v_22_6 (vs : List (SV env.T)) (K : Ex → List (SV env.T) → Prop) : Prop :=
  dCB vs fun x1 vs => dCI .i64 vs fun x2 vs => dCI .i64 vs fun x3 vs => dCI .i64 vs fun x4 vs => dCI .i64 vs fun x5 vs => dCI .i64 vs fun x6 vs => dCD 43 vs fun x7 vs => dCA .i64 8 vs fun x8 vs => dCI .u64 vs fun x9 vs => dCE vs (s_22_6 x1 x2 x3 x4 x5 x6 x7 x8 x9 (fun y1 => K .ret [.bool y1]))
def q_22_6 : Piece env := ⟨⟨[.any, .ptr 0 0, .hole, .any, .any, .any, .any, .any, .any, .any, .any, .any, .any, .any, .any, .any, .any, .any, .any, .any, .any, .any, .any, .any, .any, .any, .any, .any, .any, .any, .any, .any, .any, .any, .any, .any, .any, .any, .any, .any, .any, .any, .any, .any, .any, .any, .any, .any, .any, .any, .any, .any, .any, .any, .any, .any, .any, .any, .any, .any, .any, .any, .any, .any, .any, .any, .any, .any, .any, .any, .any, .any, .any, .any, .any, .any, .any, .any, .any, .any, .any, .any, .any, .any, .any, .any, .any, .any, .any, .any, .any, .any, .any, .any, .any, .any, .any, .any, .any, .any, .any, .any, .any, .any, .any, .any, .any, .any, .any, .any, .any, .any, .any, .any, .any, .any, .any, .any, .any, .any, .any, .any, .any, .any, .any, .any, .any, .any, .any, .any, .any, .any, .any, .any, .any, .any, .any, .any, .any, .any, .any, .any, .any, .any, .any, .any, .any, .any, .any, .any, .any, .any, .any, .any, .any, .any, .any, .any, .any, .any, .any, .any, .any, .any, .any, .any, .any, .any, .any, .any, .any, .any, .any, .any, .any, .any, .any, .any, .any, .any, .any, .any, .any, .any, .any, .any, .any, .any, .any, .any, .any, .any, .any, .any, .any, .any, .any], [], [(0, .cells 28 [.hole, .hole, .hole, .hole, .hole, .holeD 43, .hole, .hole])], 1⟩, exitF none [] (some ⟨[.any, .any, .hole, .any, .any, .any, .any, .any, .any, .any, .any, .any, .any, .any, .any, .any, .any, .any, .any, .any, .any, .any, .any, .any, .any, .any, .any, .any, .any, .any, .any, .any, .any, .any, .any, .any, .any, .any, .any, .any, .any, .any, .any, .any, .any, .any, .any, .any, .any, .any, .any, .any, .any, .any, .any, .any, .any, .any, .any, .any, .any, .any, .any, .any, .any, .any, .any, .any, .any, .any, .any, .any, .any, .any, .any, .any, .any, .any, .any, .any, .any, .any, .any, .any, .any, .any, .any, .any, .any, .any, .any, .any, .any, .any, .any, .any, .any, .any, .any, .any, .any, .any, .any, .any, .any, .any, .any, .any, .any, .any, .any, .any, .any, .any, .any, .any, .any, .any, .any, .any, .any, .any, .any, .any, .any, .any, .any, .any, .any, .any, .any, .any, .any, .any, .any, .any, .any, .any, .any, .any, .any, .any, .any, .any, .any, .any, .any, .any, .any, .any, .any, .any, .any, .any, .any, .any, .any, .any, .any, .any, .any, .any, .any, .any, .any, .any, .any, .any, .any, .any, .any, .any, .any, .any, .any, .any, .any, .any, .any, .any, .any, .any, .any, .any, .any, .any, .any, .any, .any, .any, .any, .any, .any, .any, .any, .any, .any], [], [], 0⟩), v_22_6⟩
def s_22_3 : Bool → Int → Int → Int → Int → Int → (List (List Queued)) → (List Int) → Int → (Bool → Prop) → Prop :=
  fun x1 x2 x3 x4 x5 x6 x7 x8 x9 kr ↦ V29 (x8.getD 7 0) fun y12 ↦ br (!y12) (kr false) (br (decide (x8.getD 0 0 < 0)) (kr false) (br (decide (x8.getD 0 0 > 7)) (kr false) (br (decide (x8.getD 1 0 < 0)) (kr false) (br (decide (x8.getD 1 0 > 1)) (kr false) (s_22_6 x1 x2 x3 x4 x5 x6 x7 x8 x9 kr)))))
def v_22_3 (vs : List (SV env.T)) (K : Ex → List (SV env.T) → Prop) : Prop :=
  dCB vs fun x1 vs => dCI .i64 vs fun x2 vs => dCI .i64 vs fun x3 vs => dCI .i64 vs fun x4 vs => dCI .i64 vs fun x5 vs => dCI .i64 vs fun x6 vs => dCD 43 vs fun x7 vs => dCA .i64 8 vs fun x8 vs => dCI .u64 vs fun x9 vs => dCE vs (s_22_3 x1 x2 x3 x4 x5 x6 x7 x8 x9 (fun y1 => K .ret [.bool y1]))
def q_22_3 : Piece env := ⟨⟨[.any, .ptr 0 0, .hole, .any, .any, .any, .any, .any, .any, .any, .any, .any, .any, .any, .any, .any, .any, .any, .any, .any, .any, .any, .any, .any, .any, .any, .any, .any, .any, .any, .any, .any, .any, .any, .any, .any, .any, .any, .any, .any, .any, .any, .any, .any, .any, .any, .any, .any, .any, .any, .any, .any, .any, .any, .any, .any, .any, .any, .any, .any, .any, .any, .any, .any, .any, .any, .any, .any, .any, .any, .any, .any, .any, .any, .any, .any, .any, .any, .any, .any, .any, .any, .any, .any, .any, .any, .any, .any, .any, .any, .any, .any, .any, .any, .any, .any, .any, .any, .any, .any, .any, .any, .any, .any, .any, .any, .any, .any, .any, .any, .any, .any, .any, .any, .any, .any, .any, .any, .any, .any, .any, .any, .any, .any, .any, .any, .any, .any, .any, .any, .any, .any, .any, .any, .any, .any, .any, .any, .any, .any, .any, .any, .any, .any, .any, .any, .any, .any, .any, .any, .any, .any, .any, .any, .any, .any, .any, .any, .any, .any, .any, .any, .any, .any, .any, .any, .any, .any, .any, .any, .any, .any, .any, .any, .any, .any, .any, .any, .any, .any, .any, .any, .any, .any, .any, .any, .any, .any, .any, .any, .any, .any, .any, .any, .any, .any, .any], [], [(0, .cells 28 [.hole, .hole, .hole, .hole, .hole, .holeD 43, .hole, .hole])], 1⟩, exitF none [] (some ⟨[.any, .any, .hole, .any, .any, .any, .any, .any, .any, .any, .any, .any, .any, .any, .any, .any, .any, .any, .any, .any, .any, .any, .any, .any, .any, .any, .any, .any, .any, .any, .any, .any, .any, .any, .any, .any, .any, .any, .any, .any, .any, .any, .any, .any, .any, .any, .any, .any, .any, .any, .any, .any, .any, .any, .any, .any, .any, .any, .any, .any, .any, .any, .any, .any, .any, .any, .any, .any, .any, .any, .any, .any, .any, .any, .any, .any, .any, .any, .any, .any, .any, .any, .any, .any, .any, .any, .any, .any, .any, .any, .any, .any, .any, .any, .any, .any, .any, .any, .any, .any, .any, .any, .any, .any, .any, .any, .any, .any, .any, .any, .any, .any, .any, .any, .any, .any, .any, .any, .any, .any, .any, .any, .any, .any, .any, .any, .any, .any, .any, .any, .any, .any, .any, .any, .any, .any, .any, .any, .any, .any, .any, .any, .any, .any, .any, .any, .any, .any, .any, .any, .any, .any, .any, .any, .any, .any, .any, .any, .any, .any, .any, .any, .any, .any, .any, .any, .any, .any, .any, .any, .any, .any, .any, .any, .any, .any, .any, .any, .any, .any, .any, .any, .any, .any, .any, .any, .any, .any, .any, .any, .any, .any, .any, .any, .any, .any, .any], [], [], 0⟩), v_22_3⟩
noncomputable def B22 : Queue → (Y22 → Prop) → Prop :=
  fun x0 K ↦ br (x0.policy.kind != 5) (K false) (br (decide (x0.policy.a < 100)) (K false) (br (decide (x0.policy.a > 10000)) (K false) (br (x0.policy.b != 0) (K false) (br (x0.policy.c != 0) (K false) (br (decide (x0.room < 1)) (K false) (br (decide (x0.room > 500)) (K false) (br ((↑x0.lists.length : Int) != 8) (K false) (br (x0.seed != 0) (K false) (br (x0.vars.getD 6 0 != 0) (K false) (s_22_3 false x0.policy.kind x0.policy.a x0.policy.b x0.policy.c x0.room x0.lists x0.vars x0.seed K))))))))))
theorem V22_ex : ∃ V : Queue → (Y22 → Prop) → Prop, V = B22 := ⟨_, rfl⟩
noncomputable def V22 : Queue → (Y22 → Prop) → Prop := Classical.choose V22_ex
theorem V22_eq : V22 = B22 := Classical.choose_spec V22_ex
theorem pook_22_20_22 : PiecesOk Try.prog env (ctxG env false [] R27 [] []) 22 b22 :=
  pieces_at (L := []) (S := []) (fun _ => rfl) (fun _ => rfl) (by kernel_rfl) (by kernel_rfl) (fun _ hq => by cases hq) (fun _ hq => by cases hq)
theorem book_22_20 : BodiesOk Try.prog env (ctxG env false [] R27 [] []) := bodies_okG (ks := []) (by kernel_rfl) (fun _ hq => by cases hq)
theorem stok_22_20 (k : Nat) (x1 : Bool) (x2 : Int) (x3 : (List Queued)) (x4 : Int) (x5 : Int) (x6 : Int) (x7 : Int) (x8 : Int) (x9 : Int) (x10 : (List (List Queued))) (x11 : (List Int)) (x12 : Int) (K : Ex → List (SV env.T) → Prop) : l_22_20 (k + 1) x1 x2 x3 x4 x5 x6 x7 x8 x9 x10 x11 x12 (fun y1 => K .ret [.bool y1]) (fun y1 y2 y3 y4 y5 y6 y7 y8 y9 y10 => K (.exit 2) [.bool y1, .int .i64 y2, .int .i64 y3, .int .i64 y4, .int .i64 y5, .int .i64 y6, .int .i64 y7, .dat 43 y8, .arr .i64 8 y9, .int .u64 y10]) = vcCode env (ctxG env false [] R27 [] []) 2000 22 (loopAt b22 20) (insSt p_22_20.head [.bool x1, .int .i64 x2, .dat 45 x3, .int .i64 x4, .int .i64 x5, .int .i64 x6, .int .i64 x7, .int .i64 x8, .int .i64 x9, .dat 43 x10, .arr .i64 8 x11, .int .u64 x12]) (stepK p_22_20 (w_22_20 k) K) := by kernel_rfl
theorem wiok_22_20 (k : Nat) (vs : List (SV env.T)) (K : Ex → List (SV env.T) → Prop) (h : w_22_20 k vs K) : ∃ x1 : Bool, ∃ x2 : Int, ∃ x3 : (List Queued), ∃ x4 : Int, ∃ x5 : Int, ∃ x6 : Int, ∃ x7 : Int, ∃ x8 : Int, ∃ x9 : Int, ∃ x10 : (List (List Queued)), ∃ x11 : (List Int), ∃ x12 : Int, vs = [.bool x1, .int .i64 x2, .dat 45 x3, .int .i64 x4, .int .i64 x5, .int .i64 x6, .int .i64 x7, .int .i64 x8, .int .i64 x9, .dat 43 x10, .arr .i64 8 x11, .int .u64 x12] ∧ l_22_20 k x1 x2 x3 x4 x5 x6 x7 x8 x9 x10 x11 x12 (fun y1 => K .ret [.bool y1]) (fun y1 y2 y3 y4 y5 y6 y7 y8 y9 y10 => K (.exit 2) [.bool y1, .int .i64 y2, .int .i64 y3, .int .i64 y4, .int .i64 y5, .int .i64 y6, .int .i64 y7, .dat 43 y8, .arr .i64 8 y9, .int .u64 y10]) := by
  unfold w_22_20 at h
  replace h := dCB_spec h
  obtain ⟨x1, vs0, e0, h⟩ := h
  replace h := dCI_spec h
  obtain ⟨x2, vs1, e1, h⟩ := h
  replace h := dCD_spec h
  obtain ⟨x3, vs2, e2, h⟩ := h
  replace h := dCI_spec h
  obtain ⟨x4, vs3, e3, h⟩ := h
  replace h := dCI_spec h
  obtain ⟨x5, vs4, e4, h⟩ := h
  replace h := dCI_spec h
  obtain ⟨x6, vs5, e5, h⟩ := h
  replace h := dCI_spec h
  obtain ⟨x7, vs6, e6, h⟩ := h
  replace h := dCI_spec h
  obtain ⟨x8, vs7, e7, h⟩ := h
  replace h := dCI_spec h
  obtain ⟨x9, vs8, e8, h⟩ := h
  replace h := dCD_spec h
  obtain ⟨x10, vs9, e9, h⟩ := h
  replace h := dCA_spec h
  obtain ⟨x11, vs10, e10, h⟩ := h
  replace h := dCI_spec h
  obtain ⟨x12, vs11, e11, h⟩ := h
  replace h := dCE_spec h
  obtain ⟨e, h⟩ := h
  exact ⟨x1, x2, x3, x4, x5, x6, x7, x8, x9, x10, x11, x12, by rw [e0, e1, e2, e3, e4, e5, e6, e7, e8, e9, e10, e11, e], h⟩
theorem zeok_22_20 (x1 : Bool) (x2 : Int) (x3 : (List Queued)) (x4 : Int) (x5 : Int) (x6 : Int) (x7 : Int) (x8 : Int) (x9 : Int) (x10 : (List (List Queued))) (x11 : (List Int)) (x12 : Int) (K : Ex → List (SV env.T) → Prop) : l_22_20 0 x1 x2 x3 x4 x5 x6 x7 x8 x9 x10 x11 x12 (fun y1 => K .ret [.bool y1]) (fun y1 y2 y3 y4 y5 y6 y7 y8 y9 y10 => K (.exit 2) [.bool y1, .int .i64 y2, .int .i64 y3, .int .i64 y4, .int .i64 y5, .int .i64 y6, .int .i64 y7, .dat 43 y8, .arr .i64 8 y9, .int .u64 y10]) = False := by kernel_rfl
theorem ok_22_20 : PieceOk Try.prog env p_22_20 (.loop (loopAt b22 20)) := by
  refine loop_step (Wn := w_22_20) tab (ctxG_ok R27_ok false [] _ _) book_22_20 (pieces_sub pook_22_20_22 (by kernel_rfl)) rfl ?_ 2000 ?_
  · intro vs K h
    obtain ⟨x1, x2, x3, x4, x5, x6, x7, x8, x9, x10, x11, x12, _, h⟩ := wiok_22_20 0 vs K h
    exact Eq.mp (zeok_22_20 x1 x2 x3 x4 x5 x6 x7 x8 x9 x10 x11 x12 K) h
  · intro k vs K h
    obtain ⟨x1, x2, x3, x4, x5, x6, x7, x8, x9, x10, x11, x12, rfl, h⟩ := wiok_22_20 (k + 1) vs K h
    exact Eq.mp (stok_22_20 k x1 x2 x3 x4 x5 x6 x7 x8 x9 x10 x11 x12 K) h
theorem pooq_22_19_22 : PiecesOk Try.prog env (ctxG env false [] R27 [(22, [(20, p_22_20)])] []) 22 b22 :=
  pieces_at (L := [(20, p_22_20)]) (S := []) (fun _ => rfl) (fun _ => rfl) (by kernel_rfl) (by kernel_rfl) (List.forall_mem_cons.2 ⟨fun _ => ok_22_20, (fun _ hq => by cases hq)⟩) (fun _ hq => by cases hq)
theorem booq_22_19 : BodiesOk Try.prog env (ctxG env false [] R27 [(22, [(20, p_22_20)])] []) := bodies_okG (ks := [22]) (by kernel_rfl) (List.forall_mem_cons.2 ⟨body_at (fn := f22) (body := b22) rfl hb22 pooq_22_19_22, (fun _ hq => by cases hq)⟩)
theorem stoq_22_19 (x1 : Bool) (x2 : Int) (x3 : (List Queued)) (x4 : Int) (x5 : Int) (x6 : Int) (x7 : Int) (x8 : Int) (x9 : (List (List Queued))) (x10 : (List Int)) (x11 : Int) (K : Ex → List (SV env.T) → Prop) : s_22_19  x1 x2 x3 x4 x5 x6 x7 x8 x9 x10 x11 (fun y1 => K .ret [.bool y1]) (fun y1 y2 y3 y4 y5 y6 y7 y8 y9 y10 => K .normal [.bool y1, .int .i64 y2, .int .i64 y3, .int .i64 y4, .int .i64 y5, .int .i64 y6, .int .i64 y7, .dat 43 y8, .arr .i64 8 y9, .int .u64 y10]) = vcCode env (ctxG env false [] R27 [(22, [(20, p_22_20)])] []) 2000 22 (seqAt b22 19) (insSt q_22_19.head [.bool x1, .int .i64 x2, .dat 45 x3, .int .i64 x4, .int .i64 x5, .int .i64 x6, .int .i64 x7, .int .i64 x8, .dat 43 x9, .arr .i64 8 x10, .int .u64 x11]) (outP env q_22_19 K) := by kernel_rfl
theorem wioq_22_19 (vs : List (SV env.T)) (K : Ex → List (SV env.T) → Prop) (h : v_22_19 vs K) : ∃ x1 : Bool, ∃ x2 : Int, ∃ x3 : (List Queued), ∃ x4 : Int, ∃ x5 : Int, ∃ x6 : Int, ∃ x7 : Int, ∃ x8 : Int, ∃ x9 : (List (List Queued)), ∃ x10 : (List Int), ∃ x11 : Int, vs = [.bool x1, .int .i64 x2, .dat 45 x3, .int .i64 x4, .int .i64 x5, .int .i64 x6, .int .i64 x7, .int .i64 x8, .dat 43 x9, .arr .i64 8 x10, .int .u64 x11] ∧ s_22_19  x1 x2 x3 x4 x5 x6 x7 x8 x9 x10 x11 (fun y1 => K .ret [.bool y1]) (fun y1 y2 y3 y4 y5 y6 y7 y8 y9 y10 => K .normal [.bool y1, .int .i64 y2, .int .i64 y3, .int .i64 y4, .int .i64 y5, .int .i64 y6, .int .i64 y7, .dat 43 y8, .arr .i64 8 y9, .int .u64 y10]) := by
  unfold v_22_19 at h
  replace h := dCB_spec h
  obtain ⟨x1, vs0, e0, h⟩ := h
  replace h := dCI_spec h
  obtain ⟨x2, vs1, e1, h⟩ := h
  replace h := dCD_spec h
  obtain ⟨x3, vs2, e2, h⟩ := h
  replace h := dCI_spec h
  obtain ⟨x4, vs3, e3, h⟩ := h
  replace h := dCI_spec h
  obtain ⟨x5, vs4, e4, h⟩ := h
  replace h := dCI_spec h
  obtain ⟨x6, vs5, e5, h⟩ := h
  replace h := dCI_spec h
  obtain ⟨x7, vs6, e6, h⟩ := h
  replace h := dCI_spec h
  obtain ⟨x8, vs7, e7, h⟩ := h
  replace h := dCD_spec h
  obtain ⟨x9, vs8, e8, h⟩ := h
  replace h := dCA_spec h
  obtain ⟨x10, vs9, e9, h⟩ := h
  replace h := dCI_spec h
  obtain ⟨x11, vs10, e10, h⟩ := h
  replace h := dCE_spec h
  obtain ⟨e, h⟩ := h
  exact ⟨x1, x2, x3, x4, x5, x6, x7, x8, x9, x10, x11, by rw [e0, e1, e2, e3, e4, e5, e6, e7, e8, e9, e10, e], h⟩
theorem oq_22_19 : PieceOk Try.prog env q_22_19 (seqAt b22 19) := by
  refine seq_step tab (ctxG_ok R27_ok false [] _ _) booq_22_19 (pieces_subS pooq_22_19_22 (by kernel_rfl)) 2000 ?_
  intro vs K h
  obtain ⟨x1, x2, x3, x4, x5, x6, x7, x8, x9, x10, x11, rfl, h⟩ := wioq_22_19 vs K h
  exact Eq.mp (stoq_22_19 x1 x2 x3 x4 x5 x6 x7 x8 x9 x10 x11 K) h
theorem pooq_22_17_22 : PiecesOk Try.prog env (ctxG env false [] R27 [(22, [(20, p_22_20)])] [(22, [(19, q_22_19)])]) 22 b22 :=
  pieces_at (L := [(20, p_22_20)]) (S := [(19, q_22_19)]) (fun _ => rfl) (fun _ => rfl) (by kernel_rfl) (by kernel_rfl) (List.forall_mem_cons.2 ⟨fun _ => ok_22_20, (fun _ hq => by cases hq)⟩) (List.forall_mem_cons.2 ⟨fun _ => oq_22_19, (fun _ hq => by cases hq)⟩)
theorem booq_22_17 : BodiesOk Try.prog env (ctxG env false [] R27 [(22, [(20, p_22_20)])] [(22, [(19, q_22_19)])]) := bodies_okG (ks := [22]) (by kernel_rfl) (List.forall_mem_cons.2 ⟨body_at (fn := f22) (body := b22) rfl hb22 pooq_22_17_22, (fun _ hq => by cases hq)⟩)
theorem stoq_22_17 (x1 : Bool) (x2 : Int) (x3 : (List Queued)) (x4 : Int) (x5 : Bool) (x6 : Int) (x7 : Int) (x8 : Int) (x9 : Int) (x10 : Int) (x11 : (List (List Queued))) (x12 : (List Int)) (x13 : Int) (K : Ex → List (SV env.T) → Prop) : s_22_17  x1 x2 x3 x4 x5 x6 x7 x8 x9 x10 x11 x12 x13 (fun y1 => K .ret [.bool y1]) (fun y1 y2 y3 y4 y5 y6 y7 y8 y9 y10 => K .normal [.bool y1, .int .i64 y2, .int .i64 y3, .int .i64 y4, .int .i64 y5, .int .i64 y6, .int .i64 y7, .dat 43 y8, .arr .i64 8 y9, .int .u64 y10]) = vcCode env (ctxG env false [] R27 [(22, [(20, p_22_20)])] [(22, [(19, q_22_19)])]) 2000 22 (seqAt b22 17) (insSt q_22_17.head [.bool x1, .int .i64 x2, .dat 45 x3, .int .i64 x4, .bool x5, .int .i64 x6, .int .i64 x7, .int .i64 x8, .int .i64 x9, .int .i64 x10, .dat 43 x11, .arr .i64 8 x12, .int .u64 x13]) (outP env q_22_17 K) := by kernel_rfl
theorem wioq_22_17 (vs : List (SV env.T)) (K : Ex → List (SV env.T) → Prop) (h : v_22_17 vs K) : ∃ x1 : Bool, ∃ x2 : Int, ∃ x3 : (List Queued), ∃ x4 : Int, ∃ x5 : Bool, ∃ x6 : Int, ∃ x7 : Int, ∃ x8 : Int, ∃ x9 : Int, ∃ x10 : Int, ∃ x11 : (List (List Queued)), ∃ x12 : (List Int), ∃ x13 : Int, vs = [.bool x1, .int .i64 x2, .dat 45 x3, .int .i64 x4, .bool x5, .int .i64 x6, .int .i64 x7, .int .i64 x8, .int .i64 x9, .int .i64 x10, .dat 43 x11, .arr .i64 8 x12, .int .u64 x13] ∧ s_22_17  x1 x2 x3 x4 x5 x6 x7 x8 x9 x10 x11 x12 x13 (fun y1 => K .ret [.bool y1]) (fun y1 y2 y3 y4 y5 y6 y7 y8 y9 y10 => K .normal [.bool y1, .int .i64 y2, .int .i64 y3, .int .i64 y4, .int .i64 y5, .int .i64 y6, .int .i64 y7, .dat 43 y8, .arr .i64 8 y9, .int .u64 y10]) := by
  unfold v_22_17 at h
  replace h := dCB_spec h
  obtain ⟨x1, vs0, e0, h⟩ := h
  replace h := dCI_spec h
  obtain ⟨x2, vs1, e1, h⟩ := h
  replace h := dCD_spec h
  obtain ⟨x3, vs2, e2, h⟩ := h
  replace h := dCI_spec h
  obtain ⟨x4, vs3, e3, h⟩ := h
  replace h := dCB_spec h
  obtain ⟨x5, vs4, e4, h⟩ := h
  replace h := dCI_spec h
  obtain ⟨x6, vs5, e5, h⟩ := h
  replace h := dCI_spec h
  obtain ⟨x7, vs6, e6, h⟩ := h
  replace h := dCI_spec h
  obtain ⟨x8, vs7, e7, h⟩ := h
  replace h := dCI_spec h
  obtain ⟨x9, vs8, e8, h⟩ := h
  replace h := dCI_spec h
  obtain ⟨x10, vs9, e9, h⟩ := h
  replace h := dCD_spec h
  obtain ⟨x11, vs10, e10, h⟩ := h
  replace h := dCA_spec h
  obtain ⟨x12, vs11, e11, h⟩ := h
  replace h := dCI_spec h
  obtain ⟨x13, vs12, e12, h⟩ := h
  replace h := dCE_spec h
  obtain ⟨e, h⟩ := h
  exact ⟨x1, x2, x3, x4, x5, x6, x7, x8, x9, x10, x11, x12, x13, by rw [e0, e1, e2, e3, e4, e5, e6, e7, e8, e9, e10, e11, e12, e], h⟩
theorem oq_22_17 : PieceOk Try.prog env q_22_17 (seqAt b22 17) := by
  refine seq_step tab (ctxG_ok R27_ok false [] _ _) booq_22_17 (pieces_subS pooq_22_17_22 (by kernel_rfl)) 2000 ?_
  intro vs K h
  obtain ⟨x1, x2, x3, x4, x5, x6, x7, x8, x9, x10, x11, x12, x13, rfl, h⟩ := wioq_22_17 vs K h
  exact Eq.mp (stoq_22_17 x1 x2 x3 x4 x5 x6 x7 x8 x9 x10 x11 x12 x13 K) h
theorem pooq_22_16_22 : PiecesOk Try.prog env (ctxG env false [] R27 [(22, [(20, p_22_20)])] [(22, [(19, q_22_19), (17, q_22_17)])]) 22 b22 :=
  pieces_at (L := [(20, p_22_20)]) (S := [(19, q_22_19), (17, q_22_17)]) (fun _ => rfl) (fun _ => rfl) (by kernel_rfl) (by kernel_rfl) (List.forall_mem_cons.2 ⟨fun _ => ok_22_20, (fun _ hq => by cases hq)⟩) (List.forall_mem_cons.2 ⟨fun _ => oq_22_19, (List.forall_mem_cons.2 ⟨fun _ => oq_22_17, (fun _ hq => by cases hq)⟩)⟩)
theorem booq_22_16 : BodiesOk Try.prog env (ctxG env false [] R27 [(22, [(20, p_22_20)])] [(22, [(19, q_22_19), (17, q_22_17)])]) := bodies_okG (ks := [22]) (by kernel_rfl) (List.forall_mem_cons.2 ⟨body_at (fn := f22) (body := b22) rfl hb22 pooq_22_16_22, (fun _ hq => by cases hq)⟩)
theorem stoq_22_16 (x1 : Bool) (x2 : Int) (x3 : (List Queued)) (x4 : Int) (x5 : Int) (x6 : Int) (x7 : Int) (x8 : Int) (x9 : Int) (x10 : (List (List Queued))) (x11 : (List Int)) (x12 : Int) (K : Ex → List (SV env.T) → Prop) : s_22_16  x1 x2 x3 x4 x5 x6 x7 x8 x9 x10 x11 x12 (fun y1 => K .ret [.bool y1]) (fun y1 y2 y3 y4 y5 y6 y7 y8 y9 y10 => K .normal [.bool y1, .int .i64 y2, .int .i64 y3, .int .i64 y4, .int .i64 y5, .int .i64 y6, .int .i64 y7, .dat 43 y8, .arr .i64 8 y9, .int .u64 y10]) = vcCode env (ctxG env false [] R27 [(22, [(20, p_22_20)])] [(22, [(19, q_22_19), (17, q_22_17)])]) 2000 22 (seqAt b22 16) (insSt q_22_16.head [.bool x1, .int .i64 x2, .dat 45 x3, .int .i64 x4, .int .i64 x5, .int .i64 x6, .int .i64 x7, .int .i64 x8, .int .i64 x9, .dat 43 x10, .arr .i64 8 x11, .int .u64 x12]) (outP env q_22_16 K) := by kernel_rfl
theorem wioq_22_16 (vs : List (SV env.T)) (K : Ex → List (SV env.T) → Prop) (h : v_22_16 vs K) : ∃ x1 : Bool, ∃ x2 : Int, ∃ x3 : (List Queued), ∃ x4 : Int, ∃ x5 : Int, ∃ x6 : Int, ∃ x7 : Int, ∃ x8 : Int, ∃ x9 : Int, ∃ x10 : (List (List Queued)), ∃ x11 : (List Int), ∃ x12 : Int, vs = [.bool x1, .int .i64 x2, .dat 45 x3, .int .i64 x4, .int .i64 x5, .int .i64 x6, .int .i64 x7, .int .i64 x8, .int .i64 x9, .dat 43 x10, .arr .i64 8 x11, .int .u64 x12] ∧ s_22_16  x1 x2 x3 x4 x5 x6 x7 x8 x9 x10 x11 x12 (fun y1 => K .ret [.bool y1]) (fun y1 y2 y3 y4 y5 y6 y7 y8 y9 y10 => K .normal [.bool y1, .int .i64 y2, .int .i64 y3, .int .i64 y4, .int .i64 y5, .int .i64 y6, .int .i64 y7, .dat 43 y8, .arr .i64 8 y9, .int .u64 y10]) := by
  unfold v_22_16 at h
  replace h := dCB_spec h
  obtain ⟨x1, vs0, e0, h⟩ := h
  replace h := dCI_spec h
  obtain ⟨x2, vs1, e1, h⟩ := h
  replace h := dCD_spec h
  obtain ⟨x3, vs2, e2, h⟩ := h
  replace h := dCI_spec h
  obtain ⟨x4, vs3, e3, h⟩ := h
  replace h := dCI_spec h
  obtain ⟨x5, vs4, e4, h⟩ := h
  replace h := dCI_spec h
  obtain ⟨x6, vs5, e5, h⟩ := h
  replace h := dCI_spec h
  obtain ⟨x7, vs6, e6, h⟩ := h
  replace h := dCI_spec h
  obtain ⟨x8, vs7, e7, h⟩ := h
  replace h := dCI_spec h
  obtain ⟨x9, vs8, e8, h⟩ := h
  replace h := dCD_spec h
  obtain ⟨x10, vs9, e9, h⟩ := h
  replace h := dCA_spec h
  obtain ⟨x11, vs10, e10, h⟩ := h
  replace h := dCI_spec h
  obtain ⟨x12, vs11, e11, h⟩ := h
  replace h := dCE_spec h
  obtain ⟨e, h⟩ := h
  exact ⟨x1, x2, x3, x4, x5, x6, x7, x8, x9, x10, x11, x12, by rw [e0, e1, e2, e3, e4, e5, e6, e7, e8, e9, e10, e11, e], h⟩
theorem oq_22_16 : PieceOk Try.prog env q_22_16 (seqAt b22 16) := by
  refine seq_step tab (ctxG_ok R27_ok false [] _ _) booq_22_16 (pieces_subS pooq_22_16_22 (by kernel_rfl)) 2000 ?_
  intro vs K h
  obtain ⟨x1, x2, x3, x4, x5, x6, x7, x8, x9, x10, x11, x12, rfl, h⟩ := wioq_22_16 vs K h
  exact Eq.mp (stoq_22_16 x1 x2 x3 x4 x5 x6 x7 x8 x9 x10 x11 x12 K) h
theorem pook_22_9_22 : PiecesOk Try.prog env (ctxG env false [] R27 [(22, [(20, p_22_20)])] [(22, [(19, q_22_19), (17, q_22_17), (16, q_22_16)])]) 22 b22 :=
  pieces_at (L := [(20, p_22_20)]) (S := [(19, q_22_19), (17, q_22_17), (16, q_22_16)]) (fun _ => rfl) (fun _ => rfl) (by kernel_rfl) (by kernel_rfl) (List.forall_mem_cons.2 ⟨fun _ => ok_22_20, (fun _ hq => by cases hq)⟩) (List.forall_mem_cons.2 ⟨fun _ => oq_22_19, (List.forall_mem_cons.2 ⟨fun _ => oq_22_17, (List.forall_mem_cons.2 ⟨fun _ => oq_22_16, (fun _ hq => by cases hq)⟩)⟩)⟩)
theorem book_22_9 : BodiesOk Try.prog env (ctxG env false [] R27 [(22, [(20, p_22_20)])] [(22, [(19, q_22_19), (17, q_22_17), (16, q_22_16)])]) := bodies_okG (ks := [22]) (by kernel_rfl) (List.forall_mem_cons.2 ⟨body_at (fn := f22) (body := b22) rfl hb22 pook_22_9_22, (fun _ hq => by cases hq)⟩)
theorem stok_22_9 (k : Nat) (x1 : Bool) (x2 : Int) (x3 : Int) (x4 : Int) (x5 : Int) (x6 : Int) (x7 : Int) (x8 : (List (List Queued))) (x9 : (List Int)) (x10 : Int) (K : Ex → List (SV env.T) → Prop) : l_22_9 (k + 1) x1 x2 x3 x4 x5 x6 x7 x8 x9 x10 (fun y1 => K .ret [.bool y1]) (fun y1 y2 y3 y4 y5 y6 y7 y8 y9 => K (.exit 0) [.bool y1, .int .i64 y2, .int .i64 y3, .int .i64 y4, .int .i64 y5, .int .i64 y6, .dat 43 y7, .arr .i64 8 y8, .int .u64 y9]) = vcCode env (ctxG env false [] R27 [(22, [(20, p_22_20)])] [(22, [(19, q_22_19), (17, q_22_17), (16, q_22_16)])]) 2000 22 (loopAt b22 9) (insSt p_22_9.head [.bool x1, .int .i64 x2, .int .i64 x3, .int .i64 x4, .int .i64 x5, .int .i64 x6, .int .i64 x7, .dat 43 x8, .arr .i64 8 x9, .int .u64 x10]) (stepK p_22_9 (w_22_9 k) K) := by kernel_rfl
theorem wiok_22_9 (k : Nat) (vs : List (SV env.T)) (K : Ex → List (SV env.T) → Prop) (h : w_22_9 k vs K) : ∃ x1 : Bool, ∃ x2 : Int, ∃ x3 : Int, ∃ x4 : Int, ∃ x5 : Int, ∃ x6 : Int, ∃ x7 : Int, ∃ x8 : (List (List Queued)), ∃ x9 : (List Int), ∃ x10 : Int, vs = [.bool x1, .int .i64 x2, .int .i64 x3, .int .i64 x4, .int .i64 x5, .int .i64 x6, .int .i64 x7, .dat 43 x8, .arr .i64 8 x9, .int .u64 x10] ∧ l_22_9 k x1 x2 x3 x4 x5 x6 x7 x8 x9 x10 (fun y1 => K .ret [.bool y1]) (fun y1 y2 y3 y4 y5 y6 y7 y8 y9 => K (.exit 0) [.bool y1, .int .i64 y2, .int .i64 y3, .int .i64 y4, .int .i64 y5, .int .i64 y6, .dat 43 y7, .arr .i64 8 y8, .int .u64 y9]) := by
  unfold w_22_9 at h
  replace h := dCB_spec h
  obtain ⟨x1, vs0, e0, h⟩ := h
  replace h := dCI_spec h
  obtain ⟨x2, vs1, e1, h⟩ := h
  replace h := dCI_spec h
  obtain ⟨x3, vs2, e2, h⟩ := h
  replace h := dCI_spec h
  obtain ⟨x4, vs3, e3, h⟩ := h
  replace h := dCI_spec h
  obtain ⟨x5, vs4, e4, h⟩ := h
  replace h := dCI_spec h
  obtain ⟨x6, vs5, e5, h⟩ := h
  replace h := dCI_spec h
  obtain ⟨x7, vs6, e6, h⟩ := h
  replace h := dCD_spec h
  obtain ⟨x8, vs7, e7, h⟩ := h
  replace h := dCA_spec h
  obtain ⟨x9, vs8, e8, h⟩ := h
  replace h := dCI_spec h
  obtain ⟨x10, vs9, e9, h⟩ := h
  replace h := dCE_spec h
  obtain ⟨e, h⟩ := h
  exact ⟨x1, x2, x3, x4, x5, x6, x7, x8, x9, x10, by rw [e0, e1, e2, e3, e4, e5, e6, e7, e8, e9, e], h⟩
theorem zeok_22_9 (x1 : Bool) (x2 : Int) (x3 : Int) (x4 : Int) (x5 : Int) (x6 : Int) (x7 : Int) (x8 : (List (List Queued))) (x9 : (List Int)) (x10 : Int) (K : Ex → List (SV env.T) → Prop) : l_22_9 0 x1 x2 x3 x4 x5 x6 x7 x8 x9 x10 (fun y1 => K .ret [.bool y1]) (fun y1 y2 y3 y4 y5 y6 y7 y8 y9 => K (.exit 0) [.bool y1, .int .i64 y2, .int .i64 y3, .int .i64 y4, .int .i64 y5, .int .i64 y6, .dat 43 y7, .arr .i64 8 y8, .int .u64 y9]) = False := by kernel_rfl
theorem ok_22_9 : PieceOk Try.prog env p_22_9 (.loop (loopAt b22 9)) := by
  refine loop_step (Wn := w_22_9) tab (ctxG_ok R27_ok false [] _ _) book_22_9 (pieces_sub pook_22_9_22 (by kernel_rfl)) rfl ?_ 2000 ?_
  · intro vs K h
    obtain ⟨x1, x2, x3, x4, x5, x6, x7, x8, x9, x10, _, h⟩ := wiok_22_9 0 vs K h
    exact Eq.mp (zeok_22_9 x1 x2 x3 x4 x5 x6 x7 x8 x9 x10 K) h
  · intro k vs K h
    obtain ⟨x1, x2, x3, x4, x5, x6, x7, x8, x9, x10, rfl, h⟩ := wiok_22_9 (k + 1) vs K h
    exact Eq.mp (stok_22_9 k x1 x2 x3 x4 x5 x6 x7 x8 x9 x10 K) h
theorem pooq_22_8_22 : PiecesOk Try.prog env (ctxG env false [] R27 [(22, [(20, p_22_20), (9, p_22_9)])] [(22, [(19, q_22_19), (17, q_22_17), (16, q_22_16)])]) 22 b22 :=
  pieces_at (L := [(20, p_22_20), (9, p_22_9)]) (S := [(19, q_22_19), (17, q_22_17), (16, q_22_16)]) (fun _ => rfl) (fun _ => rfl) (by kernel_rfl) (by kernel_rfl) (List.forall_mem_cons.2 ⟨fun _ => ok_22_20, (List.forall_mem_cons.2 ⟨fun _ => ok_22_9, (fun _ hq => by cases hq)⟩)⟩) (List.forall_mem_cons.2 ⟨fun _ => oq_22_19, (List.forall_mem_cons.2 ⟨fun _ => oq_22_17, (List.forall_mem_cons.2 ⟨fun _ => oq_22_16, (fun _ hq => by cases hq)⟩)⟩)⟩)
theorem booq_22_8 : BodiesOk Try.prog env (ctxG env false [] R27 [(22, [(20, p_22_20), (9, p_22_9)])] [(22, [(19, q_22_19), (17, q_22_17), (16, q_22_16)])]) := bodies_okG (ks := [22]) (by kernel_rfl) (List.forall_mem_cons.2 ⟨body_at (fn := f22) (body := b22) rfl hb22 pooq_22_8_22, (fun _ hq => by cases hq)⟩)
theorem stoq_22_8 (x1 : Bool) (x2 : Int) (x3 : Int) (x4 : Int) (x5 : Int) (x6 : Int) (x7 : (List (List Queued))) (x8 : (List Int)) (x9 : Int) (K : Ex → List (SV env.T) → Prop) : s_22_8  x1 x2 x3 x4 x5 x6 x7 x8 x9 (fun y1 => K .ret [.bool y1]) = vcCode env (ctxG env false [] R27 [(22, [(20, p_22_20), (9, p_22_9)])] [(22, [(19, q_22_19), (17, q_22_17), (16, q_22_16)])]) 2000 22 (seqAt b22 8) (insSt q_22_8.head [.bool x1, .int .i64 x2, .int .i64 x3, .int .i64 x4, .int .i64 x5, .int .i64 x6, .dat 43 x7, .arr .i64 8 x8, .int .u64 x9]) (outP env q_22_8 K) := by kernel_rfl
theorem wioq_22_8 (vs : List (SV env.T)) (K : Ex → List (SV env.T) → Prop) (h : v_22_8 vs K) : ∃ x1 : Bool, ∃ x2 : Int, ∃ x3 : Int, ∃ x4 : Int, ∃ x5 : Int, ∃ x6 : Int, ∃ x7 : (List (List Queued)), ∃ x8 : (List Int), ∃ x9 : Int, vs = [.bool x1, .int .i64 x2, .int .i64 x3, .int .i64 x4, .int .i64 x5, .int .i64 x6, .dat 43 x7, .arr .i64 8 x8, .int .u64 x9] ∧ s_22_8  x1 x2 x3 x4 x5 x6 x7 x8 x9 (fun y1 => K .ret [.bool y1]) := by
  unfold v_22_8 at h
  replace h := dCB_spec h
  obtain ⟨x1, vs0, e0, h⟩ := h
  replace h := dCI_spec h
  obtain ⟨x2, vs1, e1, h⟩ := h
  replace h := dCI_spec h
  obtain ⟨x3, vs2, e2, h⟩ := h
  replace h := dCI_spec h
  obtain ⟨x4, vs3, e3, h⟩ := h
  replace h := dCI_spec h
  obtain ⟨x5, vs4, e4, h⟩ := h
  replace h := dCI_spec h
  obtain ⟨x6, vs5, e5, h⟩ := h
  replace h := dCD_spec h
  obtain ⟨x7, vs6, e6, h⟩ := h
  replace h := dCA_spec h
  obtain ⟨x8, vs7, e7, h⟩ := h
  replace h := dCI_spec h
  obtain ⟨x9, vs8, e8, h⟩ := h
  replace h := dCE_spec h
  obtain ⟨e, h⟩ := h
  exact ⟨x1, x2, x3, x4, x5, x6, x7, x8, x9, by rw [e0, e1, e2, e3, e4, e5, e6, e7, e8, e], h⟩
theorem oq_22_8 : PieceOk Try.prog env q_22_8 (seqAt b22 8) := by
  refine seq_step tab (ctxG_ok R27_ok false [] _ _) booq_22_8 (pieces_subS pooq_22_8_22 (by kernel_rfl)) 2000 ?_
  intro vs K h
  obtain ⟨x1, x2, x3, x4, x5, x6, x7, x8, x9, rfl, h⟩ := wioq_22_8 vs K h
  exact Eq.mp (stoq_22_8 x1 x2 x3 x4 x5 x6 x7 x8 x9 K) h
theorem pooq_22_6_22 : PiecesOk Try.prog env (ctxG env false [] R27 [(22, [(20, p_22_20), (9, p_22_9)])] [(22, [(19, q_22_19), (17, q_22_17), (16, q_22_16), (8, q_22_8)])]) 22 b22 :=
  pieces_at (L := [(20, p_22_20), (9, p_22_9)]) (S := [(19, q_22_19), (17, q_22_17), (16, q_22_16), (8, q_22_8)]) (fun _ => rfl) (fun _ => rfl) (by kernel_rfl) (by kernel_rfl) (List.forall_mem_cons.2 ⟨fun _ => ok_22_20, (List.forall_mem_cons.2 ⟨fun _ => ok_22_9, (fun _ hq => by cases hq)⟩)⟩) (List.forall_mem_cons.2 ⟨fun _ => oq_22_19, (List.forall_mem_cons.2 ⟨fun _ => oq_22_17, (List.forall_mem_cons.2 ⟨fun _ => oq_22_16, (List.forall_mem_cons.2 ⟨fun _ => oq_22_8, (fun _ hq => by cases hq)⟩)⟩)⟩)⟩)
theorem booq_22_6 : BodiesOk Try.prog env (ctxG env false [] R27 [(22, [(20, p_22_20), (9, p_22_9)])] [(22, [(19, q_22_19), (17, q_22_17), (16, q_22_16), (8, q_22_8)])]) := bodies_okG (ks := [22]) (by kernel_rfl) (List.forall_mem_cons.2 ⟨body_at (fn := f22) (body := b22) rfl hb22 pooq_22_6_22, (fun _ hq => by cases hq)⟩)
theorem stoq_22_6 (x1 : Bool) (x2 : Int) (x3 : Int) (x4 : Int) (x5 : Int) (x6 : Int) (x7 : (List (List Queued))) (x8 : (List Int)) (x9 : Int) (K : Ex → List (SV env.T) → Prop) : s_22_6  x1 x2 x3 x4 x5 x6 x7 x8 x9 (fun y1 => K .ret [.bool y1]) = vcCode env (ctxG env false [] R27 [(22, [(20, p_22_20), (9, p_22_9)])] [(22, [(19, q_22_19), (17, q_22_17), (16, q_22_16), (8, q_22_8)])]) 2000 22 (seqAt b22 6) (insSt q_22_6.head [.bool x1, .int .i64 x2, .int .i64 x3, .int .i64 x4, .int .i64 x5, .int .i64 x6, .dat 43 x7, .arr .i64 8 x8, .int .u64 x9]) (outP env q_22_6 K) := by kernel_rfl
theorem wioq_22_6 (vs : List (SV env.T)) (K : Ex → List (SV env.T) → Prop) (h : v_22_6 vs K) : ∃ x1 : Bool, ∃ x2 : Int, ∃ x3 : Int, ∃ x4 : Int, ∃ x5 : Int, ∃ x6 : Int, ∃ x7 : (List (List Queued)), ∃ x8 : (List Int), ∃ x9 : Int, vs = [.bool x1, .int .i64 x2, .int .i64 x3, .int .i64 x4, .int .i64 x5, .int .i64 x6, .dat 43 x7, .arr .i64 8 x8, .int .u64 x9] ∧ s_22_6  x1 x2 x3 x4 x5 x6 x7 x8 x9 (fun y1 => K .ret [.bool y1]) := by
  unfold v_22_6 at h
  replace h := dCB_spec h
  obtain ⟨x1, vs0, e0, h⟩ := h
  replace h := dCI_spec h
  obtain ⟨x2, vs1, e1, h⟩ := h
  replace h := dCI_spec h
  obtain ⟨x3, vs2, e2, h⟩ := h
  replace h := dCI_spec h
  obtain ⟨x4, vs3, e3, h⟩ := h
  replace h := dCI_spec h
  obtain ⟨x5, vs4, e4, h⟩ := h
  replace h := dCI_spec h
  obtain ⟨x6, vs5, e5, h⟩ := h
  replace h := dCD_spec h
  obtain ⟨x7, vs6, e6, h⟩ := h
  replace h := dCA_spec h
  obtain ⟨x8, vs7, e7, h⟩ := h
  replace h := dCI_spec h
  obtain ⟨x9, vs8, e8, h⟩ := h
  replace h := dCE_spec h
  obtain ⟨e, h⟩ := h
  exact ⟨x1, x2, x3, x4, x5, x6, x7, x8, x9, by rw [e0, e1, e2, e3, e4, e5, e6, e7, e8, e], h⟩
theorem oq_22_6 : PieceOk Try.prog env q_22_6 (seqAt b22 6) := by
  refine seq_step tab (ctxG_ok R27_ok false [] _ _) booq_22_6 (pieces_subS pooq_22_6_22 (by kernel_rfl)) 2000 ?_
  intro vs K h
  obtain ⟨x1, x2, x3, x4, x5, x6, x7, x8, x9, rfl, h⟩ := wioq_22_6 vs K h
  exact Eq.mp (stoq_22_6 x1 x2 x3 x4 x5 x6 x7 x8 x9 K) h
theorem pooq_22_3_22 : PiecesOk Try.prog env (ctxG env false [] R27 [(22, [(20, p_22_20), (9, p_22_9)])] [(22, [(19, q_22_19), (17, q_22_17), (16, q_22_16), (8, q_22_8), (6, q_22_6)])]) 22 b22 :=
  pieces_at (L := [(20, p_22_20), (9, p_22_9)]) (S := [(19, q_22_19), (17, q_22_17), (16, q_22_16), (8, q_22_8), (6, q_22_6)]) (fun _ => rfl) (fun _ => rfl) (by kernel_rfl) (by kernel_rfl) (List.forall_mem_cons.2 ⟨fun _ => ok_22_20, (List.forall_mem_cons.2 ⟨fun _ => ok_22_9, (fun _ hq => by cases hq)⟩)⟩) (List.forall_mem_cons.2 ⟨fun _ => oq_22_19, (List.forall_mem_cons.2 ⟨fun _ => oq_22_17, (List.forall_mem_cons.2 ⟨fun _ => oq_22_16, (List.forall_mem_cons.2 ⟨fun _ => oq_22_8, (List.forall_mem_cons.2 ⟨fun _ => oq_22_6, (fun _ hq => by cases hq)⟩)⟩)⟩)⟩)⟩)
theorem booq_22_3 : BodiesOk Try.prog env (ctxG env false [] R27 [(22, [(20, p_22_20), (9, p_22_9)])] [(22, [(19, q_22_19), (17, q_22_17), (16, q_22_16), (8, q_22_8), (6, q_22_6)])]) := bodies_okG (ks := [22]) (by kernel_rfl) (List.forall_mem_cons.2 ⟨body_at (fn := f22) (body := b22) rfl hb22 pooq_22_3_22, (fun _ hq => by cases hq)⟩)
theorem stoq_22_3 (x1 : Bool) (x2 : Int) (x3 : Int) (x4 : Int) (x5 : Int) (x6 : Int) (x7 : (List (List Queued))) (x8 : (List Int)) (x9 : Int) (K : Ex → List (SV env.T) → Prop) : s_22_3  x1 x2 x3 x4 x5 x6 x7 x8 x9 (fun y1 => K .ret [.bool y1]) = vcCode env (ctxG env false [] R27 [(22, [(20, p_22_20), (9, p_22_9)])] [(22, [(19, q_22_19), (17, q_22_17), (16, q_22_16), (8, q_22_8), (6, q_22_6)])]) 2000 22 (seqAt b22 3) (insSt q_22_3.head [.bool x1, .int .i64 x2, .int .i64 x3, .int .i64 x4, .int .i64 x5, .int .i64 x6, .dat 43 x7, .arr .i64 8 x8, .int .u64 x9]) (outP env q_22_3 K) := by kernel_rfl
theorem wioq_22_3 (vs : List (SV env.T)) (K : Ex → List (SV env.T) → Prop) (h : v_22_3 vs K) : ∃ x1 : Bool, ∃ x2 : Int, ∃ x3 : Int, ∃ x4 : Int, ∃ x5 : Int, ∃ x6 : Int, ∃ x7 : (List (List Queued)), ∃ x8 : (List Int), ∃ x9 : Int, vs = [.bool x1, .int .i64 x2, .int .i64 x3, .int .i64 x4, .int .i64 x5, .int .i64 x6, .dat 43 x7, .arr .i64 8 x8, .int .u64 x9] ∧ s_22_3  x1 x2 x3 x4 x5 x6 x7 x8 x9 (fun y1 => K .ret [.bool y1]) := by
  unfold v_22_3 at h
  replace h := dCB_spec h
  obtain ⟨x1, vs0, e0, h⟩ := h
  replace h := dCI_spec h
  obtain ⟨x2, vs1, e1, h⟩ := h
  replace h := dCI_spec h
  obtain ⟨x3, vs2, e2, h⟩ := h
  replace h := dCI_spec h
  obtain ⟨x4, vs3, e3, h⟩ := h
  replace h := dCI_spec h
  obtain ⟨x5, vs4, e4, h⟩ := h
  replace h := dCI_spec h
  obtain ⟨x6, vs5, e5, h⟩ := h
  replace h := dCD_spec h
  obtain ⟨x7, vs6, e6, h⟩ := h
  replace h := dCA_spec h
  obtain ⟨x8, vs7, e7, h⟩ := h
  replace h := dCI_spec h
  obtain ⟨x9, vs8, e8, h⟩ := h
  replace h := dCE_spec h
  obtain ⟨e, h⟩ := h
  exact ⟨x1, x2, x3, x4, x5, x6, x7, x8, x9, by rw [e0, e1, e2, e3, e4, e5, e6, e7, e8, e], h⟩
theorem oq_22_3 : PieceOk Try.prog env q_22_3 (seqAt b22 3) := by
  refine seq_step tab (ctxG_ok R27_ok false [] _ _) booq_22_3 (pieces_subS pooq_22_3_22 (by kernel_rfl)) 2000 ?_
  intro vs K h
  obtain ⟨x1, x2, x3, x4, x5, x6, x7, x8, x9, rfl, h⟩ := wioq_22_3 vs K h
  exact Eq.mp (stoq_22_3 x1 x2 x3 x4 x5 x6 x7 x8 x9 K) h
theorem po_22_22 : PiecesOk Try.prog env (ctxG env false [] R27 [(22, [(20, p_22_20), (9, p_22_9)])] [(22, [(19, q_22_19), (17, q_22_17), (16, q_22_16), (8, q_22_8), (6, q_22_6), (3, q_22_3)])]) 22 b22 :=
  pieces_at (L := [(20, p_22_20), (9, p_22_9)]) (S := [(19, q_22_19), (17, q_22_17), (16, q_22_16), (8, q_22_8), (6, q_22_6), (3, q_22_3)]) (fun _ => rfl) (fun _ => rfl) (by kernel_rfl) (by kernel_rfl) (List.forall_mem_cons.2 ⟨fun _ => ok_22_20, (List.forall_mem_cons.2 ⟨fun _ => ok_22_9, (fun _ hq => by cases hq)⟩)⟩) (List.forall_mem_cons.2 ⟨fun _ => oq_22_19, (List.forall_mem_cons.2 ⟨fun _ => oq_22_17, (List.forall_mem_cons.2 ⟨fun _ => oq_22_16, (List.forall_mem_cons.2 ⟨fun _ => oq_22_8, (List.forall_mem_cons.2 ⟨fun _ => oq_22_6, (List.forall_mem_cons.2 ⟨fun _ => oq_22_3, (fun _ hq => by cases hq)⟩)⟩)⟩)⟩)⟩)⟩)
theorem bo_22 : BodiesOk Try.prog env (ctxG env false [] R27 [(22, [(20, p_22_20), (9, p_22_9)])] [(22, [(19, q_22_19), (17, q_22_17), (16, q_22_16), (8, q_22_8), (6, q_22_6), (3, q_22_3)])]) := bodies_okG (ks := [22]) (by kernel_rfl) (List.forall_mem_cons.2 ⟨body_at (fn := f22) (body := b22) rfl hb22 po_22_22, (fun _ hq => by cases hq)⟩)
theorem eq_22 (x0 : Queue) (K : Y22 → Prop) : vcCode env (ctxG env false [] R27 [(22, [(20, p_22_20), (9, p_22_9)])] [(22, [(19, q_22_19), (17, q_22_17), (16, q_22_16), (8, q_22_8), (6, q_22_6), (3, q_22_3)])]) 2000 22 b22 (entry env f22 [v28 x0]) (finR env f22 decR22 K) = B22 x0 K := by kernel_rfl
noncomputable def rule22 : Nat × Rule env := (22, ruleF env decA22 encR22 fun x => V22 x)
theorem r22 : RuleOk Try.prog env 22 rule22.2 :=
  rule_fun tab (ctxG_ok R27_ok false [] _ _) bo_22 (f := 22) (fn := f22) rfl hb22 po_22_22 2000 encA22 hA22 hR22 hD22 (fun _ => of_decide_eq_true (by kernel_rfl)) (fun x K => (eq_22 x K).trans (by rw [V22_eq]))
noncomputable def R22 : List (Nat × Rule env) := rule22 :: R27
theorem R22_ok : AllOk Try.prog env R22 := ⟨r22, R27_ok⟩
-- 48 queuelab/queuelabref22.refused
noncomputable def f48 : Func := Try.f48
noncomputable def b48 : Code := (Try.f48.body).getD .skip
abbrev X48 := Queue × Int
def encA48 (x : X48) : List (SV env.T) := [v28 x.1, v3 x.2]
def decA48 (l : List (SV env.T)) : Option X48 := match l with
  | [s0, s1] => match u28 s0, u3 s1 with
    | some x0, some x1 => some (x0, x1)
    | _, _ => none
  | _ => none
theorem hA48 (l : List (SV env.T)) (x : X48) (h : decA48 l = some x) : WkA env.has l (encA48 x) := by
  unfold decA48 at h; split at h
  · split at h
    · rename_i h0 h1; cases h; exact (.cons (u28_wk h0) (.cons (u3_wk h1) .nil))
    · cases h
  · cases h
abbrev Y48 := Int
def encR48 (x : Y48) : List (SV env.T) := [v34 x]
def decR48 (l : List (SV env.T)) : Option Y48 := match l with
  | [s0] => match u34 s0 with
    | some x0 => some (x0)
    | _ => none
  | _ => none
theorem hR48 (l : List (SV env.T)) (x : Y48) (h : decR48 l = some x) : WkA env.has l (encR48 x) := by
  unfold decR48 at h; split at h
  · split at h
    · rename_i h0; cases h; exact (.cons (u34_wk h0) .nil)
    · cases h
  · cases h
theorem hD48 (y : Y48) : isDataV (tupV (encR48 y)) = true := rfl
theorem hb48 : f48.body = some b48 := by kernel_rfl
def s_48_5 : Int → Int → Int → Int → Int → Int → Int → (List (List Queued)) → (List Int) → Int → (Int → Prop) → Prop :=
  fun x1 _ _ _ _ _ _ _ x9 _ kr ↦ br (decide (x1 < x9.getD 7 0)) (kr 18) (kr 0)
def v_48_5 (vs : List (SV env.T)) (K : Ex → List (SV env.T) → Prop) : Prop :=
  dCI .i64 vs fun x1 vs => dCI .i64 vs fun x2 vs => dCI .i64 vs fun x3 vs => dCI .i64 vs fun x4 vs => dCI .i64 vs fun x5 vs => dCI .i64 vs fun x6 vs => dCI .i64 vs fun x7 vs => dCD 43 vs fun x8 vs => dCA .i64 8 vs fun x9 vs => dCI .u64 vs fun x10 vs => dCE vs (s_48_5 x1 x2 x3 x4 x5 x6 x7 x8 x9 x10 (fun y1 => K .ret [.int .i64 y1]))
def q_48_5 : Piece env := ⟨⟨[.any, .hole, .ptr 0 0, .any, .hole, .any, .any, .any, .any, .any, .any, .any, .any, .any, .any, .any, .any, .any, .any, .any, .any, .any], [], [(0, .cells 28 [.hole, .hole, .hole, .hole, .hole, .holeD 43, .hole, .hole])], 1⟩, exitF none [] (some ⟨[.any, .any, .any, .any, .hole, .any, .any, .any, .any, .any, .any, .any, .any, .any, .any, .any, .any, .any, .any, .any, .any, .any], [], [], 0⟩), v_48_5⟩
noncomputable def B48 : Queue → Int → (Y48 → Prop) → Prop :=
  fun x0 x1 K ↦ V22 x0 fun y3 ↦ V29 x1 fun y4 ↦ br (!y3) (K 1) (br (!y4) (K 1) (s_48_5 x1 0 x0.policy.kind x0.policy.a x0.policy.b x0.policy.c x0.room x0.lists x0.vars x0.seed K))
theorem V48_ex : ∃ V : Queue → Int → (Y48 → Prop) → Prop, V = B48 := ⟨_, rfl⟩
noncomputable def V48 : Queue → Int → (Y48 → Prop) → Prop := Classical.choose V48_ex
theorem V48_eq : V48 = B48 := Classical.choose_spec V48_ex
theorem pooq_48_5_48 : PiecesOk Try.prog env (ctxG env false [] R22 [] []) 48 b48 :=
  pieces_at (L := []) (S := []) (fun _ => rfl) (fun _ => rfl) (by kernel_rfl) (by kernel_rfl) (fun _ hq => by cases hq) (fun _ hq => by cases hq)
theorem booq_48_5 : BodiesOk Try.prog env (ctxG env false [] R22 [] []) := bodies_okG (ks := []) (by kernel_rfl) (fun _ hq => by cases hq)
theorem stoq_48_5 (x1 : Int) (x2 : Int) (x3 : Int) (x4 : Int) (x5 : Int) (x6 : Int) (x7 : Int) (x8 : (List (List Queued))) (x9 : (List Int)) (x10 : Int) (K : Ex → List (SV env.T) → Prop) : s_48_5  x1 x2 x3 x4 x5 x6 x7 x8 x9 x10 (fun y1 => K .ret [.int .i64 y1]) = vcCode env (ctxG env false [] R22 [] []) 2000 48 (seqAt b48 5) (insSt q_48_5.head [.int .i64 x1, .int .i64 x2, .int .i64 x3, .int .i64 x4, .int .i64 x5, .int .i64 x6, .int .i64 x7, .dat 43 x8, .arr .i64 8 x9, .int .u64 x10]) (outP env q_48_5 K) := by kernel_rfl
theorem wioq_48_5 (vs : List (SV env.T)) (K : Ex → List (SV env.T) → Prop) (h : v_48_5 vs K) : ∃ x1 : Int, ∃ x2 : Int, ∃ x3 : Int, ∃ x4 : Int, ∃ x5 : Int, ∃ x6 : Int, ∃ x7 : Int, ∃ x8 : (List (List Queued)), ∃ x9 : (List Int), ∃ x10 : Int, vs = [.int .i64 x1, .int .i64 x2, .int .i64 x3, .int .i64 x4, .int .i64 x5, .int .i64 x6, .int .i64 x7, .dat 43 x8, .arr .i64 8 x9, .int .u64 x10] ∧ s_48_5  x1 x2 x3 x4 x5 x6 x7 x8 x9 x10 (fun y1 => K .ret [.int .i64 y1]) := by
  unfold v_48_5 at h
  replace h := dCI_spec h
  obtain ⟨x1, vs0, e0, h⟩ := h
  replace h := dCI_spec h
  obtain ⟨x2, vs1, e1, h⟩ := h
  replace h := dCI_spec h
  obtain ⟨x3, vs2, e2, h⟩ := h
  replace h := dCI_spec h
  obtain ⟨x4, vs3, e3, h⟩ := h
  replace h := dCI_spec h
  obtain ⟨x5, vs4, e4, h⟩ := h
  replace h := dCI_spec h
  obtain ⟨x6, vs5, e5, h⟩ := h
  replace h := dCI_spec h
  obtain ⟨x7, vs6, e6, h⟩ := h
  replace h := dCD_spec h
  obtain ⟨x8, vs7, e7, h⟩ := h
  replace h := dCA_spec h
  obtain ⟨x9, vs8, e8, h⟩ := h
  replace h := dCI_spec h
  obtain ⟨x10, vs9, e9, h⟩ := h
  replace h := dCE_spec h
  obtain ⟨e, h⟩ := h
  exact ⟨x1, x2, x3, x4, x5, x6, x7, x8, x9, x10, by rw [e0, e1, e2, e3, e4, e5, e6, e7, e8, e9, e], h⟩
theorem oq_48_5 : PieceOk Try.prog env q_48_5 (seqAt b48 5) := by
  refine seq_step tab (ctxG_ok R22_ok false [] _ _) booq_48_5 (pieces_subS pooq_48_5_48 (by kernel_rfl)) 2000 ?_
  intro vs K h
  obtain ⟨x1, x2, x3, x4, x5, x6, x7, x8, x9, x10, rfl, h⟩ := wioq_48_5 vs K h
  exact Eq.mp (stoq_48_5 x1 x2 x3 x4 x5 x6 x7 x8 x9 x10 K) h
theorem po_48_48 : PiecesOk Try.prog env (ctxG env false [] R22 [] [(48, [(5, q_48_5)])]) 48 b48 :=
  pieces_at (L := []) (S := [(5, q_48_5)]) (fun _ => rfl) (fun _ => rfl) (by kernel_rfl) (by kernel_rfl) (fun _ hq => by cases hq) (List.forall_mem_cons.2 ⟨fun _ => oq_48_5, (fun _ hq => by cases hq)⟩)
theorem bo_48 : BodiesOk Try.prog env (ctxG env false [] R22 [] [(48, [(5, q_48_5)])]) := bodies_okG (ks := [48]) (by kernel_rfl) (List.forall_mem_cons.2 ⟨body_at (fn := f48) (body := b48) rfl hb48 po_48_48, (fun _ hq => by cases hq)⟩)
theorem eq_48 (x0 : Queue) (x1 : Int) (K : Y48 → Prop) : vcCode env (ctxG env false [] R22 [] [(48, [(5, q_48_5)])]) 2000 48 b48 (entry env f48 [v28 x0, v3 x1]) (finR env f48 decR48 K) = B48 x0 x1 K := by kernel_rfl
noncomputable def rule48 : Nat × Rule env := (48, ruleF env decA48 encR48 fun x => V48 x.1 x.2)
theorem r48 : RuleOk Try.prog env 48 rule48.2 :=
  rule_fun tab (ctxG_ok R22_ok false [] _ _) bo_48 (f := 48) (fn := f48) rfl hb48 po_48_48 2000 encA48 hA48 hR48 hD48 (fun _ => of_decide_eq_true (by kernel_rfl)) (fun x K => (eq_48 x.1 x.2 K).trans (by rw [V48_eq]))
noncomputable def R48 : List (Nat × Rule env) := rule48 :: R22
theorem R48_ok : AllOk Try.prog env R48 := ⟨r48, R22_ok⟩
-- 49 queuelab/queuelabref22.with
noncomputable def f49 : Func := Try.f49
noncomputable def b49 : Code := (Try.f49.body).getD .skip
abbrev X49 := Queue × Int × (List Queued)
def encA49 (x : X49) : List (SV env.T) := [v28 x.1, v3 x.2.1, v43 x.2.2]
def decA49 (l : List (SV env.T)) : Option X49 := match l with
  | [s0, s1, s2] => match u28 s0, u3 s1, u43 s2 with
    | some x0, some x1, some x2 => some (x0, x1, x2)
    | _, _, _ => none
  | _ => none
theorem hA49 (l : List (SV env.T)) (x : X49) (h : decA49 l = some x) : WkA env.has l (encA49 x) := by
  unfold decA49 at h; split at h
  · split at h
    · rename_i h0 h1 h2; cases h; exact (.cons (u28_wk h0) (.cons (u3_wk h1) (.cons (u43_wk h2) .nil)))
    · cases h
  · cases h
abbrev Y49 := Queue
def encR49 (x : Y49) : List (SV env.T) := [v28 x]
def decR49 (l : List (SV env.T)) : Option Y49 := match l with
  | [s0] => match u28 s0 with
    | some x0 => some (x0)
    | _ => none
  | _ => none
theorem hR49 (l : List (SV env.T)) (x : Y49) (h : decR49 l = some x) : WkA env.has l (encR49 x) := by
  unfold decR49 at h; split at h
  · split at h
    · rename_i h0; cases h; exact (.cons (u28_wk h0) .nil)
    · cases h
  · cases h
theorem hD49 (y : Y49) : isDataV (tupV (encR49 y)) = true := rfl
theorem hb49 : f49.body = some b49 := by kernel_rfl
def l_49_3 : Nat → Int → (List Queued) → Int → Int → Int → Int → Int → Int → (List (List Queued)) → (List Int) → Int → Int → Int → Int → Int → Int → (List Int) → Int → (List (List Queued)) → (Int → Int → Int → Int → Int → (List (List Queued)) → (List Int) → Int → Int → Int → Int → Int → Int → (List Int) → Int → (List (List Queued)) → Prop) → Prop
  | 0 => fun _ _ _ _ _ _ _ _ _ _ _ _ _ _ _ _ _ _ _ _ => False
  | k + 1 => fun x1 x2 x3 x4 x5 x6 x7 x8 x9 x10 x11 x12 x13 x14 x15 x16 x17 x18 x19 k0 ↦ br (decide (x3 < (↑x9.length : Int))) (br (x3 == x1) (br (roomB x2.length (bytesB env 45)) (br (roomB (x19 ++ [x2]).length (bytesB env 43)) (l_49_3 k x1 x2 (IntKind.i64.wrap (x3 + 1)) x4 x5 x6 x7 x8 x9 x10 x11 x12 x13 x14 x15 x16 x17 x18 (x19 ++ [x2]) k0) False) False) (br (inb x3 (↑x9.length : Int)) (br (roomB (List.length (x9.getD x3.toNat (env.d 43))) (bytesB env 45)) (br (roomB (x19 ++ [x9.getD x3.toNat (env.d 43)]).length (bytesB env 43)) (l_49_3 k x1 x2 (IntKind.i64.wrap (x3 + 1)) x4 x5 x6 x7 x8 x9 x10 x11 x12 x13 x14 x15 x16 x17 x18 (x19 ++ [x9.getD x3.toNat (env.d 43)]) k0) False) False) False)) (k0 x4 x5 x6 x7 x8 x9 x10 x11 x12 x13 x14 x15 x16 x17 x18 x19)
def w_49_3 (k : Nat) (vs : List (SV env.T)) (K : Ex → List (SV env.T) → Prop) : Prop :=
  dCI .i64 vs fun x1 vs => dCD 45 vs fun x2 vs => dCI .i64 vs fun x3 vs => dCI .i64 vs fun x4 vs => dCI .i64 vs fun x5 vs => dCI .i64 vs fun x6 vs => dCI .i64 vs fun x7 vs => dCI .i64 vs fun x8 vs => dCD 43 vs fun x9 vs => dCA .i64 8 vs fun x10 vs => dCI .u64 vs fun x11 vs => dCI .i64 vs fun x12 vs => dCI .i64 vs fun x13 vs => dCI .i64 vs fun x14 vs => dCI .i64 vs fun x15 vs => dCI .i64 vs fun x16 vs => dCN vs fun vs => dCA .i64 8 vs fun x17 vs => dCI .u64 vs fun x18 vs => dCD 43 vs fun x19 vs => dCE vs (l_49_3 k x1 x2 x3 x4 x5 x6 x7 x8 x9 x10 x11 x12 x13 x14 x15 x16 x17 x18 x19 (fun y1 y2 y3 y4 y5 y6 y7 y8 y9 y10 y11 y12 y13 y14 y15 y16 => K (.exit 0) [.int .i64 y1, .int .i64 y2, .int .i64 y3, .int .i64 y4, .int .i64 y5, .dat 43 y6, .arr .i64 8 y7, .int .u64 y8, .int .i64 y9, .int .i64 y10, .int .i64 y11, .int .i64 y12, .int .i64 y13, .nils, .arr .i64 8 y14, .int .u64 y15, .dat 43 y16]))
def p_49_3 : Piece env := ⟨⟨[.any, .hole, .holeD 45, .ptr 0 0, .any, .any, .ptr 1 0, .row 2, .hole, .any, .any, .any, .any, .any, .any, .any, .any, .any, .any, .any, .any, .any, .any, .any, .any, .any, .any, .any, .any, .any, .any, .any, .any, .any, .any, .any, .any], [], [(0, .cells 28 [.hole, .hole, .hole, .hole, .hole, .holeD 43, .hole, .hole]), (1, .cells 28 [.hole, .hole, .hole, .hole, .hole, .hole, .hole, .hole]), (2, .row 43)], 3⟩, exitF none [(0, ⟨[.any, .any, .any, .ptr 0 0, .any, .any, .ptr 1 0, .row 2, .any, .any, .any, .any, .any, .any, .any, .any, .any, .any, .any, .any, .any, .any, .any, .any, .any, .any, .any, .any, .any, .any, .any, .any, .any, .any, .any, .any, .any], [], [(0, .cells 28 [.hole, .hole, .hole, .hole, .hole, .holeD 43, .hole, .hole]), (1, .cells 28 [.hole, .hole, .hole, .hole, .hole, .hole, .hole, .hole]), (2, .row 43)], 3⟩)] none, fun vs K => ∃ k, w_49_3 k vs K⟩
noncomputable def B49 : Queue → Int → (List Queued) → (Y49 → Prop) → Prop :=
  fun x0 x1 x2 K ↦ ∃ k4, l_49_3 k4 x1 x2 0 x0.policy.kind x0.policy.a x0.policy.b x0.policy.c x0.room x0.lists x0.vars x0.seed 0 0 0 0 0 (List.replicate 8 0) 0 [] fun y5 y6 y7 y8 y9 _ y11 y12 _ _ _ _ _ _ _ y20 ↦ K (Queue.mk (Policy.mk y5 y6 y7 y8) y9 y20 y11 y12)
theorem V49_ex : ∃ V : Queue → Int → (List Queued) → (Y49 → Prop) → Prop, V = B49 := ⟨_, rfl⟩
noncomputable def V49 : Queue → Int → (List Queued) → (Y49 → Prop) → Prop := Classical.choose V49_ex
theorem V49_eq : V49 = B49 := Classical.choose_spec V49_ex
theorem pook_49_3_49 : PiecesOk Try.prog env (ctxG env false [] R48 [] []) 49 b49 :=
  pieces_at (L := []) (S := []) (fun _ => rfl) (fun _ => rfl) (by kernel_rfl) (by kernel_rfl) (fun _ hq => by cases hq) (fun _ hq => by cases hq)
theorem book_49_3 : BodiesOk Try.prog env (ctxG env false [] R48 [] []) := bodies_okG (ks := []) (by kernel_rfl) (fun _ hq => by cases hq)
theorem stok_49_3 (k : Nat) (x1 : Int) (x2 : (List Queued)) (x3 : Int) (x4 : Int) (x5 : Int) (x6 : Int) (x7 : Int) (x8 : Int) (x9 : (List (List Queued))) (x10 : (List Int)) (x11 : Int) (x12 : Int) (x13 : Int) (x14 : Int) (x15 : Int) (x16 : Int) (x17 : (List Int)) (x18 : Int) (x19 : (List (List Queued))) (K : Ex → List (SV env.T) → Prop) : l_49_3 (k + 1) x1 x2 x3 x4 x5 x6 x7 x8 x9 x10 x11 x12 x13 x14 x15 x16 x17 x18 x19 (fun y1 y2 y3 y4 y5 y6 y7 y8 y9 y10 y11 y12 y13 y14 y15 y16 => K (.exit 0) [.int .i64 y1, .int .i64 y2, .int .i64 y3, .int .i64 y4, .int .i64 y5, .dat 43 y6, .arr .i64 8 y7, .int .u64 y8, .int .i64 y9, .int .i64 y10, .int .i64 y11, .int .i64 y12, .int .i64 y13, .nils, .arr .i64 8 y14, .int .u64 y15, .dat 43 y16]) = vcCode env (ctxG env false [] R48 [] []) 2000 49 (loopAt b49 3) (insSt p_49_3.head [.int .i64 x1, .dat 45 x2, .int .i64 x3, .int .i64 x4, .int .i64 x5, .int .i64 x6, .int .i64 x7, .int .i64 x8, .dat 43 x9, .arr .i64 8 x10, .int .u64 x11, .int .i64 x12, .int .i64 x13, .int .i64 x14, .int .i64 x15, .int .i64 x16, .nils, .arr .i64 8 x17, .int .u64 x18, .dat 43 x19]) (stepK p_49_3 (w_49_3 k) K) := by kernel_rfl
theorem wiok_49_3 (k : Nat) (vs : List (SV env.T)) (K : Ex → List (SV env.T) → Prop) (h : w_49_3 k vs K) : ∃ x1 : Int, ∃ x2 : (List Queued), ∃ x3 : Int, ∃ x4 : Int, ∃ x5 : Int, ∃ x6 : Int, ∃ x7 : Int, ∃ x8 : Int, ∃ x9 : (List (List Queued)), ∃ x10 : (List Int), ∃ x11 : Int, ∃ x12 : Int, ∃ x13 : Int, ∃ x14 : Int, ∃ x15 : Int, ∃ x16 : Int, ∃ x17 : (List Int), ∃ x18 : Int, ∃ x19 : (List (List Queued)), vs = [.int .i64 x1, .dat 45 x2, .int .i64 x3, .int .i64 x4, .int .i64 x5, .int .i64 x6, .int .i64 x7, .int .i64 x8, .dat 43 x9, .arr .i64 8 x10, .int .u64 x11, .int .i64 x12, .int .i64 x13, .int .i64 x14, .int .i64 x15, .int .i64 x16, .nils, .arr .i64 8 x17, .int .u64 x18, .dat 43 x19] ∧ l_49_3 k x1 x2 x3 x4 x5 x6 x7 x8 x9 x10 x11 x12 x13 x14 x15 x16 x17 x18 x19 (fun y1 y2 y3 y4 y5 y6 y7 y8 y9 y10 y11 y12 y13 y14 y15 y16 => K (.exit 0) [.int .i64 y1, .int .i64 y2, .int .i64 y3, .int .i64 y4, .int .i64 y5, .dat 43 y6, .arr .i64 8 y7, .int .u64 y8, .int .i64 y9, .int .i64 y10, .int .i64 y11, .int .i64 y12, .int .i64 y13, .nils, .arr .i64 8 y14, .int .u64 y15, .dat 43 y16]) := by
  unfold w_49_3 at h
  replace h := dCI_spec h
  obtain ⟨x1, vs0, e0, h⟩ := h
  replace h := dCD_spec h
  obtain ⟨x2, vs1, e1, h⟩ := h
  replace h := dCI_spec h
  obtain ⟨x3, vs2, e2, h⟩ := h
  replace h := dCI_spec h
  obtain ⟨x4, vs3, e3, h⟩ := h
  replace h := dCI_spec h
  obtain ⟨x5, vs4, e4, h⟩ := h
  replace h := dCI_spec h
  obtain ⟨x6, vs5, e5, h⟩ := h
  replace h := dCI_spec h
  obtain ⟨x7, vs6, e6, h⟩ := h
  replace h := dCI_spec h
  obtain ⟨x8, vs7, e7, h⟩ := h
  replace h := dCD_spec h
  obtain ⟨x9, vs8, e8, h⟩ := h
  replace h := dCA_spec h
  obtain ⟨x10, vs9, e9, h⟩ := h
  replace h := dCI_spec h
  obtain ⟨x11, vs10, e10, h⟩ := h
  replace h := dCI_spec h
  obtain ⟨x12, vs11, e11, h⟩ := h
  replace h := dCI_spec h
  obtain ⟨x13, vs12, e12, h⟩ := h
  replace h := dCI_spec h
  obtain ⟨x14, vs13, e13, h⟩ := h
  replace h := dCI_spec h
  obtain ⟨x15, vs14, e14, h⟩ := h
  replace h := dCI_spec h
  obtain ⟨x16, vs15, e15, h⟩ := h
  replace h := dCN_spec h
  obtain ⟨vs16, e16, h⟩ := h
  replace h := dCA_spec h
  obtain ⟨x17, vs17, e17, h⟩ := h
  replace h := dCI_spec h
  obtain ⟨x18, vs18, e18, h⟩ := h
  replace h := dCD_spec h
  obtain ⟨x19, vs19, e19, h⟩ := h
  replace h := dCE_spec h
  obtain ⟨e, h⟩ := h
  exact ⟨x1, x2, x3, x4, x5, x6, x7, x8, x9, x10, x11, x12, x13, x14, x15, x16, x17, x18, x19, by rw [e0, e1, e2, e3, e4, e5, e6, e7, e8, e9, e10, e11, e12, e13, e14, e15, e16, e17, e18, e19, e], h⟩
theorem zeok_49_3 (x1 : Int) (x2 : (List Queued)) (x3 : Int) (x4 : Int) (x5 : Int) (x6 : Int) (x7 : Int) (x8 : Int) (x9 : (List (List Queued))) (x10 : (List Int)) (x11 : Int) (x12 : Int) (x13 : Int) (x14 : Int) (x15 : Int) (x16 : Int) (x17 : (List Int)) (x18 : Int) (x19 : (List (List Queued))) (K : Ex → List (SV env.T) → Prop) : l_49_3 0 x1 x2 x3 x4 x5 x6 x7 x8 x9 x10 x11 x12 x13 x14 x15 x16 x17 x18 x19 (fun y1 y2 y3 y4 y5 y6 y7 y8 y9 y10 y11 y12 y13 y14 y15 y16 => K (.exit 0) [.int .i64 y1, .int .i64 y2, .int .i64 y3, .int .i64 y4, .int .i64 y5, .dat 43 y6, .arr .i64 8 y7, .int .u64 y8, .int .i64 y9, .int .i64 y10, .int .i64 y11, .int .i64 y12, .int .i64 y13, .nils, .arr .i64 8 y14, .int .u64 y15, .dat 43 y16]) = False := by kernel_rfl
theorem ok_49_3 : PieceOk Try.prog env p_49_3 (.loop (loopAt b49 3)) := by
  refine loop_step (Wn := w_49_3) tab (ctxG_ok R48_ok false [] _ _) book_49_3 (pieces_sub pook_49_3_49 (by kernel_rfl)) rfl ?_ 2000 ?_
  · intro vs K h
    obtain ⟨x1, x2, x3, x4, x5, x6, x7, x8, x9, x10, x11, x12, x13, x14, x15, x16, x17, x18, x19, _, h⟩ := wiok_49_3 0 vs K h
    exact Eq.mp (zeok_49_3 x1 x2 x3 x4 x5 x6 x7 x8 x9 x10 x11 x12 x13 x14 x15 x16 x17 x18 x19 K) h
  · intro k vs K h
    obtain ⟨x1, x2, x3, x4, x5, x6, x7, x8, x9, x10, x11, x12, x13, x14, x15, x16, x17, x18, x19, rfl, h⟩ := wiok_49_3 (k + 1) vs K h
    exact Eq.mp (stok_49_3 k x1 x2 x3 x4 x5 x6 x7 x8 x9 x10 x11 x12 x13 x14 x15 x16 x17 x18 x19 K) h
theorem po_49_49 : PiecesOk Try.prog env (ctxG env false [] R48 [(49, [(3, p_49_3)])] []) 49 b49 :=
  pieces_at (L := [(3, p_49_3)]) (S := []) (fun _ => rfl) (fun _ => rfl) (by kernel_rfl) (by kernel_rfl) (List.forall_mem_cons.2 ⟨fun _ => ok_49_3, (fun _ hq => by cases hq)⟩) (fun _ hq => by cases hq)
theorem bo_49 : BodiesOk Try.prog env (ctxG env false [] R48 [(49, [(3, p_49_3)])] []) := bodies_okG (ks := [49]) (by kernel_rfl) (List.forall_mem_cons.2 ⟨body_at (fn := f49) (body := b49) rfl hb49 po_49_49, (fun _ hq => by cases hq)⟩)
theorem eq_49 (x0 : Queue) (x1 : Int) (x2 : (List Queued)) (K : Y49 → Prop) : vcCode env (ctxG env false [] R48 [(49, [(3, p_49_3)])] []) 2000 49 b49 (entry env f49 [v28 x0, v3 x1, v43 x2]) (finR env f49 decR49 K) = B49 x0 x1 x2 K := by kernel_rfl
noncomputable def rule49 : Nat × Rule env := (49, ruleF env decA49 encR49 fun x => V49 x.1 x.2.1 x.2.2)
theorem r49 : RuleOk Try.prog env 49 rule49.2 :=
  rule_fun tab (ctxG_ok R48_ok false [] _ _) bo_49 (f := 49) (fn := f49) rfl hb49 po_49_49 2000 encA49 hA49 hR49 hD49 (fun _ => of_decide_eq_true (by kernel_rfl)) (fun x K => (eq_49 x.1 x.2.1 x.2.2 K).trans (by rw [V49_eq]))
noncomputable def R49 : List (Nat × Rule env) := rule49 :: R48
theorem R49_ok : AllOk Try.prog env R49 := ⟨r49, R48_ok⟩
-- 18 queuelab/queuelabref22.Put
noncomputable def f18 : Func := Try.f18
noncomputable def b18 : Code := (Try.f18.body).getD .skip
abbrev X18 := Queue × Packet × Int
def encA18 (x : X18) : List (SV env.T) := [v28 x.1, v30 x.2.1, v3 x.2.2]
def decA18 (l : List (SV env.T)) : Option X18 := match l with
  | [s0, s1, s2] => match u28 s0, u30 s1, u3 s2 with
    | some x0, some x1, some x2 => some (x0, x1, x2)
    | _, _, _ => none
  | _ => none
theorem hA18 (l : List (SV env.T)) (x : X18) (h : decA18 l = some x) : WkA env.has l (encA18 x) := by
  unfold decA18 at h; split at h
  · split at h
    · rename_i h0 h1 h2; cases h; exact (.cons (u28_wk h0) (.cons (u30_wk h1) (.cons (u3_wk h2) .nil)))
    · cases h
  · cases h
abbrev Y18 := Queue × (List Packet) × Int
def encR18 (x : Y18) : List (SV env.T) := [v28 x.1, v33 x.2.1, v34 x.2.2]
def decR18 (l : List (SV env.T)) : Option Y18 := match l with
  | [s0, s1, s2] => match u28 s0, u33 s1, u34 s2 with
    | some x0, some x1, some x2 => some (x0, x1, x2)
    | _, _, _ => none
  | _ => none
theorem hR18 (l : List (SV env.T)) (x : Y18) (h : decR18 l = some x) : WkA env.has l (encR18 x) := by
  unfold decR18 at h; split at h
  · split at h
    · rename_i h0 h1 h2; cases h; exact (.cons (u28_wk h0) (.cons (u33_wk h1) (.cons (u34_wk h2) .nil)))
    · cases h
  · cases h
theorem hD18 (y : Y18) : isDataV (tupV (encR18 y)) = true := rfl
theorem hb18 : f18.body = some b18 := by kernel_rfl
noncomputable def B18 : Queue → Packet → Int → (Y18 → Prop) → Prop :=
  fun x0 x1 x2 K ↦ V26 x1 fun y4 ↦ br (!y4) (K (Queue.mk (Policy.mk 0 0 0 0) 0 [] (List.replicate 8 0) 0, [], 1)) (V48 x0 x2 fun y5 ↦ br (y5 != 0) (K (Queue.mk (Policy.mk 0 0 0 0) 0 [] (List.replicate 8 0) 0, [], y5)) (∃ k6, (V27 (Queue.mk x0.policy x0.room x0.lists (x0.vars.set 7 x2) x0.seed) fun y7 ↦ tupV (encR27 y7) = tupV (encR27 k6)) ∧ br (k6 == x0.room) (∃ k7, (V49 (Queue.mk x0.policy x0.room x0.lists (x0.vars.set 7 x2) x0.seed) (-1) [] fun y8 ↦ tupV (encR49 y8) = tupV (encR49 k7)) ∧ K (k7, [Packet.mk x1.flow x1.sub x1.number x1.data x1.size x1.sent x1.able x1.marked], 0)) (br (inb x1.flow (↑x0.lists.length : Int)) (br (roomB (List.length (x0.lists.getD x1.flow.toNat (env.d 43))) (bytesB env 45)) (br (roomB (x0.lists.getD x1.flow.toNat (env.d 43) ++ [Queued.mk (Packet.mk x1.flow x1.sub x1.number x1.data x1.size x1.sent x1.able x1.marked) x2]).length (bytesB env 45)) (V49 (Queue.mk x0.policy x0.room x0.lists (x0.vars.set 7 x2) x0.seed) x1.flow (x0.lists.getD x1.flow.toNat (env.d 43) ++ [Queued.mk (Packet.mk x1.flow x1.sub x1.number x1.data x1.size x1.sent x1.able x1.marked) x2]) fun y7 ↦ K (y7, [], 0)) False) False) False)))
theorem V18_ex : ∃ V : Queue → Packet → Int → (Y18 → Prop) → Prop, V = B18 := ⟨_, rfl⟩
noncomputable def V18 : Queue → Packet → Int → (Y18 → Prop) → Prop := Classical.choose V18_ex
theorem V18_eq : V18 = B18 := Classical.choose_spec V18_ex
theorem po_18_18 : PiecesOk Try.prog env (ctxG env false [] R49 [] []) 18 b18 :=
  pieces_at (L := []) (S := []) (fun _ => rfl) (fun _ => rfl) (by kernel_rfl) (by kernel_rfl) (fun _ hq => by cases hq) (fun _ hq => by cases hq)
theorem bo_18 : BodiesOk Try.prog env (ctxG env false [] R49 [] []) := bodies_okG (ks := []) (by kernel_rfl) (fun _ hq => by cases hq)
theorem eq_18 (x0 : Queue) (x1 : Packet) (x2 : Int) (K : Y18 → Prop) : vcCode env (ctxG env false [] R49 [] []) 2000 18 b18 (entry env f18 [v28 x0, v30 x1, v3 x2]) (finR env f18 decR18 K) = B18 x0 x1 x2 K := by kernel_rfl
noncomputable def rule18 : Nat × Rule env := (18, ruleF env decA18 encR18 fun x => V18 x.1 x.2.1 x.2.2)
theorem r18 : RuleOk Try.prog env 18 rule18.2 :=
  rule_fun tab (ctxG_ok R49_ok false [] _ _) bo_18 (f := 18) (fn := f18) rfl hb18 po_18_18 2000 encA18 hA18 hR18 hD18 (fun _ => of_decide_eq_true (by kernel_rfl)) (fun x K => (eq_18 x.1 x.2.1 x.2.2 K).trans (by rw [V18_eq]))
noncomputable def R18 : List (Nat × Rule env) := rule18 :: R49
theorem R18_ok : AllOk Try.prog env R18 := ⟨r18, R49_ok⟩
-- 52 queuelab/queuelabref22.pass
noncomputable def f52 : Func := Try.f52
noncomputable def b52 : Code := (Try.f52.body).getD .skip
abbrev X52 := Queue
def encA52 (x : X52) : List (SV env.T) := [v28 x]
def decA52 (l : List (SV env.T)) : Option X52 := match l with
  | [s0] => match u28 s0 with
    | some x0 => some (x0)
    | _ => none
  | _ => none
theorem hA52 (l : List (SV env.T)) (x : X52) (h : decA52 l = some x) : WkA env.has l (encA52 x) := by
  unfold decA52 at h; split at h
  · split at h
    · rename_i h0; cases h; exact (.cons (u28_wk h0) .nil)
    · cases h
  · cases h
abbrev Y52 := Queue
def encR52 (x : Y52) : List (SV env.T) := [v28 x]
def decR52 (l : List (SV env.T)) : Option Y52 := match l with
  | [s0] => match u28 s0 with
    | some x0 => some (x0)
    | _ => none
  | _ => none
theorem hR52 (l : List (SV env.T)) (x : Y52) (h : decR52 l = some x) : WkA env.has l (encR52 x) := by
  unfold decR52 at h; split at h
  · split at h
    · rename_i h0; cases h; exact (.cons (u28_wk h0) .nil)
    · cases h
  · cases h
theorem hD52 (y : Y52) : isDataV (tupV (encR52 y)) = true := rfl
theorem hb52 : f52.body = some b52 := by kernel_rfl
noncomputable def B52 : Queue → (Y52 → Prop) → Prop :=
  fun x0 K ↦ K (Queue.mk x0.policy x0.room x0.lists ((x0.vars.set 0 ((IntKind.i64.wrap (x0.vars.getD 0 0 + 1)).tmod 8)).set 1 0) x0.seed)
theorem V52_ex : ∃ V : Queue → (Y52 → Prop) → Prop, V = B52 := ⟨_, rfl⟩
noncomputable def V52 : Queue → (Y52 → Prop) → Prop := Classical.choose V52_ex
theorem V52_eq : V52 = B52 := Classical.choose_spec V52_ex
theorem po_52_52 : PiecesOk Try.prog env (ctxG env false [] R18 [] []) 52 b52 :=
  pieces_at (L := []) (S := []) (fun _ => rfl) (fun _ => rfl) (by kernel_rfl) (by kernel_rfl) (fun _ hq => by cases hq) (fun _ hq => by cases hq)
theorem bo_52 : BodiesOk Try.prog env (ctxG env false [] R18 [] []) := bodies_okG (ks := []) (by kernel_rfl) (fun _ hq => by cases hq)
theorem eq_52 (x0 : Queue) (K : Y52 → Prop) : vcCode env (ctxG env false [] R18 [] []) 2000 52 b52 (entry env f52 [v28 x0]) (finR env f52 decR52 K) = B52 x0 K := by kernel_rfl
noncomputable def rule52 : Nat × Rule env := (52, ruleF env decA52 encR52 fun x => V52 x)
theorem r52 : RuleOk Try.prog env 52 rule52.2 :=
  rule_fun tab (ctxG_ok R18_ok false [] _ _) bo_52 (f := 52) (fn := f52) rfl hb52 po_52_52 2000 encA52 hA52 hR52 hD52 (fun _ => of_decide_eq_true (by kernel_rfl)) (fun x K => (eq_52 x K).trans (by rw [V52_eq]))
noncomputable def R52 : List (Nat × Rule env) := rule52 :: R18
theorem R52_ok : AllOk Try.prog env R52 := ⟨r52, R18_ok⟩
-- 53 queuelab/queuelabref22.Set
noncomputable def f53 : Func := Try.f53
noncomputable def b53 : Code := (Try.f53.body).getD .skip
abbrev X53 := Queue × Int × Int
def encA53 (x : X53) : List (SV env.T) := [v28 x.1, v3 x.2.1, v3 x.2.2]
def decA53 (l : List (SV env.T)) : Option X53 := match l with
  | [s0, s1, s2] => match u28 s0, u3 s1, u3 s2 with
    | some x0, some x1, some x2 => some (x0, x1, x2)
    | _, _, _ => none
  | _ => none
theorem hA53 (l : List (SV env.T)) (x : X53) (h : decA53 l = some x) : WkA env.has l (encA53 x) := by
  unfold decA53 at h; split at h
  · split at h
    · rename_i h0 h1 h2; cases h; exact (.cons (u28_wk h0) (.cons (u3_wk h1) (.cons (u3_wk h2) .nil)))
    · cases h
  · cases h
abbrev Y53 := Queue
def encR53 (x : Y53) : List (SV env.T) := [v28 x]
def decR53 (l : List (SV env.T)) : Option Y53 := match l with
  | [s0] => match u28 s0 with
    | some x0 => some (x0)
    | _ => none
  | _ => none
theorem hR53 (l : List (SV env.T)) (x : Y53) (h : decR53 l = some x) : WkA env.has l (encR53 x) := by
  unfold decR53 at h; split at h
  · split at h
    · rename_i h0; cases h; exact (.cons (u28_wk h0) .nil)
    · cases h
  · cases h
theorem hD53 (y : Y53) : isDataV (tupV (encR53 y)) = true := rfl
theorem hb53 : f53.body = some b53 := by kernel_rfl
noncomputable def B53 : Queue → Int → Int → (Y53 → Prop) → Prop :=
  fun x0 x1 x2 K ↦ br (x1.tmod 2 == 0) (br (inb (IntKind.i64.wrap (2 + IntKind.i64.wrap (x1.tdiv 2))) (↑8 : Int)) (br (inb (IntKind.i64.wrap (2 + IntKind.i64.wrap (x1.tdiv 2))) (↑8 : Int)) (K (Queue.mk x0.policy x0.room x0.lists (x0.vars.set (IntKind.i64.wrap (2 + IntKind.i64.wrap (x1.tdiv 2))).toNat (IntKind.i64.wrap (IntKind.i64.wrap (x2 * 32768) + (x0.vars.getD (IntKind.i64.wrap (2 + IntKind.i64.wrap (x1.tdiv 2))).toNat 0).tmod 32768))) x0.seed)) False) False) (br (inb (IntKind.i64.wrap (2 + IntKind.i64.wrap (x1.tdiv 2))) (↑8 : Int)) (br (inb (IntKind.i64.wrap (2 + IntKind.i64.wrap (x1.tdiv 2))) (↑8 : Int)) (K (Queue.mk x0.policy x0.room x0.lists (x0.vars.set (IntKind.i64.wrap (2 + IntKind.i64.wrap (x1.tdiv 2))).toNat (IntKind.i64.wrap (IntKind.i64.wrap (IntKind.i64.wrap ((x0.vars.getD (IntKind.i64.wrap (2 + IntKind.i64.wrap (x1.tdiv 2))).toNat 0).tdiv 32768) * 32768) + x2))) x0.seed)) False) False)
theorem V53_ex : ∃ V : Queue → Int → Int → (Y53 → Prop) → Prop, V = B53 := ⟨_, rfl⟩
noncomputable def V53 : Queue → Int → Int → (Y53 → Prop) → Prop := Classical.choose V53_ex
theorem V53_eq : V53 = B53 := Classical.choose_spec V53_ex
theorem po_53_53 : PiecesOk Try.prog env (ctxG env false [] R52 [] []) 53 b53 :=
  pieces_at (L := []) (S := []) (fun _ => rfl) (fun _ => rfl) (by kernel_rfl) (by kernel_rfl) (fun _ hq => by cases hq) (fun _ hq => by cases hq)
theorem bo_53 : BodiesOk Try.prog env (ctxG env false [] R52 [] []) := bodies_okG (ks := []) (by kernel_rfl) (fun _ hq => by cases hq)
theorem eq_53 (x0 : Queue) (x1 : Int) (x2 : Int) (K : Y53 → Prop) : vcCode env (ctxG env false [] R52 [] []) 2000 53 b53 (entry env f53 [v28 x0, v3 x1, v3 x2]) (finR env f53 decR53 K) = B53 x0 x1 x2 K := by kernel_rfl
noncomputable def rule53 : Nat × Rule env := (53, ruleF env decA53 encR53 fun x => V53 x.1 x.2.1 x.2.2)
theorem r53 : RuleOk Try.prog env 53 rule53.2 :=
  rule_fun tab (ctxG_ok R52_ok false [] _ _) bo_53 (f := 53) (fn := f53) rfl hb53 po_53_53 2000 encA53 hA53 hR53 hD53 (fun _ => of_decide_eq_true (by kernel_rfl)) (fun x K => (eq_53 x.1 x.2.1 x.2.2 K).trans (by rw [V53_eq]))
noncomputable def R53 : List (Nat × Rule env) := rule53 :: R52
theorem R53_ok : AllOk Try.prog env R53 := ⟨r53, R52_ok⟩
-- 20 queuelab/queuelabref22.Take
noncomputable def f20 : Func := Try.f20
noncomputable def b20 : Code := (Try.f20.body).getD .skip
abbrev X20 := Queue × Int
def encA20 (x : X20) : List (SV env.T) := [v28 x.1, v3 x.2]
def decA20 (l : List (SV env.T)) : Option X20 := match l with
  | [s0, s1] => match u28 s0, u3 s1 with
    | some x0, some x1 => some (x0, x1)
    | _, _ => none
  | _ => none
theorem hA20 (l : List (SV env.T)) (x : X20) (h : decA20 l = some x) : WkA env.has l (encA20 x) := by
  unfold decA20 at h; split at h
  · split at h
    · rename_i h0 h1; cases h; exact (.cons (u28_wk h0) (.cons (u3_wk h1) .nil))
    · cases h
  · cases h
abbrev Y20 := Queue × Packet × Bool × (List Packet) × Int
def encR20 (x : Y20) : List (SV env.T) := [v28 x.1, v30 x.2.1, v4 x.2.2.1, v33 x.2.2.2.1, v34 x.2.2.2.2]
def decR20 (l : List (SV env.T)) : Option Y20 := match l with
  | [s0, s1, s2, s3, s4] => match u28 s0, u30 s1, u4 s2, u33 s3, u34 s4 with
    | some x0, some x1, some x2, some x3, some x4 => some (x0, x1, x2, x3, x4)
    | _, _, _, _, _ => none
  | _ => none
theorem hR20 (l : List (SV env.T)) (x : Y20) (h : decR20 l = some x) : WkA env.has l (encR20 x) := by
  unfold decR20 at h; split at h
  · split at h
    · rename_i h0 h1 h2 h3 h4; cases h; exact (.cons (u28_wk h0) (.cons (u30_wk h1) (.cons (u4_wk h2) (.cons (u33_wk h3) (.cons (u34_wk h4) .nil)))))
    · cases h
  · cases h
theorem hD20 (y : Y20) : isDataV (tupV (encR20 y)) = true := rfl
theorem hb20 : f20.body = some b20 := by kernel_rfl
def s_20_14 : Bool → Int → Int → (List Queued) → Int → Int → Int → Int → Int → (List (List Queued)) → (List Int) → Int → Int → Int → Int → Int → Int → (List Int) → Int → Int → Int → Int → Int → Int → Int → Bool → Bool → (Bool → Int → Int → Int → Int → Int → Int → (List (List Queued)) → (List Int) → Int → Int → Int → Int → Int → Int → (List Int) → Int → Int → Int → Int → Int → Int → Int → Bool → Bool → Prop) → (Bool → Int → Int → Int → Int → Int → Int → (List (List Queued)) → (List Int) → Int → Int → Int → Int → Int → Int → Int → Bool → Bool → Prop) → Prop :=
  fun x1 x2 x3 x4 x5 x6 x7 x8 x9 x10 x11 x12 x13 x14 x15 x16 x17 x18 x19 x20 x21 x22 x23 x24 x25 x26 x27 k1 kr ↦ br (inb 0 (↑x4.length : Int)) (∃ k31, (V54 (Queue.mk (Policy.mk x5 x6 x7 x8) x9 x10 x11 x12) x3 fun y32 ↦ tupV (encR54 y32) = tupV (encR54 k31)) ∧ br (decide ((x4.getD 0 (env.d 45)).p.size > k31)) (V52 (Queue.mk (Policy.mk x5 x6 x7 x8) x9 x10 x11 x12) fun y32 ↦ k1 x1 x2 y32.policy.kind y32.policy.a y32.policy.b y32.policy.c y32.room y32.lists y32.vars y32.seed x13 x14 x15 x16 x17 x18 x19 x20 x21 x22 x23 x24 x25 x26 x27) (∃ k32, (V54 (Queue.mk (Policy.mk x5 x6 x7 x8) x9 x10 x11 x12) x3 fun y33 ↦ tupV (encR54 y33) = tupV (encR54 k32)) ∧ ∃ k33, (V53 (Queue.mk (Policy.mk x5 x6 x7 x8) x9 x10 x11 x12) x3 (IntKind.i64.wrap (k32 - (x4.getD 0 (env.d 45)).p.size)) fun y34 ↦ tupV (encR53 y34) = tupV (encR53 k33)) ∧ br (cutOk (some 1) none x4.length) (∃ k34, (V49 k33 x3 (cutL x4 ((some 1).getD 0) (none.getD (↑x4.length : Int))) fun y35 ↦ tupV (encR49 y35) = tupV (encR49 k34)) ∧ br ((↑x4.length : Int) == 1) (V53 k34 x3 0 fun y35 ↦ V52 y35 fun y36 ↦ kr true 0 y36.policy.kind y36.policy.a y36.policy.b y36.policy.c y36.room y36.lists y36.vars y36.seed (x4.getD 0 (env.d 45)).p.flow (x4.getD 0 (env.d 45)).p.sub (x4.getD 0 (env.d 45)).p.number (x4.getD 0 (env.d 45)).p.data (x4.getD 0 (env.d 45)).p.size (x4.getD 0 (env.d 45)).p.sent (x4.getD 0 (env.d 45)).p.able (x4.getD 0 (env.d 45)).p.marked) (kr true 0 k34.policy.kind k34.policy.a k34.policy.b k34.policy.c k34.room k34.lists k34.vars k34.seed (x4.getD 0 (env.d 45)).p.flow (x4.getD 0 (env.d 45)).p.sub (x4.getD 0 (env.d 45)).p.number (x4.getD 0 (env.d 45)).p.data (x4.getD 0 (env.d 45)).p.size (x4.getD 0 (env.d 45)).p.sent (x4.getD 0 (env.d 45)).p.able (x4.getD 0 (env.d 45)).p.marked)) False)) False
def v_20_14 (vs : List (SV env.T)) (K : Ex → List (SV env.T) → Prop) : Prop :=
  dCB vs fun x1 vs => dCN vs fun vs => dCI .i64 vs fun x2 vs => dCI .i64 vs fun x3 vs => dCD 45 vs fun x4 vs => dCI .i64 vs fun x5 vs => dCI .i64 vs fun x6 vs => dCI .i64 vs fun x7 vs => dCI .i64 vs fun x8 vs => dCI .i64 vs fun x9 vs => dCD 43 vs fun x10 vs => dCA .i64 8 vs fun x11 vs => dCI .u64 vs fun x12 vs => dCI .i64 vs fun x13 vs => dCI .i64 vs fun x14 vs => dCI .i64 vs fun x15 vs => dCI .i64 vs fun x16 vs => dCI .i64 vs fun x17 vs => dCN vs fun vs => dCA .i64 8 vs fun x18 vs => dCI .u64 vs fun x19 vs => dCI .i64 vs fun x20 vs => dCI .i64 vs fun x21 vs => dCI .i64 vs fun x22 vs => dCI .i64 vs fun x23 vs => dCI .i64 vs fun x24 vs => dCI .i64 vs fun x25 vs => dCB vs fun x26 vs => dCB vs fun x27 vs => dCE vs (s_20_14 x1 x2 x3 x4 x5 x6 x7 x8 x9 x10 x11 x12 x13 x14 x15 x16 x17 x18 x19 x20 x21 x22 x23 x24 x25 x26 x27 (fun y1 y2 y3 y4 y5 y6 y7 y8 y9 y10 y11 y12 y13 y14 y15 y16 y17 y18 y19 y20 y21 y22 y23 y24 y25 => K (.exit 1) [.bool y1, .nils, .int .i64 y2, .int .i64 y3, .int .i64 y4, .int .i64 y5, .int .i64 y6, .int .i64 y7, .dat 43 y8, .arr .i64 8 y9, .int .u64 y10, .int .i64 y11, .int .i64 y12, .int .i64 y13, .int .i64 y14, .int .i64 y15, .nils, .arr .i64 8 y16, .int .u64 y17, .int .i64 y18, .int .i64 y19, .int .i64 y20, .int .i64 y21, .int .i64 y22, .int .i64 y23, .bool y24, .bool y25]) (fun y1 y2 y3 y4 y5 y6 y7 y8 y9 y10 y11 y12 y13 y14 y15 y16 y17 y18 => K .ret [.bool y1, .nils, .int .i64 y2, .int .i64 y3, .int .i64 y4, .int .i64 y5, .int .i64 y6, .int .i64 y7, .dat 43 y8, .arr .i64 8 y9, .int .u64 y10, .int .i64 y11, .int .i64 y12, .int .i64 y13, .int .i64 y14, .int .i64 y15, .int .i64 y16, .bool y17, .bool y18]))
def q_20_14 : Piece env := ⟨⟨[.any, .any, .ptr 0 0, .any, .ptr 1 0, .ptr 2 0, .hole, .hole, .hole, .any, .hole, .holeD 45, .any, .any, .any, .any, .any, .any, .any, .any, .any, .any, .any, .any, .any, .any, .any, .any, .any, .any, .any, .any, .any, .any, .any, .any, .any, .any, .any, .any, .any, .any, .any, .any, .any, .any, .any, .any, .any, .any, .any, .any, .any, .any, .any, .any, .any, .any, .any, .any, .any, .any, .any, .any, .any, .any, .any, .any, .any, .any, .any, .any, .any, .any, .any, .any, .any, .any, .any, .any, .any, .any, .any, .any, .any, .any, .any, .any, .any, .any, .any, .any, .any, .any], [], [(0, .cells 28 [.hole, .hole, .hole, .hole, .hole, .holeD 43, .hole, .hole]), (1, .cells 28 [.hole, .hole, .hole, .hole, .hole, .hole, .hole, .hole]), (2, .cells 30 [.hole, .hole, .hole, .hole, .hole, .hole, .hole, .hole])], 3⟩, exitF none [(1, ⟨[.any, .any, .ptr 0 0, .any, .ptr 1 0, .ptr 2 0, .hole, .hole, .hole, .any, .any, .any, .any, .any, .any, .any, .any, .any, .any, .any, .any, .any, .any, .any, .any, .any, .any, .any, .any, .any, .any, .any, .any, .any, .any, .any, .any, .any, .any, .any, .any, .any, .any, .any, .any, .any, .any, .any, .any, .any, .any, .any, .any, .any, .any, .any, .any, .any, .any, .any, .any, .any, .any, .any, .any, .any, .any, .any, .any, .any, .any, .any, .any, .any, .any, .any, .any, .any, .any, .any, .any, .any, .any, .any, .any, .any, .any, .any, .any, .any, .any, .any, .any, .any], [], [(0, .cells 28 [.hole, .hole, .hole, .hole, .hole, .holeD 43, .hole, .hole]), (1, .cells 28 [.hole, .hole, .hole, .hole, .hole, .hole, .hole, .hole]), (2, .cells 30 [.hole, .hole, .hole, .hole, .hole, .hole, .hole, .hole])], 3⟩)] (some ⟨[.any, .any, .any, .any, .ptr 0 0, .ptr 1 0, .hole, .hole, .hole, .any, .any, .any, .any, .any, .any, .any, .any, .any, .any, .any, .any, .any, .any, .any, .any, .any, .any, .any, .any, .any, .any, .any, .any, .any, .any, .any, .any, .any, .any, .any, .any, .any, .any, .any, .any, .any, .any, .any, .any, .any, .any, .any, .any, .any, .any, .any, .any, .any, .any, .any, .any, .any, .any, .any, .any, .any, .any, .any, .any, .any, .any, .any, .any, .any, .any, .any, .any, .any, .any, .any, .any, .any, .any, .any, .any, .any, .any, .any, .any, .any, .any, .any, .any, .any], [], [(0, .cells 28 [.hole, .hole, .hole, .hole, .hole, .holeD 43, .hole, .hole]), (1, .cells 30 [.hole, .hole, .hole, .hole, .hole, .hole, .hole, .hole])], 2⟩), v_20_14⟩
def l_20_7 : Nat → Bool → Int → Int → Int → Int → Int → Int → (List (List Queued)) → (List Int) → Int → Int → Int → Int → Int → Int → (List Int) → Int → Int → Int → Int → Int → Int → Int → Bool → Bool → (Bool → Int → Int → Int → Int → Int → Int → (List (List Queued)) → (List Int) → Int → Int → Int → Int → Int → Int → Int → Bool → Bool → Prop) → Prop
  | 0 => fun _ _ _ _ _ _ _ _ _ _ _ _ _ _ _ _ _ _ _ _ _ _ _ _ _ _ => False
  | k + 1 => fun x1 x2 x3 x4 x5 x6 x7 x8 x9 x10 x11 x12 x13 x14 x15 x16 x17 x18 x19 x20 x21 x22 x23 x24 x25 kr ↦ br (inb (x9.getD 0 0) (↑x8.length : Int)) (br ((↑(List.length (x8.getD (x9.getD 0 0).toNat (env.d 43))) : Int) == 0) (V52 (Queue.mk (Policy.mk x3 x4 x5 x6) x7 x8 x9 x10) fun y28 ↦ l_20_7 k x1 x2 y28.policy.kind y28.policy.a y28.policy.b y28.policy.c y28.room y28.lists y28.vars y28.seed x11 x12 x13 x14 x15 x16 x17 x18 x19 x20 x21 x22 x23 x24 x25 kr) (br (x9.getD 1 0 == 0) (∃ k28, (V54 (Queue.mk (Policy.mk x3 x4 x5 x6) x7 x8 (x9.set 1 1) x10) (x9.getD 0 0) fun y29 ↦ tupV (encR54 y29) = tupV (encR54 k28)) ∧ ∃ k29, (V53 (Queue.mk (Policy.mk x3 x4 x5 x6) x7 x8 (x9.set 1 1) x10) (x9.getD 0 0) (IntKind.i64.wrap (k28 + x4)) fun y30 ↦ tupV (encR53 y30) = tupV (encR53 k29)) ∧ s_20_14 x1 x2 (x9.getD 0 0) (x8.getD (x9.getD 0 0).toNat (env.d 43)) k29.policy.kind k29.policy.a k29.policy.b k29.policy.c k29.room k29.lists k29.vars k29.seed x11 x12 x13 x14 x15 x16 x17 x18 x19 x20 x21 x22 x23 x24 x25 (fun y30 y31 y32 y33 y34 y35 y36 y37 y38 y39 y40 y41 y42 y43 y44 y45 y46 y47 y48 y49 y50 y51 y52 y53 y54 ↦ l_20_7 k y30 y31 y32 y33 y34 y35 y36 y37 y38 y39 y40 y41 y42 y43 y44 y45 y46 y47 y48 y49 y50 y51 y52 y53 y54 kr) kr) (s_20_14 x1 x2 (x9.getD 0 0) (x8.getD (x9.getD 0 0).toNat (env.d 43)) x3 x4 x5 x6 x7 x8 x9 x10 x11 x12 x13 x14 x15 x16 x17 x18 x19 x20 x21 x22 x23 x24 x25 (fun y28 y29 y30 y31 y32 y33 y34 y35 y36 y37 y38 y39 y40 y41 y42 y43 y44 y45 y46 y47 y48 y49 y50 y51 y52 ↦ l_20_7 k y28 y29 y30 y31 y32 y33 y34 y35 y36 y37 y38 y39 y40 y41 y42 y43 y44 y45 y46 y47 y48 y49 y50 y51 y52 kr) kr))) False
def w_20_7 (k : Nat) (vs : List (SV env.T)) (K : Ex → List (SV env.T) → Prop) : Prop :=
  dCB vs fun x1 vs => dCN vs fun vs => dCI .i64 vs fun x2 vs => dCI .i64 vs fun x3 vs => dCI .i64 vs fun x4 vs => dCI .i64 vs fun x5 vs => dCI .i64 vs fun x6 vs => dCI .i64 vs fun x7 vs => dCD 43 vs fun x8 vs => dCA .i64 8 vs fun x9 vs => dCI .u64 vs fun x10 vs => dCI .i64 vs fun x11 vs => dCI .i64 vs fun x12 vs => dCI .i64 vs fun x13 vs => dCI .i64 vs fun x14 vs => dCI .i64 vs fun x15 vs => dCN vs fun vs => dCA .i64 8 vs fun x16 vs => dCI .u64 vs fun x17 vs => dCI .i64 vs fun x18 vs => dCI .i64 vs fun x19 vs => dCI .i64 vs fun x20 vs => dCI .i64 vs fun x21 vs => dCI .i64 vs fun x22 vs => dCI .i64 vs fun x23 vs => dCB vs fun x24 vs => dCB vs fun x25 vs => dCE vs (l_20_7 k x1 x2 x3 x4 x5 x6 x7 x8 x9 x10 x11 x12 x13 x14 x15 x16 x17 x18 x19 x20 x21 x22 x23 x24 x25 (fun y1 y2 y3 y4 y5 y6 y7 y8 y9 y10 y11 y12 y13 y14 y15 y16 y17 y18 => K .ret [.bool y1, .nils, .int .i64 y2, .int .i64 y3, .int .i64 y4, .int .i64 y5, .int .i64 y6, .int .i64 y7, .dat 43 y8, .arr .i64 8 y9, .int .u64 y10, .int .i64 y11, .int .i64 y12, .int .i64 y13, .int .i64 y14, .int .i64 y15, .int .i64 y16, .bool y17, .bool y18]))
def p_20_7 : Piece env := ⟨⟨[.any, .any, .ptr 0 0, .any, .ptr 1 0, .ptr 2 0, .hole, .hole, .hole, .any, .any, .any, .any, .any, .any, .any, .any, .any, .any, .any, .any, .any, .any, .any, .any, .any, .any, .any, .any, .any, .any, .any, .any, .any, .any, .any, .any, .any, .any, .any, .any, .any, .any, .any, .any, .any, .any, .any, .any, .any, .any, .any, .any, .any, .any, .any, .any, .any, .any, .any, .any, .any, .any, .any, .any, .any, .any, .any, .any, .any, .any, .any, .any, .any, .any, .any, .any, .any, .any, .any, .any, .any, .any, .any, .any, .any, .any, .any, .any, .any, .any, .any, .any, .any], [], [(0, .cells 28 [.hole, .hole, .hole, .hole, .hole, .holeD 43, .hole, .hole]), (1, .cells 28 [.hole, .hole, .hole, .hole, .hole, .hole, .hole, .hole]), (2, .cells 30 [.hole, .hole, .hole, .hole, .hole, .hole, .hole, .hole])], 3⟩, exitF none [] (some ⟨[.any, .any, .any, .any, .ptr 0 0, .ptr 1 0, .hole, .hole, .hole, .any, .any, .any, .any, .any, .any, .any, .any, .any, .any, .any, .any, .any, .any, .any, .any, .any, .any, .any, .any, .any, .any, .any, .any, .any, .any, .any, .any, .any, .any, .any, .any, .any, .any, .any, .any, .any, .any, .any, .any, .any, .any, .any, .any, .any, .any, .any, .any, .any, .any, .any, .any, .any, .any, .any, .any, .any, .any, .any, .any, .any, .any, .any, .any, .any, .any, .any, .any, .any, .any, .any, .any, .any, .any, .any, .any, .any, .any, .any, .any, .any, .any, .any, .any, .any], [], [(0, .cells 28 [.hole, .hole, .hole, .hole, .hole, .holeD 43, .hole, .hole]), (1, .cells 30 [.hole, .hole, .hole, .hole, .hole, .hole, .hole, .hole])], 2⟩), fun vs K => ∃ k, w_20_7 k vs K⟩
noncomputable def B20 : Queue → Int → (Y20 → Prop) → Prop :=
  fun x0 x1 K ↦ V48 x0 x1 fun y3 ↦ br (y3 != 0) (K (Queue.mk (Policy.mk 0 0 0 0) 0 [] (List.replicate 8 0) 0, Packet.mk 0 0 0 0 0 0 false false, false, [], y3)) (V27 (Queue.mk x0.policy x0.room x0.lists (x0.vars.set 7 x1) x0.seed) fun y4 ↦ br (y4 == 0) (V49 (Queue.mk x0.policy x0.room x0.lists (x0.vars.set 7 x1) x0.seed) (-1) [] fun y5 ↦ K (y5, Packet.mk 0 0 0 0 0 0 false false, false, [], 0)) (∃ k5, l_20_7 k5 false 0 x0.policy.kind x0.policy.a x0.policy.b x0.policy.c x0.room x0.lists (x0.vars.set 7 x1) x0.seed 0 0 0 0 0 (List.replicate 8 0) 0 0 0 0 0 0 0 false false fun y6 y7 y8 y9 y10 y11 y12 y13 y14 y15 y16 y17 y18 y19 y20 y21 y22 y23 ↦ K (Queue.mk (Policy.mk y8 y9 y10 y11) y12 y13 y14 y15, Packet.mk y16 y17 y18 y19 y20 y21 y22 y23, y6, [], y7)))
theorem V20_ex : ∃ V : Queue → Int → (Y20 → Prop) → Prop, V = B20 := ⟨_, rfl⟩
noncomputable def V20 : Queue → Int → (Y20 → Prop) → Prop := Classical.choose V20_ex
theorem V20_eq : V20 = B20 := Classical.choose_spec V20_ex
theorem pooq_20_14_20 : PiecesOk Try.prog env (ctxG env false [] R53 [] []) 20 b20 :=
  pieces_at (L := []) (S := []) (fun _ => rfl) (fun _ => rfl) (by kernel_rfl) (by kernel_rfl) (fun _ hq => by cases hq) (fun _ hq => by cases hq)
theorem booq_20_14 : BodiesOk Try.prog env (ctxG env false [] R53 [] []) := bodies_okG (ks := []) (by kernel_rfl) (fun _ hq => by cases hq)
theorem stoq_20_14 (x1 : Bool) (x2 : Int) (x3 : Int) (x4 : (List Queued)) (x5 : Int) (x6 : Int) (x7 : Int) (x8 : Int) (x9 : Int) (x10 : (List (List Queued))) (x11 : (List Int)) (x12 : Int) (x13 : Int) (x14 : Int) (x15 : Int) (x16 : Int) (x17 : Int) (x18 : (List Int)) (x19 : Int) (x20 : Int) (x21 : Int) (x22 : Int) (x23 : Int) (x24 : Int) (x25 : Int) (x26 : Bool) (x27 : Bool) (K : Ex → List (SV env.T) → Prop) : s_20_14  x1 x2 x3 x4 x5 x6 x7 x8 x9 x10 x11 x12 x13 x14 x15 x16 x17 x18 x19 x20 x21 x22 x23 x24 x25 x26 x27 (fun y1 y2 y3 y4 y5 y6 y7 y8 y9 y10 y11 y12 y13 y14 y15 y16 y17 y18 y19 y20 y21 y22 y23 y24 y25 => K (.exit 1) [.bool y1, .nils, .int .i64 y2, .int .i64 y3, .int .i64 y4, .int .i64 y5, .int .i64 y6, .int .i64 y7, .dat 43 y8, .arr .i64 8 y9, .int .u64 y10, .int .i64 y11, .int .i64 y12, .int .i64 y13, .int .i64 y14, .int .i64 y15, .nils, .arr .i64 8 y16, .int .u64 y17, .int .i64 y18, .int .i64 y19, .int .i64 y20, .int .i64 y21, .int .i64 y22, .int .i64 y23, .bool y24, .bool y25]) (fun y1 y2 y3 y4 y5 y6 y7 y8 y9 y10 y11 y12 y13 y14 y15 y16 y17 y18 => K .ret [.bool y1, .nils, .int .i64 y2, .int .i64 y3, .int .i64 y4, .int .i64 y5, .int .i64 y6, .int .i64 y7, .dat 43 y8, .arr .i64 8 y9, .int .u64 y10, .int .i64 y11, .int .i64 y12, .int .i64 y13, .int .i64 y14, .int .i64 y15, .int .i64 y16, .bool y17, .bool y18]) = vcCode env (ctxG env false [] R53 [] []) 2000 20 (seqAt b20 14) (insSt q_20_14.head [.bool x1, .nils, .int .i64 x2, .int .i64 x3, .dat 45 x4, .int .i64 x5, .int .i64 x6, .int .i64 x7, .int .i64 x8, .int .i64 x9, .dat 43 x10, .arr .i64 8 x11, .int .u64 x12, .int .i64 x13, .int .i64 x14, .int .i64 x15, .int .i64 x16, .int .i64 x17, .nils, .arr .i64 8 x18, .int .u64 x19, .int .i64 x20, .int .i64 x21, .int .i64 x22, .int .i64 x23, .int .i64 x24, .int .i64 x25, .bool x26, .bool x27]) (outP env q_20_14 K) := by kernel_rfl
theorem wioq_20_14 (vs : List (SV env.T)) (K : Ex → List (SV env.T) → Prop) (h : v_20_14 vs K) : ∃ x1 : Bool, ∃ x2 : Int, ∃ x3 : Int, ∃ x4 : (List Queued), ∃ x5 : Int, ∃ x6 : Int, ∃ x7 : Int, ∃ x8 : Int, ∃ x9 : Int, ∃ x10 : (List (List Queued)), ∃ x11 : (List Int), ∃ x12 : Int, ∃ x13 : Int, ∃ x14 : Int, ∃ x15 : Int, ∃ x16 : Int, ∃ x17 : Int, ∃ x18 : (List Int), ∃ x19 : Int, ∃ x20 : Int, ∃ x21 : Int, ∃ x22 : Int, ∃ x23 : Int, ∃ x24 : Int, ∃ x25 : Int, ∃ x26 : Bool, ∃ x27 : Bool, vs = [.bool x1, .nils, .int .i64 x2, .int .i64 x3, .dat 45 x4, .int .i64 x5, .int .i64 x6, .int .i64 x7, .int .i64 x8, .int .i64 x9, .dat 43 x10, .arr .i64 8 x11, .int .u64 x12, .int .i64 x13, .int .i64 x14, .int .i64 x15, .int .i64 x16, .int .i64 x17, .nils, .arr .i64 8 x18, .int .u64 x19, .int .i64 x20, .int .i64 x21, .int .i64 x22, .int .i64 x23, .int .i64 x24, .int .i64 x25, .bool x26, .bool x27] ∧ s_20_14  x1 x2 x3 x4 x5 x6 x7 x8 x9 x10 x11 x12 x13 x14 x15 x16 x17 x18 x19 x20 x21 x22 x23 x24 x25 x26 x27 (fun y1 y2 y3 y4 y5 y6 y7 y8 y9 y10 y11 y12 y13 y14 y15 y16 y17 y18 y19 y20 y21 y22 y23 y24 y25 => K (.exit 1) [.bool y1, .nils, .int .i64 y2, .int .i64 y3, .int .i64 y4, .int .i64 y5, .int .i64 y6, .int .i64 y7, .dat 43 y8, .arr .i64 8 y9, .int .u64 y10, .int .i64 y11, .int .i64 y12, .int .i64 y13, .int .i64 y14, .int .i64 y15, .nils, .arr .i64 8 y16, .int .u64 y17, .int .i64 y18, .int .i64 y19, .int .i64 y20, .int .i64 y21, .int .i64 y22, .int .i64 y23, .bool y24, .bool y25]) (fun y1 y2 y3 y4 y5 y6 y7 y8 y9 y10 y11 y12 y13 y14 y15 y16 y17 y18 => K .ret [.bool y1, .nils, .int .i64 y2, .int .i64 y3, .int .i64 y4, .int .i64 y5, .int .i64 y6, .int .i64 y7, .dat 43 y8, .arr .i64 8 y9, .int .u64 y10, .int .i64 y11, .int .i64 y12, .int .i64 y13, .int .i64 y14, .int .i64 y15, .int .i64 y16, .bool y17, .bool y18]) := by
  unfold v_20_14 at h
  replace h := dCB_spec h
  obtain ⟨x1, vs0, e0, h⟩ := h
  replace h := dCN_spec h
  obtain ⟨vs1, e1, h⟩ := h
  replace h := dCI_spec h
  obtain ⟨x2, vs2, e2, h⟩ := h
  replace h := dCI_spec h
  obtain ⟨x3, vs3, e3, h⟩ := h
  replace h := dCD_spec h
  obtain ⟨x4, vs4, e4, h⟩ := h
  replace h := dCI_spec h
  obtain ⟨x5, vs5, e5, h⟩ := h
  replace h := dCI_spec h
  obtain ⟨x6, vs6, e6, h⟩ := h
  replace h := dCI_spec h
  obtain ⟨x7, vs7, e7, h⟩ := h
  replace h := dCI_spec h
  obtain ⟨x8, vs8, e8, h⟩ := h
  replace h := dCI_spec h
  obtain ⟨x9, vs9, e9, h⟩ := h
  replace h := dCD_spec h
  obtain ⟨x10, vs10, e10, h⟩ := h
  replace h := dCA_spec h
  obtain ⟨x11, vs11, e11, h⟩ := h
  replace h := dCI_spec h
  obtain ⟨x12, vs12, e12, h⟩ := h
  replace h := dCI_spec h
  obtain ⟨x13, vs13, e13, h⟩ := h
  replace h := dCI_spec h
  obtain ⟨x14, vs14, e14, h⟩ := h
  replace h := dCI_spec h
  obtain ⟨x15, vs15, e15, h⟩ := h
  replace h := dCI_spec h
  obtain ⟨x16, vs16, e16, h⟩ := h
  replace h := dCI_spec h
  obtain ⟨x17, vs17, e17, h⟩ := h
  replace h := dCN_spec h
  obtain ⟨vs18, e18, h⟩ := h
  replace h := dCA_spec h
  obtain ⟨x18, vs19, e19, h⟩ := h
  replace h := dCI_spec h
  obtain ⟨x19, vs20, e20, h⟩ := h
  replace h := dCI_spec h
  obtain ⟨x20, vs21, e21, h⟩ := h
  replace h := dCI_spec h
  obtain ⟨x21, vs22, e22, h⟩ := h
  replace h := dCI_spec h
  obtain ⟨x22, vs23, e23, h⟩ := h
  replace h := dCI_spec h
  obtain ⟨x23, vs24, e24, h⟩ := h
  replace h := dCI_spec h
  obtain ⟨x24, vs25, e25, h⟩ := h
  replace h := dCI_spec h
  obtain ⟨x25, vs26, e26, h⟩ := h
  replace h := dCB_spec h
  obtain ⟨x26, vs27, e27, h⟩ := h
  replace h := dCB_spec h
  obtain ⟨x27, vs28, e28, h⟩ := h
  replace h := dCE_spec h
  obtain ⟨e, h⟩ := h
  exact ⟨x1, x2, x3, x4, x5, x6, x7, x8, x9, x10, x11, x12, x13, x14, x15, x16, x17, x18, x19, x20, x21, x22, x23, x24, x25, x26, x27, by rw [e0, e1, e2, e3, e4, e5, e6, e7, e8, e9, e10, e11, e12, e13, e14, e15, e16, e17, e18, e19, e20, e21, e22, e23, e24, e25, e26, e27, e28, e], h⟩
theorem oq_20_14 : PieceOk Try.prog env q_20_14 (seqAt b20 14) := by
  refine seq_step tab (ctxG_ok R53_ok false [] _ _) booq_20_14 (pieces_subS pooq_20_14_20 (by kernel_rfl)) 2000 ?_
  intro vs K h
  obtain ⟨x1, x2, x3, x4, x5, x6, x7, x8, x9, x10, x11, x12, x13, x14, x15, x16, x17, x18, x19, x20, x21, x22, x23, x24, x25, x26, x27, rfl, h⟩ := wioq_20_14 vs K h
  exact Eq.mp (stoq_20_14 x1 x2 x3 x4 x5 x6 x7 x8 x9 x10 x11 x12 x13 x14 x15 x16 x17 x18 x19 x20 x21 x22 x23 x24 x25 x26 x27 K) h
theorem pook_20_7_20 : PiecesOk Try.prog env (ctxG env false [] R53 [] [(20, [(14, q_20_14)])]) 20 b20 :=
  pieces_at (L := []) (S := [(14, q_20_14)]) (fun _ => rfl) (fun _ => rfl) (by kernel_rfl) (by kernel_rfl) (fun _ hq => by cases hq) (List.forall_mem_cons.2 ⟨fun _ => oq_20_14, (fun _ hq => by cases hq)⟩)
theorem book_20_7 : BodiesOk Try.prog env (ctxG env false [] R53 [] [(20, [(14, q_20_14)])]) := bodies_okG (ks := [20]) (by kernel_rfl) (List.forall_mem_cons.2 ⟨body_at (fn := f20) (body := b20) rfl hb20 pook_20_7_20, (fun _ hq => by cases hq)⟩)
theorem stok_20_7 (k : Nat) (x1 : Bool) (x2 : Int) (x3 : Int) (x4 : Int) (x5 : Int) (x6 : Int) (x7 : Int) (x8 : (List (List Queued))) (x9 : (List Int)) (x10 : Int) (x11 : Int) (x12 : Int) (x13 : Int) (x14 : Int) (x15 : Int) (x16 : (List Int)) (x17 : Int) (x18 : Int) (x19 : Int) (x20 : Int) (x21 : Int) (x22 : Int) (x23 : Int) (x24 : Bool) (x25 : Bool) (K : Ex → List (SV env.T) → Prop) : l_20_7 (k + 1) x1 x2 x3 x4 x5 x6 x7 x8 x9 x10 x11 x12 x13 x14 x15 x16 x17 x18 x19 x20 x21 x22 x23 x24 x25 (fun y1 y2 y3 y4 y5 y6 y7 y8 y9 y10 y11 y12 y13 y14 y15 y16 y17 y18 => K .ret [.bool y1, .nils, .int .i64 y2, .int .i64 y3, .int .i64 y4, .int .i64 y5, .int .i64 y6, .int .i64 y7, .dat 43 y8, .arr .i64 8 y9, .int .u64 y10, .int .i64 y11, .int .i64 y12, .int .i64 y13, .int .i64 y14, .int .i64 y15, .int .i64 y16, .bool y17, .bool y18]) = vcCode env (ctxG env false [] R53 [] [(20, [(14, q_20_14)])]) 2000 20 (loopAt b20 7) (insSt p_20_7.head [.bool x1, .nils, .int .i64 x2, .int .i64 x3, .int .i64 x4, .int .i64 x5, .int .i64 x6, .int .i64 x7, .dat 43 x8, .arr .i64 8 x9, .int .u64 x10, .int .i64 x11, .int .i64 x12, .int .i64 x13, .int .i64 x14, .int .i64 x15, .nils, .arr .i64 8 x16, .int .u64 x17, .int .i64 x18, .int .i64 x19, .int .i64 x20, .int .i64 x21, .int .i64 x22, .int .i64 x23, .bool x24, .bool x25]) (stepK p_20_7 (w_20_7 k) K) := by kernel_rfl
theorem wiok_20_7 (k : Nat) (vs : List (SV env.T)) (K : Ex → List (SV env.T) → Prop) (h : w_20_7 k vs K) : ∃ x1 : Bool, ∃ x2 : Int, ∃ x3 : Int, ∃ x4 : Int, ∃ x5 : Int, ∃ x6 : Int, ∃ x7 : Int, ∃ x8 : (List (List Queued)), ∃ x9 : (List Int), ∃ x10 : Int, ∃ x11 : Int, ∃ x12 : Int, ∃ x13 : Int, ∃ x14 : Int, ∃ x15 : Int, ∃ x16 : (List Int), ∃ x17 : Int, ∃ x18 : Int, ∃ x19 : Int, ∃ x20 : Int, ∃ x21 : Int, ∃ x22 : Int, ∃ x23 : Int, ∃ x24 : Bool, ∃ x25 : Bool, vs = [.bool x1, .nils, .int .i64 x2, .int .i64 x3, .int .i64 x4, .int .i64 x5, .int .i64 x6, .int .i64 x7, .dat 43 x8, .arr .i64 8 x9, .int .u64 x10, .int .i64 x11, .int .i64 x12, .int .i64 x13, .int .i64 x14, .int .i64 x15, .nils, .arr .i64 8 x16, .int .u64 x17, .int .i64 x18, .int .i64 x19, .int .i64 x20, .int .i64 x21, .int .i64 x22, .int .i64 x23, .bool x24, .bool x25] ∧ l_20_7 k x1 x2 x3 x4 x5 x6 x7 x8 x9 x10 x11 x12 x13 x14 x15 x16 x17 x18 x19 x20 x21 x22 x23 x24 x25 (fun y1 y2 y3 y4 y5 y6 y7 y8 y9 y10 y11 y12 y13 y14 y15 y16 y17 y18 => K .ret [.bool y1, .nils, .int .i64 y2, .int .i64 y3, .int .i64 y4, .int .i64 y5, .int .i64 y6, .int .i64 y7, .dat 43 y8, .arr .i64 8 y9, .int .u64 y10, .int .i64 y11, .int .i64 y12, .int .i64 y13, .int .i64 y14, .int .i64 y15, .int .i64 y16, .bool y17, .bool y18]) := by
  unfold w_20_7 at h
  replace h := dCB_spec h
  obtain ⟨x1, vs0, e0, h⟩ := h
  replace h := dCN_spec h
  obtain ⟨vs1, e1, h⟩ := h
  replace h := dCI_spec h
  obtain ⟨x2, vs2, e2, h⟩ := h
  replace h := dCI_spec h
  obtain ⟨x3, vs3, e3, h⟩ := h
  replace h := dCI_spec h
  obtain ⟨x4, vs4, e4, h⟩ := h
  replace h := dCI_spec h
  obtain ⟨x5, vs5, e5, h⟩ := h
  replace h := dCI_spec h
  obtain ⟨x6, vs6, e6, h⟩ := h
  replace h := dCI_spec h
  obtain ⟨x7, vs7, e7, h⟩ := h
  replace h := dCD_spec h
  obtain ⟨x8, vs8, e8, h⟩ := h
  replace h := dCA_spec h
  obtain ⟨x9, vs9, e9, h⟩ := h
  replace h := dCI_spec h
  obtain ⟨x10, vs10, e10, h⟩ := h
  replace h := dCI_spec h
  obtain ⟨x11, vs11, e11, h⟩ := h
  replace h := dCI_spec h
  obtain ⟨x12, vs12, e12, h⟩ := h
  replace h := dCI_spec h
  obtain ⟨x13, vs13, e13, h⟩ := h
  replace h := dCI_spec h
  obtain ⟨x14, vs14, e14, h⟩ := h
  replace h := dCI_spec h
  obtain ⟨x15, vs15, e15, h⟩ := h
  replace h := dCN_spec h
  obtain ⟨vs16, e16, h⟩ := h
  replace h := dCA_spec h
  obtain ⟨x16, vs17, e17, h⟩ := h
  replace h := dCI_spec h
  obtain ⟨x17, vs18, e18, h⟩ := h
  replace h := dCI_spec h
  obtain ⟨x18, vs19, e19, h⟩ := h
  replace h := dCI_spec h
  obtain ⟨x19, vs20, e20, h⟩ := h
  replace h := dCI_spec h
  obtain ⟨x20, vs21, e21, h⟩ := h
  replace h := dCI_spec h
  obtain ⟨x21, vs22, e22, h⟩ := h
  replace h := dCI_spec h
  obtain ⟨x22, vs23, e23, h⟩ := h
  replace h := dCI_spec h
  obtain ⟨x23, vs24, e24, h⟩ := h
  replace h := dCB_spec h
  obtain ⟨x24, vs25, e25, h⟩ := h
  replace h := dCB_spec h
  obtain ⟨x25, vs26, e26, h⟩ := h
  replace h := dCE_spec h
  obtain ⟨e, h⟩ := h
  exact ⟨x1, x2, x3, x4, x5, x6, x7, x8, x9, x10, x11, x12, x13, x14, x15, x16, x17, x18, x19, x20, x21, x22, x23, x24, x25, by rw [e0, e1, e2, e3, e4, e5, e6, e7, e8, e9, e10, e11, e12, e13, e14, e15, e16, e17, e18, e19, e20, e21, e22, e23, e24, e25, e26, e], h⟩
theorem zeok_20_7 (x1 : Bool) (x2 : Int) (x3 : Int) (x4 : Int) (x5 : Int) (x6 : Int) (x7 : Int) (x8 : (List (List Queued))) (x9 : (List Int)) (x10 : Int) (x11 : Int) (x12 : Int) (x13 : Int) (x14 : Int) (x15 : Int) (x16 : (List Int)) (x17 : Int) (x18 : Int) (x19 : Int) (x20 : Int) (x21 : Int) (x22 : Int) (x23 : Int) (x24 : Bool) (x25 : Bool) (K : Ex → List (SV env.T) → Prop) : l_20_7 0 x1 x2 x3 x4 x5 x6 x7 x8 x9 x10 x11 x12 x13 x14 x15 x16 x17 x18 x19 x20 x21 x22 x23 x24 x25 (fun y1 y2 y3 y4 y5 y6 y7 y8 y9 y10 y11 y12 y13 y14 y15 y16 y17 y18 => K .ret [.bool y1, .nils, .int .i64 y2, .int .i64 y3, .int .i64 y4, .int .i64 y5, .int .i64 y6, .int .i64 y7, .dat 43 y8, .arr .i64 8 y9, .int .u64 y10, .int .i64 y11, .int .i64 y12, .int .i64 y13, .int .i64 y14, .int .i64 y15, .int .i64 y16, .bool y17, .bool y18]) = False := by kernel_rfl
theorem ok_20_7 : PieceOk Try.prog env p_20_7 (.loop (loopAt b20 7)) := by
  refine loop_step (Wn := w_20_7) tab (ctxG_ok R53_ok false [] _ _) book_20_7 (pieces_sub pook_20_7_20 (by kernel_rfl)) rfl ?_ 2000 ?_
  · intro vs K h
    obtain ⟨x1, x2, x3, x4, x5, x6, x7, x8, x9, x10, x11, x12, x13, x14, x15, x16, x17, x18, x19, x20, x21, x22, x23, x24, x25, _, h⟩ := wiok_20_7 0 vs K h
    exact Eq.mp (zeok_20_7 x1 x2 x3 x4 x5 x6 x7 x8 x9 x10 x11 x12 x13 x14 x15 x16 x17 x18 x19 x20 x21 x22 x23 x24 x25 K) h
  · intro k vs K h
    obtain ⟨x1, x2, x3, x4, x5, x6, x7, x8, x9, x10, x11, x12, x13, x14, x15, x16, x17, x18, x19, x20, x21, x22, x23, x24, x25, rfl, h⟩ := wiok_20_7 (k + 1) vs K h
    exact Eq.mp (stok_20_7 k x1 x2 x3 x4 x5 x6 x7 x8 x9 x10 x11 x12 x13 x14 x15 x16 x17 x18 x19 x20 x21 x22 x23 x24 x25 K) h
theorem po_20_20 : PiecesOk Try.prog env (ctxG env false [] R53 [(20, [(7, p_20_7)])] [(20, [(14, q_20_14)])]) 20 b20 :=
  pieces_at (L := [(7, p_20_7)]) (S := [(14, q_20_14)]) (fun _ => rfl) (fun _ => rfl) (by kernel_rfl) (by kernel_rfl) (List.forall_mem_cons.2 ⟨fun _ => ok_20_7, (fun _ hq => by cases hq)⟩) (List.forall_mem_cons.2 ⟨fun _ => oq_20_14, (fun _ hq => by cases hq)⟩)
theorem bo_20 : BodiesOk Try.prog env (ctxG env false [] R53 [(20, [(7, p_20_7)])] [(20, [(14, q_20_14)])]) := bodies_okG (ks := [20]) (by kernel_rfl) (List.forall_mem_cons.2 ⟨body_at (fn := f20) (body := b20) rfl hb20 po_20_20, (fun _ hq => by cases hq)⟩)
theorem eq_20 (x0 : Queue) (x1 : Int) (K : Y20 → Prop) : vcCode env (ctxG env false [] R53 [(20, [(7, p_20_7)])] [(20, [(14, q_20_14)])]) 2000 20 b20 (entry env f20 [v28 x0, v3 x1]) (finR env f20 decR20 K) = B20 x0 x1 K := by kernel_rfl
noncomputable def rule20 : Nat × Rule env := (20, ruleF env decA20 encR20 fun x => V20 x.1 x.2)
theorem r20 : RuleOk Try.prog env 20 rule20.2 :=
  rule_fun tab (ctxG_ok R53_ok false [] _ _) bo_20 (f := 20) (fn := f20) rfl hb20 po_20_20 2000 encA20 hA20 hR20 hD20 (fun _ => of_decide_eq_true (by kernel_rfl)) (fun x K => (eq_20 x.1 x.2 K).trans (by rw [V20_eq]))
noncomputable def R20 : List (Nat × Rule env) := rule20 :: R53
theorem R20_ok : AllOk Try.prog env R20 := ⟨r20, R53_ok⟩
-- 58 queuelab/queuelabref18.SameList
noncomputable def f58 : Func := Try.f58
noncomputable def b58 : Code := (Try.f58.body).getD .skip
abbrev X58 := (List Queued) × (List Queued)
def encA58 (x : X58) : List (SV env.T) := [v43 x.1, v43 x.2]
def decA58 (l : List (SV env.T)) : Option X58 := match l with
  | [s0, s1] => match u43 s0, u43 s1 with
    | some x0, some x1 => some (x0, x1)
    | _, _ => none
  | _ => none
theorem hA58 (l : List (SV env.T)) (x : X58) (h : decA58 l = some x) : WkA env.has l (encA58 x) := by
  unfold decA58 at h; split at h
  · split at h
    · rename_i h0 h1; cases h; exact (.cons (u43_wk h0) (.cons (u43_wk h1) .nil))
    · cases h
  · cases h
abbrev Y58 := Bool
def encR58 (x : Y58) : List (SV env.T) := [v4 x]
def decR58 (l : List (SV env.T)) : Option Y58 := match l with
  | [s0] => match u4 s0 with
    | some x0 => some (x0)
    | _ => none
  | _ => none
theorem hR58 (l : List (SV env.T)) (x : Y58) (h : decR58 l = some x) : WkA env.has l (encR58 x) := by
  unfold decR58 at h; split at h
  · split at h
    · rename_i h0; cases h; exact (.cons (u4_wk h0) .nil)
    · cases h
  · cases h
theorem hD58 (y : Y58) : isDataV (tupV (encR58 y)) = true := rfl
theorem hb58 : f58.body = some b58 := by kernel_rfl
def l_58_4 : Nat → (List Queued) → (List Queued) → Bool → Int → (Bool → Prop) → (Bool → Prop) → Prop
  | 0 => fun _ _ _ _ _ _ => False
  | k + 1 => fun x1 x2 x3 x4 kr k0 ↦ br (decide (x4 < (↑x1.length : Int))) (br (inb x4 (↑x1.length : Int)) (br (inb x4 (↑x2.length : Int)) (br (!andb ((x1.getD x4.toNat (env.d 45)).p.flow == (x2.getD x4.toNat (env.d 45)).p.flow) (andb ((x1.getD x4.toNat (env.d 45)).p.sub == (x2.getD x4.toNat (env.d 45)).p.sub) (andb ((x1.getD x4.toNat (env.d 45)).p.number == (x2.getD x4.toNat (env.d 45)).p.number) (andb ((x1.getD x4.toNat (env.d 45)).p.data == (x2.getD x4.toNat (env.d 45)).p.data) (andb ((x1.getD x4.toNat (env.d 45)).p.size == (x2.getD x4.toNat (env.d 45)).p.size) (andb ((x1.getD x4.toNat (env.d 45)).p.sent == (x2.getD x4.toNat (env.d 45)).p.sent) (andb ((x1.getD x4.toNat (env.d 45)).p.able == (x2.getD x4.toNat (env.d 45)).p.able) (andb ((x1.getD x4.toNat (env.d 45)).p.marked == (x2.getD x4.toNat (env.d 45)).p.marked) ((x1.getD x4.toNat (env.d 45)).at_ == (x2.getD x4.toNat (env.d 45)).at_))))))))) (kr false) (l_58_4 k x1 x2 x3 (IntKind.i64.wrap (x4 + 1)) kr k0)) False) False) (k0 x3)
def w_58_4 (k : Nat) (vs : List (SV env.T)) (K : Ex → List (SV env.T) → Prop) : Prop :=
  dCD 45 vs fun x1 vs => dCD 45 vs fun x2 vs => dCB vs fun x3 vs => dCI .i64 vs fun x4 vs => dCE vs (l_58_4 k x1 x2 x3 x4 (fun y1 => K .ret [.bool y1]) (fun y1 => K (.exit 0) [.bool y1]))
def p_58_4 : Piece env := ⟨⟨[.holeD 45, .holeD 45, .any, .any, .hole, .hole, .any, .any, .any, .any, .any, .any, .any, .any, .any, .any, .any, .any, .any, .any, .any, .any, .any, .any, .any, .any], [], [], 0⟩, exitF none [(0, ⟨[.any, .any, .any, .any, .hole, .any, .any, .any, .any, .any, .any, .any, .any, .any, .any, .any, .any, .any, .any, .any, .any, .any, .any, .any, .any, .any], [], [], 0⟩)] (some ⟨[.any, .any, .any, .any, .hole, .any, .any, .any, .any, .any, .any, .any, .any, .any, .any, .any, .any, .any, .any, .any, .any, .any, .any, .any, .any, .any], [], [], 0⟩), fun vs K => ∃ k, w_58_4 k vs K⟩
noncomputable def B58 : (List Queued) → (List Queued) → (Y58 → Prop) → Prop :=
  fun x0 x1 K ↦ br ((↑x0.length : Int) != (↑x1.length : Int)) (K false) (∃ k3, l_58_4 k3 x0 x1 false 0 K fun _ ↦ K true)
theorem V58_ex : ∃ V : (List Queued) → (List Queued) → (Y58 → Prop) → Prop, V = B58 := ⟨_, rfl⟩
noncomputable def V58 : (List Queued) → (List Queued) → (Y58 → Prop) → Prop := Classical.choose V58_ex
theorem V58_eq : V58 = B58 := Classical.choose_spec V58_ex
theorem pook_58_4_58 : PiecesOk Try.prog env (ctxG env false [] R20 [] []) 58 b58 :=
  pieces_at (L := []) (S := []) (fun _ => rfl) (fun _ => rfl) (by kernel_rfl) (by kernel_rfl) (fun _ hq => by cases hq) (fun _ hq => by cases hq)
theorem book_58_4 : BodiesOk Try.prog env (ctxG env false [] R20 [] []) := bodies_okG (ks := []) (by kernel_rfl) (fun _ hq => by cases hq)
theorem stok_58_4 (k : Nat) (x1 : (List Queued)) (x2 : (List Queued)) (x3 : Bool) (x4 : Int) (K : Ex → List (SV env.T) → Prop) : l_58_4 (k + 1) x1 x2 x3 x4 (fun y1 => K .ret [.bool y1]) (fun y1 => K (.exit 0) [.bool y1]) = vcCode env (ctxG env false [] R20 [] []) 2000 58 (loopAt b58 4) (insSt p_58_4.head [.dat 45 x1, .dat 45 x2, .bool x3, .int .i64 x4]) (stepK p_58_4 (w_58_4 k) K) := by kernel_rfl
theorem wiok_58_4 (k : Nat) (vs : List (SV env.T)) (K : Ex → List (SV env.T) → Prop) (h : w_58_4 k vs K) : ∃ x1 : (List Queued), ∃ x2 : (List Queued), ∃ x3 : Bool, ∃ x4 : Int, vs = [.dat 45 x1, .dat 45 x2, .bool x3, .int .i64 x4] ∧ l_58_4 k x1 x2 x3 x4 (fun y1 => K .ret [.bool y1]) (fun y1 => K (.exit 0) [.bool y1]) := by
  unfold w_58_4 at h
  replace h := dCD_spec h
  obtain ⟨x1, vs0, e0, h⟩ := h
  replace h := dCD_spec h
  obtain ⟨x2, vs1, e1, h⟩ := h
  replace h := dCB_spec h
  obtain ⟨x3, vs2, e2, h⟩ := h
  replace h := dCI_spec h
  obtain ⟨x4, vs3, e3, h⟩ := h
  replace h := dCE_spec h
  obtain ⟨e, h⟩ := h
  exact ⟨x1, x2, x3, x4, by rw [e0, e1, e2, e3, e], h⟩
theorem zeok_58_4 (x1 : (List Queued)) (x2 : (List Queued)) (x3 : Bool) (x4 : Int) (K : Ex → List (SV env.T) → Prop) : l_58_4 0 x1 x2 x3 x4 (fun y1 => K .ret [.bool y1]) (fun y1 => K (.exit 0) [.bool y1]) = False := by kernel_rfl
theorem ok_58_4 : PieceOk Try.prog env p_58_4 (.loop (loopAt b58 4)) := by
  refine loop_step (Wn := w_58_4) tab (ctxG_ok R20_ok false [] _ _) book_58_4 (pieces_sub pook_58_4_58 (by kernel_rfl)) rfl ?_ 2000 ?_
  · intro vs K h
    obtain ⟨x1, x2, x3, x4, _, h⟩ := wiok_58_4 0 vs K h
    exact Eq.mp (zeok_58_4 x1 x2 x3 x4 K) h
  · intro k vs K h
    obtain ⟨x1, x2, x3, x4, rfl, h⟩ := wiok_58_4 (k + 1) vs K h
    exact Eq.mp (stok_58_4 k x1 x2 x3 x4 K) h
theorem po_58_58 : PiecesOk Try.prog env (ctxG env false [] R20 [(58, [(4, p_58_4)])] []) 58 b58 :=
  pieces_at (L := [(4, p_58_4)]) (S := []) (fun _ => rfl) (fun _ => rfl) (by kernel_rfl) (by kernel_rfl) (List.forall_mem_cons.2 ⟨fun _ => ok_58_4, (fun _ hq => by cases hq)⟩) (fun _ hq => by cases hq)
theorem bo_58 : BodiesOk Try.prog env (ctxG env false [] R20 [(58, [(4, p_58_4)])] []) := bodies_okG (ks := [58]) (by kernel_rfl) (List.forall_mem_cons.2 ⟨body_at (fn := f58) (body := b58) rfl hb58 po_58_58, (fun _ hq => by cases hq)⟩)
theorem eq_58 (x0 : (List Queued)) (x1 : (List Queued)) (K : Y58 → Prop) : vcCode env (ctxG env false [] R20 [(58, [(4, p_58_4)])] []) 2000 58 b58 (entry env f58 [v43 x0, v43 x1]) (finR env f58 decR58 K) = B58 x0 x1 K := by kernel_rfl
noncomputable def rule58 : Nat × Rule env := (58, ruleF env decA58 encR58 fun x => V58 x.1 x.2)
theorem r58 : RuleOk Try.prog env 58 rule58.2 :=
  rule_fun tab (ctxG_ok R20_ok false [] _ _) bo_58 (f := 58) (fn := f58) rfl hb58 po_58_58 2000 encA58 hA58 hR58 hD58 (fun _ => of_decide_eq_true (by kernel_rfl)) (fun x K => (eq_58 x.1 x.2 K).trans (by rw [V58_eq]))
noncomputable def R58 : List (Nat × Rule env) := rule58 :: R20
theorem R58_ok : AllOk Try.prog env R58 := ⟨r58, R20_ok⟩
-- 23 queuelab/queuelabref18.Same
noncomputable def f23 : Func := Try.f23
noncomputable def b23 : Code := (Try.f23.body).getD .skip
abbrev X23 := Queue × Queue
def encA23 (x : X23) : List (SV env.T) := [v28 x.1, v28 x.2]
def decA23 (l : List (SV env.T)) : Option X23 := match l with
  | [s0, s1] => match u28 s0, u28 s1 with
    | some x0, some x1 => some (x0, x1)
    | _, _ => none
  | _ => none
theorem hA23 (l : List (SV env.T)) (x : X23) (h : decA23 l = some x) : WkA env.has l (encA23 x) := by
  unfold decA23 at h; split at h
  · split at h
    · rename_i h0 h1; cases h; exact (.cons (u28_wk h0) (.cons (u28_wk h1) .nil))
    · cases h
  · cases h
abbrev Y23 := Bool
def encR23 (x : Y23) : List (SV env.T) := [v4 x]
def decR23 (l : List (SV env.T)) : Option Y23 := match l with
  | [s0] => match u4 s0 with
    | some x0 => some (x0)
    | _ => none
  | _ => none
theorem hR23 (l : List (SV env.T)) (x : Y23) (h : decR23 l = some x) : WkA env.has l (encR23 x) := by
  unfold decR23 at h; split at h
  · split at h
    · rename_i h0; cases h; exact (.cons (u4_wk h0) .nil)
    · cases h
  · cases h
theorem hD23 (y : Y23) : isDataV (tupV (encR23 y)) = true := rfl
theorem hb23 : f23.body = some b23 := by kernel_rfl
def l_23_4 : Nat → Bool → Int → Int → Int → Int → Int → Int → (List (List Queued)) → (List Int) → Int → Int → Int → Int → Int → Int → (List (List Queued)) → (List Int) → Int → (Bool → Prop) → (Bool → Prop) → Prop
  | 0 => fun _ _ _ _ _ _ _ _ _ _ _ _ _ _ _ _ _ _ _ _ => False
  | k + 1 => fun x1 x2 x3 x4 x5 x6 x7 x8 x9 x10 x11 x12 x13 x14 x15 x16 x17 x18 kr k0 ↦ br (decide (x2 < (↑x8.length : Int))) (br (inb x2 (↑x8.length : Int)) (br (inb x2 (↑x16.length : Int)) (∃ k22, (V58 (x8.getD x2.toNat (env.d 43)) (x16.getD x2.toNat (env.d 43)) fun y23 ↦ tupV (encR58 y23) = tupV (encR58 k22)) ∧ br (!k22) (kr false) (l_23_4 k x1 (IntKind.i64.wrap (x2 + 1)) x3 x4 x5 x6 x7 x8 x9 x10 x11 x12 x13 x14 x15 x16 x17 x18 kr k0)) False) False) (k0 x1)
def w_23_4 (k : Nat) (vs : List (SV env.T)) (K : Ex → List (SV env.T) → Prop) : Prop :=
  dCB vs fun x1 vs => dCI .i64 vs fun x2 vs => dCI .i64 vs fun x3 vs => dCI .i64 vs fun x4 vs => dCI .i64 vs fun x5 vs => dCI .i64 vs fun x6 vs => dCI .i64 vs fun x7 vs => dCD 43 vs fun x8 vs => dCA .i64 8 vs fun x9 vs => dCI .u64 vs fun x10 vs => dCI .i64 vs fun x11 vs => dCI .i64 vs fun x12 vs => dCI .i64 vs fun x13 vs => dCI .i64 vs fun x14 vs => dCI .i64 vs fun x15 vs => dCD 43 vs fun x16 vs => dCA .i64 8 vs fun x17 vs => dCI .u64 vs fun x18 vs => dCE vs (l_23_4 k x1 x2 x3 x4 x5 x6 x7 x8 x9 x10 x11 x12 x13 x14 x15 x16 x17 x18 (fun y1 => K .ret [.bool y1]) (fun y1 => K (.exit 0) [.bool y1]))
def p_23_4 : Piece env := ⟨⟨[.any, .any, .ptr 0 0, .ptr 1 0, .hole, .hole, .any, .any, .any, .any, .any, .any, .any, .any, .any, .any, .any, .any, .any, .any, .any, .any, .any, .any, .any, .any, .any, .any, .any, .any, .any, .any, .any, .any, .any, .any, .any, .any, .any, .any, .any, .any, .any, .any, .any, .any, .any, .any, .any, .any, .any, .any, .any, .any, .any, .any, .any, .any, .any, .any], [], [(0, .cells 28 [.hole, .hole, .hole, .hole, .hole, .holeD 43, .hole, .hole]), (1, .cells 28 [.hole, .hole, .hole, .hole, .hole, .holeD 43, .hole, .hole])], 2⟩, exitF none [(0, ⟨[.any, .any, .any, .any, .hole, .any, .any, .any, .any, .any, .any, .any, .any, .any, .any, .any, .any, .any, .any, .any, .any, .any, .any, .any, .any, .any, .any, .any, .any, .any, .any, .any, .any, .any, .any, .any, .any, .any, .any, .any, .any, .any, .any, .any, .any, .any, .any, .any, .any, .any, .any, .any, .any, .any, .any, .any, .any, .any, .any, .any], [], [], 0⟩)] (some ⟨[.any, .any, .any, .any, .hole, .any, .any, .any, .any, .any, .any, .any, .any, .any, .any, .any, .any, .any, .any, .any, .any, .any, .any, .any, .any, .any, .any, .any, .any, .any, .any, .any, .any, .any, .any, .any, .any, .any, .any, .any, .any, .any, .any, .any, .any, .any, .any, .any, .any, .any, .any, .any, .any, .any, .any, .any, .any, .any, .any, .any], [], [], 0⟩), fun vs K => ∃ k, w_23_4 k vs K⟩
def s_23_3 : Bool → Int → Int → Int → Int → Int → (List (List Queued)) → (List Int) → Int → Int → Int → Int → Int → Int → (List (List Queued)) → (List Int) → Int → (Bool → Prop) → Prop :=
  fun x1 x2 x3 x4 x5 x6 x7 x8 x9 x10 x11 x12 x13 x14 x15 x16 x17 kr ↦ ∃ k20, l_23_4 k20 x1 0 x2 x3 x4 x5 x6 x7 x8 x9 x10 x11 x12 x13 x14 x15 x16 x17 kr fun _ ↦ kr true
def v_23_3 (vs : List (SV env.T)) (K : Ex → List (SV env.T) → Prop) : Prop :=
  dCB vs fun x1 vs => dCI .i64 vs fun x2 vs => dCI .i64 vs fun x3 vs => dCI .i64 vs fun x4 vs => dCI .i64 vs fun x5 vs => dCI .i64 vs fun x6 vs => dCD 43 vs fun x7 vs => dCA .i64 8 vs fun x8 vs => dCI .u64 vs fun x9 vs => dCI .i64 vs fun x10 vs => dCI .i64 vs fun x11 vs => dCI .i64 vs fun x12 vs => dCI .i64 vs fun x13 vs => dCI .i64 vs fun x14 vs => dCD 43 vs fun x15 vs => dCA .i64 8 vs fun x16 vs => dCI .u64 vs fun x17 vs => dCE vs (s_23_3 x1 x2 x3 x4 x5 x6 x7 x8 x9 x10 x11 x12 x13 x14 x15 x16 x17 (fun y1 => K .ret [.bool y1]))
def q_23_3 : Piece env := ⟨⟨[.any, .any, .ptr 0 0, .ptr 1 0, .hole, .any, .any, .any, .any, .any, .any, .any, .any, .any, .any, .any, .any, .any, .any, .any, .any, .any, .any, .any, .any, .any, .any, .any, .any, .any, .any, .any, .any, .any, .any, .any, .any, .any, .any, .any, .any, .any, .any, .any, .any, .any, .any, .any, .any, .any, .any, .any, .any, .any, .any, .any, .any, .any, .any, .any], [], [(0, .cells 28 [.hole, .hole, .hole, .hole, .hole, .holeD 43, .hole, .hole]), (1, .cells 28 [.hole, .hole, .hole, .hole, .hole, .holeD 43, .hole, .hole])], 2⟩, exitF none [] (some ⟨[.any, .any, .any, .any, .hole, .any, .any, .any, .any, .any, .any, .any, .any, .any, .any, .any, .any, .any, .any, .any, .any, .any, .any, .any, .any, .any, .any, .any, .any, .any, .any, .any, .any, .any, .any, .any, .any, .any, .any, .any, .any, .any, .any, .any, .any, .any, .any, .any, .any, .any, .any, .any, .any, .any, .any, .any, .any, .any, .any, .any], [], [], 0⟩), v_23_3⟩
noncomputable def B23 : Queue → Queue → (Y23 → Prop) → Prop :=
  fun x0 x1 K ↦ br (!andb (x0.policy.kind == x1.policy.kind) (andb (x0.policy.a == x1.policy.a) (andb (x0.policy.b == x1.policy.b) (x0.policy.c == x1.policy.c)))) (K false) (br (x0.room != x1.room) (K false) (br (!x0.vars == x1.vars) (K false) (br (x0.seed != x1.seed) (K false) (br ((↑x0.lists.length : Int) != (↑x1.lists.length : Int)) (K false) (s_23_3 false x0.policy.kind x0.policy.a x0.policy.b x0.policy.c x0.room x0.lists x0.vars x0.seed x1.policy.kind x1.policy.a x1.policy.b x1.policy.c x1.room x1.lists x1.vars x1.seed K)))))
theorem V23_ex : ∃ V : Queue → Queue → (Y23 → Prop) → Prop, V = B23 := ⟨_, rfl⟩
noncomputable def V23 : Queue → Queue → (Y23 → Prop) → Prop := Classical.choose V23_ex
theorem V23_eq : V23 = B23 := Classical.choose_spec V23_ex
theorem pook_23_4_23 : PiecesOk Try.prog env (ctxG env false [] R58 [] []) 23 b23 :=
  pieces_at (L := []) (S := []) (fun _ => rfl) (fun _ => rfl) (by kernel_rfl) (by kernel_rfl) (fun _ hq => by cases hq) (fun _ hq => by cases hq)
theorem book_23_4 : BodiesOk Try.prog env (ctxG env false [] R58 [] []) := bodies_okG (ks := []) (by kernel_rfl) (fun _ hq => by cases hq)
theorem stok_23_4 (k : Nat) (x1 : Bool) (x2 : Int) (x3 : Int) (x4 : Int) (x5 : Int) (x6 : Int) (x7 : Int) (x8 : (List (List Queued))) (x9 : (List Int)) (x10 : Int) (x11 : Int) (x12 : Int) (x13 : Int) (x14 : Int) (x15 : Int) (x16 : (List (List Queued))) (x17 : (List Int)) (x18 : Int) (K : Ex → List (SV env.T) → Prop) : l_23_4 (k + 1) x1 x2 x3 x4 x5 x6 x7 x8 x9 x10 x11 x12 x13 x14 x15 x16 x17 x18 (fun y1 => K .ret [.bool y1]) (fun y1 => K (.exit 0) [.bool y1]) = vcCode env (ctxG env false [] R58 [] []) 2000 23 (loopAt b23 4) (insSt p_23_4.head [.bool x1, .int .i64 x2, .int .i64 x3, .int .i64 x4, .int .i64 x5, .int .i64 x6, .int .i64 x7, .dat 43 x8, .arr .i64 8 x9, .int .u64 x10, .int .i64 x11, .int .i64 x12, .int .i64 x13, .int .i64 x14, .int .i64 x15, .dat 43 x16, .arr .i64 8 x17, .int .u64 x18]) (stepK p_23_4 (w_23_4 k) K) := by kernel_rfl
theorem wiok_23_4 (k : Nat) (vs : List (SV env.T)) (K : Ex → List (SV env.T) → Prop) (h : w_23_4 k vs K) : ∃ x1 : Bool, ∃ x2 : Int, ∃ x3 : Int, ∃ x4 : Int, ∃ x5 : Int, ∃ x6 : Int, ∃ x7 : Int, ∃ x8 : (List (List Queued)), ∃ x9 : (List Int), ∃ x10 : Int, ∃ x11 : Int, ∃ x12 : Int, ∃ x13 : Int, ∃ x14 : Int, ∃ x15 : Int, ∃ x16 : (List (List Queued)), ∃ x17 : (List Int), ∃ x18 : Int, vs = [.bool x1, .int .i64 x2, .int .i64 x3, .int .i64 x4, .int .i64 x5, .int .i64 x6, .int .i64 x7, .dat 43 x8, .arr .i64 8 x9, .int .u64 x10, .int .i64 x11, .int .i64 x12, .int .i64 x13, .int .i64 x14, .int .i64 x15, .dat 43 x16, .arr .i64 8 x17, .int .u64 x18] ∧ l_23_4 k x1 x2 x3 x4 x5 x6 x7 x8 x9 x10 x11 x12 x13 x14 x15 x16 x17 x18 (fun y1 => K .ret [.bool y1]) (fun y1 => K (.exit 0) [.bool y1]) := by
  unfold w_23_4 at h
  replace h := dCB_spec h
  obtain ⟨x1, vs0, e0, h⟩ := h
  replace h := dCI_spec h
  obtain ⟨x2, vs1, e1, h⟩ := h
  replace h := dCI_spec h
  obtain ⟨x3, vs2, e2, h⟩ := h
  replace h := dCI_spec h
  obtain ⟨x4, vs3, e3, h⟩ := h
  replace h := dCI_spec h
  obtain ⟨x5, vs4, e4, h⟩ := h
  replace h := dCI_spec h
  obtain ⟨x6, vs5, e5, h⟩ := h
  replace h := dCI_spec h
  obtain ⟨x7, vs6, e6, h⟩ := h
  replace h := dCD_spec h
  obtain ⟨x8, vs7, e7, h⟩ := h
  replace h := dCA_spec h
  obtain ⟨x9, vs8, e8, h⟩ := h
  replace h := dCI_spec h
  obtain ⟨x10, vs9, e9, h⟩ := h
  replace h := dCI_spec h
  obtain ⟨x11, vs10, e10, h⟩ := h
  replace h := dCI_spec h
  obtain ⟨x12, vs11, e11, h⟩ := h
  replace h := dCI_spec h
  obtain ⟨x13, vs12, e12, h⟩ := h
  replace h := dCI_spec h
  obtain ⟨x14, vs13, e13, h⟩ := h
  replace h := dCI_spec h
  obtain ⟨x15, vs14, e14, h⟩ := h
  replace h := dCD_spec h
  obtain ⟨x16, vs15, e15, h⟩ := h
  replace h := dCA_spec h
  obtain ⟨x17, vs16, e16, h⟩ := h
  replace h := dCI_spec h
  obtain ⟨x18, vs17, e17, h⟩ := h
  replace h := dCE_spec h
  obtain ⟨e, h⟩ := h
  exact ⟨x1, x2, x3, x4, x5, x6, x7, x8, x9, x10, x11, x12, x13, x14, x15, x16, x17, x18, by rw [e0, e1, e2, e3, e4, e5, e6, e7, e8, e9, e10, e11, e12, e13, e14, e15, e16, e17, e], h⟩
theorem zeok_23_4 (x1 : Bool) (x2 : Int) (x3 : Int) (x4 : Int) (x5 : Int) (x6 : Int) (x7 : Int) (x8 : (List (List Queued))) (x9 : (List Int)) (x10 : Int) (x11 : Int) (x12 : Int) (x13 : Int) (x14 : Int) (x15 : Int) (x16 : (List (List Queued))) (x17 : (List Int)) (x18 : Int) (K : Ex → List (SV env.T) → Prop) : l_23_4 0 x1 x2 x3 x4 x5 x6 x7 x8 x9 x10 x11 x12 x13 x14 x15 x16 x17 x18 (fun y1 => K .ret [.bool y1]) (fun y1 => K (.exit 0) [.bool y1]) = False := by kernel_rfl
theorem ok_23_4 : PieceOk Try.prog env p_23_4 (.loop (loopAt b23 4)) := by
  refine loop_step (Wn := w_23_4) tab (ctxG_ok R58_ok false [] _ _) book_23_4 (pieces_sub pook_23_4_23 (by kernel_rfl)) rfl ?_ 2000 ?_
  · intro vs K h
    obtain ⟨x1, x2, x3, x4, x5, x6, x7, x8, x9, x10, x11, x12, x13, x14, x15, x16, x17, x18, _, h⟩ := wiok_23_4 0 vs K h
    exact Eq.mp (zeok_23_4 x1 x2 x3 x4 x5 x6 x7 x8 x9 x10 x11 x12 x13 x14 x15 x16 x17 x18 K) h
  · intro k vs K h
    obtain ⟨x1, x2, x3, x4, x5, x6, x7, x8, x9, x10, x11, x12, x13, x14, x15, x16, x17, x18, rfl, h⟩ := wiok_23_4 (k + 1) vs K h
    exact Eq.mp (stok_23_4 k x1 x2 x3 x4 x5 x6 x7 x8 x9 x10 x11 x12 x13 x14 x15 x16 x17 x18 K) h
theorem pooq_23_3_23 : PiecesOk Try.prog env (ctxG env false [] R58 [(23, [(4, p_23_4)])] []) 23 b23 :=
  pieces_at (L := [(4, p_23_4)]) (S := []) (fun _ => rfl) (fun _ => rfl) (by kernel_rfl) (by kernel_rfl) (List.forall_mem_cons.2 ⟨fun _ => ok_23_4, (fun _ hq => by cases hq)⟩) (fun _ hq => by cases hq)
theorem booq_23_3 : BodiesOk Try.prog env (ctxG env false [] R58 [(23, [(4, p_23_4)])] []) := bodies_okG (ks := [23]) (by kernel_rfl) (List.forall_mem_cons.2 ⟨body_at (fn := f23) (body := b23) rfl hb23 pooq_23_3_23, (fun _ hq => by cases hq)⟩)
theorem stoq_23_3 (x1 : Bool) (x2 : Int) (x3 : Int) (x4 : Int) (x5 : Int) (x6 : Int) (x7 : (List (List Queued))) (x8 : (List Int)) (x9 : Int) (x10 : Int) (x11 : Int) (x12 : Int) (x13 : Int) (x14 : Int) (x15 : (List (List Queued))) (x16 : (List Int)) (x17 : Int) (K : Ex → List (SV env.T) → Prop) : s_23_3  x1 x2 x3 x4 x5 x6 x7 x8 x9 x10 x11 x12 x13 x14 x15 x16 x17 (fun y1 => K .ret [.bool y1]) = vcCode env (ctxG env false [] R58 [(23, [(4, p_23_4)])] []) 2000 23 (seqAt b23 3) (insSt q_23_3.head [.bool x1, .int .i64 x2, .int .i64 x3, .int .i64 x4, .int .i64 x5, .int .i64 x6, .dat 43 x7, .arr .i64 8 x8, .int .u64 x9, .int .i64 x10, .int .i64 x11, .int .i64 x12, .int .i64 x13, .int .i64 x14, .dat 43 x15, .arr .i64 8 x16, .int .u64 x17]) (outP env q_23_3 K) := by kernel_rfl
theorem wioq_23_3 (vs : List (SV env.T)) (K : Ex → List (SV env.T) → Prop) (h : v_23_3 vs K) : ∃ x1 : Bool, ∃ x2 : Int, ∃ x3 : Int, ∃ x4 : Int, ∃ x5 : Int, ∃ x6 : Int, ∃ x7 : (List (List Queued)), ∃ x8 : (List Int), ∃ x9 : Int, ∃ x10 : Int, ∃ x11 : Int, ∃ x12 : Int, ∃ x13 : Int, ∃ x14 : Int, ∃ x15 : (List (List Queued)), ∃ x16 : (List Int), ∃ x17 : Int, vs = [.bool x1, .int .i64 x2, .int .i64 x3, .int .i64 x4, .int .i64 x5, .int .i64 x6, .dat 43 x7, .arr .i64 8 x8, .int .u64 x9, .int .i64 x10, .int .i64 x11, .int .i64 x12, .int .i64 x13, .int .i64 x14, .dat 43 x15, .arr .i64 8 x16, .int .u64 x17] ∧ s_23_3  x1 x2 x3 x4 x5 x6 x7 x8 x9 x10 x11 x12 x13 x14 x15 x16 x17 (fun y1 => K .ret [.bool y1]) := by
  unfold v_23_3 at h
  replace h := dCB_spec h
  obtain ⟨x1, vs0, e0, h⟩ := h
  replace h := dCI_spec h
  obtain ⟨x2, vs1, e1, h⟩ := h
  replace h := dCI_spec h
  obtain ⟨x3, vs2, e2, h⟩ := h
  replace h := dCI_spec h
  obtain ⟨x4, vs3, e3, h⟩ := h
  replace h := dCI_spec h
  obtain ⟨x5, vs4, e4, h⟩ := h
  replace h := dCI_spec h
  obtain ⟨x6, vs5, e5, h⟩ := h
  replace h := dCD_spec h
  obtain ⟨x7, vs6, e6, h⟩ := h
  replace h := dCA_spec h
  obtain ⟨x8, vs7, e7, h⟩ := h
  replace h := dCI_spec h
  obtain ⟨x9, vs8, e8, h⟩ := h
  replace h := dCI_spec h
  obtain ⟨x10, vs9, e9, h⟩ := h
  replace h := dCI_spec h
  obtain ⟨x11, vs10, e10, h⟩ := h
  replace h := dCI_spec h
  obtain ⟨x12, vs11, e11, h⟩ := h
  replace h := dCI_spec h
  obtain ⟨x13, vs12, e12, h⟩ := h
  replace h := dCI_spec h
  obtain ⟨x14, vs13, e13, h⟩ := h
  replace h := dCD_spec h
  obtain ⟨x15, vs14, e14, h⟩ := h
  replace h := dCA_spec h
  obtain ⟨x16, vs15, e15, h⟩ := h
  replace h := dCI_spec h
  obtain ⟨x17, vs16, e16, h⟩ := h
  replace h := dCE_spec h
  obtain ⟨e, h⟩ := h
  exact ⟨x1, x2, x3, x4, x5, x6, x7, x8, x9, x10, x11, x12, x13, x14, x15, x16, x17, by rw [e0, e1, e2, e3, e4, e5, e6, e7, e8, e9, e10, e11, e12, e13, e14, e15, e16, e], h⟩
theorem oq_23_3 : PieceOk Try.prog env q_23_3 (seqAt b23 3) := by
  refine seq_step tab (ctxG_ok R58_ok false [] _ _) booq_23_3 (pieces_subS pooq_23_3_23 (by kernel_rfl)) 2000 ?_
  intro vs K h
  obtain ⟨x1, x2, x3, x4, x5, x6, x7, x8, x9, x10, x11, x12, x13, x14, x15, x16, x17, rfl, h⟩ := wioq_23_3 vs K h
  exact Eq.mp (stoq_23_3 x1 x2 x3 x4 x5 x6 x7 x8 x9 x10 x11 x12 x13 x14 x15 x16 x17 K) h
theorem po_23_23 : PiecesOk Try.prog env (ctxG env false [] R58 [(23, [(4, p_23_4)])] [(23, [(3, q_23_3)])]) 23 b23 :=
  pieces_at (L := [(4, p_23_4)]) (S := [(3, q_23_3)]) (fun _ => rfl) (fun _ => rfl) (by kernel_rfl) (by kernel_rfl) (List.forall_mem_cons.2 ⟨fun _ => ok_23_4, (fun _ hq => by cases hq)⟩) (List.forall_mem_cons.2 ⟨fun _ => oq_23_3, (fun _ hq => by cases hq)⟩)
theorem bo_23 : BodiesOk Try.prog env (ctxG env false [] R58 [(23, [(4, p_23_4)])] [(23, [(3, q_23_3)])]) := bodies_okG (ks := [23]) (by kernel_rfl) (List.forall_mem_cons.2 ⟨body_at (fn := f23) (body := b23) rfl hb23 po_23_23, (fun _ hq => by cases hq)⟩)
theorem eq_23 (x0 : Queue) (x1 : Queue) (K : Y23 → Prop) : vcCode env (ctxG env false [] R58 [(23, [(4, p_23_4)])] [(23, [(3, q_23_3)])]) 2000 23 b23 (entry env f23 [v28 x0, v28 x1]) (finR env f23 decR23 K) = B23 x0 x1 K := by kernel_rfl
noncomputable def rule23 : Nat × Rule env := (23, ruleF env decA23 encR23 fun x => V23 x.1 x.2)
theorem r23 : RuleOk Try.prog env 23 rule23.2 :=
  rule_fun tab (ctxG_ok R58_ok false [] _ _) bo_23 (f := 23) (fn := f23) rfl hb23 po_23_23 2000 encA23 hA23 hR23 hD23 (fun _ => of_decide_eq_true (by kernel_rfl)) (fun x K => (eq_23 x.1 x.2 K).trans (by rw [V23_eq]))
noncomputable def R23 : List (Nat × Rule env) := rule23 :: R58
theorem R23_ok : AllOk Try.prog env R23 := ⟨r23, R58_ok⟩
-- 24 queuelab/queuelabref18.Packets
noncomputable def f24 : Func := Try.f24
noncomputable def b24 : Code := (Try.f24.body).getD .skip
abbrev X24 := (List Packet) × (List Packet)
def encA24 (x : X24) : List (SV env.T) := [v33 x.1, v33 x.2]
def decA24 (l : List (SV env.T)) : Option X24 := match l with
  | [s0, s1] => match u33 s0, u33 s1 with
    | some x0, some x1 => some (x0, x1)
    | _, _ => none
  | _ => none
theorem hA24 (l : List (SV env.T)) (x : X24) (h : decA24 l = some x) : WkA env.has l (encA24 x) := by
  unfold decA24 at h; split at h
  · split at h
    · rename_i h0 h1; cases h; exact (.cons (u33_wk h0) (.cons (u33_wk h1) .nil))
    · cases h
  · cases h
abbrev Y24 := Bool
def encR24 (x : Y24) : List (SV env.T) := [v4 x]
def decR24 (l : List (SV env.T)) : Option Y24 := match l with
  | [s0] => match u4 s0 with
    | some x0 => some (x0)
    | _ => none
  | _ => none
theorem hR24 (l : List (SV env.T)) (x : Y24) (h : decR24 l = some x) : WkA env.has l (encR24 x) := by
  unfold decR24 at h; split at h
  · split at h
    · rename_i h0; cases h; exact (.cons (u4_wk h0) .nil)
    · cases h
  · cases h
theorem hD24 (y : Y24) : isDataV (tupV (encR24 y)) = true := rfl
theorem hb24 : f24.body = some b24 := by kernel_rfl
def l_24_4 : Nat → (List Packet) → (List Packet) → Bool → Int → (Bool → Prop) → (Bool → Prop) → Prop
  | 0 => fun _ _ _ _ _ _ => False
  | k + 1 => fun x1 x2 x3 x4 kr k0 ↦ br (decide (x4 < (↑x1.length : Int))) (br (inb x4 (↑x1.length : Int)) (br (inb x4 (↑x2.length : Int)) (br (!andb ((x1.getD x4.toNat (env.d 30)).flow == (x2.getD x4.toNat (env.d 30)).flow) (andb ((x1.getD x4.toNat (env.d 30)).sub == (x2.getD x4.toNat (env.d 30)).sub) (andb ((x1.getD x4.toNat (env.d 30)).number == (x2.getD x4.toNat (env.d 30)).number) (andb ((x1.getD x4.toNat (env.d 30)).data == (x2.getD x4.toNat (env.d 30)).data) (andb ((x1.getD x4.toNat (env.d 30)).size == (x2.getD x4.toNat (env.d 30)).size) (andb ((x1.getD x4.toNat (env.d 30)).sent == (x2.getD x4.toNat (env.d 30)).sent) (andb ((x1.getD x4.toNat (env.d 30)).able == (x2.getD x4.toNat (env.d 30)).able) ((x1.getD x4.toNat (env.d 30)).marked == (x2.getD x4.toNat (env.d 30)).marked)))))))) (kr false) (l_24_4 k x1 x2 x3 (IntKind.i64.wrap (x4 + 1)) kr k0)) False) False) (k0 x3)
def w_24_4 (k : Nat) (vs : List (SV env.T)) (K : Ex → List (SV env.T) → Prop) : Prop :=
  dCD 30 vs fun x1 vs => dCD 30 vs fun x2 vs => dCB vs fun x3 vs => dCI .i64 vs fun x4 vs => dCE vs (l_24_4 k x1 x2 x3 x4 (fun y1 => K .ret [.bool y1]) (fun y1 => K (.exit 0) [.bool y1]))
def p_24_4 : Piece env := ⟨⟨[.holeD 30, .holeD 30, .any, .any, .hole, .hole, .any, .any, .any, .any, .any, .any, .any, .any, .any, .any, .any, .any, .any, .any, .any, .any, .any, .any, .any, .any], [], [], 0⟩, exitF none [(0, ⟨[.any, .any, .any, .any, .hole, .any, .any, .any, .any, .any, .any, .any, .any, .any, .any, .any, .any, .any, .any, .any, .any, .any, .any, .any, .any, .any], [], [], 0⟩)] (some ⟨[.any, .any, .any, .any, .hole, .any, .any, .any, .any, .any, .any, .any, .any, .any, .any, .any, .any, .any, .any, .any, .any, .any, .any, .any, .any, .any], [], [], 0⟩), fun vs K => ∃ k, w_24_4 k vs K⟩
noncomputable def B24 : (List Packet) → (List Packet) → (Y24 → Prop) → Prop :=
  fun x0 x1 K ↦ br ((↑x0.length : Int) != (↑x1.length : Int)) (K false) (∃ k3, l_24_4 k3 x0 x1 false 0 K fun _ ↦ K true)
theorem V24_ex : ∃ V : (List Packet) → (List Packet) → (Y24 → Prop) → Prop, V = B24 := ⟨_, rfl⟩
noncomputable def V24 : (List Packet) → (List Packet) → (Y24 → Prop) → Prop := Classical.choose V24_ex
theorem V24_eq : V24 = B24 := Classical.choose_spec V24_ex
theorem pook_24_4_24 : PiecesOk Try.prog env (ctxG env false [] R23 [] []) 24 b24 :=
  pieces_at (L := []) (S := []) (fun _ => rfl) (fun _ => rfl) (by kernel_rfl) (by kernel_rfl) (fun _ hq => by cases hq) (fun _ hq => by cases hq)
theorem book_24_4 : BodiesOk Try.prog env (ctxG env false [] R23 [] []) := bodies_okG (ks := []) (by kernel_rfl) (fun _ hq => by cases hq)
theorem stok_24_4 (k : Nat) (x1 : (List Packet)) (x2 : (List Packet)) (x3 : Bool) (x4 : Int) (K : Ex → List (SV env.T) → Prop) : l_24_4 (k + 1) x1 x2 x3 x4 (fun y1 => K .ret [.bool y1]) (fun y1 => K (.exit 0) [.bool y1]) = vcCode env (ctxG env false [] R23 [] []) 2000 24 (loopAt b24 4) (insSt p_24_4.head [.dat 30 x1, .dat 30 x2, .bool x3, .int .i64 x4]) (stepK p_24_4 (w_24_4 k) K) := by kernel_rfl
theorem wiok_24_4 (k : Nat) (vs : List (SV env.T)) (K : Ex → List (SV env.T) → Prop) (h : w_24_4 k vs K) : ∃ x1 : (List Packet), ∃ x2 : (List Packet), ∃ x3 : Bool, ∃ x4 : Int, vs = [.dat 30 x1, .dat 30 x2, .bool x3, .int .i64 x4] ∧ l_24_4 k x1 x2 x3 x4 (fun y1 => K .ret [.bool y1]) (fun y1 => K (.exit 0) [.bool y1]) := by
  unfold w_24_4 at h
  replace h := dCD_spec h
  obtain ⟨x1, vs0, e0, h⟩ := h
  replace h := dCD_spec h
  obtain ⟨x2, vs1, e1, h⟩ := h
  replace h := dCB_spec h
  obtain ⟨x3, vs2, e2, h⟩ := h
  replace h := dCI_spec h
  obtain ⟨x4, vs3, e3, h⟩ := h
  replace h := dCE_spec h
  obtain ⟨e, h⟩ := h
  exact ⟨x1, x2, x3, x4, by rw [e0, e1, e2, e3, e], h⟩
theorem zeok_24_4 (x1 : (List Packet)) (x2 : (List Packet)) (x3 : Bool) (x4 : Int) (K : Ex → List (SV env.T) → Prop) : l_24_4 0 x1 x2 x3 x4 (fun y1 => K .ret [.bool y1]) (fun y1 => K (.exit 0) [.bool y1]) = False := by kernel_rfl
theorem ok_24_4 : PieceOk Try.prog env p_24_4 (.loop (loopAt b24 4)) := by
  refine loop_step (Wn := w_24_4) tab (ctxG_ok R23_ok false [] _ _) book_24_4 (pieces_sub pook_24_4_24 (by kernel_rfl)) rfl ?_ 2000 ?_
  · intro vs K h
    obtain ⟨x1, x2, x3, x4, _, h⟩ := wiok_24_4 0 vs K h
    exact Eq.mp (zeok_24_4 x1 x2 x3 x4 K) h
  · intro k vs K h
    obtain ⟨x1, x2, x3, x4, rfl, h⟩ := wiok_24_4 (k + 1) vs K h
    exact Eq.mp (stok_24_4 k x1 x2 x3 x4 K) h
theorem po_24_24 : PiecesOk Try.prog env (ctxG env false [] R23 [(24, [(4, p_24_4)])] []) 24 b24 :=
  pieces_at (L := [(4, p_24_4)]) (S := []) (fun _ => rfl) (fun _ => rfl) (by kernel_rfl) (by kernel_rfl) (List.forall_mem_cons.2 ⟨fun _ => ok_24_4, (fun _ hq => by cases hq)⟩) (fun _ hq => by cases hq)
theorem bo_24 : BodiesOk Try.prog env (ctxG env false [] R23 [(24, [(4, p_24_4)])] []) := bodies_okG (ks := [24]) (by kernel_rfl) (List.forall_mem_cons.2 ⟨body_at (fn := f24) (body := b24) rfl hb24 po_24_24, (fun _ hq => by cases hq)⟩)
theorem eq_24 (x0 : (List Packet)) (x1 : (List Packet)) (K : Y24 → Prop) : vcCode env (ctxG env false [] R23 [(24, [(4, p_24_4)])] []) 2000 24 b24 (entry env f24 [v33 x0, v33 x1]) (finR env f24 decR24 K) = B24 x0 x1 K := by kernel_rfl
noncomputable def rule24 : Nat × Rule env := (24, ruleF env decA24 encR24 fun x => V24 x.1 x.2)
theorem r24 : RuleOk Try.prog env 24 rule24.2 :=
  rule_fun tab (ctxG_ok R23_ok false [] _ _) bo_24 (f := 24) (fn := f24) rfl hb24 po_24_24 2000 encA24 hA24 hR24 hD24 (fun _ => of_decide_eq_true (by kernel_rfl)) (fun x K => (eq_24 x.1 x.2 K).trans (by rw [V24_eq]))
noncomputable def R24 : List (Nat × Rule env) := rule24 :: R23
theorem R24_ok : AllOk Try.prog env R24 := ⟨r24, R23_ok⟩
-- 16 queuelab/queuelabref18.Few
noncomputable def f16 : Func := Try.f16
noncomputable def b16 : Code := (Try.f16.body).getD .skip
abbrev X16 := Queue
def encA16 (x : X16) : List (SV env.T) := [v28 x]
def decA16 (l : List (SV env.T)) : Option X16 := match l with
  | [s0] => match u28 s0 with
    | some x0 => some (x0)
    | _ => none
  | _ => none
theorem hA16 (l : List (SV env.T)) (x : X16) (h : decA16 l = some x) : WkA env.has l (encA16 x) := by
  unfold decA16 at h; split at h
  · split at h
    · rename_i h0; cases h; exact (.cons (u28_wk h0) .nil)
    · cases h
  · cases h
abbrev Y16 := Bool
def encR16 (x : Y16) : List (SV env.T) := [v4 x]
def decR16 (l : List (SV env.T)) : Option Y16 := match l with
  | [s0] => match u4 s0 with
    | some x0 => some (x0)
    | _ => none
  | _ => none
theorem hR16 (l : List (SV env.T)) (x : Y16) (h : decR16 l = some x) : WkA env.has l (encR16 x) := by
  unfold decR16 at h; split at h
  · split at h
    · rename_i h0; cases h; exact (.cons (u4_wk h0) .nil)
    · cases h
  · cases h
theorem hD16 (y : Y16) : isDataV (tupV (encR16 y)) = true := rfl
theorem hb16 : f16.body = some b16 := by kernel_rfl
def l_16_2 : Nat → Bool → Int → Int → Int → Int → Int → Int → (List (List Queued)) → (List Int) → Int → (Bool → Prop) → (Bool → Int → Int → Int → Int → Int → (List (List Queued)) → (List Int) → Int → Prop) → Prop
  | 0 => fun _ _ _ _ _ _ _ _ _ _ _ _ => False
  | k + 1 => fun x1 x2 x3 x4 x5 x6 x7 x8 x9 x10 kr k0 ↦ br (decide (x2 < (↑x8.length : Int))) (br (inb x2 (↑x8.length : Int)) (br (decide ((↑(List.length (x8.getD x2.toNat (env.d 43))) : Int) > 600)) (kr false) (l_16_2 k x1 (IntKind.i64.wrap (x2 + 1)) x3 x4 x5 x6 x7 x8 x9 x10 kr k0)) False) (k0 x1 x3 x4 x5 x6 x7 x8 x9 x10)
def w_16_2 (k : Nat) (vs : List (SV env.T)) (K : Ex → List (SV env.T) → Prop) : Prop :=
  dCB vs fun x1 vs => dCI .i64 vs fun x2 vs => dCI .i64 vs fun x3 vs => dCI .i64 vs fun x4 vs => dCI .i64 vs fun x5 vs => dCI .i64 vs fun x6 vs => dCI .i64 vs fun x7 vs => dCD 43 vs fun x8 vs => dCA .i64 8 vs fun x9 vs => dCI .u64 vs fun x10 vs => dCE vs (l_16_2 k x1 x2 x3 x4 x5 x6 x7 x8 x9 x10 (fun y1 => K .ret [.bool y1]) (fun y1 y2 y3 y4 y5 y6 y7 y8 y9 => K (.exit 0) [.bool y1, .int .i64 y2, .int .i64 y3, .int .i64 y4, .int .i64 y5, .int .i64 y6, .dat 43 y7, .arr .i64 8 y8, .int .u64 y9]))
def p_16_2 : Piece env := ⟨⟨[.any, .ptr 0 0, .hole, .hole, .any, .any, .any, .any, .any, .any, .any, .any, .any, .any, .any, .any, .any, .any, .any, .any, .any, .any], [], [(0, .cells 28 [.hole, .hole, .hole, .hole, .hole, .holeD 43, .hole, .hole])], 1⟩, exitF none [(0, ⟨[.any, .ptr 0 0, .hole, .any, .any, .any, .any, .any, .any, .any, .any, .any, .any, .any, .any, .any, .any, .any, .any, .any, .any, .any], [], [(0, .cells 28 [.hole, .hole, .hole, .hole, .hole, .holeD 43, .hole, .hole])], 1⟩)] (some ⟨[.any, .any, .hole, .any, .any, .any, .any, .any, .any, .any, .any, .any, .any, .any, .any, .any, .any, .any, .any, .any, .any, .any], [], [], 0⟩), fun vs K => ∃ k, w_16_2 k vs K⟩
noncomputable def B16 : Queue → (Y16 → Prop) → Prop :=
  fun x0 K ↦ ∃ k2, l_16_2 k2 false 0 x0.policy.kind x0.policy.a x0.policy.b x0.policy.c x0.room x0.lists x0.vars x0.seed K fun _ _ _ _ _ _ y9 _ _ ↦ K (decide ((↑y9.length : Int) ≤ 20))
theorem V16_ex : ∃ V : Queue → (Y16 → Prop) → Prop, V = B16 := ⟨_, rfl⟩
noncomputable def V16 : Queue → (Y16 → Prop) → Prop := Classical.choose V16_ex
theorem V16_eq : V16 = B16 := Classical.choose_spec V16_ex
theorem pook_16_2_16 : PiecesOk Try.prog env (ctxG env false [] R24 [] []) 16 b16 :=
  pieces_at (L := []) (S := []) (fun _ => rfl) (fun _ => rfl) (by kernel_rfl) (by kernel_rfl) (fun _ hq => by cases hq) (fun _ hq => by cases hq)
theorem book_16_2 : BodiesOk Try.prog env (ctxG env false [] R24 [] []) := bodies_okG (ks := []) (by kernel_rfl) (fun _ hq => by cases hq)
theorem stok_16_2 (k : Nat) (x1 : Bool) (x2 : Int) (x3 : Int) (x4 : Int) (x5 : Int) (x6 : Int) (x7 : Int) (x8 : (List (List Queued))) (x9 : (List Int)) (x10 : Int) (K : Ex → List (SV env.T) → Prop) : l_16_2 (k + 1) x1 x2 x3 x4 x5 x6 x7 x8 x9 x10 (fun y1 => K .ret [.bool y1]) (fun y1 y2 y3 y4 y5 y6 y7 y8 y9 => K (.exit 0) [.bool y1, .int .i64 y2, .int .i64 y3, .int .i64 y4, .int .i64 y5, .int .i64 y6, .dat 43 y7, .arr .i64 8 y8, .int .u64 y9]) = vcCode env (ctxG env false [] R24 [] []) 2000 16 (loopAt b16 2) (insSt p_16_2.head [.bool x1, .int .i64 x2, .int .i64 x3, .int .i64 x4, .int .i64 x5, .int .i64 x6, .int .i64 x7, .dat 43 x8, .arr .i64 8 x9, .int .u64 x10]) (stepK p_16_2 (w_16_2 k) K) := by kernel_rfl
theorem wiok_16_2 (k : Nat) (vs : List (SV env.T)) (K : Ex → List (SV env.T) → Prop) (h : w_16_2 k vs K) : ∃ x1 : Bool, ∃ x2 : Int, ∃ x3 : Int, ∃ x4 : Int, ∃ x5 : Int, ∃ x6 : Int, ∃ x7 : Int, ∃ x8 : (List (List Queued)), ∃ x9 : (List Int), ∃ x10 : Int, vs = [.bool x1, .int .i64 x2, .int .i64 x3, .int .i64 x4, .int .i64 x5, .int .i64 x6, .int .i64 x7, .dat 43 x8, .arr .i64 8 x9, .int .u64 x10] ∧ l_16_2 k x1 x2 x3 x4 x5 x6 x7 x8 x9 x10 (fun y1 => K .ret [.bool y1]) (fun y1 y2 y3 y4 y5 y6 y7 y8 y9 => K (.exit 0) [.bool y1, .int .i64 y2, .int .i64 y3, .int .i64 y4, .int .i64 y5, .int .i64 y6, .dat 43 y7, .arr .i64 8 y8, .int .u64 y9]) := by
  unfold w_16_2 at h
  replace h := dCB_spec h
  obtain ⟨x1, vs0, e0, h⟩ := h
  replace h := dCI_spec h
  obtain ⟨x2, vs1, e1, h⟩ := h
  replace h := dCI_spec h
  obtain ⟨x3, vs2, e2, h⟩ := h
  replace h := dCI_spec h
  obtain ⟨x4, vs3, e3, h⟩ := h
  replace h := dCI_spec h
  obtain ⟨x5, vs4, e4, h⟩ := h
  replace h := dCI_spec h
  obtain ⟨x6, vs5, e5, h⟩ := h
  replace h := dCI_spec h
  obtain ⟨x7, vs6, e6, h⟩ := h
  replace h := dCD_spec h
  obtain ⟨x8, vs7, e7, h⟩ := h
  replace h := dCA_spec h
  obtain ⟨x9, vs8, e8, h⟩ := h
  replace h := dCI_spec h
  obtain ⟨x10, vs9, e9, h⟩ := h
  replace h := dCE_spec h
  obtain ⟨e, h⟩ := h
  exact ⟨x1, x2, x3, x4, x5, x6, x7, x8, x9, x10, by rw [e0, e1, e2, e3, e4, e5, e6, e7, e8, e9, e], h⟩
theorem zeok_16_2 (x1 : Bool) (x2 : Int) (x3 : Int) (x4 : Int) (x5 : Int) (x6 : Int) (x7 : Int) (x8 : (List (List Queued))) (x9 : (List Int)) (x10 : Int) (K : Ex → List (SV env.T) → Prop) : l_16_2 0 x1 x2 x3 x4 x5 x6 x7 x8 x9 x10 (fun y1 => K .ret [.bool y1]) (fun y1 y2 y3 y4 y5 y6 y7 y8 y9 => K (.exit 0) [.bool y1, .int .i64 y2, .int .i64 y3, .int .i64 y4, .int .i64 y5, .int .i64 y6, .dat 43 y7, .arr .i64 8 y8, .int .u64 y9]) = False := by kernel_rfl
theorem ok_16_2 : PieceOk Try.prog env p_16_2 (.loop (loopAt b16 2)) := by
  refine loop_step (Wn := w_16_2) tab (ctxG_ok R24_ok false [] _ _) book_16_2 (pieces_sub pook_16_2_16 (by kernel_rfl)) rfl ?_ 2000 ?_
  · intro vs K h
    obtain ⟨x1, x2, x3, x4, x5, x6, x7, x8, x9, x10, _, h⟩ := wiok_16_2 0 vs K h
    exact Eq.mp (zeok_16_2 x1 x2 x3 x4 x5 x6 x7 x8 x9 x10 K) h
  · intro k vs K h
    obtain ⟨x1, x2, x3, x4, x5, x6, x7, x8, x9, x10, rfl, h⟩ := wiok_16_2 (k + 1) vs K h
    exact Eq.mp (stok_16_2 k x1 x2 x3 x4 x5 x6 x7 x8 x9 x10 K) h
theorem po_16_16 : PiecesOk Try.prog env (ctxG env false [] R24 [(16, [(2, p_16_2)])] []) 16 b16 :=
  pieces_at (L := [(2, p_16_2)]) (S := []) (fun _ => rfl) (fun _ => rfl) (by kernel_rfl) (by kernel_rfl) (List.forall_mem_cons.2 ⟨fun _ => ok_16_2, (fun _ hq => by cases hq)⟩) (fun _ hq => by cases hq)
theorem bo_16 : BodiesOk Try.prog env (ctxG env false [] R24 [(16, [(2, p_16_2)])] []) := bodies_okG (ks := [16]) (by kernel_rfl) (List.forall_mem_cons.2 ⟨body_at (fn := f16) (body := b16) rfl hb16 po_16_16, (fun _ hq => by cases hq)⟩)
theorem eq_16 (x0 : Queue) (K : Y16 → Prop) : vcCode env (ctxG env false [] R24 [(16, [(2, p_16_2)])] []) 2000 16 b16 (entry env f16 [v28 x0]) (finR env f16 decR16 K) = B16 x0 K := by kernel_rfl
noncomputable def rule16 : Nat × Rule env := (16, ruleF env decA16 encR16 fun x => V16 x)
theorem r16 : RuleOk Try.prog env 16 rule16.2 :=
  rule_fun tab (ctxG_ok R24_ok false [] _ _) bo_16 (f := 16) (fn := f16) rfl hb16 po_16_16 2000 encA16 hA16 hR16 hD16 (fun _ => of_decide_eq_true (by kernel_rfl)) (fun x K => (eq_16 x K).trans (by rw [V16_eq]))
noncomputable def R16 : List (Nat × Rule env) := rule16 :: R24
theorem R16_ok : AllOk Try.prog env R16 := ⟨r16, R24_ok⟩
-- 25 queuelab/queuelablaw22.usable
noncomputable def f25 : Func := Try.f25
noncomputable def b25 : Code := (Try.f25.body).getD .skip
abbrev X25 := Queue
def encA25 (x : X25) : List (SV env.T) := [v28 x]
def decA25 (l : List (SV env.T)) : Option X25 := match l with
  | [s0] => match u28 s0 with
    | some x0 => some (x0)
    | _ => none
  | _ => none
theorem hA25 (l : List (SV env.T)) (x : X25) (h : decA25 l = some x) : WkA env.has l (encA25 x) := by
  unfold decA25 at h; split at h
  · split at h
    · rename_i h0; cases h; exact (.cons (u28_wk h0) .nil)
    · cases h
  · cases h
abbrev Y25 := Bool
def encR25 (x : Y25) : List (SV env.T) := [v4 x]
def decR25 (l : List (SV env.T)) : Option Y25 := match l with
  | [s0] => match u4 s0 with
    | some x0 => some (x0)
    | _ => none
  | _ => none
theorem hR25 (l : List (SV env.T)) (x : Y25) (h : decR25 l = some x) : WkA env.has l (encR25 x) := by
  unfold decR25 at h; split at h
  · split at h
    · rename_i h0; cases h; exact (.cons (u4_wk h0) .nil)
    · cases h
  · cases h
theorem hD25 (y : Y25) : isDataV (tupV (encR25 y)) = true := rfl
theorem hb25 : f25.body = some b25 := by kernel_rfl
noncomputable def B25 : Queue → (Y25 → Prop) → Prop :=
  fun x0 K ↦ V16 x0 fun y2 ↦ br y2 (V22 x0 K) (K false)
theorem V25_ex : ∃ V : Queue → (Y25 → Prop) → Prop, V = B25 := ⟨_, rfl⟩
noncomputable def V25 : Queue → (Y25 → Prop) → Prop := Classical.choose V25_ex
theorem V25_eq : V25 = B25 := Classical.choose_spec V25_ex
theorem po_25_25 : PiecesOk Try.prog env (ctxG env false [] R16 [] []) 25 b25 :=
  pieces_at (L := []) (S := []) (fun _ => rfl) (fun _ => rfl) (by kernel_rfl) (by kernel_rfl) (fun _ hq => by cases hq) (fun _ hq => by cases hq)
theorem bo_25 : BodiesOk Try.prog env (ctxG env false [] R16 [] []) := bodies_okG (ks := []) (by kernel_rfl) (fun _ hq => by cases hq)
theorem eq_25 (x0 : Queue) (K : Y25 → Prop) : vcCode env (ctxG env false [] R16 [] []) 2000 25 b25 (entry env f25 [v28 x0]) (finR env f25 decR25 K) = B25 x0 K := by kernel_rfl
noncomputable def rule25 : Nat × Rule env := (25, ruleF env decA25 encR25 fun x => V25 x)
theorem r25 : RuleOk Try.prog env 25 rule25.2 :=
  rule_fun tab (ctxG_ok R16_ok false [] _ _) bo_25 (f := 25) (fn := f25) rfl hb25 po_25_25 2000 encA25 hA25 hR25 hD25 (fun _ => of_decide_eq_true (by kernel_rfl)) (fun x K => (eq_25 x K).trans (by rw [V25_eq]))
noncomputable def R25 : List (Nat × Rule env) := rule25 :: R16
theorem R25_ok : AllOk Try.prog env R25 := ⟨r25, R16_ok⟩
-- 28 queuelab/queuelablaw22.of
noncomputable def f28 : Func := Try.f28
noncomputable def b28 : Code := (Try.f28.body).getD .skip
abbrev X28 := (List Packet) × Int
def encA28 (x : X28) : List (SV env.T) := [v33 x.1, v3 x.2]
def decA28 (l : List (SV env.T)) : Option X28 := match l with
  | [s0, s1] => match u33 s0, u3 s1 with
    | some x0, some x1 => some (x0, x1)
    | _, _ => none
  | _ => none
theorem hA28 (l : List (SV env.T)) (x : X28) (h : decA28 l = some x) : WkA env.has l (encA28 x) := by
  unfold decA28 at h; split at h
  · split at h
    · rename_i h0 h1; cases h; exact (.cons (u33_wk h0) (.cons (u3_wk h1) .nil))
    · cases h
  · cases h
abbrev Y28 := (List Packet)
def encR28 (x : Y28) : List (SV env.T) := [v33 x]
def decR28 (l : List (SV env.T)) : Option Y28 := match l with
  | [s0] => match u33 s0 with
    | some x0 => some (x0)
    | _ => none
  | _ => none
theorem hR28 (l : List (SV env.T)) (x : Y28) (h : decR28 l = some x) : WkA env.has l (encR28 x) := by
  unfold decR28 at h; split at h
  · split at h
    · rename_i h0; cases h; exact (.cons (u33_wk h0) .nil)
    · cases h
  · cases h
theorem hD28 (y : Y28) : isDataV (tupV (encR28 y)) = true := rfl
theorem hb28 : f28.body = some b28 := by kernel_rfl
def l_28_3 : Nat → (List Packet) → Int → Int → (List Packet) → ((List Packet) → Prop) → Prop
  | 0 => fun _ _ _ _ _ => False
  | k + 1 => fun x1 x2 x3 x4 k0 ↦ br (decide (x3 < (↑x1.length : Int))) (br (inb x3 (↑x1.length : Int)) (br ((x1.getD x3.toNat (env.d 30)).flow == x2) (br (inb x3 (↑x1.length : Int)) (br (roomB (x4 ++ [Packet.mk (x1.getD x3.toNat (env.d 30)).flow (x1.getD x3.toNat (env.d 30)).sub (x1.getD x3.toNat (env.d 30)).number (x1.getD x3.toNat (env.d 30)).data (x1.getD x3.toNat (env.d 30)).size (x1.getD x3.toNat (env.d 30)).sent (x1.getD x3.toNat (env.d 30)).able (x1.getD x3.toNat (env.d 30)).marked]).length (bytesB env 30)) (l_28_3 k x1 x2 (IntKind.i64.wrap (x3 + 1)) (x4 ++ [Packet.mk (x1.getD x3.toNat (env.d 30)).flow (x1.getD x3.toNat (env.d 30)).sub (x1.getD x3.toNat (env.d 30)).number (x1.getD x3.toNat (env.d 30)).data (x1.getD x3.toNat (env.d 30)).size (x1.getD x3.toNat (env.d 30)).sent (x1.getD x3.toNat (env.d 30)).able (x1.getD x3.toNat (env.d 30)).marked]) k0) False) False) (l_28_3 k x1 x2 (IntKind.i64.wrap (x3 + 1)) x4 k0)) False) (k0 x4)
def w_28_3 (k : Nat) (vs : List (SV env.T)) (K : Ex → List (SV env.T) → Prop) : Prop :=
  dCD 30 vs fun x1 vs => dCI .i64 vs fun x2 vs => dCN vs fun vs => dCI .i64 vs fun x3 vs => dCD 30 vs fun x4 vs => dCE vs (l_28_3 k x1 x2 x3 x4 (fun y1 => K (.exit 0) [.nils, .dat 30 y1]))
def p_28_3 : Piece env := ⟨⟨[.holeD 30, .hole, .any, .any, .hole, .row 0, .hole, .any, .any, .any, .any, .any, .any, .any, .any, .any, .any, .any, .any, .any, .any, .any, .any, .any, .any, .any, .any, .any], [], [(0, .row 30)], 1⟩, exitF none [(0, ⟨[.any, .any, .any, .any, .hole, .row 0, .any, .any, .any, .any, .any, .any, .any, .any, .any, .any, .any, .any, .any, .any, .any, .any, .any, .any, .any, .any, .any, .any], [], [(0, .row 30)], 1⟩)] none, fun vs K => ∃ k, w_28_3 k vs K⟩
noncomputable def B28 : (List Packet) → Int → (Y28 → Prop) → Prop :=
  fun x0 x1 K ↦ ∃ k3, l_28_3 k3 x0 x1 0 [] K
theorem V28_ex : ∃ V : (List Packet) → Int → (Y28 → Prop) → Prop, V = B28 := ⟨_, rfl⟩
noncomputable def V28 : (List Packet) → Int → (Y28 → Prop) → Prop := Classical.choose V28_ex
theorem V28_eq : V28 = B28 := Classical.choose_spec V28_ex
theorem pook_28_3_28 : PiecesOk Try.prog env (ctxG env false [] R25 [] []) 28 b28 :=
  pieces_at (L := []) (S := []) (fun _ => rfl) (fun _ => rfl) (by kernel_rfl) (by kernel_rfl) (fun _ hq => by cases hq) (fun _ hq => by cases hq)
theorem book_28_3 : BodiesOk Try.prog env (ctxG env false [] R25 [] []) := bodies_okG (ks := []) (by kernel_rfl) (fun _ hq => by cases hq)
theorem stok_28_3 (k : Nat) (x1 : (List Packet)) (x2 : Int) (x3 : Int) (x4 : (List Packet)) (K : Ex → List (SV env.T) → Prop) : l_28_3 (k + 1) x1 x2 x3 x4 (fun y1 => K (.exit 0) [.nils, .dat 30 y1]) = vcCode env (ctxG env false [] R25 [] []) 2000 28 (loopAt b28 3) (insSt p_28_3.head [.dat 30 x1, .int .i64 x2, .nils, .int .i64 x3, .dat 30 x4]) (stepK p_28_3 (w_28_3 k) K) := by kernel_rfl
theorem wiok_28_3 (k : Nat) (vs : List (SV env.T)) (K : Ex → List (SV env.T) → Prop) (h : w_28_3 k vs K) : ∃ x1 : (List Packet), ∃ x2 : Int, ∃ x3 : Int, ∃ x4 : (List Packet), vs = [.dat 30 x1, .int .i64 x2, .nils, .int .i64 x3, .dat 30 x4] ∧ l_28_3 k x1 x2 x3 x4 (fun y1 => K (.exit 0) [.nils, .dat 30 y1]) := by
  unfold w_28_3 at h
  replace h := dCD_spec h
  obtain ⟨x1, vs0, e0, h⟩ := h
  replace h := dCI_spec h
  obtain ⟨x2, vs1, e1, h⟩ := h
  replace h := dCN_spec h
  obtain ⟨vs2, e2, h⟩ := h
  replace h := dCI_spec h
  obtain ⟨x3, vs3, e3, h⟩ := h
  replace h := dCD_spec h
  obtain ⟨x4, vs4, e4, h⟩ := h
  replace h := dCE_spec h
  obtain ⟨e, h⟩ := h
  exact ⟨x1, x2, x3, x4, by rw [e0, e1, e2, e3, e4, e], h⟩
theorem zeok_28_3 (x1 : (List Packet)) (x2 : Int) (x3 : Int) (x4 : (List Packet)) (K : Ex → List (SV env.T) → Prop) : l_28_3 0 x1 x2 x3 x4 (fun y1 => K (.exit 0) [.nils, .dat 30 y1]) = False := by kernel_rfl
theorem ok_28_3 : PieceOk Try.prog env p_28_3 (.loop (loopAt b28 3)) := by
  refine loop_step (Wn := w_28_3) tab (ctxG_ok R25_ok false [] _ _) book_28_3 (pieces_sub pook_28_3_28 (by kernel_rfl)) rfl ?_ 2000 ?_
  · intro vs K h
    obtain ⟨x1, x2, x3, x4, _, h⟩ := wiok_28_3 0 vs K h
    exact Eq.mp (zeok_28_3 x1 x2 x3 x4 K) h
  · intro k vs K h
    obtain ⟨x1, x2, x3, x4, rfl, h⟩ := wiok_28_3 (k + 1) vs K h
    exact Eq.mp (stok_28_3 k x1 x2 x3 x4 K) h
theorem po_28_28 : PiecesOk Try.prog env (ctxG env false [] R25 [(28, [(3, p_28_3)])] []) 28 b28 :=
  pieces_at (L := [(3, p_28_3)]) (S := []) (fun _ => rfl) (fun _ => rfl) (by kernel_rfl) (by kernel_rfl) (List.forall_mem_cons.2 ⟨fun _ => ok_28_3, (fun _ hq => by cases hq)⟩) (fun _ hq => by cases hq)
theorem bo_28 : BodiesOk Try.prog env (ctxG env false [] R25 [(28, [(3, p_28_3)])] []) := bodies_okG (ks := [28]) (by kernel_rfl) (List.forall_mem_cons.2 ⟨body_at (fn := f28) (body := b28) rfl hb28 po_28_28, (fun _ hq => by cases hq)⟩)
theorem eq_28 (x0 : (List Packet)) (x1 : Int) (K : Y28 → Prop) : vcCode env (ctxG env false [] R25 [(28, [(3, p_28_3)])] []) 2000 28 b28 (entry env f28 [v33 x0, v3 x1]) (finO env f28 30 K) = B28 x0 x1 K := by kernel_rfl
noncomputable def rule28 : Nat × Rule env := (28, ruleW env 30 decA28 fun x => V28 x.1 x.2)
theorem r28 : RuleOk Try.prog env 28 rule28.2 :=
  rule_funW tab (ctxG_ok R25_ok false [] _ _) bo_28 (f := 28) (fn := f28) rfl hb28 po_28_28 2000 (e := 30) (by kernel_rfl) (fun _ => rfl) encA28 hA28 (fun _ => of_decide_eq_true (by kernel_rfl)) (fun x K => (eq_28 x.1 x.2 K).trans (by rw [V28_eq]))
noncomputable def R28 : List (Nat × Rule env) := rule28 :: R25
theorem R28_ok : AllOk Try.prog env R28 := ⟨r28, R25_ok⟩
-- 33 queuelab/queuelablaw22.bytes
noncomputable def f33 : Func := Try.f33
noncomputable def b33 : Code := (Try.f33.body).getD .skip
abbrev X33 := (List Packet) × Int
def encA33 (x : X33) : List (SV env.T) := [v33 x.1, v3 x.2]
def decA33 (l : List (SV env.T)) : Option X33 := match l with
  | [s0, s1] => match u33 s0, u3 s1 with
    | some x0, some x1 => some (x0, x1)
    | _, _ => none
  | _ => none
theorem hA33 (l : List (SV env.T)) (x : X33) (h : decA33 l = some x) : WkA env.has l (encA33 x) := by
  unfold decA33 at h; split at h
  · split at h
    · rename_i h0 h1; cases h; exact (.cons (u33_wk h0) (.cons (u3_wk h1) .nil))
    · cases h
  · cases h
abbrev Y33 := Int
def encR33 (x : Y33) : List (SV env.T) := [v3 x]
def decR33 (l : List (SV env.T)) : Option Y33 := match l with
  | [s0] => match u3 s0 with
    | some x0 => some (x0)
    | _ => none
  | _ => none
theorem hR33 (l : List (SV env.T)) (x : Y33) (h : decR33 l = some x) : WkA env.has l (encR33 x) := by
  unfold decR33 at h; split at h
  · split at h
    · rename_i h0; cases h; exact (.cons (u3_wk h0) .nil)
    · cases h
  · cases h
theorem hD33 (y : Y33) : isDataV (tupV (encR33 y)) = true := rfl
theorem hb33 : f33.body = some b33 := by kernel_rfl
def l_33_3 : Nat → (List Packet) → Int → Int → Int → Int → (Int → Int → Prop) → Prop
  | 0 => fun _ _ _ _ _ _ => False
  | k + 1 => fun x1 x2 x3 x4 x5 k0 ↦ br (decide (x5 < (↑x1.length : Int))) (br (inb x5 (↑x1.length : Int)) (br ((x1.getD x5.toNat (env.d 30)).flow == x2) (br (inb x5 (↑x1.length : Int)) (l_33_3 k x1 x2 x3 (IntKind.i64.wrap (x4 + (x1.getD x5.toNat (env.d 30)).size)) (IntKind.i64.wrap (x5 + 1)) k0) False) (l_33_3 k x1 x2 x3 x4 (IntKind.i64.wrap (x5 + 1)) k0)) False) (k0 x3 x4)
def w_33_3 (k : Nat) (vs : List (SV env.T)) (K : Ex → List (SV env.T) → Prop) : Prop :=
  dCD 30 vs fun x1 vs => dCI .i64 vs fun x2 vs => dCI .i64 vs fun x3 vs => dCI .i64 vs fun x4 vs => dCI .i64 vs fun x5 vs => dCE vs (l_33_3 k x1 x2 x3 x4 x5 (fun y1 y2 => K (.exit 0) [.int .i64 y1, .int .i64 y2]))
def p_33_3 : Piece env := ⟨⟨[.holeD 30, .hole, .any, .any, .hole, .hole, .hole, .any, .any, .any, .any, .any, .any, .any, .any, .any, .any, .any, .any, .any, .any, .any, .any, .any, .any, .any, .any, .any], [], [], 0⟩, exitF none [(0, ⟨[.any, .any, .any, .any, .hole, .hole, .any, .any, .any, .any, .any, .any, .any, .any, .any, .any, .any, .any, .any, .any, .any, .any, .any, .any, .any, .any, .any, .any], [], [], 0⟩)] none, fun vs K => ∃ k, w_33_3 k vs K⟩
noncomputable def B33 : (List Packet) → Int → (Y33 → Prop) → Prop :=
  fun x0 x1 K ↦ ∃ k3, l_33_3 k3 x0 x1 0 0 0 fun _ ↦ K
theorem V33_ex : ∃ V : (List Packet) → Int → (Y33 → Prop) → Prop, V = B33 := ⟨_, rfl⟩
noncomputable def V33 : (List Packet) → Int → (Y33 → Prop) → Prop := Classical.choose V33_ex
theorem V33_eq : V33 = B33 := Classical.choose_spec V33_ex
theorem pook_33_3_33 : PiecesOk Try.prog env (ctxG env false [] R28 [] []) 33 b33 :=
  pieces_at (L := []) (S := []) (fun _ => rfl) (fun _ => rfl) (by kernel_rfl) (by kernel_rfl) (fun _ hq => by cases hq) (fun _ hq => by cases hq)
theorem book_33_3 : BodiesOk Try.prog env (ctxG env false [] R28 [] []) := bodies_okG (ks := []) (by kernel_rfl) (fun _ hq => by cases hq)
theorem stok_33_3 (k : Nat) (x1 : (List Packet)) (x2 : Int) (x3 : Int) (x4 : Int) (x5 : Int) (K : Ex → List (SV env.T) → Prop) : l_33_3 (k + 1) x1 x2 x3 x4 x5 (fun y1 y2 => K (.exit 0) [.int .i64 y1, .int .i64 y2]) = vcCode env (ctxG env false [] R28 [] []) 2000 33 (loopAt b33 3) (insSt p_33_3.head [.dat 30 x1, .int .i64 x2, .int .i64 x3, .int .i64 x4, .int .i64 x5]) (stepK p_33_3 (w_33_3 k) K) := by kernel_rfl
theorem wiok_33_3 (k : Nat) (vs : List (SV env.T)) (K : Ex → List (SV env.T) → Prop) (h : w_33_3 k vs K) : ∃ x1 : (List Packet), ∃ x2 : Int, ∃ x3 : Int, ∃ x4 : Int, ∃ x5 : Int, vs = [.dat 30 x1, .int .i64 x2, .int .i64 x3, .int .i64 x4, .int .i64 x5] ∧ l_33_3 k x1 x2 x3 x4 x5 (fun y1 y2 => K (.exit 0) [.int .i64 y1, .int .i64 y2]) := by
  unfold w_33_3 at h
  replace h := dCD_spec h
  obtain ⟨x1, vs0, e0, h⟩ := h
  replace h := dCI_spec h
  obtain ⟨x2, vs1, e1, h⟩ := h
  replace h := dCI_spec h
  obtain ⟨x3, vs2, e2, h⟩ := h
  replace h := dCI_spec h
  obtain ⟨x4, vs3, e3, h⟩ := h
  replace h := dCI_spec h
  obtain ⟨x5, vs4, e4, h⟩ := h
  replace h := dCE_spec h
  obtain ⟨e, h⟩ := h
  exact ⟨x1, x2, x3, x4, x5, by rw [e0, e1, e2, e3, e4, e], h⟩
theorem zeok_33_3 (x1 : (List Packet)) (x2 : Int) (x3 : Int) (x4 : Int) (x5 : Int) (K : Ex → List (SV env.T) → Prop) : l_33_3 0 x1 x2 x3 x4 x5 (fun y1 y2 => K (.exit 0) [.int .i64 y1, .int .i64 y2]) = False := by kernel_rfl
theorem ok_33_3 : PieceOk Try.prog env p_33_3 (.loop (loopAt b33 3)) := by
  refine loop_step (Wn := w_33_3) tab (ctxG_ok R28_ok false [] _ _) book_33_3 (pieces_sub pook_33_3_33 (by kernel_rfl)) rfl ?_ 2000 ?_
  · intro vs K h
    obtain ⟨x1, x2, x3, x4, x5, _, h⟩ := wiok_33_3 0 vs K h
    exact Eq.mp (zeok_33_3 x1 x2 x3 x4 x5 K) h
  · intro k vs K h
    obtain ⟨x1, x2, x3, x4, x5, rfl, h⟩ := wiok_33_3 (k + 1) vs K h
    exact Eq.mp (stok_33_3 k x1 x2 x3 x4 x5 K) h
theorem po_33_33 : PiecesOk Try.prog env (ctxG env false [] R28 [(33, [(3, p_33_3)])] []) 33 b33 :=
  pieces_at (L := [(3, p_33_3)]) (S := []) (fun _ => rfl) (fun _ => rfl) (by kernel_rfl) (by kernel_rfl) (List.forall_mem_cons.2 ⟨fun _ => ok_33_3, (fun _ hq => by cases hq)⟩) (fun _ hq => by cases hq)
theorem bo_33 : BodiesOk Try.prog env (ctxG env false [] R28 [(33, [(3, p_33_3)])] []) := bodies_okG (ks := [33]) (by kernel_rfl) (List.forall_mem_cons.2 ⟨body_at (fn := f33) (body := b33) rfl hb33 po_33_33, (fun _ hq => by cases hq)⟩)
theorem eq_33 (x0 : (List Packet)) (x1 : Int) (K : Y33 → Prop) : vcCode env (ctxG env false [] R28 [(33, [(3, p_33_3)])] []) 2000 33 b33 (entry env f33 [v33 x0, v3 x1]) (finR env f33 decR33 K) = B33 x0 x1 K := by kernel_rfl
noncomputable def rule33 : Nat × Rule env := (33, ruleF env decA33 encR33 fun x => V33 x.1 x.2)
theorem r33 : RuleOk Try.prog env 33 rule33.2 :=
  rule_fun tab (ctxG_ok R28_ok false [] _ _) bo_33 (f := 33) (fn := f33) rfl hb33 po_33_33 2000 encA33 hA33 hR33 hD33 (fun _ => of_decide_eq_true (by kernel_rfl)) (fun x K => (eq_33 x.1 x.2 K).trans (by rw [V33_eq]))
noncomputable def R33 : List (Nat × Rule env) := rule33 :: R28
theorem R33_ok : AllOk Try.prog env R33 := ⟨r33, R28_ok⟩
-- 34 queuelab/queuelablaw22.packet
noncomputable def f34 : Func := Try.f34
noncomputable def b34 : Code := (Try.f34.body).getD .skip
abbrev X34 := Int × Int × Int
def encA34 (x : X34) : List (SV env.T) := [v3 x.1, v3 x.2.1, v3 x.2.2]
def decA34 (l : List (SV env.T)) : Option X34 := match l with
  | [s0, s1, s2] => match u3 s0, u3 s1, u3 s2 with
    | some x0, some x1, some x2 => some (x0, x1, x2)
    | _, _, _ => none
  | _ => none
theorem hA34 (l : List (SV env.T)) (x : X34) (h : decA34 l = some x) : WkA env.has l (encA34 x) := by
  unfold decA34 at h; split at h
  · split at h
    · rename_i h0 h1 h2; cases h; exact (.cons (u3_wk h0) (.cons (u3_wk h1) (.cons (u3_wk h2) .nil)))
    · cases h
  · cases h
abbrev Y34 := Packet
def encR34 (x : Y34) : List (SV env.T) := [v30 x]
def decR34 (l : List (SV env.T)) : Option Y34 := match l with
  | [s0] => match u30 s0 with
    | some x0 => some (x0)
    | _ => none
  | _ => none
theorem hR34 (l : List (SV env.T)) (x : Y34) (h : decR34 l = some x) : WkA env.has l (encR34 x) := by
  unfold decR34 at h; split at h
  · split at h
    · rename_i h0; cases h; exact (.cons (u30_wk h0) .nil)
    · cases h
  · cases h
theorem hD34 (y : Y34) : isDataV (tupV (encR34 y)) = true := rfl
theorem hb34 : f34.body = some b34 := by kernel_rfl
noncomputable def B34 : Int → Int → Int → (Y34 → Prop) → Prop :=
  fun x0 x1 x2 K ↦ K (Packet.mk x0 0 x1 0 x2 0 false false)
theorem V34_ex : ∃ V : Int → Int → Int → (Y34 → Prop) → Prop, V = B34 := ⟨_, rfl⟩
noncomputable def V34 : Int → Int → Int → (Y34 → Prop) → Prop := Classical.choose V34_ex
theorem V34_eq : V34 = B34 := Classical.choose_spec V34_ex
theorem po_34_34 : PiecesOk Try.prog env (ctxG env false [] R33 [] []) 34 b34 :=
  pieces_at (L := []) (S := []) (fun _ => rfl) (fun _ => rfl) (by kernel_rfl) (by kernel_rfl) (fun _ hq => by cases hq) (fun _ hq => by cases hq)
theorem bo_34 : BodiesOk Try.prog env (ctxG env false [] R33 [] []) := bodies_okG (ks := []) (by kernel_rfl) (fun _ hq => by cases hq)
theorem eq_34 (x0 : Int) (x1 : Int) (x2 : Int) (K : Y34 → Prop) : vcCode env (ctxG env false [] R33 [] []) 2000 34 b34 (entry env f34 [v3 x0, v3 x1, v3 x2]) (finR env f34 decR34 K) = B34 x0 x1 x2 K := by kernel_rfl
noncomputable def rule34 : Nat × Rule env := (34, ruleF env decA34 encR34 fun x => V34 x.1 x.2.1 x.2.2)
theorem r34 : RuleOk Try.prog env 34 rule34.2 :=
  rule_fun tab (ctxG_ok R33_ok false [] _ _) bo_34 (f := 34) (fn := f34) rfl hb34 po_34_34 2000 encA34 hA34 hR34 hD34 (fun _ => of_decide_eq_true (by kernel_rfl)) (fun x K => (eq_34 x.1 x.2.1 x.2.2 K).trans (by rw [V34_eq]))
noncomputable def R34 : List (Nat × Rule env) := rule34 :: R33
theorem R34_ok : AllOk Try.prog env R34 := ⟨r34, R33_ok⟩
-- 31 queuelab/queuelablaw22.empty
noncomputable def f31 : Func := Try.f31
noncomputable def b31 : Code := (Try.f31.body).getD .skip
abbrev X31 := Int × Int
def encA31 (x : X31) : List (SV env.T) := [v3 x.1, v3 x.2]
def decA31 (l : List (SV env.T)) : Option X31 := match l with
  | [s0, s1] => match u3 s0, u3 s1 with
    | some x0, some x1 => some (x0, x1)
    | _, _ => none
  | _ => none
theorem hA31 (l : List (SV env.T)) (x : X31) (h : decA31 l = some x) : WkA env.has l (encA31 x) := by
  unfold decA31 at h; split at h
  · split at h
    · rename_i h0 h1; cases h; exact (.cons (u3_wk h0) (.cons (u3_wk h1) .nil))
    · cases h
  · cases h
abbrev Y31 := Queue
def encR31 (x : Y31) : List (SV env.T) := [v28 x]
def decR31 (l : List (SV env.T)) : Option Y31 := match l with
  | [s0] => match u28 s0 with
    | some x0 => some (x0)
    | _ => none
  | _ => none
theorem hR31 (l : List (SV env.T)) (x : Y31) (h : decR31 l = some x) : WkA env.has l (encR31 x) := by
  unfold decR31 at h; split at h
  · split at h
    · rename_i h0; cases h; exact (.cons (u28_wk h0) .nil)
    · cases h
  · cases h
theorem hD31 (y : Y31) : isDataV (tupV (encR31 y)) = true := rfl
theorem hb31 : f31.body = some b31 := by kernel_rfl
noncomputable def B31 : Int → Int → (Y31 → Prop) → Prop :=
  fun x0 x1 K ↦ K (Queue.mk (Policy.mk 5 x0 0 0) x1 (List.replicate 8 []) (List.replicate 8 0) 0)
theorem V31_ex : ∃ V : Int → Int → (Y31 → Prop) → Prop, V = B31 := ⟨_, rfl⟩
noncomputable def V31 : Int → Int → (Y31 → Prop) → Prop := Classical.choose V31_ex
theorem V31_eq : V31 = B31 := Classical.choose_spec V31_ex
theorem po_31_31 : PiecesOk Try.prog env (ctxG env false [] R34 [] []) 31 b31 :=
  pieces_at (L := []) (S := []) (fun _ => rfl) (fun _ => rfl) (by kernel_rfl) (by kernel_rfl) (fun _ hq => by cases hq) (fun _ hq => by cases hq)
theorem bo_31 : BodiesOk Try.prog env (ctxG env false [] R34 [] []) := bodies_okG (ks := []) (by kernel_rfl) (fun _ hq => by cases hq)
theorem eq_31 (x0 : Int) (x1 : Int) (K : Y31 → Prop) : vcCode env (ctxG env false [] R34 [] []) 2000 31 b31 (entry env f31 [v3 x0, v3 x1]) (finR env f31 decR31 K) = B31 x0 x1 K := by kernel_rfl
noncomputable def rule31 : Nat × Rule env := (31, ruleF env decA31 encR31 fun x => V31 x.1 x.2)
theorem r31 : RuleOk Try.prog env 31 rule31.2 :=
  rule_fun tab (ctxG_ok R34_ok false [] _ _) bo_31 (f := 31) (fn := f31) rfl hb31 po_31_31 2000 encA31 hA31 hR31 hD31 (fun _ => of_decide_eq_true (by kernel_rfl)) (fun x K => (eq_31 x.1 x.2 K).trans (by rw [V31_eq]))
noncomputable def R31 : List (Nat × Rule env) := rule31 :: R34
theorem R31_ok : AllOk Try.prog env R31 := ⟨r31, R34_ok⟩
-- 30 queuelab/queuelablaw22.filled
noncomputable def f30 : Func := Try.f30
noncomputable def b30 : Code := (Try.f30.body).getD .skip
abbrev X30 := Queue × (List Packet)
def encA30 (x : X30) : List (SV env.T) := [v28 x.1, v33 x.2]
def decA30 (l : List (SV env.T)) : Option X30 := match l with
  | [s0, s1] => match u28 s0, u33 s1 with
    | some x0, some x1 => some (x0, x1)
    | _, _ => none
  | _ => none
theorem hA30 (l : List (SV env.T)) (x : X30) (h : decA30 l = some x) : WkA env.has l (encA30 x) := by
  unfold decA30 at h; split at h
  · split at h
    · rename_i h0 h1; cases h; exact (.cons (u28_wk h0) (.cons (u33_wk h1) .nil))
    · cases h
  · cases h
abbrev Y30 := Queue × Bool
def encR30 (x : Y30) : List (SV env.T) := [v28 x.1, v4 x.2]
def decR30 (l : List (SV env.T)) : Option Y30 := match l with
  | [s0, s1] => match u28 s0, u4 s1 with
    | some x0, some x1 => some (x0, x1)
    | _, _ => none
  | _ => none
theorem hR30 (l : List (SV env.T)) (x : Y30) (h : decR30 l = some x) : WkA env.has l (encR30 x) := by
  unfold decR30 at h; split at h
  · split at h
    · rename_i h0 h1; cases h; exact (.cons (u28_wk h0) (.cons (u4_wk h1) .nil))
    · cases h
  · cases h
theorem hD30 (y : Y30) : isDataV (tupV (encR30 y)) = true := rfl
theorem hb30 : f30.body = some b30 := by kernel_rfl
def l_30_2 : Nat → (List Packet) → Bool → Int → Int → Int → Int → Int → Int → (List (List Queued)) → (List Int) → Int → Int → Int → Int → Int → Int → (List Int) → Int → (Bool → Int → Int → Int → Int → Int → (List (List Queued)) → (List Int) → Int → Prop) → (Bool → Int → Int → Int → Int → Int → (List (List Queued)) → (List Int) → Int → Int → Int → Int → Int → Int → (List Int) → Int → Prop) → Prop
  | 0 => fun _ _ _ _ _ _ _ _ _ _ _ _ _ _ _ _ _ _ _ _ => False
  | k + 1 => fun x1 x2 x3 x4 x5 x6 x7 x8 x9 x10 x11 x12 x13 x14 x15 x16 x17 x18 kr k0 ↦ br (decide (x3 < (↑x1.length : Int))) (br (inb x3 (↑x1.length : Int)) (∃ k22, (V17 (Queue.mk (Policy.mk x4 x5 x6 x7) x8 x9 x10 x11) (x1.getD x3.toNat (env.d 30)) (x10.getD 7 0) fun y23 ↦ tupV (encR17 y23) = tupV (encR17 k22)) ∧ br (k22.snd.snd != 0) (kr false x4 x5 x6 x7 x8 x9 x10 x11) (br (decide ((↑k22.snd.fst.length : Int) > 0)) (kr false x4 x5 x6 x7 x8 x9 x10 x11) (l_30_2 k x1 x2 (IntKind.i64.wrap (x3 + 1)) k22.fst.policy.kind k22.fst.policy.a k22.fst.policy.b k22.fst.policy.c k22.fst.room k22.fst.lists k22.fst.vars k22.fst.seed x12 x13 x14 x15 x16 x17 x18 kr k0))) False) (k0 x2 x4 x5 x6 x7 x8 x9 x10 x11 x12 x13 x14 x15 x16 x17 x18)
def w_30_2 (k : Nat) (vs : List (SV env.T)) (K : Ex → List (SV env.T) → Prop) : Prop :=
  dCD 30 vs fun x1 vs => dCB vs fun x2 vs => dCI .i64 vs fun x3 vs => dCI .i64 vs fun x4 vs => dCI .i64 vs fun x5 vs => dCI .i64 vs fun x6 vs => dCI .i64 vs fun x7 vs => dCI .i64 vs fun x8 vs => dCD 43 vs fun x9 vs => dCA .i64 8 vs fun x10 vs => dCI .u64 vs fun x11 vs => dCI .i64 vs fun x12 vs => dCI .i64 vs fun x13 vs => dCI .i64 vs fun x14 vs => dCI .i64 vs fun x15 vs => dCI .i64 vs fun x16 vs => dCN vs fun vs => dCA .i64 8 vs fun x17 vs => dCI .u64 vs fun x18 vs => dCE vs (l_30_2 k x1 x2 x3 x4 x5 x6 x7 x8 x9 x10 x11 x12 x13 x14 x15 x16 x17 x18 (fun y1 y2 y3 y4 y5 y6 y7 y8 y9 => K .ret [.bool y1, .int .i64 y2, .int .i64 y3, .int .i64 y4, .int .i64 y5, .int .i64 y6, .dat 43 y7, .arr .i64 8 y8, .int .u64 y9]) (fun y1 y2 y3 y4 y5 y6 y7 y8 y9 y10 y11 y12 y13 y14 y15 y16 => K (.exit 0) [.bool y1, .int .i64 y2, .int .i64 y3, .int .i64 y4, .int .i64 y5, .int .i64 y6, .dat 43 y7, .arr .i64 8 y8, .int .u64 y9, .int .i64 y10, .int .i64 y11, .int .i64 y12, .int .i64 y13, .int .i64 y14, .nils, .arr .i64 8 y15, .int .u64 y16]))
def p_30_2 : Piece env := ⟨⟨[.any, .holeD 30, .ptr 0 0, .any, .ptr 1 0, .hole, .hole, .any, .any, .any, .any, .any, .any, .any, .any, .any, .any, .any, .any, .any, .any, .any, .any, .any, .any, .any, .any, .any, .any, .any, .any, .any, .any, .any, .any, .any, .any, .any, .any], [], [(0, .cells 28 [.hole, .hole, .hole, .hole, .hole, .holeD 43, .hole, .hole]), (1, .cells 28 [.hole, .hole, .hole, .hole, .hole, .hole, .hole, .hole])], 2⟩, exitF none [(0, ⟨[.any, .any, .ptr 0 0, .any, .ptr 1 0, .hole, .any, .any, .any, .any, .any, .any, .any, .any, .any, .any, .any, .any, .any, .any, .any, .any, .any, .any, .any, .any, .any, .any, .any, .any, .any, .any, .any, .any, .any, .any, .any, .any, .any], [], [(0, .cells 28 [.hole, .hole, .hole, .hole, .hole, .holeD 43, .hole, .hole]), (1, .cells 28 [.hole, .hole, .hole, .hole, .hole, .hole, .hole, .hole])], 2⟩)] (some ⟨[.any, .any, .any, .any, .ptr 0 0, .hole, .any, .any, .any, .any, .any, .any, .any, .any, .any, .any, .any, .any, .any, .any, .any, .any, .any, .any, .any, .any, .any, .any, .any, .any, .any, .any, .any, .any, .any, .any, .any, .any, .any], [], [(0, .cells 28 [.hole, .hole, .hole, .hole, .hole, .holeD 43, .hole, .hole])], 1⟩), fun vs K => ∃ k, w_30_2 k vs K⟩
noncomputable def B30 : Queue → (List Packet) → (Y30 → Prop) → Prop :=
  fun x0 x1 K ↦ ∃ k3, l_30_2 k3 x1 false 0 x0.policy.kind x0.policy.a x0.policy.b x0.policy.c x0.room x0.lists x0.vars x0.seed 0 0 0 0 0 [0, 0, 0, 0, 0, 0, 0, 0] 0 (fun y4 y5 y6 y7 y8 y9 y10 y11 y12 ↦ K (Queue.mk (Policy.mk y5 y6 y7 y8) y9 y10 y11 y12, y4)) fun _ y5 y6 y7 y8 y9 y10 y11 y12 _ _ _ _ _ _ _ ↦ K (Queue.mk (Policy.mk y5 y6 y7 y8) y9 y10 y11 y12, true)
theorem V30_ex : ∃ V : Queue → (List Packet) → (Y30 → Prop) → Prop, V = B30 := ⟨_, rfl⟩
noncomputable def V30 : Queue → (List Packet) → (Y30 → Prop) → Prop := Classical.choose V30_ex
theorem V30_eq : V30 = B30 := Classical.choose_spec V30_ex
theorem pook_30_2_30 : PiecesOk Try.prog env (ctxG env false [] R31 [] []) 30 b30 :=
  pieces_at (L := []) (S := []) (fun _ => rfl) (fun _ => rfl) (by kernel_rfl) (by kernel_rfl) (fun _ hq => by cases hq) (fun _ hq => by cases hq)
theorem book_30_2 : BodiesOk Try.prog env (ctxG env false [] R31 [] []) := bodies_okG (ks := []) (by kernel_rfl) (fun _ hq => by cases hq)
theorem stok_30_2 (k : Nat) (x1 : (List Packet)) (x2 : Bool) (x3 : Int) (x4 : Int) (x5 : Int) (x6 : Int) (x7 : Int) (x8 : Int) (x9 : (List (List Queued))) (x10 : (List Int)) (x11 : Int) (x12 : Int) (x13 : Int) (x14 : Int) (x15 : Int) (x16 : Int) (x17 : (List Int)) (x18 : Int) (K : Ex → List (SV env.T) → Prop) : l_30_2 (k + 1) x1 x2 x3 x4 x5 x6 x7 x8 x9 x10 x11 x12 x13 x14 x15 x16 x17 x18 (fun y1 y2 y3 y4 y5 y6 y7 y8 y9 => K .ret [.bool y1, .int .i64 y2, .int .i64 y3, .int .i64 y4, .int .i64 y5, .int .i64 y6, .dat 43 y7, .arr .i64 8 y8, .int .u64 y9]) (fun y1 y2 y3 y4 y5 y6 y7 y8 y9 y10 y11 y12 y13 y14 y15 y16 => K (.exit 0) [.bool y1, .int .i64 y2, .int .i64 y3, .int .i64 y4, .int .i64 y5, .int .i64 y6, .dat 43 y7, .arr .i64 8 y8, .int .u64 y9, .int .i64 y10, .int .i64 y11, .int .i64 y12, .int .i64 y13, .int .i64 y14, .nils, .arr .i64 8 y15, .int .u64 y16]) = vcCode env (ctxG env false [] R31 [] []) 2000 30 (loopAt b30 2) (insSt p_30_2.head [.dat 30 x1, .bool x2, .int .i64 x3, .int .i64 x4, .int .i64 x5, .int .i64 x6, .int .i64 x7, .int .i64 x8, .dat 43 x9, .arr .i64 8 x10, .int .u64 x11, .int .i64 x12, .int .i64 x13, .int .i64 x14, .int .i64 x15, .int .i64 x16, .nils, .arr .i64 8 x17, .int .u64 x18]) (stepK p_30_2 (w_30_2 k) K) := by kernel_rfl
theorem wiok_30_2 (k : Nat) (vs : List (SV env.T)) (K : Ex → List (SV env.T) → Prop) (h : w_30_2 k vs K) : ∃ x1 : (List Packet), ∃ x2 : Bool, ∃ x3 : Int, ∃ x4 : Int, ∃ x5 : Int, ∃ x6 : Int, ∃ x7 : Int, ∃ x8 : Int, ∃ x9 : (List (List Queued)), ∃ x10 : (List Int), ∃ x11 : Int, ∃ x12 : Int, ∃ x13 : Int, ∃ x14 : Int, ∃ x15 : Int, ∃ x16 : Int, ∃ x17 : (List Int), ∃ x18 : Int, vs = [.dat 30 x1, .bool x2, .int .i64 x3, .int .i64 x4, .int .i64 x5, .int .i64 x6, .int .i64 x7, .int .i64 x8, .dat 43 x9, .arr .i64 8 x10, .int .u64 x11, .int .i64 x12, .int .i64 x13, .int .i64 x14, .int .i64 x15, .int .i64 x16, .nils, .arr .i64 8 x17, .int .u64 x18] ∧ l_30_2 k x1 x2 x3 x4 x5 x6 x7 x8 x9 x10 x11 x12 x13 x14 x15 x16 x17 x18 (fun y1 y2 y3 y4 y5 y6 y7 y8 y9 => K .ret [.bool y1, .int .i64 y2, .int .i64 y3, .int .i64 y4, .int .i64 y5, .int .i64 y6, .dat 43 y7, .arr .i64 8 y8, .int .u64 y9]) (fun y1 y2 y3 y4 y5 y6 y7 y8 y9 y10 y11 y12 y13 y14 y15 y16 => K (.exit 0) [.bool y1, .int .i64 y2, .int .i64 y3, .int .i64 y4, .int .i64 y5, .int .i64 y6, .dat 43 y7, .arr .i64 8 y8, .int .u64 y9, .int .i64 y10, .int .i64 y11, .int .i64 y12, .int .i64 y13, .int .i64 y14, .nils, .arr .i64 8 y15, .int .u64 y16]) := by
  unfold w_30_2 at h
  replace h := dCD_spec h
  obtain ⟨x1, vs0, e0, h⟩ := h
  replace h := dCB_spec h
  obtain ⟨x2, vs1, e1, h⟩ := h
  replace h := dCI_spec h
  obtain ⟨x3, vs2, e2, h⟩ := h
  replace h := dCI_spec h
  obtain ⟨x4, vs3, e3, h⟩ := h
  replace h := dCI_spec h
  obtain ⟨x5, vs4, e4, h⟩ := h
  replace h := dCI_spec h
  obtain ⟨x6, vs5, e5, h⟩ := h
  replace h := dCI_spec h
  obtain ⟨x7, vs6, e6, h⟩ := h
  replace h := dCI_spec h
  obtain ⟨x8, vs7, e7, h⟩ := h
  replace h := dCD_spec h
  obtain ⟨x9, vs8, e8, h⟩ := h
  replace h := dCA_spec h
  obtain ⟨x10, vs9, e9, h⟩ := h
  replace h := dCI_spec h
  obtain ⟨x11, vs10, e10, h⟩ := h
  replace h := dCI_spec h
  obtain ⟨x12, vs11, e11, h⟩ := h
  replace h := dCI_spec h
  obtain ⟨x13, vs12, e12, h⟩ := h
  replace h := dCI_spec h
  obtain ⟨x14, vs13, e13, h⟩ := h
  replace h := dCI_spec h
  obtain ⟨x15, vs14, e14, h⟩ := h
  replace h := dCI_spec h
  obtain ⟨x16, vs15, e15, h⟩ := h
  replace h := dCN_spec h
  obtain ⟨vs16, e16, h⟩ := h
  replace h := dCA_spec h
  obtain ⟨x17, vs17, e17, h⟩ := h
  replace h := dCI_spec h
  obtain ⟨x18, vs18, e18, h⟩ := h
  replace h := dCE_spec h
  obtain ⟨e, h⟩ := h
  exact ⟨x1, x2, x3, x4, x5, x6, x7, x8, x9, x10, x11, x12, x13, x14, x15, x16, x17, x18, by rw [e0, e1, e2, e3, e4, e5, e6, e7, e8, e9, e10, e11, e12, e13, e14, e15, e16, e17, e18, e], h⟩
theorem zeok_30_2 (x1 : (List Packet)) (x2 : Bool) (x3 : Int) (x4 : Int) (x5 : Int) (x6 : Int) (x7 : Int) (x8 : Int) (x9 : (List (List Queued))) (x10 : (List Int)) (x11 : Int) (x12 : Int) (x13 : Int) (x14 : Int) (x15 : Int) (x16 : Int) (x17 : (List Int)) (x18 : Int) (K : Ex → List (SV env.T) → Prop) : l_30_2 0 x1 x2 x3 x4 x5 x6 x7 x8 x9 x10 x11 x12 x13 x14 x15 x16 x17 x18 (fun y1 y2 y3 y4 y5 y6 y7 y8 y9 => K .ret [.bool y1, .int .i64 y2, .int .i64 y3, .int .i64 y4, .int .i64 y5, .int .i64 y6, .dat 43 y7, .arr .i64 8 y8, .int .u64 y9]) (fun y1 y2 y3 y4 y5 y6 y7 y8 y9 y10 y11 y12 y13 y14 y15 y16 => K (.exit 0) [.bool y1, .int .i64 y2, .int .i64 y3, .int .i64 y4, .int .i64 y5, .int .i64 y6, .dat 43 y7, .arr .i64 8 y8, .int .u64 y9, .int .i64 y10, .int .i64 y11, .int .i64 y12, .int .i64 y13, .int .i64 y14, .nils, .arr .i64 8 y15, .int .u64 y16]) = False := by kernel_rfl
theorem ok_30_2 : PieceOk Try.prog env p_30_2 (.loop (loopAt b30 2)) := by
  refine loop_step (Wn := w_30_2) tab (ctxG_ok R31_ok false [] _ _) book_30_2 (pieces_sub pook_30_2_30 (by kernel_rfl)) rfl ?_ 2000 ?_
  · intro vs K h
    obtain ⟨x1, x2, x3, x4, x5, x6, x7, x8, x9, x10, x11, x12, x13, x14, x15, x16, x17, x18, _, h⟩ := wiok_30_2 0 vs K h
    exact Eq.mp (zeok_30_2 x1 x2 x3 x4 x5 x6 x7 x8 x9 x10 x11 x12 x13 x14 x15 x16 x17 x18 K) h
  · intro k vs K h
    obtain ⟨x1, x2, x3, x4, x5, x6, x7, x8, x9, x10, x11, x12, x13, x14, x15, x16, x17, x18, rfl, h⟩ := wiok_30_2 (k + 1) vs K h
    exact Eq.mp (stok_30_2 k x1 x2 x3 x4 x5 x6 x7 x8 x9 x10 x11 x12 x13 x14 x15 x16 x17 x18 K) h
theorem po_30_30 : PiecesOk Try.prog env (ctxG env false [] R31 [(30, [(2, p_30_2)])] []) 30 b30 :=
  pieces_at (L := [(2, p_30_2)]) (S := []) (fun _ => rfl) (fun _ => rfl) (by kernel_rfl) (by kernel_rfl) (List.forall_mem_cons.2 ⟨fun _ => ok_30_2, (fun _ hq => by cases hq)⟩) (fun _ hq => by cases hq)
theorem bo_30 : BodiesOk Try.prog env (ctxG env false [] R31 [(30, [(2, p_30_2)])] []) := bodies_okG (ks := [30]) (by kernel_rfl) (List.forall_mem_cons.2 ⟨body_at (fn := f30) (body := b30) rfl hb30 po_30_30, (fun _ hq => by cases hq)⟩)
theorem eq_30 (x0 : Queue) (x1 : (List Packet)) (K : Y30 → Prop) : vcCode env (ctxG env false [] R31 [(30, [(2, p_30_2)])] []) 2000 30 b30 (entry env f30 [v28 x0, v33 x1]) (finR env f30 decR30 K) = B30 x0 x1 K := by kernel_rfl
noncomputable def rule30 : Nat × Rule env := (30, ruleF env decA30 encR30 fun x => V30 x.1 x.2)
theorem r30 : RuleOk Try.prog env 30 rule30.2 :=
  rule_fun tab (ctxG_ok R31_ok false [] _ _) bo_30 (f := 30) (fn := f30) rfl hb30 po_30_30 2000 encA30 hA30 hR30 hD30 (fun _ => of_decide_eq_true (by kernel_rfl)) (fun x K => (eq_30 x.1 x.2 K).trans (by rw [V30_eq]))
noncomputable def R30 : List (Nat × Rule env) := rule30 :: R31
theorem R30_ok : AllOk Try.prog env R30 := ⟨r30, R31_ok⟩
-- 32 queuelab/queuelablaw22.taken
noncomputable def f32 : Func := Try.f32
noncomputable def b32 : Code := (Try.f32.body).getD .skip
abbrev X32 := Queue × Int
def encA32 (x : X32) : List (SV env.T) := [v28 x.1, v3 x.2]
def decA32 (l : List (SV env.T)) : Option X32 := match l with
  | [s0, s1] => match u28 s0, u3 s1 with
    | some x0, some x1 => some (x0, x1)
    | _, _ => none
  | _ => none
theorem hA32 (l : List (SV env.T)) (x : X32) (h : decA32 l = some x) : WkA env.has l (encA32 x) := by
  unfold decA32 at h; split at h
  · split at h
    · rename_i h0 h1; cases h; exact (.cons (u28_wk h0) (.cons (u3_wk h1) .nil))
    · cases h
  · cases h
abbrev Y32 := Queue × (List Packet)
def encR32 (x : Y32) : List (SV env.T) := [v28 x.1, v33 x.2]
def decR32 (l : List (SV env.T)) : Option Y32 := match l with
  | [s0, s1] => match u28 s0, u33 s1 with
    | some x0, some x1 => some (x0, x1)
    | _, _ => none
  | _ => none
theorem hR32 (l : List (SV env.T)) (x : Y32) (h : decR32 l = some x) : WkA env.has l (encR32 x) := by
  unfold decR32 at h; split at h
  · split at h
    · rename_i h0 h1; cases h; exact (.cons (u28_wk h0) (.cons (u33_wk h1) .nil))
    · cases h
  · cases h
theorem hD32 (y : Y32) : isDataV (tupV (encR32 y)) = true := rfl
theorem hb32 : f32.body = some b32 := by kernel_rfl
def l_32_3 : Nat → Int → Int → Int → Int → Int → Int → Int → (List (List Queued)) → (List Int) → Int → Int → Int → Int → Int → Int → (List Int) → Int → (List Packet) → (Int → Int → Int → Int → Int → (List (List Queued)) → (List Int) → Int → (List Packet) → Prop) → (Int → Int → Int → Int → Int → (List (List Queued)) → (List Int) → Int → Int → Int → Int → Int → Int → (List Int) → Int → (List Packet) → Prop) → Prop
  | 0 => fun _ _ _ _ _ _ _ _ _ _ _ _ _ _ _ _ _ _ _ _ => False
  | k + 1 => fun x1 x2 x3 x4 x5 x6 x7 x8 x9 x10 x11 x12 x13 x14 x15 x16 x17 x18 kr k0 ↦ br (decide (x2 < x1)) (V19 (Queue.mk (Policy.mk x3 x4 x5 x6) x7 x8 x9 x10) (x9.getD 7 0) fun y22 ↦ br (!y22.snd.snd.fst) (kr x3 x4 x5 x6 x7 x8 x9 x10 x18) (br (decide ((↑y22.snd.snd.snd.fst.length : Int) > 0)) (kr x3 x4 x5 x6 x7 x8 x9 x10 x18) (br (y22.snd.snd.snd.snd != 0) (kr x3 x4 x5 x6 x7 x8 x9 x10 x18) (br (roomB (x18 ++ [Packet.mk y22.snd.fst.flow y22.snd.fst.sub y22.snd.fst.number y22.snd.fst.data y22.snd.fst.size y22.snd.fst.sent y22.snd.fst.able y22.snd.fst.marked]).length (bytesB env 30)) (l_32_3 k x1 (IntKind.i64.wrap (x2 + 1)) y22.fst.policy.kind y22.fst.policy.a y22.fst.policy.b y22.fst.policy.c y22.fst.room y22.fst.lists y22.fst.vars y22.fst.seed x11 x12 x13 x14 x15 x16 x17 (x18 ++ [Packet.mk y22.snd.fst.flow y22.snd.fst.sub y22.snd.fst.number y22.snd.fst.data y22.snd.fst.size y22.snd.fst.sent y22.snd.fst.able y22.snd.fst.marked]) kr k0) False)))) (k0 x3 x4 x5 x6 x7 x8 x9 x10 x11 x12 x13 x14 x15 x16 x17 x18)
def w_32_3 (k : Nat) (vs : List (SV env.T)) (K : Ex → List (SV env.T) → Prop) : Prop :=
  dCI .i64 vs fun x1 vs => dCN vs fun vs => dCI .i64 vs fun x2 vs => dCI .i64 vs fun x3 vs => dCI .i64 vs fun x4 vs => dCI .i64 vs fun x5 vs => dCI .i64 vs fun x6 vs => dCI .i64 vs fun x7 vs => dCD 43 vs fun x8 vs => dCA .i64 8 vs fun x9 vs => dCI .u64 vs fun x10 vs => dCI .i64 vs fun x11 vs => dCI .i64 vs fun x12 vs => dCI .i64 vs fun x13 vs => dCI .i64 vs fun x14 vs => dCI .i64 vs fun x15 vs => dCN vs fun vs => dCA .i64 8 vs fun x16 vs => dCI .u64 vs fun x17 vs => dCD 30 vs fun x18 vs => dCE vs (l_32_3 k x1 x2 x3 x4 x5 x6 x7 x8 x9 x10 x11 x12 x13 x14 x15 x16 x17 x18 (fun y1 y2 y3 y4 y5 y6 y7 y8 y9 => K .ret [.int .i64 y1, .int .i64 y2, .int .i64 y3, .int .i64 y4, .int .i64 y5, .dat 43 y6, .arr .i64 8 y7, .int .u64 y8, .dat 30 y9]) (fun y1 y2 y3 y4 y5 y6 y7 y8 y9 y10 y11 y12 y13 y14 y15 y16 => K (.exit 0) [.nils, .int .i64 y1, .int .i64 y2, .int .i64 y3, .int .i64 y4, .int .i64 y5, .dat 43 y6, .arr .i64 8 y7, .int .u64 y8, .int .i64 y9, .int .i64 y10, .int .i64 y11, .int .i64 y12, .int .i64 y13, .nils, .arr .i64 8 y14, .int .u64 y15, .dat 30 y16]))
def p_32_3 : Piece env := ⟨⟨[.any, .hole, .ptr 0 0, .any, .ptr 1 0, .hole, .row 2, .hole, .any, .any, .any, .any, .any, .any, .any, .any, .any, .any, .any, .any, .any, .any, .any, .any, .any, .any, .any, .any, .any, .any, .any, .any, .any, .any, .any, .any, .any, .any, .any, .any, .any, .any, .any, .any, .any, .any, .any, .any, .any], [], [(0, .cells 28 [.hole, .hole, .hole, .hole, .hole, .holeD 43, .hole, .hole]), (1, .cells 28 [.hole, .hole, .hole, .hole, .hole, .hole, .hole, .hole]), (2, .row 30)], 3⟩, exitF none [(0, ⟨[.any, .any, .ptr 0 0, .any, .ptr 1 0, .hole, .row 2, .any, .any, .any, .any, .any, .any, .any, .any, .any, .any, .any, .any, .any, .any, .any, .any, .any, .any, .any, .any, .any, .any, .any, .any, .any, .any, .any, .any, .any, .any, .any, .any, .any, .any, .any, .any, .any, .any, .any, .any, .any, .any], [], [(0, .cells 28 [.hole, .hole, .hole, .hole, .hole, .holeD 43, .hole, .hole]), (1, .cells 28 [.hole, .hole, .hole, .hole, .hole, .hole, .hole, .hole]), (2, .row 30)], 3⟩)] (some ⟨[.any, .any, .any, .any, .ptr 0 0, .row 1, .any, .any, .any, .any, .any, .any, .any, .any, .any, .any, .any, .any, .any, .any, .any, .any, .any, .any, .any, .any, .any, .any, .any, .any, .any, .any, .any, .any, .any, .any, .any, .any, .any, .any, .any, .any, .any, .any, .any, .any, .any, .any, .any], [], [(0, .cells 28 [.hole, .hole, .hole, .hole, .hole, .holeD 43, .hole, .hole]), (1, .row 30)], 2⟩), fun vs K => ∃ k, w_32_3 k vs K⟩
noncomputable def B32 : Queue → Int → (Y32 → Prop) → Prop :=
  fun x0 x1 K ↦ ∃ k3, l_32_3 k3 x1 0 x0.policy.kind x0.policy.a x0.policy.b x0.policy.c x0.room x0.lists x0.vars x0.seed 0 0 0 0 0 [0, 0, 0, 0, 0, 0, 0, 0] 0 [] (fun y4 y5 y6 y7 y8 y9 y10 y11 y12 ↦ K (Queue.mk (Policy.mk y4 y5 y6 y7) y8 y9 y10 y11, y12)) fun y4 y5 y6 y7 y8 y9 y10 y11 _ _ _ _ _ _ _ y19 ↦ K (Queue.mk (Policy.mk y4 y5 y6 y7) y8 y9 y10 y11, y19)
theorem V32_ex : ∃ V : Queue → Int → (Y32 → Prop) → Prop, V = B32 := ⟨_, rfl⟩
noncomputable def V32 : Queue → Int → (Y32 → Prop) → Prop := Classical.choose V32_ex
theorem V32_eq : V32 = B32 := Classical.choose_spec V32_ex
theorem pook_32_3_32 : PiecesOk Try.prog env (ctxG env false [] R30 [] []) 32 b32 :=
  pieces_at (L := []) (S := []) (fun _ => rfl) (fun _ => rfl) (by kernel_rfl) (by kernel_rfl) (fun _ hq => by cases hq) (fun _ hq => by cases hq)
theorem book_32_3 : BodiesOk Try.prog env (ctxG env false [] R30 [] []) := bodies_okG (ks := []) (by kernel_rfl) (fun _ hq => by cases hq)
theorem stok_32_3 (k : Nat) (x1 : Int) (x2 : Int) (x3 : Int) (x4 : Int) (x5 : Int) (x6 : Int) (x7 : Int) (x8 : (List (List Queued))) (x9 : (List Int)) (x10 : Int) (x11 : Int) (x12 : Int) (x13 : Int) (x14 : Int) (x15 : Int) (x16 : (List Int)) (x17 : Int) (x18 : (List Packet)) (K : Ex → List (SV env.T) → Prop) : l_32_3 (k + 1) x1 x2 x3 x4 x5 x6 x7 x8 x9 x10 x11 x12 x13 x14 x15 x16 x17 x18 (fun y1 y2 y3 y4 y5 y6 y7 y8 y9 => K .ret [.int .i64 y1, .int .i64 y2, .int .i64 y3, .int .i64 y4, .int .i64 y5, .dat 43 y6, .arr .i64 8 y7, .int .u64 y8, .dat 30 y9]) (fun y1 y2 y3 y4 y5 y6 y7 y8 y9 y10 y11 y12 y13 y14 y15 y16 => K (.exit 0) [.nils, .int .i64 y1, .int .i64 y2, .int .i64 y3, .int .i64 y4, .int .i64 y5, .dat 43 y6, .arr .i64 8 y7, .int .u64 y8, .int .i64 y9, .int .i64 y10, .int .i64 y11, .int .i64 y12, .int .i64 y13, .nils, .arr .i64 8 y14, .int .u64 y15, .dat 30 y16]) = vcCode env (ctxG env false [] R30 [] []) 2000 32 (loopAt b32 3) (insSt p_32_3.head [.int .i64 x1, .nils, .int .i64 x2, .int .i64 x3, .int .i64 x4, .int .i64 x5, .int .i64 x6, .int .i64 x7, .dat 43 x8, .arr .i64 8 x9, .int .u64 x10, .int .i64 x11, .int .i64 x12, .int .i64 x13, .int .i64 x14, .int .i64 x15, .nils, .arr .i64 8 x16, .int .u64 x17, .dat 30 x18]) (stepK p_32_3 (w_32_3 k) K) := by kernel_rfl
theorem wiok_32_3 (k : Nat) (vs : List (SV env.T)) (K : Ex → List (SV env.T) → Prop) (h : w_32_3 k vs K) : ∃ x1 : Int, ∃ x2 : Int, ∃ x3 : Int, ∃ x4 : Int, ∃ x5 : Int, ∃ x6 : Int, ∃ x7 : Int, ∃ x8 : (List (List Queued)), ∃ x9 : (List Int), ∃ x10 : Int, ∃ x11 : Int, ∃ x12 : Int, ∃ x13 : Int, ∃ x14 : Int, ∃ x15 : Int, ∃ x16 : (List Int), ∃ x17 : Int, ∃ x18 : (List Packet), vs = [.int .i64 x1, .nils, .int .i64 x2, .int .i64 x3, .int .i64 x4, .int .i64 x5, .int .i64 x6, .int .i64 x7, .dat 43 x8, .arr .i64 8 x9, .int .u64 x10, .int .i64 x11, .int .i64 x12, .int .i64 x13, .int .i64 x14, .int .i64 x15, .nils, .arr .i64 8 x16, .int .u64 x17, .dat 30 x18] ∧ l_32_3 k x1 x2 x3 x4 x5 x6 x7 x8 x9 x10 x11 x12 x13 x14 x15 x16 x17 x18 (fun y1 y2 y3 y4 y5 y6 y7 y8 y9 => K .ret [.int .i64 y1, .int .i64 y2, .int .i64 y3, .int .i64 y4, .int .i64 y5, .dat 43 y6, .arr .i64 8 y7, .int .u64 y8, .dat 30 y9]) (fun y1 y2 y3 y4 y5 y6 y7 y8 y9 y10 y11 y12 y13 y14 y15 y16 => K (.exit 0) [.nils, .int .i64 y1, .int .i64 y2, .int .i64 y3, .int .i64 y4, .int .i64 y5, .dat 43 y6, .arr .i64 8 y7, .int .u64 y8, .int .i64 y9, .int .i64 y10, .int .i64 y11, .int .i64 y12, .int .i64 y13, .nils, .arr .i64 8 y14, .int .u64 y15, .dat 30 y16]) := by
  unfold w_32_3 at h
  replace h := dCI_spec h
  obtain ⟨x1, vs0, e0, h⟩ := h
  replace h := dCN_spec h
  obtain ⟨vs1, e1, h⟩ := h
  replace h := dCI_spec h
  obtain ⟨x2, vs2, e2, h⟩ := h
  replace h := dCI_spec h
  obtain ⟨x3, vs3, e3, h⟩ := h
  replace h := dCI_spec h
  obtain ⟨x4, vs4, e4, h⟩ := h
  replace h := dCI_spec h
  obtain ⟨x5, vs5, e5, h⟩ := h
  replace h := dCI_spec h
  obtain ⟨x6, vs6, e6, h⟩ := h
  replace h := dCI_spec h
  obtain ⟨x7, vs7, e7, h⟩ := h
  replace h := dCD_spec h
  obtain ⟨x8, vs8, e8, h⟩ := h
  replace h := dCA_spec h
  obtain ⟨x9, vs9, e9, h⟩ := h
  replace h := dCI_spec h
  obtain ⟨x10, vs10, e10, h⟩ := h
  replace h := dCI_spec h
  obtain ⟨x11, vs11, e11, h⟩ := h
  replace h := dCI_spec h
  obtain ⟨x12, vs12, e12, h⟩ := h
  replace h := dCI_spec h
  obtain ⟨x13, vs13, e13, h⟩ := h
  replace h := dCI_spec h
  obtain ⟨x14, vs14, e14, h⟩ := h
  replace h := dCI_spec h
  obtain ⟨x15, vs15, e15, h⟩ := h
  replace h := dCN_spec h
  obtain ⟨vs16, e16, h⟩ := h
  replace h := dCA_spec h
  obtain ⟨x16, vs17, e17, h⟩ := h
  replace h := dCI_spec h
  obtain ⟨x17, vs18, e18, h⟩ := h
  replace h := dCD_spec h
  obtain ⟨x18, vs19, e19, h⟩ := h
  replace h := dCE_spec h
  obtain ⟨e, h⟩ := h
  exact ⟨x1, x2, x3, x4, x5, x6, x7, x8, x9, x10, x11, x12, x13, x14, x15, x16, x17, x18, by rw [e0, e1, e2, e3, e4, e5, e6, e7, e8, e9, e10, e11, e12, e13, e14, e15, e16, e17, e18, e19, e], h⟩
theorem zeok_32_3 (x1 : Int) (x2 : Int) (x3 : Int) (x4 : Int) (x5 : Int) (x6 : Int) (x7 : Int) (x8 : (List (List Queued))) (x9 : (List Int)) (x10 : Int) (x11 : Int) (x12 : Int) (x13 : Int) (x14 : Int) (x15 : Int) (x16 : (List Int)) (x17 : Int) (x18 : (List Packet)) (K : Ex → List (SV env.T) → Prop) : l_32_3 0 x1 x2 x3 x4 x5 x6 x7 x8 x9 x10 x11 x12 x13 x14 x15 x16 x17 x18 (fun y1 y2 y3 y4 y5 y6 y7 y8 y9 => K .ret [.int .i64 y1, .int .i64 y2, .int .i64 y3, .int .i64 y4, .int .i64 y5, .dat 43 y6, .arr .i64 8 y7, .int .u64 y8, .dat 30 y9]) (fun y1 y2 y3 y4 y5 y6 y7 y8 y9 y10 y11 y12 y13 y14 y15 y16 => K (.exit 0) [.nils, .int .i64 y1, .int .i64 y2, .int .i64 y3, .int .i64 y4, .int .i64 y5, .dat 43 y6, .arr .i64 8 y7, .int .u64 y8, .int .i64 y9, .int .i64 y10, .int .i64 y11, .int .i64 y12, .int .i64 y13, .nils, .arr .i64 8 y14, .int .u64 y15, .dat 30 y16]) = False := by kernel_rfl
theorem ok_32_3 : PieceOk Try.prog env p_32_3 (.loop (loopAt b32 3)) := by
  refine loop_step (Wn := w_32_3) tab (ctxG_ok R30_ok false [] _ _) book_32_3 (pieces_sub pook_32_3_32 (by kernel_rfl)) rfl ?_ 2000 ?_
  · intro vs K h
    obtain ⟨x1, x2, x3, x4, x5, x6, x7, x8, x9, x10, x11, x12, x13, x14, x15, x16, x17, x18, _, h⟩ := wiok_32_3 0 vs K h
    exact Eq.mp (zeok_32_3 x1 x2 x3 x4 x5 x6 x7 x8 x9 x10 x11 x12 x13 x14 x15 x16 x17 x18 K) h
  · intro k vs K h
    obtain ⟨x1, x2, x3, x4, x5, x6, x7, x8, x9, x10, x11, x12, x13, x14, x15, x16, x17, x18, rfl, h⟩ := wiok_32_3 (k + 1) vs K h
    exact Eq.mp (stok_32_3 k x1 x2 x3 x4 x5 x6 x7 x8 x9 x10 x11 x12 x13 x14 x15 x16 x17 x18 K) h
theorem po_32_32 : PiecesOk Try.prog env (ctxG env false [] R30 [(32, [(3, p_32_3)])] []) 32 b32 :=
  pieces_at (L := [(3, p_32_3)]) (S := []) (fun _ => rfl) (fun _ => rfl) (by kernel_rfl) (by kernel_rfl) (List.forall_mem_cons.2 ⟨fun _ => ok_32_3, (fun _ hq => by cases hq)⟩) (fun _ hq => by cases hq)
theorem bo_32 : BodiesOk Try.prog env (ctxG env false [] R30 [(32, [(3, p_32_3)])] []) := bodies_okG (ks := [32]) (by kernel_rfl) (List.forall_mem_cons.2 ⟨body_at (fn := f32) (body := b32) rfl hb32 po_32_32, (fun _ hq => by cases hq)⟩)
theorem eq_32 (x0 : Queue) (x1 : Int) (K : Y32 → Prop) : vcCode env (ctxG env false [] R30 [(32, [(3, p_32_3)])] []) 2000 32 b32 (entry env f32 [v28 x0, v3 x1]) (finR env f32 decR32 K) = B32 x0 x1 K := by kernel_rfl
noncomputable def rule32 : Nat × Rule env := (32, ruleF env decA32 encR32 fun x => V32 x.1 x.2)
theorem r32 : RuleOk Try.prog env 32 rule32.2 :=
  rule_fun tab (ctxG_ok R30_ok false [] _ _) bo_32 (f := 32) (fn := f32) rfl hb32 po_32_32 2000 encA32 hA32 hR32 hD32 (fun _ => of_decide_eq_true (by kernel_rfl)) (fun x K => (eq_32 x.1 x.2 K).trans (by rw [V32_eq]))
noncomputable def R32 : List (Nat × Rule env) := rule32 :: R30
theorem R32_ok : AllOk Try.prog env R32 := ⟨r32, R30_ok⟩
end Go.Vg.Ytgekegoflaichaa
