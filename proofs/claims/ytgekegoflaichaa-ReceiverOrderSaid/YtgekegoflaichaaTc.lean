/-
  Walked functions of the program: predicate transformers and their rules. Written by a program of this work (gen.py, VgGen.lean) out of the executor's own reduction; no condition.
-/
import Derived.Test.YtgekegoflaichaaTb
set_option maxRecDepth 100000
set_option maxHeartbeats 4000000
namespace Go.Vg.Ytgekegoflaichaa
open Go.Vg Go.Proofs
-- 59 queuelab/queuelabref18.number
noncomputable def f59 : Func := Try.f59
noncomputable def b59 : Code := (Try.f59.body).getD .skip
abbrev X59 := Int
def encA59 (x : X59) : List (SV env.T) := [v3 x]
def decA59 (l : List (SV env.T)) : Option X59 := match l with
  | [s0] => match u3 s0 with
    | some x0 => some (x0)
    | _ => none
  | _ => none
theorem hA59 (l : List (SV env.T)) (x : X59) (h : decA59 l = some x) : WkA env.has l (encA59 x) := by
  unfold decA59 at h; split at h
  · split at h
    · rename_i h0; cases h; exact (.cons (u3_wk h0) .nil)
    · cases h
  · cases h
abbrev Y59 := Bool
def encR59 (x : Y59) : List (SV env.T) := [v4 x]
def decR59 (l : List (SV env.T)) : Option Y59 := match l with
  | [s0] => match u4 s0 with
    | some x0 => some (x0)
    | _ => none
  | _ => none
theorem hR59 (l : List (SV env.T)) (x : Y59) (h : decR59 l = some x) : WkA env.has l (encR59 x) := by
  unfold decR59 at h; split at h
  · split at h
    · rename_i h0; cases h; exact (.cons (u4_wk h0) .nil)
    · cases h
  · cases h
theorem hD59 (y : Y59) : isDataV (tupV (encR59 y)) = true := rfl
theorem hb59 : f59.body = some b59 := by kernel_rfl
noncomputable def B59 : Int → (Y59 → Prop) → Prop :=
  fun x0 K ↦ br (decide (x0 ≥ 0)) (K (decide (x0 ≤ 1000000000))) (K false)
theorem V59_ex : ∃ V : Int → (Y59 → Prop) → Prop, V = B59 := ⟨_, rfl⟩
noncomputable def V59 : Int → (Y59 → Prop) → Prop := Classical.choose V59_ex
theorem V59_eq : V59 = B59 := Classical.choose_spec V59_ex
theorem po_59_59 : PiecesOk Try.prog env (ctxG env false [] R37 [] []) 59 b59 :=
  pieces_at (L := []) (S := []) (fun _ => rfl) (fun _ => rfl) (by kernel_rfl) (by kernel_rfl) (fun _ hq => by cases hq) (fun _ hq => by cases hq)
theorem bo_59 : BodiesOk Try.prog env (ctxG env false [] R37 [] []) := bodies_okG (ks := []) (by kernel_rfl) (fun _ hq => by cases hq)
theorem eq_59 (x0 : Int) (K : Y59 → Prop) : vcCode env (ctxG env false [] R37 [] []) 2000 59 b59 (entry env f59 [v3 x0]) (finR env f59 decR59 K) = B59 x0 K := by kernel_rfl
noncomputable def rule59 : Nat × Rule env := (59, ruleF env decA59 encR59 fun x => V59 x)
theorem r59 : RuleOk Try.prog env 59 rule59.2 :=
  rule_fun tab (ctxG_ok R37_ok false [] _ _) bo_59 (f := 59) (fn := f59) rfl hb59 po_59_59 2000 encA59 hA59 hR59 hD59 (fun _ => of_decide_eq_true (by kernel_rfl)) (fun x K => (eq_59 x K).trans (by rw [V59_eq]))
noncomputable def R59 : List (Nat × Rule env) := rule59 :: R37
theorem R59_ok : AllOk Try.prog env R59 := ⟨r59, R37_ok⟩
-- 29 queuelab/queuelabref18.Time
noncomputable def f29 : Func := Try.f29
noncomputable def b29 : Code := (Try.f29.body).getD .skip
abbrev X29 := Int
def encA29 (x : X29) : List (SV env.T) := [v3 x]
def decA29 (l : List (SV env.T)) : Option X29 := match l with
  | [s0] => match u3 s0 with
    | some x0 => some (x0)
    | _ => none
  | _ => none
theorem hA29 (l : List (SV env.T)) (x : X29) (h : decA29 l = some x) : WkA env.has l (encA29 x) := by
  unfold decA29 at h; split at h
  · split at h
    · rename_i h0; cases h; exact (.cons (u3_wk h0) .nil)
    · cases h
  · cases h
abbrev Y29 := Bool
def encR29 (x : Y29) : List (SV env.T) := [v4 x]
def decR29 (l : List (SV env.T)) : Option Y29 := match l with
  | [s0] => match u4 s0 with
    | some x0 => some (x0)
    | _ => none
  | _ => none
theorem hR29 (l : List (SV env.T)) (x : Y29) (h : decR29 l = some x) : WkA env.has l (encR29 x) := by
  unfold decR29 at h; split at h
  · split at h
    · rename_i h0; cases h; exact (.cons (u4_wk h0) .nil)
    · cases h
  · cases h
theorem hD29 (y : Y29) : isDataV (tupV (encR29 y)) = true := rfl
theorem hb29 : f29.body = some b29 := by kernel_rfl
noncomputable def B29 : Int → (Y29 → Prop) → Prop :=
  fun x0 K ↦ br (decide (x0 ≥ 0)) (K (decide (x0 ≤ 10000000))) (K false)
theorem V29_ex : ∃ V : Int → (Y29 → Prop) → Prop, V = B29 := ⟨_, rfl⟩
noncomputable def V29 : Int → (Y29 → Prop) → Prop := Classical.choose V29_ex
theorem V29_eq : V29 = B29 := Classical.choose_spec V29_ex
theorem po_29_29 : PiecesOk Try.prog env (ctxG env false [] R59 [] []) 29 b29 :=
  pieces_at (L := []) (S := []) (fun _ => rfl) (fun _ => rfl) (by kernel_rfl) (by kernel_rfl) (fun _ hq => by cases hq) (fun _ hq => by cases hq)
theorem bo_29 : BodiesOk Try.prog env (ctxG env false [] R59 [] []) := bodies_okG (ks := []) (by kernel_rfl) (fun _ hq => by cases hq)
theorem eq_29 (x0 : Int) (K : Y29 → Prop) : vcCode env (ctxG env false [] R59 [] []) 2000 29 b29 (entry env f29 [v3 x0]) (finR env f29 decR29 K) = B29 x0 K := by kernel_rfl
noncomputable def rule29 : Nat × Rule env := (29, ruleF env decA29 encR29 fun x => V29 x)
theorem r29 : RuleOk Try.prog env 29 rule29.2 :=
  rule_fun tab (ctxG_ok R59_ok false [] _ _) bo_29 (f := 29) (fn := f29) rfl hb29 po_29_29 2000 encA29 hA29 hR29 hD29 (fun _ => of_decide_eq_true (by kernel_rfl)) (fun x K => (eq_29 x K).trans (by rw [V29_eq]))
noncomputable def R29 : List (Nat × Rule env) := rule29 :: R59
theorem R29_ok : AllOk Try.prog env R29 := ⟨r29, R59_ok⟩
-- 26 queuelab/queuelabref18.Packet
noncomputable def f26 : Func := Try.f26
noncomputable def b26 : Code := (Try.f26.body).getD .skip
abbrev X26 := Packet
def encA26 (x : X26) : List (SV env.T) := [v30 x]
def decA26 (l : List (SV env.T)) : Option X26 := match l with
  | [s0] => match u30 s0 with
    | some x0 => some (x0)
    | _ => none
  | _ => none
theorem hA26 (l : List (SV env.T)) (x : X26) (h : decA26 l = some x) : WkA env.has l (encA26 x) := by
  unfold decA26 at h; split at h
  · split at h
    · rename_i h0; cases h; exact (.cons (u30_wk h0) .nil)
    · cases h
  · cases h
abbrev Y26 := Bool
def encR26 (x : Y26) : List (SV env.T) := [v4 x]
def decR26 (l : List (SV env.T)) : Option Y26 := match l with
  | [s0] => match u4 s0 with
    | some x0 => some (x0)
    | _ => none
  | _ => none
theorem hR26 (l : List (SV env.T)) (x : Y26) (h : decR26 l = some x) : WkA env.has l (encR26 x) := by
  unfold decR26 at h; split at h
  · split at h
    · rename_i h0; cases h; exact (.cons (u4_wk h0) .nil)
    · cases h
  · cases h
theorem hD26 (y : Y26) : isDataV (tupV (encR26 y)) = true := rfl
theorem hb26 : f26.body = some b26 := by kernel_rfl
noncomputable def B26 : Packet → (Y26 → Prop) → Prop :=
  fun x0 K ↦ br (decide (x0.flow ≥ 0)) (br (decide (x0.flow < 8)) (br (decide (x0.sub ≥ 0)) (br (decide (x0.sub < 4)) (V59 x0.number fun y2 ↦ br y2 (V59 x0.data fun y3 ↦ br y3 (br (decide (x0.size ≥ 1)) (br (decide (x0.size ≤ 10000)) (V29 x0.sent K) (K false)) (K false)) (K false)) (K false)) (K false)) (K false)) (K false)) (K false)
theorem V26_ex : ∃ V : Packet → (Y26 → Prop) → Prop, V = B26 := ⟨_, rfl⟩
noncomputable def V26 : Packet → (Y26 → Prop) → Prop := Classical.choose V26_ex
theorem V26_eq : V26 = B26 := Classical.choose_spec V26_ex
theorem po_26_26 : PiecesOk Try.prog env (ctxG env false [] R29 [] []) 26 b26 :=
  pieces_at (L := []) (S := []) (fun _ => rfl) (fun _ => rfl) (by kernel_rfl) (by kernel_rfl) (fun _ hq => by cases hq) (fun _ hq => by cases hq)
theorem bo_26 : BodiesOk Try.prog env (ctxG env false [] R29 [] []) := bodies_okG (ks := []) (by kernel_rfl) (fun _ hq => by cases hq)
theorem eq_26 (x0 : Packet) (K : Y26 → Prop) : vcCode env (ctxG env false [] R29 [] []) 2000 26 b26 (entry env f26 [v30 x0]) (finR env f26 decR26 K) = B26 x0 K := by kernel_rfl
noncomputable def rule26 : Nat × Rule env := (26, ruleF env decA26 encR26 fun x => V26 x)
theorem r26 : RuleOk Try.prog env 26 rule26.2 :=
  rule_fun tab (ctxG_ok R29_ok false [] _ _) bo_26 (f := 26) (fn := f26) rfl hb26 po_26_26 2000 encA26 hA26 hR26 hD26 (fun _ => of_decide_eq_true (by kernel_rfl)) (fun x K => (eq_26 x K).trans (by rw [V26_eq]))
noncomputable def R26 : List (Nat × Rule env) := rule26 :: R29
theorem R26_ok : AllOk Try.prog env R26 := ⟨r26, R29_ok⟩
-- 70 queuelab/queuelabref30.Window
noncomputable def f70 : Func := Try.f70
noncomputable def b70 : Code := (Try.f70.body).getD .skip
abbrev X70 := Int
def encA70 (x : X70) : List (SV env.T) := [v3 x]
def decA70 (l : List (SV env.T)) : Option X70 := match l with
  | [s0] => match u3 s0 with
    | some x0 => some (x0)
    | _ => none
  | _ => none
theorem hA70 (l : List (SV env.T)) (x : X70) (h : decA70 l = some x) : WkA env.has l (encA70 x) := by
  unfold decA70 at h; split at h
  · split at h
    · rename_i h0; cases h; exact (.cons (u3_wk h0) .nil)
    · cases h
  · cases h
abbrev Y70 := Bool
def encR70 (x : Y70) : List (SV env.T) := [v4 x]
def decR70 (l : List (SV env.T)) : Option Y70 := match l with
  | [s0] => match u4 s0 with
    | some x0 => some (x0)
    | _ => none
  | _ => none
theorem hR70 (l : List (SV env.T)) (x : Y70) (h : decR70 l = some x) : WkA env.has l (encR70 x) := by
  unfold decR70 at h; split at h
  · split at h
    · rename_i h0; cases h; exact (.cons (u4_wk h0) .nil)
    · cases h
  · cases h
theorem hD70 (y : Y70) : isDataV (tupV (encR70 y)) = true := rfl
theorem hb70 : f70.body = some b70 := by kernel_rfl
noncomputable def B70 : Int → (Y70 → Prop) → Prop :=
  fun x0 K ↦ br (decide (x0 ≥ 1)) (K (decide (x0 ≤ 1000))) (K false)
theorem V70_ex : ∃ V : Int → (Y70 → Prop) → Prop, V = B70 := ⟨_, rfl⟩
noncomputable def V70 : Int → (Y70 → Prop) → Prop := Classical.choose V70_ex
theorem V70_eq : V70 = B70 := Classical.choose_spec V70_ex
theorem po_70_70 : PiecesOk Try.prog env (ctxG env false [] R26 [] []) 70 b70 :=
  pieces_at (L := []) (S := []) (fun _ => rfl) (fun _ => rfl) (by kernel_rfl) (by kernel_rfl) (fun _ hq => by cases hq) (fun _ hq => by cases hq)
theorem bo_70 : BodiesOk Try.prog env (ctxG env false [] R26 [] []) := bodies_okG (ks := []) (by kernel_rfl) (fun _ hq => by cases hq)
theorem eq_70 (x0 : Int) (K : Y70 → Prop) : vcCode env (ctxG env false [] R26 [] []) 2000 70 b70 (entry env f70 [v3 x0]) (finR env f70 decR70 K) = B70 x0 K := by kernel_rfl
noncomputable def rule70 : Nat × Rule env := (70, ruleF env decA70 encR70 fun x => V70 x)
theorem r70 : RuleOk Try.prog env 70 rule70.2 :=
  rule_fun tab (ctxG_ok R26_ok false [] _ _) bo_70 (f := 70) (fn := f70) rfl hb70 po_70_70 2000 encA70 hA70 hR70 hD70 (fun _ => of_decide_eq_true (by kernel_rfl)) (fun x K => (eq_70 x K).trans (by rw [V70_eq]))
noncomputable def R70 : List (Nat × Rule env) := rule70 :: R26
theorem R70_ok : AllOk Try.prog env R70 := ⟨r70, R26_ok⟩
-- 40 queuelab/queuelabref30.Valid
noncomputable def f40 : Func := Try.f40
noncomputable def b40 : Code := (Try.f40.body).getD .skip
abbrev X40 := Receiver × Int
def encA40 (x : X40) : List (SV env.T) := [v67 x.1, v3 x.2]
def decA40 (l : List (SV env.T)) : Option X40 := match l with
  | [s0, s1] => match u67 s0, u3 s1 with
    | some x0, some x1 => some (x0, x1)
    | _, _ => none
  | _ => none
theorem hA40 (l : List (SV env.T)) (x : X40) (h : decA40 l = some x) : WkA env.has l (encA40 x) := by
  unfold decA40 at h; split at h
  · split at h
    · rename_i h0 h1; cases h; exact (.cons (u67_wk h0) (.cons (u3_wk h1) .nil))
    · cases h
  · cases h
abbrev Y40 := Bool
def encR40 (x : Y40) : List (SV env.T) := [v4 x]
def decR40 (l : List (SV env.T)) : Option Y40 := match l with
  | [s0] => match u4 s0 with
    | some x0 => some (x0)
    | _ => none
  | _ => none
theorem hR40 (l : List (SV env.T)) (x : Y40) (h : decR40 l = some x) : WkA env.has l (encR40 x) := by
  unfold decR40 at h; split at h
  · split at h
    · rename_i h0; cases h; exact (.cons (u4_wk h0) .nil)
    · cases h
  · cases h
theorem hD40 (y : Y40) : isDataV (tupV (encR40 y)) = true := rfl
theorem hb40 : f40.body = some b40 := by kernel_rfl
def l_40_4 : Nat → Int → Bool → Int → Int → (List Int) → (Bool → Prop) → (Bool → Prop) → Prop
  | 0 => fun _ _ _ _ _ _ _ => False
  | k + 1 => fun x1 x2 x3 x4 x5 kr k0 ↦ br (decide (x3 < (↑x5.length : Int))) (br (inb x3 (↑x5.length : Int)) (br (decide (x5.getD x3.toNat (env.d 3) ≤ x4)) (kr false) (br (inb x3 (↑x5.length : Int)) (br (decide (x5.getD x3.toNat (env.d 3) ≥ IntKind.i64.wrap (x4 + x1))) (kr false) (br (inb x3 (↑x5.length : Int)) (br (decide (x5.getD x3.toNat (env.d 3) ≥ 1000000000)) (kr false) (br (decide (x3 > 0)) (br (inb x3 (↑x5.length : Int)) (br (inb (IntKind.i64.wrap (x3 - 1)) (↑x5.length : Int)) (br (decide (x5.getD x3.toNat (env.d 3) ≤ x5.getD (IntKind.i64.wrap (x3 - 1)).toNat (env.d 3))) (kr false) (l_40_4 k x1 x2 (IntKind.i64.wrap (x3 + 1)) x4 x5 kr k0)) False) False) (l_40_4 k x1 x2 (IntKind.i64.wrap (x3 + 1)) x4 x5 kr k0))) False)) False)) False) (k0 x2)
def w_40_4 (k : Nat) (vs : List (SV env.T)) (K : Ex → List (SV env.T) → Prop) : Prop :=
  dCI .i64 vs fun x1 vs => dCB vs fun x2 vs => dCI .i64 vs fun x3 vs => dCI .i64 vs fun x4 vs => dCD 3 vs fun x5 vs => dCE vs (l_40_4 k x1 x2 x3 x4 x5 (fun y1 => K .ret [.bool y1]) (fun y1 => K (.exit 0) [.bool y1]))
def p_40_4 : Piece env := ⟨⟨[.any, .hole, .ptr 0 0, .any, .hole, .hole, .any, .any, .any, .any, .any, .any, .any, .any, .any, .any, .any, .any, .any, .any, .any, .any, .any, .any, .any, .any, .any, .any, .any, .any, .any, .any, .any, .any, .any, .any, .any, .any, .any, .any, .any, .any, .any, .any, .any, .any, .any, .any, .any, .any, .any, .any, .any, .any, .any, .any, .any, .any, .any, .any, .any, .any, .any, .any, .any, .any, .any, .any, .any, .any, .any, .any], [], [(0, .cells 67 [.hole, .holeD 3])], 1⟩, exitF none [(0, ⟨[.any, .any, .any, .any, .hole, .any, .any, .any, .any, .any, .any, .any, .any, .any, .any, .any, .any, .any, .any, .any, .any, .any, .any, .any, .any, .any, .any, .any, .any, .any, .any, .any, .any, .any, .any, .any, .any, .any, .any, .any, .any, .any, .any, .any, .any, .any, .any, .any, .any, .any, .any, .any, .any, .any, .any, .any, .any, .any, .any, .any, .any, .any, .any, .any, .any, .any, .any, .any, .any, .any, .any, .any], [], [], 0⟩)] (some ⟨[.any, .any, .any, .any, .hole, .any, .any, .any, .any, .any, .any, .any, .any, .any, .any, .any, .any, .any, .any, .any, .any, .any, .any, .any, .any, .any, .any, .any, .any, .any, .any, .any, .any, .any, .any, .any, .any, .any, .any, .any, .any, .any, .any, .any, .any, .any, .any, .any, .any, .any, .any, .any, .any, .any, .any, .any, .any, .any, .any, .any, .any, .any, .any, .any, .any, .any, .any, .any, .any, .any, .any, .any], [], [], 0⟩), fun vs K => ∃ k, w_40_4 k vs K⟩
def s_40_3 : Int → Bool → Int → (List Int) → (Bool → Prop) → Prop :=
  fun x1 x2 x3 x4 kr ↦ ∃ k7, l_40_4 k7 x1 x2 0 x3 x4 kr fun _ ↦ kr true
def v_40_3 (vs : List (SV env.T)) (K : Ex → List (SV env.T) → Prop) : Prop :=
  dCI .i64 vs fun x1 vs => dCB vs fun x2 vs => dCI .i64 vs fun x3 vs => dCD 3 vs fun x4 vs => dCE vs (s_40_3 x1 x2 x3 x4 (fun y1 => K .ret [.bool y1]))
def q_40_3 : Piece env := ⟨⟨[.any, .hole, .ptr 0 0, .any, .hole, .any, .any, .any, .any, .any, .any, .any, .any, .any, .any, .any, .any, .any, .any, .any, .any, .any, .any, .any, .any, .any, .any, .any, .any, .any, .any, .any, .any, .any, .any, .any, .any, .any, .any, .any, .any, .any, .any, .any, .any, .any, .any, .any, .any, .any, .any, .any, .any, .any, .any, .any, .any, .any, .any, .any, .any, .any, .any, .any, .any, .any, .any, .any, .any, .any, .any, .any], [], [(0, .cells 67 [.hole, .holeD 3])], 1⟩, exitF none [] (some ⟨[.any, .any, .any, .any, .hole, .any, .any, .any, .any, .any, .any, .any, .any, .any, .any, .any, .any, .any, .any, .any, .any, .any, .any, .any, .any, .any, .any, .any, .any, .any, .any, .any, .any, .any, .any, .any, .any, .any, .any, .any, .any, .any, .any, .any, .any, .any, .any, .any, .any, .any, .any, .any, .any, .any, .any, .any, .any, .any, .any, .any, .any, .any, .any, .any, .any, .any, .any, .any, .any, .any, .any, .any], [], [], 0⟩), v_40_3⟩
noncomputable def B40 : Receiver → Int → (Y40 → Prop) → Prop :=
  fun x0 x1 K ↦ V70 x1 fun y3 ↦ br (!y3) (K false) (br (decide (x0.next_ < 0)) (K false) (br (decide (x0.next_ > 1000000000)) (K false) (s_40_3 x1 false x0.next_ x0.have_ K)))
theorem V40_ex : ∃ V : Receiver → Int → (Y40 → Prop) → Prop, V = B40 := ⟨_, rfl⟩
noncomputable def V40 : Receiver → Int → (Y40 → Prop) → Prop := Classical.choose V40_ex
theorem V40_eq : V40 = B40 := Classical.choose_spec V40_ex
theorem pook_40_4_40 : PiecesOk Try.prog env (ctxG env false [] R70 [] []) 40 b40 :=
  pieces_at (L := []) (S := []) (fun _ => rfl) (fun _ => rfl) (by kernel_rfl) (by kernel_rfl) (fun _ hq => by cases hq) (fun _ hq => by cases hq)
theorem book_40_4 : BodiesOk Try.prog env (ctxG env false [] R70 [] []) := bodies_okG (ks := []) (by kernel_rfl) (fun _ hq => by cases hq)
theorem stok_40_4 (k : Nat) (x1 : Int) (x2 : Bool) (x3 : Int) (x4 : Int) (x5 : (List Int)) (K : Ex → List (SV env.T) → Prop) : l_40_4 (k + 1) x1 x2 x3 x4 x5 (fun y1 => K .ret [.bool y1]) (fun y1 => K (.exit 0) [.bool y1]) = vcCode env (ctxG env false [] R70 [] []) 2000 40 (loopAt b40 4) (insSt p_40_4.head [.int .i64 x1, .bool x2, .int .i64 x3, .int .i64 x4, .dat 3 x5]) (stepK p_40_4 (w_40_4 k) K) := by kernel_rfl
theorem wiok_40_4 (k : Nat) (vs : List (SV env.T)) (K : Ex → List (SV env.T) → Prop) (h : w_40_4 k vs K) : ∃ x1 : Int, ∃ x2 : Bool, ∃ x3 : Int, ∃ x4 : Int, ∃ x5 : (List Int), vs = [.int .i64 x1, .bool x2, .int .i64 x3, .int .i64 x4, .dat 3 x5] ∧ l_40_4 k x1 x2 x3 x4 x5 (fun y1 => K .ret [.bool y1]) (fun y1 => K (.exit 0) [.bool y1]) := by
  unfold w_40_4 at h
  replace h := dCI_spec h
  obtain ⟨x1, vs0, e0, h⟩ := h
  replace h := dCB_spec h
  obtain ⟨x2, vs1, e1, h⟩ := h
  replace h := dCI_spec h
  obtain ⟨x3, vs2, e2, h⟩ := h
  replace h := dCI_spec h
  obtain ⟨x4, vs3, e3, h⟩ := h
  replace h := dCD_spec h
  obtain ⟨x5, vs4, e4, h⟩ := h
  replace h := dCE_spec h
  obtain ⟨e, h⟩ := h
  exact ⟨x1, x2, x3, x4, x5, by rw [e0, e1, e2, e3, e4, e], h⟩
theorem zeok_40_4 (x1 : Int) (x2 : Bool) (x3 : Int) (x4 : Int) (x5 : (List Int)) (K : Ex → List (SV env.T) → Prop) : l_40_4 0 x1 x2 x3 x4 x5 (fun y1 => K .ret [.bool y1]) (fun y1 => K (.exit 0) [.bool y1]) = False := by kernel_rfl
theorem ok_40_4 : PieceOk Try.prog env p_40_4 (.loop (loopAt b40 4)) := by
  refine loop_step (Wn := w_40_4) tab (ctxG_ok R70_ok false [] _ _) book_40_4 (pieces_sub pook_40_4_40 (by kernel_rfl)) rfl ?_ 2000 ?_
  · intro vs K h
    obtain ⟨x1, x2, x3, x4, x5, _, h⟩ := wiok_40_4 0 vs K h
    exact Eq.mp (zeok_40_4 x1 x2 x3 x4 x5 K) h
  · intro k vs K h
    obtain ⟨x1, x2, x3, x4, x5, rfl, h⟩ := wiok_40_4 (k + 1) vs K h
    exact Eq.mp (stok_40_4 k x1 x2 x3 x4 x5 K) h
theorem pooq_40_3_40 : PiecesOk Try.prog env (ctxG env false [] R70 [(40, [(4, p_40_4)])] []) 40 b40 :=
  pieces_at (L := [(4, p_40_4)]) (S := []) (fun _ => rfl) (fun _ => rfl) (by kernel_rfl) (by kernel_rfl) (List.forall_mem_cons.2 ⟨fun _ => ok_40_4, (fun _ hq => by cases hq)⟩) (fun _ hq => by cases hq)
theorem booq_40_3 : BodiesOk Try.prog env (ctxG env false [] R70 [(40, [(4, p_40_4)])] []) := bodies_okG (ks := [40]) (by kernel_rfl) (List.forall_mem_cons.2 ⟨body_at (fn := f40) (body := b40) rfl hb40 pooq_40_3_40, (fun _ hq => by cases hq)⟩)
theorem stoq_40_3 (x1 : Int) (x2 : Bool) (x3 : Int) (x4 : (List Int)) (K : Ex → List (SV env.T) → Prop) : s_40_3  x1 x2 x3 x4 (fun y1 => K .ret [.bool y1]) = vcCode env (ctxG env false [] R70 [(40, [(4, p_40_4)])] []) 2000 40 (seqAt b40 3) (insSt q_40_3.head [.int .i64 x1, .bool x2, .int .i64 x3, .dat 3 x4]) (outP env q_40_3 K) := by kernel_rfl
theorem wioq_40_3 (vs : List (SV env.T)) (K : Ex → List (SV env.T) → Prop) (h : v_40_3 vs K) : ∃ x1 : Int, ∃ x2 : Bool, ∃ x3 : Int, ∃ x4 : (List Int), vs = [.int .i64 x1, .bool x2, .int .i64 x3, .dat 3 x4] ∧ s_40_3  x1 x2 x3 x4 (fun y1 => K .ret [.bool y1]) := by
  unfold v_40_3 at h
  replace h := dCI_spec h
  obtain ⟨x1, vs0, e0, h⟩ := h
  replace h := dCB_spec h
  obtain ⟨x2, vs1, e1, h⟩ := h
  replace h := dCI_spec h
  obtain ⟨x3, vs2, e2, h⟩ := h
  replace h := dCD_spec h
  obtain ⟨x4, vs3, e3, h⟩ := h
  replace h := dCE_spec h
  obtain ⟨e, h⟩ := h
  exact ⟨x1, x2, x3, x4, by rw [e0, e1, e2, e3, e], h⟩
theorem oq_40_3 : PieceOk Try.prog env q_40_3 (seqAt b40 3) := by
  refine seq_step tab (ctxG_ok R70_ok false [] _ _) booq_40_3 (pieces_subS pooq_40_3_40 (by kernel_rfl)) 2000 ?_
  intro vs K h
  obtain ⟨x1, x2, x3, x4, rfl, h⟩ := wioq_40_3 vs K h
  exact Eq.mp (stoq_40_3 x1 x2 x3 x4 K) h
theorem po_40_40 : PiecesOk Try.prog env (ctxG env false [] R70 [(40, [(4, p_40_4)])] [(40, [(3, q_40_3)])]) 40 b40 :=
  pieces_at (L := [(4, p_40_4)]) (S := [(3, q_40_3)]) (fun _ => rfl) (fun _ => rfl) (by kernel_rfl) (by kernel_rfl) (List.forall_mem_cons.2 ⟨fun _ => ok_40_4, (fun _ hq => by cases hq)⟩) (List.forall_mem_cons.2 ⟨fun _ => oq_40_3, (fun _ hq => by cases hq)⟩)
theorem bo_40 : BodiesOk Try.prog env (ctxG env false [] R70 [(40, [(4, p_40_4)])] [(40, [(3, q_40_3)])]) := bodies_okG (ks := [40]) (by kernel_rfl) (List.forall_mem_cons.2 ⟨body_at (fn := f40) (body := b40) rfl hb40 po_40_40, (fun _ hq => by cases hq)⟩)
theorem eq_40 (x0 : Receiver) (x1 : Int) (K : Y40 → Prop) : vcCode env (ctxG env false [] R70 [(40, [(4, p_40_4)])] [(40, [(3, q_40_3)])]) 2000 40 b40 (entry env f40 [v67 x0, v3 x1]) (finR env f40 decR40 K) = B40 x0 x1 K := by kernel_rfl
noncomputable def rule40 : Nat × Rule env := (40, ruleF env decA40 encR40 fun x => V40 x.1 x.2)
theorem r40 : RuleOk Try.prog env 40 rule40.2 :=
  rule_fun tab (ctxG_ok R70_ok false [] _ _) bo_40 (f := 40) (fn := f40) rfl hb40 po_40_40 2000 encA40 hA40 hR40 hD40 (fun _ => of_decide_eq_true (by kernel_rfl)) (fun x K => (eq_40 x.1 x.2 K).trans (by rw [V40_eq]))
noncomputable def R40 : List (Nat × Rule env) := rule40 :: R70
theorem R40_ok : AllOk Try.prog env R40 := ⟨r40, R70_ok⟩
-- 44 queuelab/queuelabref30.Has
noncomputable def f44 : Func := Try.f44
noncomputable def b44 : Code := (Try.f44.body).getD .skip
abbrev X44 := Receiver × Int
def encA44 (x : X44) : List (SV env.T) := [v67 x.1, v3 x.2]
def decA44 (l : List (SV env.T)) : Option X44 := match l with
  | [s0, s1] => match u67 s0, u3 s1 with
    | some x0, some x1 => some (x0, x1)
    | _, _ => none
  | _ => none
theorem hA44 (l : List (SV env.T)) (x : X44) (h : decA44 l = some x) : WkA env.has l (encA44 x) := by
  unfold decA44 at h; split at h
  · split at h
    · rename_i h0 h1; cases h; exact (.cons (u67_wk h0) (.cons (u3_wk h1) .nil))
    · cases h
  · cases h
abbrev Y44 := Bool
def encR44 (x : Y44) : List (SV env.T) := [v4 x]
def decR44 (l : List (SV env.T)) : Option Y44 := match l with
  | [s0] => match u4 s0 with
    | some x0 => some (x0)
    | _ => none
  | _ => none
theorem hR44 (l : List (SV env.T)) (x : Y44) (h : decR44 l = some x) : WkA env.has l (encR44 x) := by
  unfold decR44 at h; split at h
  · split at h
    · rename_i h0; cases h; exact (.cons (u4_wk h0) .nil)
    · cases h
  · cases h
theorem hD44 (y : Y44) : isDataV (tupV (encR44 y)) = true := rfl
theorem hb44 : f44.body = some b44 := by kernel_rfl
def l_44_4 : Nat → Int → Bool → Int → Int → (List Int) → (Bool → Prop) → (Bool → Prop) → Prop
  | 0 => fun _ _ _ _ _ _ _ => False
  | k + 1 => fun x1 x2 x3 x4 x5 kr k0 ↦ br (decide (x3 < (↑x5.length : Int))) (br (inb x3 (↑x5.length : Int)) (br (x5.getD x3.toNat (env.d 3) == x1) (kr true) (l_44_4 k x1 x2 (IntKind.i64.wrap (x3 + 1)) x4 x5 kr k0)) False) (k0 x2)
def w_44_4 (k : Nat) (vs : List (SV env.T)) (K : Ex → List (SV env.T) → Prop) : Prop :=
  dCI .i64 vs fun x1 vs => dCB vs fun x2 vs => dCI .i64 vs fun x3 vs => dCI .i64 vs fun x4 vs => dCD 3 vs fun x5 vs => dCE vs (l_44_4 k x1 x2 x3 x4 x5 (fun y1 => K .ret [.bool y1]) (fun y1 => K (.exit 0) [.bool y1]))
def p_44_4 : Piece env := ⟨⟨[.any, .hole, .ptr 0 0, .any, .hole, .hole, .any, .any, .any, .any, .any, .any, .any, .any, .any, .any, .any, .any, .any, .any, .any, .any, .any, .any], [], [(0, .cells 67 [.hole, .holeD 3])], 1⟩, exitF none [(0, ⟨[.any, .any, .any, .any, .hole, .any, .any, .any, .any, .any, .any, .any, .any, .any, .any, .any, .any, .any, .any, .any, .any, .any, .any, .any], [], [], 0⟩)] (some ⟨[.any, .any, .any, .any, .hole, .any, .any, .any, .any, .any, .any, .any, .any, .any, .any, .any, .any, .any, .any, .any, .any, .any, .any, .any], [], [], 0⟩), fun vs K => ∃ k, w_44_4 k vs K⟩
noncomputable def B44 : Receiver → Int → (Y44 → Prop) → Prop :=
  fun x0 x1 K ↦ br (decide (x1 < x0.next_)) (K true) (∃ k3, l_44_4 k3 x1 false 0 x0.next_ x0.have_ K fun _ ↦ K false)
theorem V44_ex : ∃ V : Receiver → Int → (Y44 → Prop) → Prop, V = B44 := ⟨_, rfl⟩
noncomputable def V44 : Receiver → Int → (Y44 → Prop) → Prop := Classical.choose V44_ex
theorem V44_eq : V44 = B44 := Classical.choose_spec V44_ex
theorem pook_44_4_44 : PiecesOk Try.prog env (ctxG env false [] R40 [] []) 44 b44 :=
  pieces_at (L := []) (S := []) (fun _ => rfl) (fun _ => rfl) (by kernel_rfl) (by kernel_rfl) (fun _ hq => by cases hq) (fun _ hq => by cases hq)
theorem book_44_4 : BodiesOk Try.prog env (ctxG env false [] R40 [] []) := bodies_okG (ks := []) (by kernel_rfl) (fun _ hq => by cases hq)
theorem stok_44_4 (k : Nat) (x1 : Int) (x2 : Bool) (x3 : Int) (x4 : Int) (x5 : (List Int)) (K : Ex → List (SV env.T) → Prop) : l_44_4 (k + 1) x1 x2 x3 x4 x5 (fun y1 => K .ret [.bool y1]) (fun y1 => K (.exit 0) [.bool y1]) = vcCode env (ctxG env false [] R40 [] []) 2000 44 (loopAt b44 4) (insSt p_44_4.head [.int .i64 x1, .bool x2, .int .i64 x3, .int .i64 x4, .dat 3 x5]) (stepK p_44_4 (w_44_4 k) K) := by kernel_rfl
theorem wiok_44_4 (k : Nat) (vs : List (SV env.T)) (K : Ex → List (SV env.T) → Prop) (h : w_44_4 k vs K) : ∃ x1 : Int, ∃ x2 : Bool, ∃ x3 : Int, ∃ x4 : Int, ∃ x5 : (List Int), vs = [.int .i64 x1, .bool x2, .int .i64 x3, .int .i64 x4, .dat 3 x5] ∧ l_44_4 k x1 x2 x3 x4 x5 (fun y1 => K .ret [.bool y1]) (fun y1 => K (.exit 0) [.bool y1]) := by
  unfold w_44_4 at h
  replace h := dCI_spec h
  obtain ⟨x1, vs0, e0, h⟩ := h
  replace h := dCB_spec h
  obtain ⟨x2, vs1, e1, h⟩ := h
  replace h := dCI_spec h
  obtain ⟨x3, vs2, e2, h⟩ := h
  replace h := dCI_spec h
  obtain ⟨x4, vs3, e3, h⟩ := h
  replace h := dCD_spec h
  obtain ⟨x5, vs4, e4, h⟩ := h
  replace h := dCE_spec h
  obtain ⟨e, h⟩ := h
  exact ⟨x1, x2, x3, x4, x5, by rw [e0, e1, e2, e3, e4, e], h⟩
theorem zeok_44_4 (x1 : Int) (x2 : Bool) (x3 : Int) (x4 : Int) (x5 : (List Int)) (K : Ex → List (SV env.T) → Prop) : l_44_4 0 x1 x2 x3 x4 x5 (fun y1 => K .ret [.bool y1]) (fun y1 => K (.exit 0) [.bool y1]) = False := by kernel_rfl
theorem ok_44_4 : PieceOk Try.prog env p_44_4 (.loop (loopAt b44 4)) := by
  refine loop_step (Wn := w_44_4) tab (ctxG_ok R40_ok false [] _ _) book_44_4 (pieces_sub pook_44_4_44 (by kernel_rfl)) rfl ?_ 2000 ?_
  · intro vs K h
    obtain ⟨x1, x2, x3, x4, x5, _, h⟩ := wiok_44_4 0 vs K h
    exact Eq.mp (zeok_44_4 x1 x2 x3 x4 x5 K) h
  · intro k vs K h
    obtain ⟨x1, x2, x3, x4, x5, rfl, h⟩ := wiok_44_4 (k + 1) vs K h
    exact Eq.mp (stok_44_4 k x1 x2 x3 x4 x5 K) h
theorem po_44_44 : PiecesOk Try.prog env (ctxG env false [] R40 [(44, [(4, p_44_4)])] []) 44 b44 :=
  pieces_at (L := [(4, p_44_4)]) (S := []) (fun _ => rfl) (fun _ => rfl) (by kernel_rfl) (by kernel_rfl) (List.forall_mem_cons.2 ⟨fun _ => ok_44_4, (fun _ hq => by cases hq)⟩) (fun _ hq => by cases hq)
theorem bo_44 : BodiesOk Try.prog env (ctxG env false [] R40 [(44, [(4, p_44_4)])] []) := bodies_okG (ks := [44]) (by kernel_rfl) (List.forall_mem_cons.2 ⟨body_at (fn := f44) (body := b44) rfl hb44 po_44_44, (fun _ hq => by cases hq)⟩)
theorem eq_44 (x0 : Receiver) (x1 : Int) (K : Y44 → Prop) : vcCode env (ctxG env false [] R40 [(44, [(4, p_44_4)])] []) 2000 44 b44 (entry env f44 [v67 x0, v3 x1]) (finR env f44 decR44 K) = B44 x0 x1 K := by kernel_rfl
noncomputable def rule44 : Nat × Rule env := (44, ruleF env decA44 encR44 fun x => V44 x.1 x.2)
theorem r44 : RuleOk Try.prog env 44 rule44.2 :=
  rule_fun tab (ctxG_ok R40_ok false [] _ _) bo_44 (f := 44) (fn := f44) rfl hb44 po_44_44 2000 encA44 hA44 hR44 hD44 (fun _ => of_decide_eq_true (by kernel_rfl)) (fun x K => (eq_44 x.1 x.2 K).trans (by rw [V44_eq]))
noncomputable def R44 : List (Nat × Rule env) := rule44 :: R40
theorem R44_ok : AllOk Try.prog env R44 := ⟨r44, R40_ok⟩
-- 66 queuelab/queuelabref30.with
noncomputable def f66 : Func := Try.f66
noncomputable def b66 : Code := (Try.f66.body).getD .skip
abbrev X66 := Receiver × Int
def encA66 (x : X66) : List (SV env.T) := [v67 x.1, v3 x.2]
def decA66 (l : List (SV env.T)) : Option X66 := match l with
  | [s0, s1] => match u67 s0, u3 s1 with
    | some x0, some x1 => some (x0, x1)
    | _, _ => none
  | _ => none
theorem hA66 (l : List (SV env.T)) (x : X66) (h : decA66 l = some x) : WkA env.has l (encA66 x) := by
  unfold decA66 at h; split at h
  · split at h
    · rename_i h0 h1; cases h; exact (.cons (u67_wk h0) (.cons (u3_wk h1) .nil))
    · cases h
  · cases h
abbrev Y66 := Receiver
def encR66 (x : Y66) : List (SV env.T) := [v67 x]
def decR66 (l : List (SV env.T)) : Option Y66 := match l with
  | [s0] => match u67 s0 with
    | some x0 => some (x0)
    | _ => none
  | _ => none
theorem hR66 (l : List (SV env.T)) (x : Y66) (h : decR66 l = some x) : WkA env.has l (encR66 x) := by
  unfold decR66 at h; split at h
  · split at h
    · rename_i h0; cases h; exact (.cons (u67_wk h0) .nil)
    · cases h
  · cases h
theorem hD66 (y : Y66) : isDataV (tupV (encR66 y)) = true := rfl
theorem hb66 : f66.body = some b66 := by kernel_rfl
def l_66_5 : Nat → Int → Int → (List Int) → Int → Int → (Int → Int → (List Int) → Int → Int → Prop) → Prop
  | 0 => fun _ _ _ _ _ _ => False
  | k + 1 => fun x1 x2 x3 x4 x5 k0 ↦ V44 (Receiver.mk x2 x3) x5 fun y8 ↦ br y8 (l_66_5 k x1 x2 x3 x4 (IntKind.i64.wrap (x5 + 1)) k0) (k0 x1 x2 x3 x4 x5)
def w_66_5 (k : Nat) (vs : List (SV env.T)) (K : Ex → List (SV env.T) → Prop) : Prop :=
  dCI .i64 vs fun x1 vs => dCI .i64 vs fun x2 vs => dCD 3 vs fun x3 vs => dCI .i64 vs fun x4 vs => dCN vs fun vs => dCI .i64 vs fun x5 vs => dCN vs fun vs => dCE vs (l_66_5 k x1 x2 x3 x4 x5 (fun y1 y2 y3 y4 y5 => K (.exit 0) [.int .i64 y1, .int .i64 y2, .dat 3 y3, .int .i64 y4, .nils, .int .i64 y5, .nils]))
def p_66_5 : Piece env := ⟨⟨[.any, .hole, .ptr 0 0, .any, .ptr 1 0, .ptr 2 0, .any, .any, .any, .any, .any, .any, .any, .any, .any, .any, .any, .any, .any, .any, .any, .any, .any, .any, .any, .any, .any, .any, .any, .any, .any, .any, .any, .any, .any, .any, .any, .any, .any, .any, .any, .any, .any, .any, .any, .any, .any, .any, .any, .any, .any, .any, .any, .any, .any, .any, .any, .any, .any, .any, .any, .any, .any, .any, .any, .any, .any, .any, .any, .any, .any, .any, .any, .any, .any, .any, .any, .any, .any, .any, .any, .any, .any, .any, .any, .any, .any, .any, .any], [], [(0, .cells 67 [.hole, .holeD 3]), (1, .cells 67 [.hole, .hole]), (2, .cells 67 [.hole, .hole])], 3⟩, exitF none [(0, ⟨[.any, .hole, .ptr 0 0, .any, .ptr 1 0, .ptr 2 0, .any, .any, .any, .any, .any, .any, .any, .any, .any, .any, .any, .any, .any, .any, .any, .any, .any, .any, .any, .any, .any, .any, .any, .any, .any, .any, .any, .any, .any, .any, .any, .any, .any, .any, .any, .any, .any, .any, .any, .any, .any, .any, .any, .any, .any, .any, .any, .any, .any, .any, .any, .any, .any, .any, .any, .any, .any, .any, .any, .any, .any, .any, .any, .any, .any, .any, .any, .any, .any, .any, .any, .any, .any, .any, .any, .any, .any, .any, .any, .any, .any, .any, .any], [], [(0, .cells 67 [.hole, .holeD 3]), (1, .cells 67 [.hole, .hole]), (2, .cells 67 [.hole, .hole])], 3⟩)] none, fun vs K => ∃ k, w_66_5 k vs K⟩
def s_66_12 : Int → Bool → Int → Bool → Int → (List Int) → Int → Int → (List Int) → (Int → Bool → Int → Int → (List Int) → Int → Int → (List Int) → Prop) → Prop :=
  fun x1 x2 x3 x4 x5 x6 x7 x8 x9 kn ↦ br x4 (br (roomB (x9 ++ [x1]).length (bytesB env 3)) (kn x1 true x3 x5 x6 x7 x8 (x9 ++ [x1])) False) (kn x1 x2 x3 x5 x6 x7 x8 x9)
def v_66_12 (vs : List (SV env.T)) (K : Ex → List (SV env.T) → Prop) : Prop :=
  dCI .i64 vs fun x1 vs => dCB vs fun x2 vs => dCI .i64 vs fun x3 vs => dCB vs fun x4 vs => dCI .i64 vs fun x5 vs => dCD 3 vs fun x6 vs => dCI .i64 vs fun x7 vs => dCN vs fun vs => dCI .i64 vs fun x8 vs => dCD 3 vs fun x9 vs => dCE vs (s_66_12 x1 x2 x3 x4 x5 x6 x7 x8 x9 (fun y1 y2 y3 y4 y5 y6 y7 y8 => K .normal [.int .i64 y1, .bool y2, .int .i64 y3, .int .i64 y4, .dat 3 y5, .int .i64 y6, .nils, .int .i64 y7, .dat 3 y8]))
def q_66_12 : Piece env := ⟨⟨[.any, .hole, .ptr 0 0, .any, .ptr 1 0, .ptr 2 0, .hole, .hole, .any, .any, .any, .any, .any, .any, .any, .any, .any, .any, .any, .any, .any, .any, .any, .any, .any, .any, .any, .any, .any, .any, .any, .any, .any, .any, .any, .any, .any, .any, .any, .any, .any, .any, .any, .any, .any, .any, .any, .any, .any, .hole, .any, .any, .any, .any, .any, .any, .any, .any, .any, .any, .any, .any, .any, .any, .any, .any, .any, .any, .any, .any, .any, .any, .any, .any, .any, .any, .any, .any, .any, .any, .any, .any, .any, .any, .any, .any, .any, .any, .any], [], [(0, .cells 67 [.hole, .holeD 3]), (1, .cells 67 [.hole, .hole]), (2, .cells 67 [.hole, .row 3]), (3, .row 3)], 4⟩, exitF (some ⟨[.any, .hole, .ptr 0 0, .any, .ptr 1 0, .ptr 2 0, .hole, .hole, .any, .any, .any, .any, .any, .any, .any, .any, .any, .any, .any, .any, .any, .any, .any, .any, .any, .any, .any, .any, .any, .any, .any, .any, .any, .any, .any, .any, .any, .any, .any, .any, .any, .any, .any, .any, .any, .any, .any, .any, .any, .any, .any, .any, .any, .any, .any, .any, .any, .any, .any, .any, .any, .any, .any, .any, .any, .any, .any, .any, .any, .any, .any, .any, .any, .any, .any, .any, .any, .any, .any, .any, .any, .any, .any, .any, .any, .any, .any, .any, .any], [], [(0, .cells 67 [.hole, .holeD 3]), (1, .cells 67 [.hole, .hole]), (2, .cells 67 [.hole, .row 3]), (3, .row 3)], 4⟩) [] none, v_66_12⟩
def l_66_9 : Nat → Int → Bool → Int → Int → (List Int) → Int → Int → (List Int) → (Int → Bool → Int → (List Int) → Int → Int → (List Int) → Prop) → Prop
  | 0 => fun _ _ _ _ _ _ _ _ _ => False
  | k + 1 => fun x1 x2 x3 x4 x5 x6 x7 x8 k2 ↦ br (decide (x3 < (↑x5.length : Int))) (br (decide (x1 > x4)) (br (inb x3 (↑x5.length : Int)) (br (decide (x1 < x5.getD x3.toNat (env.d 3))) (s_66_12 x1 x2 x3 (!x2) x4 x5 x6 x7 x8 fun y11 y12 y13 y14 y15 y16 y17 y18 ↦ br (inb y13 (↑y15.length : Int)) (br (decide (y15.getD y13.toNat (env.d 3) ≥ y17)) (br (inb y13 (↑y15.length : Int)) (br (roomB (y18 ++ [y15.getD y13.toNat (env.d 3)]).length (bytesB env 3)) (l_66_9 k y11 y12 (IntKind.i64.wrap (y13 + 1)) y14 y15 y16 y17 (y18 ++ [y15.getD y13.toNat (env.d 3)]) k2) False) False) (l_66_9 k y11 y12 (IntKind.i64.wrap (y13 + 1)) y14 y15 y16 y17 y18 k2)) False) (s_66_12 x1 x2 x3 false x4 x5 x6 x7 x8 fun y11 y12 y13 y14 y15 y16 y17 y18 ↦ br (inb y13 (↑y15.length : Int)) (br (decide (y15.getD y13.toNat (env.d 3) ≥ y17)) (br (inb y13 (↑y15.length : Int)) (br (roomB (y18 ++ [y15.getD y13.toNat (env.d 3)]).length (bytesB env 3)) (l_66_9 k y11 y12 (IntKind.i64.wrap (y13 + 1)) y14 y15 y16 y17 (y18 ++ [y15.getD y13.toNat (env.d 3)]) k2) False) False) (l_66_9 k y11 y12 (IntKind.i64.wrap (y13 + 1)) y14 y15 y16 y17 y18 k2)) False)) False) (s_66_12 x1 x2 x3 false x4 x5 x6 x7 x8 fun y11 y12 y13 y14 y15 y16 y17 y18 ↦ br (inb y13 (↑y15.length : Int)) (br (decide (y15.getD y13.toNat (env.d 3) ≥ y17)) (br (inb y13 (↑y15.length : Int)) (br (roomB (y18 ++ [y15.getD y13.toNat (env.d 3)]).length (bytesB env 3)) (l_66_9 k y11 y12 (IntKind.i64.wrap (y13 + 1)) y14 y15 y16 y17 (y18 ++ [y15.getD y13.toNat (env.d 3)]) k2) False) False) (l_66_9 k y11 y12 (IntKind.i64.wrap (y13 + 1)) y14 y15 y16 y17 y18 k2)) False)) (k2 x1 x2 x4 x5 x6 x7 x8)
def w_66_9 (k : Nat) (vs : List (SV env.T)) (K : Ex → List (SV env.T) → Prop) : Prop :=
  dCI .i64 vs fun x1 vs => dCB vs fun x2 vs => dCI .i64 vs fun x3 vs => dCI .i64 vs fun x4 vs => dCD 3 vs fun x5 vs => dCI .i64 vs fun x6 vs => dCN vs fun vs => dCI .i64 vs fun x7 vs => dCD 3 vs fun x8 vs => dCE vs (l_66_9 k x1 x2 x3 x4 x5 x6 x7 x8 (fun y1 y2 y3 y4 y5 y6 y7 => K (.exit 2) [.int .i64 y1, .bool y2, .int .i64 y3, .dat 3 y4, .int .i64 y5, .nils, .int .i64 y6, .dat 3 y7]))
def p_66_9 : Piece env := ⟨⟨[.any, .hole, .ptr 0 0, .any, .ptr 1 0, .ptr 2 0, .hole, .hole, .any, .any, .any, .any, .any, .any, .any, .any, .any, .any, .any, .any, .any, .any, .any, .any, .any, .any, .any, .any, .any, .any, .any, .any, .any, .any, .any, .any, .any, .any, .any, .any, .any, .any, .any, .any, .any, .any, .any, .any, .any, .any, .any, .any, .any, .any, .any, .any, .any, .any, .any, .any, .any, .any, .any, .any, .any, .any, .any, .any, .any, .any, .any, .any, .any, .any, .any, .any, .any, .any, .any, .any, .any, .any, .any, .any, .any, .any, .any, .any, .any], [], [(0, .cells 67 [.hole, .holeD 3]), (1, .cells 67 [.hole, .hole]), (2, .cells 67 [.hole, .row 3]), (3, .row 3)], 4⟩, exitF none [(2, ⟨[.any, .hole, .ptr 0 0, .any, .ptr 1 0, .ptr 2 0, .hole, .any, .any, .any, .any, .any, .any, .any, .any, .any, .any, .any, .any, .any, .any, .any, .any, .any, .any, .any, .any, .any, .any, .any, .any, .any, .any, .any, .any, .any, .any, .any, .any, .any, .any, .any, .any, .any, .any, .any, .any, .any, .any, .any, .any, .any, .any, .any, .any, .any, .any, .any, .any, .any, .any, .any, .any, .any, .any, .any, .any, .any, .any, .any, .any, .any, .any, .any, .any, .any, .any, .any, .any, .any, .any, .any, .any, .any, .any, .any, .any, .any, .any], [], [(0, .cells 67 [.hole, .holeD 3]), (1, .cells 67 [.hole, .hole]), (2, .cells 67 [.hole, .row 3]), (3, .row 3)], 4⟩)] none, fun vs K => ∃ k, w_66_9 k vs K⟩
def s_66_7 : Int → Int → (List Int) → Int → Int → (Int → (List Int) → Prop) → Prop :=
  fun x1 x2 x3 x4 x5 kr ↦ ∃ k8, l_66_9 k8 x1 false 0 x2 x3 x4 x5 [] fun y9 y10 y11 _ _ y14 y15 ↦ br (decide (y9 > y11)) (br (!y10) (br (roomB (y15 ++ [y9]).length (bytesB env 3)) (kr y14 (y15 ++ [y9])) False) (kr y14 y15)) (kr y14 y15)
def v_66_7 (vs : List (SV env.T)) (K : Ex → List (SV env.T) → Prop) : Prop :=
  dCI .i64 vs fun x1 vs => dCI .i64 vs fun x2 vs => dCD 3 vs fun x3 vs => dCI .i64 vs fun x4 vs => dCN vs fun vs => dCI .i64 vs fun x5 vs => dCN vs fun vs => dCE vs (s_66_7 x1 x2 x3 x4 x5 (fun y1 y2 => K .ret [.int .i64 y1, .dat 3 y2]))
def q_66_7 : Piece env := ⟨⟨[.any, .hole, .ptr 0 0, .any, .ptr 1 0, .ptr 2 0, .any, .any, .any, .any, .any, .any, .any, .any, .any, .any, .any, .any, .any, .any, .any, .any, .any, .any, .any, .any, .any, .any, .any, .any, .any, .any, .any, .any, .any, .any, .any, .any, .any, .any, .any, .any, .any, .any, .any, .any, .any, .any, .any, .any, .any, .any, .any, .any, .any, .any, .any, .any, .any, .any, .any, .any, .any, .any, .any, .any, .any, .any, .any, .any, .any, .any, .any, .any, .any, .any, .any, .any, .any, .any, .any, .any, .any, .any, .any, .any, .any, .any, .any], [], [(0, .cells 67 [.hole, .holeD 3]), (1, .cells 67 [.hole, .hole]), (2, .cells 67 [.hole, .hole])], 3⟩, exitF none [] (some ⟨[.any, .any, .any, .any, .ptr 0 0, .any, .any, .any, .any, .any, .any, .any, .any, .any, .any, .any, .any, .any, .any, .any, .any, .any, .any, .any, .any, .any, .any, .any, .any, .any, .any, .any, .any, .any, .any, .any, .any, .any, .any, .any, .any, .any, .any, .any, .any, .any, .any, .any, .any, .any, .any, .any, .any, .any, .any, .any, .any, .any, .any, .any, .any, .any, .any, .any, .any, .any, .any, .any, .any, .any, .any, .any, .any, .any, .any, .any, .any, .any, .any, .any, .any, .any, .any, .any, .any, .any, .any, .any, .any], [], [(0, .cells 67 [.hole, .row 1]), (1, .row 3)], 2⟩), v_66_7⟩
noncomputable def B66 : Receiver → Int → (Y66 → Prop) → Prop :=
  fun x0 x1 K ↦ br (x1 == x0.next_) (∃ k3, l_66_5 k3 x1 x0.next_ x0.have_ 0 (IntKind.i64.wrap (x1 + 1)) fun y4 y5 y6 y7 y8 ↦ s_66_7 y4 y5 y6 y7 y8 fun y9 y10 ↦ K (Receiver.mk y9 y10)) (s_66_7 x1 x0.next_ x0.have_ 0 x0.next_ fun y3 y4 ↦ K (Receiver.mk y3 y4))
theorem V66_ex : ∃ V : Receiver → Int → (Y66 → Prop) → Prop, V = B66 := ⟨_, rfl⟩
noncomputable def V66 : Receiver → Int → (Y66 → Prop) → Prop := Classical.choose V66_ex
theorem V66_eq : V66 = B66 := Classical.choose_spec V66_ex
theorem pook_66_5_66 : PiecesOk Try.prog env (ctxG env false [] R44 [] []) 66 b66 :=
  pieces_at (L := []) (S := []) (fun _ => rfl) (fun _ => rfl) (by kernel_rfl) (by kernel_rfl) (fun _ hq => by cases hq) (fun _ hq => by cases hq)
theorem book_66_5 : BodiesOk Try.prog env (ctxG env false [] R44 [] []) := bodies_okG (ks := []) (by kernel_rfl) (fun _ hq => by cases hq)
theorem stok_66_5 (k : Nat) (x1 : Int) (x2 : Int) (x3 : (List Int)) (x4 : Int) (x5 : Int) (K : Ex → List (SV env.T) → Prop) : l_66_5 (k + 1) x1 x2 x3 x4 x5 (fun y1 y2 y3 y4 y5 => K (.exit 0) [.int .i64 y1, .int .i64 y2, .dat 3 y3, .int .i64 y4, .nils, .int .i64 y5, .nils]) = vcCode env (ctxG env false [] R44 [] []) 2000 66 (loopAt b66 5) (insSt p_66_5.head [.int .i64 x1, .int .i64 x2, .dat 3 x3, .int .i64 x4, .nils, .int .i64 x5, .nils]) (stepK p_66_5 (w_66_5 k) K) := by kernel_rfl
theorem wiok_66_5 (k : Nat) (vs : List (SV env.T)) (K : Ex → List (SV env.T) → Prop) (h : w_66_5 k vs K) : ∃ x1 : Int, ∃ x2 : Int, ∃ x3 : (List Int), ∃ x4 : Int, ∃ x5 : Int, vs = [.int .i64 x1, .int .i64 x2, .dat 3 x3, .int .i64 x4, .nils, .int .i64 x5, .nils] ∧ l_66_5 k x1 x2 x3 x4 x5 (fun y1 y2 y3 y4 y5 => K (.exit 0) [.int .i64 y1, .int .i64 y2, .dat 3 y3, .int .i64 y4, .nils, .int .i64 y5, .nils]) := by
  unfold w_66_5 at h
  replace h := dCI_spec h
  obtain ⟨x1, vs0, e0, h⟩ := h
  replace h := dCI_spec h
  obtain ⟨x2, vs1, e1, h⟩ := h
  replace h := dCD_spec h
  obtain ⟨x3, vs2, e2, h⟩ := h
  replace h := dCI_spec h
  obtain ⟨x4, vs3, e3, h⟩ := h
  replace h := dCN_spec h
  obtain ⟨vs4, e4, h⟩ := h
  replace h := dCI_spec h
  obtain ⟨x5, vs5, e5, h⟩ := h
  replace h := dCN_spec h
  obtain ⟨vs6, e6, h⟩ := h
  replace h := dCE_spec h
  obtain ⟨e, h⟩ := h
  exact ⟨x1, x2, x3, x4, x5, by rw [e0, e1, e2, e3, e4, e5, e6, e], h⟩
theorem zeok_66_5 (x1 : Int) (x2 : Int) (x3 : (List Int)) (x4 : Int) (x5 : Int) (K : Ex → List (SV env.T) → Prop) : l_66_5 0 x1 x2 x3 x4 x5 (fun y1 y2 y3 y4 y5 => K (.exit 0) [.int .i64 y1, .int .i64 y2, .dat 3 y3, .int .i64 y4, .nils, .int .i64 y5, .nils]) = False := by kernel_rfl
theorem ok_66_5 : PieceOk Try.prog env p_66_5 (.loop (loopAt b66 5)) := by
  refine loop_step (Wn := w_66_5) tab (ctxG_ok R44_ok false [] _ _) book_66_5 (pieces_sub pook_66_5_66 (by kernel_rfl)) rfl ?_ 2000 ?_
  · intro vs K h
    obtain ⟨x1, x2, x3, x4, x5, _, h⟩ := wiok_66_5 0 vs K h
    exact Eq.mp (zeok_66_5 x1 x2 x3 x4 x5 K) h
  · intro k vs K h
    obtain ⟨x1, x2, x3, x4, x5, rfl, h⟩ := wiok_66_5 (k + 1) vs K h
    exact Eq.mp (stok_66_5 k x1 x2 x3 x4 x5 K) h
theorem pooq_66_12_66 : PiecesOk Try.prog env (ctxG env false [] R44 [] []) 66 b66 :=
  pieces_at (L := []) (S := []) (fun _ => rfl) (fun _ => rfl) (by kernel_rfl) (by kernel_rfl) (fun _ hq => by cases hq) (fun _ hq => by cases hq)
theorem booq_66_12 : BodiesOk Try.prog env (ctxG env false [] R44 [] []) := bodies_okG (ks := []) (by kernel_rfl) (fun _ hq => by cases hq)
theorem stoq_66_12 (x1 : Int) (x2 : Bool) (x3 : Int) (x4 : Bool) (x5 : Int) (x6 : (List Int)) (x7 : Int) (x8 : Int) (x9 : (List Int)) (K : Ex → List (SV env.T) → Prop) : s_66_12  x1 x2 x3 x4 x5 x6 x7 x8 x9 (fun y1 y2 y3 y4 y5 y6 y7 y8 => K .normal [.int .i64 y1, .bool y2, .int .i64 y3, .int .i64 y4, .dat 3 y5, .int .i64 y6, .nils, .int .i64 y7, .dat 3 y8]) = vcCode env (ctxG env false [] R44 [] []) 2000 66 (seqAt b66 12) (insSt q_66_12.head [.int .i64 x1, .bool x2, .int .i64 x3, .bool x4, .int .i64 x5, .dat 3 x6, .int .i64 x7, .nils, .int .i64 x8, .dat 3 x9]) (outP env q_66_12 K) := by kernel_rfl
theorem wioq_66_12 (vs : List (SV env.T)) (K : Ex → List (SV env.T) → Prop) (h : v_66_12 vs K) : ∃ x1 : Int, ∃ x2 : Bool, ∃ x3 : Int, ∃ x4 : Bool, ∃ x5 : Int, ∃ x6 : (List Int), ∃ x7 : Int, ∃ x8 : Int, ∃ x9 : (List Int), vs = [.int .i64 x1, .bool x2, .int .i64 x3, .bool x4, .int .i64 x5, .dat 3 x6, .int .i64 x7, .nils, .int .i64 x8, .dat 3 x9] ∧ s_66_12  x1 x2 x3 x4 x5 x6 x7 x8 x9 (fun y1 y2 y3 y4 y5 y6 y7 y8 => K .normal [.int .i64 y1, .bool y2, .int .i64 y3, .int .i64 y4, .dat 3 y5, .int .i64 y6, .nils, .int .i64 y7, .dat 3 y8]) := by
  unfold v_66_12 at h
  replace h := dCI_spec h
  obtain ⟨x1, vs0, e0, h⟩ := h
  replace h := dCB_spec h
  obtain ⟨x2, vs1, e1, h⟩ := h
  replace h := dCI_spec h
  obtain ⟨x3, vs2, e2, h⟩ := h
  replace h := dCB_spec h
  obtain ⟨x4, vs3, e3, h⟩ := h
  replace h := dCI_spec h
  obtain ⟨x5, vs4, e4, h⟩ := h
  replace h := dCD_spec h
  obtain ⟨x6, vs5, e5, h⟩ := h
  replace h := dCI_spec h
  obtain ⟨x7, vs6, e6, h⟩ := h
  replace h := dCN_spec h
  obtain ⟨vs7, e7, h⟩ := h
  replace h := dCI_spec h
  obtain ⟨x8, vs8, e8, h⟩ := h
  replace h := dCD_spec h
  obtain ⟨x9, vs9, e9, h⟩ := h
  replace h := dCE_spec h
  obtain ⟨e, h⟩ := h
  exact ⟨x1, x2, x3, x4, x5, x6, x7, x8, x9, by rw [e0, e1, e2, e3, e4, e5, e6, e7, e8, e9, e], h⟩
theorem oq_66_12 : PieceOk Try.prog env q_66_12 (seqAt b66 12) := by
  refine seq_step tab (ctxG_ok R44_ok false [] _ _) booq_66_12 (pieces_subS pooq_66_12_66 (by kernel_rfl)) 2000 ?_
  intro vs K h
  obtain ⟨x1, x2, x3, x4, x5, x6, x7, x8, x9, rfl, h⟩ := wioq_66_12 vs K h
  exact Eq.mp (stoq_66_12 x1 x2 x3 x4 x5 x6 x7 x8 x9 K) h
theorem pook_66_9_66 : PiecesOk Try.prog env (ctxG env false [] R44 [] [(66, [(12, q_66_12)])]) 66 b66 :=
  pieces_at (L := []) (S := [(12, q_66_12)]) (fun _ => rfl) (fun _ => rfl) (by kernel_rfl) (by kernel_rfl) (fun _ hq => by cases hq) (List.forall_mem_cons.2 ⟨fun _ => oq_66_12, (fun _ hq => by cases hq)⟩)
theorem book_66_9 : BodiesOk Try.prog env (ctxG env false [] R44 [] [(66, [(12, q_66_12)])]) := bodies_okG (ks := [66]) (by kernel_rfl) (List.forall_mem_cons.2 ⟨body_at (fn := f66) (body := b66) rfl hb66 pook_66_9_66, (fun _ hq => by cases hq)⟩)
theorem stok_66_9 (k : Nat) (x1 : Int) (x2 : Bool) (x3 : Int) (x4 : Int) (x5 : (List Int)) (x6 : Int) (x7 : Int) (x8 : (List Int)) (K : Ex → List (SV env.T) → Prop) : l_66_9 (k + 1) x1 x2 x3 x4 x5 x6 x7 x8 (fun y1 y2 y3 y4 y5 y6 y7 => K (.exit 2) [.int .i64 y1, .bool y2, .int .i64 y3, .dat 3 y4, .int .i64 y5, .nils, .int .i64 y6, .dat 3 y7]) = vcCode env (ctxG env false [] R44 [] [(66, [(12, q_66_12)])]) 2000 66 (loopAt b66 9) (insSt p_66_9.head [.int .i64 x1, .bool x2, .int .i64 x3, .int .i64 x4, .dat 3 x5, .int .i64 x6, .nils, .int .i64 x7, .dat 3 x8]) (stepK p_66_9 (w_66_9 k) K) := by kernel_rfl
theorem wiok_66_9 (k : Nat) (vs : List (SV env.T)) (K : Ex → List (SV env.T) → Prop) (h : w_66_9 k vs K) : ∃ x1 : Int, ∃ x2 : Bool, ∃ x3 : Int, ∃ x4 : Int, ∃ x5 : (List Int), ∃ x6 : Int, ∃ x7 : Int, ∃ x8 : (List Int), vs = [.int .i64 x1, .bool x2, .int .i64 x3, .int .i64 x4, .dat 3 x5, .int .i64 x6, .nils, .int .i64 x7, .dat 3 x8] ∧ l_66_9 k x1 x2 x3 x4 x5 x6 x7 x8 (fun y1 y2 y3 y4 y5 y6 y7 => K (.exit 2) [.int .i64 y1, .bool y2, .int .i64 y3, .dat 3 y4, .int .i64 y5, .nils, .int .i64 y6, .dat 3 y7]) := by
  unfold w_66_9 at h
  replace h := dCI_spec h
  obtain ⟨x1, vs0, e0, h⟩ := h
  replace h := dCB_spec h
  obtain ⟨x2, vs1, e1, h⟩ := h
  replace h := dCI_spec h
  obtain ⟨x3, vs2, e2, h⟩ := h
  replace h := dCI_spec h
  obtain ⟨x4, vs3, e3, h⟩ := h
  replace h := dCD_spec h
  obtain ⟨x5, vs4, e4, h⟩ := h
  replace h := dCI_spec h
  obtain ⟨x6, vs5, e5, h⟩ := h
  replace h := dCN_spec h
  obtain ⟨vs6, e6, h⟩ := h
  replace h := dCI_spec h
  obtain ⟨x7, vs7, e7, h⟩ := h
  replace h := dCD_spec h
  obtain ⟨x8, vs8, e8, h⟩ := h
  replace h := dCE_spec h
  obtain ⟨e, h⟩ := h
  exact ⟨x1, x2, x3, x4, x5, x6, x7, x8, by rw [e0, e1, e2, e3, e4, e5, e6, e7, e8, e], h⟩
theorem zeok_66_9 (x1 : Int) (x2 : Bool) (x3 : Int) (x4 : Int) (x5 : (List Int)) (x6 : Int) (x7 : Int) (x8 : (List Int)) (K : Ex → List (SV env.T) → Prop) : l_66_9 0 x1 x2 x3 x4 x5 x6 x7 x8 (fun y1 y2 y3 y4 y5 y6 y7 => K (.exit 2) [.int .i64 y1, .bool y2, .int .i64 y3, .dat 3 y4, .int .i64 y5, .nils, .int .i64 y6, .dat 3 y7]) = False := by kernel_rfl
theorem ok_66_9 : PieceOk Try.prog env p_66_9 (.loop (loopAt b66 9)) := by
  refine loop_step (Wn := w_66_9) tab (ctxG_ok R44_ok false [] _ _) book_66_9 (pieces_sub pook_66_9_66 (by kernel_rfl)) rfl ?_ 2000 ?_
  · intro vs K h
    obtain ⟨x1, x2, x3, x4, x5, x6, x7, x8, _, h⟩ := wiok_66_9 0 vs K h
    exact Eq.mp (zeok_66_9 x1 x2 x3 x4 x5 x6 x7 x8 K) h
  · intro k vs K h
    obtain ⟨x1, x2, x3, x4, x5, x6, x7, x8, rfl, h⟩ := wiok_66_9 (k + 1) vs K h
    exact Eq.mp (stok_66_9 k x1 x2 x3 x4 x5 x6 x7 x8 K) h
theorem pooq_66_7_66 : PiecesOk Try.prog env (ctxG env false [] R44 [(66, [(9, p_66_9)])] [(66, [(12, q_66_12)])]) 66 b66 :=
  pieces_at (L := [(9, p_66_9)]) (S := [(12, q_66_12)]) (fun _ => rfl) (fun _ => rfl) (by kernel_rfl) (by kernel_rfl) (List.forall_mem_cons.2 ⟨fun _ => ok_66_9, (fun _ hq => by cases hq)⟩) (List.forall_mem_cons.2 ⟨fun _ => oq_66_12, (fun _ hq => by cases hq)⟩)
theorem booq_66_7 : BodiesOk Try.prog env (ctxG env false [] R44 [(66, [(9, p_66_9)])] [(66, [(12, q_66_12)])]) := bodies_okG (ks := [66]) (by kernel_rfl) (List.forall_mem_cons.2 ⟨body_at (fn := f66) (body := b66) rfl hb66 pooq_66_7_66, (fun _ hq => by cases hq)⟩)
theorem stoq_66_7 (x1 : Int) (x2 : Int) (x3 : (List Int)) (x4 : Int) (x5 : Int) (K : Ex → List (SV env.T) → Prop) : s_66_7  x1 x2 x3 x4 x5 (fun y1 y2 => K .ret [.int .i64 y1, .dat 3 y2]) = vcCode env (ctxG env false [] R44 [(66, [(9, p_66_9)])] [(66, [(12, q_66_12)])]) 2000 66 (seqAt b66 7) (insSt q_66_7.head [.int .i64 x1, .int .i64 x2, .dat 3 x3, .int .i64 x4, .nils, .int .i64 x5, .nils]) (outP env q_66_7 K) := by kernel_rfl
theorem wioq_66_7 (vs : List (SV env.T)) (K : Ex → List (SV env.T) → Prop) (h : v_66_7 vs K) : ∃ x1 : Int, ∃ x2 : Int, ∃ x3 : (List Int), ∃ x4 : Int, ∃ x5 : Int, vs = [.int .i64 x1, .int .i64 x2, .dat 3 x3, .int .i64 x4, .nils, .int .i64 x5, .nils] ∧ s_66_7  x1 x2 x3 x4 x5 (fun y1 y2 => K .ret [.int .i64 y1, .dat 3 y2]) := by
  unfold v_66_7 at h
  replace h := dCI_spec h
  obtain ⟨x1, vs0, e0, h⟩ := h
  replace h := dCI_spec h
  obtain ⟨x2, vs1, e1, h⟩ := h
  replace h := dCD_spec h
  obtain ⟨x3, vs2, e2, h⟩ := h
  replace h := dCI_spec h
  obtain ⟨x4, vs3, e3, h⟩ := h
  replace h := dCN_spec h
  obtain ⟨vs4, e4, h⟩ := h
  replace h := dCI_spec h
  obtain ⟨x5, vs5, e5, h⟩ := h
  replace h := dCN_spec h
  obtain ⟨vs6, e6, h⟩ := h
  replace h := dCE_spec h
  obtain ⟨e, h⟩ := h
  exact ⟨x1, x2, x3, x4, x5, by rw [e0, e1, e2, e3, e4, e5, e6, e], h⟩
theorem oq_66_7 : PieceOk Try.prog env q_66_7 (seqAt b66 7) := by
  refine seq_step tab (ctxG_ok R44_ok false [] _ _) booq_66_7 (pieces_subS pooq_66_7_66 (by kernel_rfl)) 2000 ?_
  intro vs K h
  obtain ⟨x1, x2, x3, x4, x5, rfl, h⟩ := wioq_66_7 vs K h
  exact Eq.mp (stoq_66_7 x1 x2 x3 x4 x5 K) h
theorem po_66_66 : PiecesOk Try.prog env (ctxG env false [] R44 [(66, [(5, p_66_5), (9, p_66_9)])] [(66, [(12, q_66_12), (7, q_66_7)])]) 66 b66 :=
  pieces_at (L := [(5, p_66_5), (9, p_66_9)]) (S := [(12, q_66_12), (7, q_66_7)]) (fun _ => rfl) (fun _ => rfl) (by kernel_rfl) (by kernel_rfl) (List.forall_mem_cons.2 ⟨fun _ => ok_66_5, (List.forall_mem_cons.2 ⟨fun _ => ok_66_9, (fun _ hq => by cases hq)⟩)⟩) (List.forall_mem_cons.2 ⟨fun _ => oq_66_12, (List.forall_mem_cons.2 ⟨fun _ => oq_66_7, (fun _ hq => by cases hq)⟩)⟩)
theorem bo_66 : BodiesOk Try.prog env (ctxG env false [] R44 [(66, [(5, p_66_5), (9, p_66_9)])] [(66, [(12, q_66_12), (7, q_66_7)])]) := bodies_okG (ks := [66]) (by kernel_rfl) (List.forall_mem_cons.2 ⟨body_at (fn := f66) (body := b66) rfl hb66 po_66_66, (fun _ hq => by cases hq)⟩)
theorem eq_66 (x0 : Receiver) (x1 : Int) (K : Y66 → Prop) : vcCode env (ctxG env false [] R44 [(66, [(5, p_66_5), (9, p_66_9)])] [(66, [(12, q_66_12), (7, q_66_7)])]) 2000 66 b66 (entry env f66 [v67 x0, v3 x1]) (finR env f66 decR66 K) = B66 x0 x1 K := by kernel_rfl
noncomputable def rule66 : Nat × Rule env := (66, ruleF env decA66 encR66 fun x => V66 x.1 x.2)
theorem r66 : RuleOk Try.prog env 66 rule66.2 :=
  rule_fun tab (ctxG_ok R44_ok false [] _ _) bo_66 (f := 66) (fn := f66) rfl hb66 po_66_66 2000 encA66 hA66 hR66 hD66 (fun _ => of_decide_eq_true (by kernel_rfl)) (fun x K => (eq_66 x.1 x.2 K).trans (by rw [V66_eq]))
noncomputable def R66 : List (Nat × Rule env) := rule66 :: R44
theorem R66_ok : AllOk Try.prog env R66 := ⟨r66, R44_ok⟩
-- 38 queuelab/queuelabref30.Receive
noncomputable def f38 : Func := Try.f38
noncomputable def b38 : Code := (Try.f38.body).getD .skip
abbrev X38 := Receiver × Int × Packet
def encA38 (x : X38) : List (SV env.T) := [v67 x.1, v3 x.2.1, v30 x.2.2]
def decA38 (l : List (SV env.T)) : Option X38 := match l with
  | [s0, s1, s2] => match u67 s0, u3 s1, u30 s2 with
    | some x0, some x1, some x2 => some (x0, x1, x2)
    | _, _, _ => none
  | _ => none
theorem hA38 (l : List (SV env.T)) (x : X38) (h : decA38 l = some x) : WkA env.has l (encA38 x) := by
  unfold decA38 at h; split at h
  · split at h
    · rename_i h0 h1 h2; cases h; exact (.cons (u67_wk h0) (.cons (u3_wk h1) (.cons (u30_wk h2) .nil)))
    · cases h
  · cases h
abbrev Y38 := Receiver × Ack × Bool × Int
def encR38 (x : Y38) : List (SV env.T) := [v67 x.1, v70 x.2.1, v4 x.2.2.1, v34 x.2.2.2]
def decR38 (l : List (SV env.T)) : Option Y38 := match l with
  | [s0, s1, s2, s3] => match u67 s0, u70 s1, u4 s2, u34 s3 with
    | some x0, some x1, some x2, some x3 => some (x0, x1, x2, x3)
    | _, _, _, _ => none
  | _ => none
theorem hR38 (l : List (SV env.T)) (x : Y38) (h : decR38 l = some x) : WkA env.has l (encR38 x) := by
  unfold decR38 at h; split at h
  · split at h
    · rename_i h0 h1 h2 h3; cases h; exact (.cons (u67_wk h0) (.cons (u70_wk h1) (.cons (u4_wk h2) (.cons (u34_wk h3) .nil))))
    · cases h
  · cases h
theorem hD38 (y : Y38) : isDataV (tupV (encR38 y)) = true := rfl
theorem hb38 : f38.body = some b38 := by kernel_rfl
noncomputable def B38 : Receiver → Int → Packet → (Y38 → Prop) → Prop :=
  fun x0 x1 x2 K ↦ V40 x0 x1 fun y4 ↦ br (!y4) (K (Receiver.mk 0 [], Ack.mk 0 0 0 0 false, false, 1)) (V26 x2 fun y5 ↦ br (!y5) (K (Receiver.mk 0 [], Ack.mk 0 0 0 0 false, false, 1)) (br (decide (x2.data ≥ IntKind.i64.wrap (x0.next_ + x1))) (K (Receiver.mk 0 [], Ack.mk 0 0 0 0 false, false, 10)) (br (x2.data == 1000000000) (K (Receiver.mk 0 [], Ack.mk 0 0 0 0 false, false, 10)) (V44 x0 x2.data fun y6 ↦ br (roomB ([] ++ x0.have_).length (bytesB env 3)) (br (!y6) (V66 x0 x2.data fun y7 ↦ K (y7, Ack.mk x2.sub x2.number y7.next_ x2.sent x2.marked, !y6, 0)) (K (Receiver.mk x0.next_ ([] ++ x0.have_), Ack.mk x2.sub x2.number x0.next_ x2.sent x2.marked, !y6, 0))) False))))
theorem V38_ex : ∃ V : Receiver → Int → Packet → (Y38 → Prop) → Prop, V = B38 := ⟨_, rfl⟩
noncomputable def V38 : Receiver → Int → Packet → (Y38 → Prop) → Prop := Classical.choose V38_ex
theorem V38_eq : V38 = B38 := Classical.choose_spec V38_ex
theorem po_38_38 : PiecesOk Try.prog env (ctxG env false [] R66 [] []) 38 b38 :=
  pieces_at (L := []) (S := []) (fun _ => rfl) (fun _ => rfl) (by kernel_rfl) (by kernel_rfl) (fun _ hq => by cases hq) (fun _ hq => by cases hq)
theorem bo_38 : BodiesOk Try.prog env (ctxG env false [] R66 [] []) := bodies_okG (ks := []) (by kernel_rfl) (fun _ hq => by cases hq)
theorem eq_38 (x0 : Receiver) (x1 : Int) (x2 : Packet) (K : Y38 → Prop) : vcCode env (ctxG env false [] R66 [] []) 2000 38 b38 (entry env f38 [v67 x0, v3 x1, v30 x2]) (finR env f38 decR38 K) = B38 x0 x1 x2 K := by kernel_rfl
noncomputable def rule38 : Nat × Rule env := (38, ruleF env decA38 encR38 fun x => V38 x.1 x.2.1 x.2.2)
theorem r38 : RuleOk Try.prog env 38 rule38.2 :=
  rule_fun tab (ctxG_ok R66_ok false [] _ _) bo_38 (f := 38) (fn := f38) rfl hb38 po_38_38 2000 encA38 hA38 hR38 hD38 (fun _ => of_decide_eq_true (by kernel_rfl)) (fun x K => (eq_38 x.1 x.2.1 x.2.2 K).trans (by rw [V38_eq]))
noncomputable def R38 : List (Nat × Rule env) := rule38 :: R66
theorem R38_ok : AllOk Try.prog env R38 := ⟨r38, R66_ok⟩
-- 36 queuelab/queuelabref30.Few
noncomputable def f36 : Func := Try.f36
noncomputable def b36 : Code := (Try.f36.body).getD .skip
abbrev X36 := Receiver
def encA36 (x : X36) : List (SV env.T) := [v67 x]
def decA36 (l : List (SV env.T)) : Option X36 := match l with
  | [s0] => match u67 s0 with
    | some x0 => some (x0)
    | _ => none
  | _ => none
theorem hA36 (l : List (SV env.T)) (x : X36) (h : decA36 l = some x) : WkA env.has l (encA36 x) := by
  unfold decA36 at h; split at h
  · split at h
    · rename_i h0; cases h; exact (.cons (u67_wk h0) .nil)
    · cases h
  · cases h
abbrev Y36 := Bool
def encR36 (x : Y36) : List (SV env.T) := [v4 x]
def decR36 (l : List (SV env.T)) : Option Y36 := match l with
  | [s0] => match u4 s0 with
    | some x0 => some (x0)
    | _ => none
  | _ => none
theorem hR36 (l : List (SV env.T)) (x : Y36) (h : decR36 l = some x) : WkA env.has l (encR36 x) := by
  unfold decR36 at h; split at h
  · split at h
    · rename_i h0; cases h; exact (.cons (u4_wk h0) .nil)
    · cases h
  · cases h
theorem hD36 (y : Y36) : isDataV (tupV (encR36 y)) = true := rfl
theorem hb36 : f36.body = some b36 := by kernel_rfl
noncomputable def B36 : Receiver → (Y36 → Prop) → Prop :=
  fun x0 K ↦ K (decide ((↑x0.have_.length : Int) ≤ 1100))
theorem V36_ex : ∃ V : Receiver → (Y36 → Prop) → Prop, V = B36 := ⟨_, rfl⟩
noncomputable def V36 : Receiver → (Y36 → Prop) → Prop := Classical.choose V36_ex
theorem V36_eq : V36 = B36 := Classical.choose_spec V36_ex
theorem po_36_36 : PiecesOk Try.prog env (ctxG env false [] R38 [] []) 36 b36 :=
  pieces_at (L := []) (S := []) (fun _ => rfl) (fun _ => rfl) (by kernel_rfl) (by kernel_rfl) (fun _ hq => by cases hq) (fun _ hq => by cases hq)
theorem bo_36 : BodiesOk Try.prog env (ctxG env false [] R38 [] []) := bodies_okG (ks := []) (by kernel_rfl) (fun _ hq => by cases hq)
theorem eq_36 (x0 : Receiver) (K : Y36 → Prop) : vcCode env (ctxG env false [] R38 [] []) 2000 36 b36 (entry env f36 [v67 x0]) (finR env f36 decR36 K) = B36 x0 K := by kernel_rfl
noncomputable def rule36 : Nat × Rule env := (36, ruleF env decA36 encR36 fun x => V36 x)
theorem r36 : RuleOk Try.prog env 36 rule36.2 :=
  rule_fun tab (ctxG_ok R38_ok false [] _ _) bo_36 (f := 36) (fn := f36) rfl hb36 po_36_36 2000 encA36 hA36 hR36 hD36 (fun _ => of_decide_eq_true (by kernel_rfl)) (fun x K => (eq_36 x K).trans (by rw [V36_eq]))
noncomputable def R36 : List (Nat × Rule env) := rule36 :: R38
theorem R36_ok : AllOk Try.prog env R36 := ⟨r36, R38_ok⟩
-- 41 queuelab/queuelabref30.Same
noncomputable def f41 : Func := Try.f41
noncomputable def b41 : Code := (Try.f41.body).getD .skip
abbrev X41 := Receiver × Receiver
def encA41 (x : X41) : List (SV env.T) := [v67 x.1, v67 x.2]
def decA41 (l : List (SV env.T)) : Option X41 := match l with
  | [s0, s1] => match u67 s0, u67 s1 with
    | some x0, some x1 => some (x0, x1)
    | _, _ => none
  | _ => none
theorem hA41 (l : List (SV env.T)) (x : X41) (h : decA41 l = some x) : WkA env.has l (encA41 x) := by
  unfold decA41 at h; split at h
  · split at h
    · rename_i h0 h1; cases h; exact (.cons (u67_wk h0) (.cons (u67_wk h1) .nil))
    · cases h
  · cases h
abbrev Y41 := Bool
def encR41 (x : Y41) : List (SV env.T) := [v4 x]
def decR41 (l : List (SV env.T)) : Option Y41 := match l with
  | [s0] => match u4 s0 with
    | some x0 => some (x0)
    | _ => none
  | _ => none
theorem hR41 (l : List (SV env.T)) (x : Y41) (h : decR41 l = some x) : WkA env.has l (encR41 x) := by
  unfold decR41 at h; split at h
  · split at h
    · rename_i h0; cases h; exact (.cons (u4_wk h0) .nil)
    · cases h
  · cases h
theorem hD41 (y : Y41) : isDataV (tupV (encR41 y)) = true := rfl
theorem hb41 : f41.body = some b41 := by kernel_rfl
def l_41_4 : Nat → Bool → Int → Int → (List Int) → Int → (List Int) → (Bool → Prop) → (Bool → Prop) → Prop
  | 0 => fun _ _ _ _ _ _ _ _ => False
  | k + 1 => fun x1 x2 x3 x4 x5 x6 kr k0 ↦ br (decide (x2 < (↑x4.length : Int))) (br (inb x2 (↑x4.length : Int)) (br (inb x2 (↑x6.length : Int)) (br (x4.getD x2.toNat (env.d 3) != x6.getD x2.toNat (env.d 3)) (kr false) (l_41_4 k x1 (IntKind.i64.wrap (x2 + 1)) x3 x4 x5 x6 kr k0)) False) False) (k0 x1)
def w_41_4 (k : Nat) (vs : List (SV env.T)) (K : Ex → List (SV env.T) → Prop) : Prop :=
  dCB vs fun x1 vs => dCI .i64 vs fun x2 vs => dCI .i64 vs fun x3 vs => dCD 3 vs fun x4 vs => dCI .i64 vs fun x5 vs => dCD 3 vs fun x6 vs => dCE vs (l_41_4 k x1 x2 x3 x4 x5 x6 (fun y1 => K .ret [.bool y1]) (fun y1 => K (.exit 0) [.bool y1]))
def p_41_4 : Piece env := ⟨⟨[.any, .any, .ptr 0 0, .ptr 1 0, .hole, .hole, .any, .any, .any, .any, .any, .any, .any, .any, .any, .any, .any, .any, .any, .any, .any, .any, .any, .any, .any, .any, .any, .any, .any, .any, .any, .any, .any, .any, .any, .any, .any, .any], [], [(0, .cells 67 [.hole, .holeD 3]), (1, .cells 67 [.hole, .holeD 3])], 2⟩, exitF none [(0, ⟨[.any, .any, .any, .any, .hole, .any, .any, .any, .any, .any, .any, .any, .any, .any, .any, .any, .any, .any, .any, .any, .any, .any, .any, .any, .any, .any, .any, .any, .any, .any, .any, .any, .any, .any, .any, .any, .any, .any], [], [], 0⟩)] (some ⟨[.any, .any, .any, .any, .hole, .any, .any, .any, .any, .any, .any, .any, .any, .any, .any, .any, .any, .any, .any, .any, .any, .any, .any, .any, .any, .any, .any, .any, .any, .any, .any, .any, .any, .any, .any, .any, .any, .any], [], [], 0⟩), fun vs K => ∃ k, w_41_4 k vs K⟩
def s_41_3 : Bool → Int → (List Int) → Int → (List Int) → (Bool → Prop) → Prop :=
  fun x1 x2 x3 x4 x5 kr ↦ ∃ k8, l_41_4 k8 x1 0 x2 x3 x4 x5 kr fun _ ↦ kr true
def v_41_3 (vs : List (SV env.T)) (K : Ex → List (SV env.T) → Prop) : Prop :=
  dCB vs fun x1 vs => dCI .i64 vs fun x2 vs => dCD 3 vs fun x3 vs => dCI .i64 vs fun x4 vs => dCD 3 vs fun x5 vs => dCE vs (s_41_3 x1 x2 x3 x4 x5 (fun y1 => K .ret [.bool y1]))
def q_41_3 : Piece env := ⟨⟨[.any, .any, .ptr 0 0, .ptr 1 0, .hole, .any, .any, .any, .any, .any, .any, .any, .any, .any, .any, .any, .any, .any, .any, .any, .any, .any, .any, .any, .any, .any, .any, .any, .any, .any, .any, .any, .any, .any, .any, .any, .any, .any], [], [(0, .cells 67 [.hole, .holeD 3]), (1, .cells 67 [.hole, .holeD 3])], 2⟩, exitF none [] (some ⟨[.any, .any, .any, .any, .hole, .any, .any, .any, .any, .any, .any, .any, .any, .any, .any, .any, .any, .any, .any, .any, .any, .any, .any, .any, .any, .any, .any, .any, .any, .any, .any, .any, .any, .any, .any, .any, .any, .any], [], [], 0⟩), v_41_3⟩
noncomputable def B41 : Receiver → Receiver → (Y41 → Prop) → Prop :=
  fun x0 x1 K ↦ br (x0.next_ != x1.next_) (K false) (br ((↑x0.have_.length : Int) != (↑x1.have_.length : Int)) (K false) (s_41_3 false x0.next_ x0.have_ x1.next_ x1.have_ K))
theorem V41_ex : ∃ V : Receiver → Receiver → (Y41 → Prop) → Prop, V = B41 := ⟨_, rfl⟩
noncomputable def V41 : Receiver → Receiver → (Y41 → Prop) → Prop := Classical.choose V41_ex
theorem V41_eq : V41 = B41 := Classical.choose_spec V41_ex
theorem pook_41_4_41 : PiecesOk Try.prog env (ctxG env false [] R36 [] []) 41 b41 :=
  pieces_at (L := []) (S := []) (fun _ => rfl) (fun _ => rfl) (by kernel_rfl) (by kernel_rfl) (fun _ hq => by cases hq) (fun _ hq => by cases hq)
theorem book_41_4 : BodiesOk Try.prog env (ctxG env false [] R36 [] []) := bodies_okG (ks := []) (by kernel_rfl) (fun _ hq => by cases hq)
theorem stok_41_4 (k : Nat) (x1 : Bool) (x2 : Int) (x3 : Int) (x4 : (List Int)) (x5 : Int) (x6 : (List Int)) (K : Ex → List (SV env.T) → Prop) : l_41_4 (k + 1) x1 x2 x3 x4 x5 x6 (fun y1 => K .ret [.bool y1]) (fun y1 => K (.exit 0) [.bool y1]) = vcCode env (ctxG env false [] R36 [] []) 2000 41 (loopAt b41 4) (insSt p_41_4.head [.bool x1, .int .i64 x2, .int .i64 x3, .dat 3 x4, .int .i64 x5, .dat 3 x6]) (stepK p_41_4 (w_41_4 k) K) := by kernel_rfl
theorem wiok_41_4 (k : Nat) (vs : List (SV env.T)) (K : Ex → List (SV env.T) → Prop) (h : w_41_4 k vs K) : ∃ x1 : Bool, ∃ x2 : Int, ∃ x3 : Int, ∃ x4 : (List Int), ∃ x5 : Int, ∃ x6 : (List Int), vs = [.bool x1, .int .i64 x2, .int .i64 x3, .dat 3 x4, .int .i64 x5, .dat 3 x6] ∧ l_41_4 k x1 x2 x3 x4 x5 x6 (fun y1 => K .ret [.bool y1]) (fun y1 => K (.exit 0) [.bool y1]) := by
  unfold w_41_4 at h
  replace h := dCB_spec h
  obtain ⟨x1, vs0, e0, h⟩ := h
  replace h := dCI_spec h
  obtain ⟨x2, vs1, e1, h⟩ := h
  replace h := dCI_spec h
  obtain ⟨x3, vs2, e2, h⟩ := h
  replace h := dCD_spec h
  obtain ⟨x4, vs3, e3, h⟩ := h
  replace h := dCI_spec h
  obtain ⟨x5, vs4, e4, h⟩ := h
  replace h := dCD_spec h
  obtain ⟨x6, vs5, e5, h⟩ := h
  replace h := dCE_spec h
  obtain ⟨e, h⟩ := h
  exact ⟨x1, x2, x3, x4, x5, x6, by rw [e0, e1, e2, e3, e4, e5, e], h⟩
theorem zeok_41_4 (x1 : Bool) (x2 : Int) (x3 : Int) (x4 : (List Int)) (x5 : Int) (x6 : (List Int)) (K : Ex → List (SV env.T) → Prop) : l_41_4 0 x1 x2 x3 x4 x5 x6 (fun y1 => K .ret [.bool y1]) (fun y1 => K (.exit 0) [.bool y1]) = False := by kernel_rfl
theorem ok_41_4 : PieceOk Try.prog env p_41_4 (.loop (loopAt b41 4)) := by
  refine loop_step (Wn := w_41_4) tab (ctxG_ok R36_ok false [] _ _) book_41_4 (pieces_sub pook_41_4_41 (by kernel_rfl)) rfl ?_ 2000 ?_
  · intro vs K h
    obtain ⟨x1, x2, x3, x4, x5, x6, _, h⟩ := wiok_41_4 0 vs K h
    exact Eq.mp (zeok_41_4 x1 x2 x3 x4 x5 x6 K) h
  · intro k vs K h
    obtain ⟨x1, x2, x3, x4, x5, x6, rfl, h⟩ := wiok_41_4 (k + 1) vs K h
    exact Eq.mp (stok_41_4 k x1 x2 x3 x4 x5 x6 K) h
theorem pooq_41_3_41 : PiecesOk Try.prog env (ctxG env false [] R36 [(41, [(4, p_41_4)])] []) 41 b41 :=
  pieces_at (L := [(4, p_41_4)]) (S := []) (fun _ => rfl) (fun _ => rfl) (by kernel_rfl) (by kernel_rfl) (List.forall_mem_cons.2 ⟨fun _ => ok_41_4, (fun _ hq => by cases hq)⟩) (fun _ hq => by cases hq)
theorem booq_41_3 : BodiesOk Try.prog env (ctxG env false [] R36 [(41, [(4, p_41_4)])] []) := bodies_okG (ks := [41]) (by kernel_rfl) (List.forall_mem_cons.2 ⟨body_at (fn := f41) (body := b41) rfl hb41 pooq_41_3_41, (fun _ hq => by cases hq)⟩)
theorem stoq_41_3 (x1 : Bool) (x2 : Int) (x3 : (List Int)) (x4 : Int) (x5 : (List Int)) (K : Ex → List (SV env.T) → Prop) : s_41_3  x1 x2 x3 x4 x5 (fun y1 => K .ret [.bool y1]) = vcCode env (ctxG env false [] R36 [(41, [(4, p_41_4)])] []) 2000 41 (seqAt b41 3) (insSt q_41_3.head [.bool x1, .int .i64 x2, .dat 3 x3, .int .i64 x4, .dat 3 x5]) (outP env q_41_3 K) := by kernel_rfl
theorem wioq_41_3 (vs : List (SV env.T)) (K : Ex → List (SV env.T) → Prop) (h : v_41_3 vs K) : ∃ x1 : Bool, ∃ x2 : Int, ∃ x3 : (List Int), ∃ x4 : Int, ∃ x5 : (List Int), vs = [.bool x1, .int .i64 x2, .dat 3 x3, .int .i64 x4, .dat 3 x5] ∧ s_41_3  x1 x2 x3 x4 x5 (fun y1 => K .ret [.bool y1]) := by
  unfold v_41_3 at h
  replace h := dCB_spec h
  obtain ⟨x1, vs0, e0, h⟩ := h
  replace h := dCI_spec h
  obtain ⟨x2, vs1, e1, h⟩ := h
  replace h := dCD_spec h
  obtain ⟨x3, vs2, e2, h⟩ := h
  replace h := dCI_spec h
  obtain ⟨x4, vs3, e3, h⟩ := h
  replace h := dCD_spec h
  obtain ⟨x5, vs4, e4, h⟩ := h
  replace h := dCE_spec h
  obtain ⟨e, h⟩ := h
  exact ⟨x1, x2, x3, x4, x5, by rw [e0, e1, e2, e3, e4, e], h⟩
theorem oq_41_3 : PieceOk Try.prog env q_41_3 (seqAt b41 3) := by
  refine seq_step tab (ctxG_ok R36_ok false [] _ _) booq_41_3 (pieces_subS pooq_41_3_41 (by kernel_rfl)) 2000 ?_
  intro vs K h
  obtain ⟨x1, x2, x3, x4, x5, rfl, h⟩ := wioq_41_3 vs K h
  exact Eq.mp (stoq_41_3 x1 x2 x3 x4 x5 K) h
theorem po_41_41 : PiecesOk Try.prog env (ctxG env false [] R36 [(41, [(4, p_41_4)])] [(41, [(3, q_41_3)])]) 41 b41 :=
  pieces_at (L := [(4, p_41_4)]) (S := [(3, q_41_3)]) (fun _ => rfl) (fun _ => rfl) (by kernel_rfl) (by kernel_rfl) (List.forall_mem_cons.2 ⟨fun _ => ok_41_4, (fun _ hq => by cases hq)⟩) (List.forall_mem_cons.2 ⟨fun _ => oq_41_3, (fun _ hq => by cases hq)⟩)
theorem bo_41 : BodiesOk Try.prog env (ctxG env false [] R36 [(41, [(4, p_41_4)])] [(41, [(3, q_41_3)])]) := bodies_okG (ks := [41]) (by kernel_rfl) (List.forall_mem_cons.2 ⟨body_at (fn := f41) (body := b41) rfl hb41 po_41_41, (fun _ hq => by cases hq)⟩)
theorem eq_41 (x0 : Receiver) (x1 : Receiver) (K : Y41 → Prop) : vcCode env (ctxG env false [] R36 [(41, [(4, p_41_4)])] [(41, [(3, q_41_3)])]) 2000 41 b41 (entry env f41 [v67 x0, v67 x1]) (finR env f41 decR41 K) = B41 x0 x1 K := by kernel_rfl
noncomputable def rule41 : Nat × Rule env := (41, ruleF env decA41 encR41 fun x => V41 x.1 x.2)
theorem r41 : RuleOk Try.prog env 41 rule41.2 :=
  rule_fun tab (ctxG_ok R36_ok false [] _ _) bo_41 (f := 41) (fn := f41) rfl hb41 po_41_41 2000 encA41 hA41 hR41 hD41 (fun _ => of_decide_eq_true (by kernel_rfl)) (fun x K => (eq_41 x.1 x.2 K).trans (by rw [V41_eq]))
noncomputable def R41 : List (Nat × Rule env) := rule41 :: R36
theorem R41_ok : AllOk Try.prog env R41 := ⟨r41, R36_ok⟩
-- 42 queuelab/queuelablaw30.usable
noncomputable def f42 : Func := Try.f42
noncomputable def b42 : Code := (Try.f42.body).getD .skip
abbrev X42 := Receiver × Int × (List Packet)
def encA42 (x : X42) : List (SV env.T) := [v67 x.1, v3 x.2.1, v33 x.2.2]
def decA42 (l : List (SV env.T)) : Option X42 := match l with
  | [s0, s1, s2] => match u67 s0, u3 s1, u33 s2 with
    | some x0, some x1, some x2 => some (x0, x1, x2)
    | _, _, _ => none
  | _ => none
theorem hA42 (l : List (SV env.T)) (x : X42) (h : decA42 l = some x) : WkA env.has l (encA42 x) := by
  unfold decA42 at h; split at h
  · split at h
    · rename_i h0 h1 h2; cases h; exact (.cons (u67_wk h0) (.cons (u3_wk h1) (.cons (u33_wk h2) .nil)))
    · cases h
  · cases h
abbrev Y42 := Bool
def encR42 (x : Y42) : List (SV env.T) := [v4 x]
def decR42 (l : List (SV env.T)) : Option Y42 := match l with
  | [s0] => match u4 s0 with
    | some x0 => some (x0)
    | _ => none
  | _ => none
theorem hR42 (l : List (SV env.T)) (x : Y42) (h : decR42 l = some x) : WkA env.has l (encR42 x) := by
  unfold decR42 at h; split at h
  · split at h
    · rename_i h0; cases h; exact (.cons (u4_wk h0) .nil)
    · cases h
  · cases h
theorem hD42 (y : Y42) : isDataV (tupV (encR42 y)) = true := rfl
theorem hb42 : f42.body = some b42 := by kernel_rfl
def l_42_4 : Nat → Bool → (List Packet) → Int → Int → (Bool → Prop) → (Bool → Prop) → Prop
  | 0 => fun _ _ _ _ _ _ => False
  | k + 1 => fun x1 x2 x3 x4 kr k0 ↦ br (decide (x4 < x3)) (br (inb x4 (↑x2.length : Int)) (V26 (x2.getD x4.toNat (env.d 30)) fun y8 ↦ br (!y8) (kr false) (l_42_4 k x1 x2 x3 (IntKind.i64.wrap (x4 + 1)) kr k0)) False) (k0 x1)
def w_42_4 (k : Nat) (vs : List (SV env.T)) (K : Ex → List (SV env.T) → Prop) : Prop :=
  dCB vs fun x1 vs => dCD 30 vs fun x2 vs => dCI .i64 vs fun x3 vs => dCI .i64 vs fun x4 vs => dCE vs (l_42_4 k x1 x2 x3 x4 (fun y1 => K .ret [.bool y1]) (fun y1 => K (.exit 0) [.bool y1]))
def p_42_4 : Piece env := ⟨⟨[.any, .any, .any, .any, .any, .any, .hole, .any, .any, .any, .any, .any, .any, .any, .any, .any, .any, .any, .any, .any, .any, .any, .any, .holeD 30, .hole, .hole, .any, .any, .any, .any, .any, .any, .any], [], [], 0⟩, exitF none [(0, ⟨[.any, .any, .any, .any, .any, .any, .hole, .any, .any, .any, .any, .any, .any, .any, .any, .any, .any, .any, .any, .any, .any, .any, .any, .any, .any, .any, .any, .any, .any, .any, .any, .any, .any], [], [], 0⟩)] (some ⟨[.any, .any, .any, .any, .any, .any, .hole, .any, .any, .any, .any, .any, .any, .any, .any, .any, .any, .any, .any, .any, .any, .any, .any, .any, .any, .any, .any, .any, .any, .any, .any, .any, .any], [], [], 0⟩), fun vs K => ∃ k, w_42_4 k vs K⟩
def s_42_3 : (List Packet) → Bool → (Bool → Prop) → Prop :=
  fun x1 x2 kr ↦ ∃ k5, l_42_4 k5 x2 x1 (↑x1.length : Int) 0 kr fun _ ↦ kr true
def v_42_3 (vs : List (SV env.T)) (K : Ex → List (SV env.T) → Prop) : Prop :=
  dCD 30 vs fun x1 vs => dCB vs fun x2 vs => dCE vs (s_42_3 x1 x2 (fun y1 => K .ret [.bool y1]))
def q_42_3 : Piece env := ⟨⟨[.any, .any, .holeD 30, .any, .any, .any, .hole, .any, .any, .any, .any, .any, .any, .any, .any, .any, .any, .any, .any, .any, .any, .any, .any, .any, .any, .any, .any, .any, .any, .any, .any, .any, .any], [], [], 0⟩, exitF none [] (some ⟨[.any, .any, .any, .any, .any, .any, .hole, .any, .any, .any, .any, .any, .any, .any, .any, .any, .any, .any, .any, .any, .any, .any, .any, .any, .any, .any, .any, .any, .any, .any, .any, .any, .any], [], [], 0⟩), v_42_3⟩
noncomputable def B42 : Receiver → Int → (List Packet) → (Y42 → Prop) → Prop :=
  fun x0 x1 x2 K ↦ V36 x0 fun y4 ↦ br (!y4) (K false) (V40 x0 x1 fun y5 ↦ br (!y5) (K false) (br (decide ((↑x2.length : Int) > 200)) (K false) (s_42_3 x2 false K)))
theorem V42_ex : ∃ V : Receiver → Int → (List Packet) → (Y42 → Prop) → Prop, V = B42 := ⟨_, rfl⟩
noncomputable def V42 : Receiver → Int → (List Packet) → (Y42 → Prop) → Prop := Classical.choose V42_ex
theorem V42_eq : V42 = B42 := Classical.choose_spec V42_ex
theorem pook_42_4_42 : PiecesOk Try.prog env (ctxG env false [] R41 [] []) 42 b42 :=
  pieces_at (L := []) (S := []) (fun _ => rfl) (fun _ => rfl) (by kernel_rfl) (by kernel_rfl) (fun _ hq => by cases hq) (fun _ hq => by cases hq)
theorem book_42_4 : BodiesOk Try.prog env (ctxG env false [] R41 [] []) := bodies_okG (ks := []) (by kernel_rfl) (fun _ hq => by cases hq)
theorem stok_42_4 (k : Nat) (x1 : Bool) (x2 : (List Packet)) (x3 : Int) (x4 : Int) (K : Ex → List (SV env.T) → Prop) : l_42_4 (k + 1) x1 x2 x3 x4 (fun y1 => K .ret [.bool y1]) (fun y1 => K (.exit 0) [.bool y1]) = vcCode env (ctxG env false [] R41 [] []) 2000 42 (loopAt b42 4) (insSt p_42_4.head [.bool x1, .dat 30 x2, .int .i64 x3, .int .i64 x4]) (stepK p_42_4 (w_42_4 k) K) := by kernel_rfl
theorem wiok_42_4 (k : Nat) (vs : List (SV env.T)) (K : Ex → List (SV env.T) → Prop) (h : w_42_4 k vs K) : ∃ x1 : Bool, ∃ x2 : (List Packet), ∃ x3 : Int, ∃ x4 : Int, vs = [.bool x1, .dat 30 x2, .int .i64 x3, .int .i64 x4] ∧ l_42_4 k x1 x2 x3 x4 (fun y1 => K .ret [.bool y1]) (fun y1 => K (.exit 0) [.bool y1]) := by
  unfold w_42_4 at h
  replace h := dCB_spec h
  obtain ⟨x1, vs0, e0, h⟩ := h
  replace h := dCD_spec h
  obtain ⟨x2, vs1, e1, h⟩ := h
  replace h := dCI_spec h
  obtain ⟨x3, vs2, e2, h⟩ := h
  replace h := dCI_spec h
  obtain ⟨x4, vs3, e3, h⟩ := h
  replace h := dCE_spec h
  obtain ⟨e, h⟩ := h
  exact ⟨x1, x2, x3, x4, by rw [e0, e1, e2, e3, e], h⟩
theorem zeok_42_4 (x1 : Bool) (x2 : (List Packet)) (x3 : Int) (x4 : Int) (K : Ex → List (SV env.T) → Prop) : l_42_4 0 x1 x2 x3 x4 (fun y1 => K .ret [.bool y1]) (fun y1 => K (.exit 0) [.bool y1]) = False := by kernel_rfl
theorem ok_42_4 : PieceOk Try.prog env p_42_4 (.loop (loopAt b42 4)) := by
  refine loop_step (Wn := w_42_4) tab (ctxG_ok R41_ok false [] _ _) book_42_4 (pieces_sub pook_42_4_42 (by kernel_rfl)) rfl ?_ 2000 ?_
  · intro vs K h
    obtain ⟨x1, x2, x3, x4, _, h⟩ := wiok_42_4 0 vs K h
    exact Eq.mp (zeok_42_4 x1 x2 x3 x4 K) h
  · intro k vs K h
    obtain ⟨x1, x2, x3, x4, rfl, h⟩ := wiok_42_4 (k + 1) vs K h
    exact Eq.mp (stok_42_4 k x1 x2 x3 x4 K) h
theorem pooq_42_3_42 : PiecesOk Try.prog env (ctxG env false [] R41 [(42, [(4, p_42_4)])] []) 42 b42 :=
  pieces_at (L := [(4, p_42_4)]) (S := []) (fun _ => rfl) (fun _ => rfl) (by kernel_rfl) (by kernel_rfl) (List.forall_mem_cons.2 ⟨fun _ => ok_42_4, (fun _ hq => by cases hq)⟩) (fun _ hq => by cases hq)
theorem booq_42_3 : BodiesOk Try.prog env (ctxG env false [] R41 [(42, [(4, p_42_4)])] []) := bodies_okG (ks := [42]) (by kernel_rfl) (List.forall_mem_cons.2 ⟨body_at (fn := f42) (body := b42) rfl hb42 pooq_42_3_42, (fun _ hq => by cases hq)⟩)
theorem stoq_42_3 (x1 : (List Packet)) (x2 : Bool) (K : Ex → List (SV env.T) → Prop) : s_42_3  x1 x2 (fun y1 => K .ret [.bool y1]) = vcCode env (ctxG env false [] R41 [(42, [(4, p_42_4)])] []) 2000 42 (seqAt b42 3) (insSt q_42_3.head [.dat 30 x1, .bool x2]) (outP env q_42_3 K) := by kernel_rfl
theorem wioq_42_3 (vs : List (SV env.T)) (K : Ex → List (SV env.T) → Prop) (h : v_42_3 vs K) : ∃ x1 : (List Packet), ∃ x2 : Bool, vs = [.dat 30 x1, .bool x2] ∧ s_42_3  x1 x2 (fun y1 => K .ret [.bool y1]) := by
  unfold v_42_3 at h
  replace h := dCD_spec h
  obtain ⟨x1, vs0, e0, h⟩ := h
  replace h := dCB_spec h
  obtain ⟨x2, vs1, e1, h⟩ := h
  replace h := dCE_spec h
  obtain ⟨e, h⟩ := h
  exact ⟨x1, x2, by rw [e0, e1, e], h⟩
theorem oq_42_3 : PieceOk Try.prog env q_42_3 (seqAt b42 3) := by
  refine seq_step tab (ctxG_ok R41_ok false [] _ _) booq_42_3 (pieces_subS pooq_42_3_42 (by kernel_rfl)) 2000 ?_
  intro vs K h
  obtain ⟨x1, x2, rfl, h⟩ := wioq_42_3 vs K h
  exact Eq.mp (stoq_42_3 x1 x2 K) h
theorem po_42_42 : PiecesOk Try.prog env (ctxG env false [] R41 [(42, [(4, p_42_4)])] [(42, [(3, q_42_3)])]) 42 b42 :=
  pieces_at (L := [(4, p_42_4)]) (S := [(3, q_42_3)]) (fun _ => rfl) (fun _ => rfl) (by kernel_rfl) (by kernel_rfl) (List.forall_mem_cons.2 ⟨fun _ => ok_42_4, (fun _ hq => by cases hq)⟩) (List.forall_mem_cons.2 ⟨fun _ => oq_42_3, (fun _ hq => by cases hq)⟩)
theorem bo_42 : BodiesOk Try.prog env (ctxG env false [] R41 [(42, [(4, p_42_4)])] [(42, [(3, q_42_3)])]) := bodies_okG (ks := [42]) (by kernel_rfl) (List.forall_mem_cons.2 ⟨body_at (fn := f42) (body := b42) rfl hb42 po_42_42, (fun _ hq => by cases hq)⟩)
theorem eq_42 (x0 : Receiver) (x1 : Int) (x2 : (List Packet)) (K : Y42 → Prop) : vcCode env (ctxG env false [] R41 [(42, [(4, p_42_4)])] [(42, [(3, q_42_3)])]) 2000 42 b42 (entry env f42 [v67 x0, v3 x1, v33 x2]) (finR env f42 decR42 K) = B42 x0 x1 x2 K := by kernel_rfl
noncomputable def rule42 : Nat × Rule env := (42, ruleF env decA42 encR42 fun x => V42 x.1 x.2.1 x.2.2)
theorem r42 : RuleOk Try.prog env 42 rule42.2 :=
  rule_fun tab (ctxG_ok R41_ok false [] _ _) bo_42 (f := 42) (fn := f42) rfl hb42 po_42_42 2000 encA42 hA42 hR42 hD42 (fun _ => of_decide_eq_true (by kernel_rfl)) (fun x K => (eq_42 x.1 x.2.1 x.2.2 K).trans (by rw [V42_eq]))
noncomputable def R42 : List (Nat × Rule env) := rule42 :: R41
theorem R42_ok : AllOk Try.prog env R42 := ⟨r42, R41_ok⟩
-- 43 queuelab/queuelablaw30.played
noncomputable def f43 : Func := Try.f43
noncomputable def b43 : Code := (Try.f43.body).getD .skip
abbrev X43 := Receiver × Int × (List Packet)
def encA43 (x : X43) : List (SV env.T) := [v67 x.1, v3 x.2.1, v33 x.2.2]
def decA43 (l : List (SV env.T)) : Option X43 := match l with
  | [s0, s1, s2] => match u67 s0, u3 s1, u33 s2 with
    | some x0, some x1, some x2 => some (x0, x1, x2)
    | _, _, _ => none
  | _ => none
theorem hA43 (l : List (SV env.T)) (x : X43) (h : decA43 l = some x) : WkA env.has l (encA43 x) := by
  unfold decA43 at h; split at h
  · split at h
    · rename_i h0 h1 h2; cases h; exact (.cons (u67_wk h0) (.cons (u3_wk h1) (.cons (u33_wk h2) .nil)))
    · cases h
  · cases h
abbrev Y43 := Receiver × Int × (List Int) × Bool
def encR43 (x : Y43) : List (SV env.T) := [v67 x.1, v3 x.2.1, v65 x.2.2.1, v4 x.2.2.2]
def decR43 (l : List (SV env.T)) : Option Y43 := match l with
  | [s0, s1, s2, s3] => match u67 s0, u3 s1, u65 s2, u4 s3 with
    | some x0, some x1, some x2, some x3 => some (x0, x1, x2, x3)
    | _, _, _, _ => none
  | _ => none
theorem hR43 (l : List (SV env.T)) (x : Y43) (h : decR43 l = some x) : WkA env.has l (encR43 x) := by
  unfold decR43 at h; split at h
  · split at h
    · rename_i h0 h1 h2 h3; cases h; exact (.cons (u67_wk h0) (.cons (u3_wk h1) (.cons (u65_wk h2) (.cons (u4_wk h3) .nil))))
    · cases h
  · cases h
theorem hD43 (y : Y43) : isDataV (tupV (encR43 y)) = true := rfl
theorem hb43 : f43.body = some b43 := by kernel_rfl
def l_43_4 : Nat → Int → Int → Bool → Int → (List Packet) → Int → Int → Int → (List Int) → Int → (List Int) → (Int → Bool → Int → (List Int) → Prop) → (Int → Bool → Int → Int → (List Int) → Int → (List Int) → Prop) → Prop
  | 0 => fun _ _ _ _ _ _ _ _ _ _ _ _ _ => False
  | k + 1 => fun x1 x2 x3 x4 x5 x6 x7 x8 x9 x10 x11 kr k0 ↦ br (decide (x7 < x6)) (br (inb x7 (↑x5.length : Int)) (V37 (Receiver.mk x8 x9) x1 (x5.getD x7.toNat (env.d 30)) fun y15 ↦ br (y15.snd.snd.snd == 10) (l_43_4 k x1 x2 x3 x4 x5 x6 (IntKind.i64.wrap (x7 + 1)) x8 x9 x10 x11 kr k0) (br (y15.snd.snd.snd != 0) (kr 0 false x8 x9) (br y15.snd.snd.fst (br (roomB (x11 ++ [(x5.getD x7.toNat (env.d 30)).data]).length (bytesB env 3)) (l_43_4 k x1 x2 x3 (IntKind.i64.wrap (x4 + 1)) x5 x6 (IntKind.i64.wrap (x7 + 1)) y15.fst.next_ y15.fst.have_ x10 (x11 ++ [(x5.getD x7.toNat (env.d 30)).data]) kr k0) False) (br (roomB (x11 ++ [(x5.getD x7.toNat (env.d 30)).data]).length (bytesB env 3)) (l_43_4 k x1 x2 x3 x4 x5 x6 (IntKind.i64.wrap (x7 + 1)) y15.fst.next_ y15.fst.have_ x10 (x11 ++ [(x5.getD x7.toNat (env.d 30)).data]) kr k0) False)))) False) (k0 x2 x3 x4 x8 x9 x10 x11)
def w_43_4 (k : Nat) (vs : List (SV env.T)) (K : Ex → List (SV env.T) → Prop) : Prop :=
  dCI .i64 vs fun x1 vs => dCI .i64 vs fun x2 vs => dCN vs fun vs => dCB vs fun x3 vs => dCI .i64 vs fun x4 vs => dCD 30 vs fun x5 vs => dCI .i64 vs fun x6 vs => dCI .i64 vs fun x7 vs => dCI .i64 vs fun x8 vs => dCD 3 vs fun x9 vs => dCI .i64 vs fun x10 vs => dCN vs fun vs => dCD 3 vs fun x11 vs => dCE vs (l_43_4 k x1 x2 x3 x4 x5 x6 x7 x8 x9 x10 x11 (fun y1 y2 y3 y4 => K .ret [.int .i64 y1, .nils, .bool y2, .int .i64 y3, .dat 3 y4]) (fun y1 y2 y3 y4 y5 y6 y7 => K (.exit 0) [.int .i64 y1, .nils, .bool y2, .int .i64 y3, .int .i64 y4, .dat 3 y5, .int .i64 y6, .nils, .dat 3 y7]))
def p_43_4 : Piece env := ⟨⟨[.any, .hole, .any, .ptr 0 0, .any, .any, .ptr 1 0, .hole, .hole, .hole, .hole, .row 2, .any, .any, .any, .any, .any, .any, .holeD 30, .hole, .hole, .any, .any, .any, .any, .any, .any, .any, .any, .any, .any, .any, .any, .any, .any, .any, .any, .any, .any, .any, .any, .any, .any, .any, .any, .any, .any, .any, .any, .any, .any], [], [(0, .cells 67 [.hole, .holeD 3]), (1, .cells 67 [.hole, .hole]), (2, .row 3)], 3⟩, exitF none [(0, ⟨[.any, .any, .any, .ptr 0 0, .any, .any, .ptr 1 0, .hole, .hole, .hole, .hole, .row 2, .any, .any, .any, .any, .any, .any, .any, .any, .any, .any, .any, .any, .any, .any, .any, .any, .any, .any, .any, .any, .any, .any, .any, .any, .any, .any, .any, .any, .any, .any, .any, .any, .any, .any, .any, .any, .any, .any, .any], [], [(0, .cells 67 [.hole, .holeD 3]), (1, .cells 67 [.hole, .hole]), (2, .row 3)], 3⟩)] (some ⟨[.any, .any, .any, .any, .any, .any, .ptr 0 0, .hole, .hole, .hole, .any, .any, .any, .any, .any, .any, .any, .any, .any, .any, .any, .any, .any, .any, .any, .any, .any, .any, .any, .any, .any, .any, .any, .any, .any, .any, .any, .any, .any, .any, .any, .any, .any, .any, .any, .any, .any, .any, .any, .any, .any], [], [(0, .cells 67 [.hole, .holeD 3])], 1⟩), fun vs K => ∃ k, w_43_4 k vs K⟩
noncomputable def B43 : Receiver → Int → (List Packet) → (Y43 → Prop) → Prop :=
  fun x0 x1 x2 K ↦ ∃ k4, l_43_4 k4 x1 0 false 0 x2 (↑x2.length : Int) 0 x0.next_ x0.have_ 0 [] (fun y5 y6 y7 y8 ↦ K (Receiver.mk y7 y8, y5, [], y6)) fun _ _ y7 y8 y9 _ y11 ↦ K (Receiver.mk y8 y9, y7, y11, true)
theorem V43_ex : ∃ V : Receiver → Int → (List Packet) → (Y43 → Prop) → Prop, V = B43 := ⟨_, rfl⟩
noncomputable def V43 : Receiver → Int → (List Packet) → (Y43 → Prop) → Prop := Classical.choose V43_ex
theorem V43_eq : V43 = B43 := Classical.choose_spec V43_ex
theorem pook_43_4_43 : PiecesOk Try.prog env (ctxG env false [] R42 [] []) 43 b43 :=
  pieces_at (L := []) (S := []) (fun _ => rfl) (fun _ => rfl) (by kernel_rfl) (by kernel_rfl) (fun _ hq => by cases hq) (fun _ hq => by cases hq)
theorem book_43_4 : BodiesOk Try.prog env (ctxG env false [] R42 [] []) := bodies_okG (ks := []) (by kernel_rfl) (fun _ hq => by cases hq)
theorem stok_43_4 (k : Nat) (x1 : Int) (x2 : Int) (x3 : Bool) (x4 : Int) (x5 : (List Packet)) (x6 : Int) (x7 : Int) (x8 : Int) (x9 : (List Int)) (x10 : Int) (x11 : (List Int)) (K : Ex → List (SV env.T) → Prop) : l_43_4 (k + 1) x1 x2 x3 x4 x5 x6 x7 x8 x9 x10 x11 (fun y1 y2 y3 y4 => K .ret [.int .i64 y1, .nils, .bool y2, .int .i64 y3, .dat 3 y4]) (fun y1 y2 y3 y4 y5 y6 y7 => K (.exit 0) [.int .i64 y1, .nils, .bool y2, .int .i64 y3, .int .i64 y4, .dat 3 y5, .int .i64 y6, .nils, .dat 3 y7]) = vcCode env (ctxG env false [] R42 [] []) 2000 43 (loopAt b43 4) (insSt p_43_4.head [.int .i64 x1, .int .i64 x2, .nils, .bool x3, .int .i64 x4, .dat 30 x5, .int .i64 x6, .int .i64 x7, .int .i64 x8, .dat 3 x9, .int .i64 x10, .nils, .dat 3 x11]) (stepK p_43_4 (w_43_4 k) K) := by kernel_rfl
theorem wiok_43_4 (k : Nat) (vs : List (SV env.T)) (K : Ex → List (SV env.T) → Prop) (h : w_43_4 k vs K) : ∃ x1 : Int, ∃ x2 : Int, ∃ x3 : Bool, ∃ x4 : Int, ∃ x5 : (List Packet), ∃ x6 : Int, ∃ x7 : Int, ∃ x8 : Int, ∃ x9 : (List Int), ∃ x10 : Int, ∃ x11 : (List Int), vs = [.int .i64 x1, .int .i64 x2, .nils, .bool x3, .int .i64 x4, .dat 30 x5, .int .i64 x6, .int .i64 x7, .int .i64 x8, .dat 3 x9, .int .i64 x10, .nils, .dat 3 x11] ∧ l_43_4 k x1 x2 x3 x4 x5 x6 x7 x8 x9 x10 x11 (fun y1 y2 y3 y4 => K .ret [.int .i64 y1, .nils, .bool y2, .int .i64 y3, .dat 3 y4]) (fun y1 y2 y3 y4 y5 y6 y7 => K (.exit 0) [.int .i64 y1, .nils, .bool y2, .int .i64 y3, .int .i64 y4, .dat 3 y5, .int .i64 y6, .nils, .dat 3 y7]) := by
  unfold w_43_4 at h
  replace h := dCI_spec h
  obtain ⟨x1, vs0, e0, h⟩ := h
  replace h := dCI_spec h
  obtain ⟨x2, vs1, e1, h⟩ := h
  replace h := dCN_spec h
  obtain ⟨vs2, e2, h⟩ := h
  replace h := dCB_spec h
  obtain ⟨x3, vs3, e3, h⟩ := h
  replace h := dCI_spec h
  obtain ⟨x4, vs4, e4, h⟩ := h
  replace h := dCD_spec h
  obtain ⟨x5, vs5, e5, h⟩ := h
  replace h := dCI_spec h
  obtain ⟨x6, vs6, e6, h⟩ := h
  replace h := dCI_spec h
  obtain ⟨x7, vs7, e7, h⟩ := h
  replace h := dCI_spec h
  obtain ⟨x8, vs8, e8, h⟩ := h
  replace h := dCD_spec h
  obtain ⟨x9, vs9, e9, h⟩ := h
  replace h := dCI_spec h
  obtain ⟨x10, vs10, e10, h⟩ := h
  replace h := dCN_spec h
  obtain ⟨vs11, e11, h⟩ := h
  replace h := dCD_spec h
  obtain ⟨x11, vs12, e12, h⟩ := h
  replace h := dCE_spec h
  obtain ⟨e, h⟩ := h
  exact ⟨x1, x2, x3, x4, x5, x6, x7, x8, x9, x10, x11, by rw [e0, e1, e2, e3, e4, e5, e6, e7, e8, e9, e10, e11, e12, e], h⟩
theorem zeok_43_4 (x1 : Int) (x2 : Int) (x3 : Bool) (x4 : Int) (x5 : (List Packet)) (x6 : Int) (x7 : Int) (x8 : Int) (x9 : (List Int)) (x10 : Int) (x11 : (List Int)) (K : Ex → List (SV env.T) → Prop) : l_43_4 0 x1 x2 x3 x4 x5 x6 x7 x8 x9 x10 x11 (fun y1 y2 y3 y4 => K .ret [.int .i64 y1, .nils, .bool y2, .int .i64 y3, .dat 3 y4]) (fun y1 y2 y3 y4 y5 y6 y7 => K (.exit 0) [.int .i64 y1, .nils, .bool y2, .int .i64 y3, .int .i64 y4, .dat 3 y5, .int .i64 y6, .nils, .dat 3 y7]) = False := by kernel_rfl
theorem ok_43_4 : PieceOk Try.prog env p_43_4 (.loop (loopAt b43 4)) := by
  refine loop_step (Wn := w_43_4) tab (ctxG_ok R42_ok false [] _ _) book_43_4 (pieces_sub pook_43_4_43 (by kernel_rfl)) rfl ?_ 2000 ?_
  · intro vs K h
    obtain ⟨x1, x2, x3, x4, x5, x6, x7, x8, x9, x10, x11, _, h⟩ := wiok_43_4 0 vs K h
    exact Eq.mp (zeok_43_4 x1 x2 x3 x4 x5 x6 x7 x8 x9 x10 x11 K) h
  · intro k vs K h
    obtain ⟨x1, x2, x3, x4, x5, x6, x7, x8, x9, x10, x11, rfl, h⟩ := wiok_43_4 (k + 1) vs K h
    exact Eq.mp (stok_43_4 k x1 x2 x3 x4 x5 x6 x7 x8 x9 x10 x11 K) h
theorem po_43_43 : PiecesOk Try.prog env (ctxG env false [] R42 [(43, [(4, p_43_4)])] []) 43 b43 :=
  pieces_at (L := [(4, p_43_4)]) (S := []) (fun _ => rfl) (fun _ => rfl) (by kernel_rfl) (by kernel_rfl) (List.forall_mem_cons.2 ⟨fun _ => ok_43_4, (fun _ hq => by cases hq)⟩) (fun _ hq => by cases hq)
theorem bo_43 : BodiesOk Try.prog env (ctxG env false [] R42 [(43, [(4, p_43_4)])] []) := bodies_okG (ks := [43]) (by kernel_rfl) (List.forall_mem_cons.2 ⟨body_at (fn := f43) (body := b43) rfl hb43 po_43_43, (fun _ hq => by cases hq)⟩)
theorem eq_43 (x0 : Receiver) (x1 : Int) (x2 : (List Packet)) (K : Y43 → Prop) : vcCode env (ctxG env false [] R42 [(43, [(4, p_43_4)])] []) 2000 43 b43 (entry env f43 [v67 x0, v3 x1, v33 x2]) (finR env f43 decR43 K) = B43 x0 x1 x2 K := by kernel_rfl
noncomputable def rule43 : Nat × Rule env := (43, ruleF env decA43 encR43 fun x => V43 x.1 x.2.1 x.2.2)
theorem r43 : RuleOk Try.prog env 43 rule43.2 :=
  rule_fun tab (ctxG_ok R42_ok false [] _ _) bo_43 (f := 43) (fn := f43) rfl hb43 po_43_43 2000 encA43 hA43 hR43 hD43 (fun _ => of_decide_eq_true (by kernel_rfl)) (fun x K => (eq_43 x.1 x.2.1 x.2.2 K).trans (by rw [V43_eq]))
noncomputable def R43 : List (Nat × Rule env) := rule43 :: R42
theorem R43_ok : AllOk Try.prog env R43 := ⟨r43, R42_ok⟩
-- 60 queuelab/queuelablaw30.data
noncomputable def f60 : Func := Try.f60
noncomputable def b60 : Code := (Try.f60.body).getD .skip
abbrev X60 := Int
def encA60 (x : X60) : List (SV env.T) := [v3 x]
def decA60 (l : List (SV env.T)) : Option X60 := match l with
  | [s0] => match u3 s0 with
    | some x0 => some (x0)
    | _ => none
  | _ => none
theorem hA60 (l : List (SV env.T)) (x : X60) (h : decA60 l = some x) : WkA env.has l (encA60 x) := by
  unfold decA60 at h; split at h
  · split at h
    · rename_i h0; cases h; exact (.cons (u3_wk h0) .nil)
    · cases h
  · cases h
abbrev Y60 := Packet
def encR60 (x : Y60) : List (SV env.T) := [v30 x]
def decR60 (l : List (SV env.T)) : Option Y60 := match l with
  | [s0] => match u30 s0 with
    | some x0 => some (x0)
    | _ => none
  | _ => none
theorem hR60 (l : List (SV env.T)) (x : Y60) (h : decR60 l = some x) : WkA env.has l (encR60 x) := by
  unfold decR60 at h; split at h
  · split at h
    · rename_i h0; cases h; exact (.cons (u30_wk h0) .nil)
    · cases h
  · cases h
theorem hD60 (y : Y60) : isDataV (tupV (encR60 y)) = true := rfl
theorem hb60 : f60.body = some b60 := by kernel_rfl
noncomputable def B60 : Int → (Y60 → Prop) → Prop :=
  fun x0 K ↦ K (Packet.mk 0 0 (IntKind.i64.wrap (x0 + 100)) x0 1 3 false (x0.tmod 2 == 1))
theorem V60_ex : ∃ V : Int → (Y60 → Prop) → Prop, V = B60 := ⟨_, rfl⟩
noncomputable def V60 : Int → (Y60 → Prop) → Prop := Classical.choose V60_ex
theorem V60_eq : V60 = B60 := Classical.choose_spec V60_ex
theorem po_60_60 : PiecesOk Try.prog env (ctxG env false [] R43 [] []) 60 b60 :=
  pieces_at (L := []) (S := []) (fun _ => rfl) (fun _ => rfl) (by kernel_rfl) (by kernel_rfl) (fun _ hq => by cases hq) (fun _ hq => by cases hq)
theorem bo_60 : BodiesOk Try.prog env (ctxG env false [] R43 [] []) := bodies_okG (ks := []) (by kernel_rfl) (fun _ hq => by cases hq)
theorem eq_60 (x0 : Int) (K : Y60 → Prop) : vcCode env (ctxG env false [] R43 [] []) 2000 60 b60 (entry env f60 [v3 x0]) (finR env f60 decR60 K) = B60 x0 K := by kernel_rfl
noncomputable def rule60 : Nat × Rule env := (60, ruleF env decA60 encR60 fun x => V60 x)
theorem r60 : RuleOk Try.prog env 60 rule60.2 :=
  rule_fun tab (ctxG_ok R43_ok false [] _ _) bo_60 (f := 60) (fn := f60) rfl hb60 po_60_60 2000 encA60 hA60 hR60 hD60 (fun _ => of_decide_eq_true (by kernel_rfl)) (fun x K => (eq_60 x K).trans (by rw [V60_eq]))
noncomputable def R60 : List (Nat × Rule env) := rule60 :: R43
theorem R60_ok : AllOk Try.prog env R60 := ⟨r60, R43_ok⟩
-- 35 queuelab/queuelablaw30.head
noncomputable def f35 : Func := Try.f35
noncomputable def b35 : Code := (Try.f35.body).getD .skip
abbrev X35 := Unit
def encA35 (_x : X35) : List (SV env.T) := []
def decA35 (l : List (SV env.T)) : Option X35 := match l with
  | [] => some ()
  | _ => none
theorem hA35 (l : List (SV env.T)) (x : X35) (h : decA35 l = some x) : WkA env.has l (encA35 x) := by
  unfold decA35 at h; split at h
  · exact .nil
  · cases h
abbrev Y35 := Bool
def encR35 (x : Y35) : List (SV env.T) := [v4 x]
def decR35 (l : List (SV env.T)) : Option Y35 := match l with
  | [s0] => match u4 s0 with
    | some x0 => some (x0)
    | _ => none
  | _ => none
theorem hR35 (l : List (SV env.T)) (x : Y35) (h : decR35 l = some x) : WkA env.has l (encR35 x) := by
  unfold decR35 at h; split at h
  · split at h
    · rename_i h0; cases h; exact (.cons (u4_wk h0) .nil)
    · cases h
  · cases h
theorem hD35 (y : Y35) : isDataV (tupV (encR35 y)) = true := rfl
theorem hb35 : f35.body = some b35 := by kernel_rfl
noncomputable def B35 : (Y35 → Prop) → Prop :=
  fun K ↦ ∃ k1, (V60 9 fun y2 ↦ tupV (encR60 y2) = tupV (encR60 k1)) ∧ ∃ k2, (V37 (Receiver.mk 7 []) 4 k1 fun y3 ↦ tupV (encR37 y3) = tupV (encR37 k2)) ∧ ∃ k3, (V60 7 fun y4 ↦ tupV (encR60 y4) = tupV (encR60 k3)) ∧ ∃ k4, (V37 k2.fst 4 k3 fun y5 ↦ tupV (encR37 y5) = tupV (encR37 k4)) ∧ ∃ k5, (V60 8 fun y6 ↦ tupV (encR60 y6) = tupV (encR60 k5)) ∧ ∃ k6, (V37 k4.fst 4 k5 fun y7 ↦ tupV (encR37 y7) = tupV (encR37 k6)) ∧ ∃ k7, (V60 9 fun y8 ↦ tupV (encR60 y8) = tupV (encR60 k7)) ∧ ∃ k8, (V37 k6.fst 4 k7 fun y9 ↦ tupV (encR37 y9) = tupV (encR37 k8)) ∧ ∃ k9, (V60 14 fun y10 ↦ tupV (encR60 y10) = tupV (encR60 k9)) ∧ ∃ k10, (V37 k8.fst 4 k9 fun y11 ↦ tupV (encR37 y11) = tupV (encR37 k10)) ∧ ∃ k11, (V60 9 fun y12 ↦ tupV (encR60 y12) = tupV (encR60 k11)) ∧ ∃ k12, (V37 (Receiver.mk 7 []) 0 k11 fun y13 ↦ tupV (encR37 y13) = tupV (encR37 k12)) ∧ br (k2.snd.snd.snd == 0) (br (k4.snd.snd.snd == 0) (br (k6.snd.snd.snd == 0) (br (k8.snd.snd.snd == 0) (br (k10.snd.snd.snd == 10) (br (k12.snd.snd.snd == 1) (br k2.snd.snd.fst (br k4.snd.snd.fst (br k6.snd.snd.fst (br (!k8.snd.snd.fst) (V41 k2.fst (Receiver.mk 7 [9]) fun y13 ↦ br y13 (V41 k4.fst (Receiver.mk 8 [9]) fun y14 ↦ br y14 (V41 k6.fst (Receiver.mk 10 []) fun y15 ↦ br y15 (V41 k8.fst k6.fst fun y16 ↦ br y16 (br (andb (k2.snd.fst.sub == 0) (andb (k2.snd.fst.number == 109) (andb (k2.snd.fst.next_ == 7) (andb (k2.snd.fst.sent == 3) (k2.snd.fst.marked == true))))) (br (k4.snd.fst.next_ == 8) (br (k6.snd.fst.next_ == 10) (br (k8.snd.fst.next_ == 10) (V39 k2.fst 4 fun y17 ↦ br y17 (V39 k2.fst 2 fun y18 ↦ K !y18) (K false)) (K false)) (K false)) (K false)) (K false)) (K false)) (K false)) (K false)) (K false)) (K false)) (K false)) (K false)) (K false)) (K false)) (K false)) (K false)) (K false)) (K false)) (K false)
theorem V35_ex : ∃ V : (Y35 → Prop) → Prop, V = B35 := ⟨_, rfl⟩
noncomputable def V35 : (Y35 → Prop) → Prop := Classical.choose V35_ex
theorem V35_eq : V35 = B35 := Classical.choose_spec V35_ex
theorem po_35_35 : PiecesOk Try.prog env (ctxG env false [] R60 [] []) 35 b35 :=
  pieces_at (L := []) (S := []) (fun _ => rfl) (fun _ => rfl) (by kernel_rfl) (by kernel_rfl) (fun _ hq => by cases hq) (fun _ hq => by cases hq)
theorem bo_35 : BodiesOk Try.prog env (ctxG env false [] R60 [] []) := bodies_okG (ks := []) (by kernel_rfl) (fun _ hq => by cases hq)
theorem eq_35 (K : Y35 → Prop) : vcCode env (ctxG env false [] R60 [] []) 2000 35 b35 (entry env f35 []) (finR env f35 decR35 K) = B35  K := by kernel_rfl
noncomputable def rule35 : Nat × Rule env := (35, ruleF env decA35 encR35 fun _ => V35 )
theorem r35 : RuleOk Try.prog env 35 rule35.2 :=
  rule_fun tab (ctxG_ok R60_ok false [] _ _) bo_35 (f := 35) (fn := f35) rfl hb35 po_35_35 2000 encA35 hA35 hR35 hD35 (fun _ => of_decide_eq_true (by kernel_rfl)) (fun _ K => (eq_35  K).trans (by rw [V35_eq]))
noncomputable def R35 : List (Nat × Rule env) := rule35 :: R60
theorem R35_ok : AllOk Try.prog env R35 := ⟨r35, R60_ok⟩
end Go.Vg.Ytgekegoflaichaa
