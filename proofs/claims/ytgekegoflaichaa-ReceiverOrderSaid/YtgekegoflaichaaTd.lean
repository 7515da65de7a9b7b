/-
  Walked functions of the program: predicate transformers and their rules. Written by a program of this work (gen.py, VgGen.lean) out of the executor's own reduction; no condition.
-/
import Derived.Test.YtgekegoflaichaaTc
set_option maxRecDepth 100000
set_option maxHeartbeats 4000000
namespace Go.Vg.Ytgekegoflaichaa
open Go.Vg Go.Proofs
-- 9 queuelab/queuelablaw30.ReceiverMatchesReference
noncomputable def f9 : Func := Try.f9
noncomputable def b9 : Code := (Try.f9.body).getD .skip
abbrev X9 := Receiver × Int × Packet
def encA9 (x : X9) : List (SV env.T) := [v67 x.1, v3 x.2.1, v30 x.2.2]
def decA9 (l : List (SV env.T)) : Option X9 := match l with
  | [s0, s1, s2] => match u67 s0, u3 s1, u30 s2 with
    | some x0, some x1, some x2 => some (x0, x1, x2)
    | _, _, _ => none
  | _ => none
theorem hA9 (l : List (SV env.T)) (x : X9) (h : decA9 l = some x) : WkA env.has l (encA9 x) := by
  unfold decA9 at h; split at h
  · split at h
    · rename_i h0 h1 h2; cases h; exact (.cons (u67_wk h0) (.cons (u3_wk h1) (.cons (u30_wk h2) .nil)))
    · cases h
  · cases h
abbrev Y9 := Bool
def encR9 (x : Y9) : List (SV env.T) := [v4 x]
def decR9 (l : List (SV env.T)) : Option Y9 := match l with
  | [s0] => match u4 s0 with
    | some x0 => some (x0)
    | _ => none
  | _ => none
theorem hR9 (l : List (SV env.T)) (x : Y9) (h : decR9 l = some x) : WkA env.has l (encR9 x) := by
  unfold decR9 at h; split at h
  · split at h
    · rename_i h0; cases h; exact (.cons (u4_wk h0) .nil)
    · cases h
  · cases h
theorem hD9 (y : Y9) : isDataV (tupV (encR9 y)) = true := rfl
theorem hb9 : f9.body = some b9 := by kernel_rfl
noncomputable def B9 : Receiver → Int → Packet → (Y9 → Prop) → Prop :=
  fun x0 x1 x2 K ↦ V35 fun y4 ↦ V36 x0 fun y5 ↦ br (!y5) (K y4) (V37 x0 x1 x2 fun y6 ↦ V38 x0 x1 x2 fun y7 ↦ br y4 (∃ k8, (V39 x0 x1 fun y9 ↦ tupV (encR39 y9) = tupV (encR39 k8)) ∧ ∃ k9, (V40 x0 x1 fun y10 ↦ tupV (encR40 y10) = tupV (encR40 k9)) ∧ br (k8 == k9) (∃ k10, (V41 y6.fst y7.fst fun y11 ↦ tupV (encR41 y11) = tupV (encR41 k10)) ∧ br k10 (br (andb (y6.snd.fst.sub == y7.snd.fst.sub) (andb (y6.snd.fst.number == y7.snd.fst.number) (andb (y6.snd.fst.next_ == y7.snd.fst.next_) (andb (y6.snd.fst.sent == y7.snd.fst.sent) (y6.snd.fst.marked == y7.snd.fst.marked))))) (br (y6.snd.snd.fst == y7.snd.snd.fst) (K (y6.snd.snd.snd == y7.snd.snd.snd)) (K false)) (K false)) (K false)) (K false)) (K false))
theorem V9_ex : ∃ V : Receiver → Int → Packet → (Y9 → Prop) → Prop, V = B9 := ⟨_, rfl⟩
noncomputable def V9 : Receiver → Int → Packet → (Y9 → Prop) → Prop := Classical.choose V9_ex
theorem V9_eq : V9 = B9 := Classical.choose_spec V9_ex
theorem po_9_9 : PiecesOk Try.prog env (ctxG env false [] R35 [] []) 9 b9 :=
  pieces_at (L := []) (S := []) (fun _ => rfl) (fun _ => rfl) (by kernel_rfl) (by kernel_rfl) (fun _ hq => by cases hq) (fun _ hq => by cases hq)
theorem bo_9 : BodiesOk Try.prog env (ctxG env false [] R35 [] []) := bodies_okG (ks := []) (by kernel_rfl) (fun _ hq => by cases hq)
theorem eq_9 (x0 : Receiver) (x1 : Int) (x2 : Packet) (K : Y9 → Prop) : vcCode env (ctxG env false [] R35 [] []) 2000 9 b9 (entry env f9 [v67 x0, v3 x1, v30 x2]) (finR env f9 decR9 K) = B9 x0 x1 x2 K := by kernel_rfl
noncomputable def rule9 : Nat × Rule env := (9, ruleF env decA9 encR9 fun x => V9 x.1 x.2.1 x.2.2)
theorem r9 : RuleOk Try.prog env 9 rule9.2 :=
  rule_fun tab (ctxG_ok R35_ok false [] _ _) bo_9 (f := 9) (fn := f9) rfl hb9 po_9_9 2000 encA9 hA9 hR9 hD9 (fun _ => of_decide_eq_true (by kernel_rfl)) (fun x K => (eq_9 x.1 x.2.1 x.2.2 K).trans (by rw [V9_eq]))
noncomputable def R9 : List (Nat × Rule env) := rule9 :: R35
theorem R9_ok : AllOk Try.prog env R9 := ⟨r9, R35_ok⟩
-- 10 queuelab/queuelablaw30.ReceiverHas
noncomputable def f10 : Func := Try.f10
noncomputable def b10 : Code := (Try.f10.body).getD .skip
abbrev X10 := Receiver × Int × (List Packet) × Int
def encA10 (x : X10) : List (SV env.T) := [v67 x.1, v3 x.2.1, v33 x.2.2.1, v3 x.2.2.2]
def decA10 (l : List (SV env.T)) : Option X10 := match l with
  | [s0, s1, s2, s3] => match u67 s0, u3 s1, u33 s2, u3 s3 with
    | some x0, some x1, some x2, some x3 => some (x0, x1, x2, x3)
    | _, _, _, _ => none
  | _ => none
theorem hA10 (l : List (SV env.T)) (x : X10) (h : decA10 l = some x) : WkA env.has l (encA10 x) := by
  unfold decA10 at h; split at h
  · split at h
    · rename_i h0 h1 h2 h3; cases h; exact (.cons (u67_wk h0) (.cons (u3_wk h1) (.cons (u33_wk h2) (.cons (u3_wk h3) .nil))))
    · cases h
  · cases h
abbrev Y10 := Bool
def encR10 (x : Y10) : List (SV env.T) := [v4 x]
def decR10 (l : List (SV env.T)) : Option Y10 := match l with
  | [s0] => match u4 s0 with
    | some x0 => some (x0)
    | _ => none
  | _ => none
theorem hR10 (l : List (SV env.T)) (x : Y10) (h : decR10 l = some x) : WkA env.has l (encR10 x) := by
  unfold decR10 at h; split at h
  · split at h
    · rename_i h0; cases h; exact (.cons (u4_wk h0) .nil)
    · cases h
  · cases h
theorem hD10 (y : Y10) : isDataV (tupV (encR10 y)) = true := rfl
theorem hb10 : f10.body = some b10 := by kernel_rfl
def s_10_12 : Int → Bool → Bool → Int → Bool → Int → (List Int) → Int → Int → Int → (List Int) → Int → (List Int) → (Bool → Prop) → (Int → Bool → Bool → Int → Bool → (List Int) → Int → Int → Int → (List Int) → Int → (List Int) → Prop) → Prop :=
  fun x1 x2 x3 x4 x5 x6 x7 x8 x9 x10 x11 x12 x13 kr kn ↦ V44 (Receiver.mk x12 x13) x6 fun y17 ↦ br (!y17) (kr false) (kn x1 x2 x3 x4 x5 x7 x8 x9 x10 x11 x12 x13)
def v_10_12 (vs : List (SV env.T)) (K : Ex → List (SV env.T) → Prop) : Prop :=
  dCI .i64 vs fun x1 vs => dCB vs fun x2 vs => dCB vs fun x3 vs => dCI .i64 vs fun x4 vs => dCB vs fun x5 vs => dCI .i64 vs fun x6 vs => dCD 3 vs fun x7 vs => dCI .i64 vs fun x8 vs => dCI .i64 vs fun x9 vs => dCI .i64 vs fun x10 vs => dCD 3 vs fun x11 vs => dCI .i64 vs fun x12 vs => dCD 3 vs fun x13 vs => dCE vs (s_10_12 x1 x2 x3 x4 x5 x6 x7 x8 x9 x10 x11 x12 x13 (fun y1 => K .ret [.bool y1]) (fun y1 y2 y3 y4 y5 y6 y7 y8 y9 y10 y11 y12 => K .normal [.int .i64 y1, .bool y2, .bool y3, .int .i64 y4, .bool y5, .dat 3 y6, .int .i64 y7, .int .i64 y8, .int .i64 y9, .dat 3 y10, .int .i64 y11, .dat 3 y12]))
def q_10_12 : Piece env := ⟨⟨[.any, .any, .any, .hole, .ptr 0 0, .any, .any, .any, .hole, .hole, .ptr 1 0, .hole, .any, .any, .hole, .any, .hole, .any, .any, .any, .any, .any, .any, .any, .any, .any, .any, .any, .any, .any, .any, .any, .any, .any, .any, .any, .any, .any, .any, .any, .any, .any, .any, .any, .holeD 3, .hole, .hole, .any, .any, .any, .any, .any, .any, .any, .any, .any, .any, .any, .any, .any, .any, .any, .any, .any, .any, .any, .any, .any, .any, .any, .any, .any, .any, .any, .any, .any, .any, .any, .any, .any, .any, .any, .any, .any, .any, .any], [], [(0, .cells 67 [.hole, .holeD 3]), (1, .cells 67 [.hole, .holeD 3])], 2⟩, exitF (some ⟨[.any, .any, .any, .hole, .ptr 0 0, .any, .any, .any, .hole, .hole, .ptr 1 0, .hole, .any, .any, .hole, .any, .any, .any, .any, .any, .any, .any, .any, .any, .any, .any, .any, .any, .any, .any, .any, .any, .any, .any, .any, .any, .any, .any, .any, .any, .any, .any, .any, .any, .holeD 3, .hole, .hole, .any, .any, .any, .any, .any, .any, .any, .any, .any, .any, .any, .any, .any, .any, .any, .any, .any, .any, .any, .any, .any, .any, .any, .any, .any, .any, .any, .any, .any, .any, .any, .any, .any, .any, .any, .any, .any, .any, .any], [], [(0, .cells 67 [.hole, .holeD 3]), (1, .cells 67 [.hole, .holeD 3])], 2⟩) [] (some ⟨[.any, .any, .any, .any, .any, .any, .any, .any, .hole, .any, .any, .any, .any, .any, .any, .any, .any, .any, .any, .any, .any, .any, .any, .any, .any, .any, .any, .any, .any, .any, .any, .any, .any, .any, .any, .any, .any, .any, .any, .any, .any, .any, .any, .any, .any, .any, .any, .any, .any, .any, .any, .any, .any, .any, .any, .any, .any, .any, .any, .any, .any, .any, .any, .any, .any, .any, .any, .any, .any, .any, .any, .any, .any, .any, .any, .any, .any, .any, .any, .any, .any, .any, .any, .any, .any, .any], [], [], 0⟩), v_10_12⟩
def l_10_9 : Nat → Int → Bool → Bool → Int → Bool → (List Int) → Int → Int → Int → (List Int) → Int → (List Int) → (Bool → Prop) → (Int → Bool → Bool → Int → Bool → Int → (List Int) → Int → (List Int) → Prop) → Prop
  | 0 => fun _ _ _ _ _ _ _ _ _ _ _ _ _ _ => False
  | k + 1 => fun x1 x2 x3 x4 x5 x6 x7 x8 x9 x10 x11 x12 kr k0 ↦ br (decide (x8 < x7)) (br (inb x8 (↑x6.length : Int)) (br x5 (s_10_12 x1 x2 x3 x4 true (x6.getD x8.toNat (env.d 3)) x6 x7 x8 x9 x10 x11 x12 kr fun y16 y17 y18 y19 y20 y21 y22 y23 y24 y25 y26 y27 ↦ l_10_9 k y16 y17 y18 y19 y20 y21 y22 (IntKind.i64.wrap (y23 + 1)) y24 y25 y26 y27 kr k0) (s_10_12 x1 x2 x3 x4 (x6.getD x8.toNat (env.d 3) == x1) (x6.getD x8.toNat (env.d 3)) x6 x7 x8 x9 x10 x11 x12 kr fun y16 y17 y18 y19 y20 y21 y22 y23 y24 y25 y26 y27 ↦ l_10_9 k y16 y17 y18 y19 y20 y21 y22 (IntKind.i64.wrap (y23 + 1)) y24 y25 y26 y27 kr k0)) False) (k0 x1 x2 x3 x4 x5 x9 x10 x11 x12)
def w_10_9 (k : Nat) (vs : List (SV env.T)) (K : Ex → List (SV env.T) → Prop) : Prop :=
  dCI .i64 vs fun x1 vs => dCB vs fun x2 vs => dCB vs fun x3 vs => dCI .i64 vs fun x4 vs => dCB vs fun x5 vs => dCD 3 vs fun x6 vs => dCI .i64 vs fun x7 vs => dCI .i64 vs fun x8 vs => dCI .i64 vs fun x9 vs => dCD 3 vs fun x10 vs => dCI .i64 vs fun x11 vs => dCD 3 vs fun x12 vs => dCE vs (l_10_9 k x1 x2 x3 x4 x5 x6 x7 x8 x9 x10 x11 x12 (fun y1 => K .ret [.bool y1]) (fun y1 y2 y3 y4 y5 y6 y7 y8 y9 => K (.exit 0) [.int .i64 y1, .bool y2, .bool y3, .int .i64 y4, .bool y5, .int .i64 y6, .dat 3 y7, .int .i64 y8, .dat 3 y9]))
def p_10_9 : Piece env := ⟨⟨[.any, .any, .any, .hole, .ptr 0 0, .any, .any, .any, .hole, .hole, .ptr 1 0, .hole, .any, .any, .hole, .any, .any, .any, .any, .any, .any, .any, .any, .any, .any, .any, .any, .any, .any, .any, .any, .any, .any, .any, .any, .any, .any, .any, .any, .any, .any, .any, .any, .any, .holeD 3, .hole, .hole, .any, .any, .any, .any, .any, .any, .any, .any, .any, .any, .any, .any, .any, .any, .any, .any, .any, .any, .any, .any, .any, .any, .any, .any, .any, .any, .any, .any, .any, .any, .any, .any, .any, .any, .any, .any, .any, .any, .any], [], [(0, .cells 67 [.hole, .holeD 3]), (1, .cells 67 [.hole, .holeD 3])], 2⟩, exitF none [(0, ⟨[.any, .any, .any, .hole, .ptr 0 0, .any, .any, .any, .hole, .hole, .ptr 1 0, .hole, .any, .any, .hole, .any, .any, .any, .any, .any, .any, .any, .any, .any, .any, .any, .any, .any, .any, .any, .any, .any, .any, .any, .any, .any, .any, .any, .any, .any, .any, .any, .any, .any, .any, .any, .any, .any, .any, .any, .any, .any, .any, .any, .any, .any, .any, .any, .any, .any, .any, .any, .any, .any, .any, .any, .any, .any, .any, .any, .any, .any, .any, .any, .any, .any, .any, .any, .any, .any, .any, .any, .any, .any, .any, .any], [], [(0, .cells 67 [.hole, .holeD 3]), (1, .cells 67 [.hole, .holeD 3])], 2⟩)] (some ⟨[.any, .any, .any, .any, .any, .any, .any, .any, .hole, .any, .any, .any, .any, .any, .any, .any, .any, .any, .any, .any, .any, .any, .any, .any, .any, .any, .any, .any, .any, .any, .any, .any, .any, .any, .any, .any, .any, .any, .any, .any, .any, .any, .any, .any, .any, .any, .any, .any, .any, .any, .any, .any, .any, .any, .any, .any, .any, .any, .any, .any, .any, .any, .any, .any, .any, .any, .any, .any, .any, .any, .any, .any, .any, .any, .any, .any, .any, .any, .any, .any, .any, .any, .any, .any, .any, .any], [], [], 0⟩), fun vs K => ∃ k, w_10_9 k vs K⟩
def s_10_7 : Int → Bool → Bool → Int → (List Int) → Int → (List Int) → Int → (List Int) → (Bool → Prop) → Prop :=
  fun x1 x2 x3 x4 x5 x6 x7 x8 x9 kr ↦ V44 (Receiver.mk x6 x7) x1 fun y12 ↦ ∃ k13, l_10_9 k13 x1 x2 x3 x4 y12 x5 (↑x5.length : Int) 0 x6 x7 x8 x9 kr fun y14 _ y16 y17 y18 y19 y20 y21 y22 ↦ br y16 (V44 (Receiver.mk y21 y22) y14 fun y23 ↦ br (y23 == y18) (kr (IntKind.i64.wrap (y21 + (↑y22.length : Int)) == IntKind.i64.wrap (IntKind.i64.wrap (y19 + (↑y20.length : Int)) + y17))) (kr false)) (kr false)
def v_10_7 (vs : List (SV env.T)) (K : Ex → List (SV env.T) → Prop) : Prop :=
  dCI .i64 vs fun x1 vs => dCB vs fun x2 vs => dCB vs fun x3 vs => dCI .i64 vs fun x4 vs => dCD 3 vs fun x5 vs => dCI .i64 vs fun x6 vs => dCD 3 vs fun x7 vs => dCI .i64 vs fun x8 vs => dCD 3 vs fun x9 vs => dCE vs (s_10_7 x1 x2 x3 x4 x5 x6 x7 x8 x9 (fun y1 => K .ret [.bool y1]))
def q_10_7 : Piece env := ⟨⟨[.any, .any, .any, .hole, .ptr 0 0, .any, .any, .any, .hole, .hole, .ptr 1 0, .hole, .holeD 3, .any, .any, .any, .any, .any, .any, .any, .any, .any, .any, .any, .any, .any, .any, .any, .any, .any, .any, .any, .any, .any, .any, .any, .any, .any, .any, .any, .any, .any, .any, .any, .any, .any, .any, .any, .any, .any, .any, .any, .any, .any, .any, .any, .any, .any, .any, .any, .any, .any, .any, .any, .any, .any, .any, .any, .any, .any, .any, .any, .any, .any, .any, .any, .any, .any, .any, .any, .any, .any, .any, .any, .any, .any], [], [(0, .cells 67 [.hole, .holeD 3]), (1, .cells 67 [.hole, .holeD 3])], 2⟩, exitF none [] (some ⟨[.any, .any, .any, .any, .any, .any, .any, .any, .hole, .any, .any, .any, .any, .any, .any, .any, .any, .any, .any, .any, .any, .any, .any, .any, .any, .any, .any, .any, .any, .any, .any, .any, .any, .any, .any, .any, .any, .any, .any, .any, .any, .any, .any, .any, .any, .any, .any, .any, .any, .any, .any, .any, .any, .any, .any, .any, .any, .any, .any, .any, .any, .any, .any, .any, .any, .any, .any, .any, .any, .any, .any, .any, .any, .any, .any, .any, .any, .any, .any, .any, .any, .any, .any, .any, .any, .any], [], [], 0⟩), v_10_7⟩
noncomputable def B10 : Receiver → Int → (List Packet) → Int → (Y10 → Prop) → Prop :=
  fun x0 x1 x2 x3 K ↦ V35 fun y5 ↦ V42 x0 x1 x2 fun y6 ↦ br (!y6) (K y5) (V43 x0 x1 x2 fun y7 ↦ br (!y7.snd.snd.snd) (K false) (V40 y7.fst x1 fun y8 ↦ br (!y8) (K false) (s_10_7 x3 false y5 y7.snd.fst y7.snd.snd.fst x0.next_ x0.have_ y7.fst.next_ y7.fst.have_ K)))
theorem V10_ex : ∃ V : Receiver → Int → (List Packet) → Int → (Y10 → Prop) → Prop, V = B10 := ⟨_, rfl⟩
noncomputable def V10 : Receiver → Int → (List Packet) → Int → (Y10 → Prop) → Prop := Classical.choose V10_ex
theorem V10_eq : V10 = B10 := Classical.choose_spec V10_ex
theorem pooq_10_12_10 : PiecesOk Try.prog env (ctxG env false [] R9 [] []) 10 b10 :=
  pieces_at (L := []) (S := []) (fun _ => rfl) (fun _ => rfl) (by kernel_rfl) (by kernel_rfl) (fun _ hq => by cases hq) (fun _ hq => by cases hq)
theorem booq_10_12 : BodiesOk Try.prog env (ctxG env false [] R9 [] []) := bodies_okG (ks := []) (by kernel_rfl) (fun _ hq => by cases hq)
theorem stoq_10_12 (x1 : Int) (x2 : Bool) (x3 : Bool) (x4 : Int) (x5 : Bool) (x6 : Int) (x7 : (List Int)) (x8 : Int) (x9 : Int) (x10 : Int) (x11 : (List Int)) (x12 : Int) (x13 : (List Int)) (K : Ex → List (SV env.T) → Prop) : s_10_12  x1 x2 x3 x4 x5 x6 x7 x8 x9 x10 x11 x12 x13 (fun y1 => K .ret [.bool y1]) (fun y1 y2 y3 y4 y5 y6 y7 y8 y9 y10 y11 y12 => K .normal [.int .i64 y1, .bool y2, .bool y3, .int .i64 y4, .bool y5, .dat 3 y6, .int .i64 y7, .int .i64 y8, .int .i64 y9, .dat 3 y10, .int .i64 y11, .dat 3 y12]) = vcCode env (ctxG env false [] R9 [] []) 2000 10 (seqAt b10 12) (insSt q_10_12.head [.int .i64 x1, .bool x2, .bool x3, .int .i64 x4, .bool x5, .int .i64 x6, .dat 3 x7, .int .i64 x8, .int .i64 x9, .int .i64 x10, .dat 3 x11, .int .i64 x12, .dat 3 x13]) (outP env q_10_12 K) := by kernel_rfl
theorem wioq_10_12 (vs : List (SV env.T)) (K : Ex → List (SV env.T) → Prop) (h : v_10_12 vs K) : ∃ x1 : Int, ∃ x2 : Bool, ∃ x3 : Bool, ∃ x4 : Int, ∃ x5 : Bool, ∃ x6 : Int, ∃ x7 : (List Int), ∃ x8 : Int, ∃ x9 : Int, ∃ x10 : Int, ∃ x11 : (List Int), ∃ x12 : Int, ∃ x13 : (List Int), vs = [.int .i64 x1, .bool x2, .bool x3, .int .i64 x4, .bool x5, .int .i64 x6, .dat 3 x7, .int .i64 x8, .int .i64 x9, .int .i64 x10, .dat 3 x11, .int .i64 x12, .dat 3 x13] ∧ s_10_12  x1 x2 x3 x4 x5 x6 x7 x8 x9 x10 x11 x12 x13 (fun y1 => K .ret [.bool y1]) (fun y1 y2 y3 y4 y5 y6 y7 y8 y9 y10 y11 y12 => K .normal [.int .i64 y1, .bool y2, .bool y3, .int .i64 y4, .bool y5, .dat 3 y6, .int .i64 y7, .int .i64 y8, .int .i64 y9, .dat 3 y10, .int .i64 y11, .dat 3 y12]) := by
  unfold v_10_12 at h
  replace h := dCI_spec h
  obtain ⟨x1, vs0, e0, h⟩ := h
  replace h := dCB_spec h
  obtain ⟨x2, vs1, e1, h⟩ := h
  replace h := dCB_spec h
  obtain ⟨x3, vs2, e2, h⟩ := h
  replace h := dCI_spec h
  obtain ⟨x4, vs3, e3, h⟩ := h
  replace h := dCB_spec h
  obtain ⟨x5, vs4, e4, h⟩ := h
  replace h := dCI_spec h
  obtain ⟨x6, vs5, e5, h⟩ := h
  replace h := dCD_spec h
  obtain ⟨x7, vs6, e6, h⟩ := h
  replace h := dCI_spec h
  obtain ⟨x8, vs7, e7, h⟩ := h
  replace h := dCI_spec h
  obtain ⟨x9, vs8, e8, h⟩ := h
  replace h := dCI_spec h
  obtain ⟨x10, vs9, e9, h⟩ := h
  replace h := dCD_spec h
  obtain ⟨x11, vs10, e10, h⟩ := h
  replace h := dCI_spec h
  obtain ⟨x12, vs11, e11, h⟩ := h
  replace h := dCD_spec h
  obtain ⟨x13, vs12, e12, h⟩ := h
  replace h := dCE_spec h
  obtain ⟨e, h⟩ := h
  exact ⟨x1, x2, x3, x4, x5, x6, x7, x8, x9, x10, x11, x12, x13, by rw [e0, e1, e2, e3, e4, e5, e6, e7, e8, e9, e10, e11, e12, e], h⟩
theorem oq_10_12 : PieceOk Try.prog env q_10_12 (seqAt b10 12) := by
  refine seq_step tab (ctxG_ok R9_ok false [] _ _) booq_10_12 (pieces_subS pooq_10_12_10 (by kernel_rfl)) 2000 ?_
  intro vs K h
  obtain ⟨x1, x2, x3, x4, x5, x6, x7, x8, x9, x10, x11, x12, x13, rfl, h⟩ := wioq_10_12 vs K h
  exact Eq.mp (stoq_10_12 x1 x2 x3 x4 x5 x6 x7 x8 x9 x10 x11 x12 x13 K) h
theorem pook_10_9_10 : PiecesOk Try.prog env (ctxG env false [] R9 [] [(10, [(12, q_10_12)])]) 10 b10 :=
  pieces_at (L := []) (S := [(12, q_10_12)]) (fun _ => rfl) (fun _ => rfl) (by kernel_rfl) (by kernel_rfl) (fun _ hq => by cases hq) (List.forall_mem_cons.2 ⟨fun _ => oq_10_12, (fun _ hq => by cases hq)⟩)
theorem book_10_9 : BodiesOk Try.prog env (ctxG env false [] R9 [] [(10, [(12, q_10_12)])]) := bodies_okG (ks := [10]) (by kernel_rfl) (List.forall_mem_cons.2 ⟨body_at (fn := f10) (body := b10) rfl hb10 pook_10_9_10, (fun _ hq => by cases hq)⟩)
theorem stok_10_9 (k : Nat) (x1 : Int) (x2 : Bool) (x3 : Bool) (x4 : Int) (x5 : Bool) (x6 : (List Int)) (x7 : Int) (x8 : Int) (x9 : Int) (x10 : (List Int)) (x11 : Int) (x12 : (List Int)) (K : Ex → List (SV env.T) → Prop) : l_10_9 (k + 1) x1 x2 x3 x4 x5 x6 x7 x8 x9 x10 x11 x12 (fun y1 => K .ret [.bool y1]) (fun y1 y2 y3 y4 y5 y6 y7 y8 y9 => K (.exit 0) [.int .i64 y1, .bool y2, .bool y3, .int .i64 y4, .bool y5, .int .i64 y6, .dat 3 y7, .int .i64 y8, .dat 3 y9]) = vcCode env (ctxG env false [] R9 [] [(10, [(12, q_10_12)])]) 2000 10 (loopAt b10 9) (insSt p_10_9.head [.int .i64 x1, .bool x2, .bool x3, .int .i64 x4, .bool x5, .dat 3 x6, .int .i64 x7, .int .i64 x8, .int .i64 x9, .dat 3 x10, .int .i64 x11, .dat 3 x12]) (stepK p_10_9 (w_10_9 k) K) := by kernel_rfl
theorem wiok_10_9 (k : Nat) (vs : List (SV env.T)) (K : Ex → List (SV env.T) → Prop) (h : w_10_9 k vs K) : ∃ x1 : Int, ∃ x2 : Bool, ∃ x3 : Bool, ∃ x4 : Int, ∃ x5 : Bool, ∃ x6 : (List Int), ∃ x7 : Int, ∃ x8 : Int, ∃ x9 : Int, ∃ x10 : (List Int), ∃ x11 : Int, ∃ x12 : (List Int), vs = [.int .i64 x1, .bool x2, .bool x3, .int .i64 x4, .bool x5, .dat 3 x6, .int .i64 x7, .int .i64 x8, .int .i64 x9, .dat 3 x10, .int .i64 x11, .dat 3 x12] ∧ l_10_9 k x1 x2 x3 x4 x5 x6 x7 x8 x9 x10 x11 x12 (fun y1 => K .ret [.bool y1]) (fun y1 y2 y3 y4 y5 y6 y7 y8 y9 => K (.exit 0) [.int .i64 y1, .bool y2, .bool y3, .int .i64 y4, .bool y5, .int .i64 y6, .dat 3 y7, .int .i64 y8, .dat 3 y9]) := by
  unfold w_10_9 at h
  replace h := dCI_spec h
  obtain ⟨x1, vs0, e0, h⟩ := h
  replace h := dCB_spec h
  obtain ⟨x2, vs1, e1, h⟩ := h
  replace h := dCB_spec h
  obtain ⟨x3, vs2, e2, h⟩ := h
  replace h := dCI_spec h
  obtain ⟨x4, vs3, e3, h⟩ := h
  replace h := dCB_spec h
  obtain ⟨x5, vs4, e4, h⟩ := h
  replace h := dCD_spec h
  obtain ⟨x6, vs5, e5, h⟩ := h
  replace h := dCI_spec h
  obtain ⟨x7, vs6, e6, h⟩ := h
  replace h := dCI_spec h
  obtain ⟨x8, vs7, e7, h⟩ := h
  replace h := dCI_spec h
  obtain ⟨x9, vs8, e8, h⟩ := h
  replace h := dCD_spec h
  obtain ⟨x10, vs9, e9, h⟩ := h
  replace h := dCI_spec h
  obtain ⟨x11, vs10, e10, h⟩ := h
  replace h := dCD_spec h
  obtain ⟨x12, vs11, e11, h⟩ := h
  replace h := dCE_spec h
  obtain ⟨e, h⟩ := h
  exact ⟨x1, x2, x3, x4, x5, x6, x7, x8, x9, x10, x11, x12, by rw [e0, e1, e2, e3, e4, e5, e6, e7, e8, e9, e10, e11, e], h⟩
theorem zeok_10_9 (x1 : Int) (x2 : Bool) (x3 : Bool) (x4 : Int) (x5 : Bool) (x6 : (List Int)) (x7 : Int) (x8 : Int) (x9 : Int) (x10 : (List Int)) (x11 : Int) (x12 : (List Int)) (K : Ex → List (SV env.T) → Prop) : l_10_9 0 x1 x2 x3 x4 x5 x6 x7 x8 x9 x10 x11 x12 (fun y1 => K .ret [.bool y1]) (fun y1 y2 y3 y4 y5 y6 y7 y8 y9 => K (.exit 0) [.int .i64 y1, .bool y2, .bool y3, .int .i64 y4, .bool y5, .int .i64 y6, .dat 3 y7, .int .i64 y8, .dat 3 y9]) = False := by kernel_rfl
theorem ok_10_9 : PieceOk Try.prog env p_10_9 (.loop (loopAt b10 9)) := by
  refine loop_step (Wn := w_10_9) tab (ctxG_ok R9_ok false [] _ _) book_10_9 (pieces_sub pook_10_9_10 (by kernel_rfl)) rfl ?_ 2000 ?_
  · intro vs K h
    obtain ⟨x1, x2, x3, x4, x5, x6, x7, x8, x9, x10, x11, x12, _, h⟩ := wiok_10_9 0 vs K h
    exact Eq.mp (zeok_10_9 x1 x2 x3 x4 x5 x6 x7 x8 x9 x10 x11 x12 K) h
  · intro k vs K h
    obtain ⟨x1, x2, x3, x4, x5, x6, x7, x8, x9, x10, x11, x12, rfl, h⟩ := wiok_10_9 (k + 1) vs K h
    exact Eq.mp (stok_10_9 k x1 x2 x3 x4 x5 x6 x7 x8 x9 x10 x11 x12 K) h
theorem pooq_10_7_10 : PiecesOk Try.prog env (ctxG env false [] R9 [(10, [(9, p_10_9)])] [(10, [(12, q_10_12)])]) 10 b10 :=
  pieces_at (L := [(9, p_10_9)]) (S := [(12, q_10_12)]) (fun _ => rfl) (fun _ => rfl) (by kernel_rfl) (by kernel_rfl) (List.forall_mem_cons.2 ⟨fun _ => ok_10_9, (fun _ hq => by cases hq)⟩) (List.forall_mem_cons.2 ⟨fun _ => oq_10_12, (fun _ hq => by cases hq)⟩)
theorem booq_10_7 : BodiesOk Try.prog env (ctxG env false [] R9 [(10, [(9, p_10_9)])] [(10, [(12, q_10_12)])]) := bodies_okG (ks := [10]) (by kernel_rfl) (List.forall_mem_cons.2 ⟨body_at (fn := f10) (body := b10) rfl hb10 pooq_10_7_10, (fun _ hq => by cases hq)⟩)
theorem stoq_10_7 (x1 : Int) (x2 : Bool) (x3 : Bool) (x4 : Int) (x5 : (List Int)) (x6 : Int) (x7 : (List Int)) (x8 : Int) (x9 : (List Int)) (K : Ex → List (SV env.T) → Prop) : s_10_7  x1 x2 x3 x4 x5 x6 x7 x8 x9 (fun y1 => K .ret [.bool y1]) = vcCode env (ctxG env false [] R9 [(10, [(9, p_10_9)])] [(10, [(12, q_10_12)])]) 2000 10 (seqAt b10 7) (insSt q_10_7.head [.int .i64 x1, .bool x2, .bool x3, .int .i64 x4, .dat 3 x5, .int .i64 x6, .dat 3 x7, .int .i64 x8, .dat 3 x9]) (outP env q_10_7 K) := by kernel_rfl
theorem wioq_10_7 (vs : List (SV env.T)) (K : Ex → List (SV env.T) → Prop) (h : v_10_7 vs K) : ∃ x1 : Int, ∃ x2 : Bool, ∃ x3 : Bool, ∃ x4 : Int, ∃ x5 : (List Int), ∃ x6 : Int, ∃ x7 : (List Int), ∃ x8 : Int, ∃ x9 : (List Int), vs = [.int .i64 x1, .bool x2, .bool x3, .int .i64 x4, .dat 3 x5, .int .i64 x6, .dat 3 x7, .int .i64 x8, .dat 3 x9] ∧ s_10_7  x1 x2 x3 x4 x5 x6 x7 x8 x9 (fun y1 => K .ret [.bool y1]) := by
  unfold v_10_7 at h
  replace h := dCI_spec h
  obtain ⟨x1, vs0, e0, h⟩ := h
  replace h := dCB_spec h
  obtain ⟨x2, vs1, e1, h⟩ := h
  replace h := dCB_spec h
  obtain ⟨x3, vs2, e2, h⟩ := h
  replace h := dCI_spec h
  obtain ⟨x4, vs3, e3, h⟩ := h
  replace h := dCD_spec h
  obtain ⟨x5, vs4, e4, h⟩ := h
  replace h := dCI_spec h
  obtain ⟨x6, vs5, e5, h⟩ := h
  replace h := dCD_spec h
  obtain ⟨x7, vs6, e6, h⟩ := h
  replace h := dCI_spec h
  obtain ⟨x8, vs7, e7, h⟩ := h
  replace h := dCD_spec h
  obtain ⟨x9, vs8, e8, h⟩ := h
  replace h := dCE_spec h
  obtain ⟨e, h⟩ := h
  exact ⟨x1, x2, x3, x4, x5, x6, x7, x8, x9, by rw [e0, e1, e2, e3, e4, e5, e6, e7, e8, e], h⟩
theorem oq_10_7 : PieceOk Try.prog env q_10_7 (seqAt b10 7) := by
  refine seq_step tab (ctxG_ok R9_ok false [] _ _) booq_10_7 (pieces_subS pooq_10_7_10 (by kernel_rfl)) 2000 ?_
  intro vs K h
  obtain ⟨x1, x2, x3, x4, x5, x6, x7, x8, x9, rfl, h⟩ := wioq_10_7 vs K h
  exact Eq.mp (stoq_10_7 x1 x2 x3 x4 x5 x6 x7 x8 x9 K) h
theorem po_10_10 : PiecesOk Try.prog env (ctxG env false [] R9 [(10, [(9, p_10_9)])] [(10, [(12, q_10_12), (7, q_10_7)])]) 10 b10 :=
  pieces_at (L := [(9, p_10_9)]) (S := [(12, q_10_12), (7, q_10_7)]) (fun _ => rfl) (fun _ => rfl) (by kernel_rfl) (by kernel_rfl) (List.forall_mem_cons.2 ⟨fun _ => ok_10_9, (fun _ hq => by cases hq)⟩) (List.forall_mem_cons.2 ⟨fun _ => oq_10_12, (List.forall_mem_cons.2 ⟨fun _ => oq_10_7, (fun _ hq => by cases hq)⟩)⟩)
theorem bo_10 : BodiesOk Try.prog env (ctxG env false [] R9 [(10, [(9, p_10_9)])] [(10, [(12, q_10_12), (7, q_10_7)])]) := bodies_okG (ks := [10]) (by kernel_rfl) (List.forall_mem_cons.2 ⟨body_at (fn := f10) (body := b10) rfl hb10 po_10_10, (fun _ hq => by cases hq)⟩)
theorem eq_10 (x0 : Receiver) (x1 : Int) (x2 : (List Packet)) (x3 : Int) (K : Y10 → Prop) : vcCode env (ctxG env false [] R9 [(10, [(9, p_10_9)])] [(10, [(12, q_10_12), (7, q_10_7)])]) 2000 10 b10 (entry env f10 [v67 x0, v3 x1, v33 x2, v3 x3]) (finR env f10 decR10 K) = B10 x0 x1 x2 x3 K := by kernel_rfl
noncomputable def rule10 : Nat × Rule env := (10, ruleF env decA10 encR10 fun x => V10 x.1 x.2.1 x.2.2.1 x.2.2.2)
theorem r10 : RuleOk Try.prog env 10 rule10.2 :=
  rule_fun tab (ctxG_ok R9_ok false [] _ _) bo_10 (f := 10) (fn := f10) rfl hb10 po_10_10 2000 encA10 hA10 hR10 hD10 (fun _ => of_decide_eq_true (by kernel_rfl)) (fun x K => (eq_10 x.1 x.2.1 x.2.2.1 x.2.2.2 K).trans (by rw [V10_eq]))
noncomputable def R10 : List (Nat × Rule env) := rule10 :: R9
theorem R10_ok : AllOk Try.prog env R10 := ⟨r10, R9_ok⟩
-- 12 queuelab/queuelablaw30.ReceiverTwice
noncomputable def f12 : Func := Try.f12
noncomputable def b12 : Code := (Try.f12.body).getD .skip
abbrev X12 := Receiver × Int × Packet
def encA12 (x : X12) : List (SV env.T) := [v67 x.1, v3 x.2.1, v30 x.2.2]
def decA12 (l : List (SV env.T)) : Option X12 := match l with
  | [s0, s1, s2] => match u67 s0, u3 s1, u30 s2 with
    | some x0, some x1, some x2 => some (x0, x1, x2)
    | _, _, _ => none
  | _ => none
theorem hA12 (l : List (SV env.T)) (x : X12) (h : decA12 l = some x) : WkA env.has l (encA12 x) := by
  unfold decA12 at h; split at h
  · split at h
    · rename_i h0 h1 h2; cases h; exact (.cons (u67_wk h0) (.cons (u3_wk h1) (.cons (u30_wk h2) .nil)))
    · cases h
  · cases h
abbrev Y12 := Bool
def encR12 (x : Y12) : List (SV env.T) := [v4 x]
def decR12 (l : List (SV env.T)) : Option Y12 := match l with
  | [s0] => match u4 s0 with
    | some x0 => some (x0)
    | _ => none
  | _ => none
theorem hR12 (l : List (SV env.T)) (x : Y12) (h : decR12 l = some x) : WkA env.has l (encR12 x) := by
  unfold decR12 at h; split at h
  · split at h
    · rename_i h0; cases h; exact (.cons (u4_wk h0) .nil)
    · cases h
  · cases h
theorem hD12 (y : Y12) : isDataV (tupV (encR12 y)) = true := rfl
theorem hb12 : f12.body = some b12 := by kernel_rfl
noncomputable def B12 : Receiver → Int → Packet → (Y12 → Prop) → Prop :=
  fun x0 x1 x2 K ↦ V35 fun y4 ↦ V36 x0 fun y5 ↦ br (!y5) (K y4) (V37 x0 x1 x2 fun y6 ↦ br (y6.snd.snd.snd != 0) (br y4 (V41 y6.fst (Receiver.mk 0 []) fun y7 ↦ br y7 (K (andb (y6.snd.fst.sub == 0) (andb (y6.snd.fst.number == 0) (andb (y6.snd.fst.next_ == 0) (andb (y6.snd.fst.sent == 0) (y6.snd.fst.marked == false)))))) (K false)) (K false)) (V37 y6.fst x1 x2 fun y7 ↦ br y4 (br (y7.snd.snd.snd == 0) (br (!y7.snd.snd.fst) (V41 y6.fst y7.fst fun y8 ↦ br y8 (K (andb (y6.snd.fst.sub == y7.snd.fst.sub) (andb (y6.snd.fst.number == y7.snd.fst.number) (andb (y6.snd.fst.next_ == y7.snd.fst.next_) (andb (y6.snd.fst.sent == y7.snd.fst.sent) (y6.snd.fst.marked == y7.snd.fst.marked)))))) (K false)) (K false)) (K false)) (K false)))
theorem V12_ex : ∃ V : Receiver → Int → Packet → (Y12 → Prop) → Prop, V = B12 := ⟨_, rfl⟩
noncomputable def V12 : Receiver → Int → Packet → (Y12 → Prop) → Prop := Classical.choose V12_ex
theorem V12_eq : V12 = B12 := Classical.choose_spec V12_ex
theorem po_12_12 : PiecesOk Try.prog env (ctxG env false [] R10 [] []) 12 b12 :=
  pieces_at (L := []) (S := []) (fun _ => rfl) (fun _ => rfl) (by kernel_rfl) (by kernel_rfl) (fun _ hq => by cases hq) (fun _ hq => by cases hq)
theorem bo_12 : BodiesOk Try.prog env (ctxG env false [] R10 [] []) := bodies_okG (ks := []) (by kernel_rfl) (fun _ hq => by cases hq)
theorem eq_12 (x0 : Receiver) (x1 : Int) (x2 : Packet) (K : Y12 → Prop) : vcCode env (ctxG env false [] R10 [] []) 2000 12 b12 (entry env f12 [v67 x0, v3 x1, v30 x2]) (finR env f12 decR12 K) = B12 x0 x1 x2 K := by kernel_rfl
noncomputable def rule12 : Nat × Rule env := (12, ruleF env decA12 encR12 fun x => V12 x.1 x.2.1 x.2.2)
theorem r12 : RuleOk Try.prog env 12 rule12.2 :=
  rule_fun tab (ctxG_ok R10_ok false [] _ _) bo_12 (f := 12) (fn := f12) rfl hb12 po_12_12 2000 encA12 hA12 hR12 hD12 (fun _ => of_decide_eq_true (by kernel_rfl)) (fun x K => (eq_12 x.1 x.2.1 x.2.2 K).trans (by rw [V12_eq]))
noncomputable def R12 : List (Nat × Rule env) := rule12 :: R10
theorem R12_ok : AllOk Try.prog env R12 := ⟨r12, R10_ok⟩
-- 13 queuelab/queuelablaw30.ReceiverAcks
noncomputable def f13 : Func := Try.f13
noncomputable def b13 : Code := (Try.f13.body).getD .skip
abbrev X13 := Receiver × Int × Packet
def encA13 (x : X13) : List (SV env.T) := [v67 x.1, v3 x.2.1, v30 x.2.2]
def decA13 (l : List (SV env.T)) : Option X13 := match l with
  | [s0, s1, s2] => match u67 s0, u3 s1, u30 s2 with
    | some x0, some x1, some x2 => some (x0, x1, x2)
    | _, _, _ => none
  | _ => none
theorem hA13 (l : List (SV env.T)) (x : X13) (h : decA13 l = some x) : WkA env.has l (encA13 x) := by
  unfold decA13 at h; split at h
  · split at h
    · rename_i h0 h1 h2; cases h; exact (.cons (u67_wk h0) (.cons (u3_wk h1) (.cons (u30_wk h2) .nil)))
    · cases h
  · cases h
abbrev Y13 := Bool
def encR13 (x : Y13) : List (SV env.T) := [v4 x]
def decR13 (l : List (SV env.T)) : Option Y13 := match l with
  | [s0] => match u4 s0 with
    | some x0 => some (x0)
    | _ => none
  | _ => none
theorem hR13 (l : List (SV env.T)) (x : Y13) (h : decR13 l = some x) : WkA env.has l (encR13 x) := by
  unfold decR13 at h; split at h
  · split at h
    · rename_i h0; cases h; exact (.cons (u4_wk h0) .nil)
    · cases h
  · cases h
theorem hD13 (y : Y13) : isDataV (tupV (encR13 y)) = true := rfl
theorem hb13 : f13.body = some b13 := by kernel_rfl
def s_13_10 : Int → Bool → Bool → Int → Int → (List Int) → Int → Int → Int → Int → Int → Int → Bool → Bool → Int → (List Int) → Int → Int → Int → Int → Bool → (Bool → Prop) → (Int → Bool → Bool → Int → Int → (List Int) → Int → Int → Int → Int → Int → Int → Bool → Bool → Int → (List Int) → Int → Int → Int → Int → Bool → Prop) → Prop :=
  fun x1 x2 x3 x4 x5 x6 x7 x8 x9 x10 x11 x12 x13 x14 x15 x16 x17 x18 x19 x20 x21 kr kn ↦ br (x4 != x10) (V44 (Receiver.mk x5 x6) x4 fun y25 ↦ br (!y25) (kr false) (kn x1 x2 x3 (IntKind.i64.wrap (x4 + 1)) x5 x6 x7 x8 x9 x10 x11 x12 x13 x14 x15 x16 x17 x18 x19 x20 x21)) (kn x1 x2 x3 (IntKind.i64.wrap (x4 + 1)) x5 x6 x7 x8 x9 x10 x11 x12 x13 x14 x15 x16 x17 x18 x19 x20 x21)
def v_13_10 (vs : List (SV env.T)) (K : Ex → List (SV env.T) → Prop) : Prop :=
  dCI .i64 vs fun x1 vs => dCB vs fun x2 vs => dCB vs fun x3 vs => dCI .i64 vs fun x4 vs => dCI .i64 vs fun x5 vs => dCD 3 vs fun x6 vs => dCI .i64 vs fun x7 vs => dCI .i64 vs fun x8 vs => dCI .i64 vs fun x9 vs => dCI .i64 vs fun x10 vs => dCI .i64 vs fun x11 vs => dCI .i64 vs fun x12 vs => dCB vs fun x13 vs => dCB vs fun x14 vs => dCI .i64 vs fun x15 vs => dCD 3 vs fun x16 vs => dCI .i64 vs fun x17 vs => dCI .i64 vs fun x18 vs => dCI .i64 vs fun x19 vs => dCI .i64 vs fun x20 vs => dCB vs fun x21 vs => dCE vs (s_13_10 x1 x2 x3 x4 x5 x6 x7 x8 x9 x10 x11 x12 x13 x14 x15 x16 x17 x18 x19 x20 x21 (fun y1 => K .ret [.bool y1]) (fun y1 y2 y3 y4 y5 y6 y7 y8 y9 y10 y11 y12 y13 y14 y15 y16 y17 y18 y19 y20 y21 => K .normal [.int .i64 y1, .bool y2, .bool y3, .int .i64 y4, .int .i64 y5, .dat 3 y6, .int .i64 y7, .int .i64 y8, .int .i64 y9, .int .i64 y10, .int .i64 y11, .int .i64 y12, .bool y13, .bool y14, .int .i64 y15, .dat 3 y16, .int .i64 y17, .int .i64 y18, .int .i64 y19, .int .i64 y20, .bool y21]))
def q_13_10 : Piece env := ⟨⟨[.any, .hole, .any, .ptr 0 0, .any, .ptr 1 0, .hole, .hole, .ptr 2 0, .ptr 3 0, .any, .any, .hole, .any, .any, .any, .any, .any, .any, .any, .any, .any, .any, .any, .any, .any, .any, .any, .any, .any, .any, .any, .any, .any, .any, .any, .any, .any, .any, .any, .any, .any, .any, .any, .any, .any, .any, .any, .any, .any, .any, .any, .any, .any, .any, .any, .any, .any, .any, .any, .any, .any, .any, .any, .any, .any, .any, .any, .any, .any, .any, .any, .any, .any, .any, .any, .any, .any, .any, .any, .any, .any, .any, .any, .any, .any, .any, .any, .any, .any, .any, .any, .any, .any], [], [(0, .cells 67 [.hole, .holeD 3]), (1, .cells 30 [.hole, .hole, .hole, .hole, .hole, .hole, .hole, .hole]), (2, .cells 67 [.hole, .holeD 3]), (3, .cells 70 [.hole, .hole, .hole, .hole, .hole])], 4⟩, exitF (some ⟨[.any, .hole, .any, .ptr 0 0, .any, .ptr 1 0, .hole, .hole, .ptr 2 0, .ptr 3 0, .any, .any, .hole, .any, .any, .any, .any, .any, .any, .any, .any, .any, .any, .any, .any, .any, .any, .any, .any, .any, .any, .any, .any, .any, .any, .any, .any, .any, .any, .any, .any, .any, .any, .any, .any, .any, .any, .any, .any, .any, .any, .any, .any, .any, .any, .any, .any, .any, .any, .any, .any, .any, .any, .any, .any, .any, .any, .any, .any, .any, .any, .any, .any, .any, .any, .any, .any, .any, .any, .any, .any, .any, .any, .any, .any, .any, .any, .any, .any, .any, .any, .any, .any, .any], [], [(0, .cells 67 [.hole, .holeD 3]), (1, .cells 30 [.hole, .hole, .hole, .hole, .hole, .hole, .hole, .hole]), (2, .cells 67 [.hole, .holeD 3]), (3, .cells 70 [.hole, .hole, .hole, .hole, .hole])], 4⟩) [] (some ⟨[.any, .any, .any, .any, .any, .any, .hole, .any, .any, .any, .any, .any, .any, .any, .any, .any, .any, .any, .any, .any, .any, .any, .any, .any, .any, .any, .any, .any, .any, .any, .any, .any, .any, .any, .any, .any, .any, .any, .any, .any, .any, .any, .any, .any, .any, .any, .any, .any, .any, .any, .any, .any, .any, .any, .any, .any, .any, .any, .any, .any, .any, .any, .any, .any, .any, .any, .any, .any, .any, .any, .any, .any, .any, .any, .any, .any, .any, .any, .any, .any, .any, .any, .any, .any, .any, .any, .any, .any, .any, .any, .any, .any, .any, .any], [], [], 0⟩), v_13_10⟩
def l_13_8 : Nat → Int → Bool → Bool → Int → Int → (List Int) → Int → Int → Int → Int → Int → Int → Bool → Bool → Int → (List Int) → Int → Int → Int → Int → Bool → (Bool → Prop) → (Int → Bool → Bool → Int → (List Int) → Int → Int → Int → Int → Int → Int → Bool → Bool → Int → (List Int) → Int → Int → Int → Int → Bool → Prop) → Prop
  | 0 => fun _ _ _ _ _ _ _ _ _ _ _ _ _ _ _ _ _ _ _ _ _ _ _ => False
  | k + 1 => fun x1 x2 x3 x4 x5 x6 x7 x8 x9 x10 x11 x12 x13 x14 x15 x16 x17 x18 x19 x20 x21 kr k0 ↦ br (decide (x4 < x15)) (br (decide (x4 ≤ IntKind.i64.wrap (x5 + 1000))) (s_13_10 x1 x2 x3 x4 x5 x6 x7 x8 x9 x10 x11 x12 x13 x14 x15 x16 x17 x18 x19 x20 x21 kr fun y25 y26 y27 y28 y29 y30 y31 y32 y33 y34 y35 y36 y37 y38 y39 y40 y41 y42 y43 y44 y45 ↦ l_13_8 k y25 y26 y27 y28 y29 y30 y31 y32 y33 y34 y35 y36 y37 y38 y39 y40 y41 y42 y43 y44 y45 kr k0) (k0 x1 x2 x3 x5 x6 x7 x8 x9 x10 x11 x12 x13 x14 x15 x16 x17 x18 x19 x20 x21)) (k0 x1 x2 x3 x5 x6 x7 x8 x9 x10 x11 x12 x13 x14 x15 x16 x17 x18 x19 x20 x21)
def w_13_8 (k : Nat) (vs : List (SV env.T)) (K : Ex → List (SV env.T) → Prop) : Prop :=
  dCI .i64 vs fun x1 vs => dCB vs fun x2 vs => dCB vs fun x3 vs => dCI .i64 vs fun x4 vs => dCI .i64 vs fun x5 vs => dCD 3 vs fun x6 vs => dCI .i64 vs fun x7 vs => dCI .i64 vs fun x8 vs => dCI .i64 vs fun x9 vs => dCI .i64 vs fun x10 vs => dCI .i64 vs fun x11 vs => dCI .i64 vs fun x12 vs => dCB vs fun x13 vs => dCB vs fun x14 vs => dCI .i64 vs fun x15 vs => dCD 3 vs fun x16 vs => dCI .i64 vs fun x17 vs => dCI .i64 vs fun x18 vs => dCI .i64 vs fun x19 vs => dCI .i64 vs fun x20 vs => dCB vs fun x21 vs => dCE vs (l_13_8 k x1 x2 x3 x4 x5 x6 x7 x8 x9 x10 x11 x12 x13 x14 x15 x16 x17 x18 x19 x20 x21 (fun y1 => K .ret [.bool y1]) (fun y1 y2 y3 y4 y5 y6 y7 y8 y9 y10 y11 y12 y13 y14 y15 y16 y17 y18 y19 y20 => K (.exit 0) [.int .i64 y1, .bool y2, .bool y3, .int .i64 y4, .dat 3 y5, .int .i64 y6, .int .i64 y7, .int .i64 y8, .int .i64 y9, .int .i64 y10, .int .i64 y11, .bool y12, .bool y13, .int .i64 y14, .dat 3 y15, .int .i64 y16, .int .i64 y17, .int .i64 y18, .int .i64 y19, .bool y20]))
def p_13_8 : Piece env := ⟨⟨[.any, .hole, .any, .ptr 0 0, .any, .ptr 1 0, .hole, .hole, .ptr 2 0, .ptr 3 0, .any, .any, .hole, .any, .any, .any, .any, .any, .any, .any, .any, .any, .any, .any, .any, .any, .any, .any, .any, .any, .any, .any, .any, .any, .any, .any, .any, .any, .any, .any, .any, .any, .any, .any, .any, .any, .any, .any, .any, .any, .any, .any, .any, .any, .any, .any, .any, .any, .any, .any, .any, .any, .any, .any, .any, .any, .any, .any, .any, .any, .any, .any, .any, .any, .any, .any, .any, .any, .any, .any, .any, .any, .any, .any, .any, .any, .any, .any, .any, .any, .any, .any, .any, .any], [], [(0, .cells 67 [.hole, .holeD 3]), (1, .cells 30 [.hole, .hole, .hole, .hole, .hole, .hole, .hole, .hole]), (2, .cells 67 [.hole, .holeD 3]), (3, .cells 70 [.hole, .hole, .hole, .hole, .hole])], 4⟩, exitF none [(0, ⟨[.any, .hole, .any, .ptr 0 0, .any, .ptr 1 0, .hole, .hole, .ptr 2 0, .ptr 3 0, .any, .any, .any, .any, .any, .any, .any, .any, .any, .any, .any, .any, .any, .any, .any, .any, .any, .any, .any, .any, .any, .any, .any, .any, .any, .any, .any, .any, .any, .any, .any, .any, .any, .any, .any, .any, .any, .any, .any, .any, .any, .any, .any, .any, .any, .any, .any, .any, .any, .any, .any, .any, .any, .any, .any, .any, .any, .any, .any, .any, .any, .any, .any, .any, .any, .any, .any, .any, .any, .any, .any, .any, .any, .any, .any, .any, .any, .any, .any, .any, .any, .any, .any, .any], [], [(0, .cells 67 [.hole, .holeD 3]), (1, .cells 30 [.hole, .hole, .hole, .hole, .hole, .hole, .hole, .hole]), (2, .cells 67 [.hole, .holeD 3]), (3, .cells 70 [.hole, .hole, .hole, .hole, .hole])], 4⟩)] (some ⟨[.any, .any, .any, .any, .any, .any, .hole, .any, .any, .any, .any, .any, .any, .any, .any, .any, .any, .any, .any, .any, .any, .any, .any, .any, .any, .any, .any, .any, .any, .any, .any, .any, .any, .any, .any, .any, .any, .any, .any, .any, .any, .any, .any, .any, .any, .any, .any, .any, .any, .any, .any, .any, .any, .any, .any, .any, .any, .any, .any, .any, .any, .any, .any, .any, .any, .any, .any, .any, .any, .any, .any, .any, .any, .any, .any, .any, .any, .any, .any, .any, .any, .any, .any, .any, .any, .any, .any, .any, .any, .any, .any, .any, .any, .any], [], [], 0⟩), fun vs K => ∃ k, w_13_8 k vs K⟩
noncomputable def B13 : Receiver → Int → Packet → (Y13 → Prop) → Prop :=
  fun x0 x1 x2 K ↦ V35 fun y4 ↦ V36 x0 fun y5 ↦ br (!y5) (K y4) (V37 x0 x1 x2 fun y6 ↦ br (y6.snd.snd.snd != 0) (K y4) (∃ k7, l_13_8 k7 x1 false y4 x0.next_ x0.next_ x0.have_ x2.flow x2.sub x2.number x2.data x2.size x2.sent x2.able x2.marked y6.fst.next_ y6.fst.have_ y6.snd.fst.sub y6.snd.fst.number y6.snd.fst.next_ y6.snd.fst.sent y6.snd.fst.marked K fun y8 _ y10 y11 _ _ y14 y15 _ _ y18 _ y20 y21 y22 y23 y24 y25 y26 y27 ↦ br y10 (br (decide (y21 ≥ y11)) (br (decide (y21 ≤ IntKind.i64.wrap (y11 + y8))) (V44 (Receiver.mk y21 y22) y21 fun y28 ↦ br (!y28) (K (andb (y23 == y14) (andb (y24 == y15) (andb (y25 == y21) (andb (y26 == y18) (y27 == y20)))))) (K false)) (K false)) (K false)) (K false)))
theorem V13_ex : ∃ V : Receiver → Int → Packet → (Y13 → Prop) → Prop, V = B13 := ⟨_, rfl⟩
noncomputable def V13 : Receiver → Int → Packet → (Y13 → Prop) → Prop := Classical.choose V13_ex
theorem V13_eq : V13 = B13 := Classical.choose_spec V13_ex
theorem pooq_13_10_13 : PiecesOk Try.prog env (ctxG env false [] R12 [] []) 13 b13 :=
  pieces_at (L := []) (S := []) (fun _ => rfl) (fun _ => rfl) (by kernel_rfl) (by kernel_rfl) (fun _ hq => by cases hq) (fun _ hq => by cases hq)
theorem booq_13_10 : BodiesOk Try.prog env (ctxG env false [] R12 [] []) := bodies_okG (ks := []) (by kernel_rfl) (fun _ hq => by cases hq)
theorem stoq_13_10 (x1 : Int) (x2 : Bool) (x3 : Bool) (x4 : Int) (x5 : Int) (x6 : (List Int)) (x7 : Int) (x8 : Int) (x9 : Int) (x10 : Int) (x11 : Int) (x12 : Int) (x13 : Bool) (x14 : Bool) (x15 : Int) (x16 : (List Int)) (x17 : Int) (x18 : Int) (x19 : Int) (x20 : Int) (x21 : Bool) (K : Ex → List (SV env.T) → Prop) : s_13_10  x1 x2 x3 x4 x5 x6 x7 x8 x9 x10 x11 x12 x13 x14 x15 x16 x17 x18 x19 x20 x21 (fun y1 => K .ret [.bool y1]) (fun y1 y2 y3 y4 y5 y6 y7 y8 y9 y10 y11 y12 y13 y14 y15 y16 y17 y18 y19 y20 y21 => K .normal [.int .i64 y1, .bool y2, .bool y3, .int .i64 y4, .int .i64 y5, .dat 3 y6, .int .i64 y7, .int .i64 y8, .int .i64 y9, .int .i64 y10, .int .i64 y11, .int .i64 y12, .bool y13, .bool y14, .int .i64 y15, .dat 3 y16, .int .i64 y17, .int .i64 y18, .int .i64 y19, .int .i64 y20, .bool y21]) = vcCode env (ctxG env false [] R12 [] []) 2000 13 (seqAt b13 10) (insSt q_13_10.head [.int .i64 x1, .bool x2, .bool x3, .int .i64 x4, .int .i64 x5, .dat 3 x6, .int .i64 x7, .int .i64 x8, .int .i64 x9, .int .i64 x10, .int .i64 x11, .int .i64 x12, .bool x13, .bool x14, .int .i64 x15, .dat 3 x16, .int .i64 x17, .int .i64 x18, .int .i64 x19, .int .i64 x20, .bool x21]) (outP env q_13_10 K) := by kernel_rfl
theorem wioq_13_10 (vs : List (SV env.T)) (K : Ex → List (SV env.T) → Prop) (h : v_13_10 vs K) : ∃ x1 : Int, ∃ x2 : Bool, ∃ x3 : Bool, ∃ x4 : Int, ∃ x5 : Int, ∃ x6 : (List Int), ∃ x7 : Int, ∃ x8 : Int, ∃ x9 : Int, ∃ x10 : Int, ∃ x11 : Int, ∃ x12 : Int, ∃ x13 : Bool, ∃ x14 : Bool, ∃ x15 : Int, ∃ x16 : (List Int), ∃ x17 : Int, ∃ x18 : Int, ∃ x19 : Int, ∃ x20 : Int, ∃ x21 : Bool, vs = [.int .i64 x1, .bool x2, .bool x3, .int .i64 x4, .int .i64 x5, .dat 3 x6, .int .i64 x7, .int .i64 x8, .int .i64 x9, .int .i64 x10, .int .i64 x11, .int .i64 x12, .bool x13, .bool x14, .int .i64 x15, .dat 3 x16, .int .i64 x17, .int .i64 x18, .int .i64 x19, .int .i64 x20, .bool x21] ∧ s_13_10  x1 x2 x3 x4 x5 x6 x7 x8 x9 x10 x11 x12 x13 x14 x15 x16 x17 x18 x19 x20 x21 (fun y1 => K .ret [.bool y1]) (fun y1 y2 y3 y4 y5 y6 y7 y8 y9 y10 y11 y12 y13 y14 y15 y16 y17 y18 y19 y20 y21 => K .normal [.int .i64 y1, .bool y2, .bool y3, .int .i64 y4, .int .i64 y5, .dat 3 y6, .int .i64 y7, .int .i64 y8, .int .i64 y9, .int .i64 y10, .int .i64 y11, .int .i64 y12, .bool y13, .bool y14, .int .i64 y15, .dat 3 y16, .int .i64 y17, .int .i64 y18, .int .i64 y19, .int .i64 y20, .bool y21]) := by
  unfold v_13_10 at h
  replace h := dCI_spec h
  obtain ⟨x1, vs0, e0, h⟩ := h
  replace h := dCB_spec h
  obtain ⟨x2, vs1, e1, h⟩ := h
  replace h := dCB_spec h
  obtain ⟨x3, vs2, e2, h⟩ := h
  replace h := dCI_spec h
  obtain ⟨x4, vs3, e3, h⟩ := h
  replace h := dCI_spec h
  obtain ⟨x5, vs4, e4, h⟩ := h
  replace h := dCD_spec h
  obtain ⟨x6, vs5, e5, h⟩ := h
  replace h := dCI_spec h
  obtain ⟨x7, vs6, e6, h⟩ := h
  replace h := dCI_spec h
  obtain ⟨x8, vs7, e7, h⟩ := h
  replace h := dCI_spec h
  obtain ⟨x9, vs8, e8, h⟩ := h
  replace h := dCI_spec h
  obtain ⟨x10, vs9, e9, h⟩ := h
  replace h := dCI_spec h
  obtain ⟨x11, vs10, e10, h⟩ := h
  replace h := dCI_spec h
  obtain ⟨x12, vs11, e11, h⟩ := h
  replace h := dCB_spec h
  obtain ⟨x13, vs12, e12, h⟩ := h
  replace h := dCB_spec h
  obtain ⟨x14, vs13, e13, h⟩ := h
  replace h := dCI_spec h
  obtain ⟨x15, vs14, e14, h⟩ := h
  replace h := dCD_spec h
  obtain ⟨x16, vs15, e15, h⟩ := h
  replace h := dCI_spec h
  obtain ⟨x17, vs16, e16, h⟩ := h
  replace h := dCI_spec h
  obtain ⟨x18, vs17, e17, h⟩ := h
  replace h := dCI_spec h
  obtain ⟨x19, vs18, e18, h⟩ := h
  replace h := dCI_spec h
  obtain ⟨x20, vs19, e19, h⟩ := h
  replace h := dCB_spec h
  obtain ⟨x21, vs20, e20, h⟩ := h
  replace h := dCE_spec h
  obtain ⟨e, h⟩ := h
  exact ⟨x1, x2, x3, x4, x5, x6, x7, x8, x9, x10, x11, x12, x13, x14, x15, x16, x17, x18, x19, x20, x21, by rw [e0, e1, e2, e3, e4, e5, e6, e7, e8, e9, e10, e11, e12, e13, e14, e15, e16, e17, e18, e19, e20, e], h⟩
theorem oq_13_10 : PieceOk Try.prog env q_13_10 (seqAt b13 10) := by
  refine seq_step tab (ctxG_ok R12_ok false [] _ _) booq_13_10 (pieces_subS pooq_13_10_13 (by kernel_rfl)) 2000 ?_
  intro vs K h
  obtain ⟨x1, x2, x3, x4, x5, x6, x7, x8, x9, x10, x11, x12, x13, x14, x15, x16, x17, x18, x19, x20, x21, rfl, h⟩ := wioq_13_10 vs K h
  exact Eq.mp (stoq_13_10 x1 x2 x3 x4 x5 x6 x7 x8 x9 x10 x11 x12 x13 x14 x15 x16 x17 x18 x19 x20 x21 K) h
theorem pook_13_8_13 : PiecesOk Try.prog env (ctxG env false [] R12 [] [(13, [(10, q_13_10)])]) 13 b13 :=
  pieces_at (L := []) (S := [(10, q_13_10)]) (fun _ => rfl) (fun _ => rfl) (by kernel_rfl) (by kernel_rfl) (fun _ hq => by cases hq) (List.forall_mem_cons.2 ⟨fun _ => oq_13_10, (fun _ hq => by cases hq)⟩)
theorem book_13_8 : BodiesOk Try.prog env (ctxG env false [] R12 [] [(13, [(10, q_13_10)])]) := bodies_okG (ks := [13]) (by kernel_rfl) (List.forall_mem_cons.2 ⟨body_at (fn := f13) (body := b13) rfl hb13 pook_13_8_13, (fun _ hq => by cases hq)⟩)
theorem stok_13_8 (k : Nat) (x1 : Int) (x2 : Bool) (x3 : Bool) (x4 : Int) (x5 : Int) (x6 : (List Int)) (x7 : Int) (x8 : Int) (x9 : Int) (x10 : Int) (x11 : Int) (x12 : Int) (x13 : Bool) (x14 : Bool) (x15 : Int) (x16 : (List Int)) (x17 : Int) (x18 : Int) (x19 : Int) (x20 : Int) (x21 : Bool) (K : Ex → List (SV env.T) → Prop) : l_13_8 (k + 1) x1 x2 x3 x4 x5 x6 x7 x8 x9 x10 x11 x12 x13 x14 x15 x16 x17 x18 x19 x20 x21 (fun y1 => K .ret [.bool y1]) (fun y1 y2 y3 y4 y5 y6 y7 y8 y9 y10 y11 y12 y13 y14 y15 y16 y17 y18 y19 y20 => K (.exit 0) [.int .i64 y1, .bool y2, .bool y3, .int .i64 y4, .dat 3 y5, .int .i64 y6, .int .i64 y7, .int .i64 y8, .int .i64 y9, .int .i64 y10, .int .i64 y11, .bool y12, .bool y13, .int .i64 y14, .dat 3 y15, .int .i64 y16, .int .i64 y17, .int .i64 y18, .int .i64 y19, .bool y20]) = vcCode env (ctxG env false [] R12 [] [(13, [(10, q_13_10)])]) 2000 13 (loopAt b13 8) (insSt p_13_8.head [.int .i64 x1, .bool x2, .bool x3, .int .i64 x4, .int .i64 x5, .dat 3 x6, .int .i64 x7, .int .i64 x8, .int .i64 x9, .int .i64 x10, .int .i64 x11, .int .i64 x12, .bool x13, .bool x14, .int .i64 x15, .dat 3 x16, .int .i64 x17, .int .i64 x18, .int .i64 x19, .int .i64 x20, .bool x21]) (stepK p_13_8 (w_13_8 k) K) := by kernel_rfl
theorem wiok_13_8 (k : Nat) (vs : List (SV env.T)) (K : Ex → List (SV env.T) → Prop) (h : w_13_8 k vs K) : ∃ x1 : Int, ∃ x2 : Bool, ∃ x3 : Bool, ∃ x4 : Int, ∃ x5 : Int, ∃ x6 : (List Int), ∃ x7 : Int, ∃ x8 : Int, ∃ x9 : Int, ∃ x10 : Int, ∃ x11 : Int, ∃ x12 : Int, ∃ x13 : Bool, ∃ x14 : Bool, ∃ x15 : Int, ∃ x16 : (List Int), ∃ x17 : Int, ∃ x18 : Int, ∃ x19 : Int, ∃ x20 : Int, ∃ x21 : Bool, vs = [.int .i64 x1, .bool x2, .bool x3, .int .i64 x4, .int .i64 x5, .dat 3 x6, .int .i64 x7, .int .i64 x8, .int .i64 x9, .int .i64 x10, .int .i64 x11, .int .i64 x12, .bool x13, .bool x14, .int .i64 x15, .dat 3 x16, .int .i64 x17, .int .i64 x18, .int .i64 x19, .int .i64 x20, .bool x21] ∧ l_13_8 k x1 x2 x3 x4 x5 x6 x7 x8 x9 x10 x11 x12 x13 x14 x15 x16 x17 x18 x19 x20 x21 (fun y1 => K .ret [.bool y1]) (fun y1 y2 y3 y4 y5 y6 y7 y8 y9 y10 y11 y12 y13 y14 y15 y16 y17 y18 y19 y20 => K (.exit 0) [.int .i64 y1, .bool y2, .bool y3, .int .i64 y4, .dat 3 y5, .int .i64 y6, .int .i64 y7, .int .i64 y8, .int .i64 y9, .int .i64 y10, .int .i64 y11, .bool y12, .bool y13, .int .i64 y14, .dat 3 y15, .int .i64 y16, .int .i64 y17, .int .i64 y18, .int .i64 y19, .bool y20]) := by
  unfold w_13_8 at h
  replace h := dCI_spec h
  obtain ⟨x1, vs0, e0, h⟩ := h
  replace h := dCB_spec h
  obtain ⟨x2, vs1, e1, h⟩ := h
  replace h := dCB_spec h
  obtain ⟨x3, vs2, e2, h⟩ := h
  replace h := dCI_spec h
  obtain ⟨x4, vs3, e3, h⟩ := h
  replace h := dCI_spec h
  obtain ⟨x5, vs4, e4, h⟩ := h
  replace h := dCD_spec h
  obtain ⟨x6, vs5, e5, h⟩ := h
  replace h := dCI_spec h
  obtain ⟨x7, vs6, e6, h⟩ := h
  replace h := dCI_spec h
  obtain ⟨x8, vs7, e7, h⟩ := h
  replace h := dCI_spec h
  obtain ⟨x9, vs8, e8, h⟩ := h
  replace h := dCI_spec h
  obtain ⟨x10, vs9, e9, h⟩ := h
  replace h := dCI_spec h
  obtain ⟨x11, vs10, e10, h⟩ := h
  replace h := dCI_spec h
  obtain ⟨x12, vs11, e11, h⟩ := h
  replace h := dCB_spec h
  obtain ⟨x13, vs12, e12, h⟩ := h
  replace h := dCB_spec h
  obtain ⟨x14, vs13, e13, h⟩ := h
  replace h := dCI_spec h
  obtain ⟨x15, vs14, e14, h⟩ := h
  replace h := dCD_spec h
  obtain ⟨x16, vs15, e15, h⟩ := h
  replace h := dCI_spec h
  obtain ⟨x17, vs16, e16, h⟩ := h
  replace h := dCI_spec h
  obtain ⟨x18, vs17, e17, h⟩ := h
  replace h := dCI_spec h
  obtain ⟨x19, vs18, e18, h⟩ := h
  replace h := dCI_spec h
  obtain ⟨x20, vs19, e19, h⟩ := h
  replace h := dCB_spec h
  obtain ⟨x21, vs20, e20, h⟩ := h
  replace h := dCE_spec h
  obtain ⟨e, h⟩ := h
  exact ⟨x1, x2, x3, x4, x5, x6, x7, x8, x9, x10, x11, x12, x13, x14, x15, x16, x17, x18, x19, x20, x21, by rw [e0, e1, e2, e3, e4, e5, e6, e7, e8, e9, e10, e11, e12, e13, e14, e15, e16, e17, e18, e19, e20, e], h⟩
theorem zeok_13_8 (x1 : Int) (x2 : Bool) (x3 : Bool) (x4 : Int) (x5 : Int) (x6 : (List Int)) (x7 : Int) (x8 : Int) (x9 : Int) (x10 : Int) (x11 : Int) (x12 : Int) (x13 : Bool) (x14 : Bool) (x15 : Int) (x16 : (List Int)) (x17 : Int) (x18 : Int) (x19 : Int) (x20 : Int) (x21 : Bool) (K : Ex → List (SV env.T) → Prop) : l_13_8 0 x1 x2 x3 x4 x5 x6 x7 x8 x9 x10 x11 x12 x13 x14 x15 x16 x17 x18 x19 x20 x21 (fun y1 => K .ret [.bool y1]) (fun y1 y2 y3 y4 y5 y6 y7 y8 y9 y10 y11 y12 y13 y14 y15 y16 y17 y18 y19 y20 => K (.exit 0) [.int .i64 y1, .bool y2, .bool y3, .int .i64 y4, .dat 3 y5, .int .i64 y6, .int .i64 y7, .int .i64 y8, .int .i64 y9, .int .i64 y10, .int .i64 y11, .bool y12, .bool y13, .int .i64 y14, .dat 3 y15, .int .i64 y16, .int .i64 y17, .int .i64 y18, .int .i64 y19, .bool y20]) = False := by kernel_rfl
theorem ok_13_8 : PieceOk Try.prog env p_13_8 (.loop (loopAt b13 8)) := by
  refine loop_step (Wn := w_13_8) tab (ctxG_ok R12_ok false [] _ _) book_13_8 (pieces_sub pook_13_8_13 (by kernel_rfl)) rfl ?_ 2000 ?_
  · intro vs K h
    obtain ⟨x1, x2, x3, x4, x5, x6, x7, x8, x9, x10, x11, x12, x13, x14, x15, x16, x17, x18, x19, x20, x21, _, h⟩ := wiok_13_8 0 vs K h
    exact Eq.mp (zeok_13_8 x1 x2 x3 x4 x5 x6 x7 x8 x9 x10 x11 x12 x13 x14 x15 x16 x17 x18 x19 x20 x21 K) h
  · intro k vs K h
    obtain ⟨x1, x2, x3, x4, x5, x6, x7, x8, x9, x10, x11, x12, x13, x14, x15, x16, x17, x18, x19, x20, x21, rfl, h⟩ := wiok_13_8 (k + 1) vs K h
    exact Eq.mp (stok_13_8 k x1 x2 x3 x4 x5 x6 x7 x8 x9 x10 x11 x12 x13 x14 x15 x16 x17 x18 x19 x20 x21 K) h
theorem po_13_13 : PiecesOk Try.prog env (ctxG env false [] R12 [(13, [(8, p_13_8)])] [(13, [(10, q_13_10)])]) 13 b13 :=
  pieces_at (L := [(8, p_13_8)]) (S := [(10, q_13_10)]) (fun _ => rfl) (fun _ => rfl) (by kernel_rfl) (by kernel_rfl) (List.forall_mem_cons.2 ⟨fun _ => ok_13_8, (fun _ hq => by cases hq)⟩) (List.forall_mem_cons.2 ⟨fun _ => oq_13_10, (fun _ hq => by cases hq)⟩)
theorem bo_13 : BodiesOk Try.prog env (ctxG env false [] R12 [(13, [(8, p_13_8)])] [(13, [(10, q_13_10)])]) := bodies_okG (ks := [13]) (by kernel_rfl) (List.forall_mem_cons.2 ⟨body_at (fn := f13) (body := b13) rfl hb13 po_13_13, (fun _ hq => by cases hq)⟩)
theorem eq_13 (x0 : Receiver) (x1 : Int) (x2 : Packet) (K : Y13 → Prop) : vcCode env (ctxG env false [] R12 [(13, [(8, p_13_8)])] [(13, [(10, q_13_10)])]) 2000 13 b13 (entry env f13 [v67 x0, v3 x1, v30 x2]) (finR env f13 decR13 K) = B13 x0 x1 x2 K := by kernel_rfl
noncomputable def rule13 : Nat × Rule env := (13, ruleF env decA13 encR13 fun x => V13 x.1 x.2.1 x.2.2)
theorem r13 : RuleOk Try.prog env 13 rule13.2 :=
  rule_fun tab (ctxG_ok R12_ok false [] _ _) bo_13 (f := 13) (fn := f13) rfl hb13 po_13_13 2000 encA13 hA13 hR13 hD13 (fun _ => of_decide_eq_true (by kernel_rfl)) (fun x K => (eq_13 x.1 x.2.1 x.2.2 K).trans (by rw [V13_eq]))
noncomputable def R13 : List (Nat × Rule env) := rule13 :: R12
theorem R13_ok : AllOk Try.prog env R13 := ⟨r13, R12_ok⟩
-- 14 queuelab/queuelablaw30.ReceiverRoom
noncomputable def f14 : Func := Try.f14
noncomputable def b14 : Code := (Try.f14.body).getD .skip
abbrev X14 := Receiver × Int × Packet
def encA14 (x : X14) : List (SV env.T) := [v67 x.1, v3 x.2.1, v30 x.2.2]
def decA14 (l : List (SV env.T)) : Option X14 := match l with
  | [s0, s1, s2] => match u67 s0, u3 s1, u30 s2 with
    | some x0, some x1, some x2 => some (x0, x1, x2)
    | _, _, _ => none
  | _ => none
theorem hA14 (l : List (SV env.T)) (x : X14) (h : decA14 l = some x) : WkA env.has l (encA14 x) := by
  unfold decA14 at h; split at h
  · split at h
    · rename_i h0 h1 h2; cases h; exact (.cons (u67_wk h0) (.cons (u3_wk h1) (.cons (u30_wk h2) .nil)))
    · cases h
  · cases h
abbrev Y14 := Bool
def encR14 (x : Y14) : List (SV env.T) := [v4 x]
def decR14 (l : List (SV env.T)) : Option Y14 := match l with
  | [s0] => match u4 s0 with
    | some x0 => some (x0)
    | _ => none
  | _ => none
theorem hR14 (l : List (SV env.T)) (x : Y14) (h : decR14 l = some x) : WkA env.has l (encR14 x) := by
  unfold decR14 at h; split at h
  · split at h
    · rename_i h0; cases h; exact (.cons (u4_wk h0) .nil)
    · cases h
  · cases h
theorem hD14 (y : Y14) : isDataV (tupV (encR14 y)) = true := rfl
theorem hb14 : f14.body = some b14 := by kernel_rfl
def s_14_6 : Int → Bool → Bool → Int → Bool → Int → (List Int) → (Bool → Prop) → Prop :=
  fun x1 _ x3 x4 x5 x6 x7 kr ↦ br x5 (br x3 (kr (x4 == 10)) (kr false)) (br x3 (br (x4 == 0) (V39 (Receiver.mk x6 x7) x1 fun y10 ↦ br y10 (kr (decide ((↑x7.length : Int) < x1))) (kr false)) (kr false)) (kr false))
def v_14_6 (vs : List (SV env.T)) (K : Ex → List (SV env.T) → Prop) : Prop :=
  dCI .i64 vs fun x1 vs => dCB vs fun x2 vs => dCB vs fun x3 vs => dCI .i64 vs fun x4 vs => dCB vs fun x5 vs => dCI .i64 vs fun x6 vs => dCD 3 vs fun x7 vs => dCE vs (s_14_6 x1 x2 x3 x4 x5 x6 x7 (fun y1 => K .ret [.bool y1]))
def q_14_6 : Piece env := ⟨⟨[.any, .hole, .any, .any, .any, .any, .hole, .hole, .ptr 0 0, .any, .any, .hole, .hole, .any, .any, .any, .any, .any, .any, .any, .any, .any, .any, .any, .any, .any, .any, .any, .any, .any, .any, .any, .any, .any, .any, .any, .any, .any, .any, .any, .any, .any, .any, .any, .any, .any, .any, .any, .any, .any, .any, .any, .any, .any, .any, .any, .any, .any, .any, .any, .any, .any, .any, .any, .any, .any, .any, .any, .any, .any, .any, .any, .any], [], [(0, .cells 67 [.hole, .holeD 3])], 1⟩, exitF none [] (some ⟨[.any, .any, .any, .any, .any, .any, .hole, .any, .any, .any, .any, .any, .any, .any, .any, .any, .any, .any, .any, .any, .any, .any, .any, .any, .any, .any, .any, .any, .any, .any, .any, .any, .any, .any, .any, .any, .any, .any, .any, .any, .any, .any, .any, .any, .any, .any, .any, .any, .any, .any, .any, .any, .any, .any, .any, .any, .any, .any, .any, .any, .any, .any, .any, .any, .any, .any, .any, .any, .any, .any, .any, .any, .any], [], [], 0⟩), v_14_6⟩
def s_14_4 : Int → Bool → Bool → Int → (List Int) → Int → Int → Int → Int → Int → Int → Bool → Bool → (Bool → Prop) → Prop :=
  fun x1 x2 x3 x4 x5 x6 x7 x8 x9 x10 x11 x12 x13 kr ↦ V37 (Receiver.mk x4 x5) x1 (Packet.mk x6 x7 x8 x9 x10 x11 x12 x13) fun y16 ↦ br (decide (x9 ≥ IntKind.i64.wrap (x4 + x1))) (s_14_6 x1 x2 x3 y16.snd.snd.snd true y16.fst.next_ y16.fst.have_ kr) (s_14_6 x1 x2 x3 y16.snd.snd.snd (x9 == 1000000000) y16.fst.next_ y16.fst.have_ kr)
def v_14_4 (vs : List (SV env.T)) (K : Ex → List (SV env.T) → Prop) : Prop :=
  dCI .i64 vs fun x1 vs => dCB vs fun x2 vs => dCB vs fun x3 vs => dCI .i64 vs fun x4 vs => dCD 3 vs fun x5 vs => dCI .i64 vs fun x6 vs => dCI .i64 vs fun x7 vs => dCI .i64 vs fun x8 vs => dCI .i64 vs fun x9 vs => dCI .i64 vs fun x10 vs => dCI .i64 vs fun x11 vs => dCB vs fun x12 vs => dCB vs fun x13 vs => dCE vs (s_14_4 x1 x2 x3 x4 x5 x6 x7 x8 x9 x10 x11 x12 x13 (fun y1 => K .ret [.bool y1]))
def q_14_4 : Piece env := ⟨⟨[.any, .hole, .any, .ptr 0 0, .any, .ptr 1 0, .hole, .hole, .any, .any, .any, .any, .any, .any, .any, .any, .any, .any, .any, .any, .any, .any, .any, .any, .any, .any, .any, .any, .any, .any, .any, .any, .any, .any, .any, .any, .any, .any, .any, .any, .any, .any, .any, .any, .any, .any, .any, .any, .any, .any, .any, .any, .any, .any, .any, .any, .any, .any, .any, .any, .any, .any, .any, .any, .any, .any, .any, .any, .any, .any, .any, .any, .any], [], [(0, .cells 67 [.hole, .holeD 3]), (1, .cells 30 [.hole, .hole, .hole, .hole, .hole, .hole, .hole, .hole])], 2⟩, exitF none [] (some ⟨[.any, .any, .any, .any, .any, .any, .hole, .any, .any, .any, .any, .any, .any, .any, .any, .any, .any, .any, .any, .any, .any, .any, .any, .any, .any, .any, .any, .any, .any, .any, .any, .any, .any, .any, .any, .any, .any, .any, .any, .any, .any, .any, .any, .any, .any, .any, .any, .any, .any, .any, .any, .any, .any, .any, .any, .any, .any, .any, .any, .any, .any, .any, .any, .any, .any, .any, .any, .any, .any, .any, .any, .any, .any], [], [], 0⟩), v_14_4⟩
noncomputable def B14 : Receiver → Int → Packet → (Y14 → Prop) → Prop :=
  fun x0 x1 x2 K ↦ V35 fun y4 ↦ V36 x0 fun y5 ↦ br (!y5) (K y4) (V40 x0 x1 fun y6 ↦ br (!y6) (K y4) (V26 x2 fun y7 ↦ br (!y7) (K y4) (s_14_4 x1 false y4 x0.next_ x0.have_ x2.flow x2.sub x2.number x2.data x2.size x2.sent x2.able x2.marked K)))
theorem V14_ex : ∃ V : Receiver → Int → Packet → (Y14 → Prop) → Prop, V = B14 := ⟨_, rfl⟩
noncomputable def V14 : Receiver → Int → Packet → (Y14 → Prop) → Prop := Classical.choose V14_ex
theorem V14_eq : V14 = B14 := Classical.choose_spec V14_ex
theorem pooq_14_6_14 : PiecesOk Try.prog env (ctxG env false [] R13 [] []) 14 b14 :=
  pieces_at (L := []) (S := []) (fun _ => rfl) (fun _ => rfl) (by kernel_rfl) (by kernel_rfl) (fun _ hq => by cases hq) (fun _ hq => by cases hq)
theorem booq_14_6 : BodiesOk Try.prog env (ctxG env false [] R13 [] []) := bodies_okG (ks := []) (by kernel_rfl) (fun _ hq => by cases hq)
theorem stoq_14_6 (x1 : Int) (x2 : Bool) (x3 : Bool) (x4 : Int) (x5 : Bool) (x6 : Int) (x7 : (List Int)) (K : Ex → List (SV env.T) → Prop) : s_14_6  x1 x2 x3 x4 x5 x6 x7 (fun y1 => K .ret [.bool y1]) = vcCode env (ctxG env false [] R13 [] []) 2000 14 (seqAt b14 6) (insSt q_14_6.head [.int .i64 x1, .bool x2, .bool x3, .int .i64 x4, .bool x5, .int .i64 x6, .dat 3 x7]) (outP env q_14_6 K) := by kernel_rfl
theorem wioq_14_6 (vs : List (SV env.T)) (K : Ex → List (SV env.T) → Prop) (h : v_14_6 vs K) : ∃ x1 : Int, ∃ x2 : Bool, ∃ x3 : Bool, ∃ x4 : Int, ∃ x5 : Bool, ∃ x6 : Int, ∃ x7 : (List Int), vs = [.int .i64 x1, .bool x2, .bool x3, .int .i64 x4, .bool x5, .int .i64 x6, .dat 3 x7] ∧ s_14_6  x1 x2 x3 x4 x5 x6 x7 (fun y1 => K .ret [.bool y1]) := by
  unfold v_14_6 at h
  replace h := dCI_spec h
  obtain ⟨x1, vs0, e0, h⟩ := h
  replace h := dCB_spec h
  obtain ⟨x2, vs1, e1, h⟩ := h
  replace h := dCB_spec h
  obtain ⟨x3, vs2, e2, h⟩ := h
  replace h := dCI_spec h
  obtain ⟨x4, vs3, e3, h⟩ := h
  replace h := dCB_spec h
  obtain ⟨x5, vs4, e4, h⟩ := h
  replace h := dCI_spec h
  obtain ⟨x6, vs5, e5, h⟩ := h
  replace h := dCD_spec h
  obtain ⟨x7, vs6, e6, h⟩ := h
  replace h := dCE_spec h
  obtain ⟨e, h⟩ := h
  exact ⟨x1, x2, x3, x4, x5, x6, x7, by rw [e0, e1, e2, e3, e4, e5, e6, e], h⟩
theorem oq_14_6 : PieceOk Try.prog env q_14_6 (seqAt b14 6) := by
  refine seq_step tab (ctxG_ok R13_ok false [] _ _) booq_14_6 (pieces_subS pooq_14_6_14 (by kernel_rfl)) 2000 ?_
  intro vs K h
  obtain ⟨x1, x2, x3, x4, x5, x6, x7, rfl, h⟩ := wioq_14_6 vs K h
  exact Eq.mp (stoq_14_6 x1 x2 x3 x4 x5 x6 x7 K) h
theorem pooq_14_4_14 : PiecesOk Try.prog env (ctxG env false [] R13 [] [(14, [(6, q_14_6)])]) 14 b14 :=
  pieces_at (L := []) (S := [(6, q_14_6)]) (fun _ => rfl) (fun _ => rfl) (by kernel_rfl) (by kernel_rfl) (fun _ hq => by cases hq) (List.forall_mem_cons.2 ⟨fun _ => oq_14_6, (fun _ hq => by cases hq)⟩)
theorem booq_14_4 : BodiesOk Try.prog env (ctxG env false [] R13 [] [(14, [(6, q_14_6)])]) := bodies_okG (ks := [14]) (by kernel_rfl) (List.forall_mem_cons.2 ⟨body_at (fn := f14) (body := b14) rfl hb14 pooq_14_4_14, (fun _ hq => by cases hq)⟩)
theorem stoq_14_4 (x1 : Int) (x2 : Bool) (x3 : Bool) (x4 : Int) (x5 : (List Int)) (x6 : Int) (x7 : Int) (x8 : Int) (x9 : Int) (x10 : Int) (x11 : Int) (x12 : Bool) (x13 : Bool) (K : Ex → List (SV env.T) → Prop) : s_14_4  x1 x2 x3 x4 x5 x6 x7 x8 x9 x10 x11 x12 x13 (fun y1 => K .ret [.bool y1]) = vcCode env (ctxG env false [] R13 [] [(14, [(6, q_14_6)])]) 2000 14 (seqAt b14 4) (insSt q_14_4.head [.int .i64 x1, .bool x2, .bool x3, .int .i64 x4, .dat 3 x5, .int .i64 x6, .int .i64 x7, .int .i64 x8, .int .i64 x9, .int .i64 x10, .int .i64 x11, .bool x12, .bool x13]) (outP env q_14_4 K) := by kernel_rfl
theorem wioq_14_4 (vs : List (SV env.T)) (K : Ex → List (SV env.T) → Prop) (h : v_14_4 vs K) : ∃ x1 : Int, ∃ x2 : Bool, ∃ x3 : Bool, ∃ x4 : Int, ∃ x5 : (List Int), ∃ x6 : Int, ∃ x7 : Int, ∃ x8 : Int, ∃ x9 : Int, ∃ x10 : Int, ∃ x11 : Int, ∃ x12 : Bool, ∃ x13 : Bool, vs = [.int .i64 x1, .bool x2, .bool x3, .int .i64 x4, .dat 3 x5, .int .i64 x6, .int .i64 x7, .int .i64 x8, .int .i64 x9, .int .i64 x10, .int .i64 x11, .bool x12, .bool x13] ∧ s_14_4  x1 x2 x3 x4 x5 x6 x7 x8 x9 x10 x11 x12 x13 (fun y1 => K .ret [.bool y1]) := by
  unfold v_14_4 at h
  replace h := dCI_spec h
  obtain ⟨x1, vs0, e0, h⟩ := h
  replace h := dCB_spec h
  obtain ⟨x2, vs1, e1, h⟩ := h
  replace h := dCB_spec h
  obtain ⟨x3, vs2, e2, h⟩ := h
  replace h := dCI_spec h
  obtain ⟨x4, vs3, e3, h⟩ := h
  replace h := dCD_spec h
  obtain ⟨x5, vs4, e4, h⟩ := h
  replace h := dCI_spec h
  obtain ⟨x6, vs5, e5, h⟩ := h
  replace h := dCI_spec h
  obtain ⟨x7, vs6, e6, h⟩ := h
  replace h := dCI_spec h
  obtain ⟨x8, vs7, e7, h⟩ := h
  replace h := dCI_spec h
  obtain ⟨x9, vs8, e8, h⟩ := h
  replace h := dCI_spec h
  obtain ⟨x10, vs9, e9, h⟩ := h
  replace h := dCI_spec h
  obtain ⟨x11, vs10, e10, h⟩ := h
  replace h := dCB_spec h
  obtain ⟨x12, vs11, e11, h⟩ := h
  replace h := dCB_spec h
  obtain ⟨x13, vs12, e12, h⟩ := h
  replace h := dCE_spec h
  obtain ⟨e, h⟩ := h
  exact ⟨x1, x2, x3, x4, x5, x6, x7, x8, x9, x10, x11, x12, x13, by rw [e0, e1, e2, e3, e4, e5, e6, e7, e8, e9, e10, e11, e12, e], h⟩
theorem oq_14_4 : PieceOk Try.prog env q_14_4 (seqAt b14 4) := by
  refine seq_step tab (ctxG_ok R13_ok false [] _ _) booq_14_4 (pieces_subS pooq_14_4_14 (by kernel_rfl)) 2000 ?_
  intro vs K h
  obtain ⟨x1, x2, x3, x4, x5, x6, x7, x8, x9, x10, x11, x12, x13, rfl, h⟩ := wioq_14_4 vs K h
  exact Eq.mp (stoq_14_4 x1 x2 x3 x4 x5 x6 x7 x8 x9 x10 x11 x12 x13 K) h
theorem po_14_14 : PiecesOk Try.prog env (ctxG env false [] R13 [] [(14, [(6, q_14_6), (4, q_14_4)])]) 14 b14 :=
  pieces_at (L := []) (S := [(6, q_14_6), (4, q_14_4)]) (fun _ => rfl) (fun _ => rfl) (by kernel_rfl) (by kernel_rfl) (fun _ hq => by cases hq) (List.forall_mem_cons.2 ⟨fun _ => oq_14_6, (List.forall_mem_cons.2 ⟨fun _ => oq_14_4, (fun _ hq => by cases hq)⟩)⟩)
theorem bo_14 : BodiesOk Try.prog env (ctxG env false [] R13 [] [(14, [(6, q_14_6), (4, q_14_4)])]) := bodies_okG (ks := [14]) (by kernel_rfl) (List.forall_mem_cons.2 ⟨body_at (fn := f14) (body := b14) rfl hb14 po_14_14, (fun _ hq => by cases hq)⟩)
theorem eq_14 (x0 : Receiver) (x1 : Int) (x2 : Packet) (K : Y14 → Prop) : vcCode env (ctxG env false [] R13 [] [(14, [(6, q_14_6), (4, q_14_4)])]) 2000 14 b14 (entry env f14 [v67 x0, v3 x1, v30 x2]) (finR env f14 decR14 K) = B14 x0 x1 x2 K := by kernel_rfl
noncomputable def rule14 : Nat × Rule env := (14, ruleF env decA14 encR14 fun x => V14 x.1 x.2.1 x.2.2)
theorem r14 : RuleOk Try.prog env 14 rule14.2 :=
  rule_fun tab (ctxG_ok R13_ok false [] _ _) bo_14 (f := 14) (fn := f14) rfl hb14 po_14_14 2000 encA14 hA14 hR14 hD14 (fun _ => of_decide_eq_true (by kernel_rfl)) (fun x K => (eq_14 x.1 x.2.1 x.2.2 K).trans (by rw [V14_eq]))
noncomputable def R14 : List (Nat × Rule env) := rule14 :: R13
theorem R14_ok : AllOk Try.prog env R14 := ⟨r14, R13_ok⟩
end Go.Vg.Ytgekegoflaichaa
