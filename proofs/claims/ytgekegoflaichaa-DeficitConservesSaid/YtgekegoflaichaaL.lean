/-
  Walked functions of the program: predicate transformers and their rules. Written by a program of this work (gen.py, VgGen.lean) out of the executor's own reduction; no condition.
-/
import Derived.Test.YtgekegoflaichaaB
set_option maxRecDepth 100000
set_option maxHeartbeats 4000000
namespace Go.Vg.Ytgekegoflaichaa
open Go.Vg Go.Proofs
-- 15 queuelab/queuelablaw22.head
noncomputable def f15 : Func := Try.f15
noncomputable def b15 : Code := (Try.f15.body).getD .skip
abbrev X15 := Unit
def encA15 (_x : X15) : List (SV env.T) := []
def decA15 (l : List (SV env.T)) : Option X15 := match l with
  | [] => some ()
  | _ => none
theorem hA15 (l : List (SV env.T)) (x : X15) (h : decA15 l = some x) : WkA env.has l (encA15 x) := by
  unfold decA15 at h; split at h
  · exact .nil
  · cases h
abbrev Y15 := Bool
def encR15 (x : Y15) : List (SV env.T) := [v4 x]
def decR15 (l : List (SV env.T)) : Option Y15 := match l with
  | [s0] => match u4 s0 with
    | some x0 => some (x0)
    | _ => none
  | _ => none
theorem hR15 (l : List (SV env.T)) (x : Y15) (h : decR15 l = some x) : WkA env.has l (encR15 x) := by
  unfold decR15 at h; split at h
  · split at h
    · rename_i h0; cases h; exact (.cons (u4_wk h0) .nil)
    · cases h
  · cases h
theorem hD15 (y : Y15) : isDataV (tupV (encR15 y)) = true := rfl
theorem hb15 : f15.body = some b15 := by kernel_rfl
def s_15_8 : Bool → Bool → Int → Int → Int → Int → Int → (List (List Queued)) → (List Int) → Int → Int → Int → Int → Int → Int → (List (List Queued)) → (List Int) → Int → (Bool → Prop) → Prop :=
  fun _ x2 x3 x4 x5 x6 x7 x8 x9 x10 x11 x12 x13 x14 x15 x16 x17 x18 kr ↦ br x2 (V21 (Queue.mk (Policy.mk x3 x4 x5 x6) x7 x8 x9 x10) fun y21 ↦ br y21 (V21 (Queue.mk (Policy.mk x11 x12 x13 x14) x15 x16 x17 x18) fun y22 ↦ br y22 (V31 99 5 fun y23 ↦ V21 y23 fun y24 ↦ kr !y24) (kr false)) (kr false)) (kr false)
def v_15_8 (vs : List (SV env.T)) (K : Ex → List (SV env.T) → Prop) : Prop :=
  dCB vs fun x1 vs => dCB vs fun x2 vs => dCI .i64 vs fun x3 vs => dCI .i64 vs fun x4 vs => dCI .i64 vs fun x5 vs => dCI .i64 vs fun x6 vs => dCI .i64 vs fun x7 vs => dCD 43 vs fun x8 vs => dCA .i64 8 vs fun x9 vs => dCI .u64 vs fun x10 vs => dCI .i64 vs fun x11 vs => dCI .i64 vs fun x12 vs => dCI .i64 vs fun x13 vs => dCI .i64 vs fun x14 vs => dCI .i64 vs fun x15 vs => dCD 43 vs fun x16 vs => dCA .i64 8 vs fun x17 vs => dCI .u64 vs fun x18 vs => dCE vs (s_15_8 x1 x2 x3 x4 x5 x6 x7 x8 x9 x10 x11 x12 x13 x14 x15 x16 x17 x18 (fun y1 => K .ret [.bool y1]))
def q_15_8 : Piece env := ⟨⟨[.hole, .any, .ptr 0 0, .any, .ptr 1 0, .any, .any, .any, .any, .any, .any, .any, .any, .any, .any, .any, .any, .hole, .any, .any, .any, .any, .any, .any, .any, .any, .any, .any, .any, .any, .any, .any, .any, .any, .any, .any, .any, .any, .any, .any, .any, .any, .any, .any, .any, .any, .any, .any, .any, .any, .any, .any, .any, .any, .any, .any, .any, .any, .any, .any, .any, .any, .any, .any, .any, .any, .any, .any, .any, .any, .any, .any, .any, .any, .any, .any, .any, .any, .any, .any, .any, .any, .any, .any, .any, .any, .any, .any, .any, .any, .any, .any, .any, .any, .any, .any, .any, .any, .any], [], [(0, .cells 28 [.hole, .hole, .hole, .hole, .hole, .holeD 43, .hole, .hole]), (1, .cells 28 [.hole, .hole, .hole, .hole, .hole, .holeD 43, .hole, .hole])], 2⟩, exitF none [] (some ⟨[.hole, .any, .any, .any, .any, .any, .any, .any, .any, .any, .any, .any, .any, .any, .any, .any, .any, .any, .any, .any, .any, .any, .any, .any, .any, .any, .any, .any, .any, .any, .any, .any, .any, .any, .any, .any, .any, .any, .any, .any, .any, .any, .any, .any, .any, .any, .any, .any, .any, .any, .any, .any, .any, .any, .any, .any, .any, .any, .any, .any, .any, .any, .any, .any, .any, .any, .any, .any, .any, .any, .any, .any, .any, .any, .any, .any, .any, .any, .any, .any, .any, .any, .any, .any, .any, .any, .any, .any, .any, .any, .any, .any, .any, .any, .any, .any, .any, .any, .any], [], [], 0⟩), v_15_8⟩
noncomputable def B15 : (Y15 → Prop) → Prop :=
  fun K ↦ V34 0 1 300 fun y1 ↦ V34 0 2 300 fun y2 ↦ V34 0 3 300 fun y3 ↦ V34 3 1 1000 fun y4 ↦ V34 3 2 100 fun y5 ↦ V31 500 5 fun y6 ↦ V30 y6 [y1, y2, y3, y4, y5] fun y7 ↦ V32 y7.fst 6 fun y8 ↦ ∃ k9, (V34 1 1 50 fun y10 ↦ tupV (encR34 y10) = tupV (encR34 k9)) ∧ ∃ k10, (V17 y7.fst k9 0 fun y11 ↦ tupV (encR17 y11) = tupV (encR17 k10)) ∧ V19 y8.fst 5 fun y11 ↦ V17 y7.fst (Packet.mk 0 0 0 0 0 0 false false) 0 fun y12 ↦ br y7.snd (br (k10.snd.snd == 0) (br (y11.snd.snd.snd.snd == 0) (br (y12.snd.snd == 1) (br (!y11.snd.snd.fst) (V24 y8.snd [y1, y2, y3, y4, y5] fun y13 ↦ br y13 (V34 1 1 50 fun y14 ↦ V24 k10.snd.fst [y14] fun y15 ↦ s_15_8 false y15 y7.fst.policy.kind y7.fst.policy.a y7.fst.policy.b y7.fst.policy.c y7.fst.room y7.fst.lists y7.fst.vars y7.fst.seed y8.fst.policy.kind y8.fst.policy.a y8.fst.policy.b y8.fst.policy.c y8.fst.room y8.fst.lists y8.fst.vars y8.fst.seed K) (s_15_8 false false y7.fst.policy.kind y7.fst.policy.a y7.fst.policy.b y7.fst.policy.c y7.fst.room y7.fst.lists y7.fst.vars y7.fst.seed y8.fst.policy.kind y8.fst.policy.a y8.fst.policy.b y8.fst.policy.c y8.fst.room y8.fst.lists y8.fst.vars y8.fst.seed K)) (s_15_8 false false y7.fst.policy.kind y7.fst.policy.a y7.fst.policy.b y7.fst.policy.c y7.fst.room y7.fst.lists y7.fst.vars y7.fst.seed y8.fst.policy.kind y8.fst.policy.a y8.fst.policy.b y8.fst.policy.c y8.fst.room y8.fst.lists y8.fst.vars y8.fst.seed K)) (s_15_8 false false y7.fst.policy.kind y7.fst.policy.a y7.fst.policy.b y7.fst.policy.c y7.fst.room y7.fst.lists y7.fst.vars y7.fst.seed y8.fst.policy.kind y8.fst.policy.a y8.fst.policy.b y8.fst.policy.c y8.fst.room y8.fst.lists y8.fst.vars y8.fst.seed K)) (s_15_8 false false y7.fst.policy.kind y7.fst.policy.a y7.fst.policy.b y7.fst.policy.c y7.fst.room y7.fst.lists y7.fst.vars y7.fst.seed y8.fst.policy.kind y8.fst.policy.a y8.fst.policy.b y8.fst.policy.c y8.fst.room y8.fst.lists y8.fst.vars y8.fst.seed K)) (s_15_8 false false y7.fst.policy.kind y7.fst.policy.a y7.fst.policy.b y7.fst.policy.c y7.fst.room y7.fst.lists y7.fst.vars y7.fst.seed y8.fst.policy.kind y8.fst.policy.a y8.fst.policy.b y8.fst.policy.c y8.fst.room y8.fst.lists y8.fst.vars y8.fst.seed K)) (s_15_8 false false y7.fst.policy.kind y7.fst.policy.a y7.fst.policy.b y7.fst.policy.c y7.fst.room y7.fst.lists y7.fst.vars y7.fst.seed y8.fst.policy.kind y8.fst.policy.a y8.fst.policy.b y8.fst.policy.c y8.fst.room y8.fst.lists y8.fst.vars y8.fst.seed K)
theorem V15_ex : ∃ V : (Y15 → Prop) → Prop, V = B15 := ⟨_, rfl⟩
noncomputable def V15 : (Y15 → Prop) → Prop := Classical.choose V15_ex
theorem V15_eq : V15 = B15 := Classical.choose_spec V15_ex
theorem pooq_15_8_15 : PiecesOk Try.prog env (ctxG env false [] R32 [] []) 15 b15 :=
  pieces_at (L := []) (S := []) (fun _ => rfl) (fun _ => rfl) (by kernel_rfl) (by kernel_rfl) (fun _ hq => by cases hq) (fun _ hq => by cases hq)
theorem booq_15_8 : BodiesOk Try.prog env (ctxG env false [] R32 [] []) := bodies_okG (ks := []) (by kernel_rfl) (fun _ hq => by cases hq)
theorem stoq_15_8 (x1 : Bool) (x2 : Bool) (x3 : Int) (x4 : Int) (x5 : Int) (x6 : Int) (x7 : Int) (x8 : (List (List Queued))) (x9 : (List Int)) (x10 : Int) (x11 : Int) (x12 : Int) (x13 : Int) (x14 : Int) (x15 : Int) (x16 : (List (List Queued))) (x17 : (List Int)) (x18 : Int) (K : Ex → List (SV env.T) → Prop) : s_15_8  x1 x2 x3 x4 x5 x6 x7 x8 x9 x10 x11 x12 x13 x14 x15 x16 x17 x18 (fun y1 => K .ret [.bool y1]) = vcCode env (ctxG env false [] R32 [] []) 2000 15 (seqAt b15 8) (insSt q_15_8.head [.bool x1, .bool x2, .int .i64 x3, .int .i64 x4, .int .i64 x5, .int .i64 x6, .int .i64 x7, .dat 43 x8, .arr .i64 8 x9, .int .u64 x10, .int .i64 x11, .int .i64 x12, .int .i64 x13, .int .i64 x14, .int .i64 x15, .dat 43 x16, .arr .i64 8 x17, .int .u64 x18]) (outP env q_15_8 K) := by kernel_rfl
theorem wioq_15_8 (vs : List (SV env.T)) (K : Ex → List (SV env.T) → Prop) (h : v_15_8 vs K) : ∃ x1 : Bool, ∃ x2 : Bool, ∃ x3 : Int, ∃ x4 : Int, ∃ x5 : Int, ∃ x6 : Int, ∃ x7 : Int, ∃ x8 : (List (List Queued)), ∃ x9 : (List Int), ∃ x10 : Int, ∃ x11 : Int, ∃ x12 : Int, ∃ x13 : Int, ∃ x14 : Int, ∃ x15 : Int, ∃ x16 : (List (List Queued)), ∃ x17 : (List Int), ∃ x18 : Int, vs = [.bool x1, .bool x2, .int .i64 x3, .int .i64 x4, .int .i64 x5, .int .i64 x6, .int .i64 x7, .dat 43 x8, .arr .i64 8 x9, .int .u64 x10, .int .i64 x11, .int .i64 x12, .int .i64 x13, .int .i64 x14, .int .i64 x15, .dat 43 x16, .arr .i64 8 x17, .int .u64 x18] ∧ s_15_8  x1 x2 x3 x4 x5 x6 x7 x8 x9 x10 x11 x12 x13 x14 x15 x16 x17 x18 (fun y1 => K .ret [.bool y1]) := by
  unfold v_15_8 at h
  replace h := dCB_spec h
  obtain ⟨x1, vs0, e0, h⟩ := h
  replace h := dCB_spec h
  obtain ⟨x2, vs1, e1, h⟩ := h
  replace h := dCI_spec h
  obtain ⟨x3, vs2, e2, h⟩ := h
  replace h := dCI_spec h
  obtain ⟨x4, vs3, e3, h⟩ := h
  replace h := dCI_spec h
  obtain ⟨x5, vs4, e4, h⟩ := h
  replace h := dCI_spec h
  obtain ⟨x6, vs5, e5, h⟩ := h
  replace h := dCI_spec h
  obtain ⟨x7, vs6, e6, h⟩ := h
  replace h := dCD_spec h
  obtain ⟨x8, vs7, e7, h⟩ := h
  replace h := dCA_spec h
  obtain ⟨x9, vs8, e8, h⟩ := h
  replace h := dCI_spec h
  obtain ⟨x10, vs9, e9, h⟩ := h
  replace h := dCI_spec h
  obtain ⟨x11, vs10, e10, h⟩ := h
  replace h := dCI_spec h
  obtain ⟨x12, vs11, e11, h⟩ := h
  replace h := dCI_spec h
  obtain ⟨x13, vs12, e12, h⟩ := h
  replace h := dCI_spec h
  obtain ⟨x14, vs13, e13, h⟩ := h
  replace h := dCI_spec h
  obtain ⟨x15, vs14, e14, h⟩ := h
  replace h := dCD_spec h
  obtain ⟨x16, vs15, e15, h⟩ := h
  replace h := dCA_spec h
  obtain ⟨x17, vs16, e16, h⟩ := h
  replace h := dCI_spec h
  obtain ⟨x18, vs17, e17, h⟩ := h
  replace h := dCE_spec h
  obtain ⟨e, h⟩ := h
  exact ⟨x1, x2, x3, x4, x5, x6, x7, x8, x9, x10, x11, x12, x13, x14, x15, x16, x17, x18, by rw [e0, e1, e2, e3, e4, e5, e6, e7, e8, e9, e10, e11, e12, e13, e14, e15, e16, e17, e], h⟩
theorem oq_15_8 : PieceOk Try.prog env q_15_8 (seqAt b15 8) := by
  refine seq_step tab (ctxG_ok R32_ok false [] _ _) booq_15_8 (pieces_subS pooq_15_8_15 (by kernel_rfl)) 2000 ?_
  intro vs K h
  obtain ⟨x1, x2, x3, x4, x5, x6, x7, x8, x9, x10, x11, x12, x13, x14, x15, x16, x17, x18, rfl, h⟩ := wioq_15_8 vs K h
  exact Eq.mp (stoq_15_8 x1 x2 x3 x4 x5 x6 x7 x8 x9 x10 x11 x12 x13 x14 x15 x16 x17 x18 K) h
theorem po_15_15 : PiecesOk Try.prog env (ctxG env false [] R32 [] [(15, [(8, q_15_8)])]) 15 b15 :=
  pieces_at (L := []) (S := [(8, q_15_8)]) (fun _ => rfl) (fun _ => rfl) (by kernel_rfl) (by kernel_rfl) (fun _ hq => by cases hq) (List.forall_mem_cons.2 ⟨fun _ => oq_15_8, (fun _ hq => by cases hq)⟩)
theorem bo_15 : BodiesOk Try.prog env (ctxG env false [] R32 [] [(15, [(8, q_15_8)])]) := bodies_okG (ks := [15]) (by kernel_rfl) (List.forall_mem_cons.2 ⟨body_at (fn := f15) (body := b15) rfl hb15 po_15_15, (fun _ hq => by cases hq)⟩)
theorem eq_15 (K : Y15 → Prop) : vcCode env (ctxG env false [] R32 [] [(15, [(8, q_15_8)])]) 2000 15 b15 (entry env f15 []) (finR env f15 decR15 K) = B15  K := by kernel_rfl
noncomputable def rule15 : Nat × Rule env := (15, ruleF env decA15 encR15 fun _ => V15 )
theorem r15 : RuleOk Try.prog env 15 rule15.2 :=
  rule_fun tab (ctxG_ok R32_ok false [] _ _) bo_15 (f := 15) (fn := f15) rfl hb15 po_15_15 2000 encA15 hA15 hR15 hD15 (fun _ => of_decide_eq_true (by kernel_rfl)) (fun _ K => (eq_15  K).trans (by rw [V15_eq]))
noncomputable def R15 : List (Nat × Rule env) := rule15 :: R32
theorem R15_ok : AllOk Try.prog env R15 := ⟨r15, R32_ok⟩
-- 3 queuelab/queuelablaw22.DeficitMatchesReference
noncomputable def f3 : Func := Try.f3
noncomputable def b3 : Code := (Try.f3.body).getD .skip
abbrev X3 := Queue × Packet × Int
def encA3 (x : X3) : List (SV env.T) := [v28 x.1, v30 x.2.1, v3 x.2.2]
def decA3 (l : List (SV env.T)) : Option X3 := match l with
  | [s0, s1, s2] => match u28 s0, u30 s1, u3 s2 with
    | some x0, some x1, some x2 => some (x0, x1, x2)
    | _, _, _ => none
  | _ => none
theorem hA3 (l : List (SV env.T)) (x : X3) (h : decA3 l = some x) : WkA env.has l (encA3 x) := by
  unfold decA3 at h; split at h
  · split at h
    · rename_i h0 h1 h2; cases h; exact (.cons (u28_wk h0) (.cons (u30_wk h1) (.cons (u3_wk h2) .nil)))
    · cases h
  · cases h
abbrev Y3 := Bool
def encR3 (x : Y3) : List (SV env.T) := [v4 x]
def decR3 (l : List (SV env.T)) : Option Y3 := match l with
  | [s0] => match u4 s0 with
    | some x0 => some (x0)
    | _ => none
  | _ => none
theorem hR3 (l : List (SV env.T)) (x : Y3) (h : decR3 l = some x) : WkA env.has l (encR3 x) := by
  unfold decR3 at h; split at h
  · split at h
    · rename_i h0; cases h; exact (.cons (u4_wk h0) .nil)
    · cases h
  · cases h
theorem hD3 (y : Y3) : isDataV (tupV (encR3 y)) = true := rfl
theorem hb3 : f3.body = some b3 := by kernel_rfl
noncomputable def B3 : Queue → Packet → Int → (Y3 → Prop) → Prop :=
  fun x0 x1 x2 K ↦ V15 fun y4 ↦ V16 x0 fun y5 ↦ br (!y5) (K y4) (V17 x0 x1 x2 fun y6 ↦ V18 x0 x1 x2 fun y7 ↦ V19 x0 x2 fun y8 ↦ V20 x0 x2 fun y9 ↦ br y4 (∃ k10, (V21 x0 fun y11 ↦ tupV (encR21 y11) = tupV (encR21 k10)) ∧ ∃ k11, (V22 x0 fun y12 ↦ tupV (encR22 y12) = tupV (encR22 k11)) ∧ br (k10 == k11) (∃ k12, (V23 y6.fst y7.fst fun y13 ↦ tupV (encR23 y13) = tupV (encR23 k12)) ∧ br k12 (∃ k13, (V24 y6.snd.fst y7.snd.fst fun y14 ↦ tupV (encR24 y14) = tupV (encR24 k13)) ∧ br k13 (br (y6.snd.snd == y7.snd.snd) (∃ k14, (V23 y8.fst y9.fst fun y15 ↦ tupV (encR23 y15) = tupV (encR23 k14)) ∧ br k14 (br (andb (y8.snd.fst.flow == y9.snd.fst.flow) (andb (y8.snd.fst.sub == y9.snd.fst.sub) (andb (y8.snd.fst.number == y9.snd.fst.number) (andb (y8.snd.fst.data == y9.snd.fst.data) (andb (y8.snd.fst.size == y9.snd.fst.size) (andb (y8.snd.fst.sent == y9.snd.fst.sent) (andb (y8.snd.fst.able == y9.snd.fst.able) (y8.snd.fst.marked == y9.snd.fst.marked)))))))) (br (y8.snd.snd.fst == y9.snd.snd.fst) (∃ k15, (V24 y8.snd.snd.snd.fst y9.snd.snd.snd.fst fun y16 ↦ tupV (encR24 y16) = tupV (encR24 k15)) ∧ br k15 (K (y8.snd.snd.snd.snd == y9.snd.snd.snd.snd)) (K false)) (K false)) (K false)) (K false)) (K false)) (K false)) (K false)) (K false)) (K false))
theorem V3_ex : ∃ V : Queue → Packet → Int → (Y3 → Prop) → Prop, V = B3 := ⟨_, rfl⟩
noncomputable def V3 : Queue → Packet → Int → (Y3 → Prop) → Prop := Classical.choose V3_ex
theorem V3_eq : V3 = B3 := Classical.choose_spec V3_ex
theorem po_3_3 : PiecesOk Try.prog env (ctxG env false [] R15 [] []) 3 b3 :=
  pieces_at (L := []) (S := []) (fun _ => rfl) (fun _ => rfl) (by kernel_rfl) (by kernel_rfl) (fun _ hq => by cases hq) (fun _ hq => by cases hq)
theorem bo_3 : BodiesOk Try.prog env (ctxG env false [] R15 [] []) := bodies_okG (ks := []) (by kernel_rfl) (fun _ hq => by cases hq)
theorem eq_3 (x0 : Queue) (x1 : Packet) (x2 : Int) (K : Y3 → Prop) : vcCode env (ctxG env false [] R15 [] []) 2000 3 b3 (entry env f3 [v28 x0, v30 x1, v3 x2]) (finR env f3 decR3 K) = B3 x0 x1 x2 K := by kernel_rfl
noncomputable def rule3 : Nat × Rule env := (3, ruleF env decA3 encR3 fun x => V3 x.1 x.2.1 x.2.2)
theorem r3 : RuleOk Try.prog env 3 rule3.2 :=
  rule_fun tab (ctxG_ok R15_ok false [] _ _) bo_3 (f := 3) (fn := f3) rfl hb3 po_3_3 2000 encA3 hA3 hR3 hD3 (fun _ => of_decide_eq_true (by kernel_rfl)) (fun x K => (eq_3 x.1 x.2.1 x.2.2 K).trans (by rw [V3_eq]))
noncomputable def R3 : List (Nat × Rule env) := rule3 :: R15
theorem R3_ok : AllOk Try.prog env R3 := ⟨r3, R15_ok⟩
-- 5 queuelab/queuelablaw22.DeficitWorks
noncomputable def f5 : Func := Try.f5
noncomputable def b5 : Code := (Try.f5.body).getD .skip
abbrev X5 := Queue × Packet × Int
def encA5 (x : X5) : List (SV env.T) := [v28 x.1, v30 x.2.1, v3 x.2.2]
def decA5 (l : List (SV env.T)) : Option X5 := match l with
  | [s0, s1, s2] => match u28 s0, u30 s1, u3 s2 with
    | some x0, some x1, some x2 => some (x0, x1, x2)
    | _, _, _ => none
  | _ => none
theorem hA5 (l : List (SV env.T)) (x : X5) (h : decA5 l = some x) : WkA env.has l (encA5 x) := by
  unfold decA5 at h; split at h
  · split at h
    · rename_i h0 h1 h2; cases h; exact (.cons (u28_wk h0) (.cons (u30_wk h1) (.cons (u3_wk h2) .nil)))
    · cases h
  · cases h
abbrev Y5 := Bool
def encR5 (x : Y5) : List (SV env.T) := [v4 x]
def decR5 (l : List (SV env.T)) : Option Y5 := match l with
  | [s0] => match u4 s0 with
    | some x0 => some (x0)
    | _ => none
  | _ => none
theorem hR5 (l : List (SV env.T)) (x : Y5) (h : decR5 l = some x) : WkA env.has l (encR5 x) := by
  unfold decR5 at h; split at h
  · split at h
    · rename_i h0; cases h; exact (.cons (u4_wk h0) .nil)
    · cases h
  · cases h
theorem hD5 (y : Y5) : isDataV (tupV (encR5 y)) = true := rfl
theorem hb5 : f5.body = some b5 := by kernel_rfl
def s_5_3 : Int → Bool → Bool → Bool → Int → Int → Int → Int → Int → (List (List Queued)) → (List Int) → Int → Int → Int → Int → Int → Int → Int → Bool → Bool → (Bool → Prop) → Prop :=
  fun x1 _ x3 x4 x5 x6 x7 x8 x9 x10 x11 x12 x13 x14 x15 x16 x17 x18 x19 x20 kr ↦ br (!x4) (kr x3) (V19 (Queue.mk (Policy.mk x5 x6 x7 x8) x9 x10 x11 x12) x1 fun y23 ↦ V17 (Queue.mk (Policy.mk x5 x6 x7 x8) x9 x10 x11 x12) (Packet.mk x13 x14 x15 x16 x17 x18 x19 x20) x1 fun y24 ↦ br (decide (x1 < x11.getD 7 0)) (br x3 (br (!y23.snd.snd.fst) (br (y23.snd.snd.snd.snd == 18) (kr (y24.snd.snd == 18)) (kr false)) (kr false)) (kr false)) (br x3 (br (y23.snd.snd.snd.snd == 0) (br (y24.snd.snd == 0) (V27 (Queue.mk (Policy.mk x5 x6 x7 x8) x9 x10 x11 x12) fun y25 ↦ br (y23.snd.snd.fst == decide (y25 > 0)) (kr (y23.fst.vars.getD 7 0 == x1)) (kr false)) (kr false)) (kr false)) (kr false)))
def v_5_3 (vs : List (SV env.T)) (K : Ex → List (SV env.T) → Prop) : Prop :=
  dCI .i64 vs fun x1 vs => dCB vs fun x2 vs => dCB vs fun x3 vs => dCB vs fun x4 vs => dCI .i64 vs fun x5 vs => dCI .i64 vs fun x6 vs => dCI .i64 vs fun x7 vs => dCI .i64 vs fun x8 vs => dCI .i64 vs fun x9 vs => dCD 43 vs fun x10 vs => dCA .i64 8 vs fun x11 vs => dCI .u64 vs fun x12 vs => dCI .i64 vs fun x13 vs => dCI .i64 vs fun x14 vs => dCI .i64 vs fun x15 vs => dCI .i64 vs fun x16 vs => dCI .i64 vs fun x17 vs => dCI .i64 vs fun x18 vs => dCB vs fun x19 vs => dCB vs fun x20 vs => dCE vs (s_5_3 x1 x2 x3 x4 x5 x6 x7 x8 x9 x10 x11 x12 x13 x14 x15 x16 x17 x18 x19 x20 (fun y1 => K .ret [.bool y1]))
def q_5_3 : Piece env := ⟨⟨[.any, .any, .hole, .ptr 0 0, .ptr 1 0, .any, .hole, .hole, .hole, .any, .any, .any, .any, .any, .any, .any, .any, .any, .any, .any, .any, .any, .any, .any, .any, .any, .any, .any, .any, .any, .any, .any, .any, .any, .any, .any, .any, .any, .any, .any, .any, .any, .any, .any, .any, .any, .any, .any, .any, .any, .any, .any, .any, .any, .any, .any, .any, .any, .any, .any, .any, .any, .any, .any, .any, .any, .any, .any, .any, .any, .any, .any, .any, .any, .any, .any, .any, .any, .any, .any, .any, .any, .any, .any, .any, .any, .any, .any, .any], [], [(0, .cells 28 [.hole, .hole, .hole, .hole, .hole, .holeD 43, .hole, .hole]), (1, .cells 30 [.hole, .hole, .hole, .hole, .hole, .hole, .hole, .hole])], 2⟩, exitF none [] (some ⟨[.any, .any, .any, .any, .any, .any, .hole, .any, .any, .any, .any, .any, .any, .any, .any, .any, .any, .any, .any, .any, .any, .any, .any, .any, .any, .any, .any, .any, .any, .any, .any, .any, .any, .any, .any, .any, .any, .any, .any, .any, .any, .any, .any, .any, .any, .any, .any, .any, .any, .any, .any, .any, .any, .any, .any, .any, .any, .any, .any, .any, .any, .any, .any, .any, .any, .any, .any, .any, .any, .any, .any, .any, .any, .any, .any, .any, .any, .any, .any, .any, .any, .any, .any, .any, .any, .any, .any, .any, .any], [], [], 0⟩), v_5_3⟩
noncomputable def B5 : Queue → Packet → Int → (Y5 → Prop) → Prop :=
  fun x0 x1 x2 K ↦ V15 fun y4 ↦ V25 x0 fun y5 ↦ br y5 (V29 x2 fun y6 ↦ br y6 (V26 x1 fun y7 ↦ s_5_3 x2 false y4 y7 x0.policy.kind x0.policy.a x0.policy.b x0.policy.c x0.room x0.lists x0.vars x0.seed x1.flow x1.sub x1.number x1.data x1.size x1.sent x1.able x1.marked K) (s_5_3 x2 false y4 false x0.policy.kind x0.policy.a x0.policy.b x0.policy.c x0.room x0.lists x0.vars x0.seed x1.flow x1.sub x1.number x1.data x1.size x1.sent x1.able x1.marked K)) (s_5_3 x2 false y4 false x0.policy.kind x0.policy.a x0.policy.b x0.policy.c x0.room x0.lists x0.vars x0.seed x1.flow x1.sub x1.number x1.data x1.size x1.sent x1.able x1.marked K)
theorem V5_ex : ∃ V : Queue → Packet → Int → (Y5 → Prop) → Prop, V = B5 := ⟨_, rfl⟩
noncomputable def V5 : Queue → Packet → Int → (Y5 → Prop) → Prop := Classical.choose V5_ex
theorem V5_eq : V5 = B5 := Classical.choose_spec V5_ex
theorem pooq_5_3_5 : PiecesOk Try.prog env (ctxG env false [] R3 [] []) 5 b5 :=
  pieces_at (L := []) (S := []) (fun _ => rfl) (fun _ => rfl) (by kernel_rfl) (by kernel_rfl) (fun _ hq => by cases hq) (fun _ hq => by cases hq)
theorem booq_5_3 : BodiesOk Try.prog env (ctxG env false [] R3 [] []) := bodies_okG (ks := []) (by kernel_rfl) (fun _ hq => by cases hq)
theorem stoq_5_3 (x1 : Int) (x2 : Bool) (x3 : Bool) (x4 : Bool) (x5 : Int) (x6 : Int) (x7 : Int) (x8 : Int) (x9 : Int) (x10 : (List (List Queued))) (x11 : (List Int)) (x12 : Int) (x13 : Int) (x14 : Int) (x15 : Int) (x16 : Int) (x17 : Int) (x18 : Int) (x19 : Bool) (x20 : Bool) (K : Ex → List (SV env.T) → Prop) : s_5_3  x1 x2 x3 x4 x5 x6 x7 x8 x9 x10 x11 x12 x13 x14 x15 x16 x17 x18 x19 x20 (fun y1 => K .ret [.bool y1]) = vcCode env (ctxG env false [] R3 [] []) 2000 5 (seqAt b5 3) (insSt q_5_3.head [.int .i64 x1, .bool x2, .bool x3, .bool x4, .int .i64 x5, .int .i64 x6, .int .i64 x7, .int .i64 x8, .int .i64 x9, .dat 43 x10, .arr .i64 8 x11, .int .u64 x12, .int .i64 x13, .int .i64 x14, .int .i64 x15, .int .i64 x16, .int .i64 x17, .int .i64 x18, .bool x19, .bool x20]) (outP env q_5_3 K) := by kernel_rfl
theorem wioq_5_3 (vs : List (SV env.T)) (K : Ex → List (SV env.T) → Prop) (h : v_5_3 vs K) : ∃ x1 : Int, ∃ x2 : Bool, ∃ x3 : Bool, ∃ x4 : Bool, ∃ x5 : Int, ∃ x6 : Int, ∃ x7 : Int, ∃ x8 : Int, ∃ x9 : Int, ∃ x10 : (List (List Queued)), ∃ x11 : (List Int), ∃ x12 : Int, ∃ x13 : Int, ∃ x14 : Int, ∃ x15 : Int, ∃ x16 : Int, ∃ x17 : Int, ∃ x18 : Int, ∃ x19 : Bool, ∃ x20 : Bool, vs = [.int .i64 x1, .bool x2, .bool x3, .bool x4, .int .i64 x5, .int .i64 x6, .int .i64 x7, .int .i64 x8, .int .i64 x9, .dat 43 x10, .arr .i64 8 x11, .int .u64 x12, .int .i64 x13, .int .i64 x14, .int .i64 x15, .int .i64 x16, .int .i64 x17, .int .i64 x18, .bool x19, .bool x20] ∧ s_5_3  x1 x2 x3 x4 x5 x6 x7 x8 x9 x10 x11 x12 x13 x14 x15 x16 x17 x18 x19 x20 (fun y1 => K .ret [.bool y1]) := by
  unfold v_5_3 at h
  replace h := dCI_spec h
  obtain ⟨x1, vs0, e0, h⟩ := h
  replace h := dCB_spec h
  obtain ⟨x2, vs1, e1, h⟩ := h
  replace h := dCB_spec h
  obtain ⟨x3, vs2, e2, h⟩ := h
  replace h := dCB_spec h
  obtain ⟨x4, vs3, e3, h⟩ := h
  replace h := dCI_spec h
  obtain ⟨x5, vs4, e4, h⟩ := h
  replace h := dCI_spec h
  obtain ⟨x6, vs5, e5, h⟩ := h
  replace h := dCI_spec h
  obtain ⟨x7, vs6, e6, h⟩ := h
  replace h := dCI_spec h
  obtain ⟨x8, vs7, e7, h⟩ := h
  replace h := dCI_spec h
  obtain ⟨x9, vs8, e8, h⟩ := h
  replace h := dCD_spec h
  obtain ⟨x10, vs9, e9, h⟩ := h
  replace h := dCA_spec h
  obtain ⟨x11, vs10, e10, h⟩ := h
  replace h := dCI_spec h
  obtain ⟨x12, vs11, e11, h⟩ := h
  replace h := dCI_spec h
  obtain ⟨x13, vs12, e12, h⟩ := h
  replace h := dCI_spec h
  obtain ⟨x14, vs13, e13, h⟩ := h
  replace h := dCI_spec h
  obtain ⟨x15, vs14, e14, h⟩ := h
  replace h := dCI_spec h
  obtain ⟨x16, vs15, e15, h⟩ := h
  replace h := dCI_spec h
  obtain ⟨x17, vs16, e16, h⟩ := h
  replace h := dCI_spec h
  obtain ⟨x18, vs17, e17, h⟩ := h
  replace h := dCB_spec h
  obtain ⟨x19, vs18, e18, h⟩ := h
  replace h := dCB_spec h
  obtain ⟨x20, vs19, e19, h⟩ := h
  replace h := dCE_spec h
  obtain ⟨e, h⟩ := h
  exact ⟨x1, x2, x3, x4, x5, x6, x7, x8, x9, x10, x11, x12, x13, x14, x15, x16, x17, x18, x19, x20, by rw [e0, e1, e2, e3, e4, e5, e6, e7, e8, e9, e10, e11, e12, e13, e14, e15, e16, e17, e18, e19, e], h⟩
theorem oq_5_3 : PieceOk Try.prog env q_5_3 (seqAt b5 3) := by
  refine seq_step tab (ctxG_ok R3_ok false [] _ _) booq_5_3 (pieces_subS pooq_5_3_5 (by kernel_rfl)) 2000 ?_
  intro vs K h
  obtain ⟨x1, x2, x3, x4, x5, x6, x7, x8, x9, x10, x11, x12, x13, x14, x15, x16, x17, x18, x19, x20, rfl, h⟩ := wioq_5_3 vs K h
  exact Eq.mp (stoq_5_3 x1 x2 x3 x4 x5 x6 x7 x8 x9 x10 x11 x12 x13 x14 x15 x16 x17 x18 x19 x20 K) h
theorem po_5_5 : PiecesOk Try.prog env (ctxG env false [] R3 [] [(5, [(3, q_5_3)])]) 5 b5 :=
  pieces_at (L := []) (S := [(3, q_5_3)]) (fun _ => rfl) (fun _ => rfl) (by kernel_rfl) (by kernel_rfl) (fun _ hq => by cases hq) (List.forall_mem_cons.2 ⟨fun _ => oq_5_3, (fun _ hq => by cases hq)⟩)
theorem bo_5 : BodiesOk Try.prog env (ctxG env false [] R3 [] [(5, [(3, q_5_3)])]) := bodies_okG (ks := [5]) (by kernel_rfl) (List.forall_mem_cons.2 ⟨body_at (fn := f5) (body := b5) rfl hb5 po_5_5, (fun _ hq => by cases hq)⟩)
theorem eq_5 (x0 : Queue) (x1 : Packet) (x2 : Int) (K : Y5 → Prop) : vcCode env (ctxG env false [] R3 [] [(5, [(3, q_5_3)])]) 2000 5 b5 (entry env f5 [v28 x0, v30 x1, v3 x2]) (finR env f5 decR5 K) = B5 x0 x1 x2 K := by kernel_rfl
noncomputable def rule5 : Nat × Rule env := (5, ruleF env decA5 encR5 fun x => V5 x.1 x.2.1 x.2.2)
theorem r5 : RuleOk Try.prog env 5 rule5.2 :=
  rule_fun tab (ctxG_ok R3_ok false [] _ _) bo_5 (f := 5) (fn := f5) rfl hb5 po_5_5 2000 encA5 hA5 hR5 hD5 (fun _ => of_decide_eq_true (by kernel_rfl)) (fun x K => (eq_5 x.1 x.2.1 x.2.2 K).trans (by rw [V5_eq]))
noncomputable def R5 : List (Nat × Rule env) := rule5 :: R3
theorem R5_ok : AllOk Try.prog env R5 := ⟨r5, R3_ok⟩
-- 7 queuelab/queuelablaw22.DeficitAlone
noncomputable def f7 : Func := Try.f7
noncomputable def b7 : Code := (Try.f7.body).getD .skip
abbrev X7 := Queue × Int
def encA7 (x : X7) : List (SV env.T) := [v28 x.1, v3 x.2]
def decA7 (l : List (SV env.T)) : Option X7 := match l with
  | [s0, s1] => match u28 s0, u3 s1 with
    | some x0, some x1 => some (x0, x1)
    | _, _ => none
  | _ => none
theorem hA7 (l : List (SV env.T)) (x : X7) (h : decA7 l = some x) : WkA env.has l (encA7 x) := by
  unfold decA7 at h; split at h
  · split at h
    · rename_i h0 h1; cases h; exact (.cons (u28_wk h0) (.cons (u3_wk h1) .nil))
    · cases h
  · cases h
abbrev Y7 := Bool
def encR7 (x : Y7) : List (SV env.T) := [v4 x]
def decR7 (l : List (SV env.T)) : Option Y7 := match l with
  | [s0] => match u4 s0 with
    | some x0 => some (x0)
    | _ => none
  | _ => none
theorem hR7 (l : List (SV env.T)) (x : Y7) (h : decR7 l = some x) : WkA env.has l (encR7 x) := by
  unfold decR7 at h; split at h
  · split at h
    · rename_i h0; cases h; exact (.cons (u4_wk h0) .nil)
    · cases h
  · cases h
theorem hD7 (y : Y7) : isDataV (tupV (encR7 y)) = true := rfl
theorem hb7 : f7.body = some b7 := by kernel_rfl
def l_7_12 : Nat → Int → Bool → Bool → Int → (List Packet) → Int → Int → Int → Int → Int → Int → (List (List Queued)) → (List Int) → Int → Int → Int → Int → Int → Int → (List (List Queued)) → (List Int) → Int → (Bool → Bool → Int → Int → Int → Int → Int → (List (List Queued)) → (List Int) → Int → Prop) → Prop
  | 0 => fun _ _ _ _ _ _ _ _ _ _ _ _ _ _ _ _ _ _ _ _ _ _ _ => False
  | k + 1 => fun x1 x2 x3 x4 x5 x6 x7 x8 x9 x10 x11 x12 x13 x14 x15 x16 x17 x18 x19 x20 x21 x22 k0 ↦ br (decide (x6 < x4)) (br x3 (br (inb x6 (↑x5.length : Int)) (br (inb x1 (↑x12.length : Int)) (br (inb x6 (↑(List.length (x12.getD x1.toNat (env.d 43))) : Int)) (l_7_12 k x1 x2 (andb ((x5.getD x6.toNat (env.d 30)).flow == (List.getD (x12.getD x1.toNat (env.d 43)) x6.toNat (env.d 45)).p.flow) (andb ((x5.getD x6.toNat (env.d 30)).sub == (List.getD (x12.getD x1.toNat (env.d 43)) x6.toNat (env.d 45)).p.sub) (andb ((x5.getD x6.toNat (env.d 30)).number == (List.getD (x12.getD x1.toNat (env.d 43)) x6.toNat (env.d 45)).p.number) (andb ((x5.getD x6.toNat (env.d 30)).data == (List.getD (x12.getD x1.toNat (env.d 43)) x6.toNat (env.d 45)).p.data) (andb ((x5.getD x6.toNat (env.d 30)).size == (List.getD (x12.getD x1.toNat (env.d 43)) x6.toNat (env.d 45)).p.size) (andb ((x5.getD x6.toNat (env.d 30)).sent == (List.getD (x12.getD x1.toNat (env.d 43)) x6.toNat (env.d 45)).p.sent) (andb ((x5.getD x6.toNat (env.d 30)).able == (List.getD (x12.getD x1.toNat (env.d 43)) x6.toNat (env.d 45)).p.able) ((x5.getD x6.toNat (env.d 30)).marked == (List.getD (x12.getD x1.toNat (env.d 43)) x6.toNat (env.d 45)).p.marked)))))))) x4 x5 (IntKind.i64.wrap (x6 + 1)) x7 x8 x9 x10 x11 x12 x13 x14 x15 x16 x17 x18 x19 x20 x21 x22 k0) False) False) False) (l_7_12 k x1 x2 false x4 x5 (IntKind.i64.wrap (x6 + 1)) x7 x8 x9 x10 x11 x12 x13 x14 x15 x16 x17 x18 x19 x20 x21 x22 k0)) (k0 x2 x3 x15 x16 x17 x18 x19 x20 x21 x22)
def w_7_12 (k : Nat) (vs : List (SV env.T)) (K : Ex → List (SV env.T) → Prop) : Prop :=
  dCI .i64 vs fun x1 vs => dCB vs fun x2 vs => dCB vs fun x3 vs => dCI .i64 vs fun x4 vs => dCD 30 vs fun x5 vs => dCI .i64 vs fun x6 vs => dCI .i64 vs fun x7 vs => dCI .i64 vs fun x8 vs => dCI .i64 vs fun x9 vs => dCI .i64 vs fun x10 vs => dCI .i64 vs fun x11 vs => dCD 43 vs fun x12 vs => dCA .i64 8 vs fun x13 vs => dCI .u64 vs fun x14 vs => dCI .i64 vs fun x15 vs => dCI .i64 vs fun x16 vs => dCI .i64 vs fun x17 vs => dCI .i64 vs fun x18 vs => dCI .i64 vs fun x19 vs => dCD 43 vs fun x20 vs => dCA .i64 8 vs fun x21 vs => dCI .u64 vs fun x22 vs => dCE vs (l_7_12 k x1 x2 x3 x4 x5 x6 x7 x8 x9 x10 x11 x12 x13 x14 x15 x16 x17 x18 x19 x20 x21 x22 (fun y1 y2 y3 y4 y5 y6 y7 y8 y9 y10 => K (.exit 0) [.bool y1, .bool y2, .int .i64 y3, .int .i64 y4, .int .i64 y5, .int .i64 y6, .int .i64 y7, .dat 43 y8, .arr .i64 8 y9, .int .u64 y10]))
def p_7_12 : Piece env := ⟨⟨[.any, .hole, .ptr 0 0, .any, .hole, .hole, .any, .hole, .ptr 1 0, .holeD 30, .hole, .any, .any, .any, .any, .any, .any, .any, .any, .any, .any, .any, .any, .any, .any, .any, .any, .any, .any, .any, .any, .any, .any, .any, .any, .any, .any, .any, .any, .any, .any, .any, .any, .any, .any, .any, .any, .any, .any, .any, .any, .any, .any, .any, .any, .any, .any, .any, .any, .any, .any, .any, .any, .any, .any, .any, .any, .any, .any, .any, .any, .any, .any, .any, .any, .any, .any, .any, .any, .any, .any, .any, .any, .any, .any, .any, .any, .any, .any, .any, .any, .any, .any, .any, .any, .any, .any, .any, .any, .any, .any], [], [(0, .cells 28 [.hole, .hole, .hole, .hole, .hole, .holeD 43, .hole, .hole]), (1, .cells 28 [.hole, .hole, .hole, .hole, .hole, .holeD 43, .hole, .hole])], 2⟩, exitF none [(0, ⟨[.any, .any, .any, .any, .hole, .hole, .any, .any, .ptr 0 0, .any, .any, .any, .any, .any, .any, .any, .any, .any, .any, .any, .any, .any, .any, .any, .any, .any, .any, .any, .any, .any, .any, .any, .any, .any, .any, .any, .any, .any, .any, .any, .any, .any, .any, .any, .any, .any, .any, .any, .any, .any, .any, .any, .any, .any, .any, .any, .any, .any, .any, .any, .any, .any, .any, .any, .any, .any, .any, .any, .any, .any, .any, .any, .any, .any, .any, .any, .any, .any, .any, .any, .any, .any, .any, .any, .any, .any, .any, .any, .any, .any, .any, .any, .any, .any, .any, .any, .any, .any, .any, .any, .any], [], [(0, .cells 28 [.hole, .hole, .hole, .hole, .hole, .holeD 43, .hole, .hole])], 1⟩)] none, fun vs K => ∃ k, w_7_12 k vs K⟩
def s_7_8 : Int → Bool → Bool → Int → Int → Int → Int → Int → Int → (List (List Queued)) → (List Int) → Int → (Bool → Prop) → Prop :=
  fun x1 x2 x3 x4 x5 x6 x7 x8 x9 x10 x11 x12 kr ↦ V32 (Queue.mk (Policy.mk x5 x6 x7 x8) x9 x10 x11 x12) x4 fun y15 ↦ br ((↑y15.snd.length : Int) != x4) (kr false) (∃ k16, l_7_12 k16 x1 x2 x3 x4 y15.snd 0 x5 x6 x7 x8 x9 x10 x11 x12 y15.fst.policy.kind y15.fst.policy.a y15.fst.policy.b y15.fst.policy.c y15.fst.room y15.fst.lists y15.fst.vars y15.fst.seed fun _ y18 y19 y20 y21 y22 y23 y24 y25 y26 ↦ V19 (Queue.mk (Policy.mk y19 y20 y21 y22) y23 y24 y25 y26) (y25.getD 7 0) fun y27 ↦ br y18 (br (!y27.snd.snd.fst) (kr (y27.snd.snd.snd.snd == 0)) (kr false)) (kr false))
def v_7_8 (vs : List (SV env.T)) (K : Ex → List (SV env.T) → Prop) : Prop :=
  dCI .i64 vs fun x1 vs => dCB vs fun x2 vs => dCB vs fun x3 vs => dCI .i64 vs fun x4 vs => dCI .i64 vs fun x5 vs => dCI .i64 vs fun x6 vs => dCI .i64 vs fun x7 vs => dCI .i64 vs fun x8 vs => dCI .i64 vs fun x9 vs => dCD 43 vs fun x10 vs => dCA .i64 8 vs fun x11 vs => dCI .u64 vs fun x12 vs => dCE vs (s_7_8 x1 x2 x3 x4 x5 x6 x7 x8 x9 x10 x11 x12 (fun y1 => K .ret [.bool y1]))
def q_7_8 : Piece env := ⟨⟨[.any, .hole, .ptr 0 0, .any, .hole, .hole, .any, .hole, .any, .any, .any, .any, .any, .any, .any, .any, .any, .any, .any, .any, .any, .any, .any, .any, .any, .any, .any, .any, .any, .any, .any, .any, .any, .any, .any, .any, .any, .any, .any, .any, .any, .any, .any, .any, .any, .any, .any, .any, .any, .any, .any, .any, .any, .any, .any, .any, .any, .any, .any, .any, .any, .any, .any, .any, .any, .any, .any, .any, .any, .any, .any, .any, .any, .any, .any, .any, .any, .any, .any, .any, .any, .any, .any, .any, .any, .any, .any, .any, .any, .any, .any, .any, .any, .any, .any, .any, .any, .any, .any, .any, .any], [], [(0, .cells 28 [.hole, .hole, .hole, .hole, .hole, .holeD 43, .hole, .hole])], 1⟩, exitF none [] (some ⟨[.any, .any, .any, .any, .hole, .any, .any, .any, .any, .any, .any, .any, .any, .any, .any, .any, .any, .any, .any, .any, .any, .any, .any, .any, .any, .any, .any, .any, .any, .any, .any, .any, .any, .any, .any, .any, .any, .any, .any, .any, .any, .any, .any, .any, .any, .any, .any, .any, .any, .any, .any, .any, .any, .any, .any, .any, .any, .any, .any, .any, .any, .any, .any, .any, .any, .any, .any, .any, .any, .any, .any, .any, .any, .any, .any, .any, .any, .any, .any, .any, .any, .any, .any, .any, .any, .any, .any, .any, .any, .any, .any, .any, .any, .any, .any, .any, .any, .any, .any, .any, .any], [], [], 0⟩), v_7_8⟩
def s_7_5 : Int → Bool → Bool → Int → Int → Int → Int → Int → (List (List Queued)) → (List Int) → Int → (Bool → Prop) → Prop :=
  fun x1 x2 x3 x4 x5 x6 x7 x8 x9 x10 x11 kr ↦ br (inb x1 (↑x9.length : Int)) (br ((↑(List.length (x9.getD x1.toNat (env.d 43))) : Int) == 0) (kr x3) (br (decide ((↑(List.length (x9.getD x1.toNat (env.d 43))) : Int) > 100)) (kr x3) (V27 (Queue.mk (Policy.mk x4 x5 x6 x7) x8 x9 x10 x11) fun y14 ↦ br (y14 != (↑(List.length (x9.getD x1.toNat (env.d 43))) : Int)) (kr x3) (s_7_8 x1 x2 x3 (↑(List.length (x9.getD x1.toNat (env.d 43))) : Int) x4 x5 x6 x7 x8 x9 x10 x11 kr)))) False
def v_7_5 (vs : List (SV env.T)) (K : Ex → List (SV env.T) → Prop) : Prop :=
  dCI .i64 vs fun x1 vs => dCB vs fun x2 vs => dCB vs fun x3 vs => dCI .i64 vs fun x4 vs => dCI .i64 vs fun x5 vs => dCI .i64 vs fun x6 vs => dCI .i64 vs fun x7 vs => dCI .i64 vs fun x8 vs => dCD 43 vs fun x9 vs => dCA .i64 8 vs fun x10 vs => dCI .u64 vs fun x11 vs => dCE vs (s_7_5 x1 x2 x3 x4 x5 x6 x7 x8 x9 x10 x11 (fun y1 => K .ret [.bool y1]))
def q_7_5 : Piece env := ⟨⟨[.any, .hole, .ptr 0 0, .any, .hole, .hole, .any, .any, .any, .any, .any, .any, .any, .any, .any, .any, .any, .any, .any, .any, .any, .any, .any, .any, .any, .any, .any, .any, .any, .any, .any, .any, .any, .any, .any, .any, .any, .any, .any, .any, .any, .any, .any, .any, .any, .any, .any, .any, .any, .any, .any, .any, .any, .any, .any, .any, .any, .any, .any, .any, .any, .any, .any, .any, .any, .any, .any, .any, .any, .any, .any, .any, .any, .any, .any, .any, .any, .any, .any, .any, .any, .any, .any, .any, .any, .any, .any, .any, .any, .any, .any, .any, .any, .any, .any, .any, .any, .any, .any, .any, .any], [], [(0, .cells 28 [.hole, .hole, .hole, .hole, .hole, .holeD 43, .hole, .hole])], 1⟩, exitF none [] (some ⟨[.any, .any, .any, .any, .hole, .any, .any, .any, .any, .any, .any, .any, .any, .any, .any, .any, .any, .any, .any, .any, .any, .any, .any, .any, .any, .any, .any, .any, .any, .any, .any, .any, .any, .any, .any, .any, .any, .any, .any, .any, .any, .any, .any, .any, .any, .any, .any, .any, .any, .any, .any, .any, .any, .any, .any, .any, .any, .any, .any, .any, .any, .any, .any, .any, .any, .any, .any, .any, .any, .any, .any, .any, .any, .any, .any, .any, .any, .any, .any, .any, .any, .any, .any, .any, .any, .any, .any, .any, .any, .any, .any, .any, .any, .any, .any, .any, .any, .any, .any, .any, .any], [], [], 0⟩), v_7_5⟩
noncomputable def B7 : Queue → Int → (Y7 → Prop) → Prop :=
  fun x0 x1 K ↦ V15 fun y3 ↦ V25 x0 fun y4 ↦ br (!y4) (K y3) (br (decide (x1 < 0)) (K y3) (br (decide (x1 ≥ 8)) (K y3) (s_7_5 x1 false y3 x0.policy.kind x0.policy.a x0.policy.b x0.policy.c x0.room x0.lists x0.vars x0.seed K)))
theorem V7_ex : ∃ V : Queue → Int → (Y7 → Prop) → Prop, V = B7 := ⟨_, rfl⟩
noncomputable def V7 : Queue → Int → (Y7 → Prop) → Prop := Classical.choose V7_ex
theorem V7_eq : V7 = B7 := Classical.choose_spec V7_ex
theorem pook_7_12_7 : PiecesOk Try.prog env (ctxG env false [] R5 [] []) 7 b7 :=
  pieces_at (L := []) (S := []) (fun _ => rfl) (fun _ => rfl) (by kernel_rfl) (by kernel_rfl) (fun _ hq => by cases hq) (fun _ hq => by cases hq)
theorem book_7_12 : BodiesOk Try.prog env (ctxG env false [] R5 [] []) := bodies_okG (ks := []) (by kernel_rfl) (fun _ hq => by cases hq)
theorem stok_7_12 (k : Nat) (x1 : Int) (x2 : Bool) (x3 : Bool) (x4 : Int) (x5 : (List Packet)) (x6 : Int) (x7 : Int) (x8 : Int) (x9 : Int) (x10 : Int) (x11 : Int) (x12 : (List (List Queued))) (x13 : (List Int)) (x14 : Int) (x15 : Int) (x16 : Int) (x17 : Int) (x18 : Int) (x19 : Int) (x20 : (List (List Queued))) (x21 : (List Int)) (x22 : Int) (K : Ex → List (SV env.T) → Prop) : l_7_12 (k + 1) x1 x2 x3 x4 x5 x6 x7 x8 x9 x10 x11 x12 x13 x14 x15 x16 x17 x18 x19 x20 x21 x22 (fun y1 y2 y3 y4 y5 y6 y7 y8 y9 y10 => K (.exit 0) [.bool y1, .bool y2, .int .i64 y3, .int .i64 y4, .int .i64 y5, .int .i64 y6, .int .i64 y7, .dat 43 y8, .arr .i64 8 y9, .int .u64 y10]) = vcCode env (ctxG env false [] R5 [] []) 2000 7 (loopAt b7 12) (insSt p_7_12.head [.int .i64 x1, .bool x2, .bool x3, .int .i64 x4, .dat 30 x5, .int .i64 x6, .int .i64 x7, .int .i64 x8, .int .i64 x9, .int .i64 x10, .int .i64 x11, .dat 43 x12, .arr .i64 8 x13, .int .u64 x14, .int .i64 x15, .int .i64 x16, .int .i64 x17, .int .i64 x18, .int .i64 x19, .dat 43 x20, .arr .i64 8 x21, .int .u64 x22]) (stepK p_7_12 (w_7_12 k) K) := by kernel_rfl
theorem wiok_7_12 (k : Nat) (vs : List (SV env.T)) (K : Ex → List (SV env.T) → Prop) (h : w_7_12 k vs K) : ∃ x1 : Int, ∃ x2 : Bool, ∃ x3 : Bool, ∃ x4 : Int, ∃ x5 : (List Packet), ∃ x6 : Int, ∃ x7 : Int, ∃ x8 : Int, ∃ x9 : Int, ∃ x10 : Int, ∃ x11 : Int, ∃ x12 : (List (List Queued)), ∃ x13 : (List Int), ∃ x14 : Int, ∃ x15 : Int, ∃ x16 : Int, ∃ x17 : Int, ∃ x18 : Int, ∃ x19 : Int, ∃ x20 : (List (List Queued)), ∃ x21 : (List Int), ∃ x22 : Int, vs = [.int .i64 x1, .bool x2, .bool x3, .int .i64 x4, .dat 30 x5, .int .i64 x6, .int .i64 x7, .int .i64 x8, .int .i64 x9, .int .i64 x10, .int .i64 x11, .dat 43 x12, .arr .i64 8 x13, .int .u64 x14, .int .i64 x15, .int .i64 x16, .int .i64 x17, .int .i64 x18, .int .i64 x19, .dat 43 x20, .arr .i64 8 x21, .int .u64 x22] ∧ l_7_12 k x1 x2 x3 x4 x5 x6 x7 x8 x9 x10 x11 x12 x13 x14 x15 x16 x17 x18 x19 x20 x21 x22 (fun y1 y2 y3 y4 y5 y6 y7 y8 y9 y10 => K (.exit 0) [.bool y1, .bool y2, .int .i64 y3, .int .i64 y4, .int .i64 y5, .int .i64 y6, .int .i64 y7, .dat 43 y8, .arr .i64 8 y9, .int .u64 y10]) := by
  unfold w_7_12 at h
  replace h := dCI_spec h
  obtain ⟨x1, vs0, e0, h⟩ := h
  replace h := dCB_spec h
  obtain ⟨x2, vs1, e1, h⟩ := h
  replace h := dCB_spec h
  obtain ⟨x3, vs2, e2, h⟩ := h
  replace h := dCI_spec h
  obtain ⟨x4, vs3, e3, h⟩ := h
  replace h := dCD_spec h
  obtain ⟨x5, vs4, e4, h⟩ := h
  replace h := dCI_spec h
  obtain ⟨x6, vs5, e5, h⟩ := h
  replace h := dCI_spec h
  obtain ⟨x7, vs6, e6, h⟩ := h
  replace h := dCI_spec h
  obtain ⟨x8, vs7, e7, h⟩ := h
  replace h := dCI_spec h
  obtain ⟨x9, vs8, e8, h⟩ := h
  replace h := dCI_spec h
  obtain ⟨x10, vs9, e9, h⟩ := h
  replace h := dCI_spec h
  obtain ⟨x11, vs10, e10, h⟩ := h
  replace h := dCD_spec h
  obtain ⟨x12, vs11, e11, h⟩ := h
  replace h := dCA_spec h
  obtain ⟨x13, vs12, e12, h⟩ := h
  replace h := dCI_spec h
  obtain ⟨x14, vs13, e13, h⟩ := h
  replace h := dCI_spec h
  obtain ⟨x15, vs14, e14, h⟩ := h
  replace h := dCI_spec h
  obtain ⟨x16, vs15, e15, h⟩ := h
  replace h := dCI_spec h
  obtain ⟨x17, vs16, e16, h⟩ := h
  replace h := dCI_spec h
  obtain ⟨x18, vs17, e17, h⟩ := h
  replace h := dCI_spec h
  obtain ⟨x19, vs18, e18, h⟩ := h
  replace h := dCD_spec h
  obtain ⟨x20, vs19, e19, h⟩ := h
  replace h := dCA_spec h
  obtain ⟨x21, vs20, e20, h⟩ := h
  replace h := dCI_spec h
  obtain ⟨x22, vs21, e21, h⟩ := h
  replace h := dCE_spec h
  obtain ⟨e, h⟩ := h
  exact ⟨x1, x2, x3, x4, x5, x6, x7, x8, x9, x10, x11, x12, x13, x14, x15, x16, x17, x18, x19, x20, x21, x22, by rw [e0, e1, e2, e3, e4, e5, e6, e7, e8, e9, e10, e11, e12, e13, e14, e15, e16, e17, e18, e19, e20, e21, e], h⟩
theorem zeok_7_12 (x1 : Int) (x2 : Bool) (x3 : Bool) (x4 : Int) (x5 : (List Packet)) (x6 : Int) (x7 : Int) (x8 : Int) (x9 : Int) (x10 : Int) (x11 : Int) (x12 : (List (List Queued))) (x13 : (List Int)) (x14 : Int) (x15 : Int) (x16 : Int) (x17 : Int) (x18 : Int) (x19 : Int) (x20 : (List (List Queued))) (x21 : (List Int)) (x22 : Int) (K : Ex → List (SV env.T) → Prop) : l_7_12 0 x1 x2 x3 x4 x5 x6 x7 x8 x9 x10 x11 x12 x13 x14 x15 x16 x17 x18 x19 x20 x21 x22 (fun y1 y2 y3 y4 y5 y6 y7 y8 y9 y10 => K (.exit 0) [.bool y1, .bool y2, .int .i64 y3, .int .i64 y4, .int .i64 y5, .int .i64 y6, .int .i64 y7, .dat 43 y8, .arr .i64 8 y9, .int .u64 y10]) = False := by kernel_rfl
theorem ok_7_12 : PieceOk Try.prog env p_7_12 (.loop (loopAt b7 12)) := by
  refine loop_step (Wn := w_7_12) tab (ctxG_ok R5_ok false [] _ _) book_7_12 (pieces_sub pook_7_12_7 (by kernel_rfl)) rfl ?_ 2000 ?_
  · intro vs K h
    obtain ⟨x1, x2, x3, x4, x5, x6, x7, x8, x9, x10, x11, x12, x13, x14, x15, x16, x17, x18, x19, x20, x21, x22, _, h⟩ := wiok_7_12 0 vs K h
    exact Eq.mp (zeok_7_12 x1 x2 x3 x4 x5 x6 x7 x8 x9 x10 x11 x12 x13 x14 x15 x16 x17 x18 x19 x20 x21 x22 K) h
  · intro k vs K h
    obtain ⟨x1, x2, x3, x4, x5, x6, x7, x8, x9, x10, x11, x12, x13, x14, x15, x16, x17, x18, x19, x20, x21, x22, rfl, h⟩ := wiok_7_12 (k + 1) vs K h
    exact Eq.mp (stok_7_12 k x1 x2 x3 x4 x5 x6 x7 x8 x9 x10 x11 x12 x13 x14 x15 x16 x17 x18 x19 x20 x21 x22 K) h
theorem pooq_7_8_7 : PiecesOk Try.prog env (ctxG env false [] R5 [(7, [(12, p_7_12)])] []) 7 b7 :=
  pieces_at (L := [(12, p_7_12)]) (S := []) (fun _ => rfl) (fun _ => rfl) (by kernel_rfl) (by kernel_rfl) (List.forall_mem_cons.2 ⟨fun _ => ok_7_12, (fun _ hq => by cases hq)⟩) (fun _ hq => by cases hq)
theorem booq_7_8 : BodiesOk Try.prog env (ctxG env false [] R5 [(7, [(12, p_7_12)])] []) := bodies_okG (ks := [7]) (by kernel_rfl) (List.forall_mem_cons.2 ⟨body_at (fn := f7) (body := b7) rfl hb7 pooq_7_8_7, (fun _ hq => by cases hq)⟩)
theorem stoq_7_8 (x1 : Int) (x2 : Bool) (x3 : Bool) (x4 : Int) (x5 : Int) (x6 : Int) (x7 : Int) (x8 : Int) (x9 : Int) (x10 : (List (List Queued))) (x11 : (List Int)) (x12 : Int) (K : Ex → List (SV env.T) → Prop) : s_7_8  x1 x2 x3 x4 x5 x6 x7 x8 x9 x10 x11 x12 (fun y1 => K .ret [.bool y1]) = vcCode env (ctxG env false [] R5 [(7, [(12, p_7_12)])] []) 2000 7 (seqAt b7 8) (insSt q_7_8.head [.int .i64 x1, .bool x2, .bool x3, .int .i64 x4, .int .i64 x5, .int .i64 x6, .int .i64 x7, .int .i64 x8, .int .i64 x9, .dat 43 x10, .arr .i64 8 x11, .int .u64 x12]) (outP env q_7_8 K) := by kernel_rfl
theorem wioq_7_8 (vs : List (SV env.T)) (K : Ex → List (SV env.T) → Prop) (h : v_7_8 vs K) : ∃ x1 : Int, ∃ x2 : Bool, ∃ x3 : Bool, ∃ x4 : Int, ∃ x5 : Int, ∃ x6 : Int, ∃ x7 : Int, ∃ x8 : Int, ∃ x9 : Int, ∃ x10 : (List (List Queued)), ∃ x11 : (List Int), ∃ x12 : Int, vs = [.int .i64 x1, .bool x2, .bool x3, .int .i64 x4, .int .i64 x5, .int .i64 x6, .int .i64 x7, .int .i64 x8, .int .i64 x9, .dat 43 x10, .arr .i64 8 x11, .int .u64 x12] ∧ s_7_8  x1 x2 x3 x4 x5 x6 x7 x8 x9 x10 x11 x12 (fun y1 => K .ret [.bool y1]) := by
  unfold v_7_8 at h
  replace h := dCI_spec h
  obtain ⟨x1, vs0, e0, h⟩ := h
  replace h := dCB_spec h
  obtain ⟨x2, vs1, e1, h⟩ := h
  replace h := dCB_spec h
  obtain ⟨x3, vs2, e2, h⟩ := h
  replace h := dCI_spec h
  obtain ⟨x4, vs3, e3, h⟩ := h
  replace h := dCI_spec h
  obtain ⟨x5, vs4, e4, h⟩ := h
  replace h := dCI_spec h
  obtain ⟨x6, vs5, e5, h⟩ := h
  replace h := dCI_spec h
  obtain ⟨x7, vs6, e6, h⟩ := h
  replace h := dCI_spec h
  obtain ⟨x8, vs7, e7, h⟩ := h
  replace h := dCI_spec h
  obtain ⟨x9, vs8, e8, h⟩ := h
  replace h := dCD_spec h
  obtain ⟨x10, vs9, e9, h⟩ := h
  replace h := dCA_spec h
  obtain ⟨x11, vs10, e10, h⟩ := h
  replace h := dCI_spec h
  obtain ⟨x12, vs11, e11, h⟩ := h
  replace h := dCE_spec h
  obtain ⟨e, h⟩ := h
  exact ⟨x1, x2, x3, x4, x5, x6, x7, x8, x9, x10, x11, x12, by rw [e0, e1, e2, e3, e4, e5, e6, e7, e8, e9, e10, e11, e], h⟩
theorem oq_7_8 : PieceOk Try.prog env q_7_8 (seqAt b7 8) := by
  refine seq_step tab (ctxG_ok R5_ok false [] _ _) booq_7_8 (pieces_subS pooq_7_8_7 (by kernel_rfl)) 2000 ?_
  intro vs K h
  obtain ⟨x1, x2, x3, x4, x5, x6, x7, x8, x9, x10, x11, x12, rfl, h⟩ := wioq_7_8 vs K h
  exact Eq.mp (stoq_7_8 x1 x2 x3 x4 x5 x6 x7 x8 x9 x10 x11 x12 K) h
theorem pooq_7_5_7 : PiecesOk Try.prog env (ctxG env false [] R5 [(7, [(12, p_7_12)])] [(7, [(8, q_7_8)])]) 7 b7 :=
  pieces_at (L := [(12, p_7_12)]) (S := [(8, q_7_8)]) (fun _ => rfl) (fun _ => rfl) (by kernel_rfl) (by kernel_rfl) (List.forall_mem_cons.2 ⟨fun _ => ok_7_12, (fun _ hq => by cases hq)⟩) (List.forall_mem_cons.2 ⟨fun _ => oq_7_8, (fun _ hq => by cases hq)⟩)
theorem booq_7_5 : BodiesOk Try.prog env (ctxG env false [] R5 [(7, [(12, p_7_12)])] [(7, [(8, q_7_8)])]) := bodies_okG (ks := [7]) (by kernel_rfl) (List.forall_mem_cons.2 ⟨body_at (fn := f7) (body := b7) rfl hb7 pooq_7_5_7, (fun _ hq => by cases hq)⟩)
theorem stoq_7_5 (x1 : Int) (x2 : Bool) (x3 : Bool) (x4 : Int) (x5 : Int) (x6 : Int) (x7 : Int) (x8 : Int) (x9 : (List (List Queued))) (x10 : (List Int)) (x11 : Int) (K : Ex → List (SV env.T) → Prop) : s_7_5  x1 x2 x3 x4 x5 x6 x7 x8 x9 x10 x11 (fun y1 => K .ret [.bool y1]) = vcCode env (ctxG env false [] R5 [(7, [(12, p_7_12)])] [(7, [(8, q_7_8)])]) 2000 7 (seqAt b7 5) (insSt q_7_5.head [.int .i64 x1, .bool x2, .bool x3, .int .i64 x4, .int .i64 x5, .int .i64 x6, .int .i64 x7, .int .i64 x8, .dat 43 x9, .arr .i64 8 x10, .int .u64 x11]) (outP env q_7_5 K) := by kernel_rfl
theorem wioq_7_5 (vs : List (SV env.T)) (K : Ex → List (SV env.T) → Prop) (h : v_7_5 vs K) : ∃ x1 : Int, ∃ x2 : Bool, ∃ x3 : Bool, ∃ x4 : Int, ∃ x5 : Int, ∃ x6 : Int, ∃ x7 : Int, ∃ x8 : Int, ∃ x9 : (List (List Queued)), ∃ x10 : (List Int), ∃ x11 : Int, vs = [.int .i64 x1, .bool x2, .bool x3, .int .i64 x4, .int .i64 x5, .int .i64 x6, .int .i64 x7, .int .i64 x8, .dat 43 x9, .arr .i64 8 x10, .int .u64 x11] ∧ s_7_5  x1 x2 x3 x4 x5 x6 x7 x8 x9 x10 x11 (fun y1 => K .ret [.bool y1]) := by
  unfold v_7_5 at h
  replace h := dCI_spec h
  obtain ⟨x1, vs0, e0, h⟩ := h
  replace h := dCB_spec h
  obtain ⟨x2, vs1, e1, h⟩ := h
  replace h := dCB_spec h
  obtain ⟨x3, vs2, e2, h⟩ := h
  replace h := dCI_spec h
  obtain ⟨x4, vs3, e3, h⟩ := h
  replace h := dCI_spec h
  obtain ⟨x5, vs4, e4, h⟩ := h
  replace h := dCI_spec h
  obtain ⟨x6, vs5, e5, h⟩ := h
  replace h := dCI_spec h
  obtain ⟨x7, vs6, e6, h⟩ := h
  replace h := dCI_spec h
  obtain ⟨x8, vs7, e7, h⟩ := h
  replace h := dCD_spec h
  obtain ⟨x9, vs8, e8, h⟩ := h
  replace h := dCA_spec h
  obtain ⟨x10, vs9, e9, h⟩ := h
  replace h := dCI_spec h
  obtain ⟨x11, vs10, e10, h⟩ := h
  replace h := dCE_spec h
  obtain ⟨e, h⟩ := h
  exact ⟨x1, x2, x3, x4, x5, x6, x7, x8, x9, x10, x11, by rw [e0, e1, e2, e3, e4, e5, e6, e7, e8, e9, e10, e], h⟩
theorem oq_7_5 : PieceOk Try.prog env q_7_5 (seqAt b7 5) := by
  refine seq_step tab (ctxG_ok R5_ok false [] _ _) booq_7_5 (pieces_subS pooq_7_5_7 (by kernel_rfl)) 2000 ?_
  intro vs K h
  obtain ⟨x1, x2, x3, x4, x5, x6, x7, x8, x9, x10, x11, rfl, h⟩ := wioq_7_5 vs K h
  exact Eq.mp (stoq_7_5 x1 x2 x3 x4 x5 x6 x7 x8 x9 x10 x11 K) h
theorem po_7_7 : PiecesOk Try.prog env (ctxG env false [] R5 [(7, [(12, p_7_12)])] [(7, [(8, q_7_8), (5, q_7_5)])]) 7 b7 :=
  pieces_at (L := [(12, p_7_12)]) (S := [(8, q_7_8), (5, q_7_5)]) (fun _ => rfl) (fun _ => rfl) (by kernel_rfl) (by kernel_rfl) (List.forall_mem_cons.2 ⟨fun _ => ok_7_12, (fun _ hq => by cases hq)⟩) (List.forall_mem_cons.2 ⟨fun _ => oq_7_8, (List.forall_mem_cons.2 ⟨fun _ => oq_7_5, (fun _ hq => by cases hq)⟩)⟩)
theorem bo_7 : BodiesOk Try.prog env (ctxG env false [] R5 [(7, [(12, p_7_12)])] [(7, [(8, q_7_8), (5, q_7_5)])]) := bodies_okG (ks := [7]) (by kernel_rfl) (List.forall_mem_cons.2 ⟨body_at (fn := f7) (body := b7) rfl hb7 po_7_7, (fun _ hq => by cases hq)⟩)
theorem eq_7 (x0 : Queue) (x1 : Int) (K : Y7 → Prop) : vcCode env (ctxG env false [] R5 [(7, [(12, p_7_12)])] [(7, [(8, q_7_8), (5, q_7_5)])]) 2000 7 b7 (entry env f7 [v28 x0, v3 x1]) (finR env f7 decR7 K) = B7 x0 x1 K := by kernel_rfl
noncomputable def rule7 : Nat × Rule env := (7, ruleF env decA7 encR7 fun x => V7 x.1 x.2)
theorem r7 : RuleOk Try.prog env 7 rule7.2 :=
  rule_fun tab (ctxG_ok R5_ok false [] _ _) bo_7 (f := 7) (fn := f7) rfl hb7 po_7_7 2000 encA7 hA7 hR7 hD7 (fun _ => of_decide_eq_true (by kernel_rfl)) (fun x K => (eq_7 x.1 x.2 K).trans (by rw [V7_eq]))
noncomputable def R7 : List (Nat × Rule env) := rule7 :: R5
theorem R7_ok : AllOk Try.prog env R7 := ⟨r7, R5_ok⟩
-- 8 queuelab/queuelablaw22.DeficitRounds
noncomputable def f8 : Func := Try.f8
noncomputable def b8 : Code := (Try.f8.body).getD .skip
abbrev X8 := Int × (List Int)
def encA8 (x : X8) : List (SV env.T) := [v3 x.1, v62 x.2]
def decA8 (l : List (SV env.T)) : Option X8 := match l with
  | [s0, s1] => match u3 s0, u62 s1 with
    | some x0, some x1 => some (x0, x1)
    | _, _ => none
  | _ => none
theorem hA8 (l : List (SV env.T)) (x : X8) (h : decA8 l = some x) : WkA env.has l (encA8 x) := by
  unfold decA8 at h; split at h
  · split at h
    · rename_i h0 h1; cases h; exact (.cons (u3_wk h0) (.cons (u62_wk h1) .nil))
    · cases h
  · cases h
abbrev Y8 := Bool
def encR8 (x : Y8) : List (SV env.T) := [v4 x]
def decR8 (l : List (SV env.T)) : Option Y8 := match l with
  | [s0] => match u4 s0 with
    | some x0 => some (x0)
    | _ => none
  | _ => none
theorem hR8 (l : List (SV env.T)) (x : Y8) (h : decR8 l = some x) : WkA env.has l (encR8 x) := by
  unfold decR8 at h; split at h
  · split at h
    · rename_i h0; cases h; exact (.cons (u4_wk h0) .nil)
    · cases h
  · cases h
theorem hD8 (y : Y8) : isDataV (tupV (encR8 y)) = true := rfl
theorem hb8 : f8.body = some b8 := by kernel_rfl
def l_8_7 : Nat → Int → (List Int) → Bool → Bool → Int → (List Int) → (List Packet) → (Int → Bool → Bool → (List Packet) → Prop) → Prop
  | 0 => fun _ _ _ _ _ _ _ _ => False
  | k + 1 => fun x1 x2 x3 x4 x5 x6 x7 k0 ↦ br (decide (x5 < (↑x2.length : Int))) (br (inb x5 (↑x2.length : Int)) (br (inb ((IntKind.i64.wrap (x2.getD x5.toNat (env.d 5))).tmod 8) (↑8 : Int)) (V34 ((IntKind.i64.wrap (x2.getD x5.toNat (env.d 5))).tmod 8) (x6.getD ((IntKind.i64.wrap (x2.getD x5.toNat (env.d 5))).tmod 8).toNat 0) x1 fun y10 ↦ br (roomB (x7 ++ [Packet.mk y10.flow y10.sub y10.number y10.data y10.size y10.sent y10.able y10.marked]).length (bytesB env 30)) (br (inb ((IntKind.i64.wrap (x2.getD x5.toNat (env.d 5))).tmod 8) (↑8 : Int)) (br (inb ((IntKind.i64.wrap (x2.getD x5.toNat (env.d 5))).tmod 8) (↑8 : Int)) (l_8_7 k x1 x2 x3 x4 (IntKind.i64.wrap (x5 + 1)) (x6.set ((IntKind.i64.wrap (x2.getD x5.toNat (env.d 5))).tmod 8).toNat (IntKind.i64.wrap (x6.getD ((IntKind.i64.wrap (x2.getD x5.toNat (env.d 5))).tmod 8).toNat 0 + 1))) (x7 ++ [Packet.mk y10.flow y10.sub y10.number y10.data y10.size y10.sent y10.able y10.marked]) k0) False) False) False) False) False) (k0 x1 x3 x4 x7)
def w_8_7 (k : Nat) (vs : List (SV env.T)) (K : Ex → List (SV env.T) → Prop) : Prop :=
  dCI .i64 vs fun x1 vs => dCD 5 vs fun x2 vs => dCB vs fun x3 vs => dCB vs fun x4 vs => dCI .i64 vs fun x5 vs => dCA .i64 8 vs fun x6 vs => dCD 30 vs fun x7 vs => dCE vs (l_8_7 k x1 x2 x3 x4 x5 x6 x7 (fun y1 y2 y3 y4 => K (.exit 0) [.int .i64 y1, .bool y2, .bool y3, .dat 30 y4]))
def p_8_7 : Piece env := ⟨⟨[.hole, .holeD 5, .any, .any, .hole, .hole, .row 1, .ptr 0 0, .hole, .any, .any, .any, .any, .any, .any, .any, .any, .any, .any, .any, .any, .any, .any, .any, .any, .any, .any, .any, .any, .any, .any, .any, .any, .any, .any, .any, .any, .any, .any, .any, .any, .any, .any, .any, .any, .any, .any, .any, .any, .any, .any, .any, .any, .any, .any, .any, .any, .any, .any, .any, .any, .any, .any, .any, .any, .any, .any, .any, .any, .any, .any, .any, .any, .any, .any, .any, .any, .any, .any, .any, .any, .any, .any, .any, .any, .any, .any, .any, .any, .any, .any, .any, .any, .any, .any, .any, .any, .any, .any, .any, .any, .any, .any, .any, .any, .any, .any, .any, .any, .any, .any, .any, .any, .any, .any, .any, .any], [], [(0, .cells 25 [.hole]), (1, .row 30)], 2⟩, exitF none [(0, ⟨[.hole, .any, .any, .any, .hole, .hole, .row 0, .any, .any, .any, .any, .any, .any, .any, .any, .any, .any, .any, .any, .any, .any, .any, .any, .any, .any, .any, .any, .any, .any, .any, .any, .any, .any, .any, .any, .any, .any, .any, .any, .any, .any, .any, .any, .any, .any, .any, .any, .any, .any, .any, .any, .any, .any, .any, .any, .any, .any, .any, .any, .any, .any, .any, .any, .any, .any, .any, .any, .any, .any, .any, .any, .any, .any, .any, .any, .any, .any, .any, .any, .any, .any, .any, .any, .any, .any, .any, .any, .any, .any, .any, .any, .any, .any, .any, .any, .any, .any, .any, .any, .any, .any, .any, .any, .any, .any, .any, .any, .any, .any, .any, .any, .any, .any, .any, .any, .any, .any], [], [(0, .row 30)], 1⟩)] none, fun vs K => ∃ k, w_8_7 k vs K⟩
def l_8_17 : Nat → Bool → Bool → (List Packet) → Int → (Bool → Bool → Prop) → Prop
  | 0 => fun _ _ _ _ _ => False
  | k + 1 => fun x1 x2 x3 x4 k2 ↦ br (decide (x4 < (↑x3.length : Int))) (br (inb (IntKind.i64.wrap (x4 - 1)) (↑x3.length : Int)) (br (inb x4 (↑x3.length : Int)) (br x2 (br (decide ((x3.getD (IntKind.i64.wrap (x4 - 1)).toNat (env.d 30)).number < (x3.getD x4.toNat (env.d 30)).number)) (l_8_17 k x1 true x3 (IntKind.i64.wrap (x4 + 1)) k2) (br ((x3.getD (IntKind.i64.wrap (x4 - 1)).toNat (env.d 30)).number == (x3.getD x4.toNat (env.d 30)).number) (l_8_17 k x1 (decide ((x3.getD (IntKind.i64.wrap (x4 - 1)).toNat (env.d 30)).flow < (x3.getD x4.toNat (env.d 30)).flow)) x3 (IntKind.i64.wrap (x4 + 1)) k2) (l_8_17 k x1 false x3 (IntKind.i64.wrap (x4 + 1)) k2))) (l_8_17 k x1 false x3 (IntKind.i64.wrap (x4 + 1)) k2)) False) False) (k2 x1 x2)
def w_8_17 (k : Nat) (vs : List (SV env.T)) (K : Ex → List (SV env.T) → Prop) : Prop :=
  dCB vs fun x1 vs => dCB vs fun x2 vs => dCD 30 vs fun x3 vs => dCI .i64 vs fun x4 vs => dCE vs (l_8_17 k x1 x2 x3 x4 (fun y1 y2 => K (.exit 2) [.bool y1, .bool y2]))
def p_8_17 : Piece env := ⟨⟨[.any, .any, .any, .any, .hole, .hole, .any, .any, .any, .any, .any, .any, .any, .holeD 30, .hole, .any, .any, .any, .any, .any, .any, .any, .any, .any, .any, .any, .any, .any, .any, .any, .any, .any, .any, .any, .any, .any, .any, .any, .any, .any, .any, .any, .any, .any, .any, .any, .any, .any, .any, .any, .any, .any, .any, .any, .any, .any, .any, .any, .any, .any, .any, .any, .any, .any, .any, .any, .any, .any, .any, .any, .any, .any, .any, .any, .any, .any, .any, .any, .any, .any, .any, .any, .any, .any, .any, .any, .any, .any, .any, .any, .any, .any, .any, .any, .any, .any, .any, .any, .any, .any, .any, .any, .any, .any, .any, .any, .any, .any, .any, .any, .any, .any, .any, .any, .any, .any, .any], [], [], 0⟩, exitF none [(2, ⟨[.any, .any, .any, .any, .hole, .hole, .any, .any, .any, .any, .any, .any, .any, .any, .any, .any, .any, .any, .any, .any, .any, .any, .any, .any, .any, .any, .any, .any, .any, .any, .any, .any, .any, .any, .any, .any, .any, .any, .any, .any, .any, .any, .any, .any, .any, .any, .any, .any, .any, .any, .any, .any, .any, .any, .any, .any, .any, .any, .any, .any, .any, .any, .any, .any, .any, .any, .any, .any, .any, .any, .any, .any, .any, .any, .any, .any, .any, .any, .any, .any, .any, .any, .any, .any, .any, .any, .any, .any, .any, .any, .any, .any, .any, .any, .any, .any, .any, .any, .any, .any, .any, .any, .any, .any, .any, .any, .any, .any, .any, .any, .any, .any, .any, .any, .any, .any, .any], [], [], 0⟩)] none, fun vs K => ∃ k, w_8_17 k vs K⟩
def s_8_16 : Bool → Bool → (List Packet) → (Bool → Prop) → Prop :=
  fun x1 x2 x3 kr ↦ ∃ k6, l_8_17 k6 x1 x2 x3 1 fun _ ↦ kr
def v_8_16 (vs : List (SV env.T)) (K : Ex → List (SV env.T) → Prop) : Prop :=
  dCB vs fun x1 vs => dCB vs fun x2 vs => dCD 30 vs fun x3 vs => dCE vs (s_8_16 x1 x2 x3 (fun y1 => K .ret [.bool y1]))
def q_8_16 : Piece env := ⟨⟨[.any, .any, .any, .any, .hole, .hole, .any, .any, .any, .any, .any, .any, .any, .holeD 30, .any, .any, .any, .any, .any, .any, .any, .any, .any, .any, .any, .any, .any, .any, .any, .any, .any, .any, .any, .any, .any, .any, .any, .any, .any, .any, .any, .any, .any, .any, .any, .any, .any, .any, .any, .any, .any, .any, .any, .any, .any, .any, .any, .any, .any, .any, .any, .any, .any, .any, .any, .any, .any, .any, .any, .any, .any, .any, .any, .any, .any, .any, .any, .any, .any, .any, .any, .any, .any, .any, .any, .any, .any, .any, .any, .any, .any, .any, .any, .any, .any, .any, .any, .any, .any, .any, .any, .any, .any, .any, .any, .any, .any, .any, .any, .any, .any, .any, .any, .any, .any, .any, .any], [], [], 0⟩, exitF none [] (some ⟨[.any, .any, .any, .any, .hole, .any, .any, .any, .any, .any, .any, .any, .any, .any, .any, .any, .any, .any, .any, .any, .any, .any, .any, .any, .any, .any, .any, .any, .any, .any, .any, .any, .any, .any, .any, .any, .any, .any, .any, .any, .any, .any, .any, .any, .any, .any, .any, .any, .any, .any, .any, .any, .any, .any, .any, .any, .any, .any, .any, .any, .any, .any, .any, .any, .any, .any, .any, .any, .any, .any, .any, .any, .any, .any, .any, .any, .any, .any, .any, .any, .any, .any, .any, .any, .any, .any, .any, .any, .any, .any, .any, .any, .any, .any, .any, .any, .any, .any, .any, .any, .any, .any, .any, .any, .any, .any, .any, .any, .any, .any, .any, .any, .any, .any, .any, .any, .any], [], [], 0⟩), v_8_16⟩
def s_8_4 : Int → (List Int) → Bool → Bool → (Bool → Prop) → Prop :=
  fun x1 x2 x3 x4 kr ↦ ∃ k7, l_8_7 k7 x1 x2 x3 x4 0 [0, 0, 0, 0, 0, 0, 0, 0] [] fun y8 y9 y10 y11 ↦ V31 y8 500 fun y12 ↦ V30 y12 y11 fun y13 ↦ V32 y13.fst (↑y11.length : Int) fun y14 ↦ br (!y13.snd) (kr false) (br ((↑y14.snd.length : Int) != (↑y11.length : Int)) (kr false) (s_8_16 y9 y10 y14.snd kr))
def v_8_4 (vs : List (SV env.T)) (K : Ex → List (SV env.T) → Prop) : Prop :=
  dCI .i64 vs fun x1 vs => dCD 5 vs fun x2 vs => dCB vs fun x3 vs => dCB vs fun x4 vs => dCE vs (s_8_4 x1 x2 x3 x4 (fun y1 => K .ret [.bool y1]))
def q_8_4 : Piece env := ⟨⟨[.hole, .holeD 5, .any, .any, .hole, .hole, .any, .any, .any, .any, .any, .any, .any, .any, .any, .any, .any, .any, .any, .any, .any, .any, .any, .any, .any, .any, .any, .any, .any, .any, .any, .any, .any, .any, .any, .any, .any, .any, .any, .any, .any, .any, .any, .any, .any, .any, .any, .any, .any, .any, .any, .any, .any, .any, .any, .any, .any, .any, .any, .any, .any, .any, .any, .any, .any, .any, .any, .any, .any, .any, .any, .any, .any, .any, .any, .any, .any, .any, .any, .any, .any, .any, .any, .any, .any, .any, .any, .any, .any, .any, .any, .any, .any, .any, .any, .any, .any, .any, .any, .any, .any, .any, .any, .any, .any, .any, .any, .any, .any, .any, .any, .any, .any, .any, .any, .any, .any], [], [], 0⟩, exitF none [] (some ⟨[.any, .any, .any, .any, .hole, .any, .any, .any, .any, .any, .any, .any, .any, .any, .any, .any, .any, .any, .any, .any, .any, .any, .any, .any, .any, .any, .any, .any, .any, .any, .any, .any, .any, .any, .any, .any, .any, .any, .any, .any, .any, .any, .any, .any, .any, .any, .any, .any, .any, .any, .any, .any, .any, .any, .any, .any, .any, .any, .any, .any, .any, .any, .any, .any, .any, .any, .any, .any, .any, .any, .any, .any, .any, .any, .any, .any, .any, .any, .any, .any, .any, .any, .any, .any, .any, .any, .any, .any, .any, .any, .any, .any, .any, .any, .any, .any, .any, .any, .any, .any, .any, .any, .any, .any, .any, .any, .any, .any, .any, .any, .any, .any, .any, .any, .any, .any, .any], [], [], 0⟩), v_8_4⟩
noncomputable def B8 : Int → (List Int) → (Y8 → Prop) → Prop :=
  fun x0 x1 K ↦ V15 fun y3 ↦ br (decide (x0 < 100)) (K y3) (br (decide (x0 > 10000)) (K y3) (br (decide ((↑x1.length : Int) > 100)) (K y3) (s_8_4 x0 x1 false y3 K)))
theorem V8_ex : ∃ V : Int → (List Int) → (Y8 → Prop) → Prop, V = B8 := ⟨_, rfl⟩
noncomputable def V8 : Int → (List Int) → (Y8 → Prop) → Prop := Classical.choose V8_ex
theorem V8_eq : V8 = B8 := Classical.choose_spec V8_ex
theorem pook_8_7_8 : PiecesOk Try.prog env (ctxG env false [] R7 [] []) 8 b8 :=
  pieces_at (L := []) (S := []) (fun _ => rfl) (fun _ => rfl) (by kernel_rfl) (by kernel_rfl) (fun _ hq => by cases hq) (fun _ hq => by cases hq)
theorem book_8_7 : BodiesOk Try.prog env (ctxG env false [] R7 [] []) := bodies_okG (ks := []) (by kernel_rfl) (fun _ hq => by cases hq)
theorem stok_8_7 (k : Nat) (x1 : Int) (x2 : (List Int)) (x3 : Bool) (x4 : Bool) (x5 : Int) (x6 : (List Int)) (x7 : (List Packet)) (K : Ex → List (SV env.T) → Prop) : l_8_7 (k + 1) x1 x2 x3 x4 x5 x6 x7 (fun y1 y2 y3 y4 => K (.exit 0) [.int .i64 y1, .bool y2, .bool y3, .dat 30 y4]) = vcCode env (ctxG env false [] R7 [] []) 2000 8 (loopAt b8 7) (insSt p_8_7.head [.int .i64 x1, .dat 5 x2, .bool x3, .bool x4, .int .i64 x5, .arr .i64 8 x6, .dat 30 x7]) (stepK p_8_7 (w_8_7 k) K) := by kernel_rfl
theorem wiok_8_7 (k : Nat) (vs : List (SV env.T)) (K : Ex → List (SV env.T) → Prop) (h : w_8_7 k vs K) : ∃ x1 : Int, ∃ x2 : (List Int), ∃ x3 : Bool, ∃ x4 : Bool, ∃ x5 : Int, ∃ x6 : (List Int), ∃ x7 : (List Packet), vs = [.int .i64 x1, .dat 5 x2, .bool x3, .bool x4, .int .i64 x5, .arr .i64 8 x6, .dat 30 x7] ∧ l_8_7 k x1 x2 x3 x4 x5 x6 x7 (fun y1 y2 y3 y4 => K (.exit 0) [.int .i64 y1, .bool y2, .bool y3, .dat 30 y4]) := by
  unfold w_8_7 at h
  replace h := dCI_spec h
  obtain ⟨x1, vs0, e0, h⟩ := h
  replace h := dCD_spec h
  obtain ⟨x2, vs1, e1, h⟩ := h
  replace h := dCB_spec h
  obtain ⟨x3, vs2, e2, h⟩ := h
  replace h := dCB_spec h
  obtain ⟨x4, vs3, e3, h⟩ := h
  replace h := dCI_spec h
  obtain ⟨x5, vs4, e4, h⟩ := h
  replace h := dCA_spec h
  obtain ⟨x6, vs5, e5, h⟩ := h
  replace h := dCD_spec h
  obtain ⟨x7, vs6, e6, h⟩ := h
  replace h := dCE_spec h
  obtain ⟨e, h⟩ := h
  exact ⟨x1, x2, x3, x4, x5, x6, x7, by rw [e0, e1, e2, e3, e4, e5, e6, e], h⟩
theorem zeok_8_7 (x1 : Int) (x2 : (List Int)) (x3 : Bool) (x4 : Bool) (x5 : Int) (x6 : (List Int)) (x7 : (List Packet)) (K : Ex → List (SV env.T) → Prop) : l_8_7 0 x1 x2 x3 x4 x5 x6 x7 (fun y1 y2 y3 y4 => K (.exit 0) [.int .i64 y1, .bool y2, .bool y3, .dat 30 y4]) = False := by kernel_rfl
theorem ok_8_7 : PieceOk Try.prog env p_8_7 (.loop (loopAt b8 7)) := by
  refine loop_step (Wn := w_8_7) tab (ctxG_ok R7_ok false [] _ _) book_8_7 (pieces_sub pook_8_7_8 (by kernel_rfl)) rfl ?_ 2000 ?_
  · intro vs K h
    obtain ⟨x1, x2, x3, x4, x5, x6, x7, _, h⟩ := wiok_8_7 0 vs K h
    exact Eq.mp (zeok_8_7 x1 x2 x3 x4 x5 x6 x7 K) h
  · intro k vs K h
    obtain ⟨x1, x2, x3, x4, x5, x6, x7, rfl, h⟩ := wiok_8_7 (k + 1) vs K h
    exact Eq.mp (stok_8_7 k x1 x2 x3 x4 x5 x6 x7 K) h
theorem pook_8_17_8 : PiecesOk Try.prog env (ctxG env false [] R7 [] []) 8 b8 :=
  pieces_at (L := []) (S := []) (fun _ => rfl) (fun _ => rfl) (by kernel_rfl) (by kernel_rfl) (fun _ hq => by cases hq) (fun _ hq => by cases hq)
theorem book_8_17 : BodiesOk Try.prog env (ctxG env false [] R7 [] []) := bodies_okG (ks := []) (by kernel_rfl) (fun _ hq => by cases hq)
theorem stok_8_17 (k : Nat) (x1 : Bool) (x2 : Bool) (x3 : (List Packet)) (x4 : Int) (K : Ex → List (SV env.T) → Prop) : l_8_17 (k + 1) x1 x2 x3 x4 (fun y1 y2 => K (.exit 2) [.bool y1, .bool y2]) = vcCode env (ctxG env false [] R7 [] []) 2000 8 (loopAt b8 17) (insSt p_8_17.head [.bool x1, .bool x2, .dat 30 x3, .int .i64 x4]) (stepK p_8_17 (w_8_17 k) K) := by kernel_rfl
theorem wiok_8_17 (k : Nat) (vs : List (SV env.T)) (K : Ex → List (SV env.T) → Prop) (h : w_8_17 k vs K) : ∃ x1 : Bool, ∃ x2 : Bool, ∃ x3 : (List Packet), ∃ x4 : Int, vs = [.bool x1, .bool x2, .dat 30 x3, .int .i64 x4] ∧ l_8_17 k x1 x2 x3 x4 (fun y1 y2 => K (.exit 2) [.bool y1, .bool y2]) := by
  unfold w_8_17 at h
  replace h := dCB_spec h
  obtain ⟨x1, vs0, e0, h⟩ := h
  replace h := dCB_spec h
  obtain ⟨x2, vs1, e1, h⟩ := h
  replace h := dCD_spec h
  obtain ⟨x3, vs2, e2, h⟩ := h
  replace h := dCI_spec h
  obtain ⟨x4, vs3, e3, h⟩ := h
  replace h := dCE_spec h
  obtain ⟨e, h⟩ := h
  exact ⟨x1, x2, x3, x4, by rw [e0, e1, e2, e3, e], h⟩
theorem zeok_8_17 (x1 : Bool) (x2 : Bool) (x3 : (List Packet)) (x4 : Int) (K : Ex → List (SV env.T) → Prop) : l_8_17 0 x1 x2 x3 x4 (fun y1 y2 => K (.exit 2) [.bool y1, .bool y2]) = False := by kernel_rfl
theorem ok_8_17 : PieceOk Try.prog env p_8_17 (.loop (loopAt b8 17)) := by
  refine loop_step (Wn := w_8_17) tab (ctxG_ok R7_ok false [] _ _) book_8_17 (pieces_sub pook_8_17_8 (by kernel_rfl)) rfl ?_ 2000 ?_
  · intro vs K h
    obtain ⟨x1, x2, x3, x4, _, h⟩ := wiok_8_17 0 vs K h
    exact Eq.mp (zeok_8_17 x1 x2 x3 x4 K) h
  · intro k vs K h
    obtain ⟨x1, x2, x3, x4, rfl, h⟩ := wiok_8_17 (k + 1) vs K h
    exact Eq.mp (stok_8_17 k x1 x2 x3 x4 K) h
theorem pooq_8_16_8 : PiecesOk Try.prog env (ctxG env false [] R7 [(8, [(17, p_8_17)])] []) 8 b8 :=
  pieces_at (L := [(17, p_8_17)]) (S := []) (fun _ => rfl) (fun _ => rfl) (by kernel_rfl) (by kernel_rfl) (List.forall_mem_cons.2 ⟨fun _ => ok_8_17, (fun _ hq => by cases hq)⟩) (fun _ hq => by cases hq)
theorem booq_8_16 : BodiesOk Try.prog env (ctxG env false [] R7 [(8, [(17, p_8_17)])] []) := bodies_okG (ks := [8]) (by kernel_rfl) (List.forall_mem_cons.2 ⟨body_at (fn := f8) (body := b8) rfl hb8 pooq_8_16_8, (fun _ hq => by cases hq)⟩)
theorem stoq_8_16 (x1 : Bool) (x2 : Bool) (x3 : (List Packet)) (K : Ex → List (SV env.T) → Prop) : s_8_16  x1 x2 x3 (fun y1 => K .ret [.bool y1]) = vcCode env (ctxG env false [] R7 [(8, [(17, p_8_17)])] []) 2000 8 (seqAt b8 16) (insSt q_8_16.head [.bool x1, .bool x2, .dat 30 x3]) (outP env q_8_16 K) := by kernel_rfl
theorem wioq_8_16 (vs : List (SV env.T)) (K : Ex → List (SV env.T) → Prop) (h : v_8_16 vs K) : ∃ x1 : Bool, ∃ x2 : Bool, ∃ x3 : (List Packet), vs = [.bool x1, .bool x2, .dat 30 x3] ∧ s_8_16  x1 x2 x3 (fun y1 => K .ret [.bool y1]) := by
  unfold v_8_16 at h
  replace h := dCB_spec h
  obtain ⟨x1, vs0, e0, h⟩ := h
  replace h := dCB_spec h
  obtain ⟨x2, vs1, e1, h⟩ := h
  replace h := dCD_spec h
  obtain ⟨x3, vs2, e2, h⟩ := h
  replace h := dCE_spec h
  obtain ⟨e, h⟩ := h
  exact ⟨x1, x2, x3, by rw [e0, e1, e2, e], h⟩
theorem oq_8_16 : PieceOk Try.prog env q_8_16 (seqAt b8 16) := by
  refine seq_step tab (ctxG_ok R7_ok false [] _ _) booq_8_16 (pieces_subS pooq_8_16_8 (by kernel_rfl)) 2000 ?_
  intro vs K h
  obtain ⟨x1, x2, x3, rfl, h⟩ := wioq_8_16 vs K h
  exact Eq.mp (stoq_8_16 x1 x2 x3 K) h
theorem pooq_8_4_8 : PiecesOk Try.prog env (ctxG env false [] R7 [(8, [(7, p_8_7), (17, p_8_17)])] [(8, [(16, q_8_16)])]) 8 b8 :=
  pieces_at (L := [(7, p_8_7), (17, p_8_17)]) (S := [(16, q_8_16)]) (fun _ => rfl) (fun _ => rfl) (by kernel_rfl) (by kernel_rfl) (List.forall_mem_cons.2 ⟨fun _ => ok_8_7, (List.forall_mem_cons.2 ⟨fun _ => ok_8_17, (fun _ hq => by cases hq)⟩)⟩) (List.forall_mem_cons.2 ⟨fun _ => oq_8_16, (fun _ hq => by cases hq)⟩)
theorem booq_8_4 : BodiesOk Try.prog env (ctxG env false [] R7 [(8, [(7, p_8_7), (17, p_8_17)])] [(8, [(16, q_8_16)])]) := bodies_okG (ks := [8]) (by kernel_rfl) (List.forall_mem_cons.2 ⟨body_at (fn := f8) (body := b8) rfl hb8 pooq_8_4_8, (fun _ hq => by cases hq)⟩)
theorem stoq_8_4 (x1 : Int) (x2 : (List Int)) (x3 : Bool) (x4 : Bool) (K : Ex → List (SV env.T) → Prop) : s_8_4  x1 x2 x3 x4 (fun y1 => K .ret [.bool y1]) = vcCode env (ctxG env false [] R7 [(8, [(7, p_8_7), (17, p_8_17)])] [(8, [(16, q_8_16)])]) 2000 8 (seqAt b8 4) (insSt q_8_4.head [.int .i64 x1, .dat 5 x2, .bool x3, .bool x4]) (outP env q_8_4 K) := by kernel_rfl
theorem wioq_8_4 (vs : List (SV env.T)) (K : Ex → List (SV env.T) → Prop) (h : v_8_4 vs K) : ∃ x1 : Int, ∃ x2 : (List Int), ∃ x3 : Bool, ∃ x4 : Bool, vs = [.int .i64 x1, .dat 5 x2, .bool x3, .bool x4] ∧ s_8_4  x1 x2 x3 x4 (fun y1 => K .ret [.bool y1]) := by
  unfold v_8_4 at h
  replace h := dCI_spec h
  obtain ⟨x1, vs0, e0, h⟩ := h
  replace h := dCD_spec h
  obtain ⟨x2, vs1, e1, h⟩ := h
  replace h := dCB_spec h
  obtain ⟨x3, vs2, e2, h⟩ := h
  replace h := dCB_spec h
  obtain ⟨x4, vs3, e3, h⟩ := h
  replace h := dCE_spec h
  obtain ⟨e, h⟩ := h
  exact ⟨x1, x2, x3, x4, by rw [e0, e1, e2, e3, e], h⟩
theorem oq_8_4 : PieceOk Try.prog env q_8_4 (seqAt b8 4) := by
  refine seq_step tab (ctxG_ok R7_ok false [] _ _) booq_8_4 (pieces_subS pooq_8_4_8 (by kernel_rfl)) 2000 ?_
  intro vs K h
  obtain ⟨x1, x2, x3, x4, rfl, h⟩ := wioq_8_4 vs K h
  exact Eq.mp (stoq_8_4 x1 x2 x3 x4 K) h
theorem po_8_8 : PiecesOk Try.prog env (ctxG env false [] R7 [(8, [(7, p_8_7), (17, p_8_17)])] [(8, [(16, q_8_16), (4, q_8_4)])]) 8 b8 :=
  pieces_at (L := [(7, p_8_7), (17, p_8_17)]) (S := [(16, q_8_16), (4, q_8_4)]) (fun _ => rfl) (fun _ => rfl) (by kernel_rfl) (by kernel_rfl) (List.forall_mem_cons.2 ⟨fun _ => ok_8_7, (List.forall_mem_cons.2 ⟨fun _ => ok_8_17, (fun _ hq => by cases hq)⟩)⟩) (List.forall_mem_cons.2 ⟨fun _ => oq_8_16, (List.forall_mem_cons.2 ⟨fun _ => oq_8_4, (fun _ hq => by cases hq)⟩)⟩)
theorem bo_8 : BodiesOk Try.prog env (ctxG env false [] R7 [(8, [(7, p_8_7), (17, p_8_17)])] [(8, [(16, q_8_16), (4, q_8_4)])]) := bodies_okG (ks := [8]) (by kernel_rfl) (List.forall_mem_cons.2 ⟨body_at (fn := f8) (body := b8) rfl hb8 po_8_8, (fun _ hq => by cases hq)⟩)
theorem eq_8 (x0 : Int) (x1 : (List Int)) (K : Y8 → Prop) : vcCode env (ctxG env false [] R7 [(8, [(7, p_8_7), (17, p_8_17)])] [(8, [(16, q_8_16), (4, q_8_4)])]) 2000 8 b8 (entry env f8 [v3 x0, v62 x1]) (finR env f8 decR8 K) = B8 x0 x1 K := by kernel_rfl
noncomputable def rule8 : Nat × Rule env := (8, ruleF env decA8 encR8 fun x => V8 x.1 x.2)
theorem r8 : RuleOk Try.prog env 8 rule8.2 :=
  rule_fun tab (ctxG_ok R7_ok false [] _ _) bo_8 (f := 8) (fn := f8) rfl hb8 po_8_8 2000 encA8 hA8 hR8 hD8 (fun _ => of_decide_eq_true (by kernel_rfl)) (fun x K => (eq_8 x.1 x.2 K).trans (by rw [V8_eq]))
noncomputable def R8 : List (Nat × Rule env) := rule8 :: R7
theorem R8_ok : AllOk Try.prog env R8 := ⟨r8, R7_ok⟩
end Go.Vg.Ytgekegoflaichaa
