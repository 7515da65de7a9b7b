/-
  Walked functions of the program: predicate transformers and their rules. Written by a program of this work (gen.py, VgGen.lean) out of the executor's own reduction; no condition.
-/
import Derived.Test.YthmmgoebdcegmaaGreatDoorTa
set_option maxRecDepth 100000
set_option maxHeartbeats 4000000
namespace Go.Vg.YthmmgoebdcegmaaGreatDoor
open Go.Vg Go.Proofs
noncomputable def f61 : Func := Tryz.f61
noncomputable def b61 : Code := (Tryz.f61.body).getD .skip
theorem hb61 : f61.body = some b61 := by kernel_rfl
-- 44 queuelab/world.Valid
noncomputable def f44 : Func := Tryz.f44
noncomputable def b44 : Code := (Tryz.f44.body).getD .skip
abbrev X44 := WorldD
def encA44 (x : X44) : List (SV env.T) := [v70 x]
def decA44 (l : List (SV env.T)) : Option X44 := match l with
  | [s0] => match u70 s0 with
    | some x0 => some (x0)
    | _ => none
  | _ => none
theorem hA44 (l : List (SV env.T)) (x : X44) (h : decA44 l = some x) : WkA env.has l (encA44 x) := by
  unfold decA44 at h; split at h
  · split at h
    · rename_i h0; cases h; exact (.cons (u70_wk h0) .nil)
    · cases h
  · cases h
abbrev Y44 := Bool
def encR44 (x : Y44) : List (SV env.T) := [v4 x]
def decR44 (l : List (SV env.T)) : Option Y44 := match l with
  | [s0] => match u4 s0 with
    | some x0 => some (x0)
    | _ => none
  | _ => none
theorem hR44 (l : List (SV env.T)) (x : Y44) (h : decR44 l = some x) : WkA env.has l (encR44 x) := by
  unfold decR44 at h; split at h
  · split at h
    · rename_i h0; cases h; exact (.cons (u4_wk h0) .nil)
    · cases h
  · cases h
theorem hD44 (y : Y44) : isDataV (tupV (encR44 y)) = true := rfl
theorem hb44 : f44.body = some b44 := by kernel_rfl
abbrev X44v := X44 × Unit
def encA44v (x : X44v) : List (SV env.T) := [.agg [.int .i64 x.1.now, .dat 117 [], .dat 119 x.1.paths, .dat 124 x.1.flows, .dat 107 x.1.programs, .dat 163 x.1.agenda.list, .int .i64 x.1.agenda.next_, .int .i64 x.1.sent, .int .i64 x.1.delivered, .int .i64 x.1.dropped, .int .u64 x.1.digest]]
def decA44v (l : List (SV env.T)) : Option X44v := match decA44 l with
  | some x => match x.links with
    | [] => some (x, ())
    | _ => none
  | none => none
theorem hA44v (l : List (SV env.T)) (x : X44v) (h : decA44v l = some x) : WkA env.has l (encA44v x) := by
  unfold decA44v at h; split at h
  · rename_i y hy; split at h
    · rename_i  hl; cases h; have := hA44 l y hy; simp only [encA44, encWorldD, v70, hl] at this; exact this
    · cases h
  · cases h
noncomputable def B44v : WorldD → (Y44 → Prop) → Prop :=
  fun x0 K ↦ br (decide (0 ≤ x0.now)) (br (!decide (x0.now ≤ 10000000)) (K false) (K false)) (K false)
theorem V44v_ex : ∃ V : WorldD → (Y44 → Prop) → Prop, V = B44v := ⟨_, rfl⟩
noncomputable def V44v : WorldD → (Y44 → Prop) → Prop := Classical.choose V44v_ex
theorem V44v_eq : V44v = B44v := Classical.choose_spec V44v_ex
theorem po_44v_44 : PiecesOk Tryz.prog env (ctxG env false [] R22 [] []) 44 b44 :=
  pieces_at (L := []) (S := []) (fun _ => rfl) (fun _ => rfl) (by kernel_rfl) (by kernel_rfl) (fun _ hq => by cases hq) (fun _ hq => by cases hq)
theorem bo_44v : BodiesOk Tryz.prog env (ctxG env false [] R22 [] []) := bodies_okG (ks := []) (by kernel_rfl) (fun _ hq => by cases hq)
theorem eq_44v (x0 : WorldD) (K : Y44 → Prop) : vcCode env (ctxG env false [] R22 [] []) 2000 44 b44 (entry env f44 [.agg [.int .i64 x0.now, .dat 117 [], .dat 119 x0.paths, .dat 124 x0.flows, .dat 107 x0.programs, .dat 163 x0.agenda.list, .int .i64 x0.agenda.next_, .int .i64 x0.sent, .int .i64 x0.delivered, .int .i64 x0.dropped, .int .u64 x0.digest]]) (finR env f44 decR44 K) = B44v x0 K := by kernel_rfl
noncomputable def rule44v : Nat × Rule env := (44, ruleF env decA44v encR44 fun x => V44v x.1)
theorem r44v : RuleOk Tryz.prog env 44 rule44v.2 :=
  rule_fun tab (ctxG_ok R22_ok false [] _ _) bo_44v (f := 44) (fn := f44) rfl hb44 po_44v_44 2000 encA44v hA44v hR44 hD44 (fun _ => of_decide_eq_true (by kernel_rfl)) (fun x K => (eq_44v x.1 K).trans (by rw [V44v_eq]))
noncomputable def B44 (x0 : WorldD) (K : Y44 → Prop) : Prop := (match x0.links with
  | [] => V44v x0  K
  | _ => False) ∨ False
theorem V44_ex : ∃ V : WorldD → (Y44 → Prop) → Prop, V = B44 := ⟨_, rfl⟩
noncomputable def V44 : WorldD → (Y44 → Prop) → Prop := Classical.choose V44_ex
theorem V44_eq : V44 = B44 := Classical.choose_spec V44_ex
noncomputable def rule44 : Nat × Rule env := (44, ruleF env decA44 encR44 fun x => V44 x)
theorem r44 : RuleOk Tryz.prog env 44 (ruleF env decA44 encR44 fun x : X44 => V44 x) := by
  refine rule_or (V := fun x : X44 => V44 x) r44v r44v ?_
  intro args y K hy h
  simp only [V44_eq, B44] at h
  rcases h with h | h
  · split at h
    · rename_i hl
      exact .inl ⟨_, by unfold decA44v; rw [hy]; simp only [hl]; rfl, h⟩
    · exact h.elim
  · exact h.elim
noncomputable def R44 : List (Nat × Rule env) := rule44 :: R22
theorem R44_ok : AllOk Tryz.prog env R44 := ⟨r44, R22_ok⟩
-- 23 queuelab/plot.Play
noncomputable def f23 : Func := Tryz.f23
noncomputable def b23 : Code := (Tryz.f23.body).getD .skip
abbrev X23 := WorldD × Budget × (List Int)
def encA23 (x : X23) : List (SV env.T) := [v70 x.1, v25 x.2.1, v26 x.2.2]
def decA23 (l : List (SV env.T)) : Option X23 := match l with
  | [s0, s1, s2] => match u70 s0, u25 s1, u26 s2 with
    | some x0, some x1, some x2 => some (x0, x1, x2)
    | _, _, _ => none
  | _ => none
theorem hA23 (l : List (SV env.T)) (x : X23) (h : decA23 l = some x) : WkA env.has l (encA23 x) := by
  unfold decA23 at h; split at h
  · split at h
    · rename_i h0 h1 h2; cases h; exact (.cons (u70_wk h0) (.cons (u25_wk h1) (.cons (u26_wk h2) .nil)))
    · cases h
  · cases h
abbrev Y23 := WorldD × Int
def encR23 (x : Y23) : List (SV env.T) := [v70 x.1, v52 x.2]
def decR23 (l : List (SV env.T)) : Option Y23 := match l with
  | [s0, s1] => match u70 s0, u52 s1 with
    | some x0, some x1 => some (x0, x1)
    | _, _ => none
  | _ => none
theorem hR23 (l : List (SV env.T)) (x : Y23) (h : decR23 l = some x) : WkA env.has l (encR23 x) := by
  unfold decR23 at h; split at h
  · split at h
    · rename_i h0 h1; cases h; exact (.cons (u70_wk h0) (.cons (u52_wk h1) .nil))
    · cases h
  · cases h
theorem hD23 (y : Y23) : isDataV (tupV (encR23 y)) = true := rfl
theorem hb23 : f23.body = some b23 := by kernel_rfl
abbrev X23v := X23 × Unit
def encA23v (x : X23v) : List (SV env.T) := [.agg [.int .i64 x.1.1.now, .dat 117 [], .dat 119 x.1.1.paths, .dat 124 x.1.1.flows, .dat 107 x.1.1.programs, .dat 163 x.1.1.agenda.list, .int .i64 x.1.1.agenda.next_, .int .i64 x.1.1.sent, .int .i64 x.1.1.delivered, .int .i64 x.1.1.dropped, .int .u64 x.1.1.digest], v25 x.1.2.1, v26 x.1.2.2]
def decA23v (l : List (SV env.T)) : Option X23v := match decA23 l with
  | some x => match x.1.links with
    | [] => some (x, ())
    | _ => none
  | none => none
theorem hA23v (l : List (SV env.T)) (x : X23v) (h : decA23v l = some x) : WkA env.has l (encA23v x) := by
  unfold decA23v at h; split at h
  · rename_i y hy; split at h
    · rename_i  hl; cases h; have := hA23 l y hy; simp only [encA23, encWorldD, v70, hl] at this; exact this
    · cases h
  · cases h
def s_23vx23_3 : (List Int) → Int → Int → (List Link) → (List Path) → (List Flow) → (List ProgramD) → (List ItemD) → Int → Int → Int → Int → Int → Int → Int → (List Int) → (List Change) → Int → Int → Int → Int → Int → Int → Prop :=
  fun _ _ _ _ _ _ _ _ _ _ _ _ _ _ _ _ _ _ _ _ _ _ _ ↦ False
def v_23vx23_3 (vs : List (SV env.T)) (_K : Ex → List (SV env.T) → Prop) : Prop :=
  dCD 3 vs fun x1 vs => dCI .i64 vs fun x2 vs => dCI .i64 vs fun x3 vs => dCD 117 vs fun x4 vs => dCD 119 vs fun x5 vs => dCD 124 vs fun x6 vs => dCD 107 vs fun x7 vs => dCD 163 vs fun x8 vs => dCI .i64 vs fun x9 vs => dCI .i64 vs fun x10 vs => dCI .i64 vs fun x11 vs => dCI .i64 vs fun x12 vs => dCI .u64 vs fun x13 vs => dCI .i64 vs fun x14 vs => dCI .i64 vs fun x15 vs => dCA .i64 6 vs fun x16 vs => dCD 60 vs fun x17 vs => dCI .i64 vs fun x18 vs => dCN vs fun vs => dCN vs fun vs => dCN vs fun vs => dCN vs fun vs => dCN vs fun vs => dCI .i64 vs fun x19 vs => dCI .i64 vs fun x20 vs => dCI .i64 vs fun x21 vs => dCI .i64 vs fun x22 vs => dCI .u64 vs fun x23 vs => dCE vs (s_23vx23_3 x1 x2 x3 x4 x5 x6 x7 x8 x9 x10 x11 x12 x13 x14 x15 x16 x17 x18 x19 x20 x21 x22 x23 )
def q_23vx23_3 : Piece env := ⟨⟨[.any, .any, .holeD 3, .ptr 0 0, .ptr 1 0, .any, .ptr 2 0, .hole, .any, .any, .any, .any, .any, .any, .any, .any, .any, .any, .any, .any, .any, .any, .any, .any, .any, .any, .any, .any, .any, .any, .any, .any, .any, .any, .any, .any, .any, .any, .any, .any, .any, .any, .any, .any, .any, .any, .any, .any, .any, .any, .any, .any, .any, .any, .any, .any, .any, .any, .any, .any, .any, .any, .any, .any, .any, .any, .any, .any], [], [(0, .cells 70 [.hole, .holeD 117, .holeD 119, .holeD 124, .holeD 107, .holeD 163, .hole, .hole, .hole, .hole, .hole]), (1, .cells 25 [.hole, .hole, .hole, .holeD 60]), (2, .cells 70 [.hole, .hole, .hole, .hole, .hole, .hole, .hole, .hole, .hole, .hole, .hole])], 3⟩, exitF none [] none, v_23vx23_3⟩
noncomputable def B23v : WorldD → Budget → (List Int) → (Y23 → Prop) → Prop :=
  fun x0 x1 x2 K ↦ V12 x1 x2 fun y4 ↦ br (!y4) (K (WorldD.mk 0 [] [] [] [] (Agenda.mk [] 0) 0 0 0 0, 1)) (V44 (WorldD.mk x0.now [] x0.paths x0.flows x0.programs x0.agenda x0.sent x0.delivered x0.dropped x0.digest) fun y5 ↦ br (!y5) (K (WorldD.mk 0 [] [] [] [] (Agenda.mk [] 0) 0 0 0 0, 1)) (s_23vx23_3 x2 0 x0.now [] x0.paths x0.flows x0.programs x0.agenda.list x0.agenda.next_ x0.sent x0.delivered x0.dropped x0.digest x1.periods x1.length x1.left x1.choices 0 0 0 0 0 0))
theorem V23v_ex : ∃ V : WorldD → Budget → (List Int) → (Y23 → Prop) → Prop, V = B23v := ⟨_, rfl⟩
noncomputable def V23v : WorldD → Budget → (List Int) → (Y23 → Prop) → Prop := Classical.choose V23v_ex
theorem V23v_eq : V23v = B23v := Classical.choose_spec V23v_ex
theorem pooq_23vx23_3_23 : PiecesOk Tryz.prog env (ctxG env false [] R44 [(23, [(4, deadP env)])] []) 23 b23 :=
  pieces_at (L := [(4, deadP env)]) (S := []) (fun _ => rfl) (fun _ => rfl) (by kernel_rfl) (by kernel_rfl) (List.forall_mem_cons.2 ⟨fun _ => deadP_ok _, (fun _ hq => by cases hq)⟩) (fun _ hq => by cases hq)
theorem booq_23vx23_3 : BodiesOk Tryz.prog env (ctxG env false [] R44 [(23, [(4, deadP env)])] []) := bodies_okG (ks := [23]) (by kernel_rfl) (List.forall_mem_cons.2 ⟨body_at (fn := f23) (body := b23) rfl hb23 pooq_23vx23_3_23, (fun _ hq => by cases hq)⟩)
theorem stoq_23vx23_3 (x1 : (List Int)) (x2 : Int) (x3 : Int) (x4 : (List Link)) (x5 : (List Path)) (x6 : (List Flow)) (x7 : (List ProgramD)) (x8 : (List ItemD)) (x9 : Int) (x10 : Int) (x11 : Int) (x12 : Int) (x13 : Int) (x14 : Int) (x15 : Int) (x16 : (List Int)) (x17 : (List Change)) (x18 : Int) (x19 : Int) (x20 : Int) (x21 : Int) (x22 : Int) (x23 : Int) (K : Ex → List (SV env.T) → Prop) : s_23vx23_3  x1 x2 x3 x4 x5 x6 x7 x8 x9 x10 x11 x12 x13 x14 x15 x16 x17 x18 x19 x20 x21 x22 x23  = vcCode env (ctxG env false [] R44 [(23, [(4, deadP env)])] []) 2000 23 (seqAt b23 3) (insSt q_23vx23_3.head [.dat 3 x1, .int .i64 x2, .int .i64 x3, .dat 117 x4, .dat 119 x5, .dat 124 x6, .dat 107 x7, .dat 163 x8, .int .i64 x9, .int .i64 x10, .int .i64 x11, .int .i64 x12, .int .u64 x13, .int .i64 x14, .int .i64 x15, .arr .i64 6 x16, .dat 60 x17, .int .i64 x18, .nils, .nils, .nils, .nils, .nils, .int .i64 x19, .int .i64 x20, .int .i64 x21, .int .i64 x22, .int .u64 x23]) (outP env q_23vx23_3 K) := by kernel_rfl
theorem wioq_23vx23_3 (vs : List (SV env.T)) (K : Ex → List (SV env.T) → Prop) (h : v_23vx23_3 vs K) : ∃ x1 : (List Int), ∃ x2 : Int, ∃ x3 : Int, ∃ x4 : (List Link), ∃ x5 : (List Path), ∃ x6 : (List Flow), ∃ x7 : (List ProgramD), ∃ x8 : (List ItemD), ∃ x9 : Int, ∃ x10 : Int, ∃ x11 : Int, ∃ x12 : Int, ∃ x13 : Int, ∃ x14 : Int, ∃ x15 : Int, ∃ x16 : (List Int), ∃ x17 : (List Change), ∃ x18 : Int, ∃ x19 : Int, ∃ x20 : Int, ∃ x21 : Int, ∃ x22 : Int, ∃ x23 : Int, vs = [.dat 3 x1, .int .i64 x2, .int .i64 x3, .dat 117 x4, .dat 119 x5, .dat 124 x6, .dat 107 x7, .dat 163 x8, .int .i64 x9, .int .i64 x10, .int .i64 x11, .int .i64 x12, .int .u64 x13, .int .i64 x14, .int .i64 x15, .arr .i64 6 x16, .dat 60 x17, .int .i64 x18, .nils, .nils, .nils, .nils, .nils, .int .i64 x19, .int .i64 x20, .int .i64 x21, .int .i64 x22, .int .u64 x23] ∧ s_23vx23_3  x1 x2 x3 x4 x5 x6 x7 x8 x9 x10 x11 x12 x13 x14 x15 x16 x17 x18 x19 x20 x21 x22 x23  := by
  unfold v_23vx23_3 at h
  replace h := dCD_spec h
  obtain ⟨x1, vs0, e0, h⟩ := h
  replace h := dCI_spec h
  obtain ⟨x2, vs1, e1, h⟩ := h
  replace h := dCI_spec h
  obtain ⟨x3, vs2, e2, h⟩ := h
  replace h := dCD_spec h
  obtain ⟨x4, vs3, e3, h⟩ := h
  replace h := dCD_spec h
  obtain ⟨x5, vs4, e4, h⟩ := h
  replace h := dCD_spec h
  obtain ⟨x6, vs5, e5, h⟩ := h
  replace h := dCD_spec h
  obtain ⟨x7, vs6, e6, h⟩ := h
  replace h := dCD_spec h
  obtain ⟨x8, vs7, e7, h⟩ := h
  replace h := dCI_spec h
  obtain ⟨x9, vs8, e8, h⟩ := h
  replace h := dCI_spec h
  obtain ⟨x10, vs9, e9, h⟩ := h
  replace h := dCI_spec h
  obtain ⟨x11, vs10, e10, h⟩ := h
  replace h := dCI_spec h
  obtain ⟨x12, vs11, e11, h⟩ := h
  replace h := dCI_spec h
  obtain ⟨x13, vs12, e12, h⟩ := h
  replace h := dCI_spec h
  obtain ⟨x14, vs13, e13, h⟩ := h
  replace h := dCI_spec h
  obtain ⟨x15, vs14, e14, h⟩ := h
  replace h := dCA_spec h
  obtain ⟨x16, vs15, e15, h⟩ := h
  replace h := dCD_spec h
  obtain ⟨x17, vs16, e16, h⟩ := h
  replace h := dCI_spec h
  obtain ⟨x18, vs17, e17, h⟩ := h
  replace h := dCN_spec h
  obtain ⟨vs18, e18, h⟩ := h
  replace h := dCN_spec h
  obtain ⟨vs19, e19, h⟩ := h
  replace h := dCN_spec h
  obtain ⟨vs20, e20, h⟩ := h
  replace h := dCN_spec h
  obtain ⟨vs21, e21, h⟩ := h
  replace h := dCN_spec h
  obtain ⟨vs22, e22, h⟩ := h
  replace h := dCI_spec h
  obtain ⟨x19, vs23, e23, h⟩ := h
  replace h := dCI_spec h
  obtain ⟨x20, vs24, e24, h⟩ := h
  replace h := dCI_spec h
  obtain ⟨x21, vs25, e25, h⟩ := h
  replace h := dCI_spec h
  obtain ⟨x22, vs26, e26, h⟩ := h
  replace h := dCI_spec h
  obtain ⟨x23, vs27, e27, h⟩ := h
  replace h := dCE_spec h
  obtain ⟨e, h⟩ := h
  exact ⟨x1, x2, x3, x4, x5, x6, x7, x8, x9, x10, x11, x12, x13, x14, x15, x16, x17, x18, x19, x20, x21, x22, x23, by rw [e0, e1, e2, e3, e4, e5, e6, e7, e8, e9, e10, e11, e12, e13, e14, e15, e16, e17, e18, e19, e20, e21, e22, e23, e24, e25, e26, e27, e], h⟩
theorem oq_23vx23_3 : PieceOk Tryz.prog env q_23vx23_3 (seqAt b23 3) := by
  refine seq_step tab (ctxG_ok R44_ok false [] _ _) booq_23vx23_3 (pieces_subS pooq_23vx23_3_23 (by kernel_rfl)) 2000 ?_
  intro vs K h
  obtain ⟨x1, x2, x3, x4, x5, x6, x7, x8, x9, x10, x11, x12, x13, x14, x15, x16, x17, x18, x19, x20, x21, x22, x23, rfl, h⟩ := wioq_23vx23_3 vs K h
  exact Eq.mp (stoq_23vx23_3 x1 x2 x3 x4 x5 x6 x7 x8 x9 x10 x11 x12 x13 x14 x15 x16 x17 x18 x19 x20 x21 x22 x23 K) h
theorem po_23v_23 : PiecesOk Tryz.prog env (ctxG env false [] R44 [(23, [(4, deadP env)])] [(23, [(3, q_23vx23_3)])]) 23 b23 :=
  pieces_at (L := [(4, deadP env)]) (S := [(3, q_23vx23_3)]) (fun _ => rfl) (fun _ => rfl) (by kernel_rfl) (by kernel_rfl) (List.forall_mem_cons.2 ⟨fun _ => deadP_ok _, (fun _ hq => by cases hq)⟩) (List.forall_mem_cons.2 ⟨fun _ => oq_23vx23_3, (fun _ hq => by cases hq)⟩)
theorem bo_23v : BodiesOk Tryz.prog env (ctxG env false [] R44 [(23, [(4, deadP env)])] [(23, [(3, q_23vx23_3)])]) := bodies_okG (ks := [23]) (by kernel_rfl) (List.forall_mem_cons.2 ⟨body_at (fn := f23) (body := b23) rfl hb23 po_23v_23, (fun _ hq => by cases hq)⟩)
theorem eq_23v (x0 : WorldD) (x1 : Budget) (x2 : (List Int)) (K : Y23 → Prop) : vcCode env (ctxG env false [] R44 [(23, [(4, deadP env)])] [(23, [(3, q_23vx23_3)])]) 2000 23 b23 (entry env f23 [.agg [.int .i64 x0.now, .dat 117 [], .dat 119 x0.paths, .dat 124 x0.flows, .dat 107 x0.programs, .dat 163 x0.agenda.list, .int .i64 x0.agenda.next_, .int .i64 x0.sent, .int .i64 x0.delivered, .int .i64 x0.dropped, .int .u64 x0.digest], v25 x1, v26 x2]) (finR env f23 decR23 K) = B23v x0 x1 x2 K := by kernel_rfl
noncomputable def rule23v : Nat × Rule env := (23, ruleF env decA23v encR23 fun x => V23v x.1.1 x.1.2.1 x.1.2.2)
theorem r23v : RuleOk Tryz.prog env 23 rule23v.2 :=
  rule_fun tab (ctxG_ok R44_ok false [] _ _) bo_23v (f := 23) (fn := f23) rfl hb23 po_23v_23 2000 encA23v hA23v hR23 hD23 (fun _ => of_decide_eq_true (by kernel_rfl)) (fun x K => (eq_23v x.1.1 x.1.2.1 x.1.2.2 K).trans (by rw [V23v_eq]))
noncomputable def B23 (x0 : WorldD) (x1 : Budget) (x2 : (List Int)) (K : Y23 → Prop) : Prop := (match x0.links with
  | [] => V23v x0 x1 x2  K
  | _ => False) ∨ False
theorem V23_ex : ∃ V : WorldD → Budget → (List Int) → (Y23 → Prop) → Prop, V = B23 := ⟨_, rfl⟩
noncomputable def V23 : WorldD → Budget → (List Int) → (Y23 → Prop) → Prop := Classical.choose V23_ex
theorem V23_eq : V23 = B23 := Classical.choose_spec V23_ex
noncomputable def rule23 : Nat × Rule env := (23, ruleF env decA23 encR23 fun x => V23 x.1 x.2.1 x.2.2)
theorem r23 : RuleOk Tryz.prog env 23 (ruleF env decA23 encR23 fun x : X23 => V23 x.1 x.2.1 x.2.2) := by
  refine rule_or (V := fun x : X23 => V23 x.1 x.2.1 x.2.2) r23v r23v ?_
  intro args y K hy h
  simp only [V23_eq, B23] at h
  rcases h with h | h
  · split at h
    · rename_i hl
      exact .inl ⟨_, by unfold decA23v; rw [hy]; simp only [hl]; rfl, h⟩
    · exact h.elim
  · exact h.elim
noncomputable def R23 : List (Nat × Rule env) := rule23 :: R44
theorem R23_ok : AllOk Tryz.prog env R23 := ⟨r23, R44_ok⟩
-- 9 queuelab/queuelablaw38.head
noncomputable def f9 : Func := Tryz.f9
noncomputable def b9 : Code := (Tryz.f9.body).getD .skip
abbrev X9 := Unit
def encA9 (_x : X9) : List (SV env.T) := []
def decA9 (l : List (SV env.T)) : Option X9 := match l with
  | [] => some ()
  | _ => none
theorem hA9 (l : List (SV env.T)) (x : X9) (h : decA9 l = some x) : WkA env.has l (encA9 x) := by
  unfold decA9 at h; split at h
  · exact .nil
  · cases h
abbrev Y9 := Bool
def encR9 (x : Y9) : List (SV env.T) := [v4 x]
def decR9 (l : List (SV env.T)) : Option Y9 := match l with
  | [s0] => match u4 s0 with
    | some x0 => some (x0)
    | _ => none
  | _ => none
theorem hR9 (l : List (SV env.T)) (x : Y9) (h : decR9 l = some x) : WkA env.has l (encR9 x) := by
  unfold decR9 at h; split at h
  · split at h
    · rename_i h0; cases h; exact (.cons (u4_wk h0) .nil)
    · cases h
  · cases h
theorem hD9 (y : Y9) : isDataV (tupV (encR9 y)) = true := rfl
theorem hb9 : f9.body = some b9 := by kernel_rfl
def s_9_4 : Bool → Bool → Int → Int → (List Int) → (List Change) → (Bool → Prop) → Prop :=
  fun _ x2 x3 x4 x5 x6 kr ↦ V23 (WorldD.mk 0 [] [] [] [] (Agenda.mk [] 0) 0 0 0 0) (Budget.mk x3 x4 x5 x6) [] fun y9 ↦ br x2 (V11 (Budget.mk x3 x4 x5 x6) [0, -1] fun y10 ↦ br ((↑(List.length y10) : Int) == 0) (V11 (Budget.mk x3 x4 x5 x6) [0, 0] fun y11 ↦ br ((↑(List.length y11) : Int) == 0) (V12 (Budget.mk x3 x4 x5 x6) [0, -1] fun y12 ↦ br y12 (V12 (Budget.mk x3 x4 x5 x6) [0, 0] fun y13 ↦ br (!y13) (V13 (Budget.mk x3 x4 x5 x6) fun y14 ↦ br y14 (V13 (Budget.mk 0 0 [0, 0, 0, 0, 0, 0] []) fun y15 ↦ br (!y15) (kr (y9.snd == 1)) (kr false)) (kr false)) (kr false)) (kr false)) (kr false)) (kr false)) (kr false)
def v_9_4 (vs : List (SV env.T)) (K : Ex → List (SV env.T) → Prop) : Prop :=
  dCB vs fun x1 vs => dCB vs fun x2 vs => dCI .i64 vs fun x3 vs => dCI .i64 vs fun x4 vs => dCA .i64 6 vs fun x5 vs => dCD 60 vs fun x6 vs => dCE vs (s_9_4 x1 x2 x3 x4 x5 x6 (fun y1 => K .ret [.bool y1]))
def q_9_4 : Piece env := ⟨⟨[.hole, .ptr 0 0, .hole, .any, .any, .any, .any, .any, .any, .any, .any, .any, .any, .any, .any, .any, .any, .any, .any, .any, .any, .any, .any, .any, .any, .any, .any, .any, .any, .any, .any, .any, .any, .any, .any, .any, .any, .any, .any, .any, .any, .any, .any, .any, .any, .any, .any, .any, .any, .any, .any, .any, .any, .any, .any, .any, .any, .any, .any, .any, .any, .any, .any, .any, .any, .any, .any, .any, .any, .any, .any, .any, .any, .any], [], [(0, .cells 25 [.hole, .hole, .hole, .holeD 60])], 1⟩, exitF none [] (some ⟨[.hole, .any, .any, .any, .any, .any, .any, .any, .any, .any, .any, .any, .any, .any, .any, .any, .any, .any, .any, .any, .any, .any, .any, .any, .any, .any, .any, .any, .any, .any, .any, .any, .any, .any, .any, .any, .any, .any, .any, .any, .any, .any, .any, .any, .any, .any, .any, .any, .any, .any, .any, .any, .any, .any, .any, .any, .any, .any, .any, .any, .any, .any, .any, .any, .any, .any, .any, .any, .any, .any, .any, .any, .any, .any], [], [], 0⟩), v_9_4⟩
noncomputable def B9 : (Y9 → Prop) → Prop :=
  fun K ↦ V11 (Budget.mk 2 100 [0, 0, 0, 0, 1, 0] [Change.mk 4 0 3, Change.mk 1 0 500]) [] fun y1 ↦ V22 y1 [-1, 0] fun y2 ↦ br y2 (V11 (Budget.mk 2 100 [0, 0, 0, 0, 1, 0] [Change.mk 4 0 3, Change.mk 1 0 500]) [-1] fun y3 ↦ V22 y3 [-1, 0] fun y4 ↦ br y4 (V11 (Budget.mk 2 100 [0, 0, 0, 0, 1, 0] [Change.mk 4 0 3, Change.mk 1 0 500]) [0] fun y5 ↦ V22 y5 [-1] fun y6 ↦ s_9_4 false y6 2 100 [0, 0, 0, 0, 1, 0] [Change.mk 4 0 3, Change.mk 1 0 500] K) (s_9_4 false false 2 100 [0, 0, 0, 0, 1, 0] [Change.mk 4 0 3, Change.mk 1 0 500] K)) (s_9_4 false false 2 100 [0, 0, 0, 0, 1, 0] [Change.mk 4 0 3, Change.mk 1 0 500] K)
theorem V9_ex : ∃ V : (Y9 → Prop) → Prop, V = B9 := ⟨_, rfl⟩
noncomputable def V9 : (Y9 → Prop) → Prop := Classical.choose V9_ex
theorem V9_eq : V9 = B9 := Classical.choose_spec V9_ex
theorem pooq_9_4_9 : PiecesOk Tryz.prog env (ctxG env false [] R23 [] []) 9 b9 :=
  pieces_at (L := []) (S := []) (fun _ => rfl) (fun _ => rfl) (by kernel_rfl) (by kernel_rfl) (fun _ hq => by cases hq) (fun _ hq => by cases hq)
theorem booq_9_4 : BodiesOk Tryz.prog env (ctxG env false [] R23 [] []) := bodies_okG (ks := []) (by kernel_rfl) (fun _ hq => by cases hq)
theorem stoq_9_4 (x1 : Bool) (x2 : Bool) (x3 : Int) (x4 : Int) (x5 : (List Int)) (x6 : (List Change)) (K : Ex → List (SV env.T) → Prop) : s_9_4  x1 x2 x3 x4 x5 x6 (fun y1 => K .ret [.bool y1]) = vcCode env (ctxG env false [] R23 [] []) 2000 9 (seqAt b9 4) (insSt q_9_4.head [.bool x1, .bool x2, .int .i64 x3, .int .i64 x4, .arr .i64 6 x5, .dat 60 x6]) (outP env q_9_4 K) := by kernel_rfl
theorem wioq_9_4 (vs : List (SV env.T)) (K : Ex → List (SV env.T) → Prop) (h : v_9_4 vs K) : ∃ x1 : Bool, ∃ x2 : Bool, ∃ x3 : Int, ∃ x4 : Int, ∃ x5 : (List Int), ∃ x6 : (List Change), vs = [.bool x1, .bool x2, .int .i64 x3, .int .i64 x4, .arr .i64 6 x5, .dat 60 x6] ∧ s_9_4  x1 x2 x3 x4 x5 x6 (fun y1 => K .ret [.bool y1]) := by
  unfold v_9_4 at h
  replace h := dCB_spec h
  obtain ⟨x1, vs0, e0, h⟩ := h
  replace h := dCB_spec h
  obtain ⟨x2, vs1, e1, h⟩ := h
  replace h := dCI_spec h
  obtain ⟨x3, vs2, e2, h⟩ := h
  replace h := dCI_spec h
  obtain ⟨x4, vs3, e3, h⟩ := h
  replace h := dCA_spec h
  obtain ⟨x5, vs4, e4, h⟩ := h
  replace h := dCD_spec h
  obtain ⟨x6, vs5, e5, h⟩ := h
  replace h := dCE_spec h
  obtain ⟨e, h⟩ := h
  exact ⟨x1, x2, x3, x4, x5, x6, by rw [e0, e1, e2, e3, e4, e5, e], h⟩
theorem oq_9_4 : PieceOk Tryz.prog env q_9_4 (seqAt b9 4) := by
  refine seq_step tab (ctxG_ok R23_ok false [] _ _) booq_9_4 (pieces_subS pooq_9_4_9 (by kernel_rfl)) 2000 ?_
  intro vs K h
  obtain ⟨x1, x2, x3, x4, x5, x6, rfl, h⟩ := wioq_9_4 vs K h
  exact Eq.mp (stoq_9_4 x1 x2 x3 x4 x5 x6 K) h
theorem po_9_9 : PiecesOk Tryz.prog env (ctxG env false [] R23 [] [(9, [(4, q_9_4)])]) 9 b9 :=
  pieces_at (L := []) (S := [(4, q_9_4)]) (fun _ => rfl) (fun _ => rfl) (by kernel_rfl) (by kernel_rfl) (fun _ hq => by cases hq) (List.forall_mem_cons.2 ⟨fun _ => oq_9_4, (fun _ hq => by cases hq)⟩)
theorem bo_9 : BodiesOk Tryz.prog env (ctxG env false [] R23 [] [(9, [(4, q_9_4)])]) := bodies_okG (ks := [9]) (by kernel_rfl) (List.forall_mem_cons.2 ⟨body_at (fn := f9) (body := b9) rfl hb9 po_9_9, (fun _ hq => by cases hq)⟩)
theorem eq_9 (K : Y9 → Prop) : vcCode env (ctxG env false [] R23 [] [(9, [(4, q_9_4)])]) 2000 9 b9 (entry env f9 []) (finR env f9 decR9 K) = B9  K := by kernel_rfl
noncomputable def rule9 : Nat × Rule env := (9, ruleF env decA9 encR9 fun _ => V9 )
theorem r9 : RuleOk Tryz.prog env 9 rule9.2 :=
  rule_fun tab (ctxG_ok R23_ok false [] _ _) bo_9 (f := 9) (fn := f9) rfl hb9 po_9_9 2000 encA9 hA9 hR9 hD9 (fun _ => of_decide_eq_true (by kernel_rfl)) (fun _ K => (eq_9  K).trans (by rw [V9_eq]))
noncomputable def R9 : List (Nat × Rule env) := rule9 :: R23
theorem R9_ok : AllOk Tryz.prog env R9 := ⟨r9, R23_ok⟩
end Go.Vg.YthmmgoebdcegmaaGreatDoor
