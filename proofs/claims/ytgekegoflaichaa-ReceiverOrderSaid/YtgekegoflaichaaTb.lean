/-
  Walked functions of the program: predicate transformers and their rules. Written by a program of this work (gen.py, VgGen.lean) out of the executor's own reduction; no condition.
-/
import Derived.Test.YtgekegoflaichaaTa
import Derived.Test.YtgekegoflaichaaVgIns
import Derived.Ground.Names2Prog
set_option maxRecDepth 100000
set_option maxHeartbeats 4000000
namespace Go.Vg.Ytgekegoflaichaa
open Go.Vg Go.Proofs
-- 65 slices.Insert[[]int,int]
noncomputable def f65 : Func := Try.f65
noncomputable def b65 : Code := (Try.f65.body).getD .skip
abbrev X65 := (List Int) × Int × (List Int)
def encA65 (x : X65) : List (SV env.T) := [v65 x.1, v3 x.2.1, v65 x.2.2]
def decA65 (l : List (SV env.T)) : Option X65 := match l with
  | [s0, s1, s2] => match u65 s0, u3 s1, u65 s2 with
    | some x0, some x1, some x2 => some (x0, x1, x2)
    | _, _, _ => none
  | _ => none
theorem hA65 (l : List (SV env.T)) (x : X65) (h : decA65 l = some x) : WkA env.has l (encA65 x) := by
  unfold decA65 at h; split at h
  · split at h
    · rename_i h0 h1 h2; cases h; exact (.cons (u65_wk h0) (.cons (u3_wk h1) (.cons (u65_wk h2) .nil)))
    · cases h
  · cases h
abbrev Y65 := (List Int)
def encR65 (x : Y65) : List (SV env.T) := [v65 x]
def decR65 (l : List (SV env.T)) : Option Y65 := match l with
  | [s0] => match u65 s0 with
    | some x0 => some (x0)
    | _ => none
  | _ => none
theorem hR65 (l : List (SV env.T)) (x : Y65) (h : decR65 l = some x) : WkA env.has l (encR65 x) := by
  unfold decR65 at h; split at h
  · split at h
    · rename_i h0; cases h; exact (.cons (u65_wk h0) .nil)
    · cases h
  · cases h
theorem hD65 (y : Y65) : isDataV (tupV (encR65 y)) = true := rfl
def V65 (l : List Int) (i : Int) (v : List Int) (K : Y65 → Prop) : Prop := 0 ≤ i ∧ i ≤ (l.length : Int) ∧ v ≠ [] ∧ (l.length + v.length) * 8 ≤ 140737488355328 ∧ K (l.take i.toNat ++ v ++ l.drop i.toNat)
noncomputable def rule65 : Nat × Rule env := (65, ruleE env 3 decA65 fun x => V65 x.1 x.2.1 x.2.2)
end Go.Vg.Ytgekegoflaichaa
namespace Go.Proofs
open Go.Shelf
def Try.lays21_ren : Go.Shelf.Ren := ⟨fun | 21 => 65 | 27 => 74 | 28 => 75 | 35 => 78 | 39 => 79 | n => n, fun | 22 => 65 | 3 => 3 | 4 => 4 | 0 => 0 | n => n, fun | n => n⟩
theorem Try.lays21 : Go.Proofs.Lays2.n21 Try.prog Try.lays21_ren := {
  mixed := by kernel_rfl
  f21 := Try.func65.trans (congrArg some (by kernel_rfl))
  f27 := Try.func74.trans (congrArg some (by kernel_rfl))
  f28 := Try.func75.trans (congrArg some (by kernel_rfl))
  f35 := Try.func78.trans (congrArg some (by kernel_rfl))
  f39 := Try.func79.trans (congrArg some (by kernel_rfl))
  t0 := Try.underlying0
  a0 := Try.isAgg0
  z0 := Try.sizeOf0
  v0 := Try.zeroValue0
  t3 := Try.underlying3
  a3 := Try.isAgg3
  z3 := Try.sizeOf3
  v3 := Try.zeroValue3
  t4 := Try.underlying4
  a4 := Try.isAgg4
  z4 := Try.sizeOf4
  v4 := Try.zeroValue4
  t22 := Try.underlying65
  a22 := Try.isAgg65
  z22 := Try.sizeOf65
  v22 := Try.zeroValue65
  i3 := by kernel_rfl }
end Go.Proofs
namespace Go.Vg.Ytgekegoflaichaa
open Go.Vg Go.Proofs
theorem ints_flat : ∀ (l : List Int), @List.flatMap (env.T 3) _ (env.enc 3) l = l.map (SV.int .i64)
  | [] => rfl
  | x :: r => congrArg (SV.int .i64 x :: ·) (ints_flat r)
theorem ints_rel {H : List (Nat × HS env.T)} {σ : Nat → Option Nat} {w : World} {S : Nat → Prop} : ∀ (l : List Int) {xs : List Value}, RelC env H σ w S (l.map (SV.int .i64)) xs → xs = l.map (Value.int .i64)
  | [], _, .nil => rfl
  | x :: r, _, .cons _ _ h1 h2 => by
    cases h1
    rw [ints_rel r h2]; rfl
theorem rel_ints {H : List (Nat × HS env.T)} {σ : Nat → Option Nat} {w : World} {S : Nat → Prop} : ∀ (l : List Int), RelC env H σ w S (l.map (SV.int .i64)) (l.map (Value.int .i64))
  | [] => .nil
  | _ :: r => .cons rfl rfl (.int _ _) (rel_ints r)
theorem ints_one (l : List Int) : ∀ u ∈ l.map (Value.int .i64), u.oneCell' = true := by
  intro u hu
  obtain ⟨_, _, rfl⟩ := List.mem_map.1 hu
  rfl
theorem r65 : RuleOk Try.prog env 65 rule65.2 := by
  refine ⟨fun _ => rfl, ?_⟩
  intro l rest K hrk B S w v vals xs hS how hB hfl hrel hpl
  split at hrk
  · rename_i x hx
    obtain ⟨h0, h1, h2, h3, hK⟩ := hrk
    have hw := hA65 _ _ hx
    have hxl : x.1 = l := by
      unfold decA65 at hx
      split at hx
      · rename_i heq
        split at hx
        · rename_i g1 g2 g3
          cases heq
          cases hx
          exact (Option.some.inj (show some l = some _ from g1)).symm
        · cases hx
      · cases hx
    obtain ⟨l', i, vv⟩ := x
    dsimp only at hxl h0 h1 h2 h3 hK hw
    subst hxl
    obtain ⟨i, rfl⟩ := Int.eq_ofNat_of_zero_le h0
    rw [Int.toNat_natCast] at hK
    cases hw with
    | cons _ hw =>
      replace hrel : RelL env [] (fun _ => none) w S [.int .i64 (i : Int), .dat 3 vv] vals := hrel.wkA hw
      cases hrel with
      | cons hr1 hrel =>
        cases hrel with
        | cons hr2 hrel =>
          cases hrel
          cases hr1
          cases hr2 with
          | dat_nil => exact absurd rfl h2
          | dat _ _ a c vss he hSa hlc hrc hcell =>
            obtain ⟨hp1, hp2, arr, e', hvb⟩ := hpl _ (.tail _ (.head _)) a vv.length c rfl
            obtain ⟨vb, off, spot⟩ := a
            dsimp only at hp1 hp2 hvb
            subst hp1
            subst hp2
            have hxs : xs = l'.map (Value.int .i64) := ints_rel l' (by have := hfl [] (fun _ => none) S; rwa [ints_flat] at this)
            have hvs : ∀ j u, (vv.map (Value.int .i64))[j]? = some u → w.cell? ⟨vb, j, none⟩ = some u := by
              intro j u hj
              rw [List.getElem?_map] at hj
              obtain ⟨y, hy, rfl⟩ := Option.map_eq_some_iff.1 hj
              have h4 := hrc j y hy
              have h5 : vss j = [Value.int .i64 y] := by
                have h4 : RelC env [] (fun _ => none) w S ([y].map (SV.int .i64)) (vss j) := h4
                exact ints_rel [y] h4
              have h6 := hcell j y hy 0 (.int .i64 y) (by rw [h5]; rfl)
              rw [Addr.add_lit] at h6
              have h7 : (0 : Nat) + (j * env.sz 3 + 0) = j := by show 0 + (j * 1 + 0) = j; omega
              rw [h7] at h6
              exact h6
            have hne : v.ownBlock ≠ some vb := fun hh => (hS vb (hSa h2)).2 hh.symm
            have hm : 0 < (vv.map (Value.int .i64)).length := by rw [List.length_map]; exact List.length_pos_iff.2 h2
            have := insert_world (c := c) Try.lays21 (v := v) (n := l'.length) (i := i) (cs := xs) (vs := vv.map (Value.int .i64)) how (by omega) hm (by rw [List.length_map]; exact h3) hvb hne hvs (by rw [hxs]; exact ints_one l') (ints_one vv) hB
            rw [List.length_map] at this
            refine Calls.mono this ?_
            rintro e w' ⟨v', rfl, hg, ho, hob⟩
            have hl : (l'.take i ++ vv ++ l'.drop i).map (Value.int .i64) = xs.take i ++ vv.map (Value.int .i64) ++ xs.drop i := by rw [hxs]; simp
            have hll : (l'.take i ++ vv ++ l'.drop i).length = l'.length + vv.length := by simp; omega
            refine ⟨v', l'.take i ++ vv ++ l'.drop i, xs.take i ++ vv.map (Value.int .i64) ++ xs.drop i, rfl, hK, rfl, hg, ?_, hob, fun H σ S' => ?_⟩
            · have ho : w'.ownsRow B 3 (env.sz 3) v' (l'.length + vv.length) (xs.take i ++ vv.map (Value.int .i64) ++ xs.drop i) := ho
              rw [← hll] at ho
              exact ho
            · have := rel_ints (H := H) (σ := σ) (w := w') (S := S') (l'.take i ++ vv ++ l'.drop i)
              rw [hl, ← ints_flat] at this
              exact this
  · exact hrk.elim

noncomputable def R65 : List (Nat × Rule env) := rule65 :: R64
theorem R65_ok : AllOk Try.prog env R65 := ⟨r65, R64_ok⟩
-- 37 queuelab/receiver.Receive
noncomputable def f37 : Func := Try.f37
noncomputable def b37 : Code := (Try.f37.body).getD .skip
abbrev X37 := Receiver × Int × Packet
def encA37 (x : X37) : List (SV env.T) := [v67 x.1, v3 x.2.1, v30 x.2.2]
def decA37 (l : List (SV env.T)) : Option X37 := match l with
  | [s0, s1, s2] => match u67 s0, u3 s1, u30 s2 with
    | some x0, some x1, some x2 => some (x0, x1, x2)
    | _, _, _ => none
  | _ => none
theorem hA37 (l : List (SV env.T)) (x : X37) (h : decA37 l = some x) : WkA env.has l (encA37 x) := by
  unfold decA37 at h; split at h
  · split at h
    · rename_i h0 h1 h2; cases h; exact (.cons (u67_wk h0) (.cons (u3_wk h1) (.cons (u30_wk h2) .nil)))
    · cases h
  · cases h
abbrev Y37 := Receiver × Ack × Bool × Int
def encR37 (x : Y37) : List (SV env.T) := [v67 x.1, v70 x.2.1, v4 x.2.2.1, v34 x.2.2.2]
def decR37 (l : List (SV env.T)) : Option Y37 := match l with
  | [s0, s1, s2, s3] => match u67 s0, u70 s1, u4 s2, u34 s3 with
    | some x0, some x1, some x2, some x3 => some (x0, x1, x2, x3)
    | _, _, _, _ => none
  | _ => none
theorem hR37 (l : List (SV env.T)) (x : Y37) (h : decR37 l = some x) : WkA env.has l (encR37 x) := by
  unfold decR37 at h; split at h
  · split at h
    · rename_i h0 h1 h2 h3; cases h; exact (.cons (u67_wk h0) (.cons (u70_wk h1) (.cons (u4_wk h2) (.cons (u34_wk h3) .nil))))
    · cases h
  · cases h
theorem hD37 (y : Y37) : isDataV (tupV (encR37 y)) = true := rfl
theorem hb37 : f37.body = some b37 := by kernel_rfl
noncomputable def B37 : Receiver → Int → Packet → (Y37 → Prop) → Prop :=
  fun x0 x1 x2 K ↦ V39 x0 x1 fun y4 ↦ br (!y4) (K (Receiver.mk 0 [], Ack.mk 0 0 0 0 false, false, 1)) (V61 x2 fun y5 ↦ br (!y5) (K (Receiver.mk 0 [], Ack.mk 0 0 0 0 false, false, 1)) (br (decide (x2.data ≥ IntKind.i64.wrap (x0.next_ + x1))) (K (Receiver.mk 0 [], Ack.mk 0 0 0 0 false, false, 10)) (br (x2.data == 1000000000) (K (Receiver.mk 0 [], Ack.mk 0 0 0 0 false, false, 10)) (V62 x0.have_ x2.data fun y6 ↦ br (decide (x2.data ≥ x0.next_)) (∃ k7, (V63 x0.have_ fun y8 ↦ y8 = k7) ∧ br (x2.data == x0.next_) (V64 (Receiver.mk x0.next_ k7) fun y8 ↦ K (y8, Ack.mk x2.sub x2.number y8.next_ x2.sent x2.marked, !y6.snd, 0)) (br (!y6.snd) (V65 k7 y6.fst [x2.data] fun y8 ↦ K (Receiver.mk x0.next_ y8, Ack.mk x2.sub x2.number x0.next_ x2.sent x2.marked, !y6.snd, 0)) (K (Receiver.mk x0.next_ k7, Ack.mk x2.sub x2.number x0.next_ x2.sent x2.marked, !y6.snd, 0)))) (∃ k7, (V63 x0.have_ fun y8 ↦ y8 = k7) ∧ br (x2.data == x0.next_) (V64 (Receiver.mk x0.next_ k7) fun y8 ↦ K (y8, Ack.mk x2.sub x2.number y8.next_ x2.sent x2.marked, false, 0)) (K (Receiver.mk x0.next_ k7, Ack.mk x2.sub x2.number x0.next_ x2.sent x2.marked, false, 0)))))))
theorem V37_ex : ∃ V : Receiver → Int → Packet → (Y37 → Prop) → Prop, V = B37 := ⟨_, rfl⟩
noncomputable def V37 : Receiver → Int → Packet → (Y37 → Prop) → Prop := Classical.choose V37_ex
theorem V37_eq : V37 = B37 := Classical.choose_spec V37_ex
theorem po_37_37 : PiecesOk Try.prog env (ctxG env false [] R65 [] []) 37 b37 :=
  pieces_at (L := []) (S := []) (fun _ => rfl) (fun _ => rfl) (by kernel_rfl) (by kernel_rfl) (fun _ hq => by cases hq) (fun _ hq => by cases hq)
theorem bo_37 : BodiesOk Try.prog env (ctxG env false [] R65 [] []) := bodies_okG (ks := []) (by kernel_rfl) (fun _ hq => by cases hq)
theorem eq_37 (x0 : Receiver) (x1 : Int) (x2 : Packet) (K : Y37 → Prop) : vcCode env (ctxG env false [] R65 [] []) 2000 37 b37 (entry env f37 [v67 x0, v3 x1, v30 x2]) (finR env f37 decR37 K) = B37 x0 x1 x2 K := by kernel_rfl
noncomputable def rule37 : Nat × Rule env := (37, ruleF env decA37 encR37 fun x => V37 x.1 x.2.1 x.2.2)
theorem r37 : RuleOk Try.prog env 37 rule37.2 :=
  rule_fun tab (ctxG_ok R65_ok false [] _ _) bo_37 (f := 37) (fn := f37) rfl hb37 po_37_37 2000 encA37 hA37 hR37 hD37 (fun _ => of_decide_eq_true (by kernel_rfl)) (fun x K => (eq_37 x.1 x.2.1 x.2.2 K).trans (by rw [V37_eq]))
noncomputable def R37 : List (Nat × Rule env) := rule37 :: R65
theorem R37_ok : AllOk Try.prog env R37 := ⟨r37, R65_ok⟩
end Go.Vg.Ytgekegoflaichaa
