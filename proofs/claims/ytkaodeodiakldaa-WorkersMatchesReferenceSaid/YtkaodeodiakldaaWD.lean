/-
  Walked functions of the program: predicate transformers and their rules. Written by a program of this work (gen.py, VgGen.lean) out of the executor's own reduction; no condition.
-/
import Derived.Test.YtkaodeodiakldaaWC
import Derived.Test.YtkaodeodiakldaaVgSort
set_option maxRecDepth 100000
set_option maxHeartbeats 4000000
namespace Go.Vg.Ytkaodeodiakldaa
open Go.Vg Go.Proofs
-- 43 slices.SortFunc[[]queuelab/api.Segment,queuelab/api.Segment]
noncomputable def f43 : Func := Try.f43
noncomputable def b43 : Code := (Try.f43.body).getD .skip
abbrev X43 := (List Segment) × (List (stretch × Int))
def encA43 (x : X43) : List (SV env.T) := [v23 x.1, v71 x.2]
def decA43 (l : List (SV env.T)) : Option X43 := match l with
  | [s0, s1] => match u23 s0, u71 s1 with
    | some x0, some x1 => some (x0, x1)
    | _, _ => none
  | _ => none
theorem hA43 (l : List (SV env.T)) (x : X43) (h : decA43 l = some x) : WkA env.has l (encA43 x) := by
  unfold decA43 at h; split at h
  · split at h
    · rename_i h0 h1; cases h; exact (.cons (u23_wk h0) (.cons (u71_wk h1) .nil))
    · cases h
  · cases h
abbrev Y43 := Unit
def encR43 (_x : Y43) : List (SV env.T) := []
def decR43 (l : List (SV env.T)) : Option Y43 := match l with
  | [] => some ()
  | _ => none
theorem hR43 (l : List (SV env.T)) (x : Y43) (h : decR43 l = some x) : WkA env.has l (encR43 x) := by
  unfold decR43 at h; split at h
  · exact .nil
  · cases h
theorem hD43 (y : Y43) : isDataV (tupV (encR43 y)) = true := rfl
end Go.Vg.Ytkaodeodiakldaa
namespace Go.Proofs
open Go.Shelf
def Try.lays6_ren : Go.Shelf.Ren := ⟨fun | 6 => 43 | 15 => 48 | 14 => 47 | 28 => 58 | 29 => 59 | 20 => 50 | 21 => 51 | 22 => 52 | 23 => 53 | 24 => 54 | 25 => 55 | 26 => 56 | 27 => 57 | 46 => 60 | 47 => 61 | 48 => 62 | 49 => 63 | 50 => 64 | 57 => 65 | n => n, fun | 22 => 23 | 24 => 32 | 25 => 71 | 3 => 3 | 39 => 84 | 0 => 0 | 53 => 95 | 55 => 29 | 4 => 4 | 46 => 89 | 45 => 88 | 50 => 66 | 5 => 5 | 9 => 9 | 66 => 97 | 70 => 101 | 76 => 103 | 77 => 104 | n => n, fun | n => n⟩
theorem Try.lays6 : SlLaysF0.n6 Try.prog Try.lays6_ren := {
  mixed := by kernel_rfl
  f6 := ⟨ "slices.SortFunc[[]queuelab/api.Segment,queuelab/api.Segment]", of_decide_eq_true (by kernel_rfl), Try.func43.trans (congrArg some (by kernel_rfl))⟩
  f14 := ⟨ "slices.pdqsortCmpFunc[queuelab/api.Segment]", of_decide_eq_true (by kernel_rfl), Try.func47.trans (congrArg some (by kernel_rfl))⟩
  f15 := Try.func48.trans (congrArg some (by kernel_rfl))
  f20 := ⟨ "slices.insertionSortCmpFunc[queuelab/api.Segment]", of_decide_eq_true (by kernel_rfl), Try.func50.trans (congrArg some (by kernel_rfl))⟩
  f21 := ⟨ "slices.heapSortCmpFunc[queuelab/api.Segment]", of_decide_eq_true (by kernel_rfl), Try.func51.trans (congrArg some (by kernel_rfl))⟩
  f22 := ⟨ "slices.breakPatternsCmpFunc[queuelab/api.Segment]", of_decide_eq_true (by kernel_rfl), Try.func52.trans (congrArg some (by kernel_rfl))⟩
  f23 := ⟨ "slices.choosePivotCmpFunc[queuelab/api.Segment]", of_decide_eq_true (by kernel_rfl), Try.func53.trans (congrArg some (by kernel_rfl))⟩
  f24 := ⟨ "slices.reverseRangeCmpFunc[queuelab/api.Segment]", of_decide_eq_true (by kernel_rfl), Try.func54.trans (congrArg some (by kernel_rfl))⟩
  f25 := ⟨ "slices.partialInsertionSortCmpFunc[queuelab/api.Segment]", of_decide_eq_true (by kernel_rfl), Try.func55.trans (congrArg some (by kernel_rfl))⟩
  f26 := ⟨ "slices.partitionEqualCmpFunc[queuelab/api.Segment]", of_decide_eq_true (by kernel_rfl), Try.func56.trans (congrArg some (by kernel_rfl))⟩
  f27 := ⟨ "slices.partitionCmpFunc[queuelab/api.Segment]", of_decide_eq_true (by kernel_rfl), Try.func57.trans (congrArg some (by kernel_rfl))⟩
  f28 := Try.func58.trans (congrArg some (by kernel_rfl))
  f29 := Try.func59.trans (congrArg some (by kernel_rfl))
  f46 := ⟨ "slices.siftDownCmpFunc[queuelab/api.Segment]", of_decide_eq_true (by kernel_rfl), Try.func60.trans (congrArg some (by kernel_rfl))⟩
  f47 := Try.func61.trans (congrArg some (by kernel_rfl))
  f48 := Try.func62.trans (congrArg some (by kernel_rfl))
  f49 := ⟨ "slices.medianAdjacentCmpFunc[queuelab/api.Segment]", of_decide_eq_true (by kernel_rfl), Try.func63.trans (congrArg some (by kernel_rfl))⟩
  f50 := ⟨ "slices.medianCmpFunc[queuelab/api.Segment]", of_decide_eq_true (by kernel_rfl), Try.func64.trans (congrArg some (by kernel_rfl))⟩
  f57 := ⟨ "slices.order2CmpFunc[queuelab/api.Segment]", of_decide_eq_true (by kernel_rfl), Try.func65.trans (congrArg some (by kernel_rfl))⟩
  t0 := Try.underlying0
  a0 := Try.isAgg0
  z0 := Try.sizeOf0
  v0 := Try.zeroValue0
  t3 := Try.underlying3
  a3 := Try.isAgg3
  z3 := Try.sizeOf3
  v3 := Try.zeroValue3
  t4 := Try.underlying4
  a4 := Try.isAgg4
  z4 := Try.sizeOf4
  v4 := Try.zeroValue4
  t5 := Try.underlying5
  a5 := Try.isAgg5
  z5 := Try.sizeOf5
  v5 := Try.zeroValue5
  t9 := Try.underlying9
  a9 := Try.isAgg9
  z9 := Try.sizeOf9
  v9 := Try.zeroValue9
  t22 := Try.underlying23
  a22 := Try.isAgg23
  z22 := Try.sizeOf23
  v22 := Try.zeroValue23
  t25 := Try.underlying71
  a25 := Try.isAgg71
  z25 := Try.sizeOf71
  v25 := Try.zeroValue71
  t39 := Try.underlying84
  a39 := Try.isAgg84
  z39 := Try.sizeOf84
  v39 := Try.zeroValue84
  t45 := Try.underlying88
  a45 := Try.isAgg88
  z45 := Try.sizeOf88
  v45 := Try.zeroValue88
  t46 := Try.underlying89
  a46 := Try.isAgg89
  z46 := Try.sizeOf89
  v46 := Try.zeroValue89
  t50 := Try.underlying66
  a50 := Try.isAgg66
  z50 := Try.sizeOf66
  v50 := Try.zeroValue66
  t53 := Try.underlying95
  a53 := Try.isAgg95
  z53 := Try.sizeOf95
  v53 := Try.zeroValue95
  t55 := Try.underlying29
  a55 := Try.isAgg29
  z55 := Try.sizeOf29
  v55 := Try.zeroValue29
  t66 := Try.underlying97
  a66 := Try.isAgg97
  z66 := Try.sizeOf97
  v66 := Try.zeroValue97
  t70 := Try.underlying101
  a70 := Try.isAgg101
  z70 := Try.sizeOf101
  v70 := Try.zeroValue101
  t76 := Try.underlying103
  a76 := Try.isAgg103
  z76 := Try.sizeOf103
  v76 := Try.zeroValue103
  t77 := Try.underlying104
  a77 := Try.isAgg104
  z77 := Try.sizeOf104
  v77 := Try.zeroValue104 }
end Go.Proofs
namespace Go.Vg.Ytkaodeodiakldaa
open Go.Vg Go.Proofs Go.Sort
/-- A segment's place. -/
noncomputable def place43 (m : List (stretch × Int)) (x : Segment) : Int := mGet (keyEq env 59 (stretch.mk x.from_ x.to_)) 0 m
noncomputable def cf43 (m : List (stretch × Int)) (x y : Segment) : Int := IntKind.i64.wrap (place43 m x - place43 m y)
def pre43 (m : List (stretch × Int)) : Prop := ∀ kv ∈ m, 0 ≤ kv.2 ∧ kv.2 < 4611686018427387904
noncomputable def V43 (l : List Segment) (m : List (stretch × Int)) (K : List Segment → Prop) : Prop := pre43 m ∧ l.length < 4611686018427387904 ∧ ∀ l' : List Segment, l'.Perm l → l'.Pairwise (fun x y => ltOf (cf43 m) y x = false) → K l'
noncomputable def rule43 : Nat × Rule env := (43, ruleI env 32 decA43 fun x => V43 x.1 x.2)
theorem mGet_mem {p : stretch → Bool} : ∀ {m : List (stretch × Int)}, mGet p 0 m = 0 ∨ ∃ kv ∈ m, kv.2 = mGet p 0 m
  | [] => .inl rfl
  | kv :: r => by
    unfold mGet
    split
    · exact .inr ⟨kv, by simp, rfl⟩
    · rcases mGet_mem (p := p) (m := r) with h | ⟨q, hq, h⟩
      · exact .inl h
      · exact .inr ⟨q, by simp [hq], h⟩
theorem place_range {m : List (stretch × Int)} (h : pre43 m) (x : Segment) : 0 ≤ place43 m x ∧ place43 m x < 4611686018427387904 := by
  have e : place43 m x = 0 ∨ ∃ kv ∈ m, kv.2 = place43 m x := mGet_mem
  rcases e with e | ⟨kv, hk, e⟩
  · rw [e]; omega
  · rw [← e]; exact h kv hk
theorem lt43 {m : List (stretch × Int)} (h : pre43 m) (x y : Segment) : ltOf (cf43 m) x y = decide (place43 m x < place43 m y) := by
  have h1 := place_range h x
  have h2 := place_range h y
  have e : cf43 m x y = place43 m x - place43 m y := by
    unfold cf43
    simp [IntKind.wrap, IntKind.bits, IntKind.signed]
    omega
  unfold ltOf
  rw [e]
  exact decide_eq_decide.2 (by omega)
theorem swo43 (m : List (stretch × Int)) (h : pre43 m) : SWO (ltOf (cf43 m)) where
  irrefl x := by rw [lt43 h]; simp
  trans x y z h1 h2 := by rw [lt43 h] at *; simp at *; omega
  ntrans x y z h1 h2 := by rw [lt43 h] at *; simp at *; omega
theorem V29_cf (x y : Segment) (m : List (stretch × Int)) (K : Int → Prop) (hk : K (cf43 m x y)) : V29 x y m K := by
  rw [V29_eq]
  exact ⟨place43 m x, by rw [V26_eq]; rfl, place43 m y, by rw [V26_eq]; rfl, hk⟩
theorem r43 : RuleOk Try.prog env 43 rule43.2 := by
  refine sort_inp (E := env) Try.lays6 (e := 32) (g := 29) rfl Try.isAgg32 Try.sizeOf32 (enters_of Try.func29 (by kernel_rfl) rfl) (C := List (stretch × Int)) (fun m => [v10065 m]) cf43 pre43 swo43 ?_ ?_
  · intro m _ S w cb hS hcb W hW x y vx vy hx hy
    have go : Goes env [] (fun _ => none) w S [] (fun _ => none) W S := ⟨fun k hk => ⟨hk, hW k hk⟩, fun _ h => absurd rfl h, fun _ _ _ h _ => absurd rfl h⟩
    have := cmp_rule r29 (fun _ => rfl) (args := [v32 x, v32 y, v10065 m]) (x := (x, y, m)) rfl (fun K hk => V29_cf x y m K hk) (S := S) (W := W) (vals := .agg vx.toArray :: .agg vy.toArray :: cb.toList)
      (fun k hk => by have h := hW k hk; rw [Array.getElem?_eq_getElem (hS k hk)] at h; exact (Array.getElem?_eq_some_iff.1 h).1)
      (.cons (.agg _ _ (hx.goes go)) (.cons (.agg _ _ (hy.goes go)) (RelL.goes go hcb)))
    have e : (Value.agg vx.toArray :: Value.agg vy.toArray :: cb.toList).toArray = #[Value.agg vx.toArray, Value.agg vy.toArray] ++ cb := by apply Array.ext'; simp
    rw [e] at this
    exact this
  · intro l rest K hr
    split at hr
    · rename_i x hx
      have hw := hA43 _ _ hx
      unfold encA43 at hw
      cases hw with
      | cons h1 h2 =>
        cases h2 with
        | cons h3 h4 =>
          cases h4
          have e1 : l = x.1 := by cases h1; rfl
          subst e1
          refine ⟨x.2, hr.1, hr.2.1, hr.2.2, fun H σ w S vals hv => ?_⟩
          have := hv.wkA (.cons h3 .nil)
          cases this with
          | cons q1 q2 =>
            cases q2
            have q1 : RelS env H σ w S (.fn 29 [v10065 x.2]) _ := q1
            cases q1 with
            | fn _ _ vs q3 => exact ⟨vs, rfl, q3⟩
    · exact hr.elim

noncomputable def R43 : List (Nat × Rule env) := rule43 :: R28
theorem R43_ok : AllOk Try.prog env R43 := ⟨r43, R28_ok⟩
noncomputable def f44 : Func := Try.f44
noncomputable def b44 : Code := (Try.f44.body).getD .skip
theorem hb44 : f44.body = some b44 := by kernel_rfl
noncomputable def f46 : Func := Try.f46
noncomputable def b46 : Code := (Try.f46.body).getD .skip
theorem hb46 : f46.body = some b46 := by kernel_rfl
noncomputable def f42 : Func := Try.f42
noncomputable def b42 : Code := (Try.f42.body).getD .skip
theorem hb42 : f42.body = some b42 := by kernel_rfl
-- 27 slices.SortedFunc[queuelab/api.Segment]
noncomputable def f27 : Func := Try.f27
noncomputable def b27 : Code := (Try.f27.body).getD .skip
abbrev X27 := (List Segment) × (List (stretch × Int))
def encA27 (x : X27) : List (SV env.T) := [v69 x.1, v71 x.2]
def decA27 (l : List (SV env.T)) : Option X27 := match l with
  | [s0, s1] => match u69 s0, u71 s1 with
    | some x0, some x1 => some (x0, x1)
    | _, _ => none
  | _ => none
theorem hA27 (l : List (SV env.T)) (x : X27) (h : decA27 l = some x) : WkA env.has l (encA27 x) := by
  unfold decA27 at h; split at h
  · split at h
    · rename_i h0 h1; cases h; exact (.cons (u69_wk h0) (.cons (u71_wk h1) .nil))
    · cases h
  · cases h
abbrev Y27 := (List Segment)
def encR27 (x : Y27) : List (SV env.T) := [v23 x]
def decR27 (l : List (SV env.T)) : Option Y27 := match l with
  | [s0] => match u23 s0 with
    | some x0 => some (x0)
    | _ => none
  | _ => none
theorem hR27 (l : List (SV env.T)) (x : Y27) (h : decR27 l = some x) : WkA env.has l (encR27 x) := by
  unfold decR27 at h; split at h
  · split at h
    · rename_i h0; cases h; exact (.cons (u23_wk h0) .nil)
    · cases h
  · cases h
theorem hD27 (y : Y27) : isDataV (tupV (encR27 y)) = true := rfl
theorem hb27 : f27.body = some b27 := by kernel_rfl
def l_27x44_1 : Nat → (List Segment) → Int → Int → (List Segment) → (List Segment) → (List Segment) → (List Segment) → (List Segment) → (List (stretch × Int)) → (List Segment) → (List Segment) → ((List Segment) → (List Segment) → (List Segment) → (List Segment) → (List Segment) → (List (stretch × Int)) → (List Segment) → (List Segment) → Prop) → Prop
  | 0 => fun _ _ _ _ _ _ _ _ _ _ _ _ => False
  | k + 1 => fun x1 x2 x3 x4 x5 x6 x7 x8 x9 x10 x11 k0 ↦ br (decide (x3 < x2)) (br (inb x3 (↑x1.length : Int)) (br (roomB (x11 ++ [Segment.mk (x1.getD x3.toNat (env.d 32)).from_ (x1.getD x3.toNat (env.d 32)).to_ (x1.getD x3.toNat (env.d 32)).begin_ (x1.getD x3.toNat (env.d 32)).end_ (x1.getD x3.toNat (env.d 32)).records]).length (bytesB env 32)) (l_27x44_1 k x1 x2 (IntKind.i64.wrap (x3 + 1)) x4 x5 x6 x7 x8 x9 x10 (x11 ++ [Segment.mk (x1.getD x3.toNat (env.d 32)).from_ (x1.getD x3.toNat (env.d 32)).to_ (x1.getD x3.toNat (env.d 32)).begin_ (x1.getD x3.toNat (env.d 32)).end_ (x1.getD x3.toNat (env.d 32)).records]) k0) False) False) (k0 x4 x5 x6 x7 x8 x9 x10 x11)
def w_27x44_1 (k : Nat) (vs : List (SV env.T)) (K : Ex → List (SV env.T) → Prop) : Prop :=
  dCD 32 vs fun x1 vs => dCI .i64 vs fun x2 vs => dCI .i64 vs fun x3 vs => dCN vs fun vs => dCD 32 vs fun x4 vs => dCN vs fun vs => dCD 32 vs fun x5 vs => dCD 32 vs fun x6 vs => dCN vs fun vs => dCD 32 vs fun x7 vs => dCD 32 vs fun x8 vs => dCM 59 3 vs fun x9 vs => dCN vs fun vs => dCD 32 vs fun x10 vs => dCD 32 vs fun x11 vs => dCE vs (l_27x44_1 k x1 x2 x3 x4 x5 x6 x7 x8 x9 x10 x11 (fun y1 y2 y3 y4 y5 y6 y7 y8 => K (.exit 0) [.nils, .dat 32 y1, .nils, .dat 32 y2, .dat 32 y3, .nils, .dat 32 y4, .dat 32 y5, .mdat 59 3 y6, .nils, .dat 32 y7, .dat 32 y8]))
def p_27x44_1 : Piece env := ⟨⟨[.yld 0, .any, .any, .any, .any, .holeD 32, .hole, .hole, .any, .any, .any, .any, .any, .any, .any, .any], [.yld 0, .hole, .fn 44 [.boxd 23 [.holeD 32] 0], .ptr 1 0, .tup0, .hole, .tup0, .fn 44 [.boxd 23 [.holeD 32] 0], .tup0, .tup0, .tup0, .tup0, .tup0, .tup0, .fn 44 [.boxd 23 [.holeD 32] 0], .tup0, .hole, .fn 44 [.boxd 23 [.holeD 32] 0], .tup0, .fn 44 [.boxd 23 [.holeD 32] 0], .fn 29 [.boxd 65 [.fn 26 [.boxd 63 [.hole] 0]] 0], .tup0, .tup0, .hole, .tup0, .fn 44 [.boxd 23 [.holeD 32] 0], .tup0, .tup0, .tup0, .tup0, .tup0], [(0, .loop ⟨46, 3, 13, 17, 0, none⟩), (1, .cells 23 [.row 2]), (2, .row 32)], 3⟩, exitF none [(0, ⟨[.any, .any, .any, .any, .any, .any, .any, .any, .any, .any, .any, .any, .any, .any, .any, .any], [.yld 0, .hole, .fn 44 [.boxd 23 [.holeD 32] 0], .ptr 1 0, .tup0, .hole, .tup0, .fn 44 [.boxd 23 [.holeD 32] 0], .tup0, .tup0, .tup0, .tup0, .tup0, .tup0, .fn 44 [.boxd 23 [.holeD 32] 0], .tup0, .hole, .fn 44 [.boxd 23 [.holeD 32] 0], .tup0, .fn 44 [.boxd 23 [.holeD 32] 0], .fn 29 [.boxd 65 [.fn 26 [.boxd 63 [.hole] 0]] 0], .tup0, .tup0, .hole, .tup0, .fn 44 [.boxd 23 [.holeD 32] 0], .tup0, .tup0, .tup0, .tup0, .tup0], [(0, .loop ⟨46, 3, 13, 17, 0, none⟩), (1, .cells 23 [.row 2]), (2, .row 32)], 3⟩)] none, fun vs K => ∃ k, w_27x44_1 k vs K⟩
noncomputable def B27 : (List Segment) → (List (stretch × Int)) → (Y27 → Prop) → Prop :=
  fun x0 x1 K ↦ ∃ k3, l_27x44_1 k3 x0 (↑x0.length : Int) 0 x0 x0 x0 x0 x0 x1 x0 [] fun _ _ _ _ _ y9 _ y11 ↦ V43 y11 y9 fun y12 ↦ y12.length = y11.length → K y12
theorem V27_ex : ∃ V : (List Segment) → (List (stretch × Int)) → (Y27 → Prop) → Prop, V = B27 := ⟨_, rfl⟩
noncomputable def V27 : (List Segment) → (List (stretch × Int)) → (Y27 → Prop) → Prop := Classical.choose V27_ex
theorem V27_eq : V27 = B27 := Classical.choose_spec V27_ex
theorem pook_27x44_1_44 : PiecesOk Try.prog env (ctxG env false [] R43 [] []) 44 b44 :=
  pieces_at (rfIn_body (fn := f44) (b := b44) rfl hb44) (L := []) (S := []) (fun _ => rfl) (fun _ => rfl) (by kernel_rfl) (by kernel_rfl) (fun _ hq => by cases hq) (fun _ hq => by cases hq)
theorem book_27x44_1 : BodiesOk Try.prog env (ctxG env false [] R43 [] []) := bodies_okG (ks := []) (by kernel_rfl) (fun _ hq => by cases hq)
theorem stok_27x44_1 (k : Nat) (x1 : (List Segment)) (x2 : Int) (x3 : Int) (x4 : (List Segment)) (x5 : (List Segment)) (x6 : (List Segment)) (x7 : (List Segment)) (x8 : (List Segment)) (x9 : (List (stretch × Int))) (x10 : (List Segment)) (x11 : (List Segment)) (K : Ex → List (SV env.T) → Prop) : l_27x44_1 (k + 1) x1 x2 x3 x4 x5 x6 x7 x8 x9 x10 x11 (fun y1 y2 y3 y4 y5 y6 y7 y8 => K (.exit 0) [.nils, .dat 32 y1, .nils, .dat 32 y2, .dat 32 y3, .nils, .dat 32 y4, .dat 32 y5, .mdat 59 3 y6, .nils, .dat 32 y7, .dat 32 y8]) = vcCode env (ctxG env false [] R43 [] []) 2000 44 (loopAt b44 1) (insSt p_27x44_1.head [.dat 32 x1, .int .i64 x2, .int .i64 x3, .nils, .dat 32 x4, .nils, .dat 32 x5, .dat 32 x6, .nils, .dat 32 x7, .dat 32 x8, .mdat 59 3 x9, .nils, .dat 32 x10, .dat 32 x11]) (stepK p_27x44_1 (w_27x44_1 k) K) := by kernel_rfl
theorem wiok_27x44_1 (k : Nat) (vs : List (SV env.T)) (K : Ex → List (SV env.T) → Prop) (h : w_27x44_1 k vs K) : ∃ x1 : (List Segment), ∃ x2 : Int, ∃ x3 : Int, ∃ x4 : (List Segment), ∃ x5 : (List Segment), ∃ x6 : (List Segment), ∃ x7 : (List Segment), ∃ x8 : (List Segment), ∃ x9 : (List (stretch × Int)), ∃ x10 : (List Segment), ∃ x11 : (List Segment), vs = [.dat 32 x1, .int .i64 x2, .int .i64 x3, .nils, .dat 32 x4, .nils, .dat 32 x5, .dat 32 x6, .nils, .dat 32 x7, .dat 32 x8, .mdat 59 3 x9, .nils, .dat 32 x10, .dat 32 x11] ∧ l_27x44_1 k x1 x2 x3 x4 x5 x6 x7 x8 x9 x10 x11 (fun y1 y2 y3 y4 y5 y6 y7 y8 => K (.exit 0) [.nils, .dat 32 y1, .nils, .dat 32 y2, .dat 32 y3, .nils, .dat 32 y4, .dat 32 y5, .mdat 59 3 y6, .nils, .dat 32 y7, .dat 32 y8]) := by
  unfold w_27x44_1 at h
  replace h := dCD_spec h
  obtain ⟨x1, vs0, e0, h⟩ := h
  replace h := dCI_spec h
  obtain ⟨x2, vs1, e1, h⟩ := h
  replace h := dCI_spec h
  obtain ⟨x3, vs2, e2, h⟩ := h
  replace h := dCN_spec h
  obtain ⟨vs3, e3, h⟩ := h
  replace h := dCD_spec h
  obtain ⟨x4, vs4, e4, h⟩ := h
  replace h := dCN_spec h
  obtain ⟨vs5, e5, h⟩ := h
  replace h := dCD_spec h
  obtain ⟨x5, vs6, e6, h⟩ := h
  replace h := dCD_spec h
  obtain ⟨x6, vs7, e7, h⟩ := h
  replace h := dCN_spec h
  obtain ⟨vs8, e8, h⟩ := h
  replace h := dCD_spec h
  obtain ⟨x7, vs9, e9, h⟩ := h
  replace h := dCD_spec h
  obtain ⟨x8, vs10, e10, h⟩ := h
  replace h := dCM_spec h
  obtain ⟨x9, vs11, e11, h⟩ := h
  replace h := dCN_spec h
  obtain ⟨vs12, e12, h⟩ := h
  replace h := dCD_spec h
  obtain ⟨x10, vs13, e13, h⟩ := h
  replace h := dCD_spec h
  obtain ⟨x11, vs14, e14, h⟩ := h
  replace h := dCE_spec h
  obtain ⟨e, h⟩ := h
  exact ⟨x1, x2, x3, x4, x5, x6, x7, x8, x9, x10, x11, by rw [e0, e1, e2, e3, e4, e5, e6, e7, e8, e9, e10, e11, e12, e13, e14, e], h⟩
theorem zeok_27x44_1 (x1 : (List Segment)) (x2 : Int) (x3 : Int) (x4 : (List Segment)) (x5 : (List Segment)) (x6 : (List Segment)) (x7 : (List Segment)) (x8 : (List Segment)) (x9 : (List (stretch × Int))) (x10 : (List Segment)) (x11 : (List Segment)) (K : Ex → List (SV env.T) → Prop) : l_27x44_1 0 x1 x2 x3 x4 x5 x6 x7 x8 x9 x10 x11 (fun y1 y2 y3 y4 y5 y6 y7 y8 => K (.exit 0) [.nils, .dat 32 y1, .nils, .dat 32 y2, .dat 32 y3, .nils, .dat 32 y4, .dat 32 y5, .mdat 59 3 y6, .nils, .dat 32 y7, .dat 32 y8]) = False := by kernel_rfl
theorem ok_27x44_1 : PieceOk Try.prog env p_27x44_1 (.loop (loopAt b44 1)) := by
  refine loop_step (Wn := w_27x44_1) tab (ctxG_ok R43_ok false [] _ _) book_27x44_1 (pieces_sub pook_27x44_1_44 (by kernel_rfl)) rfl ?_ 2000 ?_
  · intro vs K h
    obtain ⟨x1, x2, x3, x4, x5, x6, x7, x8, x9, x10, x11, _, h⟩ := wiok_27x44_1 0 vs K h
    exact Eq.mp (zeok_27x44_1 x1 x2 x3 x4 x5 x6 x7 x8 x9 x10 x11 K) h
  · intro k vs K h
    obtain ⟨x1, x2, x3, x4, x5, x6, x7, x8, x9, x10, x11, rfl, h⟩ := wiok_27x44_1 (k + 1) vs K h
    exact Eq.mp (stok_27x44_1 k x1 x2 x3 x4 x5 x6 x7 x8 x9 x10 x11 K) h
theorem po_27_27 : PiecesOk Try.prog env (ctxG env false [] R43 [(44, [(1, p_27x44_1)])] []) 27 b27 :=
  pieces_at (rfIn_body (fn := f27) (b := b27) rfl hb27) (L := []) (S := []) (fun _ => rfl) (fun _ => rfl) (by kernel_rfl) (by kernel_rfl) (fun _ hq => by cases hq) (fun _ hq => by cases hq)
theorem po_27_44 : PiecesOk Try.prog env (ctxG env false [] R43 [(44, [(1, p_27x44_1)])] []) 44 b44 :=
  pieces_at (rfIn_body (fn := f44) (b := b44) rfl hb44) (L := [(1, p_27x44_1)]) (S := []) (fun _ => rfl) (fun _ => rfl) (by kernel_rfl) (by kernel_rfl) (List.forall_mem_cons.2 ⟨fun _ => ok_27x44_1, (fun _ hq => by cases hq)⟩) (fun _ hq => by cases hq)
theorem bo_27 : BodiesOk Try.prog env (ctxG env false [] R43 [(44, [(1, p_27x44_1)])] []) := bodies_okG (ks := [44]) (by kernel_rfl) (List.forall_mem_cons.2 ⟨body_at (fn := f44) (body := b44) rfl hb44 po_27_44, (fun _ hq => by cases hq)⟩)
theorem eq_27 (x0 : (List Segment)) (x1 : (List (stretch × Int))) (K : Y27 → Prop) : vcCode env (ctxG env false [] R43 [(44, [(1, p_27x44_1)])] []) 2000 27 b27 (entry env f27 [v69 x0, v71 x1]) (finR env f27 decR27 K) = B27 x0 x1 K := by kernel_rfl
noncomputable def rule27 : Nat × Rule env := (27, ruleF env decA27 encR27 fun x => V27 x.1 x.2)
theorem r27 : RuleOk Try.prog env 27 rule27.2 :=
  rule_fun tab (ctxG_ok R43_ok false [] _ _) bo_27 (f := 27) (fn := f27) rfl hb27 po_27_27 2000 encA27 hA27 hR27 hD27 (fun _ => of_decide_eq_true (by kernel_rfl)) (fun x K => (eq_27 x.1 x.2 K).trans (by rw [V27_eq]))
noncomputable def R27 : List (Nat × Rule env) := rule27 :: R43
theorem R27_ok : AllOk Try.prog env R27 := ⟨r27, R43_ok⟩
end Go.Vg.Ytkaodeodiakldaa
