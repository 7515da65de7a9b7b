/-
  What the walked functions of the reference come to (3): with, Put, Take. Own work; no condition.
-/
import Derived.Test.YtgekegoflaichaaSh
set_option maxRecDepth 10000
namespace Go.Vg.Ytgekegoflaichaa
open Go.Vg Go.Proofs

theorem l49_spec {fl : Int} {l : List Queued} (hl : l.length ≤ 1000000000) {ls T : List (List Queued)} (hs : Small ls) (hT : T.length = ls.length) (hTg : ∀ i : Nat, i < ls.length → T[i]? = some (if (i : Int) = fl then l else ls.getD i []))
    {a1 a2 a3 a4 a5 sd : Int} {v : List Int} {y1 y2 y3 y4 y5 : Int} {y6 : List Int} {y7 : Int} {k0 : Int → Int → Int → Int → Int → List (List Queued) → List Int → Int → Int → Int → Int → Int → Int → List Int → Int → List (List Queued) → Prop}
    (hk : k0 a1 a2 a3 a4 a5 ls v sd y1 y2 y3 y4 y5 y6 y7 T) : ∀ (m i : Nat), i + m = ls.length → ∃ k, l_49_3 k fl l i a1 a2 a3 a4 a5 ls v sd y1 y2 y3 y4 y5 y6 y7 (T.take i) k0 := by
  intro m
  induction m with
  | zero =>
    intro i hi
    refine ⟨1, br_false (by simp; omega) ?_⟩
    rw [List.take_of_length_le (by omega)]
    exact hk
  | succ m ih =>
    intro i hi
    have hlen := hs.len
    have hsum := hs.sum
    have hli := sumLen_getD ls i
    have hw : IntKind.i64.wrap ((i : Int) + 1) = ((i + 1 : Nat) : Int) := by rw [wrapi (by omega) (by omega)]; rfl
    have hnext : T.take i ++ [if (i : Int) = fl then l else ls.getD i []] = T.take (i + 1) := by
      rw [List.take_add_one, hTg i (by omega)]; rfl
    have hroom : ∀ y : List Queued, roomB (T.take i ++ [y]).length (bytesB env 43) = true := fun y => room43 (by simp; omega)
    obtain ⟨k, hk⟩ := ih (i + 1) (by omega)
    refine ⟨k + 1, br_true (by simp; omega) (br_of (fun e => ?_) (fun e => ?_))⟩
    · have e : (i : Int) = fl := by simpa using e
      rw [if_pos e] at hnext
      refine br_true (room45 (by omega)) (br_true (hroom _) ?_)
      rw [hw, hnext]; exact hk
    · have e : ¬ (i : Int) = fl := by simpa using e
      rw [if_neg e] at hnext
      refine br_true (inb_of (by omega) (by omega)) (br_true (room45 ?_) (br_true (hroom _) ?_))
      · show (ls.getD i []).length ≤ _; omega
      · rw [hw]
        have : T.take i ++ [ls.getD (i : Int).toNat (env.d 43)] = T.take (i + 1) := hnext
        rw [this]; exact hk

theorem V49_none {q : Queue} {K : Queue → Prop} (hs : Small q.lists) (h : K q) : V49 q (-1) [] K := by
  rw [V49_eq]; unfold B49
  exact l49_spec (T := q.lists) (by simp) hs rfl (fun i hi => by
    rw [if_neg (by omega), List.getElem?_eq_getElem hi, List.getD_eq_getElem?_getD, List.getElem?_eq_getElem hi]; rfl) h q.lists.length 0 (by omega)

theorem V49_spec {q : Queue} {i : Nat} {l : List Queued} (hl : l.length ≤ 1000000000) {K : Queue → Prop} (hs : Small q.lists) (h : K { q with lists := q.lists.set i l }) : V49 q i l K := by
  rw [V49_eq]; unfold B49
  exact l49_spec (T := q.lists.set i l) hl hs (by simp) (fun j hj => by
    rw [List.getElem?_set]
    by_cases e : i = j
    · subst e; simp [hj]
    · rw [if_neg e, if_neg (by omega), List.getElem?_eq_getElem hj, List.getD_eq_getElem?_getD, List.getElem?_eq_getElem hj]; rfl) h q.lists.length 0 (by omega)

theorem V18_spec {q : Queue} (hq : QFit q) {p : Packet} {now : Int} {K : Queue × List Packet × Int → Prop} (hs : Small q.lists) (h : K (putS q p now)) : V18 q p now K := by
  rw [V18_eq]; unfold B18
  refine V26_spec (br_of (fun e => ?_) (fun e => ?_))
  · rw [putS_1 (bool_not e)] at h; exact h
  have e0 := bool_nn e
  refine V48_spec hq hs (br_of (fun e => ?_) (fun e => ?_))
  · have : openS q now ≠ 0 := by simpa using e
    rw [putS_2 e0 rfl this] at h; exact h
  have e1 : openS q now = 0 := by simpa using e
  refine ⟨_, V27_spec (q := ⟨q.policy, q.room, q.lists, q.vars.set 7 now, q.seed⟩) hs rfl, br_of (fun e => ?_) (fun e => ?_)⟩
  · rw [putS_3 e0 e1 (by simpa using e)] at h
    exact ⟨_, V49_none (q := ⟨q.policy, q.room, q.lists, q.vars.set 7 now, q.seed⟩) hs rfl, h⟩
  rw [putS_4 e0 e1 (by simpa using e)] at h
  have hv : validS q = true := by
    unfold openS at e1
    cases hh : validS q
    · rw [hh] at e1; simp at e1
    · rfl
  have vp := validS_iff.1 hv
  have hl := vp.len
  have hfl := inS_iff.1 (show inS p.flow 0 7 = true by simp only [isPacketS, Bool.and_eq_true] at e0; exact e0.1.1.1.1.1)
  have hlen := sumLen_getD q.lists p.flow.toNat
  have hsum := hs.sum
  have hcast : ((p.flow.toNat : Nat) : Int) = p.flow := by omega
  refine br_true (inb_of (by omega) (by omega)) (br_true (room45 (by show (q.lists.getD p.flow.toNat []).length ≤ _; omega)) (br_true (room45 ?_) ?_))
  · rw [List.length_append]; show (q.lists.getD p.flow.toNat []).length + 1 ≤ _; omega
  · rw [← hcast]
    refine V49_spec (q := ⟨q.policy, q.room, q.lists, q.vars.set 7 now, q.seed⟩) ?_ hs ?_
    · rw [List.length_append]; show (q.lists.getD _ []).length + 1 ≤ _
      rw [hcast]; omega
    · rw [hcast]; exact h

/-! ### Take -/
theorem pack_def {t g v6 v7 : Int} {d : List Int} (hd : d.length = 8) (hb : ∀ i, i < 8 → 0 ≤ d.getD i 0 ∧ d.getD i 0 < 32768) : defS (packV t g d v6 v7) = d := by
  obtain ⟨d0, d1, d2, d3, d4, d5, d6, d7, rfl⟩ := list8 hd
  have b0 := hb 0 (by omega); have b1 := hb 1 (by omega); have b2 := hb 2 (by omega); have b3 := hb 3 (by omega)
  have b4 := hb 4 (by omega); have b5 := hb 5 (by omega); have b6 := hb 6 (by omega); have b7 := hb 7 (by omega)
  simp only [List.getD_cons_zero, List.getD_cons_succ] at b0 b1 b2 b3 b4 b5 b6 b7
  have one : ∀ {x y : Int}, (0 ≤ x ∧ x < 32768) → (0 ≤ y ∧ y < 32768) → IntKind.i64.wrap ((32768 * x + y).tdiv 32768) = x ∧ (32768 * x + y).tmod 32768 = y := fun h1 h2 => by
    rw [Int.tdiv_eq_ediv_of_nonneg (by omega), Int.tmod_eq_emod_of_nonneg (by omega), wrapi (by omega) (by omega)]; omega
  have e0 := one b0 b1; have e1 := one b2 b3; have e2 := one b4 b5; have e3 := one b6 b7
  show [_, _, _, _, _, _, _, _] = _
  simp only [packV, List.getD_cons_zero, List.getD_cons_succ, e0.1, e0.2, e1.1, e1.2, e2.1, e2.2, e3.1, e3.2]

theorem pack_of {v : List Int} (hv : v.length = 8) (h2 : 0 ≤ v.getD 2 0 ∧ v.getD 2 0 ≤ 9223372036854775807) (h3 : 0 ≤ v.getD 3 0 ∧ v.getD 3 0 ≤ 9223372036854775807) (h4 : 0 ≤ v.getD 4 0 ∧ v.getD 4 0 ≤ 9223372036854775807) (h5 : 0 ≤ v.getD 5 0 ∧ v.getD 5 0 ≤ 9223372036854775807) :
    v = packV (v.getD 0 0) (v.getD 1 0) (defS v) (v.getD 6 0) (v.getD 7 0) := by
  obtain ⟨v0, v1, v2, v3, v4, v5, v6, v7, rfl⟩ := list8 hv
  simp only [List.getD_cons_zero, List.getD_cons_succ] at h2 h3 h4 h5
  have one : ∀ {x : Int}, (0 ≤ x ∧ x ≤ 9223372036854775807) → 32768 * IntKind.i64.wrap (x.tdiv 32768) + x.tmod 32768 = x := fun h => by
    rw [Int.tdiv_eq_ediv_of_nonneg (by omega), Int.tmod_eq_emod_of_nonneg (by omega), wrapi (by omega) (by omega)]; omega
  have e2 := one h2; have e3 := one h3; have e4 := one h4; have e5 := one h5
  simp only [packV, defS, List.getD_cons_zero, List.getD_cons_succ, e2, e3, e4, e5]

theorem V54_at {q : Queue} {t g v6 v7 : Int} {d : List Int} (hv : q.vars = packV t g d v6 v7) (hd : d.length = 8) (hb : ∀ i, i < 8 → 0 ≤ d.getD i 0 ∧ d.getD i 0 < 32768) {x : Int} (hx : 0 ≤ x ∧ x < 8) {K : Int → Prop} (h : K (d.getD x.toNat 0)) : V54 q x K := by
  have : V54 q (x.toNat : Int) K := V54_spec (by omega) (by rw [hv, pack_def hd hb]; exact h)
  rw [show ((x.toNat : Nat) : Int) = x by omega] at this
  exact this

theorem V53_at {q : Queue} {t g v6 v7 : Int} {d : List Int} (hv : q.vars = packV t g d v6 v7) (hd : d.length = 8) (hb : ∀ i, i < 8 → 0 ≤ d.getD i 0 ∧ d.getD i 0 < 32768) {x n : Int} (hx : 0 ≤ x ∧ x < 8) (hn : 0 ≤ n ∧ n < 32768) {K : Queue → Prop}
    (h : K { q with vars := packV t g (d.set x.toNat n) v6 v7 }) : V53 q x n K := by
  rw [V53_eq]; unfold B53
  obtain ⟨pol, room, lists, vars, seed⟩ := q
  simp only at hv
  subst hv
  obtain ⟨d0, d1, d2, d3, d4, d5, d6, d7, rfl⟩ := list8 hd
  have b0 := hb 0 (by omega); have b1 := hb 1 (by omega); have b2 := hb 2 (by omega); have b3 := hb 3 (by omega)
  have b4 := hb 4 (by omega); have b5 := hb 5 (by omega); have b6 := hb 6 (by omega); have b7 := hb 7 (by omega)
  simp only [List.getD_cons_zero, List.getD_cons_succ] at b0 b1 b2 b3 b4 b5 b6 b7
  have even : ∀ {x y : Int}, (0 ≤ x ∧ x < 32768) → (0 ≤ y ∧ y < 32768) → IntKind.i64.wrap (IntKind.i64.wrap (n * 32768) + (32768 * x + y).tmod 32768) = 32768 * n + y := fun h1 h2 => by
    rw [Int.tmod_eq_emod_of_nonneg (by omega), wrapi (n := n * 32768) (by omega) (by omega), wrapi (by omega) (by omega)]; omega
  have odd : ∀ {x y : Int}, (0 ≤ x ∧ x < 32768) → (0 ≤ y ∧ y < 32768) → IntKind.i64.wrap (IntKind.i64.wrap (IntKind.i64.wrap ((32768 * x + y).tdiv 32768) * 32768) + n) = 32768 * x + n := fun h1 h2 => by
    rw [Int.tdiv_eq_ediv_of_nonneg (by omega), wrapi (n := (32768 * _ + _) / 32768) (by omega) (by omega), wrapi (n := _ * 32768) (by omega) (by omega), wrapi (by omega) (by omega)]; omega
  have : x = 0 ∨ x = 1 ∨ x = 2 ∨ x = 3 ∨ x = 4 ∨ x = 5 ∨ x = 6 ∨ x = 7 := by omega
  rcases this with rfl | rfl | rfl | rfl | rfl | rfl | rfl | rfl
  · have h : K ⟨pol, room, lists, [t, g, 32768 * n + d1, 32768 * d2 + d3, 32768 * d4 + d5, 32768 * d6 + d7, v6, v7], seed⟩ := h
    rw [← even b0 b1] at h; exact h
  · have h : K ⟨pol, room, lists, [t, g, 32768 * d0 + n, 32768 * d2 + d3, 32768 * d4 + d5, 32768 * d6 + d7, v6, v7], seed⟩ := h
    rw [← odd b0 b1] at h; exact h
  · have h : K ⟨pol, room, lists, [t, g, 32768 * d0 + d1, 32768 * n + d3, 32768 * d4 + d5, 32768 * d6 + d7, v6, v7], seed⟩ := h
    rw [← even b2 b3] at h; exact h
  · have h : K ⟨pol, room, lists, [t, g, 32768 * d0 + d1, 32768 * d2 + n, 32768 * d4 + d5, 32768 * d6 + d7, v6, v7], seed⟩ := h
    rw [← odd b2 b3] at h; exact h
  · have h : K ⟨pol, room, lists, [t, g, 32768 * d0 + d1, 32768 * d2 + d3, 32768 * n + d5, 32768 * d6 + d7, v6, v7], seed⟩ := h
    rw [← even b4 b5] at h; exact h
  · have h : K ⟨pol, room, lists, [t, g, 32768 * d0 + d1, 32768 * d2 + d3, 32768 * d4 + n, 32768 * d6 + d7, v6, v7], seed⟩ := h
    rw [← odd b4 b5] at h; exact h
  · have h : K ⟨pol, room, lists, [t, g, 32768 * d0 + d1, 32768 * d2 + d3, 32768 * d4 + d5, 32768 * n + d7, v6, v7], seed⟩ := h
    rw [← even b6 b7] at h; exact h
  · have h : K ⟨pol, room, lists, [t, g, 32768 * d0 + d1, 32768 * d2 + d3, 32768 * d4 + d5, 32768 * d6 + n, v6, v7], seed⟩ := h
    rw [← odd b6 b7] at h; exact h

theorem V52_at {q : Queue} {t g v6 v7 : Int} {d : List Int} (hv : q.vars = packV t g d v6 v7) (ht : 0 ≤ t ∧ t < 8) {K : Queue → Prop} (h : K { q with vars := packV ((t + 1) % 8) 0 d v6 v7 }) : V52 q K := by
  rw [V52_eq]; unfold B52
  obtain ⟨pol, room, lists, vars, seed⟩ := q
  simp only at hv
  subst hv
  have hw : (IntKind.i64.wrap (t + 1)).tmod 8 = (t + 1) % 8 := by
    rw [wrapi (by omega) (by omega), Int.tmod_eq_emod_of_nonneg (by omega)]
  have h : K ⟨pol, room, lists, packV ((IntKind.i64.wrap (t + 1)).tmod 8) 0 d v6 v7, seed⟩ := by rw [hw]; exact h
  exact h

theorem l207_spec {a v6 v7 : Int} {ls : List (List Queued)} (hs : Small ls) {x1 : Bool} {x2 a1 a3 a4 a5 sd : Int} {y1 y2 y3 y4 y5 : Int} {y6 : List Int} {y7 y8 y9 y10 y11 y12 y13 : Int} {y14 y15 : Bool}
    {kr : Bool → Int → Int → Int → Int → Int → Int → List (List Queued) → List Int → Int → Int → Int → Int → Int → Int → Int → Bool → Bool → Prop}
    {t' g' : Int} {d' : List Int}
    (hk : ∀ x r, ls.getD t'.toNat [] = x :: r → (r = [] → kr true 0 a1 a a3 a4 a5 (ls.set t'.toNat []) (packV ((t' + 1) % 8) 0 ((d'.set t'.toNat (d'.getD t'.toNat 0 - x.p.size)).set t'.toNat 0) v6 v7) sd x.p.flow x.p.sub x.p.number x.p.data x.p.size x.p.sent x.p.able x.p.marked) ∧
      (r ≠ [] → kr true 0 a1 a a3 a4 a5 (ls.set t'.toNat r) (packV t' g' (d'.set t'.toNat (d'.getD t'.toNat 0 - x.p.size)) v6 v7) sd x.p.flow x.p.sub x.p.number x.p.data x.p.size x.p.sent x.p.able x.p.marked)) :
    ∀ (n : Nat) (t g : Int) (d : List Int), Way a ls t g d → roundsS a ls n t g d = some (t', g', d') → ∃ k, l_20_7 k x1 x2 a1 a a3 a4 a5 ls (packV t g d v6 v7) sd y1 y2 y3 y4 y5 y6 y7 y8 y9 y10 y11 y12 y13 y14 y15 kr := by
  intro n
  induction n with
  | zero => intro t g d _ h; cases h
  | succ n ih =>
    intro t g d w h
    have ht := w.ht
    have hd := w.hd
    have hl := w.hl
    have hin : inb t (ls.length : Int) = true := inb_of (by omega) (by omega)
    have hb : ∀ i, i < 8 → 0 ≤ d.getD i 0 ∧ d.getD i 0 < 32768 := fun i hi => by have := w.h0 i hi; omega
    rw [roundsS] at h
    cases hx : ls.getD t.toNat [] with
    | nil =>
      rw [hx] at h
      obtain ⟨k, hk⟩ := ih ((t + 1) % 8) 0 d (w.pass (fun x r h => by rw [hx] at h; cases h)) h
      refine ⟨k + 1, br_true hin (br_true ?_ ?_)⟩
      · show ((List.length (ls.getD t.toNat (env.d 43)) : Int) == 0) = true
        rw [show ls.getD t.toNat (env.d 43) = [] from hx]; rfl
      · exact V52_at (q := ⟨⟨a1, a, a3, a4⟩, a5, ls, packV t g d v6 v7, sd⟩) rfl ht hk
    | cons x r =>
      rw [hx] at h
      simp only at h
      have hx' : ls.getD t.toNat (env.d 43) = x :: r := hx
      have hn0 : ((List.length (ls.getD t.toNat (env.d 43)) : Int) == 0) = false := by
        rw [hx']; simp only [List.length_cons, beq_eq_false_iff_ne]; omega
      have hsz := w.hs t.toNat x r (by omega) hx
      have hlen := sumLen_getD ls t.toNat
      have hsum := hs.sum
      rw [hx] at hlen
      simp only [List.length_cons] at hlen
      have at14 : ∀ (k : Nat) (d1 : List Int), Way a ls t 1 d1 → (x.p.size ≤ d1.getD t.toNat 0 → t' = t ∧ g' = 1 ∧ d' = d1) → (¬ x.p.size ≤ d1.getD t.toNat 0 → l_20_7 k x1 x2 a1 a a3 a4 a5 ls (packV ((t + 1) % 8) 0 d1 v6 v7) sd y1 y2 y3 y4 y5 y6 y7 y8 y9 y10 y11 y12 y13 y14 y15 kr) →
          s_20_14 x1 x2 t (ls.getD t.toNat (env.d 43)) a1 a a3 a4 a5 ls (packV t 1 d1 v6 v7) sd y1 y2 y3 y4 y5 y6 y7 y8 y9 y10 y11 y12 y13 y14 y15 (fun y28 y29 y30 y31 y32 y33 y34 y35 y36 y37 y38 y39 y40 y41 y42 y43 y44 y45 y46 y47 y48 y49 y50 y51 y52 ↦ l_20_7 k y28 y29 y30 y31 y32 y33 y34 y35 y36 y37 y38 y39 y40 y41 y42 y43 y44 y45 y46 y47 y48 y49 y50 y51 y52 kr) kr := by
        intro k d1 w1 e1 e2
        have hd1 := w1.hd
        have hb1 : ∀ i, i < 8 → 0 ≤ d1.getD i 0 ∧ d1.getD i 0 < 32768 := fun i hi => by have := w1.h0 i hi; omega
        unfold s_20_14
        rw [hx']
        refine br_true (inb_of (by omega) (by simp)) ⟨_, V54_at (q := ⟨⟨a1, a, a3, a4⟩, a5, ls, packV t 1 d1 v6 v7, sd⟩) rfl hd1 hb1 ht rfl, br_of (fun e => ?_) (fun e => ?_)⟩
        · have e : x.p.size > d1.getD t.toNat 0 := of_decide_eq_true e
          exact V52_at (q := ⟨⟨a1, a, a3, a4⟩, a5, ls, packV t 1 d1 v6 v7, sd⟩) rfl ht (e2 (by omega))
        have e : ¬ x.p.size > d1.getD t.toNat 0 := of_decide_eq_false e
        obtain ⟨rfl, rfl, rfl⟩ := e1 (by omega)
        have hbt := w1.h0 t'.toNat (by omega)
        have hwr : IntKind.i64.wrap (d'.getD t'.toNat 0 - x.p.size) = d'.getD t'.toNat 0 - x.p.size := wrapi (by omega) (by omega)
        refine ⟨_, V54_at (q := ⟨⟨a1, a, a3, a4⟩, a5, ls, packV t' 1 d' v6 v7, sd⟩) rfl hd1 hb1 ht rfl, ?_⟩
        have hsz' : ((x :: r).getD 0 (env.d 45)).p.size = x.p.size := rfl
        rw [hsz', hwr]
        refine ⟨_, V53_at (q := ⟨⟨a1, a, a3, a4⟩, a5, ls, packV t' 1 d' v6 v7, sd⟩) rfl hd1 hb1 ht (by omega) rfl, ?_⟩
        refine br_true ?_ ?_
        · show andb (leb 0 1) (leb 1 (((x :: r).length : Nat) : Int)) = true
          unfold leb
          rw [decide_eq_true (by omega), decide_eq_true (by simp; omega)]; rfl
        have hcut : cutL (x :: r) ((some 1).getD 0) (none.getD (((x :: r).length : Nat) : Int)) = r := by simp [cutL]
        rw [hcut]
        have hcast : ((t'.toNat : Nat) : Int) = t' := by omega
        have hd2 : (d'.set t'.toNat (d'.getD t'.toNat 0 - x.p.size)).length = 8 := by simp [hd1]
        have hb2 : ∀ i, i < 8 → 0 ≤ (d'.set t'.toNat (d'.getD t'.toNat 0 - x.p.size)).getD i 0 ∧ (d'.set t'.toNat (d'.getD t'.toNat 0 - x.p.size)).getD i 0 < 32768 := fun i hi => by
          rw [getD_set (by omega)]
          split
          · omega
          · exact hb1 i hi
        refine ⟨⟨⟨a1, a, a3, a4⟩, a5, ls.set t'.toNat r, packV t' 1 (d'.set t'.toNat (d'.getD t'.toNat 0 - x.p.size)) v6 v7, sd⟩, ?_, br_of (fun e3 => ?_) (fun e3 => ?_)⟩
        · have := V49_spec (q := ⟨⟨a1, a, a3, a4⟩, a5, ls, packV t' 1 (d'.set t'.toNat (d'.getD t'.toNat 0 - x.p.size)) v6 v7, sd⟩) (i := t'.toNat) (l := r) (K := fun y => tupV (encR49 y) = tupV (encR49 ⟨⟨a1, a, a3, a4⟩, a5, ls.set t'.toNat r, packV t' 1 (d'.set t'.toNat (d'.getD t'.toNat 0 - x.p.size)) v6 v7, sd⟩)) (by omega) hs rfl
          rw [hcast] at this
          exact this
        · have hr0 : r = [] := by
            have : ((x :: r).length : Int) = 1 := by simpa using e3
            simp at this
            exact List.length_eq_zero_iff.1 (by omega)
          subst hr0
          refine V53_at (q := ⟨⟨a1, a, a3, a4⟩, a5, ls.set t'.toNat [], packV t' 1 (d'.set t'.toNat (d'.getD t'.toNat 0 - x.p.size)) v6 v7, sd⟩) rfl hd2 hb2 ht (by omega) ?_
          exact V52_at (q := ⟨⟨a1, a, a3, a4⟩, a5, ls.set t'.toNat [], packV t' 1 ((d'.set t'.toNat (d'.getD t'.toNat 0 - x.p.size)).set t'.toNat 0) v6 v7, sd⟩) rfl ht ((hk x [] hx).1 rfl)
        · have hr0 : r ≠ [] := fun h0 => by rw [h0] at e3; cases e3
          exact (hk x r hx).2 hr0
      rcases w.hg with rfl | rfl
      · simp only [if_true] at h
        have w1 := w.got hx
        have hbt := w.h0 t.toNat (by omega)
        have ha := w.ha
        have hwa : IntKind.i64.wrap (d.getD t.toNat 0 + a) = d.getD t.toNat 0 + a := wrapi (by omega) (by omega)
        have pre : ∀ k, s_20_14 x1 x2 t (ls.getD t.toNat (env.d 43)) a1 a a3 a4 a5 ls (packV t 1 (d.set t.toNat (d.getD t.toNat 0 + a)) v6 v7) sd y1 y2 y3 y4 y5 y6 y7 y8 y9 y10 y11 y12 y13 y14 y15 (fun y28 y29 y30 y31 y32 y33 y34 y35 y36 y37 y38 y39 y40 y41 y42 y43 y44 y45 y46 y47 y48 y49 y50 y51 y52 ↦ l_20_7 k y28 y29 y30 y31 y32 y33 y34 y35 y36 y37 y38 y39 y40 y41 y42 y43 y44 y45 y46 y47 y48 y49 y50 y51 y52 kr) kr →
            l_20_7 (k + 1) x1 x2 a1 a a3 a4 a5 ls (packV t 0 d v6 v7) sd y1 y2 y3 y4 y5 y6 y7 y8 y9 y10 y11 y12 y13 y14 y15 kr := by
          intro k hs14
          refine br_true hin (br_false hn0 (br_true rfl ⟨_, V54_at (q := ⟨⟨a1, a, a3, a4⟩, a5, ls, packV t 1 d v6 v7, sd⟩) rfl hd hb ht rfl, ?_⟩))
          rw [hwa]
          exact ⟨_, V53_at (q := ⟨⟨a1, a, a3, a4⟩, a5, ls, packV t 1 d v6 v7, sd⟩) rfl hd hb ht (by omega) rfl, hs14⟩
        by_cases hle : x.p.size ≤ (d.set t.toNat (d.getD t.toNat 0 + a)).getD t.toNat 0
        · rw [if_pos hle] at h
          cases h
          exact ⟨1, pre 0 (at14 0 _ w1 (fun _ => ⟨rfl, rfl, rfl⟩) (fun e => absurd hle e))⟩
        · rw [if_neg hle] at h
          obtain ⟨k, hk'⟩ := ih ((t + 1) % 8) 0 _ (w1.pass (fun y q h => by rw [hx] at h; cases h; omega)) h
          exact ⟨k + 1, pre k (at14 k _ w1 (fun e => absurd e hle) (fun _ => hk'))⟩
      · simp only [show ¬ (1 : Int) = 0 by omega, if_false] at h
        by_cases hle : x.p.size ≤ d.getD t.toNat 0
        · rw [if_pos hle] at h
          cases h
          refine ⟨1, br_true hin (br_false hn0 (br_false rfl ?_))⟩
          exact at14 0 _ w (fun _ => ⟨rfl, rfl, rfl⟩) (fun e => absurd hle e)
        · rw [if_neg hle] at h
          obtain ⟨k, hk'⟩ := ih ((t + 1) % 8) 0 _ (w.pass (fun y q h => by rw [hx] at h; cases h; omega)) h
          refine ⟨k + 1, br_true hin (br_false hn0 (br_false rfl ?_))⟩
          exact at14 k _ w (fun e => absurd e hle) (fun _ => hk')

theorem V20_spec {q : Queue} (hq : QFit q) {now : Int} {K : Queue × Packet × Bool × List Packet × Int → Prop} (hs : Small q.lists) (h : K (takeS q now)) : V20 q now K := by
  rw [V20_eq]; unfold B20
  refine V48_spec hq hs (br_of (fun e => ?_) (fun e => ?_))
  · have : openS q now ≠ 0 := by simpa using e
    rw [takeS_1 rfl this] at h; exact h
  have e1 : openS q now = 0 := by simpa using e
  refine V27_spec (q := ⟨q.policy, q.room, q.lists, q.vars.set 7 now, q.seed⟩) hs (br_of (fun e => ?_) (fun e => ?_))
  · rw [takeS_2 e1 (by simpa using e)] at h
    exact V49_none (q := ⟨q.policy, q.room, q.lists, q.vars.set 7 now, q.seed⟩) hs h
  have hn : sumLen q.lists ≠ 0 := by simpa using e
  rw [takeS_3 e1 hn] at h
  have hv : validS q = true := by
    unfold openS at e1
    cases hh : validS q
    · rw [hh] at e1; simp at e1
    · rfl
  have vp := validS_iff.1 hv
  obtain ⟨i, hi, hne⟩ := vp.ne hn
  obtain ⟨⟨t', g', d'⟩, hr⟩ := rounds_some vp.way hi hne
  rw [hr] at h
  obtain ⟨w', rfl, x, r, hx, hle⟩ := rounds_end fuelS vp.way hr
  have hpack : q.vars.set 7 now = packV (q.vars.getD 0 0) (q.vars.getD 1 0) (defS q.vars) (q.vars.getD 6 0) now := by
    have := pack_of hq.len ⟨vp.n2, (hq.get 2).2⟩ ⟨vp.n3, (hq.get 3).2⟩ ⟨vp.n4, (hq.get 4).2⟩ ⟨vp.n5, (hq.get 5).2⟩
    conv => lhs; rw [this]
    rfl
  rw [hpack]
  refine l207_spec hs (fun x2 r2 hx2 => ?_) fuelS _ _ _ vp.way hr
  rw [hx] at hx2; cases hx2
  refine ⟨fun e => ?_, fun e => ?_⟩
  · subst e
    simp only [takeEnd, hx] at h
    exact h
  · rcases r with _ | ⟨y, r⟩
    · exact absurd rfl e
    simp only [takeEnd, hx] at h
    exact h

end Go.Vg.Ytgekegoflaichaa
