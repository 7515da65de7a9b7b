/-
  What the walked functions of chapter 22 come to (6): deficit.Take as a whole. Own work; no condition. (Written by mkSf.py.)
-/
import Derived.Test.YtgekegoflaichaaSe
set_option maxRecDepth 10000
namespace Go.Vg.Ytgekegoflaichaa
open Go.Vg Go.Proofs

theorem set_take {α : Type} {ls c : List α} {i : Nat} {x : α} (hx : ls[i]? = some x) (hc : c.length = ls.length) (hp : ∀ j, j < i → c[j]? = ls[j]?) : (c.set i x).length = ls.length ∧ ∀ j, j < i + 1 → (c.set i x)[j]? = ls[j]? := by
  refine ⟨by simpa using hc, fun j hj => ?_⟩
  rw [List.getElem?_set]
  split
  · rename_i e; subst e
    have := (List.getElem?_eq_some_iff.1 hx).1
    rw [if_pos (by omega), hx]
  · exact hp j (by omega)

theorem clones_spec {ls : List (List Queued)} (hs : Small ls) {z4 : Int} {z5 : Int} {z6 : (List (List Queued))} {z7 : Int} {z8 : Bool} {z9 : Int} {z10 : Int} {z11 : Int} {z12 : Int} {z13 : Int} {z14 : Int} {z15 : (List (List Queued))} {z16 : (List Int)} {z17 : Int} {z18 : Int} {z20 : Int} {z21 : Int} {z22 : Int} {z23 : Int} {z24 : Int} {z25 : (List (List Queued))} {z26 : (List Int)} {z27 : Int} {z28 : Int} {z29 : Int} {z30 : Int} {z31 : Int} {z32 : Int} {z33 : (List Int)} {z34 : Int} {z35 : Int} {z36 : Int} {z37 : Int} {z38 : Int} {z39 : Int} {z40 : (List (List Queued))} {z41 : (List Int)} {z42 : Int} {z43 : Int} {z44 : Int} {z45 : Int} {z46 : Int} {z47 : Int} {z48 : (List Int)} {z49 : Int} {z50 : Int} {z51 : Int} {z52 : Int} {z53 : Int} {z54 : Int} {z55 : Int} {z56 : Bool} {z57 : Bool} {k0 : (Int → Int → (List (List Queued)) → Int → Bool → Int → Int → Int → Int → Int → Int → (List (List Queued)) → (List Int) → Int → Int → (List (List Queued)) → Int → Int → Int → Int → Int → (List (List Queued)) → (List Int) → Int → Int → Int → Int → Int → Int → (List Int) → Int → Int → Int → Int → Int → Int → (List (List Queued)) → (List Int) → Int → Int → Int → Int → Int → Int → (List Int) → Int → Int → Int → Int → Int → Int → Int → Bool → Bool → Prop)} (hk : k0 z4 z5 z6 z7 z8 z9 z10 z11 z12 z13 z14 z15 z16 z17 z18 ls z20 z21 z22 z23 z24 z25 z26 z27 z28 z29 z30 z31 z32 z33 z34 z35 z36 z37 z38 z39 z40 z41 z42 z43 z44 z45 z46 z47 z48 z49 z50 z51 z52 z53 z54 z55 z56 z57) :
    ∀ (m i : Nat) (c : List (List Queued)), i + m = ls.length → c.length = ls.length → (∀ j, j < i → c[j]? = ls[j]?) → ∃ k, l_19x71_3 k ls (ls.length : Int) i z4 z5 z6 z7 z8 z9 z10 z11 z12 z13 z14 z15 z16 z17 z18 c z20 z21 z22 z23 z24 z25 z26 z27 z28 z29 z30 z31 z32 z33 z34 z35 z36 z37 z38 z39 z40 z41 z42 z43 z44 z45 z46 z47 z48 z49 z50 z51 z52 z53 z54 z55 z56 z57 k0 := by
  intro m
  induction m with
  | zero =>
    intro i c hi hc hp
    have : c = ls := by
      apply List.ext_getElem?
      intro j
      by_cases hj : j < i
      · exact hp j hj
      · rw [List.getElem?_eq_none (by omega), List.getElem?_eq_none (by omega)]
    subst this
    exact ⟨1, br_false (by simp; omega) hk⟩
  | succ m ih =>
    intro i c hi hc hp
    have hlt : i < ls.length := by omega
    have hx : ls[i]? = some ls[i] := List.getElem?_eq_getElem hlt
    have hg : ls.getD (i : Int).toNat (env.d 43) = ls[i] := by
      show ls.getD i ([] : List Queued) = _
      rw [List.getD_eq_getElem?_getD, hx]; rfl
    have hlen := sumLen_mem (List.getElem_mem hlt)
    have hsum := hs.sum
    have hll := hs.len
    have hw : IntKind.i64.wrap ((i : Int) + 1) = ((i + 1 : Nat) : Int) := by rw [wrapi (by omega) (by omega)]; rfl
    obtain ⟨h1, h2⟩ := set_take hx hc hp
    obtain ⟨k, hk⟩ := ih (i + 1) (c.set i ls[i]) (by omega) h1 h2
    refine ⟨k + 1, br_true (by simpa using hlt) (br_true (inb_of (by omega) (by omega)) ?_)⟩
    rw [hg]
    refine br_true (clone_ok (n := ls[i].length) (by omega)) (br_true (room45 (by show ls[i].length ≤ _; omega)) (br_true (inb_of (by omega) (by rw [hc]; omega)) ?_))
    rw [hw]
    exact hk

theorem list8 {α : Type} {l : List α} (h : l.length = 8) : ∃ a0 a1 a2 a3 a4 a5 a6 a7, l = [a0, a1, a2, a3, a4, a5, a6, a7] := by
  rcases l with _ | ⟨l0, _ | ⟨l1, _ | ⟨l2, _ | ⟨l3, _ | ⟨l4, _ | ⟨l5, _ | ⟨l6, _ | ⟨l7, _ | ⟨l8, r⟩⟩⟩⟩⟩⟩⟩⟩⟩ <;> first | exact ⟨l0, l1, l2, l3, l4, l5, l6, l7, rfl⟩ | (exfalso; simp at h; done) | (exfalso; simp at h; omega)

theorem V51_spec {q : Queue} {d : List Int} {K : Queue → Prop} (hv : q.vars.length = 8) (hd : d.length = 8) (hb : ∀ i, i < 8 → 0 ≤ d.getD i 0 ∧ d.getD i 0 ≤ 30000)
    (h : K { q with vars := packV (q.vars.getD 0 0) (q.vars.getD 1 0) d (q.vars.getD 6 0) (q.vars.getD 7 0) }) : V51 q d K := by
  rw [V51_eq]; unfold B51
  obtain ⟨⟨kind, a, b, c⟩, room, lists, vars, seed⟩ := q
  obtain ⟨v0, v1, v2, v3, v4, v5, v6, v7, rfl⟩ := list8 hv
  obtain ⟨d0, d1, d2, d3, d4, d5, d6, d7, rfl⟩ := list8 hd
  have b0 := hb 0 (by omega); have b1 := hb 1 (by omega); have b2 := hb 2 (by omega); have b3 := hb 3 (by omega)
  have b4 := hb 4 (by omega); have b5 := hb 5 (by omega); have b6 := hb 6 (by omega); have b7 := hb 7 (by omega)
  simp only [List.getD_cons_zero, List.getD_cons_succ] at b0 b1 b2 b3 b4 b5 b6 b7
  have one : ∀ {x y : Int}, (0 ≤ x ∧ x ≤ 30000) → (0 ≤ y ∧ y ≤ 30000) → IntKind.i64.wrap (IntKind.i64.wrap (32768 * x) + y) = 32768 * x + y := fun h1 h2 => by
    rw [wrapi (n := 32768 * _) (by omega) (by omega), wrapi (by omega) (by omega)]
  have e0 := one b0 b1; have e1 := one b2 b3; have e2 := one b4 b5; have e3 := one b6 b7
  refine ⟨5, ?_⟩
  have : K ⟨⟨kind, a, b, c⟩, room, lists, [v0, v1, IntKind.i64.wrap (IntKind.i64.wrap (32768 * d0) + d1), IntKind.i64.wrap (IntKind.i64.wrap (32768 * d2) + d3), IntKind.i64.wrap (IntKind.i64.wrap (32768 * d4) + d5), IntKind.i64.wrap (IntKind.i64.wrap (32768 * d6) + d7), v6, v7], seed⟩ := by
    rw [e0, e1, e2, e3]; exact h
  exact this

theorem takeS_1 {q : Queue} {now e : Int} (h : openS q now = e) (he : e ≠ 0) : takeS q now = (zeroQ, zeroP, false, [], e) := by unfold takeS; rw [h, if_pos he]
theorem takeS_2 {q : Queue} {now : Int} (h : openS q now = 0) (hn : sumLen q.lists = 0) : takeS q now = (atS q now, zeroP, false, [], 0) := by unfold takeS; rw [h, if_neg (by decide), if_pos hn]
theorem takeS_3 {q : Queue} {now : Int} (h : openS q now = 0) (hn : sumLen q.lists ≠ 0) : takeS q now = takeEnd q now (roundsS q.policy.a q.lists fuelS (q.vars.getD 0 0) (q.vars.getD 1 0) (defS q.vars)) := by unfold takeS; rw [h, if_neg (by decide), if_neg hn]

theorem pack_at {v : List Int} (hv : v.length = 8) {t g now : Int} {d : List Int} : packV ((((v.set 7 now).set 0 t).set 1 g).getD 0 0) ((((v.set 7 now).set 0 t).set 1 g).getD 1 0) d ((((v.set 7 now).set 0 t).set 1 g).getD 6 0) ((((v.set 7 now).set 0 t).set 1 g).getD 7 0) = packV t g d (v.getD 6 0) now := by
  obtain ⟨v0, v1, v2, v3, v4, v5, v6, v7, rfl⟩ := list8 hv
  rfl

theorem V19_spec {q : Queue} {now : Int} {K : Queue × Packet × Bool × List Packet × Int → Prop} (hs : Small q.lists) (hv8 : q.vars.length = 8) (h : K (takeS q now)) : V19 q now K := by
  rw [V19_eq]; unfold B19
  refine V21_spec hs (br_of (fun e => ?_) (fun e => ?_))
  · rw [takeS_1 (openS_1 (bool_not e)) (by decide)] at h; exact h
  have e1 := bool_nn e
  refine V55_spec (br_of (fun e => ?_) (fun e => ?_))
  · rw [takeS_1 (openS_2 e1 (bool_not e)) (by decide)] at h; exact h
  have e2 := bool_nn e
  refine br_of (fun e => ?_) (fun e => ?_)
  · rw [takeS_1 (openS_3 e1 e2 (by simpa using e)) (by decide)] at h; exact h
  have e3 := openS_0 e1 e2 (by simpa using e)
  have vp := validS_iff.1 e1
  have hl8 := vp.len
  refine br_true ?_ ?_
  · rw [hl8]; kernel_rfl
  refine clones_spec hs ?_ q.lists.length 0 _ (by omega) (by simp) (fun j hj => by omega)
  refine V47_spec (q := ⟨⟨q.policy.kind, q.policy.a, q.policy.b, q.policy.c⟩, q.room, q.lists, q.vars.set 7 now, q.seed⟩) hs (br_of (fun e => ?_) (fun e => ?_))
  · rw [takeS_2 e3 (by simpa using e)] at h; exact h
  have hn : sumLen q.lists ≠ 0 := by simpa using e
  rw [takeS_3 e3 hn] at h
  unfold s_19_4
  refine V50_spec ?_
  have hdef : defS (q.vars.set 7 now) = defS q.vars := by
    obtain ⟨v0, v1, v2, v3, v4, v5, v6, v7, e⟩ := list8 hv8
    rw [e]; rfl
  have hv0 : (q.vars.set 7 now).getD 0 0 = q.vars.getD 0 0 := by
    obtain ⟨v0, v1, v2, v3, v4, v5, v6, v7, e⟩ := list8 hv8
    rw [e]; rfl
  have hv1 : (q.vars.set 7 now).getD 1 0 = q.vars.getD 1 0 := by
    obtain ⟨v0, v1, v2, v3, v4, v5, v6, v7, e⟩ := list8 hv8
    rw [e]; rfl
  rw [hdef, hv0, hv1]
  obtain ⟨i, hi, hne⟩ := vp.ne hn
  obtain ⟨⟨t', g', d'⟩, hr⟩ := rounds_some vp.way hi hne
  rw [hr] at h
  obtain ⟨w', rfl, x, r, hx, hle⟩ := rounds_end fuelS vp.way hr
  refine l19_spec hs (fun x2 r2 hx2 => ?_) fuelS _ _ _ _ _ _ _ _ _ _ _ vp.way hr
  have ht := w'.ht
  have hd := w'.hd
  rw [hx] at hx2; cases hx2
  have h8 : inb t' 8 = true := inb_of (by omega) (by omega)
  have hil : inb t' (q.lists.length : Int) = true := inb_of (by omega) (by omega)
  have hx' : q.lists.getD t'.toNat (env.d 43) = x :: r := hx
  have hbt := w'.h0 t'.toNat (by omega)
  have hsz := w'.hs t'.toNat x r (by omega) hx
  have hwr : IntKind.i64.wrap (d'.getD t'.toNat 0 - x.p.size) = d'.getD t'.toNat 0 - x.p.size := wrapi (by omega) (by omega)
  have hwr2 : (IntKind.i64.wrap (t' + 1)).tmod 8 = (t' + 1) % 8 := by
    rw [wrapi (by omega) (by omega), Int.tmod_eq_emod_of_nonneg (by omega)]
  have hcut : cutL (x :: r) ((some 1).getD 0) (none.getD (((x :: r).length : Nat) : Int)) = r := by
    simp [cutL]
  have hset : (q.lists.set t'.toNat r).getD t'.toNat (env.d 43) = r := by
    show (q.lists.set t'.toNat r).getD t'.toNat ([] : List Queued) = r
    rw [List.getD_eq_getElem?_getD, List.getElem?_set_self (by omega)]; rfl
  rw [hx', hcut, hset, hwr, hwr2]
  have hb1 : ∀ i, i < 8 → 0 ≤ (d'.set t'.toNat (d'.getD t'.toNat 0 - x.p.size)).getD i 0 ∧ (d'.set t'.toNat (d'.getD t'.toNat 0 - x.p.size)).getD i 0 ≤ 30000 := fun i hi => by
    rw [getD_set (by omega)]
    split
    · omega
    · have := w'.h0 i hi; omega
  have hb2 : ∀ i, i < 8 → 0 ≤ ((d'.set t'.toNat (d'.getD t'.toNat 0 - x.p.size)).set t'.toNat 0).getD i 0 ∧ ((d'.set t'.toNat (d'.getD t'.toNat 0 - x.p.size)).set t'.toNat 0).getD i 0 ≤ 30000 := fun i hi => by
    rw [getD_set (by simp; omega)]
    split
    · omega
    · exact hb1 i hi
  refine br_true h8 (br_true h8 (br_true hil (br_true ?_ (br_true hil (br_true ?_ (br_of (fun e => br_true h8 ?_) (fun e => ?_)))))))
  · show andb (leb 0 1) (leb 1 (((x :: r).length : Nat) : Int)) = true
    unfold leb
    rw [decide_eq_true (by omega), decide_eq_true (by simp; omega)]; rfl
  · exact inb_of (by omega) (by simp; omega)
  · have hr0 : r = [] := by
      have : (r.length : Int) = 0 := by simpa using e
      exact List.length_eq_zero_iff.1 (by omega)
    subst hr0
    unfold s_19_20
    refine ⟨_, V51_spec (by simp [hv8]) (by simp [hd]) hb2 rfl, ?_⟩
    simp only [takeEnd, hx] at h
    rw [pack_at hv8]
    exact h
  · rcases r with _ | ⟨y, r⟩
    · cases e
    unfold s_19_20
    refine ⟨_, V51_spec (by simp [hv8]) (by simp [hd]) hb1 rfl, ?_⟩
    simp only [takeEnd, hx] at h
    rw [pack_at hv8]
    exact h

end Go.Vg.Ytgekegoflaichaa
