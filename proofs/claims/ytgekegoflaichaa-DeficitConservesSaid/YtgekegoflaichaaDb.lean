/-
  Serving by deficits, as lists and numbers alone: what comes out is valid. Own work; no condition.
-/
import Derived.Test.YtgekegoflaichaaSj
namespace Go.Vg.Ytgekegoflaichaa
open Go.Vg Go.Proofs

theorem okList_last {flow : Int} : ∀ {l : List Queued} {at_ last last' : Int}, last ≤ last' → okList flow last at_ l = true → okList flow last' at_ l = true
  | [], _, _, _, _, _ => rfl
  | x :: r, at_, last, last', hl, h => by
    obtain ⟨h1, h2, h3, h4⟩ := okList_cons h
    simp only [okList, Bool.and_eq_true, beq_iff_eq]
    exact ⟨⟨⟨h1, h2⟩, inS_true h3.1 (by omega)⟩, okList_last hl h4⟩
theorem okList_app {flow last : Int} {x : Queued} (hx : isPacketS x.p = true) (hf : x.p.flow = flow) (hl : x.at_ = last) : ∀ {l : List Queued} {at_ : Int}, at_ ≤ last → okList flow last at_ l = true → okList flow last at_ (l ++ [x]) = true
  | [], at_, ha, _ => by
    simp only [List.nil_append, okList, Bool.and_eq_true, beq_iff_eq]
    exact ⟨⟨⟨hx, hf⟩, inS_true (by omega) (by omega)⟩, trivial⟩
  | y :: r, at_, ha, h => by
    obtain ⟨h1, h2, h3, h4⟩ := okList_cons h
    simp only [List.cons_append, okList, Bool.and_eq_true, beq_iff_eq]
    exact ⟨⟨⟨h1, h2⟩, inS_true h3.1 h3.2⟩, okList_app hx hf hl h3.2 h4⟩
theorem okList_at {flow last : Int} : ∀ {l : List Queued} {at_ at' : Int}, at' ≤ at_ → okList flow last at_ l = true → okList flow last at' l = true
  | [], _, _, _, _ => rfl
  | x :: r, at_, at', ha, h => by
    obtain ⟨h1, h2, h3, h4⟩ := okList_cons h
    simp only [okList, Bool.and_eq_true, beq_iff_eq]
    exact ⟨⟨⟨h1, h2⟩, inS_true (by omega) h3.2⟩, h4⟩

theorem flowOk_iff {turn got v7 : Int} {i : Nat} {d : Int} {l : List Queued} : flowOk turn got v7 i d l = true ↔ (0 ≤ d ∧ d ≤ 19999) ∧ (l = [] → d = 0) ∧ okList i v7 0 l = true ∧ (∀ x r, l = x :: r → (got = 1 ∧ turn = i) ∨ d < x.p.size) := by
  unfold flowOk
  simp only [Bool.and_eq_true, Bool.or_eq_true, decide_eq_true_eq, beq_iff_eq, inS_iff]
  cases l with
  | nil =>
    simp only [headOk, List.length_nil]
    constructor
    · rintro ⟨⟨⟨h1, h2⟩, h3⟩, _⟩
      exact ⟨h1, fun _ => h2.resolve_left (by simp), h3, fun x r h => (by cases h)⟩
    · rintro ⟨h1, h2, h3, _⟩
      exact ⟨⟨⟨h1, .inr (by first | exact h2 rfl | exact h2 trivial)⟩, h3⟩, trivial⟩
  | cons x r =>
    simp only [headOk, List.length_cons, Bool.or_eq_true, Bool.and_eq_true, beq_iff_eq, decide_eq_true_eq]
    constructor
    · rintro ⟨⟨⟨h1, h2⟩, h3⟩, h4⟩
      exact ⟨h1, fun h => (by cases h), h3, fun y s h => (by cases h; exact h4)⟩
    · rintro ⟨h1, h2, h3, h4⟩
      exact ⟨⟨⟨h1, .inl (by omega)⟩, h3⟩, h4 x r rfl⟩

theorem set7 {v : List Int} (hv : v.length = 8) (now : Int) : ∃ v0 v1 v2 v3 v4 v5 v6 v7, v = [v0, v1, v2, v3, v4, v5, v6, v7] ∧ v.set 7 now = [v0, v1, v2, v3, v4, v5, v6, now] := by
  obtain ⟨v0, v1, v2, v3, v4, v5, v6, v7, rfl⟩ := list8 hv
  exact ⟨v0, v1, v2, v3, v4, v5, v6, v7, rfl, rfl⟩

theorem at_valid {q : Queue} {now : Int} (hv : q.vars.length = 8) (h : openS q now = 0) : ValidP (atS q now) := by
  obtain ⟨h1, h2, h3⟩ := open_valid h
  have vp := validS_iff.1 h1
  obtain ⟨pol, room, lists, vars, seed⟩ := q
  obtain ⟨v0, v1, v2, v3, v4, v5, v6, v7, e, e2⟩ := set7 hv now
  simp only at e e2
  subst e
  have e2 : [v0, v1, v2, v3, v4, v5, v6, v7].set 7 now = [v0, v1, v2, v3, v4, v5, v6, now] := rfl
  simp only [atS, e2]
  refine ⟨vp.kind, vp.a, vp.b, vp.c, vp.room, vp.len, vp.seed, vp.v6, vp.v0, vp.v1, vp.got, inS_iff.1 h2, vp.n2, vp.n3, vp.n4, vp.n5, fun i hi => ?_, vp.many⟩
  have := flowOk_iff.1 (vp.flows i hi)
  exact flowOk_iff.2 ⟨this.1, this.2.1, okList_last h3 this.2.2.1, this.2.2.2⟩

theorem getD_set_list {ls : List (List Queued)} {i j : Nat} {l : List Queued} (hi : i < ls.length) : (ls.set i l).getD j [] = if i = j then l else ls.getD j [] := by
  rw [List.getD_eq_getElem?_getD, List.getElem?_set]
  split
  · subst_vars; simp
  · rw [List.getD_eq_getElem?_getD]

theorem put_valid {q : Queue} {p : Packet} {now : Int} (hv : q.vars.length = 8) (hp : isPacketS p = true) (h : openS q now = 0) : ValidP (putS q p now).1 := by
  rcases putS_cases q p now with ⟨h1, _⟩ | ⟨_, h1, _⟩ | ⟨_, _, _, h1⟩ | ⟨_, _, hn, h1⟩
  · rw [hp] at h1; cases h1
  · exact absurd h h1
  · rw [h1]; exact at_valid hv h
  · rw [h1]
    have va := at_valid hv h
    obtain ⟨_, h2, h3⟩ := open_valid h
    have h7 : (atS q now).vars.getD 7 0 = now := by
      obtain ⟨v0, v1, v2, v3, v4, v5, v6, v7, e, e2⟩ := set7 hv now
      show (q.vars.set 7 now).getD 7 0 = now
      rw [e2]; rfl
    have hf := packet_flow hp
    have hl := va.len
    have hll : (atS q now).lists = q.lists := rfl
    have hfl : p.flow.toNat < q.lists.length := by rw [hll] at hl; omega
    have hg := fun j => getD_set_list (j := j) (l := q.lists.getD p.flow.toNat [] ++ [⟨p, now⟩]) hfl
    have hsum := sumLen_set (l := q.lists.getD p.flow.toNat [] ++ [⟨p, now⟩]) hfl
    have hm := va.many
    refine ⟨va.kind, va.a, va.b, va.c, va.room, (by simp; exact hl), va.seed, va.v6, va.v0, va.v1, fun e => ?_, va.v7, va.n2, va.n3, va.n4, va.n5, fun i hi => ?_, ?_⟩
    · show (q.lists.set _ _).getD _ [] ≠ []
      rw [hg]
      split
      · simp
      · exact va.got e
    · have fl := flowOk_iff.1 (va.flows i hi)
      show flowOk _ _ _ i _ ((q.lists.set _ _).getD i []) = true
      rw [hg]
      split
      · rename_i e
        subst e
        refine flowOk_iff.2 ⟨fl.1, fun h => by simp at h, okList_app hp (by simp only; omega) h7.symm (by rw [h7]; exact (inS_iff.1 h2).1) fl.2.2.1, fun x r hx => ?_⟩
        rcases hq : q.lists.getD p.flow.toNat [] with _ | ⟨y, s⟩
        · rw [hq] at hx; cases hx
          right
          rw [fl.2.1 hq]
          have := (packet_size hp).1
          simp only; omega
        · rw [hq] at hx
          simp only [List.cons_append, List.cons.injEq] at hx
          rw [← hx.1]
          exact fl.2.2.2 y s hq
      · exact va.flows i hi
    · show (sumLen (q.lists.set _ _) : Int) ≤ q.room
      rw [List.length_append, List.length_singleton] at hsum
      have hm' : (sumLen q.lists : Int) ≤ q.room := hm
      omega

theorem pack_get {t g v6 v7 : Int} {d : List Int} : (packV t g d v6 v7).getD 0 0 = t ∧ (packV t g d v6 v7).getD 1 0 = g ∧ (packV t g d v6 v7).getD 6 0 = v6 ∧ (packV t g d v6 v7).getD 7 0 = v7 := ⟨rfl, rfl, rfl, rfl⟩

/-- A queue whose numbers are packed, by what its parts say. -/
theorem pack_valid {q : Queue} {t g now : Int} {d : List Int} {ls : List (List Queued)} (vp : ValidP q) (hn : 0 ≤ now ∧ now ≤ 10000000) (hd : d.length = 8) (ht : 0 ≤ t ∧ t < 8) (hg : g = 0 ∨ g = 1) (hgot : g = 1 → ls.getD t.toNat [] ≠ []) (hl : ls.length = 8)
    (hf : ∀ i : Nat, i < 8 → flowOk t g now i (d.getD i 0) (ls.getD i []) = true) (hm : (sumLen ls : Int) ≤ q.room) : ValidP { q with lists := ls, vars := packV t g d (q.vars.getD 6 0) now } := by
  have hb : ∀ i, i < 8 → 0 ≤ d.getD i 0 ∧ d.getD i 0 < 32768 := fun i hi => by
    have := (flowOk_iff.1 (hf i hi)).1; omega
  have hdef : defS (packV t g d (q.vars.getD 6 0) now) = d := pack_def hd hb
  have b0 := hb 0 (by omega); have b1 := hb 1 (by omega); have b2 := hb 2 (by omega); have b3 := hb 3 (by omega)
  have b4 := hb 4 (by omega); have b5 := hb 5 (by omega); have b6 := hb 6 (by omega); have b7 := hb 7 (by omega)
  refine ⟨vp.kind, vp.a, vp.b, vp.c, vp.room, hl, vp.seed, vp.v6, ?_, ?_, hgot, hn, ?_, ?_, ?_, ?_, fun i hi => ?_, hm⟩
  · show 0 ≤ t ∧ t ≤ 7; omega
  · show 0 ≤ g ∧ g ≤ 1; omega
  · show 0 ≤ 32768 * d.getD 0 0 + d.getD 1 0; omega
  · show 0 ≤ 32768 * d.getD 2 0 + d.getD 3 0; omega
  · show 0 ≤ 32768 * d.getD 4 0 + d.getD 5 0; omega
  · show 0 ≤ 32768 * d.getD 6 0 + d.getD 7 0; omega
  · show flowOk t g now i ((defS (packV t g d (q.vars.getD 6 0) now)).getD i 0) (ls.getD i []) = true
    rw [hdef]; exact hf i hi

/-- What the rounds leave as it was: deficits of flows without packets. -/
theorem rounds_empty {a : Int} {ls : List (List Queued)} {i : Nat} (hi : ls.getD i [] = []) (_hi8 : i < 8) : ∀ (n : Nat) {t g : Int} {d : List Int} {t' g' : Int} {d' : List Int}, Way a ls t g d → roundsS a ls n t g d = some (t', g', d') → d'.getD i 0 = d.getD i 0 := by
  intro n
  induction n with
  | zero => intro t g d t' g' d' _ h; cases h
  | succ n ih =>
    intro t g d t' g' d' w h
    rw [roundsS] at h
    cases hx : ls.getD t.toNat [] with
    | nil =>
      rw [hx] at h
      exact ih (w.pass (fun x r h => by rw [hx] at h; cases h)) h
    | cons x r =>
      rw [hx] at h
      simp only at h
      have hne : t.toNat ≠ i := fun e => by rw [e, hi] at hx; cases hx
      have hd := w.hd
      have ht := w.ht
      have w1 : Way a ls t 1 (if g = 0 then d.set t.toNat (d.getD t.toNat 0 + a) else d) := by
        rcases w.hg with rfl | rfl
        · exact w.got hx
        · exact w
      have hset : (if g = 0 then d.set t.toNat (d.getD t.toNat 0 + a) else d).getD i 0 = d.getD i 0 := by
        split
        · rw [getD_set (by omega), if_neg hne]
        · rfl
      by_cases hle : x.p.size ≤ (if g = 0 then d.set t.toNat (d.getD t.toNat 0 + a) else d).getD t.toNat 0
      · rw [if_pos hle] at h
        cases h
        exact hset
      · rw [if_neg hle] at h
        rw [ih (w1.pass (fun y q h => by rw [hx] at h; cases h; omega)) h, hset]

theorem okList_tail {flow last : Int} {x : Queued} {r : List Queued} (h : okList flow last 0 (x :: r) = true) : okList flow last 0 r = true := by
  obtain ⟨_, _, h3, h4⟩ := okList_cons h
  exact okList_at h3.1 h4

theorem take_valid {q : Queue} {now : Int} (hv : q.vars.length = 8) (h : openS q now = 0) : ValidP (takeS q now).1 := by
  rcases takeS_cases q now with ⟨h1, _⟩ | ⟨_, _, h1⟩ | ⟨_, hn, t, d, x, r, hr, w, hx, hle, h1⟩
  · exact absurd h h1
  · rw [h1]; exact at_valid hv h
  · rw [h1]
    obtain ⟨hv1, h2, h3⟩ := open_valid h
    have vp := validS_iff.1 hv1
    have hn2 := inS_iff.1 h2
    have ht := w.ht
    have hd := w.hd
    have hl := vp.len
    have htl : t.toNat < q.lists.length := by omega
    have hg := fun j => getD_set_list (j := j) (l := r) htl
    have hsum := sumLen_set (l := r) htl
    rw [hx, List.length_cons] at hsum
    have hm := vp.many
    have hb := w.h0 t.toNat (by omega)
    have hflow : ∀ i : Nat, i < 8 → okList i now 0 (q.lists.getD i []) = true := fun i hi => okList_last h3 (flowOk_iff.1 (vp.flows i hi)).2.2.1
    have hempty : ∀ i : Nat, i < 8 → q.lists.getD i [] = [] → d.getD i 0 = 0 := fun i hi he => by
      rw [rounds_empty he hi fuelS vp.way hr]
      exact (flowOk_iff.1 (vp.flows i hi)).2.1 he
    have hts := w.hs t.toNat x r (by omega) hx
    by_cases hr0 : r = []
    · rw [if_pos hr0]
      subst hr0
      refine pack_valid vp hn2 (by simp [hd]) (by omega) (.inl rfl) (fun e => by cases e) (by simp [hl]) (fun i hi => ?_) (by omega)
      rw [hg, getD_set (by simp; omega)]
      by_cases e : t.toNat = i
      · rw [if_pos e, if_pos e]
        exact flowOk_iff.2 ⟨by omega, fun _ => rfl, rfl, fun y s hy => by cases hy⟩
      · rw [if_neg e, if_neg e, getD_set (by omega), if_neg e]
        refine flowOk_iff.2 ⟨w.h0 i hi, hempty i hi, hflow i hi, fun y s hy => ?_⟩
        rcases w.hh i y s hi hy with ⟨_, h5⟩ | h5
        · exact absurd (by omega) e
        · exact .inr h5
    · rw [if_neg hr0]
      refine pack_valid vp hn2 (by simp [hd]) ht (.inr rfl) (fun _ => by rw [hg, if_pos rfl]; exact hr0) (by simp [hl]) (fun i hi => ?_) (by omega)
      rw [hg, getD_set (by omega)]
      by_cases e : t.toNat = i
      · rw [if_pos e, if_pos e]
        refine flowOk_iff.2 ⟨by omega, fun h => absurd h hr0, ?_, fun y s hy => .inl ⟨rfl, by omega⟩⟩
        have := hflow i hi
        rw [← e, hx] at this
        rw [← e]
        exact okList_tail this
      · rw [if_neg e, if_neg e]
        refine flowOk_iff.2 ⟨w.h0 i hi, hempty i hi, hflow i hi, fun y s hy => ?_⟩
        rcases w.hh i y s hi hy with ⟨_, h5⟩ | h5
        · exact absurd (by omega) e
        · exact .inr h5

end Go.Vg.Ytgekegoflaichaa
