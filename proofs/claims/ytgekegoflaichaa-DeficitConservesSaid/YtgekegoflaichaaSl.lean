/-
  The laws of chapter 22: DeficitWorks, DeficitAlone. Own work; no condition.
-/
import Derived.Test.YtgekegoflaichaaSk
import Derived.Test.YtgekegoflaichaaDb
set_option maxRecDepth 10000
namespace Go.Vg.Ytgekegoflaichaa
open Go.Vg Go.Proofs

theorem set7_get {v : List Int} (hv : v.length = 8) {now : Int} : (v.set 7 now).getD 7 0 = now := by
  obtain ⟨v0, v1, v2, v3, v4, v5, v6, v7, rfl⟩ := list8 hv
  rfl

theorem take_v7 {q : Queue} {now : Int} (hv : q.vars.length = 8) (h : openS q now = 0) : (takeS q now).1.vars.getD 7 0 = now := by
  rcases takeS_cases q now with ⟨h1, _⟩ | ⟨_, _, h1⟩ | ⟨_, hn, t, d, x, r, hr, w, hx, hle, h1⟩
  · exact absurd h h1
  · rw [h1]; exact set7_get hv
  · rw [h1]; simp only; split <;> rfl
theorem take_is {q : Queue} {now : Int} (h : openS q now = 0) : (takeS q now).2.2.1 = decide ((sumLen q.lists : Int) > 0) ∧ (takeS q now).2.2.2.2 = 0 := by
  rcases takeS_cases q now with ⟨h1, _⟩ | ⟨_, h2, h1⟩ | ⟨_, hn, t, d, x, r, hr, w, hx, hle, h1⟩
  · exact absurd h h1
  · rw [h1, h2]; exact ⟨rfl, rfl⟩
  · rw [h1]
    refine ⟨?_, rfl⟩
    rw [decide_eq_true (by omega)]
theorem put_ok {q : Queue} {p : Packet} {now : Int} (hp : isPacketS p = true) (h : openS q now = 0) : (putS q p now).2.2 = 0 := by
  rcases putS_cases q p now with ⟨h1, _⟩ | ⟨_, h1, _⟩ | ⟨_, _, _, h1⟩ | ⟨_, _, hn, h1⟩
  · rw [hp] at h1; cases h1
  · exact absurd h h1
  · rw [h1]
  · rw [h1]

theorem pureDeficitWorks (q : Queue) (p : Packet) (now : Int) (hq : fitQueue q) (_ : fitPacket p) (_ : fitI .i64 now) : V5 q p now (fun b => b = true) := by
  rw [V5_eq]; unfold B5
  have hf := fit_q hq
  refine V15_spec (V25_spec hf hq.lists.2 (br_of (fun e => ?_) (fun _ => br_true rfl rfl)))
  simp only [Bool.and_eq_true] at e
  obtain ⟨e1, e2⟩ := e
  have hs := few_small e1
  refine V29_spec (br_of (fun e3 => ?_) (fun _ => br_true rfl rfl))
  refine V26_spec ?_
  unfold s_5_3
  refine br_of (fun _ => rfl) (fun e4 => ?_)
  have e4 := bool_nn e4
  refine V19_spec (q := q) hs hf.len (V17_spec (q := q) (p := p) hs (br_of (fun e5 => ?_) (fun e5 => ?_)))
  · have ho := openS_3 e2 e3 (by simpa using e5)
    rw [takeS_1 ho (by decide), putS_2 e4 ho (by decide)]
    exact br_true rfl (br_true rfl (br_true rfl rfl))
  · have ho := openS_0 e2 e3 (by simpa using e5)
    obtain ⟨h1, h2⟩ := take_is ho
    refine br_true rfl (br_true (by rw [h2]; rfl) (br_true (by rw [put_ok e4 ho]; rfl) (V27_spec (q := q) hs (br_true ?_ ?_))))
    · rw [h1]; simp
    · rw [take_v7 hf.len ho]; simp

/-! ### One flow alone -/
theorem open_self {q : Queue} (vp : ValidP q) : openS q (q.vars.getD 7 0) = 0 := openS_0 (validS_iff.2 vp) (inS_iff.2 vp.v7) (by omega)

theorem sum_ge : ∀ {ls : List (List Queued)} {i j : Nat}, i ≠ j → i < ls.length → j < ls.length → (ls.getD i []).length + (ls.getD j []).length ≤ sumLen ls
  | [], _, _, _, h, _ => by simp at h
  | x :: r, 0, 0, h, _, _ => absurd rfl h
  | x :: r, 0, j + 1, _, _, h => by
    have := sumLen_getD r j
    simp only [List.getD_cons_zero, List.getD_cons_succ, sumLen_cons]; omega
  | x :: r, i + 1, 0, _, h, _ => by
    have := sumLen_getD r i
    simp only [List.getD_cons_zero, List.getD_cons_succ, sumLen_cons]; omega
  | x :: r, i + 1, j + 1, h, h1, h2 => by
    have := sum_ge (ls := r) (i := i) (j := j) (by omega) (by simpa using h1) (by simpa using h2)
    simp only [List.getD_cons_succ, sumLen_cons]; omega

theorem alone_step {q : Queue} (vp : ValidP q) (hv : q.vars.length = 8) {f : Nat} (hf : f < 8) {x : Queued} {r : List Queued} (hx : q.lists.getD f [] = x :: r) (hs : sumLen q.lists = r.length + 1) :
    (takeS q (q.vars.getD 7 0)).2.2.1 = true ∧ (takeS q (q.vars.getD 7 0)).2.1 = x.p ∧ ValidP (takeS q (q.vars.getD 7 0)).1 ∧ (takeS q (q.vars.getD 7 0)).1.lists.getD f [] = r ∧ sumLen (takeS q (q.vars.getD 7 0)).1.lists = r.length := by
  have ho := open_self vp
  have tv := take_valid hv ho
  rcases takeS_cases q (q.vars.getD 7 0) with ⟨h1, _⟩ | ⟨_, h2, h1⟩ | ⟨_, hn, t, d, y, s, hr, w, hy, hle, h1⟩
  · exact absurd ho h1
  · omega
  · have ht := w.ht
    have hl := vp.len
    have e : t.toNat = f := by
      rcases Classical.em (t.toNat = f) with e | e
      · exact e
      · have := sum_ge e (ls := q.lists) (by omega) (by omega)
        rw [hx, hy, List.length_cons, List.length_cons] at this
        omega
    rw [e, hx] at hy
    cases hy
    rw [h1] at tv ⊢
    have hsum := sumLen_set (ls := q.lists) (i := t.toNat) (l := r) (by omega)
    rw [e, hx, List.length_cons] at hsum
    refine ⟨rfl, rfl, tv, ?_, ?_⟩
    · show (q.lists.set t.toNat r).getD f [] = r
      rw [getD_set_list (by omega), if_pos e]
    · show sumLen (q.lists.set t.toNat r) = r.length
      rw [e]; omega

theorem alone_all {f : Nat} (hf : f < 8) : ∀ (l : List Queued) (q : Queue) (out : List Packet), ValidP q → q.vars.length = 8 → q.lists.getD f [] = l → sumLen q.lists = l.length →
    ∃ r, takenS l.length q out = (r, out ++ l.map (·.p)) ∧ ValidP r ∧ r.vars.length = 8 ∧ sumLen r.lists = 0
  | [], q, out, vp, hv, hx, hs => ⟨q, by simp [takenS], vp, hv, by simpa using hs⟩
  | x :: l, q, out, vp, hv, hx, hs => by
    obtain ⟨h1, h2, h3, h4, h5⟩ := alone_step vp hv hf hx (by simpa using hs)
    obtain ⟨r, h6, h7, h8, h9⟩ := alone_all hf l _ (out ++ [x.p]) h3 (take_len8 hv) h4 h5
    refine ⟨r, ?_, h7, h8, h9⟩
    show takenS (l.length + 1) q out = _
    unfold takenS
    rw [h1, h2, if_neg (by decide), h6]
    simp

theorem valid_small {q : Queue} (vp : ValidP q) : Small q.lists := by
  have h1 := vp.len
  have h2 := vp.many
  have h3 := vp.room
  exact ⟨by omega, by omega⟩

theorem l712_spec {x1 : Int} {x2 : Bool} {n : Nat} {l : List Queued} {ls : List (List Queued)} (hn : n ≤ 1000000) (hx1 : 0 ≤ x1 ∧ x1 < ls.length) (hl : ls.getD x1.toNat [] = l) (hll : l.length = n) {ps : List Packet} (hps : ps = l.map (·.p)) {a1 a2 a3 a4 a5 sd b1 b2 b3 b4 b5 sb : Int} {v u : List Int} {lb : List (List Queued)}
    {k0 : Bool → Bool → Int → Int → Int → Int → Int → List (List Queued) → List Int → Int → Prop} (hk : k0 x2 true b1 b2 b3 b4 b5 lb u sb) :
    ∀ (m i : Nat), i + m = n → ∃ k, l_7_12 k x1 x2 true n ps i a1 a2 a3 a4 a5 ls v sd b1 b2 b3 b4 b5 lb u sb k0 := by
  intro m
  induction m with
  | zero => intro i hi; exact ⟨1, br_false (by simp; omega) hk⟩
  | succ m ih =>
    intro i hi
    have hlt : i < l.length := by omega
    have hw : IntKind.i64.wrap ((i : Int) + 1) = ((i + 1 : Nat) : Int) := by rw [wrapi (by omega) (by omega)]; rfl
    have hl' : ls.getD x1.toNat (env.d 43) = l := hl
    have hg : l.getD (i : Int).toNat (env.d 45) = l[i] := getD_drop (List.drop_eq_getElem_cons hlt)
    have hg2 : ps.getD (i : Int).toNat (env.d 30) = l[i].p := getD_drop (i := i) (r := (l.drop (i + 1)).map (·.p)) (by rw [hps, ← List.map_drop, List.drop_eq_getElem_cons hlt, List.map_cons])
    obtain ⟨k, hk⟩ := ih (i + 1) (by omega)
    refine ⟨k + 1, br_true (by simp; omega) (br_true rfl (br_true (inb_of (by omega) (by rw [hps]; simp; omega)) (br_true (inb_of hx1.1 hx1.2) ?_)))⟩
    rw [hl']
    refine br_true (inb_of (by omega) (by omega)) ?_
    rw [hg, hg2, packet_same, hw]
    exact hk

theorem pureDeficitAlone (q : Queue) (flow : Int) (hq : fitQueue q) (_ : fitI .i64 flow) : V7 q flow (fun b => b = true) := by
  rw [V7_eq]; unfold B7
  have hf := fit_q hq
  refine V15_spec (V25_spec hf hq.lists.2 (br_of (fun _ => rfl) (fun e => ?_)))
  have e := bool_nn e
  simp only [Bool.and_eq_true] at e
  obtain ⟨e1, e2⟩ := e
  have hs := few_small e1
  have vp := validS_iff.1 e2
  refine br_of (fun _ => rfl) (fun e3 => br_of (fun _ => rfl) (fun e4 => ?_))
  have e3 : 0 ≤ flow := by simpa using e3
  have e4 : flow < 8 := by simpa using e4
  have hl := vp.len
  unfold s_7_5
  refine br_true (inb_of e3 (by omega)) ?_
  obtain ⟨l, hld⟩ : ∃ l, q.lists.getD flow.toNat [] = l := ⟨_, rfl⟩
  have hld' : q.lists.getD flow.toNat (env.d 43) = l := hld
  rw [hld']
  refine br_of (fun _ => rfl) (fun e5 => br_of (fun _ => rfl) (fun e6 => ?_))
  have e6 : l.length ≤ 100 := by
    have : (l.length : Int) ≤ 100 := by simpa using e6
    omega
  refine V27_spec (q := q) hs (br_of (fun _ => rfl) (fun e7 => ?_))
  have e7 : sumLen q.lists = l.length := by
    have : (sumLen q.lists : Int) = l.length := by simpa using e7
    omega
  unfold s_7_8
  refine V32_spec (q := q) (by omega) hs hf.len ?_
  obtain ⟨r, h1, h2, h3, h4⟩ := alone_all (f := flow.toNat) (by omega) l q [] vp hf.len hld e7
  rw [h1, List.nil_append]
  refine br_false (by simp) ?_
  refine l712_spec (n := l.length) (by omega) ⟨e3, by omega⟩ hld rfl rfl ?_ l.length 0 (by omega)
  refine V19_spec (q := r) (valid_small h2) h3 ?_
  have ho := open_self h2
  rw [takeS_2 ho h4]
  exact br_true rfl (br_true rfl rfl)

end Go.Vg.Ytgekegoflaichaa
