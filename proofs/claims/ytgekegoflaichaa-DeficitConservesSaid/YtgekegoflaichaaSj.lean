/-
  What the walked functions of chapter 22 come to (7): comparing, filling, taking. Own work; no condition.
-/
import Derived.Test.YtgekegoflaichaaSi
set_option maxRecDepth 10000
namespace Go.Vg.Ytgekegoflaichaa
open Go.Vg Go.Proofs

theorem drop_same {α : Type} {a b : List α} {i : Nat} (h : a.drop i = b.drop i) (hp : a.take i = b.take i) : a = b := by
  rw [← List.take_append_drop i a, ← List.take_append_drop i b, h, hp]

theorem packet_ext {x y : Packet} (h : andb (x.flow == y.flow) (andb (x.sub == y.sub) (andb (x.number == y.number) (andb (x.data == y.data) (andb (x.size == y.size) (andb (x.sent == y.sent) (andb (x.able == y.able) (x.marked == y.marked))))))) = true) : x = y := by
  obtain ⟨a1, a2, a3, a4, a5, a6, a7, a8⟩ := x
  obtain ⟨b1, b2, b3, b4, b5, b6, b7, b8⟩ := y
  simp only [andb] at h
  revert h
  cases h1 : (a1 == b1) <;> cases h2 : (a2 == b2) <;> cases h3 : (a3 == b3) <;> cases h4 : (a4 == b4) <;> cases h5 : (a5 == b5) <;> cases h6 : (a6 == b6) <;> cases h7 : (a7 == b7) <;> cases h8 : (a8 == b8) <;> intro h <;> first | (cases h; done) | skip
  simp only [beq_iff_eq] at h1 h2 h3 h4 h5 h6 h7 h8
  subst h1 h2 h3 h4 h5 h6 h7 h8; rfl
theorem packet_same (x : Packet) : andb (x.flow == x.flow) (andb (x.sub == x.sub) (andb (x.number == x.number) (andb (x.data == x.data) (andb (x.size == x.size) (andb (x.sent == x.sent) (andb (x.able == x.able) (x.marked == x.marked))))))) = true := by
  simp [andb]

theorem l244_spec {a b : List Packet} {res : Bool} (ha : a.length ≤ 1000000000) (hl : a.length = b.length) {kr k0 : Bool → Prop} : ∀ (d : List Packet) (i : Nat), a.drop i = d → (d = b.drop i → k0 res) → (d ≠ b.drop i → kr false) → ∃ k, l_24_4 k a b res i kr k0 := by
  intro d
  induction d with
  | nil =>
    intro i hd h1 h2
    have : a.length ≤ i := by simpa using hd
    exact ⟨1, br_false (by simp; omega) (h1 (by rw [List.drop_eq_nil_of_le (by omega)]))⟩
  | cons x r ih =>
    intro i hd h1 h2
    have hlt := lt_drop hd
    have hg : a.getD (i : Int).toNat (env.d 30) = x := getD_drop (by simpa using hd)
    have hw : IntKind.i64.wrap ((i : Int) + 1) = ((i + 1 : Nat) : Int) := by rw [wrapi (by omega) (by omega)]; rfl
    obtain ⟨y, s, hb⟩ : ∃ y s, b.drop i = y :: s := by
      rcases hb : b.drop i with _ | ⟨y, s⟩
      · have : b.length ≤ i := by simpa using hb
        omega
      · exact ⟨y, s, rfl⟩
    have hgb : b.getD (i : Int).toNat (env.d 30) = y := getD_drop (by simpa using hb)
    rw [hb] at h1 h2
    by_cases e : x = y
    · subst e
      obtain ⟨k, hk⟩ := ih (i + 1) (drop_next hd) (fun h => h1 (by rw [h, drop_next hb])) (fun h => h2 (fun h' => h (by cases h'; rw [drop_next hb])))
      refine ⟨k + 1, br_true (by simpa using hlt) (br_true (inb_of (by omega) (by omega)) (br_true (inb_of (by omega) (by omega)) (br_false ?_ ?_)))⟩
      · rw [hg, hgb, packet_same]; rfl
      · rw [hw]; exact hk
    · refine ⟨1, br_true (by simpa using hlt) (br_true (inb_of (by omega) (by omega)) (br_true (inb_of (by omega) (by omega)) (br_true ?_ (h2 (fun h => e (by cases h; rfl))))))⟩
      rw [hg, hgb]
      cases hh : andb (x.flow == y.flow) (andb (x.sub == y.sub) (andb (x.number == y.number) (andb (x.data == y.data) (andb (x.size == y.size) (andb (x.sent == y.sent) (andb (x.able == y.able) (x.marked == y.marked)))))))
      · rfl
      · exact absurd (packet_ext hh) e

theorem V24_spec {a b : List Packet} (ha : a.length ≤ 1000000000) {K : Bool → Prop} (h1 : a = b → K true) (h2 : a ≠ b → K false) : V24 a b K := by
  rw [V24_eq]; unfold B24
  refine br_of (fun e => ?_) (fun e => ?_)
  · exact h2 (fun h => by rw [h] at e; simp at e)
  have hl : a.length = b.length := by
    have : (a.length : Int) = b.length := by simpa using e
    omega
  exact l244_spec (res := false) ha hl a 0 rfl (fun h => h1 (by simpa using h)) (fun h => h2 (by simpa using h))
theorem V24_refl {a : List Packet} (ha : a.length ≤ 1000000000) {K : Bool → Prop} (h1 : K true) : V24 a a K := V24_spec ha (fun _ => h1) (fun h => absurd rfl h)

theorem queued_same (x : Queued) : andb (x.p.flow == x.p.flow) (andb (x.p.sub == x.p.sub) (andb (x.p.number == x.p.number) (andb (x.p.data == x.p.data) (andb (x.p.size == x.p.size) (andb (x.p.sent == x.p.sent) (andb (x.p.able == x.p.able) (andb (x.p.marked == x.p.marked) (x.at_ == x.at_)))))))) = true := by
  simp [andb]
theorem l584_refl {a : List Queued} {res : Bool} (ha : a.length ≤ 1000000000) {kr k0 : Bool → Prop} (h : k0 res) : ∀ (m i : Nat), i + m = a.length → ∃ k, l_58_4 k a a res i kr k0 := by
  intro m
  induction m with
  | zero => intro i hi; exact ⟨1, br_false (by simp; omega) h⟩
  | succ m ih =>
    intro i hi
    have hw : IntKind.i64.wrap ((i : Int) + 1) = ((i + 1 : Nat) : Int) := by rw [wrapi (by omega) (by omega)]; rfl
    obtain ⟨k, hk⟩ := ih (i + 1) (by omega)
    refine ⟨k + 1, br_true (by simp; omega) (br_true (inb_of (by omega) (by omega)) (br_true (inb_of (by omega) (by omega)) (br_false ?_ ?_)))⟩
    · rw [queued_same]; rfl
    · rw [hw]; exact hk
theorem V58_refl {a : List Queued} (ha : a.length ≤ 1000000000) {K : Bool → Prop} (h : K true) : V58 a a K := by
  rw [V58_eq]; unfold B58
  exact br_false (by simp) (l584_refl (res := false) ha h a.length 0 (by omega))

theorem l234_refl {ls : List (List Queued)} (hs : Small ls) {x1 : Bool} {a1 a2 a3 a4 a5 sd b1 b2 b3 b4 b5 sb : Int} {v u : List Int} {kr k0 : Bool → Prop} (h : k0 x1) : ∀ (m i : Nat), i + m = ls.length → ∃ k, l_23_4 k x1 i a1 a2 a3 a4 a5 ls v sd b1 b2 b3 b4 b5 ls u sb kr k0 := by
  intro m
  induction m with
  | zero => intro i hi; exact ⟨1, br_false (by simp; omega) h⟩
  | succ m ih =>
    intro i hi
    have hlen := hs.len
    have hsum := hs.sum
    have hli := sumLen_getD ls i
    have hw : IntKind.i64.wrap ((i : Int) + 1) = ((i + 1 : Nat) : Int) := by rw [wrapi (by omega) (by omega)]; rfl
    obtain ⟨k, hk⟩ := ih (i + 1) (by omega)
    refine ⟨k + 1, br_true (by simp; omega) (br_true (inb_of (by omega) (by omega)) (br_true (inb_of (by omega) (by omega)) ⟨true, V58_refl ?_ rfl, br_false rfl ?_⟩))⟩
    · show (ls.getD i []).length ≤ _; omega
    · rw [hw]; exact hk

theorem V23_refl {q : Queue} (hs : Small q.lists) {K : Bool → Prop} (h : K true) : V23 q q K := by
  rw [V23_eq]; unfold B23
  refine br_false (by simp [andb]) (br_false (by simp) (br_false (by simp) (br_false (by simp) (br_false (by simp) ?_))))
  unfold s_23_3
  exact l234_refl (x1 := false) hs (k0 := fun _ => K true) h q.lists.length 0 (by omega)

def fewS (q : Queue) : Bool := (q.lists.all fun l => decide (l.length ≤ 600)) && decide (q.lists.length ≤ 20)

theorem l162_spec {x1 : Bool} {a1 a2 a3 a4 a5 sd : Int} {ls : List (List Queued)} (hl : ls.length ≤ 9223372036854775807) {v : List Int} {kr : Bool → Prop} {k0 : Bool → Int → Int → Int → Int → Int → List (List Queued) → List Int → Int → Prop} :
    ∀ (d : List (List Queued)) (i : Nat), ls.drop i = d → ((d.all fun l => decide (l.length ≤ 600)) = true → k0 x1 a1 a2 a3 a4 a5 ls v sd) → ((d.all fun l => decide (l.length ≤ 600)) = false → kr false) → ∃ k, l_16_2 k x1 i a1 a2 a3 a4 a5 ls v sd kr k0 := by
  intro d
  induction d with
  | nil =>
    intro i hd h1 h2
    have : ls.length ≤ i := by simpa using hd
    exact ⟨1, br_false (by simp; omega) (h1 rfl)⟩
  | cons x r ih =>
    intro i hd h1 h2
    have hlt := lt_drop hd
    have hg : ls.getD (i : Int).toNat (env.d 43) = x := getD_drop (by simpa using hd)
    have hw : IntKind.i64.wrap ((i : Int) + 1) = ((i + 1 : Nat) : Int) := by rw [wrapi (by omega) (by omega)]; rfl
    rw [List.all_cons] at h1 h2
    by_cases e : x.length ≤ 600
    · rw [decide_eq_true e, Bool.true_and] at h1 h2
      obtain ⟨k, hk⟩ := ih (i + 1) (drop_next hd) h1 h2
      refine ⟨k + 1, br_true (by simpa using hlt) (br_true (inb_of (by omega) (by omega)) (br_false ?_ ?_))⟩
      · rw [hg]; simp; omega
      · rw [hw]; exact hk
    · refine ⟨1, br_true (by simpa using hlt) (br_true (inb_of (by omega) (by omega)) (br_true ?_ (h2 (by rw [decide_eq_false e]; rfl))))⟩
      rw [hg]; simp; omega

theorem V16_spec {q : Queue} (hl : q.lists.length ≤ 9223372036854775807) {K : Bool → Prop} (h : K (fewS q)) : V16 q K := by
  rw [V16_eq]; unfold B16
  unfold fewS at h
  refine l162_spec hl q.lists 0 rfl (fun e => ?_) (fun e => by rw [e] at h; exact h)
  rw [e, Bool.true_and] at h
  rw [show decide ((q.lists.length : Int) ≤ 20) = decide (q.lists.length ≤ 20) by rw [decide_eq_decide]; omega]
  exact h

theorem sum_le {ls : List (List Queued)} (h : (ls.all fun l => decide (l.length ≤ 600)) = true) : sumLen ls ≤ 600 * ls.length := by
  induction ls with
  | nil => simp [sumLen]
  | cons x r ih =>
    rw [List.all_cons, Bool.and_eq_true, decide_eq_true_eq] at h
    have := ih h.2
    rw [sumLen_cons, List.length_cons]
    omega
theorem few_small {q : Queue} (h : fewS q = true) : Small q.lists := by
  simp only [fewS, Bool.and_eq_true, decide_eq_true_eq] at h
  have := sum_le h.1
  exact ⟨by omega, by omega⟩

theorem V25_spec {q : Queue} (hq : QFit q) (hl : q.lists.length ≤ 9223372036854775807) {K : Bool → Prop} (h : K (fewS q && validS q)) : V25 q K := by
  rw [V25_eq]; unfold B25
  refine V16_spec hl (br_of (fun e => ?_) (fun e => ?_))
  · rw [e, Bool.true_and] at h
    exact V22_spec hq (few_small e) h
  · rw [e, Bool.false_and] at h; exact h

/-! ### Small queues stay small -/
theorem sumLen_set : ∀ {ls : List (List Queued)} {i : Nat} {l : List Queued}, i < ls.length → sumLen (ls.set i l) + (ls.getD i []).length = sumLen ls + l.length
  | [], _, _, h => by simp at h
  | x :: r, 0, l, _ => by simp only [List.set_cons_zero, sumLen_cons, List.getD_cons_zero]; omega
  | x :: r, i + 1, l, h => by
    have := sumLen_set (ls := r) (i := i) (l := l) (by simpa using h)
    simp only [List.set_cons_succ, sumLen_cons, List.getD_cons_succ]; omega

theorem open_valid {q : Queue} {now : Int} (h : openS q now = 0) : validS q = true ∧ inS now 0 10000000 = true ∧ q.vars.getD 7 0 ≤ now := by
  cases h1 : validS q
  · rw [openS_1 h1] at h; cases h
  cases h2 : inS now 0 10000000
  · rw [openS_2 h1 h2] at h; cases h
  by_cases h3 : now < q.vars.getD 7 0
  · rw [openS_3 h1 h2 h3] at h; cases h
  · exact ⟨rfl, rfl, by omega⟩

theorem zeroQ_small : Small zeroQ.lists := ⟨by simp [zeroQ], by simp [zeroQ, sumLen]⟩

/-- The four ends of Put. -/
theorem putS_cases (q : Queue) (p : Packet) (now : Int) :
    (isPacketS p = false ∧ putS q p now = (zeroQ, [], 1)) ∨ (isPacketS p = true ∧ openS q now ≠ 0 ∧ putS q p now = (zeroQ, [], openS q now)) ∨
    (isPacketS p = true ∧ openS q now = 0 ∧ (sumLen q.lists : Int) = q.room ∧ putS q p now = (atS q now, [p], 0)) ∨
    (isPacketS p = true ∧ openS q now = 0 ∧ (sumLen q.lists : Int) ≠ q.room ∧ putS q p now = ({ atS q now with lists := q.lists.set p.flow.toNat (q.lists.getD p.flow.toNat [] ++ [⟨p, now⟩]) }, [], 0)) := by
  cases h1 : isPacketS p
  · exact .inl ⟨rfl, putS_1 h1⟩
  by_cases h2 : openS q now = 0
  · by_cases h3 : (sumLen q.lists : Int) = q.room
    · exact .inr (.inr (.inl ⟨rfl, h2, h3, putS_3 h1 h2 h3⟩))
    · exact .inr (.inr (.inr ⟨rfl, h2, h3, putS_4 h1 h2 h3⟩))
  · exact .inr (.inl ⟨rfl, h2, putS_2 h1 rfl h2⟩)

theorem packet_flow {p : Packet} (h : isPacketS p = true) : 0 ≤ p.flow ∧ p.flow ≤ 7 := by
  simp only [isPacketS, Bool.and_eq_true] at h
  exact inS_iff.1 h.1.1.1.1.1

theorem put_small {q : Queue} {p : Packet} {now : Int} (hs : Small q.lists) : Small (putS q p now).1.lists := by
  rcases putS_cases q p now with ⟨_, h⟩ | ⟨_, _, h⟩ | ⟨_, _, _, h⟩ | ⟨h1, h2, h3, h⟩ <;> rw [h]
  · exact zeroQ_small
  · exact zeroQ_small
  · exact hs
  · have vp := validS_iff.1 (open_valid h2).1
    have hf := packet_flow h1
    have hm := vp.many
    have hr := vp.room
    have hl := vp.len
    have := sumLen_set (ls := q.lists) (i := p.flow.toNat) (l := q.lists.getD p.flow.toNat [] ++ [⟨p, now⟩]) (by omega)
    rw [List.length_append, List.length_singleton] at this
    exact ⟨by simp; omega, by show sumLen (q.lists.set _ _) ≤ _; omega⟩
theorem put_len8 {q : Queue} {p : Packet} {now : Int} (hs : q.vars.length = 8) : (putS q p now).1.vars.length = 8 := by
  rcases putS_cases q p now with ⟨_, h⟩ | ⟨_, _, h⟩ | ⟨_, _, _, h⟩ | ⟨h1, h2, h3, h⟩ <;> rw [h] <;> first | rfl | simp [atS, hs]

theorem takeEnd_some {q : Queue} {now t g : Int} {d : List Int} {x : Queued} {r : List Queued} (hx : q.lists.getD t.toNat [] = x :: r) :
    takeEnd q now (some (t, g, d)) = ({ q with lists := q.lists.set t.toNat r, vars := if r = [] then packV ((t + 1) % 8) 0 ((d.set t.toNat (d.getD t.toNat 0 - x.p.size)).set t.toNat 0) (q.vars.getD 6 0) now else packV t g (d.set t.toNat (d.getD t.toNat 0 - x.p.size)) (q.vars.getD 6 0) now }, x.p, true, [], 0) := by
  rcases r with _ | ⟨y, r⟩ <;> simp only [takeEnd, hx] <;> rfl

/-- The three ends of Take. -/
theorem takeS_cases (q : Queue) (now : Int) :
    (openS q now ≠ 0 ∧ takeS q now = (zeroQ, zeroP, false, [], openS q now)) ∨ (openS q now = 0 ∧ sumLen q.lists = 0 ∧ takeS q now = (atS q now, zeroP, false, [], 0)) ∨
    (openS q now = 0 ∧ sumLen q.lists ≠ 0 ∧ ∃ t d x r, roundsS q.policy.a q.lists fuelS (q.vars.getD 0 0) (q.vars.getD 1 0) (defS q.vars) = some (t, 1, d) ∧ Way q.policy.a q.lists t 1 d ∧ q.lists.getD t.toNat [] = x :: r ∧ x.p.size ≤ d.getD t.toNat 0 ∧
      takeS q now = ({ q with lists := q.lists.set t.toNat r, vars := if r = [] then packV ((t + 1) % 8) 0 ((d.set t.toNat (d.getD t.toNat 0 - x.p.size)).set t.toNat 0) (q.vars.getD 6 0) now else packV t 1 (d.set t.toNat (d.getD t.toNat 0 - x.p.size)) (q.vars.getD 6 0) now }, x.p, true, [], 0)) := by
  by_cases h1 : openS q now = 0
  · by_cases h2 : sumLen q.lists = 0
    · exact .inr (.inl ⟨h1, h2, takeS_2 h1 h2⟩)
    · have vp := validS_iff.1 (open_valid h1).1
      obtain ⟨i, hi, hne⟩ := vp.ne h2
      obtain ⟨⟨t', g', d'⟩, hr⟩ := rounds_some vp.way hi hne
      obtain ⟨w', rfl, x, r, hx, hle⟩ := rounds_end fuelS vp.way hr
      refine .inr (.inr ⟨h1, h2, t', d', x, r, hr, w', hx, hle, ?_⟩)
      rw [takeS_3 h1 h2, hr, takeEnd_some hx]
  · exact .inl ⟨h1, takeS_1 rfl h1⟩

theorem take_small {q : Queue} {now : Int} (hs : Small q.lists) : Small (takeS q now).1.lists := by
  rcases takeS_cases q now with ⟨_, h⟩ | ⟨_, _, h⟩ | ⟨_, _, t, d, x, r, _, w, hx, _, h⟩ <;> rw [h]
  · exact zeroQ_small
  · exact hs
  · have ht := w.ht
    have hl := w.hl
    have := sumLen_set (ls := q.lists) (i := t.toNat) (l := r) (by omega)
    rw [hx, List.length_cons] at this
    have := hs.sum
    exact ⟨by simp; omega, by show sumLen (q.lists.set _ _) ≤ _; omega⟩
theorem take_len8 {q : Queue} {now : Int} (hs : q.vars.length = 8) : (takeS q now).1.vars.length = 8 := by
  rcases takeS_cases q now with ⟨_, h⟩ | ⟨_, _, h⟩ | ⟨_, _, t, d, x, r, _, w, hx, _, h⟩ <;> rw [h]
  · rfl
  · simp [atS, hs]
  · simp only; split <;> rfl

/-! ### Filling and taking -/
def fillS : Queue → List Packet → Queue × Bool
  | q, [] => (q, true)
  | q, p :: r => if (putS q p (q.vars.getD 7 0)).2.2 ≠ 0 then (q, false) else if (putS q p (q.vars.getD 7 0)).2.1.length > 0 then (q, false) else fillS (putS q p (q.vars.getD 7 0)).1 r

theorem l302_spec {l : List Packet} (hl : l.length ≤ 1000000) {y2 y3 y4 y5 y6 : Int} {y7 : List Int} {y8 : Int} {x2 : Bool} {K : Queue × Bool → Prop}
    {k0 : Bool → Int → Int → Int → Int → Int → List (List Queued) → List Int → Int → Int → Int → Int → Int → Int → List Int → Int → Prop}
    (hk : ∀ q : Queue, K (q, true) → k0 x2 q.policy.kind q.policy.a q.policy.b q.policy.c q.room q.lists q.vars q.seed y2 y3 y4 y5 y6 y7 y8) :
    ∀ (d : List Packet) (i : Nat) (q : Queue), l.drop i = d → Small q.lists → K (fillS q d) →
    ∃ k, l_30_2 k l x2 i q.policy.kind q.policy.a q.policy.b q.policy.c q.room q.lists q.vars q.seed y2 y3 y4 y5 y6 y7 y8 (fun y4 y5 y6 y7 y8 y9 y10 y11 y12 ↦ K (Queue.mk (Policy.mk y5 y6 y7 y8) y9 y10 y11 y12, y4)) k0 := by
  intro d
  induction d with
  | nil =>
    intro i q hd hs h
    have : l.length ≤ i := by simpa using hd
    exact ⟨1, br_false (by simp; omega) (hk q h)⟩
  | cons x r ih =>
    intro i q hd hs h
    have hlt := lt_drop hd
    have hg : l.getD (i : Int).toNat (env.d 30) = x := getD_drop (by simpa using hd)
    have hw : IntKind.i64.wrap ((i : Int) + 1) = ((i + 1 : Nat) : Int) := by rw [wrapi (by omega) (by omega)]; rfl
    unfold fillS at h
    have go : ∀ k, ((putS q x (q.vars.getD 7 0)).2.2 = 0 → ¬ (putS q x (q.vars.getD 7 0)).2.1.length > 0 → l_30_2 k l x2 (i + 1 : Nat) (putS q x (q.vars.getD 7 0)).1.policy.kind (putS q x (q.vars.getD 7 0)).1.policy.a (putS q x (q.vars.getD 7 0)).1.policy.b (putS q x (q.vars.getD 7 0)).1.policy.c (putS q x (q.vars.getD 7 0)).1.room (putS q x (q.vars.getD 7 0)).1.lists (putS q x (q.vars.getD 7 0)).1.vars (putS q x (q.vars.getD 7 0)).1.seed y2 y3 y4 y5 y6 y7 y8 (fun y4 y5 y6 y7 y8 y9 y10 y11 y12 ↦ K (Queue.mk (Policy.mk y5 y6 y7 y8) y9 y10 y11 y12, y4)) k0) →
        l_30_2 (k + 1) l x2 i q.policy.kind q.policy.a q.policy.b q.policy.c q.room q.lists q.vars q.seed y2 y3 y4 y5 y6 y7 y8 (fun y4 y5 y6 y7 y8 y9 y10 y11 y12 ↦ K (Queue.mk (Policy.mk y5 y6 y7 y8) y9 y10 y11 y12, y4)) k0 := by
      intro k hk'
      refine br_true (by simpa using hlt) (br_true (inb_of (by omega) (by omega)) ?_)
      rw [hg]
      refine ⟨putS q x (q.vars.getD 7 0), V17_spec (q := q) hs rfl, br_of (fun e => ?_) (fun e => ?_)⟩
      · rw [if_pos (by simpa using e)] at h; exact h
      rw [if_neg (by simpa using e)] at h
      refine br_of (fun e2 => ?_) (fun e2 => ?_)
      · rw [if_pos (by simpa using e2)] at h; exact h
      rw [hw]
      exact hk' (by simpa using e) (by simpa using e2)
    by_cases e : (putS q x (q.vars.getD 7 0)).2.2 = 0 ∧ ¬ (putS q x (q.vars.getD 7 0)).2.1.length > 0
    · rw [if_neg (by simpa using e.1), if_neg e.2] at h
      obtain ⟨k, hk⟩ := ih (i + 1) _ (drop_next hd) (put_small hs) h
      refine ⟨k + 1, go k (fun _ _ => hk)⟩
    · exact ⟨1, go 0 (fun a b => absurd ⟨a, b⟩ e)⟩

theorem V30_spec {q : Queue} {l : List Packet} (hl : l.length ≤ 1000000) (hs : Small q.lists) {K : Queue × Bool → Prop} (h : K (fillS q l)) : V30 q l K := by
  rw [V30_eq]; unfold B30
  exact l302_spec (x2 := false) hl (fun q h => h) l 0 q rfl hs h

def takenS : Nat → Queue → List Packet → Queue × List Packet
  | 0, q, out => (q, out)
  | n + 1, q, out => if (takeS q (q.vars.getD 7 0)).2.2.1 = false then (q, out) else takenS n (takeS q (q.vars.getD 7 0)).1 (out ++ [(takeS q (q.vars.getD 7 0)).2.1])

theorem take_ok {q : Queue} {now : Int} (h : (takeS q now).2.2.1 = true) : (takeS q now).2.2.2.1 = [] ∧ (takeS q now).2.2.2.2 = 0 := by
  rcases takeS_cases q now with ⟨_, h'⟩ | ⟨_, _, h'⟩ | ⟨_, _, t, d, x, r, _, w, hx, _, h'⟩ <;> rw [h'] at h ⊢
  · cases h
  · cases h
  · exact ⟨rfl, rfl⟩

theorem l323_spec {many : Nat} (hl : many ≤ 1000000) {y2 y3 y4 y5 y6 : Int} {y7 : List Int} {y8 : Int} {K : Queue × List Packet → Prop}
    {k0 : Int → Int → Int → Int → Int → List (List Queued) → List Int → Int → Int → Int → Int → Int → Int → List Int → Int → List Packet → Prop}
    (hk : ∀ (q : Queue) (out : List Packet), K (q, out) → k0 q.policy.kind q.policy.a q.policy.b q.policy.c q.room q.lists q.vars q.seed y2 y3 y4 y5 y6 y7 y8 out) :
    ∀ (m i : Nat) (q : Queue) (out : List Packet), i + m = many → out.length ≤ i → Small q.lists → q.vars.length = 8 → K (takenS m q out) →
    ∃ k, l_32_3 k many i q.policy.kind q.policy.a q.policy.b q.policy.c q.room q.lists q.vars q.seed y2 y3 y4 y5 y6 y7 y8 out (fun y4 y5 y6 y7 y8 y9 y10 y11 y12 ↦ K (Queue.mk (Policy.mk y4 y5 y6 y7) y8 y9 y10 y11, y12)) k0 := by
  intro m
  induction m with
  | zero =>
    intro i q out hi ho hs h8 h
    exact ⟨1, br_false (by simp; omega) (hk q out h)⟩
  | succ m ih =>
    intro i q out hi ho hs h8 h
    have hw : IntKind.i64.wrap ((i : Int) + 1) = ((i + 1 : Nat) : Int) := by rw [wrapi (by omega) (by omega)]; rfl
    unfold takenS at h
    have go : ∀ k, ((takeS q (q.vars.getD 7 0)).2.2.1 = true → l_32_3 k many (i + 1 : Nat) (takeS q (q.vars.getD 7 0)).1.policy.kind (takeS q (q.vars.getD 7 0)).1.policy.a (takeS q (q.vars.getD 7 0)).1.policy.b (takeS q (q.vars.getD 7 0)).1.policy.c (takeS q (q.vars.getD 7 0)).1.room (takeS q (q.vars.getD 7 0)).1.lists (takeS q (q.vars.getD 7 0)).1.vars (takeS q (q.vars.getD 7 0)).1.seed y2 y3 y4 y5 y6 y7 y8 (out ++ [(takeS q (q.vars.getD 7 0)).2.1]) (fun y4 y5 y6 y7 y8 y9 y10 y11 y12 ↦ K (Queue.mk (Policy.mk y4 y5 y6 y7) y8 y9 y10 y11, y12)) k0) →
        l_32_3 (k + 1) many i q.policy.kind q.policy.a q.policy.b q.policy.c q.room q.lists q.vars q.seed y2 y3 y4 y5 y6 y7 y8 out (fun y4 y5 y6 y7 y8 y9 y10 y11 y12 ↦ K (Queue.mk (Policy.mk y4 y5 y6 y7) y8 y9 y10 y11, y12)) k0 := by
      intro k hk'
      refine br_true (by simp; omega) (V19_spec (q := q) hs h8 (br_of (fun e => ?_) (fun e => ?_)))
      · rw [if_pos (bool_not e)] at h; exact h
      have e := bool_nn e
      obtain ⟨h1, h2⟩ := take_ok e
      refine br_false (by rw [h1]; rfl) (br_false (by rw [h2]; rfl) (br_true (room30 ?_) ?_))
      · rw [List.length_append, List.length_singleton]; omega
      · rw [hw]; exact hk' e
    cases e : (takeS q (q.vars.getD 7 0)).2.2.1
    · exact ⟨1, go 0 (fun a => by rw [e] at a; cases a)⟩
    · rw [if_neg (by rw [e]; decide)] at h
      obtain ⟨k, hk⟩ := ih (i + 1) _ _ (by omega) (by rw [List.length_append, List.length_singleton]; omega) (take_small hs) (take_len8 h8) h
      exact ⟨k + 1, go k (fun _ => hk)⟩

theorem V32_spec {q : Queue} {n : Nat} (hn : n ≤ 1000000) (hs : Small q.lists) (h8 : q.vars.length = 8) {K : Queue × List Packet → Prop} (h : K (takenS n q [])) : V32 q n K := by
  rw [V32_eq]; unfold B32
  exact l323_spec hn (fun q out h => h) n 0 q [] (by omega) (by simp) hs h8 h

end Go.Vg.Ytgekegoflaichaa
