/-
  Serving by deficits, as lists and numbers alone: for each flow what came is what went and what waits. Own work; no condition.
-/
import Derived.Test.YtgekegoflaichaaSl
namespace Go.Vg.Ytgekegoflaichaa
open Go.Vg Go.Proofs

def ofS (l : List Packet) (f : Int) : List Packet := l.filter fun p => p.flow == f
theorem ofS_append (l r : List Packet) (f : Int) : ofS (l ++ r) f = ofS l f ++ ofS r f := List.filter_append ..
theorem ofS_one (p : Packet) (f : Int) : ofS [p] f = if p.flow = f then [p] else [] := by
  unfold ofS
  by_cases e : p.flow = f
  · rw [if_pos e]; simp [List.filter, e]
  · rw [if_neg e]
    have : (p.flow == f) = false := by rw [beq_eq_false_iff_ne]; exact e
    simp [List.filter, this]

/-- For each flow: what came is, in order, what went and what waits. -/
structure Kept (q : Queue) (came went : List Packet) : Prop where
  valid : ValidP q
  len8 : q.vars.length = 8
  fit : ∀ x ∈ q.vars, -9223372036854775808 ≤ x ∧ x ≤ 9223372036854775807
  same : ∀ i : Nat, i < 8 → ofS came i = ofS went i ++ (q.lists.getD i []).map (·.p)

theorem at_lists {q : Queue} {now : Int} : (atS q now).lists = q.lists := rfl

theorem fit_set {v : List Int} {i : Nat} {x : Int} (h : ∀ y ∈ v, -9223372036854775808 ≤ y ∧ y ≤ 9223372036854775807) (hx : 0 ≤ x ∧ x ≤ 10000000) : ∀ y ∈ v.set i x, -9223372036854775808 ≤ y ∧ y ≤ 9223372036854775807 := by
  intro y hy
  rcases List.mem_or_eq_of_mem_set hy with h' | h'
  · exact h y h'
  · omega

theorem fit_pack {t g v6 now : Int} {d : List Int} (hd : ∀ i, i < 8 → 0 ≤ d.getD i 0 ∧ d.getD i 0 < 32768) (ht : 0 ≤ t ∧ t < 8) (hg : 0 ≤ g ∧ g ≤ 1) (h6 : v6 = 0) (hn : 0 ≤ now ∧ now ≤ 10000000) : ∀ y ∈ packV t g d v6 now, -9223372036854775808 ≤ y ∧ y ≤ 9223372036854775807 := by
  have b0 := hd 0 (by omega); have b1 := hd 1 (by omega); have b2 := hd 2 (by omega); have b3 := hd 3 (by omega)
  have b4 := hd 4 (by omega); have b5 := hd 5 (by omega); have b6 := hd 6 (by omega); have b7 := hd 7 (by omega)
  intro y hy
  simp only [packV, List.mem_cons, List.not_mem_nil, or_false] at hy
  rcases hy with rfl | rfl | rfl | rfl | rfl | rfl | rfl | rfl <;> omega

theorem take_fit {q : Queue} {now : Int} (h : openS q now = 0) (hf : ∀ y ∈ q.vars, -9223372036854775808 ≤ y ∧ y ≤ 9223372036854775807) : ∀ y ∈ (takeS q now).1.vars, -9223372036854775808 ≤ y ∧ y ≤ 9223372036854775807 := by
  obtain ⟨hv, h2, _⟩ := open_valid h
  have vp := validS_iff.1 hv
  have hn := inS_iff.1 h2
  rcases takeS_cases q now with ⟨h1, _⟩ | ⟨_, _, h1⟩ | ⟨_, _, t, d, x, r, hr, w, hx, hle, h1⟩
  · exact absurd h h1
  · rw [h1]; exact fit_set hf hn
  · rw [h1]
    have ht := w.ht
    have hd := w.hd
    have hs := w.hs t.toNat x r (by omega) hx
    have hb1 : ∀ i, i < 8 → 0 ≤ (d.set t.toNat (d.getD t.toNat 0 - x.p.size)).getD i 0 ∧ (d.set t.toNat (d.getD t.toNat 0 - x.p.size)).getD i 0 < 32768 := fun i hi => by
      have h0 := w.h0 i hi
      have h1 := w.h0 t.toNat (by omega)
      rw [getD_set (by omega)]
      split <;> omega
    have hb2 : ∀ i, i < 8 → 0 ≤ ((d.set t.toNat (d.getD t.toNat 0 - x.p.size)).set t.toNat 0).getD i 0 ∧ ((d.set t.toNat (d.getD t.toNat 0 - x.p.size)).set t.toNat 0).getD i 0 < 32768 := fun i hi => by
      have := hb1 i hi
      rw [getD_set (by simp; omega)]
      split <;> omega
    simp only
    split
    · exact fit_pack hb2 (by omega) (by omega) vp.v6 hn
    · exact fit_pack hb1 ht (by omega) vp.v6 hn

/-- A call of Take. -/
theorem kept_take {q : Queue} {came went : List Packet} {now : Int} (k : Kept q came went) (ho : openS q now = 0) :
    Kept (takeS q now).1 came (if (takeS q now).2.2.1 = true then went ++ [(takeS q now).2.1] else went) := by
  have tv := take_valid k.len8 ho
  have tf := take_fit ho k.fit
  rcases takeS_cases q now with ⟨h1, _⟩ | ⟨_, _, h1⟩ | ⟨_, _, t, d, x, r, hr, w, hx, hle, h1⟩
  · exact absurd ho h1
  · rw [h1] at tv tf ⊢
    exact ⟨tv, by simp [atS, k.len8], tf, fun i hi => k.same i hi⟩
  · have tl := take_len8 (now := now) k.len8
    have e1 : (takeS q now).2.2.1 = true := by rw [h1]
    have e2 : (takeS q now).2.1 = x.p := by rw [h1]
    have e3 : (takeS q now).1.lists = q.lists.set t.toNat r := by rw [h1]
    refine ⟨tv, tl, tf, fun i hi => ?_⟩
    rw [e1, e2, e3, if_pos rfl, ofS_append, ofS_one, k.same i hi]
    have ht := w.ht
    have hfl : x.p.flow = (t.toNat : Int) := by
      have := (flowOk_iff.1 (k.valid.flows t.toNat (by omega))).2.2.1
      rw [hx] at this
      exact (okList_cons this).2.1
    rw [getD_set_list (by have := k.valid.len; omega)]
    by_cases e : t.toNat = i
    · rw [if_pos e, if_pos (by omega), ← e, hx]; simp
    · rw [if_neg e, if_neg (by omega)]; simp

theorem put_len {q : Queue} {p : Packet} {now : Int} (hp : isPacketS p = true) (ho : openS q now = 0) : (((putS q p now).2.1 = [p] ∧ (sumLen q.lists : Int) = q.room) ∨ ((putS q p now).2.1 = [] ∧ (sumLen q.lists : Int) ≠ q.room)) := by
  rcases putS_cases q p now with ⟨h1, _⟩ | ⟨_, h1, _⟩ | ⟨_, _, h2, h1⟩ | ⟨_, _, hn, h1⟩
  · rw [hp] at h1; cases h1
  · exact absurd ho h1
  · rw [h1]; exact .inl ⟨rfl, h2⟩
  · rw [h1]; exact .inr ⟨rfl, hn⟩

/-- A call of Put. -/
theorem kept_put {q : Queue} {came went : List Packet} {p : Packet} {now : Int} (k : Kept q came went) (hp : isPacketS p = true) (ho : openS q now = 0) :
    Kept (putS q p now).1 (if (putS q p now).2.1 = [] then came ++ [p] else came) went := by
  have tv := put_valid k.len8 hp ho
  have tl := put_len8 (p := p) (now := now) k.len8
  have hn := inS_iff.1 (open_valid ho).2.1
  rcases putS_cases q p now with ⟨h1, _⟩ | ⟨_, h1, _⟩ | ⟨_, _, h2, h1⟩ | ⟨_, _, h2, h1⟩
  · rw [hp] at h1; cases h1
  · exact absurd ho h1
  · rw [h1] at tv tl ⊢
    exact ⟨tv, tl, fit_set k.fit hn, fun i hi => by rw [if_neg (by simp)]; exact k.same i hi⟩
  · rw [h1] at tv tl ⊢
    refine ⟨tv, tl, fit_set k.fit hn, fun i hi => ?_⟩
    rw [if_pos rfl, ofS_append, ofS_one, k.same i hi]
    have hf := packet_flow hp
    show _ = _ ++ ((q.lists.set p.flow.toNat _).getD i []).map (·.p)
    rw [getD_set_list (by have := k.valid.len; omega)]
    by_cases e : p.flow.toNat = i
    · rw [if_pos e, if_pos (by omega), e]; simp
    · rw [if_neg e, if_neg (by omega)]; simp

/-- All lists, one after the other. -/
def allP (ls : List (List Queued)) : List Packet := ls.flatMap fun l => l.map (·.p)
theorem ofS_flow {f : Int} {last : Int} : ∀ {l : List Queued} {at_ : Int}, okList f last at_ l = true → ∀ g : Int, ofS (l.map (·.p)) g = if f = g then l.map (·.p) else []
  | [], _, _, g => by split <;> rfl
  | x :: r, at_, h, g => by
    obtain ⟨_, h2, _, h4⟩ := okList_cons h
    have ih := ofS_flow h4 g
    have : x :: r = [x] ++ r := rfl
    rw [this, List.map_append, ofS_append, ih]
    show ofS [x.p] g ++ _ = _
    rw [ofS_one, h2]
    split <;> simp
theorem kept_start {q : Queue} (vp : ValidP q) (hq : QFit q) : Kept q (allP q.lists) [] := by
  refine ⟨vp, hq.len, hq.fit, fun i hi => ?_⟩
  obtain ⟨l0, l1, l2, l3, l4, l5, l6, l7, e⟩ := list8 vp.len
  have f0 := (flowOk_iff.1 (vp.flows 0 (by omega))).2.2.1; have f1 := (flowOk_iff.1 (vp.flows 1 (by omega))).2.2.1
  have f2 := (flowOk_iff.1 (vp.flows 2 (by omega))).2.2.1; have f3 := (flowOk_iff.1 (vp.flows 3 (by omega))).2.2.1
  have f4 := (flowOk_iff.1 (vp.flows 4 (by omega))).2.2.1; have f5 := (flowOk_iff.1 (vp.flows 5 (by omega))).2.2.1
  have f6 := (flowOk_iff.1 (vp.flows 6 (by omega))).2.2.1; have f7 := (flowOk_iff.1 (vp.flows 7 (by omega))).2.2.1
  rw [e] at f0 f1 f2 f3 f4 f5 f6 f7 ⊢
  simp only [List.getD_cons_zero, List.getD_cons_succ] at f0 f1 f2 f3 f4 f5 f6 f7
  have ea : allP [l0, l1, l2, l3, l4, l5, l6, l7] = l0.map (·.p) ++ (l1.map (·.p) ++ (l2.map (·.p) ++ (l3.map (·.p) ++ (l4.map (·.p) ++ (l5.map (·.p) ++ (l6.map (·.p) ++ (l7.map (·.p) ++ []))))))) := rfl
  rw [ea]
  simp only [ofS_append]
  rw [ofS_flow f0, ofS_flow f1, ofS_flow f2, ofS_flow f3, ofS_flow f4, ofS_flow f5, ofS_flow f6, ofS_flow f7]
  have : i = 0 ∨ i = 1 ∨ i = 2 ∨ i = 3 ∨ i = 4 ∨ i = 5 ∨ i = 6 ∨ i = 7 := by omega
  rcases this with rfl | rfl | rfl | rfl | rfl | rfl | rfl | rfl <;> simp [ofS]

end Go.Vg.Ytgekegoflaichaa
