/-
  Serving by deficits, as lists and numbers alone: what each flow has got. Own work; no condition.
-/
import Derived.Test.YtgekegoflaichaaDb
namespace Go.Vg.Ytgekegoflaichaa
open Go.Vg Go.Proofs

/-- One quantum more for those flows whose turn was in this round. -/
def turnS (i : Nat) (t g : Int) : Int := if (i : Int) < t ∨ ((i : Int) = t ∧ g = 1) then 1 else 0

/-- What each flow that waits has got: 'c' whole rounds of quanta; 'L': no packet is larger. -/
structure Inv (a L : Int) (ls : List (List Queued)) (B : Nat → Int) (c t g : Int) (d : List Int) : Prop where
  bal : ∀ i : Nat, i < 8 → ls.getD i [] ≠ [] → B i + d.getD i 0 = (c + turnS i t g) * a
  bnd : ∀ i : Nat, i < 8 → ls.getD i [] ≠ [] → d.getD i 0 < a + L
  siz : ∀ i : Nat, i < 8 → ∀ x ∈ ls.getD i [], x.p.size ≤ L

variable {a L : Int} {ls : List (List Queued)} {B : Nat → Int} {c t g : Int} {d : List Int}

theorem Inv.pass (v : Inv a L ls B c t g d) (ht : 0 ≤ t ∧ t < 8) (h : ls.getD t.toNat [] ≠ [] → g = 1) : ∃ c', Inv a L ls B c' ((t + 1) % 8) 0 d ∧ 8 * c' + (t + 1) % 8 = 8 * c + t + 1 := by
  by_cases h7 : t = 7
  · subst h7
    refine ⟨c + 1, ⟨fun i hi hne => ?_, v.bnd, v.siz⟩, by omega⟩
    rw [v.bal i hi hne]
    have e1 : turnS i 7 g = 1 := by
      unfold turnS
      rw [if_pos]
      by_cases e : i = 7
      · subst e; exact .inr ⟨rfl, h hne⟩
      · left; omega
    have e2 : turnS i ((7 + 1) % 8) 0 = 0 := by
      unfold turnS
      rw [if_neg]; omega
    rw [e1, e2]; congr 1; omega
  · have e0 : (t + 1) % 8 = t + 1 := by omega
    rw [e0]
    refine ⟨c, ⟨fun i hi hne => ?_, v.bnd, v.siz⟩, by omega⟩
    rw [v.bal i hi hne]
    congr 2
    unfold turnS
    by_cases e : (i : Int) = t
    · have : g = 1 := h (by rw [show t.toNat = i by omega]; exact hne)
      rw [if_pos (.inr ⟨e, this⟩), if_pos (.inl (by omega))]
    · by_cases e2 : (i : Int) < t
      · rw [if_pos (.inl e2), if_pos (.inl (by omega))]
      · rw [if_neg (by omega), if_neg (by omega)]

theorem Inv.got (v : Inv a L ls B c t 0 d) (w : Way a ls t 0 d) {x : Queued} {r : List Queued} (hx : ls.getD t.toNat [] = x :: r) : Inv a L ls B c t 1 (d.set t.toNat (d.getD t.toNat 0 + a)) := by
  have ht := w.ht
  have hd := w.hd
  have h1 := (w.hh t.toNat x r (by omega) hx).resolve_left (fun h => by omega)
  have h2 := v.siz t.toNat (by omega) x (by rw [hx]; exact List.mem_cons_self)
  refine ⟨fun i hi hne => ?_, fun i hi hne => ?_, v.siz⟩
  · have hb := v.bal i hi hne
    rw [getD_set (by omega)]
    by_cases e : t.toNat = i
    · rw [if_pos e]
      subst e
      have e1 : turnS t.toNat t 0 = 0 := by unfold turnS; rw [if_neg (by omega)]
      have e2 : turnS t.toNat t 1 = 1 := by unfold turnS; rw [if_pos (.inr ⟨by omega, rfl⟩)]
      rw [e1] at hb
      rw [e2, Int.add_mul, Int.one_mul]
      rw [Int.add_zero] at hb
      omega
    · rw [if_neg e, hb]
      congr 2
      unfold turnS
      by_cases e2 : (i : Int) < t
      · rw [if_pos (.inl e2), if_pos (.inl e2)]
      · rw [if_neg (by omega), if_neg (by omega)]
  · rw [getD_set (by omega)]
    split
    · omega
    · exact v.bnd i hi hne

theorem rounds_inv : ∀ (n : Nat) {t g : Int} {d : List Int} {c t' g' : Int} {d' : List Int}, Way a ls t g d → Inv a L ls B c t g d → roundsS a ls n t g d = some (t', g', d') →
    ∃ c', Inv a L ls B c' t' 1 d' ∧ 8 * c + t ≤ 8 * c' + t' ∧ (8 * c + t = 8 * c' + t' → g = 1 → t' = t ∧ d' = d) := by
  intro n
  induction n with
  | zero => intro t g d c t' g' d' _ _ h; cases h
  | succ n ih =>
    intro t g d c t' g' d' w v h
    have ht := w.ht
    rw [roundsS] at h
    cases hx : ls.getD t.toNat [] with
    | nil =>
      rw [hx] at h
      obtain ⟨c1, v1, e1⟩ := v.pass ht (fun h => absurd hx h)
      obtain ⟨c', h1, h2, _⟩ := ih (w.pass (fun x r h => by rw [hx] at h; cases h)) v1 h
      exact ⟨c', h1, by omega, fun e => by omega⟩
    | cons x r =>
      rw [hx] at h
      simp only at h
      have w1 : Way a ls t 1 (if g = 0 then d.set t.toNat (d.getD t.toNat 0 + a) else d) ∧ Inv a L ls B c t 1 (if g = 0 then d.set t.toNat (d.getD t.toNat 0 + a) else d) := by
        rcases w.hg with rfl | rfl
        · exact ⟨w.got hx, v.got w hx⟩
        · exact ⟨w, v⟩
      by_cases hle : x.p.size ≤ (if g = 0 then d.set t.toNat (d.getD t.toNat 0 + a) else d).getD t.toNat 0
      · rw [if_pos hle] at h
        cases h
        exact ⟨c, w1.2, by omega, fun _ hg => ⟨rfl, by rw [if_neg (by omega)]⟩⟩
      · rw [if_neg hle] at h
        obtain ⟨c1, v1, e1⟩ := w1.2.pass ht (fun _ => rfl)
        obtain ⟨c', h1, h2, _⟩ := ih (w1.1.pass (fun y q h => by rw [hx] at h; cases h; omega)) v1 h
        exact ⟨c', h1, by omega, fun e => by omega⟩

/-- A packet is taken out of a flow. -/
theorem Inv.take (v : Inv a L ls B c t 1 d) (w : Way a ls t 1 d) {x : Queued} {r : List Queued} (hx : ls.getD t.toNat [] = x :: r) :
    Inv a L (ls.set t.toNat r) (fun i => B i + if i = t.toNat then x.p.size else 0) c t 1 (d.set t.toNat (d.getD t.toNat 0 - x.p.size)) := by
  have ht := w.ht
  have hd := w.hd
  have hl := w.hl
  have hs := w.hs t.toNat x r (by omega) hx
  have hne0 : ls.getD t.toNat [] ≠ [] := by rw [hx]; simp
  have hne : ∀ i, i < 8 → (ls.set t.toNat r).getD i [] ≠ [] → ls.getD i [] ≠ [] := fun i hi h => by
    rw [getD_set_list (by omega)] at h
    split at h
    · rename_i e; rw [← e]; exact hne0
    · exact h
  refine ⟨fun i hi h => ?_, fun i hi h => ?_, fun i hi y hy => ?_⟩
  · have := v.bal i hi (hne i hi h)
    rw [getD_set (by omega)]
    by_cases e : t.toNat = i
    · subst e; rw [if_pos rfl, if_pos rfl]; omega
    · rw [if_neg e, if_neg (fun h => e h.symm)]; omega
  · have := v.bnd i hi (hne i hi h)
    rw [getD_set (by omega)]
    split
    · rename_i e; subst e; omega
    · exact this
  · rw [getD_set_list (by omega)] at hy
    split at hy
    · rename_i e; exact v.siz t.toNat (by omega) y (by rw [hx]; exact List.mem_cons_of_mem _ hy)
    · exact v.siz i hi y hy

/-- The flow that was emptied gives its turn on; its deficit is of no weight. -/
theorem Inv.emptied (v : Inv a L ls B c t 1 d) (ht : 0 ≤ t ∧ t < 8) (hl : ls.getD t.toNat [] = []) (hd : t.toNat < d.length) : ∃ c', Inv a L ls B c' ((t + 1) % 8) 0 (d.set t.toNat 0) ∧ 8 * c' + (t + 1) % 8 = 8 * c + t + 1 := by
  obtain ⟨c', v', e⟩ := v.pass ht (fun _ => rfl)
  refine ⟨c', ⟨fun i hi h => ?_, fun i hi h => ?_, v'.siz⟩, e⟩
  · rw [getD_set hd, if_neg (fun e => h (by rw [← e]; exact hl))]; exact v'.bal i hi h
  · rw [getD_set hd, if_neg (fun e => h (by rw [← e]; exact hl))]; exact v'.bnd i hi h

/-- The state of a queue: whose turn, and the deficits. -/
def InvQ (L : Int) (B : Nat → Int) (c : Int) (q : Queue) : Prop := Inv q.policy.a L q.lists B c (q.vars.getD 0 0) (q.vars.getD 1 0) (defS q.vars)

/-- What a call of Take does to it: the packet that is taken is the first one of its flow; 'c' rounds are then over. -/
theorem take_inv {q : Queue} (vp : ValidP q) (_hv : q.vars.length = 8) {c : Int} (v : InvQ L B c q) (hn : sumLen q.lists ≠ 0) :
    ∃ (x : Queued) (r : List Queued) (c1 c' : Int) (d1 : Int) (f : Nat), f < 8 ∧ q.lists.getD f [] = x :: r ∧ x.p.flow = f ∧ (takeS q (q.vars.getD 7 0)).2.2.1 = true ∧ (takeS q (q.vars.getD 7 0)).2.1 = x.p ∧ (takeS q (q.vars.getD 7 0)).1.lists = q.lists.set f r ∧ (takeS q (q.vars.getD 7 0)).1.policy = q.policy ∧
      InvQ L (fun i => B i + if i = f then x.p.size else 0) c' (takeS q (q.vars.getD 7 0)).1 ∧
      8 * c + q.vars.getD 0 0 ≤ 8 * c1 + f ∧ (8 * c + q.vars.getD 0 0 = 8 * c1 + f → q.vars.getD 1 0 = 1 → q.vars.getD 0 0 = f ∧ d1 = (defS q.vars).getD f 0) ∧
      x.p.size ≤ d1 ∧ d1 < q.policy.a + L ∧ B f + d1 = (c1 + 1) * q.policy.a ∧
      (r ≠ [] → c' = c1 ∧ (takeS q (q.vars.getD 7 0)).1.vars.getD 0 0 = f ∧ (takeS q (q.vars.getD 7 0)).1.vars.getD 1 0 = 1) ∧
      (r = [] → 8 * c' + (takeS q (q.vars.getD 7 0)).1.vars.getD 0 0 = 8 * c1 + f + 1 ∧ (takeS q (q.vars.getD 7 0)).1.vars.getD 1 0 = 0) := by
  have ho : openS q (q.vars.getD 7 0) = 0 := openS_0 (validS_iff.2 vp) (inS_iff.2 vp.v7) (by omega)
  rcases takeS_cases q (q.vars.getD 7 0) with ⟨h1, _⟩ | ⟨_, h2, h1⟩ | ⟨_, _, t, d, x, r, hr, w, hx, hle, h1⟩
  · exact absurd ho h1
  · exact absurd h2 hn
  · have ht := w.ht
    have hd := w.hd
    have hl := vp.len
    obtain ⟨c1, v1, e1, e2⟩ := rounds_inv fuelS vp.way v hr
    have hne : q.lists.getD t.toNat [] ≠ [] := by rw [hx]; simp
    have hfl : x.p.flow = (t.toNat : Int) := by
      have := (flowOk_iff.1 (vp.flows t.toNat (by omega))).2.2.1
      rw [hx] at this
      exact (okList_cons this).2.1
    have v2 := v1.take w hx
    have hbal := v1.bal t.toNat (by omega) hne
    have hbnd := v1.bnd t.toNat (by omega) hne
    rw [show turnS t.toNat t 1 = 1 by unfold turnS; rw [if_pos (.inr ⟨by omega, rfl⟩)]] at hbal
    have hb0 : ∀ i, i < 8 → 0 ≤ d.getD i 0 ∧ d.getD i 0 < 32768 := fun i hi => by have := w.h0 i hi; omega
    have hs := w.hs t.toNat x r (by omega) hx
    have hb1 : ∀ i, i < 8 → 0 ≤ (d.set t.toNat (d.getD t.toNat 0 - x.p.size)).getD i 0 ∧ (d.set t.toNat (d.getD t.toNat 0 - x.p.size)).getD i 0 < 32768 := fun i hi => by
      rw [getD_set (by omega)]
      split
      · have := hb0 t.toNat (by omega); omega
      · exact hb0 i hi
    have hb2 : ∀ i, i < 8 → 0 ≤ ((d.set t.toNat (d.getD t.toNat 0 - x.p.size)).set t.toNat 0).getD i 0 ∧ ((d.set t.toNat (d.getD t.toNat 0 - x.p.size)).set t.toNat 0).getD i 0 < 32768 := fun i hi => by
      rw [getD_set (by simp; omega)]
      split
      · omega
      · exact hb1 i hi
    by_cases hr0 : r = []
    · obtain ⟨c', v3, e3⟩ := v2.emptied ht (by rw [getD_set_list (by omega), if_pos rfl]; exact hr0) (by simp; omega)
      rw [if_pos hr0] at h1
      refine ⟨x, r, c1, c', d.getD t.toNat 0, t.toNat, by omega, hx, hfl, by rw [h1], by rw [h1], by rw [h1], by rw [h1], ?_, by omega, fun h hg => ?_, hle, hbnd, hbal, fun h => absurd hr0 h, fun _ => ?_⟩
      · rw [h1]
        unfold InvQ
        simp only
        rw [pack_def (by simp [hd]) hb2]
        exact v3
      · obtain ⟨h5, h6⟩ := e2 (by omega) hg
        exact ⟨by omega, by rw [h6]⟩
      · rw [h1]
        refine ⟨?_, rfl⟩
        show 8 * c' + (t + 1) % 8 = _
        omega
    · rw [if_neg hr0] at h1
      refine ⟨x, r, c1, c1, d.getD t.toNat 0, t.toNat, by omega, hx, hfl, by rw [h1], by rw [h1], by rw [h1], by rw [h1], ?_, by omega, fun h hg => ?_, hle, hbnd, hbal, fun _ => ?_, fun h => absurd h hr0⟩
      · rw [h1]
        unfold InvQ
        simp only
        rw [pack_def (by simp [hd]) hb1]
        exact v2
      · obtain ⟨h5, h6⟩ := e2 (by omega) hg
        exact ⟨by omega, by rw [h6]⟩
      · rw [h1]
        refine ⟨rfl, ?_, rfl⟩
        show t = _
        omega

end Go.Vg.Ytgekegoflaichaa
