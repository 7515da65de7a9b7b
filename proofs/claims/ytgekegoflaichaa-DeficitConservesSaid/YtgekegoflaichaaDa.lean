/-
  Serving by deficits, as lists and numbers alone: the rounds end. Own work; no condition.
-/
import Derived.Test.YtgekegoflaichaaSc
namespace Go.Vg.Ytgekegoflaichaa
open Go.Vg Go.Proofs

/-- From a turn on, until a packet can be taken: the turn, whether the quantum was got, the deficits. -/
def roundsS (a : Int) (ls : List (List Queued)) : Nat → Int → Int → List Int → Option (Int × Int × List Int)
  | 0, _, _, _ => none
  | n + 1, t, g, d => match ls.getD t.toNat [] with
    | [] => roundsS a ls n ((t + 1) % 8) 0 d
    | x :: _ => if x.p.size ≤ (if g = 0 then d.set t.toNat (d.getD t.toNat 0 + a) else d).getD t.toNat 0 then some (t, (if g = 0 then 1 else g), if g = 0 then d.set t.toNat (d.getD t.toNat 0 + a) else d)
      else roundsS a ls n ((t + 1) % 8) 0 (if g = 0 then d.set t.toNat (d.getD t.toNat 0 + a) else d)

/-- What holds on the way. -/
structure Way (a : Int) (ls : List (List Queued)) (t g : Int) (d : List Int) : Prop where
  ha : 100 ≤ a ∧ a ≤ 10000
  hl : ls.length = 8
  hd : d.length = 8
  ht : 0 ≤ t ∧ t < 8
  hg : g = 0 ∨ g = 1
  h0 : ∀ i, i < 8 → 0 ≤ d.getD i 0 ∧ d.getD i 0 ≤ 19999
  hs : ∀ i x r, i < 8 → ls.getD i [] = x :: r → 1 ≤ x.p.size ∧ x.p.size ≤ 10000
  hh : ∀ i x r, i < 8 → ls.getD i [] = x :: r → (g = 1 ∧ t = i) ∨ d.getD i 0 < x.p.size

theorem getD_set {d : List Int} {i j : Nat} {v : Int} (hi : i < d.length) : (d.set i v).getD j 0 = if i = j then v else d.getD j 0 := by
  rw [List.getD_eq_getElem?_getD, List.getElem?_set]
  split
  · subst_vars; simp
  · rw [List.getD_eq_getElem?_getD]

/-- The next flow's turn. -/
theorem Way.pass {a : Int} {ls : List (List Queued)} {t g : Int} {d : List Int} (w : Way a ls t g d) (h : ∀ x r, ls.getD t.toNat [] = x :: r → d.getD t.toNat 0 < x.p.size) : Way a ls ((t + 1) % 8) 0 d where
  ha := w.ha
  hl := w.hl
  hd := w.hd
  ht := by have := w.ht; omega
  hg := .inl rfl
  h0 := w.h0
  hs := w.hs
  hh := fun i x r hi hx => by
    rcases w.hh i x r hi hx with ⟨_, h2⟩ | h1
    · right
      have : t.toNat = i := by omega
      rw [this] at h
      exact h x r hx
    · exact .inr h1

/-- The quantum is got. -/
theorem Way.got {a : Int} {ls : List (List Queued)} {t : Int} {d : List Int} (w : Way a ls t 0 d) {x : Queued} {r : List Queued} (hx : ls.getD t.toNat [] = x :: r) : Way a ls t 1 (d.set t.toNat (d.getD t.toNat 0 + a)) := by
  have ht := w.ht
  have hd := w.hd
  have h1 := (w.hh t.toNat x r (by omega) hx).resolve_left (fun h => by omega)
  have h2 := w.hs t.toNat x r (by omega) hx
  have h3 := w.h0 t.toNat (by omega)
  have ha := w.ha
  refine ⟨w.ha, w.hl, by simp [hd], ht, .inr rfl, fun i hi => ?_, w.hs, fun i y q hi hy => ?_⟩
  · rw [getD_set (by omega)]
    split
    · omega
    · exact w.h0 i hi
  · rw [getD_set (by omega)]
    split
    · left; exact ⟨rfl, by omega⟩
    · rcases w.hh i y q hi hy with ⟨h, _⟩ | h
      · omega
      · exact .inr h

def phi (d : List Int) : Int := (d.map fun z => 20000 - z).sum
theorem phi_set : ∀ {d : List Int} {i : Nat} {v : Int}, i < d.length → phi (d.set i v) = phi d + d.getD i 0 - v
  | [], _, _, h => by simp at h
  | x :: r, 0, v, _ => by simp [phi]; omega
  | x :: r, i + 1, v, h => by
    have := phi_set (d := r) (i := i) (v := v) (by simpa using h)
    simp only [phi, List.set_cons_succ, List.map_cons, List.sum_cons, List.getD_cons_succ] at this ⊢
    omega
theorem phi_nonneg : ∀ {d : List Int}, (∀ i, i < d.length → d.getD i 0 ≤ 19999) → (d.length : Int) ≤ phi d
  | [], _ => by simp [phi]
  | x :: r, h => by
    have := phi_nonneg (d := r) (fun i hi => by have := h (i + 1) (by simpa using hi); simpa using this)
    have := h 0 (by simp)
    simp [phi] at *
    omega
theorem phi_le : ∀ {d : List Int}, (∀ i, i < d.length → 0 ≤ d.getD i 0) → phi d ≤ 20000 * d.length
  | [], _ => by simp [phi]
  | x :: r, h => by
    have := phi_le (d := r) (fun i hi => by have := h (i + 1) (by simpa using hi); simpa using this)
    have := h 0 (by simp)
    simp [phi] at *
    omega

theorem rounds0 {a : Int} {ls : List (List Queued)} {i : Int} (hi : 0 ≤ i ∧ i < 8) (hne : ls.getD i.toNat [] ≠ []) : ∀ (n : Nat) (t : Int) (d : List Int), Way a ls t 0 d → 8 * phi d + (i - t) % 8 < n → ∃ r, roundsS a ls n t 0 d = some r := by
  intro n
  induction n with
  | zero =>
    intro t d w h
    have := phi_nonneg (d := d) (fun i hi => (w.h0 i (by rw [← w.hd]; exact hi)).2)
    omega
  | succ n ih =>
    intro t d w h
    have ht := w.ht
    have hd := w.hd
    cases hx : ls.getD t.toNat [] with
    | nil =>
      have hti : t ≠ i := fun e => hne (e ▸ hx)
      obtain ⟨r, hr⟩ := ih ((t + 1) % 8) d (w.pass (fun x r h => by rw [hx] at h; cases h)) (by omega)
      exact ⟨r, by rw [roundsS, hx]; exact hr⟩
    | cons x r =>
      have w1 := w.got hx
      by_cases hle : x.p.size ≤ (d.set t.toNat (d.getD t.toNat 0 + a)).getD t.toNat 0
      · exact ⟨_, by rw [roundsS, hx]; simp only [if_true]; rw [if_pos hle]⟩
      · have hp := phi_set (d := d) (i := t.toNat) (v := d.getD t.toNat 0 + a) (by omega)
        have ha := w.ha
        obtain ⟨r', hr⟩ := ih ((t + 1) % 8) (d.set t.toNat (d.getD t.toNat 0 + a)) (w1.pass (fun y q h => by rw [hx] at h; cases h; omega)) (by omega)
        exact ⟨r', by rw [roundsS, hx]; simp only [if_true]; rw [if_neg hle]; exact hr⟩

def fuelS : Nat := 2000000

theorem rounds_some {a : Int} {ls : List (List Queued)} {t g : Int} {d : List Int} (w : Way a ls t g d) {i : Nat} (hi : i < 8) (hne : ls.getD i [] ≠ []) : ∃ r, roundsS a ls fuelS t g d = some r := by
  have hb : ∀ d : List Int, (∀ i, i < 8 → 0 ≤ d.getD i 0 ∧ d.getD i 0 ≤ 19999) → d.length = 8 → 8 * phi d ≤ 1280000 := fun d h0 hd => by
    have := phi_le (d := d) (fun i hi => (h0 i (by omega)).1)
    rw [hd] at this; omega
  rcases w.hg with rfl | rfl
  · have := hb d w.h0 w.hd
    exact rounds0 (i := i) (by omega) (by simpa using hne) fuelS t d w (by unfold fuelS; omega)
  · have := hb d w.h0 w.hd
    show ∃ r, roundsS a ls (1999999 + 1) t 1 d = some r
    cases hx : ls.getD t.toNat [] with
    | nil =>
      obtain ⟨r, hr⟩ := rounds0 (i := i) (by omega) (by simpa using hne) 1999999 ((t + 1) % 8) d (w.pass (fun x r h => by rw [hx] at h; cases h)) (by omega)
      exact ⟨r, by rw [roundsS, hx]; exact hr⟩
    | cons x r =>
      by_cases hle : x.p.size ≤ d.getD t.toNat 0
      · exact ⟨_, by rw [roundsS, hx]; simp only [show ¬ (1 : Int) = 0 by omega, if_false]; rw [if_pos hle]⟩
      · obtain ⟨r', hr⟩ := rounds0 (i := i) (by omega) (by simpa using hne) 1999999 ((t + 1) % 8) d (w.pass (fun y q h => by rw [hx] at h; cases h; omega)) (by omega)
        exact ⟨r', by rw [roundsS, hx]; simp only [show ¬ (1 : Int) = 0 by omega, if_false]; rw [if_neg hle]; exact hr⟩

/-- Where the rounds end: on the way, at a packet that can be taken. -/
theorem rounds_end {a : Int} {ls : List (List Queued)} : ∀ (n : Nat) {t g : Int} {d : List Int} {t' g' : Int} {d' : List Int}, Way a ls t g d → roundsS a ls n t g d = some (t', g', d') →
    Way a ls t' 1 d' ∧ g' = 1 ∧ ∃ x r, ls.getD t'.toNat [] = x :: r ∧ x.p.size ≤ d'.getD t'.toNat 0 := by
  intro n
  induction n with
  | zero => intro t g d t' g' d' _ h; cases h
  | succ n ih =>
    intro t g d t' g' d' w h
    rw [roundsS] at h
    cases hx : ls.getD t.toNat [] with
    | nil =>
      rw [hx] at h
      exact ih (w.pass (fun x r h => by rw [hx] at h; cases h)) h
    | cons x r =>
      rw [hx] at h
      simp only at h
      have w1 : Way a ls t 1 (if g = 0 then d.set t.toNat (d.getD t.toNat 0 + a) else d) ∧ (if g = 0 then 1 else g) = 1 := by
        rcases w.hg with rfl | rfl
        · exact ⟨w.got hx, rfl⟩
        · exact ⟨w, rfl⟩
      by_cases hle : x.p.size ≤ (if g = 0 then d.set t.toNat (d.getD t.toNat 0 + a) else d).getD t.toNat 0
      · rw [if_pos hle] at h
        cases h
        exact ⟨w1.1, w1.2, x, r, hx, hle⟩
      · rw [if_neg hle] at h
        exact ih (w1.1.pass (fun y q h => by rw [hx] at h; cases h; omega)) h

end Go.Vg.Ytgekegoflaichaa
