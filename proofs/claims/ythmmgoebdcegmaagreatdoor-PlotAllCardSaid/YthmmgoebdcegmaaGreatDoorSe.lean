/-
  The law PlotAll in plain Lean (1): all plans, each once. Own work; no condition.
-/
import Derived.Test.YthmmgoebdcegmaaGreatDoorSd
namespace Go.Vg.YthmmgoebdcegmaaGreatDoor
open Go.Vg Go.Proofs

noncomputable def stepP (b : Budget) (p : List Int) : List (List Int) := (choicesOf b p).map (fun x => p ++ [x])
noncomputable def beginsP (b : Budget) : Nat → List (List Int)
  | 0 => [[]]
  | k + 1 => (beginsP b k).flatMap (stepP b)

theorem fits_prefix {b : Budget} {p q : List Int} (h : fitsB b (p ++ q) = true) : fitsB b p = true := by
  obtain ⟨hv, hl, hs⟩ := left_parts h
  rw [spend_append] at hs
  cases hp : spend b.choices b.left p with
  | none => rw [hp] at hs; cases hs
  | some o =>
    unfold fitsB
    rw [leftOf, if_pos ⟨hv, by simp at hl; omega⟩, hp]

theorem choices_nodup (b : Budget) (p : List Int) : (choicesOf b p).Nodup := by
  unfold choicesOf
  split
  · refine List.nodup_cons.2 ⟨fun hm => ?_, ?_⟩
    · have := pick_ge hm; omega
    · exact (pick_sorted _ _).imp (fun h => by omega)
  · exact List.nodup_nil
theorem choices_len (b : Budget) (p : List Int) : (choicesOf b p).length ≤ b.choices.length + 1 := by
  unfold choicesOf
  split
  · have := pick_len (rest := (leftOf b p).1) b.choices 0
    simp; omega
  · simp

theorem nodup_steps (b : Budget) : ∀ l : List (List Int), l.Nodup → (l.flatMap (stepP b)).Nodup
  | [], _ => by simp
  | p :: r, h => by
    rw [List.nodup_cons] at h
    rw [List.flatMap_cons]
    refine List.nodup_append.2 ⟨?_, nodup_steps b r h.2, fun x hx y hy e => ?_⟩
    · unfold stepP
      refine List.Pairwise.map _ (fun x y h => ?_) (choices_nodup b p)
      intro e
      exact h (by simpa using e)
    · subst e
      simp only [stepP, List.mem_map] at hx
      obtain ⟨u, _, rfl⟩ := hx
      obtain ⟨q, hq, hy⟩ := List.mem_flatMap.1 hy
      simp only [stepP, List.mem_map] at hy
      obtain ⟨v, _, hv⟩ := hy
      have : q = p := List.append_inj_left' hv rfl
      exact h.1 (this ▸ hq)

theorem begins_spec {b : Budget} (hv : validB b = true) : ∀ k : Nat, (k : Int) ≤ b.periods → (beginsP b k).Nodup ∧ (∀ p, p ∈ beginsP b k ↔ p.length = k ∧ fitsB b p = true)
  | 0, _ => by
    refine ⟨by simp [beginsP], fun p => ?_⟩
    have h0 : fitsB b [] = true := by
      have := (valid_parts hv).1
      unfold fitsB
      rw [leftOf, if_pos ⟨hv, by simpa using this⟩]
      rfl
    simp only [beginsP, List.mem_singleton, List.length_eq_zero_iff]
    exact ⟨fun h => ⟨h, by rw [h]; exact h0⟩, fun h => h.1⟩
  | k + 1, hk => by
    obtain ⟨h1, h2⟩ := begins_spec hv k (by omega)
    refine ⟨?_, fun p => ?_⟩
    · exact nodup_steps b _ h1
    · simp only [beginsP, List.mem_flatMap, stepP, List.mem_map]
      constructor
      · rintro ⟨q, hq, x, hx, rfl⟩
        obtain ⟨hl, hf⟩ := (h2 q).1 hq
        refine ⟨by simp [hl], ?_⟩
        rw [fits_snoc hf (by omega) x]
        exact decide_eq_true hx
      · rintro ⟨hl, hf⟩
        have hne : p ≠ [] := by intro e; rw [e] at hl; cases hl
        have e : p = p.dropLast ++ [p.getLast hne] := (List.dropLast_concat_getLast hne).symm
        rw [e] at hf
        have hfp := fits_prefix hf
        have hlp : p.dropLast.length = k := by simp; omega
        refine ⟨p.dropLast, (h2 _).2 ⟨hlp, hfp⟩, p.getLast hne, ?_, e.symm⟩
        rw [fits_snoc hfp (by omega)] at hf
        exact of_decide_eq_true hf

theorem begins_len {b : Budget} (hc : b.choices.length ≤ 4) : ∀ k, (beginsP b k).length ≤ 5 ^ k
  | 0 => by simp [beginsP]
  | k + 1 => by
    have ih := begins_len hc k
    have : ∀ l : List (List Int), (l.flatMap (stepP b)).length ≤ 5 * l.length := by
      intro l
      induction l with
      | nil => simp
      | cons p r ihr =>
        have := choices_len b p
        simp only [List.flatMap_cons, List.length_append, List.length_cons, stepP, List.length_map] at ihr ⊢
        omega
    have := this (beginsP b k)
    simp only [beginsP]
    rw [Nat.pow_succ]
    omega

/-! ### Digits -/
def dig (B : Nat) : Nat → Nat → List Int
  | 0, _ => []
  | k + 1, x => (((x % B : Nat) : Int) - 1) :: dig B k (x / B)
def val (B : Nat) : List Int → Nat
  | [] => 0
  | d :: p => (d + 1).toNat + B * val B p
theorem dig_len (B : Nat) : ∀ k x, (dig B k x).length = k
  | 0, _ => rfl
  | k + 1, x => by simp [dig, dig_len B k]
theorem dig_inR {c : Nat} : ∀ k x, (dig (c + 1) k x).all (inR c) = true
  | 0, _ => rfl
  | k + 1, x => by
    have h := Nat.mod_lt x (show c + 1 > 0 by omega)
    simp only [dig, List.all_cons, dig_inR k, Bool.and_true, inR, Bool.and_eq_true, decide_eq_true_eq]
    omega
theorem val_dig {c : Nat} : ∀ k x, x < (c + 1) ^ k → val (c + 1) (dig (c + 1) k x) = x
  | 0, x, h => by simp at h; simp [dig, val, h]
  | k + 1, x, h => by
    have hx : x / (c + 1) < (c + 1) ^ k := by
      rw [Nat.div_lt_iff_lt_mul (by omega)]
      rw [Nat.pow_succ] at h; exact h
    have := Nat.mod_add_div x (c + 1)
    simp only [dig, val, val_dig k _ hx]
    omega
theorem dig_val {c : Nat} : ∀ p : List Int, p.all (inR c) = true → dig (c + 1) p.length (val (c + 1) p) = p ∧ val (c + 1) p < (c + 1) ^ p.length
  | [], _ => by simp [dig, val]
  | d :: p, h => by
    simp only [List.all_cons, Bool.and_eq_true, inR, decide_eq_true_eq] at h
    obtain ⟨⟨h1, h2⟩, h3⟩ := h
    obtain ⟨i1, i2⟩ := dig_val p (by simpa [inR] using h3)
    have hd : (d + 1).toNat < c + 1 := by omega
    have e1 : ((d + 1).toNat + (c + 1) * val (c + 1) p) % (c + 1) = (d + 1).toNat := by
      rw [Nat.add_mul_mod_self_left, Nat.mod_eq_of_lt hd]
    have e2 : ((d + 1).toNat + (c + 1) * val (c + 1) p) / (c + 1) = val (c + 1) p := by
      rw [Nat.add_mul_div_left _ _ (by omega), Nat.div_eq_of_lt hd, Nat.zero_add]
    refine ⟨?_, ?_⟩
    · simp only [List.length_cons, dig, val, e1, e2, i1]
      congr 1
      omega
    · simp only [List.length_cons, val, Nat.pow_succ]
      have : (c + 1) * (val (c + 1) p + 1) ≤ (c + 1) * (c + 1) ^ p.length := Nat.mul_le_mul_left _ i2
      rw [Nat.mul_comm ((c + 1) ^ p.length)]
      have : (c + 1) * (val (c + 1) p + 1) = (c + 1) * val (c + 1) p + (c + 1) := by rw [Nat.mul_add, Nat.mul_one]
      omega

/-- As many as the plans that fit. -/
theorem many_eq {b : Budget} {n : Nat} (h6 : b.left.length = 6) (hv : validB b = true) (hn : (n : Int) ≤ b.periods) :
    ((List.range ((b.choices.length + 1) ^ n)).filter (fun x => fitsB b (dig (b.choices.length + 1) n x))).length = (beginsP b n).length := by
  obtain ⟨h1, h2⟩ := begins_spec hv n hn
  have hinj : ∀ x ∈ List.range ((b.choices.length + 1) ^ n), ∀ y ∈ List.range ((b.choices.length + 1) ^ n), dig (b.choices.length + 1) n x = dig (b.choices.length + 1) n y → x = y := fun x hx y hy e => by
    have ex := val_dig (c := b.choices.length) n x (List.mem_range.1 hx)
    have ey := val_dig (c := b.choices.length) n y (List.mem_range.1 hy)
    rw [← ex, ← ey, e]
  have hnd : (((List.range ((b.choices.length + 1) ^ n)).filter (fun x => fitsB b (dig (b.choices.length + 1) n x))).map (dig (b.choices.length + 1) n)).Nodup := by
    have h0 : ((List.range ((b.choices.length + 1) ^ n)).filter (fun x => fitsB b (dig (b.choices.length + 1) n x))).Nodup := List.Pairwise.filter _ List.nodup_range
    have hs : ∀ x ∈ (List.range ((b.choices.length + 1) ^ n)).filter (fun x => fitsB b (dig (b.choices.length + 1) n x)), x ∈ List.range ((b.choices.length + 1) ^ n) := fun x hx => (List.mem_filter.1 hx).1
    revert h0 hs
    generalize (List.range ((b.choices.length + 1) ^ n)).filter (fun x => fitsB b (dig (b.choices.length + 1) n x)) = l
    intro h0 hs
    induction l with
    | nil => simp
    | cons a r ih =>
      rw [List.nodup_cons] at h0
      rw [List.map_cons, List.nodup_cons]
      refine ⟨fun hm => ?_, ih h0.2 (fun x hx => hs x (by simp [hx]))⟩
      obtain ⟨y, hy, e⟩ := List.mem_map.1 hm
      have := hinj y (hs y (by simp [hy])) a (hs a (by simp)) e
      exact h0.1 (this ▸ hy)
  have hp : (((List.range ((b.choices.length + 1) ^ n)).filter (fun x => fitsB b (dig (b.choices.length + 1) n x))).map (dig (b.choices.length + 1) n)).Perm (beginsP b n) := by
    refine (List.perm_ext_iff_of_nodup hnd h1).2 (fun p => ?_)
    rw [h2 p, List.mem_map]
    constructor
    · rintro ⟨x, hx, rfl⟩
      exact ⟨dig_len _ _ _, (List.mem_filter.1 hx).2⟩
    · rintro ⟨hl, hf⟩
      obtain ⟨_, _, hr, _⟩ := (fits_iff h6).1 hf
      obtain ⟨i1, i2⟩ := dig_val p hr
      rw [hl] at i1 i2
      exact ⟨val (b.choices.length + 1) p, List.mem_filter.2 ⟨List.mem_range.2 i2, by rw [i1]; exact hf⟩, i1⟩
  rw [← hp.length_eq, List.length_map]
end Go.Vg.YthmmgoebdcegmaaGreatDoor
