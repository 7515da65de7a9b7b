/-
  The law PlotAll in plain Lean (2). Own work; no condition.
-/
import Derived.Test.YthmmgoebdcegmaaGreatDoorSe
import Derived.Test.YthmmgoebdcegmaaGreatDoorTd
namespace Go.Vg.YthmmgoebdcegmaaGreatDoor
open Go.Vg Go.Proofs

theorem room26 {n : Nat} (h : n ≤ 1000000) : roomB n (bytesB env 26) = true := by
  have e : bytesB env 26 = 24 := by kernel_rfl
  have h1 : decide (n * 24 ≤ 140737488355328) = true := decide_eq_true (by omega)
  have h2 : decide (n ≤ 140737488355328) = true := decide_eq_true (by omega)
  unfold roomB
  rw [e, h1, h2]
  rfl
theorem key34 (x y : List Int) : keyEq env 34 x y = (x == y) := by kernel_rfl
theorem asL3 (p : List Int) : env.asL 3 p = p := by kernel_rfl
def keyP (p : List Int) : List Int := cpyL p (List.replicate 3 0)

theorem l413_spec {x1 x2 : Bool} {p : List Int} {x4 x5 x6 x7 : Int} {L : List Int} {x11 x12 : Int} {x13 : List Int} {x14 : List Change} {x15 : List (List Int × Int)} {x16 : List (List Int)}
    {k4 : Bool → Bool → Int → Int → Int → Int → Int → Int → List Int → List Change → List (List Int × Int) → List (List Int) → List (List Int) → Prop} (hp : p.length ≤ 1000) (hL : L.length ≤ 1000) :
    ∀ (r : List Int) (i : Nat) (acc : List (List Int)), L.drop i = r → acc.length + r.length ≤ 100000 → k4 x1 x2 x4 x5 x6 x7 x11 x12 x13 x14 x15 x16 (acc ++ r.map (fun x => p ++ [x])) → ∃ k, l_4_13 k x1 x2 p x4 x5 x6 x7 L L.length i x11 x12 x13 x14 x15 x16 acc k4 := by
  intro r
  induction r with
  | nil =>
    intro i acc hdr _ h
    have : L.length ≤ i := by simpa using hdr
    have h : k4 x1 x2 x4 x5 x6 x7 x11 x12 x13 x14 x15 x16 acc := by simpa using h
    exact ⟨1, br_false (by simp; omega) h⟩
  | cons x r ih =>
    intro i acc hdr ha h
    have hlt := lt_drop hdr
    have hg : L.getD (i : Int).toNat (env.d 3) = x := getD_drop (by simpa using hdr)
    have hwi : IntKind.i64.wrap ((i : Int) + 1) = ((i + 1 : Nat) : Int) := by rw [wrapi (by omega) (by omega)]; rfl
    have hin : inb (i : Int) (L.length : Int) = true := inb_of (by omega) (by omega)
    simp only [List.length_cons] at ha
    obtain ⟨k, hk⟩ := ih (i + 1) (acc ++ [p ++ [x]]) (drop_next hdr) (by simp; omega) (by simpa using h)
    refine ⟨k + 1, br_true (by simpa using hlt) (br_true hin (br_true (room3 (by simp; omega)) (br_true (room3 (by simp; omega)) (br_true (room26 (by simp; omega)) ?_))))⟩
    rw [hg, hwi]; exact hk

theorem l410_spec {b : Budget} (h6 : b.left.length = 6) (hc : b.choices.length ≤ 4) {x1 x2 : Bool} {x3 x4 : Int} {m : List (List Int × Int)} {Bg : List (List Int)} (hB : Bg.length ≤ 1000) (hBl : ∀ p ∈ Bg, p.length ≤ 1000)
    {k2 : Bool → Bool → Int → Int → Int → Int → List Int → List Change → List (List Int × Int) → List (List Int) → List (List Int) → Prop} :
    ∀ (r : List (List Int)) (i : Nat) (acc : List (List Int)), Bg.drop i = r → acc.length + 10 * r.length ≤ 50000 → k2 x1 x2 x3 x4 b.periods b.length b.left b.choices m Bg (acc ++ r.flatMap (stepP b)) → ∃ k, l_4_10 k x1 x2 x3 x4 Bg.length i b.periods b.length b.left b.choices m Bg acc k2 := by
  intro r
  induction r with
  | nil =>
    intro i acc hdr _ h
    have : Bg.length ≤ i := by simpa using hdr
    have h : k2 x1 x2 x3 x4 b.periods b.length b.left b.choices m Bg acc := by simpa using h
    exact ⟨1, br_false (by simp; omega) h⟩
  | cons p r ih =>
    intro i acc hdr ha h
    have hlt := lt_drop hdr
    have hg : Bg.getD (i : Int).toNat (env.d 26) = p := getD_drop (by simpa using hdr)
    have hwi : IntKind.i64.wrap ((i : Int) + 1) = ((i + 1 : Nat) : Int) := by rw [wrapi (by omega) (by omega)]; rfl
    have hin : inb (i : Int) (Bg.length : Int) = true := inb_of (by omega) (by omega)
    have hcl := choices_len b p
    simp only [List.length_cons] at ha
    obtain ⟨k, hk⟩ := ih (i + 1) (acc ++ stepP b p) (drop_next hdr) (by simp [stepP]; omega) (by simpa using h)
    refine ⟨k + 1, br_true (by simpa using hlt) (br_true hin (V11_spec h6 ?_))⟩
    rw [hg]
    refine l413_spec (hBl p (mem_drop hdr)) (Nat.le_trans hcl (by omega)) (choicesOf b p) 0 acc rfl (Nat.le_trans (Nat.add_le_add_left hcl _) (by omega)) ?_
    show l_4_10 k x1 x2 x3 x4 Bg.length (IntKind.i64.wrap ((i : Int) + 1)) b.periods b.length b.left b.choices m Bg (acc ++ stepP b p) k2
    rw [hwi]; exact hk

theorem l407_spec {b : Budget} (h6 : b.left.length = 6) (hv : validB b = true) (hc : b.choices.length ≤ 4) {n : Nat} (hn : (n : Int) = b.periods) (hn3 : n ≤ 3) {x1 x2 : Bool} {m : List (List Int × Int)} {kr : Bool → Prop}
    {k0 : Bool → Bool → Int → Int → List Int → List Change → List (List Int × Int) → List (List Int) → Prop} (h : k0 x1 x2 b.periods b.length b.left b.choices m (beginsP b n)) :
    ∀ (d i : Nat), i + d = n → ∃ k, l_4_7 k x1 x2 n i b.periods b.length b.left b.choices m (beginsP b i) kr k0 := by
  intro d
  induction d with
  | zero =>
    intro i hi
    have : i = n := by omega
    subst this
    exact ⟨1, br_false (by simp) h⟩
  | succ d ih =>
    intro i hi
    obtain ⟨k, hk⟩ := ih (i + 1) (by omega)
    have hwi : IntKind.i64.wrap ((i : Int) + 1) = ((i + 1 : Nat) : Int) := by rw [wrapi (by omega) (by omega)]; rfl
    have hpow : ∀ j : Nat, j ≤ 3 → (5 : Nat) ^ j ≤ 125 := fun j hj => Nat.le_trans (Nat.pow_le_pow_right (by omega) hj) (by decide)
    have hl := Nat.le_trans (begins_len hc i) (hpow i (by omega))
    have hl1 := Nat.le_trans (begins_len hc (i + 1)) (hpow (i + 1) (by omega))
    refine ⟨k + 1, br_true (by simp; omega) ?_⟩
    refine l410_spec h6 hc (by omega) (fun p hp => ?_) (beginsP b i) 0 [] rfl (by simp; omega) ?_
    · have := ((begins_spec hv i (by omega)).2 p).1 hp
      omega
    · refine br_false ?_ ?_
      · show decide ((((beginsP b (i + 1)).length : Nat) : Int) > 200) = false
        rw [decide_eq_false_iff_not]; omega
      · show l_4_7 k x1 x2 n (IntKind.i64.wrap ((i : Int) + 1)) b.periods b.length b.left b.choices m (beginsP b (i + 1)) kr k0
        rw [hwi]; exact hk

/-! ### The count of each plan's key -/
theorem idx_lt {k : List Int} : ∀ m : List (List Int × Int), mIdx (keyEq env 34 k) m < (mEnt (keyEq env 34 k) k 0 m).length
  | [] => by simp [mIdx, mEnt]
  | p :: r => by
    have := idx_lt (k := k) r
    simp only [mIdx, mEnt]
    cases keyEq env 34 k p.1 with
    | true => exact Nat.succ_pos _
    | false => exact Nat.succ_lt_succ this
theorem mGet_put {k k2 : List Int} {v : Int} : ∀ m : List (List Int × Int), mGet (keyEq env 34 k2) 0 (mSet (mEnt (keyEq env 34 k) k 0 m) (mIdx (keyEq env 34 k) m) v) = if k2 = k then v else mGet (keyEq env 34 k2) 0 m
  | [] => by
    simp only [mIdx, mEnt, mSet, mGet, key34]
    by_cases h : k2 = k
    · simp [h]
    · have : (k2 == k) = false := beq_eq_false_iff_ne.2 h
      simp [h, this]
  | p :: r => by
    have ih := mGet_put (k := k) (k2 := k2) (v := v) r
    simp only [mIdx, mEnt, key34] at ih ⊢
    by_cases hp : k = p.1
    · have e : (k == p.1) = true := beq_iff_eq.2 hp
      simp only [e, mSet, mGet, key34]
      by_cases h : k2 = k
      · simp [h]
      · have e1 : (k2 == k) = false := beq_eq_false_iff_ne.2 h
        have e2 : (k2 == p.1) = false := beq_eq_false_iff_ne.2 (fun hh => h (by rw [hh, hp]))
        simp [h, e1, e2]
    · have e : (k == p.1) = false := beq_eq_false_iff_ne.2 hp
      simp only [e, mSet, mGet, key34]
      by_cases h : k2 = p.1
      · have e1 : (k2 == p.1) = true := beq_iff_eq.2 h
        have : ¬ k2 = k := fun hh => hp (by rw [← hh, h])
        simp [e1, this]
      · have e1 : (k2 == p.1) = false := beq_eq_false_iff_ne.2 h
        simp only [e1]
        exact ih

theorem l423_spec {x1 x2 : Bool} {x5 x6 : Int} {x7 : List Int} {x8 : List Change} {Bg : List (List Int)} (hB : Bg.length ≤ 1000)
    {k6 : Bool → Bool → Int → Int → List Int → List Change → List (List Int × Int) → List (List Int) → Prop} (h : ∀ m, (∀ k : List Int, mGet (keyEq env 34 k) 0 m = (((Bg.map keyP).count k : Nat) : Int)) → k6 x1 x2 x5 x6 x7 x8 m Bg) :
    ∀ (r : List (List Int)) (i : Nat) (m : List (List Int × Int)), Bg.drop i = r → (∀ k : List Int, mGet (keyEq env 34 k) 0 m = ((((Bg.take i).map keyP).count k : Nat) : Int)) → ∃ k, l_4_23 k x1 x2 Bg.length i x5 x6 x7 x8 m Bg k6 := by
  intro r
  induction r with
  | nil =>
    intro i m hdr hm
    have : Bg.length ≤ i := by simpa using hdr
    rw [List.take_of_length_le this] at hm
    exact ⟨1, br_false (by simp; omega) (h m hm)⟩
  | cons p r ih =>
    intro i m hdr hm
    have hlt := lt_drop hdr
    have hg : Bg.getD (i : Int).toNat (env.d 26) = p := getD_drop (by simpa using hdr)
    have hwi : IntKind.i64.wrap ((i : Int) + 1) = ((i + 1 : Nat) : Int) := by rw [wrapi (by omega) (by omega)]; rfl
    have hin : inb (i : Int) (Bg.length : Int) = true := inb_of (by omega) (by omega)
    have hcnt : ((Bg.take i).map keyP).count (keyP p) ≤ 1000 := Nat.le_trans List.count_le_length (by simp; omega)
    have hw : IntKind.i64.wrap (mGet (keyEq env 34 (keyP p)) 0 m + 1) = mGet (keyEq env 34 (keyP p)) 0 m + 1 := by
      rw [hm]; exact wrapi (by omega) (by omega)
    obtain ⟨k, hk⟩ := ih (i + 1) (mSet (mEnt (keyEq env 34 (keyP p)) (keyP p) 0 m) (mIdx (keyEq env 34 (keyP p)) m) (mGet (keyEq env 34 (keyP p)) 0 m + 1)) (drop_next hdr) (fun k2 => by
      refine (mGet_put (k := keyP p) (k2 := k2) m).trans ?_
      rw [take_next hdr, List.map_append, List.count_append]
      by_cases e : k2 = keyP p
      · rw [if_pos e, e, hm]
        simp
      · rw [if_neg e, hm]
        have : List.count k2 (List.map keyP [p]) = 0 := List.count_eq_zero.2 (by simpa using e)
        rw [this]; rfl)
    refine ⟨k + 1, br_true (by simpa using hlt) (br_true hin ?_)⟩
    rw [hg, asL3]
    refine br_true (inb_of (by omega) (by have := idx_lt (k := keyP p) m; exact Int.ofNat_lt.2 this)) ?_
    show l_4_23 k x1 x2 Bg.length (IntKind.i64.wrap ((i : Int) + 1)) x5 x6 x7 x8 (mSet (mEnt (keyEq env 34 (keyP p)) (keyP p) 0 m) (mIdx (keyEq env 34 (keyP p)) m) (IntKind.i64.wrap (mGet (keyEq env 34 (keyP p)) 0 m + 1))) Bg k6
    rw [hw, hwi]; exact hk
end Go.Vg.YthmmgoebdcegmaaGreatDoor
