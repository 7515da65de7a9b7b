/-
  The law PlotAll in plain Lean (3). Own work; no condition.
-/
import Derived.Test.YthmmgoebdcegmaaGreatDoorSf
namespace Go.Vg.YthmmgoebdcegmaaGreatDoor
open Go.Vg Go.Proofs

theorem cpyL_pad : ∀ (p : List Int) (m : Nat), p.length ≤ m → cpyL p (List.replicate m 0) = p ++ List.replicate (m - p.length) 0
  | [], m, _ => by cases m <;> rfl
  | x :: p, 0, h => by simp at h
  | x :: p, m + 1, h => by
    have := cpyL_pad p m (by simpa using h)
    simp only [List.replicate_succ, cpyL, this, List.cons_append, List.length_cons]
    congr 3
    omega
theorem keyP_eq {p : List Int} {n : Nat} (h : p.length = n) (hn : n ≤ 3) : keyP p = p ++ List.replicate (3 - n) 0 := by
  unfold keyP
  rw [cpyL_pad p 3 (by omega), h]

theorem l432_spec {x1 x2 : Bool} {x3 x7 x8 : Int} {x9 : List Int} {ch : List Change} {m : List (List Int × Int)} {Bg : List (List Int)} (hc : ch.length ≤ 4) {n : Nat} (hn : n ≤ 3)
    {k8 : Bool → Bool → Int → Int → Int → Int → List Int → List Change → List (List Int × Int) → List (List Int) → Prop} (h : k8 x1 x2 x3 (((ch.length + 1) ^ n : Nat) : Int) x7 x8 x9 ch m Bg) :
    ∀ (d i : Nat), i + d = n → ∃ k, l_4_32 k x1 x2 x3 (((ch.length + 1) ^ i : Nat) : Int) n i x7 x8 x9 ch m Bg k8 := by
  intro d
  induction d with
  | zero =>
    intro i hi
    have : i = n := by omega
    subst this
    exact ⟨1, br_false (by simp) h⟩
  | succ d ih =>
    intro i hi
    obtain ⟨k, hk⟩ := ih (i + 1) (by omega)
    have hwi : IntKind.i64.wrap ((i : Int) + 1) = ((i + 1 : Nat) : Int) := by rw [wrapi (by omega) (by omega)]; rfl
    have hwc : IntKind.i64.wrap ((ch.length : Int) + 1) = ((ch.length + 1 : Nat) : Int) := by rw [wrapi (by omega) (by omega)]; rfl
    have hb : (ch.length + 1) ^ (i + 1) ≤ 125 := Nat.le_trans (Nat.pow_le_pow_left (by omega : ch.length + 1 ≤ 5) _) (Nat.le_trans (Nat.pow_le_pow_right (by omega) (by omega : i + 1 ≤ 3)) (by decide))
    have hm : (((ch.length + 1) ^ i : Nat) : Int) * ((ch.length + 1 : Nat) : Int) = (((ch.length + 1) ^ (i + 1) : Nat) : Int) := by rw [Nat.pow_succ, Int.natCast_mul]
    have hwm : IntKind.i64.wrap ((((ch.length + 1) ^ i : Nat) : Int) * ((ch.length + 1 : Nat) : Int)) = (((ch.length + 1) ^ (i + 1) : Nat) : Int) := by
      rw [hm]; exact wrapi (by omega) (by omega)
    refine ⟨k + 1, br_true (by simp; omega) ?_⟩
    rw [hwc, hwm, hwi]; exact hk

theorem set_mid {a v : Int} {t : List Int} : ∀ pre : List Int, (pre ++ a :: t).set pre.length v = (pre ++ [v]) ++ t
  | [] => rfl
  | x :: pre => by simp
theorem get_mid {v : Int} {t : List Int} {d : Int} : ∀ pre : List Int, ((pre ++ [v]) ++ t).getD pre.length d = v
  | [] => rfl
  | x :: pre => by simp

theorem l441_spec {x1 x2 : Bool} {x3 x6 x7 x8 x9 : Int} {x10 : List Int} {ch : List Change} {m : List (List Int × Int)} {Bg : List (List Int)} (hc : ch.length ≤ 4) {n : Nat} (hn : n ≤ 3)
    {k12 : Bool → Bool → Int → Int → Int → Int → Int → List Int → List Change → List (List Int × Int) → List (List Int) → List Int → List Int → Prop} :
    ∀ (d i y : Nat) (pre : List Int), i + d = n → pre.length = i → y ≤ 1000000 → k12 x1 x2 x3 x6 x7 x8 x9 x10 ch m Bg (pre ++ dig (ch.length + 1) d y) (pre ++ dig (ch.length + 1) d y ++ List.replicate (3 - n) 0) →
      ∃ k, l_4_41 k x1 x2 x3 i y x6 x7 x8 x9 x10 ch m Bg (pre ++ List.replicate d 0) (pre ++ List.replicate (3 - i) 0) k12 := by
  intro d
  induction d with
  | zero =>
    intro i y pre hi hp _ h
    have : i = n := by omega
    subst this
    refine ⟨1, br_false (by simp [hp]) ?_⟩
    simpa [dig] using h
  | succ d ih =>
    intro i y pre hi hp hy h
    have hwi : IntKind.i64.wrap ((i : Int) + 1) = ((i + 1 : Nat) : Int) := by rw [wrapi (by omega) (by omega)]; rfl
    have hwc : IntKind.i64.wrap ((ch.length : Int) + 1) = ((ch.length + 1 : Nat) : Int) := by rw [wrapi (by omega) (by omega)]; rfl
    have e1 : (y : Int).tmod ((ch.length + 1 : Nat) : Int) = ((y % (ch.length + 1) : Nat) : Int) := rfl
    have e2 : (y : Int).tdiv ((ch.length + 1 : Nat) : Int) = ((y / (ch.length + 1) : Nat) : Int) := rfl
    have hmod := Nat.mod_lt y (show ch.length + 1 > 0 by omega)
    have hdiv := Nat.div_le_self y (ch.length + 1)
    obtain ⟨v, hv⟩ : ∃ v : Int, ((y % (ch.length + 1) : Nat) : Int) - 1 = v := ⟨_, rfl⟩
    obtain ⟨q, hq⟩ : ∃ q : Nat, y / (ch.length + 1) = q := ⟨_, rfl⟩
    rw [hq] at hdiv
    have w1 : IntKind.i64.wrap (((y % (ch.length + 1) : Nat) : Int) - 1) = v := by rw [← hv]; exact wrapi (by omega) (by omega)
    have w2 : IntKind.i64.wrap ((y / (ch.length + 1) : Nat) : Int) = (q : Int) := by rw [hq]; exact wrapi (by omega) (by omega)
    have hne : (((ch.length + 1 : Nat) : Int) == 0) = false := by rw [beq_eq_false_iff_ne]; omega
    have s1 : (pre ++ List.replicate (d + 1) 0).set (i : Int).toNat v = (pre ++ [v]) ++ List.replicate d 0 := by
      rw [Int.toNat_natCast, ← hp, List.replicate_succ]; exact set_mid pre
    have s2 : (pre ++ List.replicate (3 - i) 0).set (i : Int).toNat v = (pre ++ [v]) ++ List.replicate (3 - (i + 1)) 0 := by
      rw [Int.toNat_natCast, show 3 - i = (3 - (i + 1)) + 1 by omega, List.replicate_succ]
      have := set_mid (a := 0) (v := v) (t := List.replicate (3 - (i + 1)) 0) pre
      rw [hp] at this
      exact this
    have g1 : ((pre ++ [v]) ++ List.replicate d 0).getD (i : Int).toNat (env.d 3) = v := by
      have := get_mid (v := v) (t := List.replicate d 0) (d := (env.d 3 : Int)) pre
      rw [hp] at this
      exact this
    obtain ⟨k, hk⟩ := ih (i + 1) q (pre ++ [v]) (by omega) (by simp [hp]) (by omega) (by
      simp only [dig, hv, hq] at h
      simpa using h)
    have hin : inb (i : Int) ((pre ++ List.replicate (d + 1) 0).length : Int) = true := inb_of (by omega) (by simp [hp]; omega)
    refine ⟨k + 1, br_true (by simp [hp]; omega) ?_⟩
    rw [hwc, e1, e2, w1, w2, s1, g1, s2, hwi]
    refine br_true (by rw [hne]; rfl) (br_true hin (br_true (inb_of (by omega) (by simp [hp]; omega)) (br_true (inb_of (by omega) (by omega)) (br_true (by rw [hne]; rfl) hk))))

theorem l436_spec {b : Budget} (h6 : b.left.length = 6) (hc : b.choices.length ≤ 4) {n : Nat} (hn : (n : Int) = b.periods) (hn3 : n ≤ 3) {x1 x2 : Bool} {m : List (List Int × Int)} {Bg : List (List Int)} {T : Nat} (hT : T ≤ 1000)
    (hm : ∀ x, fitsB b (dig (b.choices.length + 1) n x) = true → mGet (keyEq env 34 (keyP (dig (b.choices.length + 1) n x))) 0 m = 1)
    {kr : Bool → Prop} {k10 : Bool → Bool → Int → List (List Int) → Prop} {M : Nat} (h : k10 x1 x2 M Bg) :
    ∀ (d x a : Nat), x + d = T → a ≤ x → a + ((List.range' x d).filter (fun x => fitsB b (dig (b.choices.length + 1) n x))).length = M → ∃ k, l_4_36 k x1 x2 a T x n b.length b.left b.choices m Bg kr k10 := by
  intro d
  induction d with
  | zero =>
    intro x a hx _ ha
    have ha : a = M := by simpa using ha
    subst ha
    exact ⟨1, br_false (by simp; omega) h⟩
  | succ d ih =>
    intro x a hx hax ha
    have hwx : IntKind.i64.wrap ((x : Int) + 1) = ((x + 1 : Nat) : Int) := by rw [wrapi (by omega) (by omega)]; rfl
    have hwa : IntKind.i64.wrap ((a : Int) + 1) = ((a + 1 : Nat) : Int) := by rw [wrapi (by omega) (by omega)]; rfl
    have go : ∀ a' : Nat, a' ≤ x + 1 → a' + ((List.range' (x + 1) d).filter (fun x => fitsB b (dig (b.choices.length + 1) n x))).length = M → ∃ k, l_4_36 k x1 x2 a' T (x + 1 : Nat) n b.length b.left b.choices m Bg kr k10 := fun a' h1 h2 => ih (x + 1) a' (by omega) h1 h2
    have hroom : andb (leb 0 (n : Int)) (andb (leb (n : Int) n) (roomB (n : Int).toNat (bytesB env 3))) = true := by
      rw [room3 (by simp; omega)]
      simp [leb, andb]
    rw [List.range'_succ] at ha
    have hP : Budget.mk (n : Int) b.length b.left b.choices = b := by rw [hn]
    cases hf : fitsB b (dig (b.choices.length + 1) n x) with
    | true =>
      rw [List.filter_cons_of_pos (by simpa using hf)] at ha
      simp only [List.length_cons] at ha
      obtain ⟨k, hk⟩ := go (a + 1) (by omega) (by omega)
      refine ⟨k + 1, br_true (by simp; omega) (br_true hroom ?_)⟩
      refine l441_spec hc hn3 n 0 x [] (by omega) rfl (by omega) ?_
      rw [hP]
      refine V12_spec h6 (br_true hf (br_false ?_ ?_))
      · have := hm x hf
        rw [keyP_eq (dig_len _ _ _) hn3] at this
        have e : ∀ z : Int, z = 1 → (z != 1) = false := fun z h => by rw [h]; rfl
        exact e _ this
      · rw [hwa, hwx]; exact hk
    | false =>
      rw [List.filter_cons_of_neg (by simp [hf])] at ha
      obtain ⟨k, hk⟩ := go a (by omega) ha
      refine ⟨k + 1, br_true (by simp; omega) (br_true hroom ?_)⟩
      refine l441_spec hc hn3 n 0 x [] (by omega) rfl (by omega) ?_
      rw [hP]
      refine V12_spec h6 (br_false hf ?_)
      rw [hwx]; exact hk

theorem purePlotAll (b : Budget) (hb : fitBudget b) : V4 b (fun r => r = true) := by
  have h6 : b.left.length = 6 := hb.left.1
  rw [V4_eq]; unfold B4
  refine V9_spec ?_
  refine br_of (fun _ => rfl) (fun e1 => br_of (fun _ => rfl) (fun e2 => br_of (fun _ => rfl) (fun e3 => V13_spec h6 (br_of (fun _ => rfl) (fun hv => ?_)))))
  have hv : validB b = true := by simpa using hv
  simp only [decide_eq_false_iff_not] at e1 e2 e3
  obtain ⟨n, hn⟩ : ∃ n : Nat, (n : Int) = b.periods := ⟨b.periods.toNat, by omega⟩
  have hn3 : n ≤ 3 := by omega
  have hc : b.choices.length ≤ 4 := by omega
  have hpow : (5 : Nat) ^ n ≤ 125 := Nat.le_trans (Nat.pow_le_pow_right (by omega) hn3) (by decide)
  have hlen := Nat.le_trans (begins_len hc n) hpow
  obtain ⟨hnd, hmem⟩ := begins_spec hv n (by omega)
  have hT : (b.choices.length + 1) ^ n ≤ 125 := Nat.le_trans (Nat.pow_le_pow_left (by omega : b.choices.length + 1 ≤ 5) _) hpow
  have hnd2 : ((beginsP b n).map keyP).Nodup := by
    have : ∀ l : List (List Int), (∀ p ∈ l, p.length = n) → l.Nodup → (l.map keyP).Nodup := by
      intro l
      induction l with
      | nil => intro _ _; simp
      | cons p r ih =>
        intro h1 h2
        rw [List.nodup_cons] at h2
        rw [List.map_cons, List.nodup_cons]
        refine ⟨fun hm => ?_, ih (fun q hq => h1 q (by simp [hq])) h2.2⟩
        obtain ⟨q, hq, e⟩ := List.mem_map.1 hm
        rw [keyP_eq (h1 p (by simp)) hn3, keyP_eq (h1 q (by simp [hq])) hn3] at e
        have : q = p := List.append_cancel_right e
        exact h2.1 (this ▸ hq)
    exact this _ (fun p hp => ((hmem p).1 hp).1) hnd
  have start := l407_spec (b := b) h6 hv hc hn hn3 (x1 := false) (x2 := true) (m := []) (kr := fun r => r = true) (k0 := fun y10 y11 y12 y13 y14 y15 y16 y17 ↦ ∃ k18, l_4_23 k18 y10 y11 (↑y17.length : Int) 0 y12 y13 y14 y15 y16 y17 fun y19 y20 y21 y22 y23 y24 y25 y26 ↦ ∃ k27, l_4_32 k27 y19 y20 0 1 y21 0 y21 y22 y23 y24 y25 y26 fun y28 y29 y30 y31 y32 y33 y34 y35 y36 y37 ↦ ∃ k38, l_4_36 k38 y28 y29 y30 y31 0 y32 y33 y34 y35 y36 y37 (fun r => r = true) fun _ y40 y41 y42 ↦ br y40 ((y41 == (↑y42.length : Int)) = true) (false = true)) ?_ n 0 (by omega)
  · rw [hn] at start
    exact start
  refine l423_spec (by omega) (fun m hm => ?_) (beginsP b n) 0 [] rfl (fun k => by simp [mGet])
  have l32 := l432_spec (x1 := false) (x2 := true) (x3 := 0) (x7 := b.periods) (x8 := b.length) (x9 := b.left) (ch := b.choices) (m := m) (Bg := beginsP b n) hc hn3 (k8 := fun y28 y29 y30 y31 y32 y33 y34 y35 y36 y37 ↦ ∃ k38, l_4_36 k38 y28 y29 y30 y31 0 y32 y33 y34 y35 y36 y37 (fun r => r = true) fun _ y40 y41 y42 ↦ br y40 ((y41 == (↑y42.length : Int)) = true) (false = true)) ?_ n 0 (by omega)
  · rw [hn] at l32
    exact l32
  have l36 := l436_spec (b := b) h6 hc hn hn3 (x1 := false) (x2 := true) (m := m) (Bg := beginsP b n) (T := (b.choices.length + 1) ^ n) (by omega) (fun x hf => by
    rw [hm]
    have : dig (b.choices.length + 1) n x ∈ beginsP b n := (hmem _).2 ⟨dig_len _ _ _, hf⟩
    rw [List.Nodup.count hnd2, if_pos (List.mem_map.2 ⟨_, this, rfl⟩)]
    rfl) (kr := fun r => r = true) (k10 := fun _ y40 y41 y42 ↦ br y40 ((y41 == (↑y42.length : Int)) = true) (false = true)) (M := (beginsP b n).length) (br_true rfl (beq_self_eq_true _)) ((b.choices.length + 1) ^ n) 0 0 (by omega) (by omega) (by
      rw [Nat.zero_add, ← List.range_eq_range']
      exact many_eq h6 hv (by omega))
  rw [hn] at l36
  exact l36
end Go.Vg.YthmmgoebdcegmaaGreatDoor
