/-
  What the walked functions of the budgets and plans come to (2): what is left, fitting, what may be chosen, what is used. Own work; no condition.
-/
import Derived.Test.YthmmgoebdcegmaaGreatDoorSa
namespace Go.Vg.YthmmgoebdcegmaaGreatDoor
open Go.Vg Go.Proofs

noncomputable def dc : Change := env.d 60
noncomputable def kindAt (ch : List Change) (n : Int) : Nat := (ch.getD n.toNat dc).kind.toNat
/-- What is left behind a plan. -/
noncomputable def spend (ch : List Change) : List Int → List Int → Option (List Int)
  | l, [] => some l
  | l, n :: p => if n < -1 ∨ n ≥ ch.length then none else if n < 0 then spend ch l p else
      if l.getD (kindAt ch n) 0 ≤ 0 then none else spend ch (l.set (kindAt ch n) (l.getD (kindAt ch n) 0 - 1)) p
noncomputable def leftOf (b : Budget) (p : List Int) : List Int × Bool :=
  if validB b = true ∧ (p.length : Int) ≤ b.periods then match spend b.choices b.left p with
    | some o => (o, true)
    | none => ([0, 0, 0, 0, 0, 0], false)
  else ([0, 0, 0, 0, 0, 0], false)
noncomputable def fitsB (b : Budget) (p : List Int) : Bool := (leftOf b p).2

theorem kind_lt {ch : List Change} (hch : ch.all okC = true) {n : Int} (h0 : 0 ≤ n) (h1 : n < ch.length) : 1 ≤ (ch.getD n.toNat dc).kind ∧ (ch.getD n.toNat dc).kind < 6 := by
  have hl : n.toNat < ch.length := by omega
  have hm : ch.getD n.toNat dc ∈ ch := by
    rw [List.getD_eq_getElem?_getD, List.getElem?_eq_getElem hl]
    exact List.getElem_mem hl
  have := List.all_eq_true.1 hch _ hm
  simpa [okC] using this

theorem set_ok {l : List Int} {k : Nat} {v : Int} (h : l.all okN = true) (hv : okN v = true) : (l.set k v).all okN = true := by
  rw [List.all_eq_true] at h ⊢
  intro x hx
  rcases List.mem_or_eq_of_mem_set hx with h1 | h1
  · exact h x h1
  · rw [h1]; exact hv
theorem getD_ok {l : List Int} (h : l.all okN = true) (k : Nat) : 0 ≤ l.getD k 0 ∧ l.getD k 0 ≤ 6 := by
  rcases Nat.lt_or_ge k l.length with h1 | h1
  · have hm : l.getD k 0 ∈ l := by
      rw [List.getD_eq_getElem?_getD, List.getElem?_eq_getElem h1]
      exact List.getElem_mem h1
    have := List.all_eq_true.1 h _ hm
    simpa [okN] using this
  · rw [List.getD_eq_getElem?_getD, List.getElem?_eq_none h1]; simp
theorem getD_set {l : List Int} {k : Nat} {v : Int} (h : k < l.length) (j : Nat) : (l.set k v).getD j 0 = if j = k then v else l.getD j 0 := by
  simp only [List.getD_eq_getElem?_getD, List.getElem?_set]
  by_cases e : k = j
  · subst e; simp [h]
  · have : ¬ j = k := fun h => e h.symm
    simp [e, this]

theorem l24_spec {x1 : Bool} {pl : List Int} {x5 : List Int} {x7 x8 : Int} {x9 : List Int} {ch : List Change} {kr : Bool → List Int → Prop} {k0 : Bool → List Int → List Int → Prop} (hpl : pl.length ≤ 1000000) (hch : ch.all okC = true) :
    ∀ (r : List Int) (i : Nat) (rest : List Int), pl.drop i = r → rest.length = 6 → rest.all okN = true → (∀ o, spend ch rest r = some o → k0 x1 x5 o) → (spend ch rest r = none → kr false [0, 0, 0, 0, 0, 0]) → ∃ k, l_24_6 k x1 pl pl.length i x5 rest x7 x8 x9 ch kr k0 := by
  intro r
  induction r with
  | nil =>
    intro i rest hdr _ _ h1 _
    have : pl.length ≤ i := by simpa using hdr
    exact ⟨1, br_false (by simp; omega) (h1 rest rfl)⟩
  | cons n r ih =>
    intro i rest hdr h6 ho h1 h2
    have hlt := lt_drop hdr
    have hg : pl.getD (i : Int).toNat (env.d 3) = n := getD_drop (by simpa using hdr)
    have hwi : IntKind.i64.wrap ((i : Int) + 1) = ((i + 1 : Nat) : Int) := by rw [wrapi (by omega) (by omega)]; rfl
    have hin : inb (i : Int) (pl.length : Int) = true := inb_of (by omega) (by omega)
    by_cases ha : n < -1
    · refine ⟨1, br_true (by simpa using hlt) (br_true hin (br_true (by rw [hg]; simpa using ha) (h2 (by simp [spend, ha]))))⟩
    by_cases hb : n ≥ ch.length
    · refine ⟨1, br_true (by simpa using hlt) (br_true hin (br_false (by rw [hg]; simpa using ha) (br_true (by rw [hg]; simpa using hb) (h2 (by simp [spend, hb])))))⟩
    have hs : spend ch rest (n :: r) = if n < 0 then spend ch rest r else if rest.getD (kindAt ch n) 0 ≤ 0 then none else spend ch (rest.set (kindAt ch n) (rest.getD (kindAt ch n) 0 - 1)) r := by
      have : ¬ (n < -1 ∨ n ≥ ch.length) := by omega
      simp only [spend, this, if_false]
    rw [hs] at h1 h2
    by_cases hn : n < 0
    · simp only [hn, if_true] at h1 h2
      obtain ⟨k, hk⟩ := ih (i + 1) rest (drop_next hdr) h6 ho h1 h2
      refine ⟨k + 1, br_true (by simpa using hlt) (br_true hin (br_false (by rw [hg]; simpa using ha) (br_false (by rw [hg]; simpa using hb) (br_false (by rw [hg]; simp; omega) ?_))))⟩
      rw [hwi]; exact hk
    · simp only [hn, if_false] at h1 h2
      have hk := kind_lt hch (by omega : 0 ≤ n) (by omega : n < ch.length)
      have hkl : kindAt ch n < rest.length := by unfold kindAt; omega
      have hi1 : inb n (ch.length : Int) = true := inb_of (by omega) (by omega)
      have hi2 : inb (ch.getD n.toNat dc).kind 6 = true := inb_of (by omega) (by omega)
      have hv := getD_ok ho (kindAt ch n)
      have hw : IntKind.i64.wrap (rest.getD (kindAt ch n) 0 - 1) = rest.getD (kindAt ch n) 0 - 1 := wrapi (by omega) (by omega)
      by_cases hz : rest.getD (kindAt ch n) 0 ≤ 0
      · simp only [hz, if_true] at h1 h2
        refine ⟨1, br_true (by simpa using hlt) (br_true hin (br_false (by rw [hg]; simpa using ha) (br_false (by rw [hg]; simpa using hb) (br_true (by rw [hg]; simp; omega) (br_true (by rw [hg]; exact hi1) (br_true (by rw [hg]; exact hi2) (br_true (by rw [hg]; exact hi2) (br_true (by rw [hg]; exact hi1) (br_true (by rw [hg]; exact hi2) (br_true ?_ (h2 trivial)))))))))))⟩
        rw [hg]
        show (!decide ((rest.set (kindAt ch n) (IntKind.i64.wrap (rest.getD (kindAt ch n) 0 - 1))).getD (kindAt ch n) 0 ≥ 0)) = true
        rw [hw, getD_set hkl]
        simp only [if_true, Bool.not_eq_true', decide_eq_false_iff_not]; omega
      · simp only [hz, if_false] at h1 h2
        obtain ⟨k, hk1⟩ := ih (i + 1) (rest.set (kindAt ch n) (rest.getD (kindAt ch n) 0 - 1)) (drop_next hdr) (by simpa using h6) (set_ok ho (by simp only [okN, Bool.and_eq_true, decide_eq_true_eq]; omega)) h1 h2
        refine ⟨k + 1, br_true (by simpa using hlt) (br_true hin (br_false (by rw [hg]; simpa using ha) (br_false (by rw [hg]; simpa using hb) (br_true (by rw [hg]; simp; omega) (br_true (by rw [hg]; exact hi1) (br_true (by rw [hg]; exact hi2) (br_true (by rw [hg]; exact hi2) (br_true (by rw [hg]; exact hi1) (br_true (by rw [hg]; exact hi2) (br_false ?_ ?_))))))))))⟩
        · rw [hg]
          show (!decide ((rest.set (kindAt ch n) (IntKind.i64.wrap (rest.getD (kindAt ch n) 0 - 1))).getD (kindAt ch n) 0 ≥ 0)) = false
          rw [hw, getD_set hkl]
          simp only [if_true, Bool.not_eq_false', decide_eq_true_eq]; omega
        · rw [hg, hwi]
          show l_24_6 k x1 pl pl.length ((i + 1 : Nat) : Int) x5 (rest.set (kindAt ch n) (IntKind.i64.wrap (rest.getD (kindAt ch n) 0 - 1))) x7 x8 x9 ch kr k0
          rw [hw]; exact hk1

theorem valid_parts {b : Budget} (h : validB b = true) : 0 ≤ b.periods ∧ b.periods ≤ 6 ∧ b.choices.length ≤ 8 ∧ b.left.all okN = true ∧ b.choices.all okC = true := by
  simp only [validB, Bool.and_eq_true, decide_eq_true_eq] at h
  obtain ⟨⟨⟨⟨⟨⟨⟨h1, h2⟩, _⟩, _⟩, _⟩, h6⟩, h7⟩, h8⟩ := h
  exact ⟨h1, h2, h6, h7, h8⟩

theorem V24_spec {b : Budget} {p : List Int} {K : List Int × Bool → Prop} (h6 : b.left.length = 6) (h : K (leftOf b p)) : V24 b p K := by
  rw [V24_eq]; unfold B24
  refine V13_spec h6 ?_
  refine br_of (fun e => ?_) (fun e => br_of (fun e2 => ?_) (fun e2 => ?_))
  · have e : validB b = false := by simpa using e
    have : leftOf b p = ([0, 0, 0, 0, 0, 0], false) := by simp [leftOf, e]
    rwa [this] at h
  · have e2 : ¬ (p.length : Int) ≤ b.periods := by simpa using e2
    have : leftOf b p = ([0, 0, 0, 0, 0, 0], false) := by simp [leftOf, e2]
    rwa [this] at h
  · have e : validB b = true := by simpa using e
    have e2 : (p.length : Int) ≤ b.periods := by simpa using e2
    obtain ⟨h1, h2, h3, h4, h5⟩ := valid_parts e
    have hl : leftOf b p = match spend b.choices b.left p with
      | some o => (o, true)
      | none => ([0, 0, 0, 0, 0, 0], false) := by simp only [leftOf, e, e2, and_self, if_true]
    rw [hl] at h
    refine l24_spec (by omega) h5 p 0 b.left rfl h6 h4 (fun o ho => ?_) (fun ho => ?_)
    · rw [ho] at h; exact h
    · rw [ho] at h; exact h

theorem V12_spec {b : Budget} {p : List Int} {K : Bool → Prop} (h6 : b.left.length = 6) (h : K (fitsB b p)) : V12 b p K := by
  rw [V12_eq]; unfold B12
  exact V24_spec h6 h

/-! ### What may be chosen -/
def pick (rest : List Int) : List Change → Nat → List Int
  | [], _ => []
  | c :: r, i => if rest.getD c.kind.toNat 0 > 0 then (i : Int) :: pick rest r (i + 1) else pick rest r (i + 1)
noncomputable def choicesOf (b : Budget) (p : List Int) : List Int :=
  if (leftOf b p).2 = true ∧ (p.length : Int) < b.periods then -1 :: pick (leftOf b p).1 b.choices 0 else []

theorem pick_len {rest : List Int} : ∀ (r : List Change) (i : Nat), (pick rest r i).length ≤ r.length
  | [], _ => by simp [pick]
  | c :: r, i => by
    have := pick_len (rest := rest) r (i + 1)
    simp only [pick]
    split <;> simp <;> omega

theorem l11_spec {ch : List Change} {rest : List Int} {k0 : List Int → Prop} (hl8 : ch.length ≤ 100000) (hch : ch.all okC = true) :
    ∀ (r : List Change) (i : Nat) (out : List Int), ch.drop i = r → out.length ≤ i + 1 → k0 (out ++ pick rest r i) → ∃ k, l_11_8 k ch ch.length i rest out k0 := by
  intro r
  induction r with
  | nil =>
    intro i out hdr _ h
    have : ch.length ≤ i := by simpa using hdr
    have h : k0 out := by simpa [pick] using h
    exact ⟨1, br_false (by simp; omega) h⟩
  | cons c r ih =>
    intro i out hdr ho h
    have hlt := lt_drop hdr
    have hg : ch.getD (i : Int).toNat (env.d 60) = c := getD_drop (by simpa using hdr)
    have hwi : IntKind.i64.wrap ((i : Int) + 1) = ((i + 1 : Nat) : Int) := by rw [wrapi (by omega) (by omega)]; rfl
    have hin : inb (i : Int) (ch.length : Int) = true := inb_of (by omega) (by omega)
    have hc := List.all_eq_true.1 hch _ (mem_drop hdr)
    simp only [okC, Bool.and_eq_true, decide_eq_true_eq] at hc
    have hi2 : inb c.kind 6 = true := inb_of (by omega) (by omega)
    by_cases hp : rest.getD c.kind.toNat 0 > 0
    · obtain ⟨k, hk⟩ := ih (i + 1) (out ++ [(i : Int)]) (drop_next hdr) (by simp; omega) (by simp only [pick, hp, if_true] at h; simpa using h)
      refine ⟨k + 1, br_true (by simpa using hlt) (br_true hin (br_true (by rw [hg]; exact hi2) (br_true (by rw [hg]; simpa using hp) (br_true (room3 (by simp; omega)) ?_))))⟩
      rw [hwi]; exact hk
    · obtain ⟨k, hk⟩ := ih (i + 1) out (drop_next hdr) (by omega) (by simp only [pick, hp, if_false] at h; exact h)
      refine ⟨k + 1, br_true (by simpa using hlt) (br_true hin (br_true (by rw [hg]; exact hi2) (br_false (by rw [hg]; simpa using hp) ?_)))⟩
      rw [hwi]; exact hk

theorem pick_zero : ∀ (r : List Change) (i : Nat), pick (List.replicate 6 0) r i = []
  | [], _ => rfl
  | c :: r, i => by
    have : ¬ (List.replicate 6 (0 : Int)).getD c.kind.toNat 0 > 0 := by
      rw [List.getD_eq_getElem?_getD, List.getElem?_replicate]
      split <;> simp
    simp only [pick, this, if_false]
    exact pick_zero r (i + 1)

theorem left_parts {b : Budget} {p : List Int} (h : (leftOf b p).2 = true) : validB b = true ∧ (p.length : Int) ≤ b.periods ∧ spend b.choices b.left p = some (leftOf b p).1 := by
  unfold leftOf at h ⊢
  split at h
  · rename_i hc
    rw [if_pos hc]
    split at h
    · rename_i o ho
      exact ⟨hc.1, hc.2, by rw [ho]⟩
    · cases h
  · cases h

theorem V11_spec {b : Budget} {p : List Int} {K : List Int → Prop} (h6 : b.left.length = 6) (h : K (choicesOf b p)) : V11 b p K := by
  rw [V11_eq]; unfold B11
  refine V24_spec h6 ?_
  refine br_of (fun e => ?_) (fun e => br_of (fun e2 => ?_) (fun e2 => ?_))
  · have e : (leftOf b p).2 = false := by simpa using e
    have : choicesOf b p = [] := by simp [choicesOf, e]
    rwa [this] at h
  · have e2 : ¬ (p.length : Int) < b.periods := by simp at e2; omega
    have : choicesOf b p = [] := by simp [choicesOf, e2]
    rwa [this] at h
  · have e : (leftOf b p).2 = true := by simpa using e
    have e2 : (p.length : Int) < b.periods := by simp at e2; omega
    have hc : choicesOf b p = -1 :: pick (leftOf b p).1 b.choices 0 := by simp [choicesOf, e, e2]
    rw [hc] at h
    obtain ⟨hv, _, _⟩ := left_parts e
    obtain ⟨_, _, h3, _, h5⟩ := valid_parts hv
    refine br_of (fun ez => ?_) (fun _ => ?_)
    · have ez : (leftOf b p).1 = List.replicate 6 0 := by simpa using ez
      rw [ez, pick_zero] at h
      exact h
    · exact l11_spec (by omega) h5 b.choices 0 [-1] rfl (by simp) h

/-! ### What is used -/
noncomputable def cnt (ch : List Change) (kind : Int) : List Int → Nat
  | [] => 0
  | n :: p => (if 0 ≤ n ∧ (ch.getD n.toNat dc).kind = kind then 1 else 0) + cnt ch kind p
def inR (m : Nat) (n : Int) : Bool := decide (-1 ≤ n) && decide (n < m)
theorem cnt_le {ch : List Change} {kind : Int} : ∀ p : List Int, cnt ch kind p ≤ p.length
  | [] => by simp [cnt]
  | n :: p => by
    have := cnt_le (ch := ch) (kind := kind) p
    simp only [cnt, List.length_cons]
    split <;> omega

theorem l14_spec {p : List Int} {kind x3 x6 x7 : Int} {x8 : List Int} {ch : List Change} {kr : Int → Prop} {k0 : Int → Int → Prop} (hp : p.length ≤ 1000000)  (h2 : p.all (inR ch.length) = false → kr (-1)) :
    ∀ (r : List Int) (i : Nat) (a : Nat), p.drop i = r → a ≤ i → (r.all (inR ch.length) = true → k0 x3 ((a + cnt ch kind r : Nat) : Int)) → ∃ k, l_14_3 k p kind x3 a i x6 x7 x8 ch kr k0 := by
  intro r
  induction r with
  | nil =>
    intro i a hdr _ h
    have : p.length ≤ i := by simpa using hdr
    exact ⟨1, br_false (by simp; omega) (h rfl)⟩
  | cons n r ih =>
    intro i a hdr ha h
    have hlt := lt_drop hdr
    have hg : p.getD (i : Int).toNat (env.d 3) = n := getD_drop (by simpa using hdr)
    have hwi : IntKind.i64.wrap ((i : Int) + 1) = ((i + 1 : Nat) : Int) := by rw [wrapi (by omega) (by omega)]; rfl
    have hwa : IntKind.i64.wrap ((a : Int) + 1) = ((a + 1 : Nat) : Int) := by rw [wrapi (by omega) (by omega)]; rfl
    have hin : inb (i : Int) (p.length : Int) = true := inb_of (by omega) (by omega)
    have bad : inR ch.length n = false → kr (-1) := fun hb => h2 (by
      rw [List.all_eq_false]
      exact ⟨n, mem_drop hdr, by simp [hb]⟩)
    by_cases h1 : n < -1
    · exact ⟨1, br_true (by simpa using hlt) (br_true hin (br_true (by rw [hg]; simpa using h1) (bad (by have : decide (-1 ≤ n) = false := decide_eq_false (by omega); simp [inR, this]))))⟩
    by_cases h3 : n ≥ ch.length
    · exact ⟨1, br_true (by simpa using hlt) (br_true hin (br_false (by rw [hg]; simpa using h1) (br_true hin (br_true (by rw [hg]; simpa using h3) (bad (by have : decide (n < ch.length) = false := decide_eq_false (by omega); simp [inR, this]))))))⟩
    have hok : inR ch.length n = true := by simp [inR]; omega
    have go : ∀ a' : Nat, a' ≤ i + 1 → (r.all (inR ch.length) = true → k0 x3 ((a' + cnt ch kind r : Nat) : Int)) → ∃ k, l_14_3 k p kind x3 a' (i + 1 : Nat) x6 x7 x8 ch kr k0 := fun a' h1 h2 => ih (i + 1) a' (drop_next hdr) h1 h2
    by_cases hn : 0 ≤ n ∧ (ch.getD n.toNat dc).kind = kind
    · obtain ⟨k, hk⟩ := go (a + 1) (by omega) (fun hr => by
        have := h (by simp only [List.all_cons, hok, hr, Bool.and_true])
        simp only [cnt, hn, and_self, if_true] at this
        rw [show a + 1 + cnt ch kind r = a + (1 + cnt ch kind r) by omega]; exact this)
      refine ⟨k + 1, br_true (by simpa using hlt) (br_true hin (br_false (by rw [hg]; simpa using h1) (br_true hin (br_false (by rw [hg]; simpa using h3) (br_true hin (br_true (by rw [hg]; simpa using hn.1) (br_true hin (br_true (by rw [hg]; exact inb_of (by omega) (by omega)) (br_true ?_ ?_)))))))))⟩
      · rw [hg]; exact beq_iff_eq.2 hn.2
      · show l_14_3 k p kind x3 (IntKind.i64.wrap ((a : Int) + 1)) (IntKind.i64.wrap ((i : Int) + 1)) x6 x7 x8 ch kr k0
        rw [hwa, hwi]; exact hk
    · obtain ⟨k, hk⟩ := go a (by omega) (fun hr => by
        have := h (by simp only [List.all_cons, hok, hr, Bool.and_true])
        simpa only [cnt, hn, if_false, Nat.zero_add] using this)
      refine ⟨k + 1, br_true (by simpa using hlt) (br_true hin (br_false (by rw [hg]; simpa using h1) (br_true hin (br_false (by rw [hg]; simpa using h3) (br_true hin (br_of (fun e => br_true hin (br_true ?_ (br_false ?_ ?_))) (fun _ => ?_)))))))⟩
      · rw [hg] at e ⊢; simp at e; exact inb_of (by omega) (by omega)
      · rw [hg] at e ⊢; simp only [decide_eq_true_eq] at e
        have : ¬ (ch.getD n.toNat dc).kind = kind := fun h => hn ⟨e, h⟩
        exact beq_eq_false_iff_ne.2 this
      · show l_14_3 k p kind x3 a (IntKind.i64.wrap ((i : Int) + 1)) x6 x7 x8 ch kr k0
        rw [hwi]; exact hk
      · show l_14_3 k p kind x3 a (IntKind.i64.wrap ((i : Int) + 1)) x6 x7 x8 ch kr k0
        rw [hwi]; exact hk

theorem V14_spec {b : Budget} {p : List Int} {kind : Int} {K : Int → Prop} (hp : p.length ≤ 1000000) (h1 : p.all (inR b.choices.length) = true → K (cnt b.choices kind p)) (h2 : p.all (inR b.choices.length) = false → K (-1)) : V14 b p kind K := by
  rw [V14_eq]; unfold B14
  exact l14_spec hp h2 p 0 0 rfl (by omega) (fun h => by rw [Nat.zero_add]; exact h1 h)

theorem V10_spec {b : Budget} {p : List Int} {K : Bool → Prop} (h1 : ∀ x, (x = true → p.length ≤ 20 ∧ b.choices.length ≤ 20) → K x) : V10 b p K := by
  rw [V10_eq]; unfold B10
  refine br_of (fun e => h1 _ (fun e2 => ?_)) (fun _ => h1 _ (by simp))
  simp at e e2; omega

theorem l22_spec {x y : List Int} {x3 : Bool} {kr : Bool → Prop} {k0 : Bool → Prop} (hx : x.length ≤ 1000000) (hl : x.length = y.length) (h0 : x = y → k0 x3) (h2 : x ≠ y → kr false) :
    ∀ (r : List Int) (i : Nat), x.drop i = r → x.take i = y.take i → ∃ k, l_22_4 k x y x3 i kr k0 := by
  intro r
  induction r with
  | nil =>
    intro i hdr ht
    have : x.length ≤ i := by simpa using hdr
    rw [List.take_of_length_le this, List.take_of_length_le (by omega)] at ht
    exact ⟨1, br_false (by simp; omega) (h0 ht)⟩
  | cons n r ih =>
    intro i hdr ht
    have hlt := lt_drop hdr
    have hg : x.getD (i : Int).toNat (env.d 3) = n := getD_drop (by simpa using hdr)
    have hwi : IntKind.i64.wrap ((i : Int) + 1) = ((i + 1 : Nat) : Int) := by rw [wrapi (by omega) (by omega)]; rfl
    have hin : inb (i : Int) (x.length : Int) = true := inb_of (by omega) (by omega)
    have hin2 : inb (i : Int) (y.length : Int) = true := inb_of (by omega) (by omega)
    obtain ⟨m, r2, hy⟩ : ∃ m r2, y.drop i = m :: r2 := by
      cases hd : y.drop i with
      | nil => have : y.length ≤ i := by simpa using hd
               omega
      | cons m r2 => exact ⟨m, r2, rfl⟩
    have hg2 : y.getD (i : Int).toNat (env.d 3) = m := getD_drop (by simpa using hy)
    by_cases hnm : n = m
    · obtain ⟨k, hk⟩ := ih (i + 1) (drop_next hdr) (by rw [take_next hdr, take_next hy, ht, hnm])
      refine ⟨k + 1, br_true (by simpa using hlt) (br_true hin (br_true hin2 (br_false (by rw [hg, hg2, hnm]; exact bne_self_eq_false m) ?_)))⟩
      rw [hwi]; exact hk
    · refine ⟨1, br_true (by simpa using hlt) (br_true hin (br_true hin2 (br_true (by rw [hg, hg2]; exact bne_iff_ne.2 hnm) (h2 (fun e => ?_)))))⟩
      rw [e, hy] at hdr
      cases hdr
      exact hnm rfl

theorem V22_spec {x y : List Int} {K : Bool → Prop} (hx : x.length ≤ 1000000) (h : K (decide (x = y))) : V22 x y K := by
  rw [V22_eq]; unfold B22
  refine br_of (fun e => ?_) (fun e => ?_)
  · have : ¬ x = y := by
      intro h
      rw [h] at e
      simp at e
    rwa [decide_eq_false this] at h
  · have hl : x.length = y.length := by
      have e : ((x.length : Int) == y.length) = true := by simpa [bne] using e
      have := beq_iff_eq.1 e
      omega
    exact l22_spec hx hl (fun e => by rwa [decide_eq_true e] at h) (fun e => by rwa [decide_eq_false e] at h) x 0 rfl rfl
end Go.Vg.YthmmgoebdcegmaaGreatDoor
