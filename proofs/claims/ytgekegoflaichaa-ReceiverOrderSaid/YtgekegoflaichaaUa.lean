/-
  What the walked functions of chapter 30 come to (1): validity, search, insertion, what is handed over. Own work; no condition.
-/
import Derived.Test.YtgekegoflaichaaTb
namespace Go.Vg.Ytgekegoflaichaa
open Go.Vg Go.Proofs

theorem wrapi {n : Int} (h1 : -9223372036854775808 ≤ n) (h2 : n ≤ 9223372036854775807) : IntKind.i64.wrap n = n := by
  simp only [IntKind.wrap, IntKind.signed, IntKind.bits, show (2 : Int) ^ 64 = 18446744073709551616 from rfl, show (2 : Int) ^ (64 - 1) = 9223372036854775808 from rfl, Bool.true_and, decide_eq_true_eq]
  split <;> omega
theorem wrapu {n : Int} (h1 : 0 ≤ n) (h2 : n ≤ 9223372036854775807) : IntKind.u64.wrap n = n := by
  simp only [IntKind.wrap, IntKind.signed, IntKind.bits, show (2 : Int) ^ 64 = 18446744073709551616 from rfl, Bool.false_and, Bool.false_eq_true, if_false]
  omega
theorem inb_of {i n : Int} (h1 : 0 ≤ i) (h2 : i < n) : inb i n = true := by simp [inb, h1, h2]
theorem br_of {b : Bool} {A B : Prop} (h1 : b = true → A) (h2 : b = false → B) : br b A B := by cases b <;> simp_all [br]
theorem br_t {A B : Prop} (h : A) : br true A B := h
theorem br_f {A B : Prop} (h : B) : br false A B := h
theorem br_true {b : Bool} {A B : Prop} (hb : b = true) (h : A) : br b A B := by rw [hb]; exact h
theorem br_false {b : Bool} {A B : Prop} (hb : b = false) (h : B) : br b A B := by rw [hb]; exact h
theorem room3 {n : Nat} (h : n ≤ 1000000) : roomB n (bytesB env 3) = true := by
  have e : bytesB env 3 = 8 := by kernel_rfl
  have h1 : decide (n * 8 ≤ 140737488355328) = true := decide_eq_true (by omega)
  have h2 : decide (n ≤ 140737488355328) = true := decide_eq_true (by omega)
  unfold roomB
  rw [e, h1, h2]
  rfl

/-- A number is in a range. -/
def inS (n low high : Int) : Bool := decide (low ≤ n) && decide (n ≤ high)
theorem V67_spec {n low high : Int} {K : Bool → Prop} (h : K (inS n low high)) : V67 n low high K := by
  rw [V67_eq]; unfold B67
  unfold inS at h
  refine br_of (fun h1 => ?_) (fun h1 => ?_)
  · have : decide (low ≤ n) = true := by simpa using h1
    rw [this] at h; exact h
  · have : decide (low ≤ n) = false := by simpa using h1
    rw [this] at h; exact h

def isPacketS (p : Packet) : Bool := inS p.flow 0 7 && inS p.sub 0 3 && inS p.number 0 1000000000 && inS p.data 0 1000000000 && inS p.size 1 10000 && inS p.sent 0 10000000
theorem V61_spec {p : Packet} {K : Bool → Prop} (h : K (isPacketS p)) : V61 p K := by
  rw [V61_eq]; unfold B61
  unfold isPacketS at h
  repeat (refine V67_spec ?_; refine br_of (fun e => ?_) (fun e => ?_) <;> simp only [e, Bool.true_and, Bool.false_and] at h <;> try exact h)
  exact V67_spec h

theorem getD_drop {α : Type} {l : List α} {i : Nat} {x : α} {r : List α} {d : α} (h : l.drop i = x :: r) : l.getD i d = x := by
  have := congrArg (fun l => l[0]?) h
  simp at this
  simp [this]
theorem getD_lt {α : Type} {l : List α} {i : Nat} {d : α} (h : i < l.length) : l.getD i d = l[i] := by simp [h]
theorem lt_drop {α : Type} {l : List α} {i : Nat} {x : α} {r : List α} (h : l.drop i = x :: r) : i < l.length := by
  rcases Nat.lt_or_ge i l.length with h' | h'
  · exact h'
  · rw [List.drop_eq_nil_of_le h'] at h; cases h
theorem drop_next {α : Type} {l : List α} {i : Nat} {x : α} {r : List α} (h : l.drop i = x :: r) : l.drop (i + 1) = r := by
  rw [← List.tail_drop, h]; rfl

/-- Numbers that increase, from above 'lo' on, below 'hi'. -/
def chain (lo hi : Int) : List Int → Bool
  | [] => true
  | x :: r => decide (lo < x) && decide (x < hi) && chain x hi r
def hiS (next w : Int) : Int := if 1000000000 < next + w then 1000000000 else next + w
def validS (r : Receiver) (w : Int) : Bool := inS w 1 1000 && inS r.next_ 0 1000000000 && chain r.next_ (hiS r.next_ w) r.have_

theorem l39_spec {l : List Int} (hl : l.length ≤ 1000000) {next w : Int} (hn : 0 ≤ next ∧ next ≤ 1000000000) (hw : 1 ≤ w ∧ w ≤ 1000) {x2 : Int} {x5 : List Int} {x6 : Bool} {x7 : List Int} {x8 : Bool} {x9 : List Int} {x12 : List Int}
    {kr k0 : Int → (List Int) → Bool → (List Int) → Bool → (List Int) → Int → Int → (List Int) → Int → Prop} :
    ∀ (d : List Int) (i : Nat) (last : Int), l.drop i = d → 0 ≤ last → last ≤ 1000000000 → (chain last (hiS next w) d = true → ∀ a b c d e f g h i j, k0 a b c d e f g h i j) → (chain last (hiS next w) d = false → ∀ (a : Nat) b c d e f g h i j, kr a b c d e f g h i j) →
    ∃ k, l_39x76_2 k l x2 l.length i x5 x6 x7 x8 x9 last next x12 w kr k0 := by
  intro d
  induction d with
  | nil =>
    intro i last hd _ _ h1 _
    have : l.length ≤ i := by simpa using hd
    exact ⟨1, br_false (by simp; omega) (h1 rfl _ _ _ _ _ _ _ _ _ _)⟩
  | cons x r ih =>
    intro i last hd hl1 hl2 h1 h2
    have hlt := lt_drop hd
    have hg : l.getD (i : Int).toNat (env.d 3) = x := getD_drop (by simpa using hd)
    have hwi : IntKind.i64.wrap ((i : Int) + 1) = ((i + 1 : Nat) : Int) := by rw [wrapi (by omega) (by omega)]; rfl
    have e1 : IntKind.i64.wrap (last + 1) = last + 1 := wrapi (by omega) (by omega)
    have e2 : IntKind.i64.wrap (next + w) = next + w := wrapi (by omega) (by omega)
    have hh : hiS next w ≤ 1000000000 ∧ 0 ≤ hiS next w := by unfold hiS; split <;> omega
    have e3 : IntKind.i64.wrap ((if 1000000000 < next + w then 1000000000 else next + w) - 1) = hiS next w - 1 := wrapi (by have := hh.2; unfold hiS at this; omega) (by have := hh.1; unfold hiS at this; omega)
    have step : ∀ k, (inS x (last + 1) (hiS next w - 1) = true → l_39x76_2 k l x2 l.length (i + 1 : Nat) x5 x6 x7 x8 x9 x next x12 w kr k0) → l_39x76_2 (k + 1) l x2 l.length i x5 x6 x7 x8 x9 last next x12 w kr k0 := by
      intro k hk
      refine br_true (by simpa using hlt) (br_true (inb_of (by omega) (by omega)) ?_)
      rw [hg, e1, e2, e3]
      refine V67_spec (br_of (fun e => ?_) (fun e => ?_))
      · refine h2 ?_ _ _ _ _ _ _ _ _ _ _
        have e : inS x (last + 1) (hiS next w - 1) = false := by simpa using e
        simp only [inS, Bool.and_eq_false_iff, decide_eq_false_iff_not] at e
        simp only [chain, Bool.and_eq_false_iff, decide_eq_false_iff_not]
        omega
      · have e : inS x (last + 1) (hiS next w - 1) = true := by simpa using e
        rw [hwi]
        exact hk e
    by_cases hx : inS x (last + 1) (hiS next w - 1) = true
    · have hx2 := hx
      simp only [inS, Bool.and_eq_true, decide_eq_true_eq] at hx
      have hc : chain last (hiS next w) (x :: r) = chain x (hiS next w) r := by
        have a1 : decide (last < x) = true := by simp; omega
        have a2 : decide (x < hiS next w) = true := by simp; omega
        simp [chain, a1, a2]
      obtain ⟨k, hk⟩ := ih (i + 1) x (drop_next hd) (by omega) (by omega) (fun h => h1 (hc.trans h)) (fun h => h2 (hc.trans h))
      exact ⟨k + 1, step k fun _ => hk⟩
    · exact ⟨1, step 0 fun h => absurd h hx⟩

theorem V39_spec {r : Receiver} {w : Int} (hl : r.have_.length ≤ 1000000) {K : Bool → Prop} (h : K (validS r w)) : V39 r w K := by
  rw [V39_eq]; unfold B39
  unfold validS at h
  refine V67_spec (br_of (fun e => ?_) (fun e => ?_))
  · have e : inS w 1 1000 = false := by simpa using e
    rw [e] at h; exact h
  · have e : inS w 1 1000 = true := by simpa using e
    rw [e] at h
    refine V67_spec (br_of (fun e' => ?_) (fun e' => ?_))
    · have e' : inS r.next_ 0 1000000000 = false := by simpa using e'
      rw [e'] at h; exact h
    · have e' : inS r.next_ 0 1000000000 = true := by simpa using e'
      rw [e'] at h
      simp only [inS, Bool.and_eq_true, decide_eq_true_eq] at e e'
      refine l39_spec hl e' e r.have_ 0 r.next_ rfl e'.1 e'.2 (fun hc _ _ _ _ _ _ _ _ _ _ => ?_) (fun hc a _ _ _ _ _ _ _ _ _ => ?_)
      · rw [hc] at h; exact h
      · rw [hc] at h
        have : decide ((a : Int) ≥ 0) = true := by simp
        rw [this]; exact h

theorem V72_spec {x y : Int} {K : Bool → Prop} (h : K (decide (x < y))) : V72 x y K := by
  rw [V72_eq]; unfold B72; rw [V77_eq]; unfold B77
  exact br_false (by simp) h

theorem l62_spec {l : List Int} (hl : l.length ≤ 1000000) (hs : l.Pairwise (· < ·)) {t : Int} {x3 : Int} {x4 : Bool} {x5 : Int} {k0 : List Int → Int → Int → Bool → Int → Int → Prop} (h : ∀ i : Nat, i ≤ l.length → (∀ x ∈ l.take i, x < t) → (∀ x ∈ l.drop i, t ≤ x) → k0 l t x3 x4 x5 i) :
    ∀ (n i j : Nat), j - i ≤ n → i ≤ j → j ≤ l.length → (∀ x ∈ l.take i, x < t) → (∀ x ∈ l.drop j, t ≤ x) → ∃ k, l_62_3 k l t x3 x4 x5 i j k0 := by
  intro n
  induction n with
  | zero =>
    intro i j hn hij hj h1 h2
    have : i = j := by omega
    subst this
    exact ⟨1, br_false (by simp) (h i hj h1 h2)⟩
  | succ n ih =>
    intro i j hn hij hj h1 h2
    rcases Nat.lt_or_ge i j with hlt | hge
    · have hm : IntKind.i64.wrap ((IntKind.u64.wrap (IntKind.i64.wrap ((i : Int) + (j : Int)))).fdiv (2 ^ min 1 IntKind.u64.bits)) = ((i + j) / 2 : Nat) := by
        rw [wrapi (n := (i : Int) + j) (by omega) (by omega), wrapu (by omega) (by omega)]
        have : (2 : Int) ^ min 1 IntKind.u64.bits = 2 := rfl
        rw [this, Int.fdiv_eq_ediv_of_nonneg _ (by omega)]
        rw [wrapi (by omega) (by omega)]
        omega
      have hmi : i ≤ (i + j) / 2 ∧ (i + j) / 2 < j := by omega
      generalize hmm : (i + j) / 2 = m at hm hmi
      have hml : m < l.length := by omega
      have hg : l.getD (m : Int).toNat (env.d 3) = l[m] := getD_lt hml
      have hw1 : IntKind.i64.wrap ((m : Int) + 1) = ((m + 1 : Nat) : Int) := by rw [wrapi (by omega) (by omega)]; rfl
      have step : ∀ k, (l[m] < t → l_62_3 k l t x3 x4 x5 (m + 1 : Nat) j k0) → (¬ l[m] < t → l_62_3 k l t x3 x4 x5 i m k0) → l_62_3 (k + 1) l t x3 x4 x5 i j k0 := by
        intro k a b
        refine br_true (by simpa using hlt) ?_
        rw [hm, hg, hw1]
        refine br_true (inb_of (by omega) (by omega)) (V72_spec (br_of (fun e => ?_) (fun e => ?_)))
        · exact a (by simpa using e)
        · exact b (by simpa using e)
      rw [List.pairwise_iff_getElem] at hs
      by_cases hc : l[m] < t
      · obtain ⟨k, hk⟩ := ih (m + 1) j (by omega) (by omega) hj (fun x hx => by
          obtain ⟨q, hq, rfl⟩ := List.mem_take_iff_getElem.1 hx
          have : q ≤ m := by omega
          rcases Nat.lt_or_ge q m with hqm | hqm
          · have := hs q m (by omega) hml hqm; omega
          · have : q = m := by omega
            subst this; exact hc) h2
        exact ⟨k + 1, step k (fun _ => hk) (fun h => absurd hc h)⟩
      · obtain ⟨k, hk⟩ := ih i m (by omega) (by omega) (by omega) h1 (fun x hx => by
          obtain ⟨q, hq, rfl⟩ := List.mem_drop_iff_getElem.1 hx
          rcases Nat.eq_zero_or_pos q with h0 | h0
          · subst h0; simp only [Nat.add_zero]; omega
          · have := hs m (m + q) hml (by omega) (by omega); omega)
        exact ⟨k + 1, step k (fun h => absurd h hc) (fun _ => hk)⟩
    · have : i = j := by omega
      subst this
      exact ⟨1, br_false (by simp) (h i hj h1 h2)⟩

theorem V62_spec {l : List Int} (hl : l.length ≤ 1000000) (hs : l.Pairwise (· < ·)) {t : Int} {K : Int × Bool → Prop}
    (h : ∀ i : Nat, i ≤ l.length → (∀ x ∈ l.take i, x < t) → (∀ x ∈ l.drop i, t ≤ x) → K ((i : Int), decide (t ∈ l))) : V62 l t K := by
  rw [V62_eq]; unfold B62
  refine l62_spec hl hs (fun i hi h1 h2 => ?_) l.length 0 l.length (by omega) (by omega) (Nat.le_refl _) (by simp) (by simp)
  have h := h i hi h1 h2
  have nin : ∀ q, q < i → ∀ hq : q < l.length, l[q] ≠ t := fun q hq hql e => by
    have := h1 (l[q]) (List.mem_take_iff_getElem.2 ⟨q, by omega, rfl⟩); omega
  rcases Nat.lt_or_ge i l.length with hil | hil
  · have hg : l.getD (i : Int).toNat (env.d 3) = l[i] := getD_lt hil
    refine br_true (by simpa using hil) (br_true (inb_of (by omega) (by omega)) ?_)
    rw [hg]
    refine br_of (fun e => ?_) (fun e => br_true (inb_of (by omega) (by omega)) ?_)
    · have e : l[i] = t := by simpa using e
      have : decide (t ∈ l) = true := by simp; rw [← e]; exact List.getElem_mem hil
      rw [this] at h; exact h
    · have e : l[i] ≠ t := by simpa using e
      have : decide (t ∈ l) = false := by
        simp only [decide_eq_false_iff_not]
        intro hm
        obtain ⟨q, hq, hqe⟩ := List.getElem_of_mem hm
        rcases Nat.lt_or_ge q i with h3 | h3
        · exact nin q h3 hq hqe
        · rcases Nat.eq_or_lt_of_le h3 with h4 | h4
          · subst h4; exact e hqe
          · have a1 := (List.pairwise_iff_getElem.1 hs) i q hil hq h4
            have a2 := h2 (l[i]) (List.mem_drop_iff_getElem.2 ⟨0, by omega, by simp⟩)
            omega
      rw [this] at h
      rw [V73_eq]; unfold B73
      exact br_false (by simp) h
  · have : decide (t ∈ l) = false := by
      simp only [decide_eq_false_iff_not]
      intro hm
      obtain ⟨q, hq, hqe⟩ := List.getElem_of_mem hm
      exact nin q (by omega) hq hqe
    rw [this] at h
    exact br_false (by simp; omega) h

theorem V63_spec {l : List Int} (hl : l.length ≤ 1000000) {K : List Int → Prop} (h : K l) : V63 l K := by
  rw [V63_eq]; unfold B63
  intro b hb
  refine br_of (fun e => ?_) (fun _ => br_true (room3 (by simpa using hl)) h)
  have : l = [] := List.length_eq_zero_iff.1 (hb e)
  rw [this] at h; exact h

/-- What follows without a gap. -/
def adv : Int → List Int → Int × List Int
  | n, [] => (n, [])
  | n, x :: r => if x = n then adv (n + 1) r else (n, x :: r)

theorem l64_spec {x3 : Int} {k0 : Int → List Int → Int → Prop} : ∀ (l : List Int) (n : Int), l.length ≤ 1000000 → 0 ≤ n → n + l.length ≤ 3000000000 → k0 (adv n l).1 (adv n l).2 x3 → ∃ k, l_64_2 k n l x3 k0 := by
  intro l
  induction l with
  | nil =>
    intro n _ _ _ h
    exact ⟨1, h⟩
  | cons x r ih =>
    intro n hl hn hb h
    simp only [List.length_cons] at hl hb
    have hw : IntKind.i64.wrap (n + 1) = n + 1 := wrapi (by omega) (by omega)
    have hcut : cutL (x :: r) (((some 1 : Option Int)).getD 0) ((none : Option Int).getD (((x :: r).length : Nat) : Int)) = r := by
      simp [cutL]
    have hok : cutOk (some 1) none (x :: r).length = true := by
      have : leb 1 (((x :: r).length : Nat) : Int) = true := by simp only [leb, List.length_cons, decide_eq_true_eq]; omega
      show andb true (leb 1 (((x :: r).length : Nat) : Int)) = true
      rw [this]; rfl
    have hg0 : (x :: r).getD 0 (env.d 3) = x := rfl
    have hin : inb 0 (((x :: r).length : Nat) : Int) = true := inb_of (by omega) (by simp only [List.length_cons]; omega)
    have hpos : decide ((((x :: r).length : Nat) : Int) > 0) = true := by simp
    by_cases hx : x = n
    · have h' : k0 (adv (n + 1) r).1 (adv (n + 1) r).2 x3 := by simpa [adv, hx] using h
      obtain ⟨k, hk⟩ := ih (n + 1) (by omega) (by omega) (by omega) h'
      refine ⟨k + 1, br_true hpos (br_true hin (br_false (by rw [hg0]; simp [hx]) (br_true hok ?_)))⟩
      rw [hcut, hw]; exact hk
    · have h' : k0 n (x :: r) x3 := by simpa [adv, hx] using h
      exact ⟨1, br_true hpos (br_true hin (br_true (by rw [hg0]; simpa using hx) h'))⟩

theorem V64_spec {r : Receiver} (hl : r.have_.length ≤ 1000000) (h0 : 0 ≤ r.next_) (h1 : r.next_ ≤ 1000000000) {K : Receiver → Prop} (h : K ⟨(adv (r.next_ + 1) r.have_).1, (adv (r.next_ + 1) r.have_).2⟩) : V64 r K := by
  rw [V64_eq]; unfold B64
  have hw : IntKind.i64.wrap (r.next_ + 1) = r.next_ + 1 := wrapi (by omega) (by omega)
  rw [hw]
  exact l64_spec r.have_ (r.next_ + 1) hl (by omega) (by omega) h

/-- Sorted insertion. -/
def ins (t : Int) : List Int → List Int
  | [] => [t]
  | x :: r => if x < t then x :: ins t r else t :: x :: r
theorem ins_eq {t : Int} : ∀ {l : List Int} {i : Nat}, i ≤ l.length → (∀ x ∈ l.take i, x < t) → (∀ x ∈ l.drop i, t ≤ x) → l.take i ++ [t] ++ l.drop i = ins t l
  | [], i, hi, _, _ => by simp at hi; subst hi; rfl
  | x :: r, 0, _, _, h2 => by
    have := h2 x (by simp)
    simp [ins, show ¬ x < t by omega]
  | x :: r, i + 1, hi, h1, h2 => by
    have hx := h1 x (by simp)
    have := ins_eq (l := r) (i := i) (by simpa using hi) (fun y hy => h1 y (by simp [hy])) (fun y hy => h2 y (by simpa using hy))
    simp [ins, hx, ← this]

theorem chain_pair {lo hi : Int} : ∀ {l : List Int}, chain lo hi l = true → l.Pairwise (· < ·) ∧ (∀ x ∈ l, lo < x ∧ x < hi)
  | [], _ => ⟨.nil, fun _ h => by cases h⟩
  | x :: r, h => by
    simp only [chain, Bool.and_eq_true, decide_eq_true_eq] at h
    obtain ⟨h1, h2⟩ := chain_pair h.2
    refine ⟨.cons (fun y hy => (h2 y hy).1) h1, fun y hy => ?_⟩
    rcases List.mem_cons.1 hy with rfl | hy
    · exact h.1
    · have := h2 y hy; omega

def ack0 : Ack := Ack.mk 0 0 0 0 false
def ackS (p : Packet) (n : Int) : Ack := Ack.mk p.sub p.number n p.sent p.marked
/-- What a receiver is after a packet. -/
def recvS (r : Receiver) (w : Int) (p : Packet) : Receiver × Ack × Bool × Int :=
  if validS r w = false then (⟨0, []⟩, ack0, false, 1)
  else if isPacketS p = false then (⟨0, []⟩, ack0, false, 1)
  else if r.next_ + w ≤ p.data then (⟨0, []⟩, ack0, false, 10)
  else if p.data = 1000000000 then (⟨0, []⟩, ack0, false, 10)
  else if p.data = r.next_ then (⟨(adv (r.next_ + 1) r.have_).1, (adv (r.next_ + 1) r.have_).2⟩, ackS p (adv (r.next_ + 1) r.have_).1, true, 0)
  else if p.data < r.next_ then (r, ackS p r.next_, false, 0)
  else if p.data ∈ r.have_ then (r, ackS p r.next_, false, 0)
  else (⟨r.next_, ins p.data r.have_⟩, ackS p r.next_, true, 0)

theorem V37_spec {r : Receiver} {w : Int} {p : Packet} (hl : r.have_.length ≤ 100000) {K : Receiver × Ack × Bool × Int → Prop} (h : K (recvS r w p)) : V37 r w p K := by
  rw [V37_eq]; unfold B37
  unfold recvS at h
  refine V39_spec (by omega) (br_of (fun e => ?_) (fun e => ?_))
  · have e : validS r w = false := by simpa using e
    rw [if_pos e] at h; exact h
  have hv : validS r w = true := by simpa using e
  rw [if_neg (by simp [hv])] at h
  refine V61_spec (br_of (fun e => ?_) (fun e => ?_))
  · have e : isPacketS p = false := by simpa using e
    rw [if_pos e] at h; exact h
  have hp : isPacketS p = true := by simpa using e
  rw [if_neg (by simp [hp])] at h
  have hv2 := hv
  simp only [validS, inS, Bool.and_eq_true, decide_eq_true_eq] at hv2
  obtain ⟨⟨hw, hn⟩, hc⟩ := hv2
  have e2 : IntKind.i64.wrap (r.next_ + w) = r.next_ + w := wrapi (by omega) (by omega)
  rw [e2]
  refine br_of (fun e => ?_) (fun e => ?_)
  · have e : r.next_ + w ≤ p.data := by simpa using e
    rw [if_pos e] at h; exact h
  have e : ¬ r.next_ + w ≤ p.data := by simpa using e
  rw [if_neg e] at h
  refine br_of (fun e => ?_) (fun e => ?_)
  · have e : p.data = 1000000000 := by simpa using e
    rw [if_pos e] at h; exact h
  have e : ¬ p.data = 1000000000 := by simpa using e
  rw [if_neg e] at h
  obtain ⟨hs, hb⟩ := chain_pair hc
  refine V62_spec (by omega) hs (fun i hi h1 h2 => ?_)
  refine br_of (fun e => ?_) (fun e => ?_)
  · have hge : r.next_ ≤ p.data := by simpa using e
    refine ⟨r.have_, V63_spec (by omega) rfl, br_of (fun e => ?_) (fun e => ?_)⟩
    · have e : p.data = r.next_ := by simpa using e
      rw [if_pos e] at h
      refine V64_spec (by show r.have_.length ≤ _; omega) hn.1 hn.2 ?_
      have : decide (p.data ∈ r.have_) = false := by
        simp only [decide_eq_false_iff_not]
        intro hm
        have := (hb _ hm).1; omega
      rw [this]; exact h
    · have e : ¬ p.data = r.next_ := by simpa using e
      rw [if_neg e, if_neg (by omega)] at h
      refine br_of (fun e => ?_) (fun e => ?_)
      · have e : p.data ∉ r.have_ := by simpa using e
        rw [if_neg e] at h
        refine ⟨by omega, by omega, by simp, by simp; omega, ?_⟩
        have e' : decide (p.data ∈ r.have_) = false := by simpa using e
        rw [Int.toNat_natCast, ins_eq hi h1 h2, e']
        exact h
      · have e : p.data ∈ r.have_ := by simpa using e
        rw [if_pos e] at h
        have e' : decide (p.data ∈ r.have_) = true := by simpa using e
        rw [e']; exact h
  · have hlt : p.data < r.next_ := by simpa using e
    refine ⟨r.have_, V63_spec (by omega) rfl, br_of (fun e => ?_) (fun e => ?_)⟩
    · have e : p.data = r.next_ := by simpa using e
      omega
    · rw [if_neg (by omega), if_pos hlt] at h
      exact h

end Go.Vg.Ytgekegoflaichaa
