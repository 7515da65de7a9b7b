/-
  Serving by deficits, as lists and numbers alone: filling an empty queue; what is fair. Own work; no condition.
-/
import Derived.Test.YtgekegoflaichaaDc
import Derived.Test.YtgekegoflaichaaSl
namespace Go.Vg.Ytgekegoflaichaa
open Go.Vg Go.Proofs

theorem rep8 (i : Nat) (hi : i < 8) : (List.replicate 8 ([] : List Queued)).getD i [] = [] ∧ (defS (List.replicate 8 0)).getD i 0 = 0 := by
  have : i = 0 ∨ i = 1 ∨ i = 2 ∨ i = 3 ∨ i = 4 ∨ i = 5 ∨ i = 6 ∨ i = 7 := by omega
  rcases this with rfl | rfl | rfl | rfl | rfl | rfl | rfl | rfl <;> exact ⟨rfl, rfl⟩

theorem empty_valid {a : Int} (ha : 100 ≤ a ∧ a ≤ 10000) : ValidP (emptyS a 500) := by
  have z0 : (0 : Int) ≤ 0 ∧ (0 : Int) ≤ 7 := by decide
  have z1 : (0 : Int) ≤ 0 ∧ (0 : Int) ≤ 1 := by decide
  have z7 : (0 : Int) ≤ 0 ∧ (0 : Int) ≤ 10000000 := by decide
  have z2 : (0 : Int) ≤ 0 := by decide
  refine ⟨rfl, ha, rfl, rfl, ⟨by show (1 : Int) ≤ 500; omega, by show (500 : Int) ≤ 500; omega⟩, rfl, rfl, rfl, z0, z1, fun h => ?_, z7, z2, z2, z2, z2, fun i hi => ?_, ?_⟩
  · exact absurd (show (0 : Int) = 1 from h) (by decide)
  · have := rep8 i hi
    show flowOk 0 0 0 i ((defS (List.replicate 8 0)).getD i 0) ((List.replicate 8 ([] : List Queued)).getD i []) = true
    rw [this.1, this.2]
    exact flowOk_iff.2 ⟨by omega, fun _ => rfl, rfl, fun x r h => by cases h⟩
  · show ((sumLen (List.replicate 8 []) : Nat) : Int) ≤ 500
    decide

/-- A queue to which some packets have come at the time 0. -/
structure Filled (a : Int) (l : List Packet) (q : Queue) : Prop where
  valid : ValidP q
  pol : q.policy = ⟨5, a, 0, 0⟩
  room : q.room = 500
  vars : q.vars = List.replicate 8 0
  lists : ∀ i : Nat, i < 8 → (q.lists.getD i []).map (·.p) = l.filter (fun p => p.flow == (i : Int))
  sum : sumLen q.lists = l.length

theorem filled_empty {a : Int} (ha : 100 ≤ a ∧ a ≤ 10000) : Filled a [] (emptyS a 500) :=
  ⟨empty_valid ha, rfl, rfl, rfl, fun i hi => by rw [show (emptyS a 500).lists = List.replicate 8 [] from rfl, (rep8 i hi).1]; rfl, by show sumLen (List.replicate 8 []) = 0; decide⟩

theorem filled_step {a : Int} {l : List Packet} {q : Queue} (f : Filled a l q) {p : Packet} (hp : isPacketS p = true) (hl : l.length < 500) :
    (putS q p (q.vars.getD 7 0)).2.2 = 0 ∧ (putS q p (q.vars.getD 7 0)).2.1 = [] ∧ Filled a (l ++ [p]) (putS q p (q.vars.getD 7 0)).1 := by
  have h7 : q.vars.getD 7 0 = 0 := by rw [f.vars]; rfl
  have hv : q.vars.length = 8 := by rw [f.vars]; rfl
  have ho := open_self f.valid
  have pv := put_valid hv hp ho
  rcases putS_cases q p (q.vars.getD 7 0) with ⟨h1, _⟩ | ⟨_, h1, _⟩ | ⟨_, _, h1, _⟩ | ⟨_, _, hn, h1⟩
  · rw [hp] at h1; cases h1
  · exact absurd ho h1
  · rw [f.room, f.sum] at h1; omega
  · rw [h1] at pv ⊢
    have hf := packet_flow hp
    have hl8 := f.valid.len
    have hset := sumLen_set (ls := q.lists) (i := p.flow.toNat) (l := q.lists.getD p.flow.toNat [] ++ [⟨p, q.vars.getD 7 0⟩]) (by omega)
    rw [List.length_append, List.length_singleton] at hset
    refine ⟨rfl, rfl, pv, f.pol, f.room, ?_, fun i hi => ?_, ?_⟩
    · show q.vars.set 7 (q.vars.getD 7 0) = _
      rw [h7, f.vars]; rfl
    · show ((q.lists.set _ _).getD i []).map (·.p) = _
      rw [getD_set_list (by omega), List.filter_append]
      split
      · rename_i e
        rw [List.map_append, f.lists _ (by omega), e]
        have : (p.flow == (i : Int)) = true := by rw [beq_iff_eq]; omega
        simp [List.filter, this]
      · rename_i e
        have : (p.flow == (i : Int)) = false := by rw [beq_eq_false_iff_ne]; omega
        rw [f.lists i hi]
        simp [List.filter, this]
    · show sumLen (q.lists.set _ _) = _
      have := f.sum
      rw [List.length_append, List.length_singleton]; omega

theorem filled_all {a : Int} : ∀ (rest l : List Packet) (q : Queue), Filled a l q → (∀ p ∈ rest, isPacketS p = true) → l.length + rest.length ≤ 500 → ∃ Q, fillS q rest = (Q, true) ∧ Filled a (l ++ rest) Q
  | [], l, q, f, _, _ => ⟨q, rfl, by simpa using f⟩
  | p :: rest, l, q, f, hp, hl => by
    simp only [List.length_cons] at hl
    obtain ⟨h1, h2, h3⟩ := filled_step f (hp p List.mem_cons_self) (by omega)
    obtain ⟨Q, h4, h5⟩ := filled_all rest (l ++ [p]) _ h3 (fun x hx => hp x (List.mem_cons_of_mem _ hx)) (by simp; omega)
    refine ⟨Q, ?_, by simpa using h5⟩
    unfold fillS
    rw [h1, h2, if_neg (by decide), if_neg (by decide)]
    exact h4

/-! ### Bytes -/
def bytesS : List Packet → Int → Int
  | [], _ => 0
  | p :: r, f => (if p.flow = f then p.size else 0) + bytesS r f
theorem bytes_append (f : Int) : ∀ (l r : List Packet), bytesS (l ++ r) f = bytesS l f + bytesS r f
  | [], r => by simp [bytesS]
  | p :: l, r => by simp only [List.cons_append, bytesS, bytes_append f l r]; omega
theorem bytes_bound {f : Int} : ∀ {l : List Packet}, (∀ p ∈ l, 1 ≤ p.size ∧ p.size ≤ 10000) → 0 ≤ bytesS l f ∧ bytesS l f ≤ 10000 * l.length
  | [], _ => by simp [bytesS]
  | p :: r, h => by
    have h1 := h p List.mem_cons_self
    have h2 := bytes_bound (f := f) (l := r) (fun x hx => h x (List.mem_cons_of_mem _ hx))
    simp only [bytesS, List.length_cons]
    split <;> omega

theorem taken_inv {L : Int} : ∀ (m : Nat) (q : Queue) (out : List Packet) (c : Int), ValidP q → q.vars.length = 8 → InvQ L (fun i => bytesS out i) c q → m ≤ sumLen q.lists → (∀ p ∈ out, 1 ≤ p.size ∧ p.size ≤ 10000) →
    ∃ r out' c', takenS m q out = (r, out') ∧ out'.length = out.length + m ∧ ValidP r ∧ r.vars.length = 8 ∧ r.policy = q.policy ∧ InvQ L (fun i => bytesS out' i) c' r ∧ (∀ p ∈ out', 1 ≤ p.size ∧ p.size ≤ 10000)
  | 0, q, out, c, vp, hv, v, _, hb => ⟨q, out, c, rfl, rfl, vp, hv, rfl, v, hb⟩
  | m + 1, q, out, c, vp, hv, v, hm, hb => by
    obtain ⟨x, r, c1, c', d1, f, hf, hx, hfl, h1, h2, h3, h4, h5, _⟩ := take_inv vp hv v (by omega)
    have tv := take_valid hv (open_self vp)
    have hsz : 1 ≤ x.p.size ∧ x.p.size ≤ 10000 := vp.way.hs f x r hf hx
    have hsum := sumLen_set (ls := q.lists) (i := f) (l := r) (by have := vp.len; omega)
    rw [hx, List.length_cons] at hsum
    have v' : InvQ L (fun i => bytesS (out ++ [x.p]) i) c' (takeS q (q.vars.getD 7 0)).1 := by
      have : (fun i : Nat => bytesS (out ++ [x.p]) i) = fun i : Nat => bytesS out i + if i = f then x.p.size else 0 := by
        funext i
        rw [bytes_append]
        simp only [bytesS, hfl]
        by_cases e : i = f
        · rw [if_pos e, if_pos (by omega)]; omega
        · rw [if_neg e, if_neg (by omega)]; omega
      rw [this]; exact h5
    obtain ⟨r', out', c'', h6, h7, h8, h9, h10, h11, h12⟩ := taken_inv m _ (out ++ [x.p]) c' tv (take_len8 hv) v' (by rw [h3]; omega) (fun p hp => by
      rcases List.mem_append.1 hp with h | h
      · exact hb p h
      · rw [List.mem_singleton.1 h]; exact hsz)
    refine ⟨r', out', c'', ?_, by rw [h7, List.length_append, List.length_singleton]; omega, h8, h9, h10.trans h4, h11, h12⟩
    unfold takenS
    rw [h1, h2, if_neg (by decide)]
    exact h6

theorem fair {a L : Int} {ls : List (List Queued)} {B : Nat → Int} {c t g : Int} {d : List Int} (v : Inv a L ls B c t g d) (w : Way a ls t g d) {i k : Nat} (hi : i < 8) (hk : k < 8) (hli : ls.getD i [] ≠ []) (hlk : ls.getD k [] ≠ []) : B i - B k ≤ 2 * a + L ∧ -2 * a - L ≤ B i - B k := by
  have b1 := v.bal i hi hli
  have b2 := v.bal k hk hlk
  have e1 := v.bnd i hi hli
  have e2 := v.bnd k hk hlk
  have z1 := w.h0 i hi
  have z2 := w.h0 k hk
  have ha := w.ha
  rw [Int.add_mul] at b1 b2
  have one : ∀ j, turnS j t g * a = 0 ∨ turnS j t g * a = a := fun j => by
    unfold turnS
    split
    · right; omega
    · left; omega
  have o1 := one i
  have o2 := one k
  constructor <;> omega

end Go.Vg.Ytgekegoflaichaa
