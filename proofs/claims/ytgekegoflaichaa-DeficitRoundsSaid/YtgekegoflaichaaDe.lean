/-
  Serving by deficits, as lists and numbers alone: packets of the size of the quantum go in rounds. Own work; no condition.
-/
import Derived.Test.YtgekegoflaichaaDd
namespace Go.Vg.Ytgekegoflaichaa
open Go.Vg Go.Proofs

def keyS (p : Packet) : Int := 8 * p.number + p.flow

/-- Packets one after the other in the order of rounds. -/
def InRounds (out : List Packet) : Prop := ∀ i x y, out[i]? = some x → out[i + 1]? = some y → keyS x < keyS y

theorem inRounds_snoc {out : List Packet} {p : Packet} (h : InRounds out) (hl : ∀ x, out.getLast? = some x → keyS x < keyS p) : InRounds (out ++ [p]) := by
  intro i x y hx hy
  rw [List.getElem?_append] at hx hy
  by_cases h1 : i + 1 < out.length
  · rw [if_pos (by omega)] at hx
    rw [if_pos h1] at hy
    exact h i x y hx hy
  · rw [if_neg h1] at hy
    have h2 : i + 1 - out.length = 0 := by
      rcases Nat.eq_zero_or_pos (i + 1 - out.length) with h | h
      · exact h
      · rw [List.getElem?_eq_none (by simp; omega)] at hy; cases hy
    rw [h2] at hy
    simp at hy
    subst hy
    rw [if_pos (by omega)] at hx
    refine hl x ?_
    rw [List.getLast?_eq_getElem?, show out.length - 1 = i by omega]
    exact hx

theorem one_of {z a : Int} (ha : 0 < a) (h1 : a ≤ z * a) (h2 : z * a < 2 * a) : z = 1 := by
  have h3 : 0 < z := by
    rcases Int.lt_or_le 0 z with h | h
    · exact h
    · have := Int.mul_le_mul_of_nonneg_right h (Int.le_of_lt ha)
      rw [Int.zero_mul] at this; omega
  have h4 : z < 2 := by
    rcases Int.lt_or_le z 2 with h | h
    · exact h
    · have := Int.mul_le_mul_of_nonneg_right h (Int.le_of_lt ha)
      omega
  omega

/-- What holds between the calls of Take. -/
structure Round (a : Int) (q : Queue) (out : List Packet) (c : Int) : Prop where
  valid : ValidP q
  len8 : q.vars.length = 8
  pol : q.policy.a = a
  inv : InvQ a (fun i => bytesS out i) c q
  size : ∀ i : Nat, i < 8 → ∀ x ∈ q.lists.getD i [], x.p.size = a
  num : ∀ i : Nat, i < 8 → ∀ (j : Nat) (x : Queued), (q.lists.getD i [])[j]? = some x → (x.p.number - j) * a = bytesS out i
  got : q.vars.getD 1 0 = 1 → ∀ i : Nat, (i : Int) = q.vars.getD 0 0 → bytesS out i = (c + 1) * a
  last : ∀ x, out.getLast? = some x → (q.vars.getD 1 0 = 1 → keyS x = 8 * c + q.vars.getD 0 0) ∧ (q.vars.getD 1 0 = 0 → keyS x < 8 * c + q.vars.getD 0 0)
  rounds : InRounds out
  flows : ∀ p ∈ out, 0 ≤ p.flow ∧ p.flow < 8

theorem round_step {a : Int} {q : Queue} {out : List Packet} {c : Int} (ha : 100 ≤ a) (R : Round a q out c) (hn : sumLen q.lists ≠ 0) :
    ∃ c', (takeS q (q.vars.getD 7 0)).2.2.1 = true ∧ sumLen (takeS q (q.vars.getD 7 0)).1.lists + 1 = sumLen q.lists ∧ Round a (takeS q (q.vars.getD 7 0)).1 (out ++ [(takeS q (q.vars.getD 7 0)).2.1]) c' := by
  obtain ⟨x, r, c1, c', d1, f, hf, hx, hfl, h1, h2, h3, h4, h5, h6, h7, h8, h9, h10, h11, h12⟩ := take_inv R.valid R.len8 R.inv hn
  have tv := take_valid R.len8 (open_self R.valid)
  have tl := take_len8 (now := q.vars.getD 7 0) R.len8
  have hl8 := R.valid.len
  have hsz : x.p.size = a := R.size f hf x (by rw [hx]; exact List.mem_cons_self)
  have hnum := R.num f hf 0 x (by rw [hx]; rfl)
  simp only [Int.natCast_zero, Int.sub_zero] at hnum
  rw [R.pol] at h9 h10
  rw [hsz] at h8
  have hbal : bytesS out f + d1 = (c1 + 1) * a := h10
  rw [← hnum] at hbal
  have hd1 : d1 = (c1 + 1 - x.p.number) * a := by rw [Int.sub_mul]; omega
  have hz : c1 + 1 - x.p.number = 1 := one_of (a := a) (by omega) (by rw [← hd1]; exact h8) (by rw [← hd1]; omega)
  have hn1 : x.p.number = c1 := by omega
  have hkey : keyS x.p = 8 * c1 + f := by unfold keyS; rw [hn1, hfl]
  have hg := R.valid.v1
  have hsum := sumLen_set (ls := q.lists) (i := f) (l := r) (by omega)
  rw [hx, List.length_cons] at hsum
  have hbytes : ∀ i : Nat, bytesS (out ++ [x.p]) i = bytesS out i + if i = f then x.p.size else 0 := fun i => by
    rw [bytes_append]
    simp only [bytesS, hfl]
    by_cases e : i = f
    · rw [if_pos e, if_pos (by omega)]; omega
    · rw [if_neg e, if_neg (by omega)]; omega
  have hbf : bytesS out f = c1 * a := by rw [← hnum, hn1]
  refine ⟨c', h1, by rw [h3]; omega, tv, tl, by rw [h4]; exact R.pol, ?_, fun i hi y hy => ?_, fun i hi j y hy => ?_, fun hg1 i hi => ?_, fun y hy => ?_, ?_, fun p hp => ?_⟩
  · rw [h2]
    have : (fun i : Nat => bytesS (out ++ [x.p]) i) = fun i : Nat => bytesS out i + if i = f then x.p.size else 0 := funext hbytes
    rw [this]; exact h5
  · rw [h3, getD_set_list (by omega)] at hy
    split at hy
    · rename_i e; subst e; exact R.size f hf y (by rw [hx]; exact List.mem_cons_of_mem _ hy)
    · exact R.size i hi y hy
  · rw [h3, getD_set_list (by omega)] at hy
    rw [h2, hbytes]
    by_cases e : f = i
    · rw [if_pos e] at hy
      subst e
      have := R.num f hf (j + 1) y (by rw [hx]; exact hy)
      rw [if_pos rfl, hsz, ← this]
      have e1 : (y.p.number - ((j + 1 : Nat) : Int)) = (y.p.number - j) + (-1) := by omega
      rw [e1, Int.add_mul]; omega
    · rw [if_neg e] at hy
      have := R.num i hi j y hy
      rw [if_neg (fun h => e h.symm)]; omega
  · rw [h2, hbytes]
    by_cases hr : r = []
    · rw [(h12 hr).2] at hg1; cases hg1
    · obtain ⟨h13, h14, h15⟩ := h11 hr
      rw [h14] at hi
      have : i = f := by omega
      subst this
      rw [if_pos rfl, hbf, hsz, h13, Int.add_mul, Int.one_mul]
  · rw [List.getLast?_append, List.getLast?_singleton, h2] at hy
    simp at hy
    subst hy
    rw [hkey]
    by_cases hr : r = []
    · obtain ⟨h13, h14⟩ := h12 hr
      exact ⟨fun h => by omega, fun _ => by omega⟩
    · obtain ⟨h13, h14, h15⟩ := h11 hr
      exact ⟨fun _ => by omega, fun h => by omega⟩
  · rw [h2]
    refine inRounds_snoc R.rounds (fun y hy => ?_)
    obtain ⟨l1, l2⟩ := R.last y hy
    rw [hkey]
    have : q.vars.getD 1 0 = 0 ∨ q.vars.getD 1 0 = 1 := by omega
    rcases this with e | e
    · have := l2 e; omega
    · have hk := l1 e
      rcases Int.lt_or_eq_of_le h6 with h | h
      · omega
      · exfalso
        obtain ⟨h13, h14⟩ := h7 h e
        have hb := R.got e f h13.symm
        have : c = c1 := by omega
        subst this
        rw [hbf, Int.add_mul, Int.one_mul] at hb
        omega
  · rcases List.mem_append.1 hp with h | h
    · exact R.flows p h
    · rw [List.mem_singleton.1 h, h2, hfl]; omega

theorem rounds_all {a : Int} (ha : 100 ≤ a) : ∀ (m : Nat) (q : Queue) (out : List Packet) (c : Int), Round a q out c → m ≤ sumLen q.lists → ∃ r out', takenS m q out = (r, out') ∧ out'.length = out.length + m ∧ InRounds out' ∧ ∀ p ∈ out', 0 ≤ p.flow ∧ p.flow < 8
  | 0, q, out, c, R, _ => ⟨q, out, rfl, rfl, R.rounds, R.flows⟩
  | m + 1, q, out, c, R, hm => by
    obtain ⟨c', h1, h2, h3⟩ := round_step ha R (by omega)
    obtain ⟨r, out', h4, h5, h6, h7⟩ := rounds_all ha m _ _ c' h3 (by omega)
    refine ⟨r, out', ?_, by rw [h5, List.length_append, List.length_singleton]; omega, h6, h7⟩
    unfold takenS
    rw [h1, if_neg (by decide)]
    exact h4

end Go.Vg.Ytgekegoflaichaa
