/-
  Small laws on the executor's cells. Own work; no condition.
-/
import Derived.Test.YtkaodeodiakldaaVgD
namespace Go.Vg
open Go.RowKit
variable {E : Env} {H : List (Nat × HS E.T)} {σ : Nat → Option Nat} {w : World} {S : Nat → Prop}

theorem nth_set_eq {T : Nat → Type} (l : List (SV T)) (i : Nat) (v : SV T) (h : i < l.length) : nth (setNth l i v) i = v := by
  induction l generalizing i with
  | nil => simp at h
  | cons a r ih => cases i with
    | zero => rfl
    | succ i => exact ih i (by simpa using h)

theorem nth_set_ne {T : Nat → Type} (l : List (SV T)) (i j : Nat) (v : SV T) (h : i ≠ j) : nth (setNth l i v) j = nth l j := by
  induction l generalizing i j with
  | nil => rfl
  | cons a r ih => cases i with
    | zero => cases j with
      | zero => exact absurd rfl h
      | succ j => rfl
    | succ i => cases j with
      | zero => rfl
      | succ j => exact ih i j (by omega)

theorem setNth_length {T : Nat → Type} (l : List (SV T)) (i : Nat) (v : SV T) : (setNth l i v).length = l.length := by
  induction l generalizing i with
  | nil => rfl
  | cons a r ih => cases i <;> simp [setNth, ih]

theorem RelC.arr_inv {k : IntKind} {n : Nat} {l : List Int} {r : List (SV E.T)} {vs : List Value} (h : RelC E H σ w S (.arr k n l :: r) vs) :
    ∃ vs', vs = l.map (Value.int k) ++ vs' ∧ l.length = n ∧ RelC E H σ w S r vs' := by
  cases h with
  | cons h0 h00 h1 h2 => cases h1
  | arr h1 h2 => exact ⟨_, rfl, h1, h2⟩

theorem RelC.int_inv {k : IntKind} {x : Int} {vs : List Value} (h : RelC E H σ w S [.int k x] vs) : vs = [.int k x] := by
  cases h with
  | cons h0 h00 h1 h2 => cases h1; cases h2; rfl

theorem RelC.len {cs : List (SV E.T)} {vs : List Value} : RelC E H σ w S cs vs → widths cs = vs.length
  | .nil => rfl
  | .cons h0 _ _ h2 => by simp [widths, widths0, h0, ← RelC.len h2]; omega
  | .arr h1 h2 => by simp [widths, widths0, width, h1, ← RelC.len h2]

theorem RelC.append {cs cs' : List (SV E.T)} {vs vs' : List Value} : RelC E H σ w S cs vs → RelC E H σ w S cs' vs' → RelC E H σ w S (cs ++ cs') (vs ++ vs')
  | .nil, h => h
  | .cons h0 h00 h1 h2, h => .cons h0 h00 h1 (h2.append h)
  | .arr h1 h2, h => by rw [List.append_assoc]; exact .arr h1 (h2.append h)

theorem RelC.drop {cs r : List (SV E.T)} {vs : List Value} {off : Nat} (h : RelC E H σ w S cs vs) (hd : dropC cs off = some r) : RelC E H σ w S r (vs.drop off) ∧ off ≤ vs.length := by
  induction cs generalizing off vs with
  | nil => cases off with
    | zero => simp [dropC] at hd; subst hd; exact ⟨by simpa using h, Nat.zero_le _⟩
    | succ off => simp [dropC] at hd
  | cons s cs ih => cases off with
    | zero => simp [dropC] at hd; subst hd; exact ⟨by simpa using h, Nat.zero_le _⟩
    | succ off =>
      simp only [dropC] at hd
      split at hd
      · rename_i hb
        have hb : width s ≤ off + 1 := Nat.le_of_ble_eq_true hb
        cases h with
        | @cons _ v _ vs h0 h00 h1 h2 =>
          rw [h0] at hd
          have := ih h2 hd
          simp at this ⊢
          exact ⟨this.1, by omega⟩
        | @arr k n l r vs h1 h2 =>
          simp [width] at hb hd
          have := ih h2 hd
          rw [List.drop_append]
          rw [List.drop_of_length_le (by simp; omega)]
          simp [h1]
          exact ⟨this.1, by omega⟩
      · cases hd

theorem RelC.take {cs r : List (SV E.T)} {vs : List Value} {n : Nat} (h : RelC E H σ w S cs vs) (hd : takeC cs n = some r) : RelC E H σ w S r (vs.take n) ∧ n ≤ vs.length := by
  induction cs generalizing n vs r with
  | nil => cases n with
    | zero => simp [takeC] at hd; subst hd; exact ⟨by simpa using RelC.nil, Nat.zero_le _⟩
    | succ n => simp [takeC] at hd
  | cons s cs ih => cases n with
    | zero => simp [takeC] at hd; subst hd; exact ⟨by simpa using RelC.nil, Nat.zero_le _⟩
    | succ n =>
      simp only [takeC] at hd
      split at hd
      · rename_i hb
        have hb : width s ≤ n + 1 := Nat.le_of_ble_eq_true hb
        obtain ⟨r', hr', rfl⟩ := Option.map_eq_some_iff.1 hd
        cases h with
        | @cons _ v _ vs h0 h00 h1 h2 =>
          rw [h0] at hr'
          have := ih h2 hr'
          simp at this ⊢
          exact ⟨.cons h0 h00 h1 this.1, by omega⟩
        | @arr k m l r vs h1 h2 =>
          simp [width] at hb hr'
          have := ih h2 hr'
          rw [List.take_append, List.take_of_length_le (by simp; omega)]
          simp [h1]
          exact ⟨.arr h1 (by rw [show n + 1 - m = n + 1 - m from rfl]; exact this.1), by omega⟩
      · cases hd

theorem RelC.sub {cs r : List (SV E.T)} {vs : List Value} {off n : Nat} (h : RelC E H σ w S cs vs) (hd : subC cs off n = some r) : RelC E H σ w S r ((vs.drop off).take n) ∧ off + n ≤ vs.length := by
  unfold subC at hd
  obtain ⟨r1, h1, h2⟩ := Option.bind_eq_some_iff.1 hd
  have a := h.drop h1
  have b := a.1.take h2
  refine ⟨b.1, ?_⟩
  have := b.2
  simp at this
  omega

theorem cell1_rel {cs : List (SV E.T)} {vs : List Value} {off : Nat} (h : RelC E H σ w S cs vs) (ho : off < vs.length) :
    RelS E H σ w S (cell1 cs off) (vs[off]'ho) ∧ (vs[off]'ho).oneCell' = true := by
  induction cs generalizing off vs with
  | nil => cases h; simp at ho
  | cons s cs ih =>
    cases h with
    | @cons _ v _ vs h0 h00 h1 h2 =>
      simp only [cell1, h0]
      cases off with
      | zero =>
        have : Nat.ble 1 0 = false := rfl
        simp only []
        cases h1 <;> simp_all [width] <;> constructor <;> assumption
      | succ off =>
        have : Nat.ble 1 (off + 1) = true := by simp
        simp only [this]
        have := ih h2 (off := off) (by simpa using ho)
        simpa using this
    | @arr k n l r vs h1 h2 =>
      simp only [cell1, width]
      by_cases hb : n ≤ off
      · have : Nat.ble n off = true := Nat.ble_eq_true_of_le hb
        simp only [this]
        have := ih h2 (off := off - n) (by simp at ho; omega)
        rw [List.getElem_append_right (by simp; omega)]
        simpa [h1] using this
      · have : Nat.ble n off = false := by
          cases hx : Nat.ble n off
          · rfl
          · exact absurd (Nat.le_of_ble_eq_true hx) hb
        simp only [this]
        rw [List.getElem_append_left (by simp; omega)]
        simp only [List.getElem_map]
        have : l.getD off 0 = l[off]'(by omega) := by simp [List.getD, show off < l.length by omega]
        rw [this]
        exact ⟨.int _ _, rfl⟩

theorem RelC.put {cs new cs' : List (SV E.T)} {vs ns : List Value} {off : Nat} (h : RelC E H σ w S cs vs) (hn : RelC E H σ w S new ns) (hp : putC cs off new = some cs') :
    RelC E H σ w S cs' (vs.take off ++ ns ++ vs.drop (off + ns.length)) ∧ off + ns.length ≤ vs.length := by
  induction cs generalizing off vs cs' with
  | nil =>
    simp only [putC] at hp
    split at hp
    · cases hp; cases hn; cases h; simp; exact .nil
    · cases hp
  | cons s cs ih =>
    simp only [putC] at hp
    split at hp
    · rename_i hb
      have hb : width s ≤ off := Nat.le_of_ble_eq_true hb
      obtain ⟨r', hr', rfl⟩ := Option.map_eq_some_iff.1 hp
      cases h with
      | @cons _ v _ vs h0 h00 h1 h2 =>
        rw [h0] at hr' hb
        have := ih h2 hr'
        obtain ⟨off, rfl⟩ : ∃ m, off = m + 1 := ⟨off - 1, by omega⟩
        simp only [Nat.add_sub_cancel] at this
        refine ⟨?_, by simp; omega⟩
        have e : off + 1 + ns.length = (off + ns.length) + 1 := by omega
        rw [e]
        simpa using RelC.cons h0 h00 h1 this.1
      | @arr k n l r vs h1 h2 =>
        simp only [width] at hb hr'
        have := ih h2 hr'
        refine ⟨?_, by simp; omega⟩
        rw [List.take_append, List.take_of_length_le (by simp; omega), List.drop_append, List.drop_of_length_le (by simp; omega)]
        simp only [List.length_map, List.nil_append, List.append_assoc, h1]
        have e : off + ns.length - n = off - n + ns.length := by omega
        rw [e]
        exact .arr h1 (by simpa using this.1)
    · rename_i hb
      have hb : ¬ width s ≤ off := by
        intro hx
        rw [Nat.ble_eq_true_of_le hx] at hb; exact absurd hb (by simp)
      split at hp
      · rename_i k n l k' x _
        split at hp
        · rename_i hk
          have hk := kEq_eq hk
          subst hk
          cases hp
          obtain ⟨vs, rfl, h1, h2⟩ := h.arr_inv
          obtain rfl := hn.int_inv
          simp only [width] at hb
          refine ⟨?_, by simp; omega⟩
          rw [List.take_append_of_le_length (by simp; omega), List.drop_append_of_le_length (by simp; omega)]
          have e : List.take off (List.map (Value.int k) l) ++ [Value.int k x] ++ (List.drop (off + [Value.int k x].length) (List.map (Value.int k) l) ++ vs) = List.map (Value.int k) (l.set off x) ++ vs := by
            rw [List.map_set, List.set_eq_take_append_cons_drop, if_pos (by simp; omega)]
            simp
          rw [e]
          exact .arr (by simpa using h1) h2
        · cases hp
      · split at hp
        · obtain ⟨r, hr, rfl⟩ := Option.map_eq_some_iff.1 hp
          have a := h.drop hr
          rw [← hn.len]
          refine ⟨?_, by simpa using a.2⟩
          simpa using hn.append a.1
        · cases hp

theorem arrAt_rel {cs : List (SV E.T)} {vs : List Value} {off : Nat} {k : IntKind} {n : Nat} {l : List Int} (h : RelC E H σ w S cs vs) (ha : arrAt cs off = some (k, n, l)) :
    l.length = n ∧ off + n ≤ vs.length ∧ ∀ j, j < n → vs[off + j]? = some (.int k (l.getD j 0)) := by
  induction cs generalizing off vs with
  | nil => simp [arrAt] at ha
  | cons s cs ih =>
    simp only [arrAt] at ha
    split at ha
    · rename_i hb
      have hb : width s ≤ off := Nat.le_of_ble_eq_true hb
      cases h with
      | @cons _ v _ vs h0 h00 h1 h2 =>
        rw [h0] at ha hb
        have := ih h2 ha
        obtain ⟨off, rfl⟩ : ∃ m, off = m + 1 := ⟨off - 1, by omega⟩
        refine ⟨this.1, by simp; omega, fun j hj => ?_⟩
        have := this.2.2 j hj
        rw [show off + 1 + j = (off + j) + 1 by omega]
        simpa using this
      | @arr k' n' l' r vs h1 h2 =>
        simp only [width] at ha hb
        have := ih h2 ha
        refine ⟨this.1, by simp; omega, fun j hj => ?_⟩
        have := this.2.2 j hj
        rw [List.getElem?_append_right (by simp; omega)]
        simp only [List.length_map, h1]
        rw [show off + j - n' = off - n' + j by omega]
        exact this
    · split at ha
      · cases ha
        cases h with
        | cons h0 h00 h1 h2 => cases h1
        | @arr k' n' l' r vs h1 h2 =>
          refine ⟨h1, by simp; omega, fun j hj => ?_⟩
          rw [List.getElem?_append_left (by simp; omega)]
          have : l[j]? = some (l[j]'(by omega)) := List.getElem?_eq_getElem _
          simp [List.getD, this]
      · cases ha

theorem RelC.wk {cs cs' : List (SV E.T)} (hw : WkL E.has cs cs') : ∀ {vs : List Value}, RelC E H σ w S cs vs → RelC E H σ w S cs' vs := by
  induction hw with
  | nil => exact fun h => h
  | cons s _ ih =>
    intro vs h
    cases h with
    | cons h0 h00 h1 h2 => exact .cons h0 h00 h1 (ih h2)
    | arr h1 h2 => exact .arr h1 (ih h2)
  | nils e he _ ih =>
    intro vs h
    cases h with
    | cons h0 h00 h1 h2 => cases h1; exact .cons rfl rfl (.dat_nil e he) (ih h2)

theorem RelC.dec {e : Nat} {x : E.T e} {cs : List (SV E.T)} {vs : List Value} (he : E.has e = true) (hd : E.dec e cs = some x) (h : RelC E H σ w S cs vs) : RelC E H σ w S (E.enc e x) vs :=
  h.wk (E.enc_dec e cs x he hd)

section data
variable {H' : List (Nat × HS E.T)} {σ' : Nat → Option Nat}
mutual
theorem RelS.data {s : SV E.T} {v : Value} : RelS E H σ w S s v → isData s = true → RelS E H' σ' w S s v
  | .any v, h => by simp [isData] at h
  | .int k n, _ => .int k n
  | .bool b, _ => .bool b
  | .str s, _ => .str s
  | .nilp, _ => .nilp
  | .nilf, _ => .nilf
  | .nils, _ => .nils
  | .ptr id off k h1 h2, h => by simp [isData] at h
  | .aptr id off n i k h1 h2 h3 h4, h => by simp [isData] at h
  | .aslice id off n k h1 h2, h => by simp [isData] at h
  | .map id k h1 h2, h => by simp [isData] at h
  | .yld id k h1 h2, h => by simp [isData] at h
  | .row_nil id h1 h2, h => by simp [isData] at h
  | .row id k n c h1 h2 h3, h => by simp [isData] at h
  | .rptr id i off k sz h1 h2 h3 h5, h => by simp [isData] at h
  | .dat_nil e he, _ => .dat_nil e he
  | .mdat kt vt l k es h1 h2 h3, _ => .mdat kt vt l k es h1 h2 h3
  | .dat e l a c vss h0 h1 h2 h3 h4, _ => .dat e l a c vss h0 h1 h2 (fun i x hx => RelC.data (h3 i x hx) (E.enc_data e x h0)) h4
  | .eptr e l i off a vss h0 b1 b2 h1 h3 h4, h => by simp [isData] at h
  | .aeptr e l i off n j a vss h0 b1 b2 b3 b4 h1 h3 h4, h => by simp [isData] at h
  | .boxd t cs off k arr h1 h2 h3, h => .boxd t cs off k arr h1 h2 (RelC.data h3 (by simpa only [isData] using h))
  | .fn f caps vs hl, h => .fn f caps vs (RelL.data hl (by simpa only [isData] using h))
  | .agg cs vs hl, h => by simp [isData] at h
  | .tup cs vs hl, h => by simp [isData] at h
theorem RelC.data {cs : List (SV E.T)} {vs : List Value} : RelC E H σ w S cs vs → allData cs = true → RelC E H' σ' w S cs vs
  | .nil, _ => .nil
  | .cons h0 h00 h1 h2, h => by
    simp only [allData, Bool.and_eq_true] at h
    exact .cons h0 h00 (RelS.data h1 h.1) (RelC.data h2 h.2)
  | .arr h1 h2, h => by
    simp only [allData, Bool.and_eq_true] at h
    exact .arr h1 (RelC.data h2 h.2)
theorem RelL.data {cs : List (SV E.T)} {vs : List Value} : RelL E H σ w S cs vs → allData cs = true → RelL E H' σ' w S cs vs
  | .nil, _ => .nil
  | .cons h1 h2, h => by
    simp only [allData, Bool.and_eq_true] at h
    exact .cons (RelS.data h1 h.1) (RelL.data h2 h.2)
end
end data

end Go.Vg
