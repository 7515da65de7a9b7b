/-
  Join, and the map of places, as plain functions. Own work; no condition.
-/
import Derived.Test.YtkaodeodiakldaaSc
namespace Go.Vg.Ytkaodeodiakldaa
open Go.Vg Go.Proofs

def recordsS (l : List Segment) : List Record := (l.map fun s => s.records).flatten
def joinS (l : List Segment) : Segment × Int :=
  if l.length = 0 ∨ 32 < l.length then (zS, 1)
  else if l.all validS = false then (zS, 1)
  else if adjB timeS l = false then (zS, 18)
  else if adjB sumS l = false then (zS, 11)
  else if 5000 < (recordsS l).length then (zS, 2)
  else (Segment.mk (l.getD 0 zS).from_ (l.getD (l.length - 1) zS).to_ (l.getD 0 zS).begin_ (l.getD (l.length - 1) zS).end_ (recordsS l), 0)

theorem valid_len {s : Segment} (h : validS s = true) : s.records.length ≤ 5000 := by
  unfold validS at h
  simp only [Bool.and_eq_true, decide_eq_true_eq] at h
  exact h.1.2
theorem room50 {n : Nat} (h : n ≤ 1000000) : roomB n (bytesB env 50) = true := by
  have hb : Nat.ble (bytesB env 50) 1000 = true := by kernel_rfl
  have hb := Nat.le_of_ble_eq_true hb
  have : n * bytesB env 50 ≤ 1000000 * 1000 := Nat.mul_le_mul h hb
  unfold roomB
  rw [decide_eq_true (by omega)]
  exact decide_eq_true (by omega)

theorem l24_4 {l : List Segment} (hl : l.length ≤ 32) {x2 x6 x7 x8 x9 : Int} {kr : Int → Int → Int → Int → Int → Prop} {k0 : List Segment → Int → Int → Int → Int → Int → Prop} : ∀ (m i : Nat), i + m = l.length → ((l.drop i).all validS = true → k0 l x2 x6 x7 x8 x9) → ((l.drop i).all validS = false → kr 1 0 0 0 0) → l_24_4 (m + 1) l x2 l l.length i x6 x7 x8 x9 kr k0
  | 0, i, hi, hg, _ => by
    unfold l_24_4
    rw [ge_n (by omega)]
    rw [List.drop_of_length_le (by omega)] at hg
    exact hg rfl
  | m + 1, i, hi, hg, hb => by
    have hlt : i < l.length := by omega
    unfold l_24_4
    rw [lt_n hlt, in_n hlt, brT, brT, g32 hlt]
    rw [List.drop_eq_getElem_cons hlt, List.all_cons] at hg hb
    refine V38_spec ?_
    rcases hv : validS l[i]
    · rw [hv] at hb
      exact hb rfl
    · rw [hv] at hg hb
      rw [succ_w hlt (by omega)]
      exact l24_4 hl m (i + 1) (by omega) hg hb

theorem l24_15 {l : List Segment} (hl : l.length ≤ 32) (hv : ∀ s ∈ l, s.records.length ≤ 5000) {x1 x5 x6 x7 x8 x9 x10 x11 x12 : Int} {k2 : Int → Int → Int → Int → Int → Int → Int → Int → Int → List Record → Prop} : ∀ (m i : Nat) (acc : List Record), i + m = l.length → acc.length ≤ i * 5000 → k2 x1 x5 x6 x7 x8 x9 x10 x11 x12 (acc ++ recordsS (l.drop i)) → l_24_15 (m + 1) x1 l l.length i x5 x6 x7 x8 x9 x10 x11 x12 acc k2
  | 0, i, acc, hi, _, h => by
    unfold l_24_15
    rw [ge_n (by omega)]
    rw [List.drop_of_length_le (by omega)] at h
    rw [show recordsS [] = [] from rfl, List.append_nil] at h
    exact h
  | m + 1, i, acc, hi, ha, h => by
    have hlt : i < l.length := by omega
    unfold l_24_15
    rw [lt_n hlt, in_n hlt, brT, brT, g32 hlt]
    have hr := hv l[i] (List.getElem_mem hlt)
    have hlen : (acc ++ l[i].records).length ≤ (i + 1) * 5000 := by rw [List.length_append]; omega
    rw [room50 (by omega), brT, succ_w hlt (by omega)]
    refine l24_15 hl hv m (i + 1) _ (by omega) hlen ?_
    rw [List.drop_eq_getElem_cons hlt, show recordsS (l[i] :: l.drop (i + 1)) = l[i].records ++ recordsS (l.drop (i + 1)) from rfl, ← List.append_assoc] at h
    exact h

theorem V24_spec {l : List Segment} {K : Segment × Int → Prop} (h : K (joinS l)) : V24 l K := by
  rw [V24_eq]
  unfold B24
  unfold joinS at h
  refine br_i (fun c => ?_) fun c1 => ?_
  · rw [if_pos (Or.inl (by simp at c; simp [c]))] at h; exact h
  refine br_i (fun c => ?_) fun c2 => ?_
  · rw [if_pos (Or.inr (by simp at c; omega))] at h; exact h
  have h0 : 1 ≤ l.length := by
    rcases Nat.eq_zero_or_pos l.length with e | e
    · rw [e] at c1; simp at c1
    · exact e
  have hl : l.length ≤ 32 := by simp at c2; omega
  rw [if_neg (by omega)] at h
  unfold s_24_3
  refine ⟨l.length + 1, l24_4 hl l.length 0 (by omega) (fun hv => ?_) fun hv => ?_⟩
  · rw [List.drop_zero] at hv
    rw [hv, if_neg (by decide)] at h
    refine V39_time h0 hl ?_
    rcases ht : adjB timeS l
    · rw [ht, if_pos rfl] at h; exact h
    rw [ht, if_neg (by decide)] at h
    rw [Bool.not_true, brF]
    refine V39_sum h0 hl ?_
    rcases hs : adjB sumS l
    · rw [hs, if_pos rfl] at h; exact h
    rw [hs, if_neg (by decide)] at h
    have e1 : IntKind.i64.wrap ((l.length : Int) - 1) = ((l.length - 1 : Nat) : Int) := by rw [wrap_i (by omega) (by omega)]; omega
    rw [Bool.not_true, brF, e1, in_n (show l.length - 1 < l.length by omega), show inb 0 (l.length : Int) = true from inbT (by omega) (by omega)]
    rw [brT, brT, brT, brT, g32 (show l.length - 1 < l.length by omega)]
    have z0 : l.getD 0 (env.d 32) = l.getD 0 zS := by
      have : 0 < l.length := by omega
      have e := g32 this
      rw [show ((0 : Nat) : Int).toNat = 0 from rfl] at e
      rw [e]
      simp [List.getD, this]
    have z1 : l.getD (l.length - 1) zS = l[l.length - 1] := by simp [List.getD, show l.length - 1 < l.length by omega]
    rw [z0, ← z1]
    have hvl : ∀ s ∈ l, s.records.length ≤ 5000 := fun s hs => valid_len (List.all_eq_true.1 hv s hs)
    refine ⟨l.length + 1, l24_15 hl hvl l.length 0 [] (by omega) (by simp) ?_⟩
    rw [List.drop_zero, List.nil_append]
    refine br_i (fun c => ?_) fun c => ?_
    · rw [if_pos (by simp at c; omega)] at h; exact h
    · rw [if_neg (by simp at c; omega)] at h; exact h
  · rw [List.drop_zero] at hv
    rw [hv, if_pos rfl] at h
    exact h

/-! ### Places -/
theorem keyS (a b c d : Int) : keyEq env 59 (stretch.mk a b) (stretch.mk c d) = andb (a == c) (b == d) := by kernel_rfl
abbrev Mp := List (stretch × Int)
noncomputable def hasM (a b : Int) (m : Mp) : Bool := mHas (keyEq env 59 (stretch.mk a b)) m
noncomputable def getM (a b : Int) (m : Mp) : Int := mGet (keyEq env 59 (stretch.mk a b)) 0 m
noncomputable def putM (a b : Int) (v : Int) (m : Mp) : Mp := mPut (keyEq env 59 (stretch.mk a b)) (stretch.mk a b) v m
theorem key_iff {a b c d : Int} : keyEq env 59 (stretch.mk a b) (stretch.mk c d) = true ↔ a = c ∧ b = d := by
  rw [keyS]
  rcases hc : (a == c)
  · simp at hc
    simp [andb, hc]
  · simp at hc
    simp [andb, hc]
theorem key_self (a b : Int) : keyEq env 59 (stretch.mk a b) (stretch.mk a b) = true := key_iff.2 ⟨rfl, rfl⟩
theorem has_put (a b c d v : Int) : ∀ m : Mp, hasM a b (putM c d v m) = (decide (a = c ∧ b = d) || hasM a b m)
  | [] => by
    simp only [hasM, putM, mPut, mHas]
    rcases hk : keyEq env 59 (stretch.mk a b) (stretch.mk c d)
    · have : ¬ (a = c ∧ b = d) := fun h => by rw [key_iff.2 h] at hk; cases hk
      simp [this]
    · have := key_iff.1 hk
      simp [this]
  | (⟨e, f⟩, w) :: r => by
    have ih := has_put a b c d v r
    simp only [hasM, putM, mPut, mHas] at ih ⊢
    rcases hk : keyEq env 59 (stretch.mk c d) (stretch.mk e f)
    · simp only [mHas, ih]
      rcases keyEq env 59 (stretch.mk a b) (stretch.mk e f) <;> simp
    · obtain ⟨rfl, rfl⟩ := key_iff.1 hk
      simp only [mHas]
      rcases hk' : keyEq env 59 (stretch.mk a b) (stretch.mk c d)
      · have : ¬ (a = c ∧ b = d) := fun h => by rw [key_iff.2 h] at hk'; cases hk'
        simp [this]
      · simp
theorem get_put (a b c d v : Int) : ∀ m : Mp, getM a b (putM c d v m) = if a = c ∧ b = d then v else getM a b m
  | [] => by
    simp only [getM, putM, mPut, mGet]
    rcases hk : keyEq env 59 (stretch.mk a b) (stretch.mk c d)
    · have : ¬ (a = c ∧ b = d) := fun h => by rw [key_iff.2 h] at hk; cases hk
      simp [this]
    · have := key_iff.1 hk
      simp [this]
  | (⟨e, f⟩, w) :: r => by
    have ih := get_put a b c d v r
    simp only [getM, putM, mPut, mGet] at ih ⊢
    rcases hk : keyEq env 59 (stretch.mk c d) (stretch.mk e f)
    · simp only [mGet, ih]
      rcases hk' : keyEq env 59 (stretch.mk a b) (stretch.mk e f)
      · simp
      · have : ¬ (a = c ∧ b = d) := fun ⟨h1, h2⟩ => by rw [← h1, ← h2, hk'] at hk; cases hk
        simp [this]
    · obtain ⟨rfl, rfl⟩ := key_iff.1 hk
      simp only [mGet]
      rcases hk' : keyEq env 59 (stretch.mk a b) (stretch.mk c d)
      · have : ¬ (a = c ∧ b = d) := fun h => by rw [key_iff.2 h] at hk'; cases hk'
        simp [this]
      · have := key_iff.1 hk'
        simp [this]

/-- The first task of these times. -/
def belS (a b : Int) : Nat → List Task → Option Nat
  | _, [] => none
  | i, t :: ts => if t.from_ = a ∧ t.to_ = b then some i else belS a b (i + 1) ts
noncomputable def placesL : Nat → List Task → Mp → Mp
  | _, [], m => m
  | i, t :: ts, m => placesL (i + 1) ts (putM t.from_ t.to_ i m)

theorem l25_3 {l : List Task} (hl : l.length ≤ 9223372036854775807) {k0 : Mp → Prop} : ∀ (m i : Nat) (mp : Mp), i + m = l.length → k0 (placesL i (l.drop i) mp) → l_25_3 (m + 1) l l.length i mp k0
  | 0, i, mp, hi, h => by
    unfold l_25_3
    rw [ge_n (by omega)]
    rw [List.drop_of_length_le (by omega)] at h
    exact h
  | m + 1, i, mp, hi, h => by
    have hlt : i < l.length := by omega
    unfold l_25_3
    rw [lt_n hlt, in_n hlt, brT, brT, g39 hlt, succ_w hlt hl]
    rw [List.drop_eq_getElem_cons hlt] at h
    exact l25_3 hl m (i + 1) _ (by omega) h

theorem V25_spec {l : List Task} (hl : l.length ≤ 9223372036854775807) {K : Mp → Prop} (h : K (placesL 0 l [])) : V25 l K := by
  rw [V25_eq]
  unfold B25
  exact ⟨l.length + 1, l25_3 hl l.length 0 [] (by omega) h⟩

theorem bel_none {a b : Int} : ∀ {ts : List Task} {i : Nat}, belS a b i ts = none ↔ ∀ t ∈ ts, ¬ (t.from_ = a ∧ t.to_ = b)
  | [], i => by simp [belS]
  | t :: ts, i => by
    simp only [belS, List.mem_cons, forall_eq_or_imp]
    split
    · rename_i h; simp [h]
    · rename_i h; rw [bel_none]; exact ⟨fun hh => ⟨h, hh⟩, fun hh => hh.2⟩
theorem has_places (a b : Int) : ∀ (ts : List Task) (i : Nat) (m : Mp), hasM a b (placesL i ts m) = (hasM a b m || (belS a b i ts).isSome)
  | [], i, m => by simp [placesL, belS]
  | t :: ts, i, m => by
    simp only [placesL, belS]
    rw [has_places a b ts (i + 1), has_put]
    by_cases h : t.from_ = a ∧ t.to_ = b
    · rw [if_pos h]; simp [h]
    · rw [if_neg h]
      have : ¬ (a = t.from_ ∧ b = t.to_) := fun hh => h ⟨hh.1.symm, hh.2.symm⟩
      simp [this]
theorem get_none {a b : Int} : ∀ {ts : List Task} {i : Nat} {m : Mp}, belS a b i ts = none → getM a b (placesL i ts m) = getM a b m
  | [], i, m, _ => rfl
  | t :: ts, i, m, h => by
    simp only [belS] at h
    split at h
    · cases h
    · rename_i hn
      simp only [placesL]
      rw [get_none h, get_put, if_neg fun hh => hn ⟨hh.1.symm, hh.2.symm⟩]
theorem get_places {a b : Int} : ∀ {ts : List Task} {i j : Nat} {m : Mp}, ts.Pairwise (fun s t => s.from_ < t.from_) → belS a b i ts = some j → getM a b (placesL i ts m) = j
  | [], i, j, m, _, h => by cases h
  | t :: ts, i, j, m, hp, h => by
    rw [List.pairwise_cons] at hp
    simp only [belS] at h
    simp only [placesL]
    split at h
    · rename_i hh
      cases h
      rw [get_none (bel_none.2 fun s hs hc => ?_), get_put, if_pos ⟨hh.1.symm, hh.2.symm⟩]
      have := hp.1 s hs
      omega
    · exact get_places hp.2 h

theorem tasks_pair {l : List Task} (h : TasksOk l) : l.Pairwise (fun s t => s.from_ < t.from_) := by
  rw [List.pairwise_iff_getElem]
  intro i j hi hj hij
  have step : ∀ k, (hk : k + 1 < l.length) → l[k].from_ < l[k + 1].from_ := fun k hk => by
    have a := h.1 k (by omega)
    have b := h.1 (k + 1) hk
    unfold tOk at a b
    have e1 : l.getD k zT = l[k] := by simp [List.getD, show k < l.length by omega]
    have e2 : l.getD (k + 1) zT = l[k + 1] := by simp [List.getD, hk]
    rw [e1] at a
    rw [e2, show k + 1 - 1 = k by omega, e1] at b
    have := b.2.2.2.2.2.2 (by omega)
    omega
  have : ∀ d, (hd : i + 1 + d < l.length) → l[i].from_ < l[i + 1 + d].from_ := fun d => by
    induction d with
    | zero => exact fun hd => step i hd
    | succ d ih => exact fun hd => Int.lt_trans (ih (by omega)) (step (i + 1 + d) hd)
  have e : l[j] = l[i + 1 + (j - i - 1)]'(by omega) := by congr 1; omega
  rw [e]
  exact this _ (by omega)

end Go.Vg.Ytkaodeodiakldaa
