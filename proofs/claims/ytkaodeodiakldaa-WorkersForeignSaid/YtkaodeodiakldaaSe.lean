/-
  Merge as one plain function, and the list that its sorting leads to. Own work; no condition.
-/
import Derived.Test.YtkaodeodiakldaaSd
namespace Go.Vg.Ytkaodeodiakldaa
open Go.Vg Go.Proofs

/-- The place of a segment. -/
def plS (ts : List Task) (s : Segment) : Nat := (belS s.from_ s.to_ 0 ts).getD 0
def hereS (ts : List Task) (s : Segment) : Bool := (belS s.from_ s.to_ 0 ts).isSome
def atT (t : Task) (s : Segment) : Bool := decide (t.from_ = s.from_ ∧ t.to_ = s.to_)
def sortS (ts : List Task) (l : List Segment) : List Segment := ts.map fun t => (l.find? (atT t)).getD zS
noncomputable def mergeS (ts : List Task) (l : List Segment) : Segment × Int :=
  if tasksB ts = false ∨ 32 < l.length then (zS, 1)
  else if l.all validS = false then (zS, 1)
  else if l.all (hereS ts) = false then (zS, 18)
  else if ¬ (l.map (plS ts)).Nodup then (zS, 5)
  else if l.length < ts.length then (zS, 4)
  else joinS (sortS ts l)

theorem bel_some {a b : Int} : ∀ {ts : List Task} {i j : Nat}, belS a b i ts = some j → ∃ h : j - i < ts.length, i ≤ j ∧ ts[j - i].from_ = a ∧ ts[j - i].to_ = b
  | [], i, j, h => by cases h
  | t :: ts, i, j, h => by
    simp only [belS] at h
    split at h
    · rename_i hh
      cases h
      refine ⟨by simp, Nat.le_refl _, ?_⟩
      simpa using hh
    · obtain ⟨h1, h2, h3⟩ := bel_some h
      have e : j - i = (j - (i + 1)) + 1 := by omega
      refine ⟨by simp; omega, by omega, ?_⟩
      have : (t :: ts)[j - i]'(by simp; omega) = ts[j - (i + 1)] := by
        simp only [e]
        rfl
      rw [this]
      exact h3
theorem bel_at {a b : Int} : ∀ {ts : List Task} {i k : Nat}, ts.Pairwise (fun s t => s.from_ < t.from_) → (h : k < ts.length) → ts[k].from_ = a → ts[k].to_ = b → belS a b i ts = some (i + k)
  | [], i, k, _, h, _, _ => by simp at h
  | t :: ts, i, 0, hp, h, h1, h2 => by
    simp only [belS]
    rw [if_pos ⟨h1, h2⟩]
    rfl
  | t :: ts, i, k + 1, hp, h, h1, h2 => by
    rw [List.pairwise_cons] at hp
    simp only [belS]
    have h' : k < ts.length := by simpa using h
    have := hp.1 ts[k] (List.getElem_mem h')
    have h1' : ts[k].from_ = a := h1
    rw [if_neg (by omega), bel_at (i := i + 1) (k := k) hp.2 h' h1' h2]
    congr 1
    omega

variable {ts : List Task} {l : List Segment}

theorem pl_at (hp : ts.Pairwise (fun s t => s.from_ < t.from_)) {s : Segment} {k : Nat} (h : k < ts.length) (ha : atT ts[k] s = true) : plS ts s = k ∧ hereS ts s = true := by
  unfold atT at ha
  simp only [decide_eq_true_eq] at ha
  have := bel_at (i := 0) hp h ha.1 ha.2
  unfold plS hereS
  rw [this]
  simp
theorem at_pl {s : Segment} (h : hereS ts s = true) : ∃ h : plS ts s < ts.length, atT ts[plS ts s] s = true := by
  unfold hereS at h
  obtain ⟨j, hj⟩ := Option.isSome_iff_exists.1 h
  have e : plS ts s = j := by unfold plS; rw [hj]; rfl
  have := bel_some hj
  simp only [e]
  obtain ⟨h1, _, h2, h3⟩ := this
  refine ⟨by simpa using h1, ?_⟩
  unfold atT
  simp only [decide_eq_true_eq]
  exact ⟨by simpa using h2, by simpa using h3⟩

/-- A list with the right places is the sorted list. -/
theorem sort_eq (hp : ts.Pairwise (fun s t => s.from_ < t.from_)) {l' : List Segment} (hm : ∀ s, s ∈ l → s ∈ l') (hm' : ∀ s, s ∈ l' → s ∈ l) (hh : ∀ s, s ∈ l → hereS ts s = true) (hl : l'.length = ts.length) (h : ∀ i, (hi : i < l'.length) → plS ts l'[i] = i) : l' = sortS ts l := by
  refine List.ext_getElem (by unfold sortS; rw [List.length_map]; exact hl) fun i h1 h2 => ?_
  have e0 : (sortS ts l)[i] = (l.find? (atT (ts[i]'(by omega)))).getD zS := by
    simp only [sortS, List.getElem_map]
  rw [e0]
  have hi : i < ts.length := by omega
  have hin : l'[i] ∈ l := hm' _ (List.getElem_mem h1)
  obtain ⟨q1, q2⟩ := at_pl (hh _ hin)
  have e : ts[plS ts l'[i]] = ts[i] := by congr 1; exact h i h1
  rw [e] at q2
  rcases hf : l.find? (atT ts[i]) with _ | x
  · have := List.find?_eq_none.1 hf _ hin
    exact absurd q2 this
  · have x1 := List.find?_some hf
    have x2 := List.mem_of_find?_eq_some hf
    obtain ⟨j, hj, rfl⟩ := List.getElem_of_mem (hm _ x2)
    have := (pl_at hp hi x1).1
    rw [h j hj] at this
    simp [this]

/-- Strictly increasing places are all places. -/
theorem incr_all {l' : List Segment} (hlt : ∀ s, s ∈ l' → plS ts s < ts.length) (hlen : ts.length ≤ l'.length) (hinc : ∀ i, (hi : i + 1 < l'.length) → plS ts l'[i] < plS ts l'[i + 1]) : l'.length = ts.length ∧ ∀ i, (hi : i < l'.length) → plS ts l'[i] = i := by
  have low : ∀ i, (hi : i < l'.length) → i ≤ plS ts l'[i] := by
    intro i
    induction i with
    | zero => exact fun _ => Nat.zero_le _
    | succ i ih => exact fun hi => by have := ih (by omega); have := hinc i hi; omega
  have hle : l'.length = ts.length := by
    rcases Nat.eq_zero_or_pos l'.length with e | e
    · omega
    · have a := low (l'.length - 1) (by omega)
      have b := hlt _ (List.getElem_mem (show l'.length - 1 < l'.length by omega))
      omega
  refine ⟨hle, fun i hi => ?_⟩
  have high : ∀ d i, (hi : i + d + 1 = l'.length) → plS ts (l'[i]'(by omega)) + d + 1 ≤ ts.length := by
    intro d
    induction d with
    | zero => exact fun i hi => hlt _ (List.getElem_mem _)
    | succ d ih => exact fun i hi => by have := ih (i + 1) (by omega); have := hinc i (by omega); omega
  have a := low i hi
  have b := high (l'.length - i - 1) i (by omega)
  omega

/-- What is sorted, has no place twice, and is as long as the tasks, is the sorted list. -/
theorem sorted_eq (ht : TasksOk ts) {l' : List Segment} (hperm : l'.Perm l) (hh : ∀ s, s ∈ l → hereS ts s = true) (hlen : ts.length ≤ l.length) (hinc : ∀ i, (hi : i + 1 < l'.length) → plS ts l'[i] < plS ts l'[i + 1]) : l' = sortS ts l := by
  have hlt : ∀ s, s ∈ l' → plS ts s < ts.length := fun s hs => (at_pl (hh s (hperm.mem_iff.1 hs))).1
  obtain ⟨h1, h2⟩ := incr_all hlt (by rw [hperm.length_eq]; exact hlen) hinc
  exact sort_eq (tasks_pair ht) (fun s hs => hperm.mem_iff.2 hs) (fun s hs => hperm.mem_iff.1 hs) hh h1 h2

theorem incr_nodup {l' : List Segment} (hinc : ∀ i, (hi : i + 1 < l'.length) → plS ts l'[i] < plS ts l'[i + 1]) : (l'.map (plS ts)).Nodup := by
  rw [List.nodup_iff_pairwise_ne, List.pairwise_map, List.pairwise_iff_getElem]
  intro i j hi hj hij
  have : ∀ d, (hd : i + 1 + d < l'.length) → plS ts l'[i] < plS ts l'[i + 1 + d] := fun d => by
    induction d with
    | zero => exact fun hd => hinc i hd
    | succ d ih => exact fun hd => Nat.lt_trans (ih (by omega)) (hinc (i + 1 + d) hd)
  have e : l'[j] = l'[i + 1 + (j - i - 1)]'(by omega) := by congr 1; omega
  rw [e]
  have := this _ (show i + 1 + (j - i - 1) < l'.length by omega)
  omega
theorem nodup_ne {l' : List Segment} (hn : (l'.map (plS ts)).Nodup) {i : Nat} (hi : i + 1 < l'.length) : plS ts l'[i] ≠ plS ts l'[i + 1] := by
  rw [List.nodup_iff_pairwise_ne, List.pairwise_map, List.pairwise_iff_getElem] at hn
  exact hn i (i + 1) (by omega) hi (by omega)

/-! ### The same by counting -/
theorem nodup_of_counts (hh : ∀ s, s ∈ l → hereS ts s = true) (h : ∀ k, k < ts.length → (l.map (plS ts)).count k ≤ 1) : (l.map (plS ts)).Nodup := by
  rw [List.nodup_iff_count]
  intro k
  by_cases hk : k < ts.length
  · exact h k hk
  · have : (l.map (plS ts)).count k = 0 := by
      rw [List.count_eq_zero]
      intro hm
      obtain ⟨s, hs, e⟩ := List.mem_map.1 hm
      have := (at_pl (hh s hs)).1
      omega
    omega
theorem full_of_nodup (hh : ∀ s, s ∈ l → hereS ts s = true) (hn : (l.map (plS ts)).Nodup) (hlen : ts.length ≤ l.length) {k : Nat} (hk : k < ts.length) : k ∈ l.map (plS ts) := by
  rcases Decidable.em (k ∈ l.map (plS ts)) with h | h
  · exact h
  · have h2 : (k :: l.map (plS ts)).Nodup := List.nodup_cons.2 ⟨h, hn⟩
    have h3 : (k :: l.map (plS ts)) ⊆ List.range ts.length := by
      intro x hx
      rw [List.mem_range]
      rcases List.mem_cons.1 hx with rfl | hx
      · exact hk
      · obtain ⟨s, hs, e⟩ := List.mem_map.1 hx
        have := (at_pl (hh s hs)).1
        omega
    have := h2.length_le_of_subset h3
    simp at this
    omega
theorem len_of_full (h : ∀ k, k < ts.length → k ∈ l.map (plS ts)) : ts.length ≤ l.length := by
  have h1 : (List.range ts.length).Nodup := List.nodup_range
  have h2 : List.range ts.length ⊆ l.map (plS ts) := fun x hx => h x (List.mem_range.1 hx)
  have := h1.length_le_of_subset h2
  simpa using this

end Go.Vg.Ytkaodeodiakldaa
