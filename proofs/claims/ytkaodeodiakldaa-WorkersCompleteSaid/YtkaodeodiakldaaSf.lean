/-
  The program's Merge is the plain one. Own work; no condition.
-/
import Derived.Test.YtkaodeodiakldaaWE
import Derived.Test.YtkaodeodiakldaaSe
namespace Go.Vg.Ytkaodeodiakldaa
open Go.Vg Go.Proofs

theorem room32 {n : Nat} (h : n ≤ 1000000) : roomB n (bytesB env 32) = true := by
  have hb : Nat.ble (bytesB env 32) 1000 = true := by kernel_rfl
  have hb := Nat.le_of_ble_eq_true hb
  have : n * bytesB env 32 ≤ 1000000 * 1000 := Nat.mul_le_mul h hb
  unfold roomB
  rw [decide_eq_true (by omega)]
  exact decide_eq_true (by omega)

theorem mput_mem {α β : Type} {f : α → Bool} {k : α} {v : β} {p : α × β} : ∀ {m : List (α × β)}, p ∈ mPut f k v m → p = (k, v) ∨ p ∈ m
  | [], h => by
    simp only [mPut, List.mem_singleton] at h
    exact Or.inl h
  | q :: r, h => by
    simp only [mPut] at h
    split at h
    · rcases List.mem_cons.1 h with h | h
      · exact Or.inl h
      · exact Or.inr (List.mem_cons_of_mem _ h)
    · rcases List.mem_cons.1 h with h | h
      · exact Or.inr (h ▸ List.mem_cons_self)
      · rcases mput_mem h with h | h
        · exact Or.inl h
        · exact Or.inr (List.mem_cons_of_mem _ h)
theorem places_pre : ∀ {ts : List Task} {i : Nat} {m : Mp}, i + ts.length < 2 ^ 62 → pre43 m → pre43 (placesL i ts m)
  | [], _, _, _, hm => hm
  | t :: ts, i, m, hl, hm => by
    have hl' : i + 1 + ts.length < 2 ^ 62 := by simp at hl; omega
    refine places_pre (ts := ts) (i := i + 1) hl' fun kv hk => ?_
    rcases mput_mem hk with rfl | hk
    · simp only; omega
    · exact hm kv hk

theorem l27 {l : List Segment} (hl : l.length ≤ 32) {x4 x5 x6 x7 x8 x10 : List Segment} {x9 : Mp} {k0 : List Segment → List Segment → List Segment → List Segment → List Segment → Mp → List Segment → List Segment → Prop} (h : k0 x4 x5 x6 x7 x8 x9 x10 l) : ∀ (m i : Nat), i + m = l.length → l_27x44_1 (m + 1) l l.length i x4 x5 x6 x7 x8 x9 x10 (l.take i) k0
  | 0, i, hi => by
    unfold l_27x44_1
    rw [ge_n (by omega), List.take_of_length_le (by omega)]
    exact h
  | m + 1, i, hi => by
    have hlt : i < l.length := by omega
    unfold l_27x44_1
    rw [lt_n hlt, in_n hlt, brT, brT, g32 hlt, succ_w hlt (by omega)]
    have e : l.take i ++ [Segment.mk l[i].from_ l[i].to_ l[i].begin_ l[i].end_ l[i].records] = l.take (i + 1) := by
      rw [List.take_succ_eq_append_getElem hlt]
    rw [e, room32 (by rw [List.length_take]; omega), brT]
    exact l27 hl h m (i + 1) (by omega)

theorem V27_spec {l : List Segment} (hl : l.length ≤ 32) {m : Mp} (hm : pre43 m) {K : List Segment → Prop} (h : ∀ l' : List Segment, l'.Perm l → l'.Pairwise (fun x y => place43 m x ≤ place43 m y) → K l') : V27 l m K := by
  rw [V27_eq]
  unfold B27
  refine ⟨l.length + 1, ?_⟩
  refine l27 hl ?_ l.length 0 (by omega)
  refine ⟨hm, by omega, fun l' hp hs _ => h l' hp (hs.imp fun {x y} q => ?_)⟩
  rw [lt43 hm] at q
  have := of_decide_eq_false q
  omega

theorem join_one (s : Segment) : ((joinS [s]).2 != 0) = !validS s := by
  unfold joinS
  rcases hv : validS s
  · simp [hv]
  · have h1 : ∀ p, adjB p [s] = true := fun p => adjB_iff.2 fun i hi => by simp at hi
    have h2 : ¬ 5000 < s.records.length := by have := valid_len hv; omega
    simp [hv, h1, recordsS, h2]

theorem l12_4 {ts : List Task} {l : List Segment} (hl : l.length ≤ 32) {x3 x7 x8 x9 x10 : Int} {kr : Int → Int → Int → Int → Int → Prop} {k0 : List Task → List Segment → Int → Int → Int → Int → Int → Prop} : ∀ (m i : Nat), i + m = l.length → ((l.drop i).all validS = true → k0 ts l x3 x7 x8 x9 x10) → ((l.drop i).all validS = false → kr 1 0 0 0 0) → l_12_4 (m + 1) ts l x3 l l.length i x7 x8 x9 x10 kr k0
  | 0, i, hi, hg, _ => by
    unfold l_12_4
    rw [ge_n (by omega)]
    rw [List.drop_of_length_le (by omega)] at hg
    exact hg rfl
  | m + 1, i, hi, hg, hb => by
    have hlt : i < l.length := by omega
    unfold l_12_4
    rw [lt_n hlt, in_n hlt, brT, brT, g32 hlt]
    rw [List.drop_eq_getElem_cons hlt, List.all_cons] at hg hb
    refine V24_spec ?_
    rw [join_one]
    rcases hv : validS l[i]
    · rw [hv] at hb
      exact hb rfl
    · rw [hv] at hg hb
      rw [succ_w hlt (by omega)]
      exact l12_4 hl m (i + 1) (by omega) hg hb

theorem l12_13 {ts : List Task} {l : List Segment} (hl : l.length ≤ 32) {x3 x7 x8 x9 x10 : Int} {kr : Int → Int → Int → Int → Int → Prop} {k0 : List Task → List Segment → Int → Int → Int → Int → Int → Mp → Prop} : ∀ (m i : Nat), i + m = l.length → ((l.drop i).all (hereS ts) = true → k0 ts l x3 x7 x8 x9 x10 (placesL 0 ts [])) → ((l.drop i).all (hereS ts) = false → kr 18 0 0 0 0) → l_12_13 (m + 1) ts l x3 l l.length i x7 x8 x9 x10 (placesL 0 ts []) kr k0
  | 0, i, hi, hg, _ => by
    unfold l_12_13
    rw [ge_n (by omega)]
    rw [List.drop_of_length_le (by omega)] at hg
    exact hg rfl
  | m + 1, i, hi, hg, hb => by
    have hlt : i < l.length := by omega
    unfold l_12_13
    rw [lt_n hlt, in_n hlt, brT, brT, g32 hlt]
    rw [List.drop_eq_getElem_cons hlt, List.all_cons] at hg hb
    have e : mHas (keyEq env 59 (stretch.mk l[i].from_ l[i].to_)) (placesL 0 ts []) = hereS ts l[i] := has_places l[i].from_ l[i].to_ ts 0 []
    rw [e]
    rcases hv : hereS ts l[i]
    · rw [hv] at hb
      exact hb rfl
    · rw [hv] at hg hb
      rw [succ_w hlt (by omega)]
      exact l12_13 hl m (i + 1) (by omega) hg hb

theorem place_pl {ts : List Task} (hp : ts.Pairwise (fun s t => s.from_ < t.from_)) {s : Segment} (h : hereS ts s = true) : place43 (placesL 0 ts []) s = plS ts s := by
  unfold hereS at h
  obtain ⟨j, hj⟩ := Option.isSome_iff_exists.1 h
  have e : plS ts s = j := by unfold plS; rw [hj]; rfl
  rw [e]
  exact get_places hp hj

theorem l12_21 {ts : List Task} {l l' : List Segment} (hl : l'.length ≤ 32) {mp : Mp} (hmp : ∀ s ∈ l', place43 mp s = plS ts s) {x3 x8 x9 x10 x11 : Int} {kr : Int → Int → Int → Int → Int → Prop} {k4 : List Task → List Segment → Int → List Segment → Int → Int → Int → Int → Prop} : ∀ (m i : Nat), i + m = l'.length - 1 → ((∀ j, i ≤ j → (hj : j + 1 < l'.length) → plS ts l'[j] ≠ plS ts l'[j + 1]) → k4 ts l x3 l' x8 x9 x10 x11) → ((∃ j, i ≤ j ∧ ∃ hj : j + 1 < l'.length, plS ts l'[j] = plS ts l'[j + 1]) → kr 5 0 0 0 0) → l_12_21 (m + 1) ts l x3 mp l' ((l'.length : Int) - 1) i x8 x9 x10 x11 kr k4
  | 0, i, hi, hg, _ => by
    unfold l_12_21
    rw [decide_eq_false (by omega)]
    exact hg fun j _ _ => by omega
  | m + 1, i, hi, hg, hb => by
    have hlt : i < l'.length := by omega
    have hlt' : i + 1 < l'.length := by omega
    unfold l_12_21
    rw [decide_eq_true (by omega), in_n hlt, brT, brT, g32 hlt, succ_w hlt (by omega), in_n hlt', g32 hlt']
    refine ⟨place43 mp l'[i], by rw [V26_eq]; rfl, ?_⟩
    rw [brT]
    refine ⟨place43 mp l'[i + 1], by rw [V26_eq]; rfl, ?_⟩
    rw [hmp _ (List.getElem_mem hlt), hmp _ (List.getElem_mem hlt')]
    by_cases hc : plS ts l'[i] = plS ts l'[i + 1]
    · rw [hc, beq_self_eq_true]
      exact hb ⟨i, Nat.le_refl _, hlt', hc⟩
    · have : (((plS ts l'[i] : Nat) : Int) == ((plS ts l'[i + 1] : Nat) : Int)) = false := by simp; omega
      rw [this]
      refine l12_21 hl hmp m (i + 1) (by omega) (fun ha => hg fun j h1 h2 => ?_) fun ⟨j, h1, h2, h3⟩ => hb ⟨j, by omega, h2, h3⟩
      by_cases hj : j = i
      · subst hj; exact hc
      · exact ha j (by omega) h2

theorem V12_spec {ts : List Task} {l : List Segment} (htl : ts.length ≤ 9223372036854775807) {K : Segment × Int → Prop} (h : K (mergeS ts l)) : V12 ts l K := by
  rw [V12_eq]
  unfold B12
  unfold mergeS at h
  refine V23_spec htl ?_
  rcases ht : tasksB ts
  · rw [if_pos (Or.inl ht)] at h; exact h
  rw [Bool.not_true, brF]
  refine br_i (fun c => ?_) fun c1 => ?_
  · rw [if_pos (Or.inr (by simp at c; omega))] at h; exact h
  have hl : l.length ≤ 32 := by simp at c1; omega
  rw [if_neg (by rw [ht]; simp; omega)] at h
  have hok := tasksB_iff.1 ht
  have hp := tasks_pair hok
  have hn32 := hok.2.2
  unfold s_12_3
  refine ⟨l.length + 1, l12_4 hl l.length 0 (by omega) (fun hv => ?_) fun hv => ?_⟩
  · rw [List.drop_zero] at hv
    rw [hv, if_neg (by decide)] at h
    refine V25_spec htl ⟨l.length + 1, l12_13 hl l.length 0 (by omega) (fun hh => ?_) fun hh => ?_⟩
    · rw [List.drop_zero] at hh
      rw [hh, if_neg (by decide)] at h
      have hh' : ∀ s ∈ l, hereS ts s = true := List.all_eq_true.1 hh
      rw [V28_eq]
      refine V27_spec hl (places_pre (by omega) fun _ hk => by cases hk) fun l' hperm hs => ?_
      have hmem : ∀ s ∈ l', hereS ts s = true := fun s hs => hh' s (hperm.mem_iff.1 hs)
      have hle : ∀ j, (hj : j + 1 < l'.length) → plS ts l'[j] ≤ plS ts l'[j + 1] := fun j hj => by
        have := List.pairwise_iff_getElem.1 hs j (j + 1) (by omega) hj (by omega)
        rw [place_pl hp (hmem _ (List.getElem_mem _)), place_pl hp (hmem _ (List.getElem_mem _))] at this
        omega
      have hlen := hperm.length_eq
      refine ⟨l'.length - 1 + 1, ?_⟩
      rw [wrap_i (by omega) (by omega)]
      refine l12_21 (by omega) (fun s hs => place_pl hp (hmem s hs)) (l'.length - 1) 0 (by omega) (fun ha => ?_) fun hb => ?_
      · have hinc : ∀ i, (hi : i + 1 < l'.length) → plS ts l'[i] < plS ts l'[i + 1] := fun i hi => by
          have := hle i hi
          have := ha i (by omega) hi
          omega
        have hn : (l.map (plS ts)).Nodup := (hperm.map (plS ts)).nodup_iff.1 (incr_nodup hinc)
        rw [if_neg (fun q => q hn)] at h
        refine br_i (fun c => ?_) fun c => ?_
        · rw [if_pos (by simp at c; omega)] at h; exact h
        · have hlen2 : ts.length ≤ l.length := by simp at c; omega
          rw [if_neg (by omega), ← sorted_eq hok hperm hh' hlen2 hinc] at h
          refine V24_spec ?_
          exact h
      · obtain ⟨j, _, hj, he⟩ := hb
        have hn : ¬ (l.map (plS ts)).Nodup := fun hn => nodup_ne ((hperm.map (plS ts)).nodup_iff.2 hn) hj he
        rw [if_pos hn] at h
        exact h
    · rw [List.drop_zero] at hh
      rw [hh, if_pos rfl] at h
      exact h
  · rw [List.drop_zero] at hv
    rw [hv, if_pos rfl] at h
    exact h

end Go.Vg.Ytkaodeodiakldaa
