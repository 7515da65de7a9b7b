/-
  The reference's Merge is the plain one: by counting. Own work; no condition.
-/
import Derived.Test.YtkaodeodiakldaaSg
namespace Go.Vg.Ytkaodeodiakldaa
open Go.Vg Go.Proofs

theorem room3 {n : Nat} (h : n ≤ 1000000) : roomB n (bytesB env 3) = true := by
  have hb : Nat.ble (bytesB env 3) 1000 = true := by kernel_rfl
  have hb := Nat.le_of_ble_eq_true hb
  have : n * bytesB env 3 ≤ 1000000 * 1000 := Nat.mul_le_mul h hb
  unfold roomB
  rw [decide_eq_true (by omega)]
  exact decide_eq_true (by omega)

theorem l32_2 {ts : List Task} (hl : ts.length ≤ 9223372036854775807) {a b x2 x6 x7 : Int} {x8 : List Record} {kr k0 : Int → Prop} : ∀ (m i : Nat), i + m = ts.length → (∀ j, belS a b i (ts.drop i) = some j → kr j) → (belS a b i (ts.drop i) = none → k0 x2) → l_32_2 (m + 1) ts x2 i a b x6 x7 x8 kr k0
  | 0, i, hi, _, hn => by
    unfold l_32_2
    rw [ge_n (by omega)]
    rw [List.drop_of_length_le (by omega)] at hn
    exact hn rfl
  | m + 1, i, hi, hs, hn => by
    have hlt : i < ts.length := by omega
    unfold l_32_2
    rw [lt_n hlt, in_n hlt, brT, brT, brT, g39 hlt]
    rw [List.drop_eq_getElem_cons hlt] at hs hn
    simp only [belS] at hs hn
    by_cases h1 : ts[i].from_ = a
    · by_cases h2 : ts[i].to_ = b
      · rw [if_pos ⟨h1, h2⟩] at hs
        rw [h1, h2, beq_self_eq_true, beq_self_eq_true]
        exact hs i rfl
      · rw [if_neg (fun q => h2 q.2)] at hs hn
        rw [h1, beq_self_eq_true, beq_false_of_ne h2, brT, brF, succ_w hlt hl]
        exact l32_2 hl m (i + 1) (by omega) hs hn
    · rw [if_neg (fun q => h1 q.1)] at hs hn
      rw [beq_false_of_ne h1, brF, succ_w hlt hl]
      exact l32_2 hl m (i + 1) (by omega) hs hn
theorem V32_spec {ts : List Task} (hl : ts.length ≤ 9223372036854775807) {s : Segment} {K : Int → Prop} (h : K (if hereS ts s then (plS ts s : Int) else -1)) : V32 ts s K := by
  rw [V32_eq]
  unfold B32
  refine ⟨ts.length + 1, l32_2 hl ts.length 0 (by omega) (fun j hj => ?_) fun hn => ?_⟩
  · rw [List.drop_zero] at hj
    unfold hereS plS at h
    rw [hj] at h
    exact h
  · rw [List.drop_zero] at hn
    unfold hereS plS at h
    rw [hn] at h
    exact h

theorem l13_5 {ts : List Task} {l : List Segment} (hl : l.length ≤ 32) {x3 x5 x6 x7 x8 : Int} {kr : Int → Int → Int → Int → Int → Prop} {k0 : List Task → List Segment → Int → Int → Int → Int → Int → Prop} : ∀ (m i : Nat), i + m = l.length → ((l.drop i).all validS = true → k0 ts l x3 x5 x6 x7 x8) → ((l.drop i).all validS = false → kr 1 0 0 0 0) → l_13_5 (m + 1) ts l x3 i x5 x6 x7 x8 kr k0
  | 0, i, hi, hg, _ => by
    unfold l_13_5
    rw [ge_n (by omega)]
    rw [List.drop_of_length_le (by omega)] at hg
    exact hg rfl
  | m + 1, i, hi, hg, hb => by
    have hlt : i < l.length := by omega
    unfold l_13_5
    rw [lt_n hlt, in_n hlt, brT, brT, g32 hlt]
    rw [List.drop_eq_getElem_cons hlt, List.all_cons] at hg hb
    refine V31_spec ?_
    rcases hv : validS l[i]
    · rw [hv] at hb
      exact hb rfl
    · rw [hv] at hg hb
      rw [Bool.not_true, brF, succ_w hlt (by omega)]
      exact l13_5 hl m (i + 1) (by omega) hg hb

/-- What the two rows hold after i segments. -/
structure Inv (ts : List Task) (l : List Segment) (i : Nat) (many : List Int) (sorted : List Segment) : Prop where
  lm : many.length = ts.length
  ls : sorted.length = ts.length
  cnt : ∀ k, k < ts.length → many.getD k 0 = (((l.take i).map (plS ts)).count k : Int)
  srt : ∀ k, k < ts.length → ∀ s, s ∈ l.take i → plS ts s = k → ((l.take i).map (plS ts)).count k ≤ 1 → sorted.getD k zS = s

theorem l13_13 {ts : List Task} (htl : ts.length ≤ 32) {l : List Segment} (hl : l.length ≤ 32) {x3 x5 x6 x7 x8 : Int} {kr : Int → Int → Int → Int → Int → Prop} {k2 : Int → Int → Int → Int → Int → List Int → List Segment → Prop} : ∀ (m i : Nat) (many : List Int) (sorted : List Segment), i + m = l.length → Inv ts l i many sorted → ((l.drop i).all (hereS ts) = true → ∀ many' sorted', Inv ts l l.length many' sorted' → k2 x3 x5 x6 x7 x8 many' sorted') → ((l.drop i).all (hereS ts) = false → kr 18 0 0 0 0) → l_13_13 (m + 1) ts l x3 i x5 x6 x7 x8 many sorted kr k2
  | 0, i, many, sorted, hi, iv, hg, _ => by
    unfold l_13_13
    rw [ge_n (by omega)]
    rw [List.drop_of_length_le (by omega)] at hg
    exact hg rfl _ _ (by rw [show l.length = i by omega]; exact iv)
  | m + 1, i, many, sorted, hi, iv, hg, hb => by
    have hlt : i < l.length := by omega
    unfold l_13_13
    rw [lt_n hlt, in_n hlt, brT, brT, g32 hlt]
    rw [List.drop_eq_getElem_cons hlt, List.all_cons] at hg hb
    refine V32_spec (by omega) ?_
    rcases hv : hereS ts l[i]
    · rw [hv] at hb
      exact hb rfl
    · rw [hv] at hg hb
      have hq := (at_pl hv).1
      have hm : plS ts l[i] < many.length := by rw [iv.lm]; exact hq
      have hs : plS ts l[i] < sorted.length := by rw [iv.ls]; exact hq
      have g0 : many.getD (plS ts l[i]) 0 = many[plS ts l[i]] := by simp [List.getD, hm]
      have hc := iv.cnt _ hq
      have hcl : ((l.take i).map (plS ts)).count (plS ts l[i]) ≤ i := by
        have := List.count_le_length (a := plS ts l[i]) (l := (l.take i).map (plS ts))
        rw [List.length_map, List.length_take] at this
        omega
      rw [if_pos rfl]
      show br (decide (((plS ts l[i] : Nat) : Int) < 0)) (kr 18 0 0 0 0) _
      rw [decide_eq_false (by omega), brF, in_n hm, brT, brT, brT, in_n hs, brT, g3 hm, succ_w hlt (by omega), Int.toNat_natCast, ← g0, hc, wrap_i (by omega) (by omega)]
      refine l13_13 htl hl m (i + 1) _ _ (by omega) ⟨by rw [List.length_set]; exact iv.lm, by rw [List.length_set]; exact iv.ls, fun k hk => ?_, fun k hk s hsm hpl hcnt => ?_⟩ hg hb
      · rw [List.take_succ_eq_append_getElem hlt, List.map_append, List.count_append]
        by_cases e : plS ts l[i] = k
        · subst e
          simp [List.getD, hm]
        · have := iv.cnt k hk
          simp only [List.getD] at this ⊢
          rw [List.getElem?_set_ne e, this]
          simp [e]
      · rw [List.take_succ_eq_append_getElem hlt, List.map_append, List.count_append] at hcnt
        rw [List.take_succ_eq_append_getElem hlt, List.mem_append, List.mem_singleton] at hsm
        by_cases e : plS ts l[i] = k
        · subst e
          rcases hsm with hsm | rfl
          · have : plS ts l[i] ∈ (l.take i).map (plS ts) := List.mem_map.2 ⟨s, hsm, hpl⟩
            have := List.one_le_count_iff.2 this
            simp only [List.map_cons, List.map_nil, List.count_singleton_self] at hcnt
            omega
          · simp [List.getD, hs]
        · rcases hsm with hsm | rfl
          · have := iv.srt k hk s hsm hpl (by simp only [List.map_cons, List.map_nil, List.count_singleton] at hcnt; omega)
            simp only [List.getD] at this ⊢
            rw [List.getElem?_set_ne e]
            exact this
          · exact absurd hpl e

theorem l13_21 {x1 x3 x4 x5 x6 : Int} {many : List Int} {sorted : List Segment} (hl : many.length ≤ 32) {kr : Int → Int → Int → Int → Int → Prop} {k4 : Int → Int → Int → Int → Int → List Int → List Segment → Prop} : ∀ (m i : Nat), i + m = many.length → ((∀ j, i ≤ j → j < many.length → many.getD j 0 ≤ 1) → k4 x1 x3 x4 x5 x6 many sorted) → ((∃ j, i ≤ j ∧ j < many.length ∧ 1 < many.getD j 0) → kr 5 0 0 0 0) → l_13_21 (m + 1) x1 i x3 x4 x5 x6 many sorted kr k4
  | 0, i, hi, hg, _ => by
    unfold l_13_21
    rw [ge_n (by omega)]
    exact hg fun j _ _ => by omega
  | m + 1, i, hi, hg, hb => by
    have hlt : i < many.length := by omega
    unfold l_13_21
    have g1 : many.getD i 0 = many[i] := by simp [List.getD, hlt]
    rw [lt_n hlt, in_n hlt, brT, brT, g3 hlt, succ_w hlt (by omega)]
    refine br_i (fun c => hb ⟨i, Nat.le_refl _, hlt, by rw [g1]; simpa using c⟩) fun c => ?_
    have c := of_decide_eq_false c
    refine l13_21 hl m (i + 1) (by omega) (fun ha => hg fun j h1 h2 => ?_) fun ⟨j, h1, h2, h3⟩ => hb ⟨j, by omega, h2, h3⟩
    by_cases hj : j = i
    · rw [hj, g1]; omega
    · exact ha j (by omega) h2
theorem l13_26 {x1 x3 x4 x5 x6 : Int} {many : List Int} {sorted : List Segment} (hl : many.length ≤ 32) {kr : Int → Int → Int → Int → Int → Prop} {k6 : Int → Int → Int → Int → Int → List Segment → Prop} : ∀ (m i : Nat), i + m = many.length → ((∀ j, i ≤ j → j < many.length → many.getD j 0 ≠ 0) → k6 x1 x3 x4 x5 x6 sorted) → ((∃ j, i ≤ j ∧ j < many.length ∧ many.getD j 0 = 0) → kr 4 0 0 0 0) → l_13_26 (m + 1) x1 i x3 x4 x5 x6 many sorted kr k6
  | 0, i, hi, hg, _ => by
    unfold l_13_26
    rw [ge_n (by omega)]
    exact hg fun j _ _ => by omega
  | m + 1, i, hi, hg, hb => by
    have hlt : i < many.length := by omega
    unfold l_13_26
    have g1 : many.getD i 0 = many[i] := by simp [List.getD, hlt]
    rw [lt_n hlt, in_n hlt, brT, brT, g3 hlt, succ_w hlt (by omega)]
    refine br_i (fun c => hb ⟨i, Nat.le_refl _, hlt, by rw [g1]; simpa using c⟩) fun c => ?_
    refine l13_26 hl m (i + 1) (by omega) (fun ha => hg fun j h1 h2 => ?_) fun ⟨j, h1, h2, h3⟩ => hb ⟨j, by omega, h2, h3⟩
    by_cases hj : j = i
    · rw [hj, g1]; simpa using c
    · exact ha j (by omega) h2

theorem V13_spec {ts : List Task} {l : List Segment} (htl : ts.length ≤ 9223372036854775807) {K : Segment × Int → Prop} (h : K (mergeS ts l)) : V13 ts l K := by
  rw [V13_eq]
  unfold B13
  unfold mergeS at h
  refine V30_spec htl ?_
  rcases ht : tasksB ts
  · rw [if_pos (Or.inl ht)] at h; exact h
  rw [Bool.not_true, brF]
  refine br_i (fun c => ?_) fun c1 => ?_
  · rw [if_pos (Or.inr (by simp at c; omega))] at h; exact h
  have hl : l.length ≤ 32 := by simp at c1; omega
  rw [if_neg (by rw [ht]; simp; omega)] at h
  have hok := tasksB_iff.1 ht
  have hn32 := hok.2.2
  have hp := tasks_pair hok
  unfold s_13_4
  refine ⟨l.length + 1, l13_5 hl l.length 0 (by omega) (fun hv => ?_) fun hv => ?_⟩
  · rw [List.drop_zero] at hv
    rw [hv, if_neg (by decide)] at h
    rw [Int.toNat_natCast, room3 (by omega), room32 (by omega), show leb 0 (ts.length : Int) = true from decide_eq_true (by omega), show leb (ts.length : Int) (ts.length : Int) = true from decide_eq_true (by omega)]
    refine ⟨l.length + 1, l13_13 hn32 hl l.length 0 _ _ (by omega) ⟨by simp, by simp, fun k hk => by simp [List.getD, hk], fun k hk s hs => by simp at hs⟩ (fun hh many sorted iv => ?_) fun hh => ?_⟩
    · rw [List.drop_zero] at hh
      rw [hh, if_neg (by decide)] at h
      have hh' : ∀ s ∈ l, hereS ts s = true := List.all_eq_true.1 hh
      obtain ⟨lm, ls, cnt, srt⟩ := iv
      rw [List.take_length] at cnt srt
      refine ⟨many.length + 1, l13_21 (by omega) many.length 0 (by omega) (fun h1 => ?_) fun ⟨j, _, hj, h1⟩ => ?_⟩
      · have hn : (l.map (plS ts)).Nodup := nodup_of_counts hh' fun k hk => by
          have := h1 k (by omega) (by omega)
          rw [cnt k hk] at this
          omega
        rw [if_neg (fun q => q hn)] at h
        refine ⟨many.length + 1, l13_26 (by omega) many.length 0 (by omega) (fun h2 => ?_) fun ⟨j, _, hj, h2⟩ => ?_⟩
        · have hfull : ∀ k, k < ts.length → k ∈ l.map (plS ts) := fun k hk => by
            have := h2 k (by omega) (by omega)
            rw [cnt k hk] at this
            exact List.one_le_count_iff.1 (by omega)
          have := len_of_full hfull
          rw [if_neg (by omega)] at h
          have hat : ∀ k, (hk : k < sorted.length) → sorted[k] ∈ l ∧ plS ts sorted[k] = k := fun k hk => by
            have hk' : k < ts.length := by omega
            obtain ⟨s, hs, e⟩ := List.mem_map.1 (hfull k hk')
            have c1 : ((l.map (plS ts)).count k) ≤ 1 := List.nodup_iff_count.1 hn k
            have := srt k hk' s hs e c1
            have g : sorted.getD k zS = sorted[k] := by simp [List.getD, hk]
            rw [g] at this
            rw [this]
            exact ⟨hs, e⟩
          have e := sort_eq (l := l) hp (l' := sorted) (fun s hs => ?_) (fun s hs => ?_) hh' ls fun i hi => (hat i hi).2
          · rw [← e] at h
            refine V33_spec ?_
            exact h
          · have hq := (at_pl (hh' s hs)).1
            have c1 : ((l.map (plS ts)).count (plS ts s)) ≤ 1 := List.nodup_iff_count.1 hn _
            have := srt _ hq s hs rfl c1
            have g : sorted.getD (plS ts s) zS = sorted[plS ts s]'(by omega) := by simp [List.getD, show plS ts s < sorted.length by omega]
            rw [← this, g]
            exact List.getElem_mem _
          · obtain ⟨k, hk, rfl⟩ := List.getElem_of_mem hs
            exact (hat k hk).1
        · have hj' : j < ts.length := by omega
          rw [cnt j hj'] at h2
          have hlt : l.length < ts.length := by
            rcases Nat.lt_or_ge l.length ts.length with q | q
            · exact q
            · have := List.one_le_count_iff.2 (full_of_nodup hh' hn q hj')
              omega
          rw [if_pos hlt] at h
          exact h
      · have hj' : j < ts.length := by omega
        rw [cnt j hj'] at h1
        have hn : ¬ (l.map (plS ts)).Nodup := fun hn => by
          have := List.nodup_iff_count.1 hn j
          omega
        rw [if_pos hn] at h
        exact h
    · rw [List.drop_zero] at hh
      rw [hh, if_pos rfl] at h
      exact h
  · rw [List.drop_zero] at hv
    rw [hv, if_pos rfl] at h
    exact h

end Go.Vg.Ytkaodeodiakldaa
