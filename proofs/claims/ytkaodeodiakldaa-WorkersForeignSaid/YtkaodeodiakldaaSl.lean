/-
  The laws WorkersComplete and WorkersForeign as plain statements. Own work; no condition.
-/
import Derived.Test.YtkaodeodiakldaaSk
namespace Go.Vg.Ytkaodeodiakldaa
open Go.Vg Go.Proofs

variable {ts : List Task} {l : List Segment}

theorem merge_val (hok : TasksOk ts) (hl : l.length ≤ 32) (hv : ∀ s ∈ l, validS s = true) : mergeS ts l = if l.all (hereS ts) = false then (zS, 18) else if ¬ (l.map (plS ts)).Nodup then (zS, 5) else if l.length < ts.length then (zS, 4) else joinS (sortS ts l) := by
  have h1 : l.all validS = true := List.all_eq_true.2 hv
  unfold mergeS
  rw [tasksB_iff.2 hok, if_neg (by simp; omega), h1, if_neg (by decide)]
theorem merge_less (g : Good ts l) {j : Nat} (hj : j < l.length) : (mergeS ts (l.take j ++ l.drop (j + 1))).2 = 4 := by
  rw [← List.eraseIdx_eq_take_drop_succ]
  have hs := List.eraseIdx_sublist l j
  have hlen := List.length_eraseIdx_of_lt hj
  have h32 := g.ok.2.2
  have hg := g.len
  have h2 : (l.eraseIdx j).all (hereS ts) = true := List.all_eq_true.2 fun s h => g.here s (hs.subset h)
  have h3 : ((l.eraseIdx j).map (plS ts)).Nodup := g.nodup.sublist (hs.map _)
  rw [merge_val g.ok (by omega) fun s h => g.val s (hs.subset h), h2, if_neg (by decide), if_neg (fun q => q h3), if_pos (by omega)]
theorem merge_more (g : Good ts l) (hl : l.length ≤ 31) {j : Nat} (hj : j < l.length) : (mergeS ts (l ++ [l[j]])).2 = 5 := by
  have hm := List.getElem_mem hj
  have h2 : (l ++ [l[j]]).all (hereS ts) = true := List.all_eq_true.2 fun s h => by
    rcases List.mem_append.1 h with h | h
    · exact g.here s h
    · rw [List.mem_singleton.1 h]; exact g.here _ hm
  have h3 : ¬ ((l ++ [l[j]]).map (plS ts)).Nodup := fun q => by
    rw [List.nodup_iff_count] at q
    have := q (plS ts l[j])
    rw [List.map_append, List.count_append] at this
    have h4 := List.one_le_count_iff.2 (List.mem_map.2 ⟨l[j], hm, rfl⟩ : plS ts l[j] ∈ l.map (plS ts))
    simp only [List.map_cons, List.map_nil, List.count_singleton_self] at this
    omega
  rw [merge_val g.ok (by simp; omega) fun s h => by
    rcases List.mem_append.1 h with h | h
    · exact g.val s h
    · rw [List.mem_singleton.1 h]; exact g.val _ hm, h2, if_neg (by decide), if_pos h3]
theorem rec_longer {T T' e : Int} (ht : T ≤ T') : ∀ {l : List Record} {a d : Int}, recS T a d l = some e → recS T' a d l = some e
  | [], _, _, h => h
  | r :: rs, a, d, h => by
    simp only [recS] at h ⊢
    split at h
    · cases h
    · rw [if_neg (by omega)]
      exact rec_longer ht h
theorem pair_from (hp : ts.Pairwise (fun s t => s.from_ < t.from_)) {i k : Nat} (hi : i < ts.length) (hk : k < ts.length) (e : ts[i].from_ = ts[k].from_) : i = k := by
  rcases Nat.lt_trichotomy i k with q | q | q
  · have := List.pairwise_iff_getElem.1 hp i k hi hk q; omega
  · exact q
  · have := List.pairwise_iff_getElem.1 hp k i hk hi q; omega
theorem merge_long (g : Good ts l) {j : Nat} (hj : j < l.length) (h10 : l[j].to_ ≠ 10000000) : (mergeS ts (l.set j (Segment.mk l[j].from_ (l[j].to_ + 1) l[j].begin_ l[j].end_ l[j].records))).2 = 18 := by
  have hv := valid_iff.1 (g.val _ (List.getElem_mem hj))
  have h1 : validS (Segment.mk l[j].from_ (l[j].to_ + 1) l[j].begin_ l[j].end_ l[j].records) = true := by
    refine valid_iff.2 ⟨hv.1, ?_, ?_, hv.2.2.2.1, ?_⟩
    · show l[j].from_ ≤ l[j].to_ + 1
      omega
    · show l[j].to_ + 1 ≤ 10000000
      omega
    · exact rec_longer (by show l[j].to_ ≤ l[j].to_ + 1; omega) hv.2.2.2.2
  have h2 : hereS ts (Segment.mk l[j].from_ (l[j].to_ + 1) l[j].begin_ l[j].end_ l[j].records) = false := by
    rcases hh : hereS ts (Segment.mk l[j].from_ (l[j].to_ + 1) l[j].begin_ l[j].end_ l[j].records)
    · rfl
    · exfalso
      obtain ⟨q1, q2⟩ := at_pl hh
      obtain ⟨r1, r2⟩ := at_pl (g.here _ (List.getElem_mem hj))
      unfold atT at q2 r2
      simp only [decide_eq_true_eq] at q2 r2
      have e := pair_from (tasks_pair g.ok) q1 r1 (by rw [q2.1, r2.1])
      have e2 : ts[plS ts (Segment.mk l[j].from_ (l[j].to_ + 1) l[j].begin_ l[j].end_ l[j].records)].to_ = ts[plS ts l[j]].to_ := by
        simp only [e]
      omega
  have h3 : (l.set j (Segment.mk l[j].from_ (l[j].to_ + 1) l[j].begin_ l[j].end_ l[j].records)).all (hereS ts) = false := by
    rw [List.all_eq_false]
    exact ⟨_, List.mem_set (by omega) _, by rw [h2]; decide⟩
  have h32 := g.ok.2.2
  have hg := g.len
  rw [merge_val g.ok (by rw [List.length_set]; omega) fun s h => by
    rcases List.mem_or_eq_of_mem_set h with h | h
    · exact g.val s h
    · rw [h]; exact h1, h3, if_pos rfl]

/-! ### Another digest -/
def digL (d : Int) : List Record → Int
  | [] => d
  | r :: rs => digL (digS d r) rs
theorem rec_dig {T : Int} : ∀ {l : List Record} {a d e : Int}, recS T a d l = some e → ∀ d', recS T a d' l = some (digL d' l)
  | [], _, _, _, _, _ => rfl
  | r :: rs, a, d, e, h, d' => by
    simp only [recS] at h ⊢
    split at h
    · cases h
    · rename_i hn
      rw [if_neg hn]
      exact rec_dig h _
theorem find_unique (hp : ts.Pairwise (fun s t => s.from_ < t.from_)) (hn : (l.map (plS ts)).Nodup) {k : Nat} (hk : k < ts.length) {s : Segment} (hs : s ∈ l) (ha : atT ts[k] s = true) : l.find? (atT ts[k]) = some s := by
  rcases h : l.find? (atT ts[k]) with _ | x
  · exact absurd ha (List.find?_eq_none.1 h s hs)
  · have x1 := List.find?_some h
    have x2 := List.mem_of_find?_eq_some h
    rw [nodup_inj hn x2 hs (by rw [(pl_at hp hk x1).1, (pl_at hp hk ha).1])]

theorem merge_foreign (g : Good ts l) {j : Nat} (hj : j < l.length) (h0 : l[j].from_ ≠ (ts.getD 0 zT).from_) {b' : Int} (hb : b' ≠ l[j].begin_) : (mergeS ts (l.set j (Segment.mk l[j].from_ l[j].to_ b' (digL b' l[j].records) l[j].records))).2 = 11 := by
  generalize hx' : Segment.mk l[j].from_ l[j].to_ b' (digL b' l[j].records) l[j].records = x'
  have xf : x'.from_ = l[j].from_ := by rw [← hx']
  have xt : x'.to_ = l[j].to_ := by rw [← hx']
  have xb : x'.begin_ = b' := by rw [← hx']
  have hm := List.getElem_mem hj
  have hv := valid_iff.1 (g.val _ hm)
  have hp := tasks_pair g.ok
  have h32 := g.ok.2.2
  have hg := g.len
  have v1 : validS x' = true := by
    refine valid_iff.2 ⟨by rw [xf]; exact hv.1, by rw [xf, xt]; exact hv.2.1, by rw [xt]; exact hv.2.2.1, ?_, ?_⟩
    · rw [← hx']; exact hv.2.2.2.1
    · rw [← hx']; exact rec_dig hv.2.2.2.2 b'
  have p1 : plS ts x' = plS ts l[j] := by unfold plS; rw [xf, xt]
  have hh1 : hereS ts x' = hereS ts l[j] := by unfold hereS; rw [xf, xt]
  have a1 : ∀ t, atT t x' = atT t l[j] := fun t => by unfold atT; rw [xf, xt]
  have hmap : (l.set j x').map (plS ts) = l.map (plS ts) := by
    rw [List.map_set, p1]
    have : plS ts l[j] = (l.map (plS ts))[j]'(by simpa using hj) := by simp
    rw [this, List.set_getElem_self]
  have hmem : ∀ s ∈ l.set j x', s ∈ l ∨ s = x' := fun s h => List.mem_or_eq_of_mem_set h
  have h2 : (l.set j x').all (hereS ts) = true := List.all_eq_true.2 fun s h => by
    rcases hmem s h with h | h
    · exact g.here s h
    · rw [h, hh1]; exact g.here _ hm
  have hn' : ((l.set j x').map (plS ts)).Nodup := by rw [hmap]; exact g.nodup
  obtain ⟨r1, r2⟩ := at_pl (g.here _ hm)
  have hls : (sortS ts (l.set j x')).length = ts.length := by simp [sortS]
  have hls0 : (sortS ts l).length = ts.length := by simp [sortS]
  have srt : ∀ k, k < ts.length → (sortS ts (l.set j x')).getD k zS = if k = plS ts l[j] then x' else (sortS ts l).getD k zS := fun k hk => by
    have e : (sortS ts (l.set j x')).getD k zS = ((l.set j x').find? (atT ts[k])).getD zS := by simp [List.getD, sortS, hk]
    rw [e]
    by_cases hkp : k = plS ts l[j]
    · rw [if_pos hkp]
      subst hkp
      rw [find_unique hp hn' hk (List.mem_set (by omega) _) (by rw [a1]; exact r2)]
      rfl
    · rw [if_neg hkp]
      obtain ⟨s1, s2⟩ := g.at hk
      have hin : (sortS ts l).getD k zS ∈ l.set j x' := by
        obtain ⟨i, hi, ei⟩ := List.getElem_of_mem s1
        have hij : j ≠ i := fun q => by
          subst q
          rw [← ei] at s2
          exact hkp (pl_at hp hk s2).1.symm
        have : (l.set j x')[i]'(by rw [List.length_set]; exact hi) = l[i] := List.getElem_set_ne hij _
        rw [← ei, ← this]
        exact List.getElem_mem _
      rw [find_unique hp hn' hk hin s2]
      rfl
  have hft : ∀ k, k < ts.length → ((sortS ts (l.set j x')).getD k zS).from_ = ((sortS ts l).getD k zS).from_ ∧ ((sortS ts (l.set j x')).getD k zS).to_ = ((sortS ts l).getD k zS).to_ := fun k hk => by
    rw [srt k hk]
    split
    · rename_i hkp
      have := (g.at hk).2
      unfold atT at this r2
      simp only [decide_eq_true_eq] at this r2
      subst hkp
      rw [xf, xt]
      exact ⟨by rw [← this.1, r2.1], by rw [← this.2, r2.2]⟩
    · exact ⟨rfl, rfl⟩
  have atx : (sortS ts l).getD (plS ts l[j]) zS = l[j] := by
    have e : (sortS ts l).getD (plS ts l[j]) zS = (l.find? (atT ts[plS ts l[j]])).getD zS := by simp [List.getD, sortS, r1]
    rw [e, find_unique hp g.nodup r1 hm r2]
    rfl
  have hpos : 0 < plS ts l[j] := by
    rcases Nat.eq_zero_or_pos (plS ts l[j]) with q | q
    · exfalso
      unfold atT at r2
      simp only [decide_eq_true_eq] at r2
      refine h0 ?_
      have e : ts.getD 0 zT = ts[plS ts l[j]] := by simp [List.getD, q, show 0 < ts.length by omega]
      rw [e]
      exact r2.1.symm
    · exact q
  have hj2 : joinS (sortS ts (l.set j x')) = (zS, 11) := by
    unfold joinS
    have sv : (sortS ts (l.set j x')).all validS = true := List.all_eq_true.2 fun s hs => by
      obtain ⟨k, hk, rfl⟩ := List.getElem_of_mem hs
      have hk' : k < ts.length := by omega
      have e : (sortS ts (l.set j x'))[k] = (sortS ts (l.set j x')).getD k zS := by simp [List.getD, hk]
      rw [e, srt k hk']
      split
      · exact v1
      · exact g.val _ (g.at hk').1
    have st : adjB timeS (sortS ts (l.set j x')) = true := adjB_iff.2 fun i hi => by
      have := adjB_iff.1 g.time i (by omega)
      unfold timeS at this ⊢
      rw [(hft i (by omega)).2, (hft (i + 1) (by omega)).1]
      exact this
    have ss : adjB sumS (sortS ts (l.set j x')) = false := Bool.eq_false_iff.2 fun q => by
      have q1 := adjB_iff.1 q (plS ts l[j] - 1) (by omega)
      have q2 := adjB_iff.1 g.sum (plS ts l[j] - 1) (by omega)
      rw [show plS ts l[j] - 1 + 1 = plS ts l[j] by omega] at q1 q2
      rw [srt _ (by omega), srt _ r1, if_neg (by omega), if_pos rfl] at q1
      rw [atx] at q2
      unfold sumS at q1 q2
      simp only [beq_iff_eq] at q1 q2
      exact hb (by rw [← xb, ← q1, q2])
    rw [if_neg (by omega), sv, if_neg (by decide), st, if_neg (by decide), ss, if_pos rfl]
  rw [merge_val g.ok (by rw [List.length_set]; omega) fun s h => by
    rcases hmem s h with h | h
    · exact g.val s h
    · rw [h]; exact v1, h2, if_neg (by decide), if_neg (fun q => q hn'), if_neg (by rw [List.length_set]; omega), hj2]

/-! ### The laws -/
theorem pureWorkersComplete (ts : List Task) (l : List Segment) (which : Int) (ht : (∀ z0 ∈ ts, fitTask z0) ∧ List.length ts ≤ 9223372036854775807) (hl : (∀ z0 ∈ l, fitSegment z0) ∧ List.length l ≤ 9223372036854775807) (hw : fitI .u8 which) : V6 ts l which (fun b => b = true) := by
  rw [V6_eq]
  unfold B6
  refine V8_spec (V9_spec hl.2 (V12_spec ht.2 ?_))
  refine br_i (fun _ => rfl) fun _ => ?_
  refine br_i (fun _ => rfl) fun he => ?_
  refine br_i (fun _ => rfl) fun h31 => ?_
  refine br_i (fun _ => rfl) fun h0 => ?_
  have g := good (ts := ts) (l := l) (by simpa using he)
  have h31 := of_decide_eq_false h31
  have hw := fit_u8 hw
  have h1 : 0 < l.length := by
    rcases Nat.eq_zero_or_pos l.length with q | q
    · rw [q] at h0; simp at h0
    · exact q
  unfold s_6_6
  obtain ⟨j, hj, ej⟩ := tmod_n (x := which) hw.1 h1
  have hz : (!(l.length : Int) == 0) = true := by rw [h0]; rfl
  have r32 : ∀ n : Nat, n ≤ 1000 → roomB n (bytesB env 32) = true := fun n hn => room32 (by omega)
  rw [show List.replicate 0 (Segment.mk 0 0 0 0 []) = [] from rfl, List.nil_append, List.nil_append, wrap_id (z := which) (by omega) (by omega), ej, hz, brT, wrap_id (z := (j : Int) + 1) (by omega) (by omega), wrap_id (z := (l.length : Int) + 1) (by omega) (by omega)]
  have c1 : cutL l ((none : Option Int).getD 0) ((some (j : Int)).getD (l.length : Int)) = l.take j := by
    show (l.take ((j : Int)).toNat).drop 0 = l.take j
    rw [Int.toNat_natCast, List.drop_zero]
  have c2 : cutL l ((some ((j : Int) + 1)).getD 0) ((none : Option Int).getD (l.length : Int)) = l.drop (j + 1) := by
    show (l.take ((l.length : Int)).toNat).drop ((j : Int) + 1).toNat = l.drop (j + 1)
    rw [Int.toNat_natCast, List.take_length, show ((j : Int) + 1).toNat = j + 1 by omega]
  have k1 : cutOk none (some (j : Int)) l.length = true := by
    show andb (leb 0 (j : Int)) (leb (j : Int) (l.length : Int)) = true
    rw [show leb 0 (j : Int) = true from decide_eq_true (by omega)]
    exact decide_eq_true (by omega)
  have k2 : cutOk (some ((j : Int) + 1)) none l.length = true := by
    show andb (leb 0 ((j : Int) + 1)) (leb ((j : Int) + 1) (l.length : Int)) = true
    rw [show leb 0 ((j : Int) + 1) = true from decide_eq_true (by omega)]
    exact decide_eq_true (by omega)
  have a1 : andb (leb 0 0) (andb (leb 0 (l.length : Int)) (roomB (l.length : Int).toNat (bytesB env 32))) = true := by
    rw [Int.toNat_natCast, r32 _ (by omega), show leb 0 (l.length : Int) = true from decide_eq_true (by omega)]
    rfl
  have a2 : andb (leb 0 0) (andb (leb 0 ((l.length : Int) + 1)) (roomB ((l.length : Int) + 1).toNat (bytesB env 32))) = true := by
    rw [r32 _ (by omega), show leb 0 ((l.length : Int) + 1) = true from decide_eq_true (by omega)]
    rfl
  rw [c1, c2, k1, k2, a1, a2, r32 (l.take j).length (by rw [List.length_take]; omega), r32 (l.take j ++ l.drop (j + 1)).length (by simp; omega), r32 l.length (by omega), in_n hj, g32 hj, r32 (l ++ [Segment.mk l[j].from_ l[j].to_ l[j].begin_ l[j].end_ l[j].records]).length (by simp; omega)]
  simp only [brT]
  refine V12_spec ht.2 (V12_spec ht.2 ?_)
  rw [merge_less g hj, show mergeS ts (l ++ [Segment.mk l[j].from_ l[j].to_ l[j].begin_ l[j].end_ l[j].records]) = mergeS ts (l ++ [l[j]]) from rfl, merge_more g (by omega) hj]
  refine br_i (fun _ => rfl) fun h10 => ?_
  have hv := valid_iff.1 (g.val _ (List.getElem_mem hj))
  refine V12_spec ht.2 ?_
  rw [wrap_id (by omega) (by omega), Int.toNat_natCast, merge_long g hj (by simpa using h10)]
  rfl

theorem xor_ne {x y : Int} (hx : 0 ≤ x ∧ x < 18446744073709551616) (hy : 0 < y ∧ y < 18446744073709551616) : xorI IntKind.u64 x y ≠ x := by
  obtain ⟨a, rfl⟩ := Int.eq_ofNat_of_zero_le hx.1
  obtain ⟨b, rfl⟩ := Int.eq_ofNat_of_zero_le (show 0 ≤ y by omega)
  have u : ∀ n : Nat, (n : Int) < 18446744073709551616 → uI IntKind.u64 (n : Int) = n := fun n hn => by
    unfold uI
    rw [show IntKind.u64.bits = 64 from rfl]
    omega
  unfold xorI
  rw [u a hx.2, u b hy.2, show Nat.xor a b = a ^^^ b from rfl]
  have hlt : a ^^^ b < 2 ^ 64 := Nat.xor_lt_two_pow (by omega) (by omega)
  rw [wrap_u (by omega) (by omega)]
  intro q
  have q : a ^^^ b = a := by omega
  have : a ^^^ (a ^^^ b) = b := by rw [← Nat.xor_assoc, Nat.xor_self, Nat.zero_xor]
  rw [q, Nat.xor_self] at this
  omega
theorem fit_u64 {n : Int} (h : fitI .u64 n) : 0 ≤ n ∧ n ≤ 18446744073709551615 := by
  have h : (decide (IntKind.u64.min ≤ n) && decide (n ≤ IntKind.u64.max)) = true := h
  simp only [Bool.and_eq_true, decide_eq_true_eq] at h
  have h1 : IntKind.u64.min = 0 := by kernel_rfl
  have h2 : IntKind.u64.max = 18446744073709551615 := by kernel_rfl
  rw [h1, h2] at h
  exact h

theorem l7_13 {x1 : List Task} {x2 x3 : Bool} {w : List Segment} {j : Nat} (hj : j < w.length) (hr : w[j].records.length ≤ 5000) {k0 : List Task → Bool → Bool → Int → Int → List Segment → Prop} : ∀ (m i : Nat) (d : Int), i + m = w[j].records.length → k0 x1 x2 x3 j (digL d (w[j].records.drop i)) w → l_7_13 (m + 1) x1 x2 x3 j d i w k0
  | 0, i, d, hi, h => by
    unfold l_7_13
    rw [in_n hj, brT, g32 hj, ge_n (by omega)]
    rw [List.drop_of_length_le (by omega)] at h
    exact h
  | m + 1, i, d, hi, h => by
    have hlt : i < w[j].records.length := by omega
    unfold l_7_13
    rw [in_n hj, brT, g32 hj, lt_n hlt, in_n hlt, brT, brT, brT, g50 hlt, succ_w hlt (by omega)]
    rw [List.drop_eq_getElem_cons hlt] at h
    refine V17_spec ?_
    exact l7_13 hj hr m (i + 1) _ (by omega) h

theorem pureWorkersForeign (ts : List Task) (l : List Segment) (which u : Int) (ht : (∀ z0 ∈ ts, fitTask z0) ∧ List.length ts ≤ 9223372036854775807) (hl : (∀ z0 ∈ l, fitSegment z0) ∧ List.length l ≤ 9223372036854775807) (hw : fitI .u8 which) (hu : fitI .u64 u) : V7 ts l which u (fun b => b = true) := by
  rw [V7_eq]
  unfold B7
  refine V8_spec (V9_spec hl.2 (V12_spec ht.2 ?_))
  refine br_i (fun _ => rfl) fun _ => ?_
  refine br_i (fun _ => rfl) fun he => ?_
  refine br_i (fun _ => rfl) fun h2 => ?_
  refine br_i (fun _ => rfl) fun hu0 => ?_
  have g := good (ts := ts) (l := l) (by simpa using he)
  have h2 := of_decide_eq_false h2
  have hw := fit_u8 hw
  have hu := fit_u64 hu
  have hu0 : u ≠ 0 := by simpa using hu0
  have h32 := g.ok.2.2
  have hg := g.len
  have h1 : 0 < l.length := by omega
  unfold s_7_6
  obtain ⟨j, hj, ej⟩ := tmod_n (x := which) hw.1 h1
  have hz : (!(l.length : Int) == 0) = true := by simp; intro q; rw [q] at h1; simp at h1
  have a1 : andb (leb 0 0) (andb (leb 0 (l.length : Int)) (roomB (l.length : Int).toNat (bytesB env 32))) = true := by
    rw [Int.toNat_natCast, room32 (by omega), show leb 0 (l.length : Int) = true from decide_eq_true (by omega)]
    rfl
  have z0 : ts.getD 0 (env.d 39) = ts.getD 0 zT := by
    have q : 0 < ts.length := by omega
    have e := g39 (l := ts) (i := 0) q
    rw [show ((0 : Nat) : Int).toNat = 0 from rfl] at e
    rw [e]
    simp [List.getD, q]
  rw [show List.replicate 0 (Segment.mk 0 0 0 0 []) = [] from rfl, List.nil_append, wrap_id (z := which) (by omega) (by omega), ej, hz, brT, a1, brT, room32 (by omega), brT, in_n hj, brT, show inb 0 (ts.length : Int) = true from inbT (by omega) (by omega), brT, g32 hj, z0]
  refine br_i (fun _ => rfl) fun h0 => ?_
  have h0 : l[j].from_ ≠ (ts.getD 0 zT).from_ := by simpa using h0
  have hv := valid_iff.1 (g.val _ (List.getElem_mem hj))
  have hb := (hl.1 _ (List.getElem_mem hj)).begin_
  have hb := fit_u64 hb
  have hx := xor_ne (x := l[j].begin_) (y := u) (by omega) (by omega)
  rw [brT, brT, Int.toNat_natCast, List.length_set, in_n hj, brT]
  generalize xorI IntKind.u64 l[j].begin_ u = b' at *
  have hjs : j < (l.set j (Segment.mk l[j].from_ l[j].to_ b' l[j].end_ l[j].records)).length := by rw [List.length_set]; exact hj
  have es : (l.set j (Segment.mk l[j].from_ l[j].to_ b' l[j].end_ l[j].records))[j] = Segment.mk l[j].from_ l[j].to_ b' l[j].end_ l[j].records := List.getElem_set_self _
  have gs := g32 hjs
  rw [Int.toNat_natCast, es] at gs
  rw [gs]
  refine ⟨_, l7_13 hjs (by rw [es]; exact hv.2.2.2.1) l[j].records.length 0 b' (by rw [es, Nat.zero_add]) ?_⟩
  rw [in_n hjs, brT, Int.toNat_natCast, gs, List.set_set, es, List.drop_zero]
  refine V12_spec ht.2 ?_
  rw [show mergeS ts (l.set j (Segment.mk l[j].from_ l[j].to_ b' (digL b' l[j].records) l[j].records)) = _ from rfl, brT, merge_foreign g hj h0 hx]
  rfl

end Go.Vg.Ytkaodeodiakldaa
