/-
  The law WorkersOrder as a plain statement. Own work; no condition.
-/
import Derived.Test.YtkaodeodiakldaaSj
namespace Go.Vg.Ytkaodeodiakldaa
open Go.Vg Go.Proofs

theorem fit_u8 {n : Int} (h : fitI .u8 n) : 0 ≤ n ∧ n ≤ 255 := by
  have h : (decide (IntKind.u8.min ≤ n) && decide (n ≤ IntKind.u8.max)) = true := h
  simp only [Bool.and_eq_true, decide_eq_true_eq] at h
  have h1 : IntKind.u8.min = 0 := by kernel_rfl
  have h2 : IntKind.u8.max = 255 := by kernel_rfl
  rw [h1, h2] at h
  exact h

/-! ### Other workers -/
def chg (u : Int) (t : Task) : Task := if 0 ≤ t.worker ∧ t.worker < 8 then Task.mk t.number ((IntKind.i64.wrap (t.worker + IntKind.i64.wrap u)).tmod 8) t.from_ t.to_ else t
theorem chg_same (u : Int) (t : Task) : (chg u t).number = t.number ∧ (chg u t).from_ = t.from_ ∧ (chg u t).to_ = t.to_ := by
  unfold chg
  split <;> exact ⟨rfl, rfl, rfl⟩
theorem chg_worker {u : Int} (hu : 0 ≤ u ∧ u ≤ 255) (t : Task) : (0 ≤ (chg u t).worker ∧ (chg u t).worker ≤ 7) ↔ (0 ≤ t.worker ∧ t.worker ≤ 7) := by
  unfold chg
  split
  · rename_i h
    have e : (IntKind.i64.wrap (t.worker + IntKind.i64.wrap u)).tmod 8 = (t.worker + u) % 8 := by
      rw [wrap_id (z := u) (by omega) (by omega), wrap_id (by omega) (by omega), Int.tmod_eq_emod_of_nonneg (by omega)]
    show (0 ≤ (IntKind.i64.wrap (t.worker + IntKind.i64.wrap u)).tmod 8 ∧ (IntKind.i64.wrap (t.worker + IntKind.i64.wrap u)).tmod 8 ≤ 7) ↔ _
    rw [e]
    omega
  · exact Iff.rfl
theorem l5_7 {ts : List Task} (hl : ts.length ≤ 40) {x2 : List Segment} {x3 : List Int} {u : Int} {x5 x6 : Bool} {k0 : List Task → List Segment → List Int → Bool → Bool → List Task → Prop} (hk : k0 ts x2 x3 x5 x6 (ts.map (chg u))) : ∀ (m i : Nat) (o : List Task), i + m = ts.length → (∀ j, o[j]? = if j < i then (ts[j]?).map (chg u) else ts[j]?) → l_5_7 (m + 1) ts x2 x3 u x5 x6 i o k0
  | 0, i, o, hi, ho => by
    have e : o = ts.map (chg u) := by
      refine List.ext_getElem? fun j => ?_
      rw [ho, List.getElem?_map]
      split
      · rfl
      · rw [List.getElem?_eq_none (by omega)]
        rfl
    unfold l_5_7
    rw [e, List.length_map, ge_n (by omega)]
    exact hk
  | m + 1, i, o, hi, ho => by
    have hlt : i < ts.length := by omega
    have hio : i < o.length := by
      have := ho i
      rw [if_neg (by omega), List.getElem?_eq_getElem hlt] at this
      exact (List.getElem?_eq_some_iff.1 this).1
    have e : o[i] = ts[i] := by
      have := ho i
      rw [if_neg (by omega), List.getElem?_eq_getElem hlt, List.getElem?_eq_getElem hio] at this
      exact Option.some.inj this
    have next : ∀ t : Task, t = chg u ts[i] → l_5_7 (m + 1) ts x2 x3 u x5 x6 ((i + 1 : Nat) : Int) (o.set i t) k0 := fun t ht => by
      refine l5_7 hl hk m (i + 1) _ (by omega) fun j => ?_
      by_cases hj : i = j
      · subst hj
        rw [List.getElem?_set_self hio, if_pos (by omega), List.getElem?_eq_getElem hlt, ht]
        rfl
      · rw [List.getElem?_set_ne hj, ho]
        by_cases h1 : j < i
        · rw [if_pos h1, if_pos (by omega)]
        · rw [if_neg h1, if_neg (by omega)]
    have stay : chg u ts[i] = ts[i] → l_5_7 (m + 1) ts x2 x3 u x5 x6 ((i + 1 : Nat) : Int) o k0 := fun h => by
      have := next _ rfl
      rw [h, ← e, List.set_getElem_self] at this
      exact this
    have hlo : o.length = ts.length ∨ True := Or.inr trivial
    have h40 : ((i : Int) + 1) < 9223372036854775808 := by omega
    unfold l_5_7
    rw [lt_n hio, in_n hio, brT, brT, g39 hio, e, wrap_id (z := (i : Int) + 1) (by omega) h40, show (i : Int) + 1 = ((i + 1 : Nat) : Int) by omega]
    refine br_i (fun c1 => ?_) fun c1 => stay ?_
    · rw [brT]
      refine br_i (fun c2 => ?_) fun c2 => stay ?_
      · have c1 := of_decide_eq_true c1
        have c2 := of_decide_eq_true c2
        rw [brT, brT]
        refine next _ ?_
        unfold chg
        rw [if_pos ⟨c1, c2⟩]
      · have c2 := of_decide_eq_false c2
        unfold chg
        rw [if_neg (by omega)]
    · have c1 := of_decide_eq_false c1
      unfold chg
      rw [if_neg (by omega)]

theorem bel_chg (u a b : Int) : ∀ (ts : List Task) (i : Nat), belS a b i (ts.map (chg u)) = belS a b i ts
  | [], _ => rfl
  | t :: ts, i => by
    simp only [List.map_cons, belS, (chg_same u t).2.1, (chg_same u t).2.2, bel_chg u a b ts]
theorem tasks_chg {u : Int} (hu : 0 ≤ u ∧ u ≤ 255) (ts : List Task) : tasksB (ts.map (chg u)) = tasksB ts := by
  rw [Bool.eq_iff_iff, tasksB_iff, tasksB_iff]
  have g : ∀ i, i < ts.length → (ts.map (chg u)).getD i zT = chg u (ts.getD i zT) := fun i hi => by simp [List.getD, hi]
  have h : ∀ i, i < ts.length → (tOk (ts.map (chg u)) i ↔ tOk ts i) := fun i hi => by
    unfold tOk
    rw [g i hi, g (i - 1) (by omega), (chg_same u _).1, (chg_same u _).2.1, (chg_same u _).2.2, (chg_same u _).2.2]
    have := chg_worker hu (ts.getD i zT)
    constructor
    · rintro ⟨h1, h2, h3, h4⟩
      exact ⟨h1, (this.1 ⟨h2, h3⟩).1, (this.1 ⟨h2, h3⟩).2, h4⟩
    · rintro ⟨h1, h2, h3, h4⟩
      exact ⟨h1, (this.2 ⟨h2, h3⟩).1, (this.2 ⟨h2, h3⟩).2, h4⟩
  unfold TasksOk
  rw [List.length_map]
  constructor
  · rintro ⟨h1, h2⟩
    exact ⟨fun i hi => (h i hi).1 (h1 i hi), h2⟩
  · rintro ⟨h1, h2⟩
    exact ⟨fun i hi => (h i hi).2 (h1 i hi), h2⟩
theorem merge_chg {u : Int} (hu : 0 ≤ u ∧ u ≤ 255) (ts : List Task) (l : List Segment) : mergeS (ts.map (chg u)) l = mergeS ts l := by
  have h1 : plS (ts.map (chg u)) = plS ts := by funext s; unfold plS; rw [bel_chg]
  have h2 : hereS (ts.map (chg u)) = hereS ts := by funext s; unfold hereS; rw [bel_chg]
  have h3 : sortS (ts.map (chg u)) l = sortS ts l := by
    unfold sortS
    rw [List.map_map]
    refine List.map_congr_left fun t _ => ?_
    have : atT (chg u t) = atT t := by funext s; unfold atT; rw [(chg_same u t).2.1, (chg_same u t).2.2]
    simp only [Function.comp, this]
  unfold mergeS
  rw [tasks_chg hu, h1, h2, h3, List.length_map]

/-! ### Another order -/
theorem nodup_inj {α β : Type} {f : α → β} {l : List α} (h : (l.map f).Nodup) {x y : α} (hx : x ∈ l) (hy : y ∈ l) (e : f x = f y) : x = y := by
  obtain ⟨i, hi, rfl⟩ := List.getElem_of_mem hx
  obtain ⟨j, hj, rfl⟩ := List.getElem_of_mem hy
  rw [List.nodup_iff_pairwise_ne, List.pairwise_map, List.pairwise_iff_getElem] at h
  rcases Nat.lt_trichotomy i j with q | q | q
  · exact absurd e (h i j hi hj q)
  · subst q; rfl
  · exact absurd e.symm (h j i hj hi q)
theorem find_perm {ts : List Task} (hp : ts.Pairwise (fun s t => s.from_ < t.from_)) {l l' : List Segment} (hperm : l'.Perm l) (hn : (l.map (plS ts)).Nodup) {k : Nat} (hk : k < ts.length) : l'.find? (atT ts[k]) = l.find? (atT ts[k]) := by
  rcases h : l.find? (atT ts[k]) with _ | x
  · rw [List.find?_eq_none] at h ⊢
    exact fun s hs => h s (hperm.mem_iff.1 hs)
  · have x1 := List.find?_some h
    have x2 := List.mem_of_find?_eq_some h
    rcases h' : l'.find? (atT ts[k]) with _ | y
    · exact absurd x1 (List.find?_eq_none.1 h' x (hperm.mem_iff.2 x2))
    · have y1 := List.find?_some h'
      have y2 := hperm.mem_iff.1 (List.mem_of_find?_eq_some h')
      rw [nodup_inj hn y2 x2 (by rw [(pl_at hp hk y1).1, (pl_at hp hk x1).1])]
theorem merge_perm (ts : List Task) {l l' : List Segment} (hperm : l'.Perm l) : mergeS ts l' = mergeS ts l := by
  unfold mergeS
  rw [hperm.length_eq, hperm.all_eq, hperm.all_eq]
  by_cases h1 : tasksB ts = false ∨ 32 < l.length
  · rw [if_pos h1, if_pos h1]
  rw [if_neg h1, if_neg h1]
  split
  · rfl
  split
  · rfl
  by_cases hn : (l.map (plS ts)).Nodup
  · have hn' := (hperm.map (plS ts)).nodup_iff.2 hn
    rw [if_neg (show ¬ ¬ (l'.map (plS ts)).Nodup from fun q => q hn'), if_neg (show ¬ ¬ (l.map (plS ts)).Nodup from fun q => q hn)]
    split
    · rfl
    have e : sortS ts l' = sortS ts l := by
      unfold sortS
      refine List.map_congr_left fun t ht => ?_
      obtain ⟨k, hk, rfl⟩ := List.getElem_of_mem ht
      have hok : TasksOk ts := tasksB_iff.1 (by
        rcases hb : tasksB ts
        · exact absurd (Or.inl hb) h1
        · rfl)
      rw [find_perm (tasks_pair hok) hperm hn hk]
    rw [e]
  · have hn' : ¬ (l'.map (plS ts)).Nodup := fun q => hn ((hperm.map (plS ts)).nodup_iff.1 q)
    rw [if_pos hn', if_pos hn]

/-! ### What is merged is valid -/
theorem rec_mono {T a a' d e : Int} {l : List Record} (h : recS T a d l = some e) (ha : a' ≤ a) : recS T a' d l = some e := by
  cases l with
  | nil => exact h
  | cons r rs =>
    simp only [recS] at h ⊢
    split at h
    · cases h
    · rw [if_neg (by omega)]
      exact h
theorem rec_app {T T' e e2 : Int} {l2 : List Record} (ht : T ≤ T') (h2 : recS T' T e l2 = some e2) : ∀ {l1 : List Record} {a d : Int}, a ≤ T → recS T a d l1 = some e → recS T' a d (l1 ++ l2) = some e2
  | [], a, d, ha, h => by
    simp only [recS] at h
    cases h
    exact rec_mono h2 ha
  | r :: rs, a, d, ha, h => by
    simp only [recS, List.cons_append] at h ⊢
    split at h
    · cases h
    · rw [if_neg (by omega)]
      exact rec_app ht h2 (by omega) h
theorem valid_iff {s : Segment} : validS s = true ↔ 0 ≤ s.from_ ∧ s.from_ ≤ s.to_ ∧ s.to_ ≤ 10000000 ∧ s.records.length ≤ 5000 ∧ recS s.to_ s.from_ s.begin_ s.records = some s.end_ := by
  unfold validS
  simp only [Bool.and_eq_true, decide_eq_true_eq, and_assoc]
theorem adj_cons {p : Segment → Segment → Bool} {s t : Segment} {r : List Segment} : adjB p (s :: t :: r) = true ↔ p s t = true ∧ adjB p (t :: r) = true := by
  rw [adjB_iff, adjB_iff]
  constructor
  · intro h
    refine ⟨h 0 (by simp), fun i hi => ?_⟩
    have := h (i + 1) (by simp at hi ⊢; omega)
    simpa using this
  · rintro ⟨h1, h2⟩ i hi
    cases i with
    | zero => exact h1
    | succ i =>
      have := h2 i (by simp at hi ⊢; omega)
      simpa using this
theorem chain : ∀ (L : List Segment) (s : Segment), (∀ x ∈ s :: L, validS x = true) → adjB timeS (s :: L) = true → adjB sumS (s :: L) = true → s.from_ ≤ ((s :: L).getD L.length zS).to_ ∧ recS ((s :: L).getD L.length zS).to_ s.from_ s.begin_ (recordsS (s :: L)) = some ((s :: L).getD L.length zS).end_
  | [], s, hv, _, _ => by
    have h := valid_iff.1 (hv s (by simp))
    simp only [recordsS, List.map_cons, List.map_nil, List.flatten_cons, List.flatten_nil, List.append_nil]
    exact ⟨h.2.1, h.2.2.2.2⟩
  | t :: r, s, hv, ht, hs => by
    have h := valid_iff.1 (hv s (by simp))
    obtain ⟨t1, t2⟩ := adj_cons.1 ht
    obtain ⟨s1, s2⟩ := adj_cons.1 hs
    have ih := chain r t (fun x hx => hv x (by simp at hx ⊢; exact Or.inr hx)) t2 s2
    have e1 : s.to_ = t.from_ := by simpa [timeS] using t1
    have e2 : s.end_ = t.begin_ := by simpa [sumS] using s1
    have g : (s :: t :: r).getD (t :: r).length zS = (t :: r).getD r.length zS := by simp [List.getD]
    rw [g]
    refine ⟨by omega, ?_⟩
    rw [show recordsS (s :: t :: r) = s.records ++ recordsS (t :: r) from rfl]
    refine rec_app (T := s.to_) (e := s.end_) (by omega) ?_ h.2.1 h.2.2.2.2
    rw [e1, e2]
    exact ih.2

/-- What is known when the merge is without an error. -/
structure Good (ts : List Task) (l : List Segment) : Prop where
  ok : TasksOk ts
  len : l.length = ts.length
  val : ∀ s ∈ l, validS s = true
  here : ∀ s ∈ l, hereS ts s = true
  nodup : (l.map (plS ts)).Nodup
  sval : ∀ s ∈ sortS ts l, validS s = true
  time : adjB timeS (sortS ts l) = true
  sum : adjB sumS (sortS ts l) = true
  room : (recordsS (sortS ts l)).length ≤ 5000
  eq : mergeS ts l = (Segment.mk ((sortS ts l).getD 0 zS).from_ ((sortS ts l).getD ((sortS ts l).length - 1) zS).to_ ((sortS ts l).getD 0 zS).begin_ ((sortS ts l).getD ((sortS ts l).length - 1) zS).end_ (recordsS (sortS ts l)), 0)

theorem good {ts : List Task} {l : List Segment} (h : (mergeS ts l).2 = 0) : Good ts l := by
  unfold mergeS at h
  split at h
  · cases h
  rename_i h1
  split at h
  · cases h
  rename_i h2
  split at h
  · cases h
  rename_i h3
  split at h
  · cases h
  rename_i h4
  split at h
  · cases h
  rename_i h5
  have hok : TasksOk ts := tasksB_iff.1 (by
    rcases hb : tasksB ts
    · exact absurd (Or.inl hb) h1
    · rfl)
  have hv : l.all validS = true := by simpa using h2
  have hh : l.all (hereS ts) = true := by simpa using h3
  have hn : (l.map (plS ts)).Nodup := Decidable.not_not.1 h4
  have hm : mergeS ts l = joinS (sortS ts l) := by unfold mergeS; rw [if_neg h1, if_neg h2, if_neg h3, if_neg h4, if_neg h5]
  have hlen : l.length ≤ ts.length := by
    have q : l.map (plS ts) ⊆ List.range ts.length := fun x hx => by
      obtain ⟨s, hs, e⟩ := List.mem_map.1 hx
      have := (at_pl (List.all_eq_true.1 hh s hs)).1
      rw [List.mem_range]
      omega
    have := hn.length_le_of_subset q
    simpa using this
  unfold joinS at h hm
  split at h
  · cases h
  rename_i j1
  split at h
  · cases h
  rename_i j2
  split at h
  · cases h
  rename_i j3
  split at h
  · cases h
  rename_i j4
  split at h
  · cases h
  rename_i j5
  rw [if_neg j1, if_neg j2, if_neg j3, if_neg j4, if_neg j5] at hm
  have sv : (sortS ts l).all validS = true := by simpa using j2
  exact ⟨hok, by omega, List.all_eq_true.1 hv, List.all_eq_true.1 hh, hn, List.all_eq_true.1 sv, by simpa using j3, by simpa using j4, by omega, hm⟩

/-- The sorted list's elements belong to the tasks of their places. -/
theorem Good.at {ts : List Task} {l : List Segment} (g : Good ts l) {k : Nat} (hk : k < ts.length) : (sortS ts l).getD k zS ∈ l ∧ atT ts[k] ((sortS ts l).getD k zS) = true := by
  have hl : (sortS ts l).length = ts.length := by simp [sortS]
  have e : (sortS ts l).getD k zS = (l.find? (atT ts[k])).getD zS := by simp [List.getD, sortS, hk]
  rw [e]
  obtain ⟨s, hs, hp⟩ := List.mem_map.1 (full_of_nodup g.here g.nodup (by have := g.len; omega) hk)
  obtain ⟨q1, q2⟩ := at_pl (g.here s hs)
  have q2 : atT ts[k] s = true := by
    have e2 : ts[plS ts s] = ts[k] := by congr 1
    rw [← e2]
    exact q2
  rcases hf : l.find? (atT ts[k]) with _ | x
  · exact absurd q2 (List.find?_eq_none.1 hf s hs)
  · exact ⟨List.mem_of_find?_eq_some hf, List.find?_some hf⟩

theorem tasks_lt {ts : List Task} (h : TasksOk ts) {k : Nat} (hk : k < ts.length) : 0 ≤ ts[k].from_ ∧ ts[k].from_ < ts[k].to_ ∧ ts[k].to_ ≤ 10000000 := by
  have := h.1 k hk
  unfold tOk at this
  have e : ts.getD k zT = ts[k] := by simp [List.getD, hk]
  rw [e] at this
  omega

theorem merge_one {ts : List Task} {l : List Segment} (h : (mergeS ts l).2 = 0) : mergeS [Task.mk 0 0 (mergeS ts l).1.from_ (mergeS ts l).1.to_] [(mergeS ts l).1] = ((mergeS ts l).1, 0) := by
  have g := good h
  have hl : (sortS ts l).length = ts.length := by simp [sortS]
  have n1 := g.ok.2.1
  generalize ha : (mergeS ts l).1 = a
  have ea : a = Segment.mk ((sortS ts l).getD 0 zS).from_ ((sortS ts l).getD ((sortS ts l).length - 1) zS).to_ ((sortS ts l).getD 0 zS).begin_ ((sortS ts l).getD ((sortS ts l).length - 1) zS).end_ (recordsS (sortS ts l)) := by rw [← ha, g.eq]
  have a0 := (g.at (show 0 < ts.length by omega)).2
  have an := (g.at (show ts.length - 1 < ts.length by omega)).2
  unfold atT at a0 an
  simp only [decide_eq_true_eq] at a0 an
  have t0 := tasks_lt g.ok (show 0 < ts.length by omega)
  have tn := tasks_lt g.ok (show ts.length - 1 < ts.length by omega)
  have hfr : a.from_ = ts[0].from_ := by rw [ea]; exact a0.1.symm
  have hto : a.to_ = ts[ts.length - 1].to_ := by
    rw [ea]
    show ((sortS ts l).getD ((sortS ts l).length - 1) zS).to_ = _
    rw [hl]
    exact an.2.symm
  have hle : ts[0].from_ ≤ ts[ts.length - 1].from_ := by
    have := List.pairwise_iff_getElem.1 (tasks_pair g.ok) 0 (ts.length - 1) (by omega) (by omega)
    by_cases q : 0 < ts.length - 1
    · have := this q; omega
    · have e : ts[0] = ts[ts.length - 1] := by congr 1; omega
      rw [e]; exact Int.le_refl _
  have hva : validS a = true := by
    refine valid_iff.2 ⟨by omega, by omega, by omega, ?_, ?_⟩
    · rw [ea]; exact g.room
    · have c : ∃ s L, sortS ts l = s :: L := by
        rcases hs : sortS ts l with _ | ⟨s, L⟩
        · rw [hs] at hl; simp at hl; omega
        · exact ⟨s, L, rfl⟩
      obtain ⟨s, L, hs⟩ := c
      have := chain L s (by rw [← hs]; exact g.sval) (by rw [← hs]; exact g.time) (by rw [← hs]; exact g.sum)
      rw [ea]
      rw [hs]
      exact this.2
  have hb : tasksB [Task.mk 0 0 a.from_ a.to_] = true := by
    refine tasksB_iff.2 ⟨fun i hi => ?_, by simp, by simp⟩
    have : i = 0 := by simp at hi; exact hi
    subst this
    exact ⟨rfl, by simp, by simp, by simp; omega, by simp; omega, by simp; omega, fun q => absurd q (by omega)⟩
  have h1 : atT (Task.mk 0 0 a.from_ a.to_) a = true := by simp [atT]
  have h2 : belS a.from_ a.to_ 0 [Task.mk 0 0 a.from_ a.to_] = some 0 := by simp [belS]
  have h3 : hereS [Task.mk 0 0 a.from_ a.to_] a = true := by unfold hereS; rw [h2]; rfl
  have h4 : sortS [Task.mk 0 0 a.from_ a.to_] [a] = [a] := by simp [sortS, h1]
  have h5 : ∀ p, adjB p [a] = true := fun p => adjB_iff.2 fun i hi => by simp at hi
  have h6 : joinS [a] = (a, 0) := by
    have := valid_len hva
    unfold joinS
    rw [if_neg (by simp), if_neg (by simp [hva]), if_neg (by simp [h5]), if_neg (by simp [h5]), if_neg (by simp [recordsS]; omega)]
    simp [recordsS]
  unfold mergeS
  rw [hb, if_neg (by simp), if_neg (by simp [hva]), if_neg (by simp [h3]), if_neg (by simp), if_neg (by simp), h4, h6]

theorem pureWorkersOrder (ts : List Task) (l : List Segment) (us : List Int) (u : Int) (ht : (∀ z0 ∈ ts, fitTask z0) ∧ List.length ts ≤ 9223372036854775807) (hl : (∀ z0 ∈ l, fitSegment z0) ∧ List.length l ≤ 9223372036854775807) (hus : (∀ z0 ∈ us, fitI .u8 z0) ∧ List.length us ≤ 9223372036854775807) (hu : fitI .u8 u) : V5 ts l us u (fun b => b = true) := by
  rw [V5_eq]
  unfold B5
  refine V8_spec (V9_spec hl.2 ?_)
  refine br_i (fun _ => rfl) fun hf => ?_
  refine br_i (fun _ => rfl) fun hc => ?_
  have hf := few_iff (ts := ts) (l := l) (by simpa using hf)
  have hc := of_decide_eq_false hc
  have hu8 := fit_u8 hu
  unfold s_5_5
  rw [show List.replicate 0 (Task.mk 0 0 0 0) ++ ts = ts from rfl, Int.toNat_natCast, room39 (by omega), show leb 0 (ts.length : Int) = true from decide_eq_true (by omega)]
  refine ⟨ts.length + 1, l5_7 (u := u) hf.1 ?_ ts.length 0 ts (by omega) fun j => by simp⟩
  refine V12_spec ht.2 (V16_spec hf.2.1 (fun x hx => by have := fit_u8 (hus.1 x hx); omega) (by omega) fun l' hperm => V12_spec (by rw [List.length_map]; exact ht.2) ?_)
  rw [merge_chg hu8, merge_perm ts hperm]
  refine br_i (fun _ => ?_) fun he => ?_
  · rw [brT]
    exact beq_self_eq_true _
  · have he : (mergeS ts l).2 = 0 := by simpa using he
    refine V12_spec (by simp) ?_
    rw [merge_one he, brT, he]
    have := merge_len ts l
    refine V15_same (by omega) ?_
    rw [brT]
    exact V15_same (by omega) rfl

end Go.Vg.Ytkaodeodiakldaa
