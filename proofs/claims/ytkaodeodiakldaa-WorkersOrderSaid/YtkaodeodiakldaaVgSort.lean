/-
  slices.SortFunc over a row of the caller's own: the shelf's contract as a rule. Own work; no condition.
-/
import Derived.Test.YtkaodeodiakldaaVgFn
import Derived.Shelf.SlSortCmp.NoneTotal
namespace Go.Vg
open Go.RowKit Go.Proofs Go.Shelf Go.Sort
variable {P : Program} {E : Env}

/-- An element and its cells. -/
abbrev Cel (E : Env) (w : World) (S : Nat → Prop) (e : Nat) : Type := { p : E.T e × List Value // RelC E [] (fun _ => none) w S (E.enc e p.1) p.2 }

theorem cels_of {w : World} {S : Nat → Prop} {e : Nat} : ∀ {l : List (E.T e)} {xs : List Value}, RelC E [] (fun _ => none) w S (l.flatMap (E.enc e)) xs → ∃ ds : List (Cel E w S e), ds.map (·.1.1) = l ∧ ds.flatMap (·.1.2) = xs
  | [], xs, h => by cases h; exact ⟨[], rfl, rfl⟩
  | x :: r, xs, h => by
    rw [List.flatMap_cons] at h
    obtain ⟨va, vb, h1, h2, h3⟩ := RelC.split h
    obtain ⟨ds, h4, h5⟩ := cels_of h3
    exact ⟨⟨(x, va), h2⟩ :: ds, by simp [h4], by simp [h5, h1]⟩

theorem flat_get {α : Type} {enc : α → List Value} {k : Nat} (hk : ∀ x, (enc x).length = k) : ∀ (ds : List α) (j : Nat), j < ds.length * k → (ds.flatMap enc)[j]? = (ds[j / k]?).bind fun x => (enc x)[j % k]?
  | [], j, h => by simp at h
  | x :: r, j, h => by
    have k0 : 0 < k := by rcases Nat.eq_zero_or_pos k with h0 | h0; · subst h0; simp at h
                          · exact h0
    rw [List.flatMap_cons]
    by_cases hj : j < k
    · rw [List.getElem?_append_left (by rw [hk]; exact hj), Nat.div_eq_of_lt hj, Nat.mod_eq_of_lt hj]
      rfl
    · have e1 : j / k = (j - k) / k + 1 := by rw [Nat.div_eq_sub_div k0 (by omega)]
      have e2 : j % k = (j - k) % k := by rw [Nat.mod_eq_sub_mod (by omega)]
      rw [List.getElem?_append_right (by rw [hk]; omega), hk, flat_get hk r (j - k) (by simp only [List.length_cons, Nat.add_mul, Nat.one_mul] at h; omega), e1, e2, List.getElem?_cons_succ]

theorem flatK_get {α : Type} [Inhabited α] {enc : α → List Value} {k : Nat} (hk : ∀ x, (enc x).length = k) (d : Array α) (j : Nat) (h : j < d.size * k) : (d.toList.flatMap enc)[j]? = some (flatK enc k d)[j]! := by
  have k0 : 0 < k := by rcases Nat.eq_zero_or_pos k with h0 | h0; · subst h0; simp at h
                        · exact h0
  have hd : j / k < d.size := Nat.div_lt_of_lt_mul (by rw [Nat.mul_comm]; exact h)
  have hm : j % k < (enc d[j / k]).length := by rw [hk]; exact Nat.mod_lt _ k0
  rw [flat_get hk _ _ (by simpa using h), get_flatK _ _ _ _ h, Array.getElem?_toList, Array.getElem?_eq_getElem hd, Option.bind_some, getElem!_pos d _ hd, List.getElem?_eq_getElem hm, getElem!_pos (enc d[j / k]) (j % k) hm]

theorem sort_inp {ρ : Go.Shelf.Ren} (L : SlLaysF0.n6 P ρ) {e g f : Nat} (hf : ρ.f 6 = f) (aE : ∀ w, (isAgg (ρ.t 24)).run P w = .ok true w) (zE : ∀ w, (Go.sizeOf (ρ.t 24)).run P w = .ok (E.sz e) w)
    (eg : ∀ args w, (callFunc g args).run P w = .ok (.enter g args) w) {C : Type} (encC : C → List (SV E.T)) (cfv : C → E.T e → E.T e → Int) (pre : C → Prop) (hO : ∀ c, pre c → SWO (ltOf (cfv c)))
    (hcmp : ∀ c, pre c → ∀ (S : Nat → Prop) (w : World) (cb : Array Value), (∀ k, S k → k < w.heap.size) → RelL E [] (fun _ => none) w S (encC c) cb.toList → ∀ W, (∀ k, S k → W.heap[k]? = w.heap[k]?) → ∀ x y vx vy, RelC E [] (fun _ => none) w S (E.enc e x) vx → RelC E [] (fun _ => none) w S (E.enc e y) vy →
      Calls P g (#[.agg vx.toArray, .agg vy.toArray] ++ cb) W fun ee W' => ee = .returned (.int .i64 (cfv c x y)) ∧ ∃ q os', W' = grow (W.drewN q) os')
    {r : List (SV E.T) → (List (E.T e) → Prop) → Prop} (hr : ∀ l rest K, r (.dat e l :: rest) K → ∃ c, pre c ∧ l.length < 4611686018427387904 ∧ (∀ l' : List (E.T e), l'.Perm l → l'.Pairwise (fun x y => ltOf (cfv c) y x = false) → K l') ∧
      ∀ H σ w S vals, RelL E H σ w S rest vals → ∃ cb, vals = [.func (.func g) #[] cb] ∧ RelL E H σ w S (encC c) cb.toList) : RuleOk P E f (.inp e r) := by
  intro l rest K hrK B S w v vals xs hS how hB hhas hrel hrest
  obtain ⟨c, hpre, hll, hK, hv⟩ := hr l rest K hrK
  obtain ⟨cb, rfl, hcb⟩ := hv _ _ _ _ _ hrest
  cases l with
  | nil =>
    have hxs : xs = [] := by cases hrel; rfl
    subst hxs
    have hv0 : ∃ p cap, v = .slice p 0 cap := by
      rcases how.2 with ⟨h, _⟩ | ⟨k, cap, cur, h, _⟩
      · exact ⟨_, _, h⟩
      · exact ⟨_, _, h⟩
    obtain ⟨p, cap, rfl⟩ := hv0
    have := AnyF.slices_SortFunc_none L p cap (.func (.func g) #[] cb) w
    rw [hf] at this
    refine this.mono ?_
    rintro ee w' ⟨rfl, rfl⟩
    exact ⟨[], [], rfl, hK [] (.refl _) .nil, rfl, ⟨rfl, rfl, rfl, Nat.le_refl _, fun _ _ _ => rfl⟩, Nat.le_refl _, how, .nil⟩
  | cons x0 l0 =>
    rcases how.2 with ⟨_, h⟩ | ⟨blk, cap, cur, rfl, hBg, hg, hnc, hcm, hsz, htk⟩
    · simp at h
    obtain ⟨ds, hds, hxs⟩ := cels_of hrel
    have hne : ds ≠ [] := by intro h; rw [h] at hds; cases hds
    letI : Inhabited (Cel E w S e) := ⟨ds.head hne⟩
    have hk : ∀ x : Cel E w S e, x.1.2.length = E.sz e := fun x => by
      rw [← RelC.len x.2]
      exact E.enc_sz e x.1.1 hhas
    have h1 : ∀ x : Cel E w S e, ∀ v ∈ x.1.2, v.oneCell' = true := fun x => RelC.one x.2
    have hdl : ds.length = (x0 :: l0).length := by rw [← hds, List.length_map]
    have hbl : blk < w.heap.size := (Array.getElem?_eq_some_iff.1 hg).1
    have hnS : ∀ k, S k → k ≠ blk := fun k hk he => (hS k hk).2 (by rw [he]; rfl)
    have hcl : cur.toList.length = cap * E.sz e := by simp [hsz]
    have hle : ds.length * E.sz e ≤ cap * E.sz e := Nat.mul_le_mul_right _ (by omega)
    have hcell : ∀ j, j < ds.length * E.sz e → cur[j]? = some (flatK (fun x : Cel E w S e => x.1.2) (E.sz e) ds.toArray)[j]! := fun j hj => by
      rw [← flatK_get hk ds.toArray j (by simpa using hj), List.toList_toArray, hxs, ← htk, ← hdl, List.getElem?_take, if_pos hj, Array.getElem?_toList]
    have hH : HoldsK (fun x : Cel E w S e => x.1.2) (E.sz e) w blk 0 ds.toArray := fun j hj => by
      rw [size_flatK, List.size_toArray] at hj
      rw [Nat.zero_add]
      refine ⟨?_, by simp [World.frozen?, hg]⟩
      simp only [World.cell?, hg]
      exact hcell j hj
    have hlays : CmpLays P g cb (fun x : Cel E w S e => x.1.2) (E.sz e) (fun x y => cfv c x.1.1 y.1.1) blk 0 ds.toArray.size w := fun m os dk hdk x y => by
      refine hcmp c hpre S w cb (fun k hk => (hS k hk).1) hcb _ (fun k hk => ?_) x.1.1 y.1.1 x.1.2 y.1.2 x.2 y.2
      have hkl := (hS k hk).1
      unfold sortWorldK
      rw [heap_grow_old _ _ (by simpa [putRowK, putRow, mapBlock, Sort.ahead] using hkl)]
      simp only [putRowK, putRow, mapBlock, Sort.ahead, Array.getElem?_modify]
      rw [if_neg (fun h => hnS k hk h.symm)]
    have hSW : SWO (ltOf fun x y : Cel E w S e => cfv c x.1.1 y.1.1) := ⟨fun x => (hO c hpre).irrefl x.1.1, fun x y z => (hO c hpre).trans x.1.1 y.1.1 z.1.1, fun x y z => (hO c hpre).ntrans x.1.1 y.1.1 z.1.1⟩
    have hcon := AnyQ.slices_SortFunc L (E.sz e) aE zE (fun x : Cel E w S e => x.1.2) hk h1 (fun x y => cfv c x.1.1 y.1.1) hSW g cb blk 0 cap ds.toArray w eg hlays hH hbl (by rw [List.size_toArray, hdl]; exact hll)
    rw [hf, List.size_toArray, hdl] at hcon
    refine hcon.mono ?_
    rintro ee w' ⟨rfl, d', n, os, hp, hs, rfl⟩
    obtain ⟨hp1, _, hp3⟩ := hp
    have hd'l : d'.size = ds.length := by simpa using hp1
    have hperm : d'.toList.Perm ds := by
      have e1 : d'.extract 0 (x0 :: l0).length = d' := by rw [← hdl, ← hd'l]; exact Array.extract_size
      have e2 : ds.toArray.extract 0 (x0 :: l0).length = ds.toArray := by rw [← hdl, show ds.length = ds.toArray.size by simp]; exact Array.extract_size
      rw [e1, e2] at hp3
      exact hp3
    have hlen : (d'.toList.map fun x => x.1.1).length = (x0 :: l0).length := by rw [List.length_map, hperm.length_eq, hdl]
    have hblk : (sortWorldK (fun x : Cel E w S e => x.1.2) (E.sz e) w blk 0 n d' os).heap[blk]? = some (.cells (putCells id 0 (flatK (fun x : Cel E w S e => x.1.2) (E.sz e) d') cur) e (0, 0)) := by
      unfold sortWorldK
      rw [heap_grow_old _ _ (by simpa [putRowK, putRow, mapBlock, Sort.ahead] using hbl)]
      simp only [putRowK, putRow, mapBlock, Sort.ahead, Array.getElem?_modify, if_true, hg, Option.map_some, onCells]
    have hoth : ∀ k, k < w.heap.size → k ≠ blk → (sortWorldK (fun x : Cel E w S e => x.1.2) (E.sz e) w blk 0 n d' os).heap[k]? = w.heap[k]? := fun k hk hkb => by
      unfold sortWorldK
      rw [heap_grow_old _ _ (by simpa [putRowK, putRow, mapBlock, Sort.ahead] using hk)]
      simp only [putRowK, putRow, mapBlock, Sort.ahead, Array.getElem?_modify]
      rw [if_neg (fun h => hkb h.symm)]
    have hpsz : (putCells id 0 (flatK (fun x : Cel E w S e => x.1.2) (E.sz e) d') cur).size = cur.size := by simp [putCells]
    have hys : (putCells id 0 (flatK (fun x : Cel E w S e => x.1.2) (E.sz e) d') cur).toList.take ((d'.toList.map fun x => x.1.1).length * E.sz e) = d'.toList.flatMap fun x => x.1.2 := by
      apply List.ext_getElem?
      intro j
      rw [List.getElem?_take, hlen, ← hdl]
      by_cases hj : j < ds.length * E.sz e
      · rw [if_pos hj, Array.getElem?_toList, flatK_get hk d' j (by rw [hd'l]; exact hj)]
        have hjc : j < cur.size := by rw [hsz]; omega
        simp only [putCells, Array.getElem?_mapIdx, Array.getElem?_eq_getElem hjc, Option.map_some, id, Nat.zero_le, true_and, Nat.zero_add, Nat.sub_zero]
        rw [if_pos (by rw [size_flatK, hd'l]; exact hj)]
      · rw [if_neg hj, List.getElem?_eq_none]
        rw [List.length_flatMap, List.map_congr_left (g := fun _ => E.sz e) (fun x _ => hk x), List.map_const', List.sum_replicate_nat, Array.length_toList, hd'l]
        omega
    refine ⟨d'.toList.map fun x => x.1.1, d'.toList.flatMap fun x => x.1.2, rfl, hK _ ?_ ?_, hlen, ⟨rfl, rfl, rfl, ?_, fun k hk hkb => hoth k hk (fun h => hkb (by rw [h]; rfl))⟩, by simp [sortWorldK, grow, putRowK, putRow, mapBlock, Sort.ahead], ⟨?_, .inr ⟨blk, cap, _, by rw [hlen], hBg, hblk, by rw [hlen]; exact hnc, hcm, by rw [hpsz, hsz], hys⟩⟩, ?_⟩
    · rw [← hds]; exact hperm.map _
    · rw [List.pairwise_map, List.pairwise_iff_getElem]
      intro i j hi hj hij
      have hj' : j < d'.size := by simpa using hj
      have hi' : i < d'.size := by simpa using hi
      have := hs i j (Nat.zero_le _) hij (by rw [← hdl, ← hd'l]; exact hj')
      rw [getElem!_pos d' _ hj', getElem!_pos d' _ hi'] at this
      simpa [ltOf] using this
    · unfold sortWorldK
      rw [size_grow]
      simp [putRowK, putRow, mapBlock, Sort.ahead]
    · have eq1 := congrArg List.length hys
      have hpl : (putCells id 0 (flatK (fun x : Cel E w S e => x.1.2) (E.sz e) d') cur).toList.length = cap * E.sz e := by simp [putCells, hsz]
      rw [List.length_take, hpl, hlen, ← hdl] at eq1
      rw [← eq1, hlen, ← hdl]
      omega
    · have hel : ∀ ds2 : List (Cel E w S e), RelC E [] (fun _ => none) (sortWorldK (fun x : Cel E w S e => x.1.2) (E.sz e) w blk 0 n d' os) (fun k => S k ∨ (w.heap.size ≤ k ∧ k < (sortWorldK (fun x : Cel E w S e => x.1.2) (E.sz e) w blk 0 n d' os).heap.size)) ((ds2.map fun x => x.1.1).flatMap (E.enc e)) (ds2.flatMap fun x => x.1.2) := by
        intro ds2
        induction ds2 with
        | nil => exact .nil
        | cons x r ih =>
          rw [List.map_cons, List.flatMap_cons, List.flatMap_cons]
          refine RelC.append (x.2.goes ⟨fun k hk => ⟨.inl hk, hoth k (hS k hk).1 (hnS k hk)⟩, fun _ h => absurd rfl h, fun _ _ _ h _ => absurd rfl h⟩) ih
      exact hel _

/-- A world that is as it was below, and whose draws have not fallen, written out. -/
theorem below_grow {W W' : World} (h : Below W.heap.size W W') : ∃ q os', W' = grow (W.drewN q) os' := by
  refine ⟨W'.drawn - W.drawn, W'.heap.extract W.heap.size W'.heap.size, ?_⟩
  have hd : W.drawn + (W'.drawn - W.drawn) = W'.drawn := by have := h.dr; omega
  have hh : W.heap ++ W'.heap.extract W.heap.size W'.heap.size = W'.heap := by
    apply Array.ext_getElem?
    intro k
    rw [Array.getElem?_append]
    split
    · rename_i hk; exact (h.block k hk).symm
    · rename_i hk
      rw [Array.getElem?_extract]
      have := h.size
      split
      · congr 1; omega
      · rw [Array.getElem?_eq_none (by omega)]
  obtain ⟨wh, wt, wd, wo, wp⟩ := W
  obtain ⟨vh, vt, vd, vo, vp⟩ := W'
  have e1 := h.os; have e2 := h.tape; have e3 := h.output
  simp only at e1 e2 e3 hd hh
  subst e1 e2 e3
  simp only [grow, World.drewN, hd, hh]

/-- A comparison's contract out of its rule. -/
theorem cmp_rule {g : Nat} {X : Type} {decA : List (SV E.T) → Option X} {encR : Int → List (SV E.T)} {V : X → (Int → Prop) → Prop} (hr : RuleOk P E g (ruleF E decA encR V)) (hR : ∀ y, encR y = [.int .i64 y])
    {args : List (SV E.T)} {x : X} (hd : decA args = some x) {r : Int} (hV : ∀ K : Int → Prop, K r → V x K) {S : Nat → Prop} {W : World} {vals : List Value} (hS : ∀ k, S k → k < W.heap.size) (hrel : RelL E [] (fun _ => none) W S args vals) :
    Calls P g vals.toArray W fun ee W' => ee = .returned (.int .i64 r) ∧ ∃ q os', W' = grow (W.drewN q) os' := by
  refine (hr args (fun y => y = r) (by show (match decA args with | some x => V x fun y => y = r | none => False); rw [hd]; exact hV _ rfl) S W vals hS hrel).mono ?_
  rintro ee W' ⟨v, y, rfl, _, rfl, hb, hrel⟩
  refine ⟨?_, below_grow hb⟩
  have hrel : RelS E [] (fun _ => none) W' _ (tupV (encR y)) v := hrel
  rw [hR] at hrel
  have hrel : RelS E [] (fun _ => none) W' _ (.int .i64 y) v := hrel
  cases hrel
  rfl

end Go.Vg
