/-
  Regions that draw their order: steps that can be told apart may change places. Own work; no condition.
-/
import Derived.Test.YtkaodeodiakldaaVgU
namespace Go.Vg
variable {E : Env}

theorem disj_spec {a b : List Nat} (h : disj a b = true) : ∀ x ∈ a, x ∉ b := by
  induction a with
  | nil => intro x hx; cases hx
  | cons y r ih =>
    simp only [disj] at h
    split at h
    · cases h
    · rename_i hb
      intro x hx
      rcases List.mem_cons.1 hx with rfl | hx
      · intro hxb; rw [memN_spec.2 hxb] at hb; cases hb
      · exact ih h x hx

theorem uni_spec {a b : List Nat} {x : Nat} (h : x ∈ uni a b) : x ∈ a ∨ x ∈ b := by
  induction a with
  | nil => exact .inr h
  | cons y r ih =>
    simp only [uni] at h
    split at h
    · rcases ih h with h | h
      · exact .inl (by simp [h])
      · exact .inr h
    · rcases List.mem_cons.1 h with rfl | h
      · exact .inl (by simp)
      · rcases ih h with h | h
        · exact .inl (by simp [h])
        · exact .inr h

section
variable {T : Nat → Type}
theorem setNth_comm : ∀ (l : List (SV T)) {i j : Nat} (v v' : SV T), i ≠ j → setNth (setNth l i v) j v' = setNth (setNth l j v') i v
  | [], _, _, _, _, _ => rfl
  | _ :: _, 0, 0, _, _, h => absurd rfl h
  | _ :: _, 0, _ + 1, _, _, _ => rfl
  | _ :: _, _ + 1, 0, _, _, _ => rfl
  | _ :: r, i + 1, j + 1, v, v', h => by simp only [setNth]; rw [setNth_comm r v v' (by omega)]

theorem nth_setNth_ne : ∀ (l : List (SV T)) {i j : Nat} (v : SV T), i ≠ j → nth (setNth l i v) j = nth l j
  | [], _, _, _, _ => rfl
  | _ :: _, 0, 0, _, h => absurd rfl h
  | _ :: _, 0, _ + 1, _, _ => rfl
  | _ :: _, _ + 1, 0, _, _ => rfl
  | _ :: r, i + 1, j + 1, v, h => by simp only [setNth, nth]; exact nth_setNth_ne r v (by omega)

theorem setNth_nth : ∀ (l : List (SV T)) (i : Nat), setNth l i (nth l i) = l
  | [], _ => rfl
  | _ :: _, 0 => rfl
  | _ :: r, i + 1 => by simp only [setNth, nth]; rw [setNth_nth r i]

theorem setH_comm : ∀ (H : List (Nat × HS T)) {i j : Nat} (s s' : HS T), i ≠ j → setH (setH H i s) j s' = setH (setH H j s') i s
  | [], _, _, _, _, _ => rfl
  | p :: r, i, j, s, s', h => by
    by_cases hi : p.1 = i
    · have hj : Nat.beq p.1 j = false := beq_ne (by omega)
      have hi' : Nat.beq p.1 i = true := hi ▸ beq_self _
      simp only [setH, hi', hj]
      rw [setH_comm r s s' h]
    · have hi' : Nat.beq p.1 i = false := beq_ne hi
      by_cases hj : p.1 = j
      · have hj' : Nat.beq p.1 j = true := hj ▸ beq_self _
        simp only [setH, hi', hj']
        rw [setH_comm r s s' h]
      · have hj' : Nat.beq p.1 j = false := beq_ne hj
        simp only [setH, hi', hj']
        rw [setH_comm r s s' h]

theorem freshB_setH : ∀ (H : List (Nat × HS T)) {i j : Nat} (s : HS T), i ≠ j → freshB (setH H i s) j = freshB H j
  | [], _, _, _, _ => rfl
  | p :: r, i, j, s, h => by
    by_cases hi : p.1 = i
    · have hj : Nat.beq p.1 j = false := beq_ne (by omega)
      have hi' : Nat.beq p.1 i = true := hi ▸ beq_self _
      simp only [setH, hi', freshB, hj]
      exact freshB_setH r s h
    · have hi' : Nat.beq p.1 i = false := beq_ne hi
      simp only [setH, hi', freshB]
      split
      · rfl
      · exact freshB_setH r s h

theorem upds_same (st : St T) : ∀ (u : List (Nat × HS T)), (st.upds u).tmps = st.tmps ∧ (st.upds u).next = st.next ∧ (st.upds u).saved = st.saved := by
  intro u
  induction u generalizing st with
  | nil => exact ⟨rfl, rfl, rfl⟩
  | cons p r ih => exact ih _

theorem upds_look (st : St T) : ∀ (u : List (Nat × HS T)) {id : Nat}, id ∉ keysOf u → look (st.upds u).heap id = look st.heap id ∧ freshB (st.upds u).heap id = freshB st.heap id := by
  intro u
  induction u generalizing st with
  | nil => intro id _; exact ⟨rfl, rfl⟩
  | cons p r ih =>
    intro id h
    simp only [keysOf, List.mem_cons, not_or] at h
    obtain ⟨h1, h2⟩ := ih (st.setBlk p.1 p.2) h.2
    exact ⟨h1.trans (look_setH_ne _ _ _ _ (fun e => h.1 e.symm)), h2.trans (freshB_setH _ _ (fun e => h.1 e.symm))⟩

theorem upds_set (st : St T) (i : Nat) (s : HS T) : ∀ (u : List (Nat × HS T)), i ∉ keysOf u → (st.setBlk i s).upds u = (st.upds u).setBlk i s := by
  intro u
  induction u generalizing st with
  | nil => intro _; rfl
  | cons p r ih =>
    intro h
    simp only [keysOf, List.mem_cons, not_or] at h
    have : (st.setBlk i s).setBlk p.1 p.2 = (st.setBlk p.1 p.2).setBlk i s := by
      simp only [St.setBlk]; rw [setH_comm _ _ _ h.1]
    simp only [St.upds]
    rw [this]
    exact ih _ h.2

theorem upds_comm (st : St T) : ∀ (u v : List (Nat × HS T)), (∀ x ∈ keysOf u, x ∉ keysOf v) → (st.upds u).upds v = (st.upds v).upds u := by
  intro u
  induction u generalizing st with
  | nil => intro v _; rfl
  | cons p r ih =>
    intro v h
    simp only [keysOf, List.mem_cons, forall_eq_or_imp] at h
    simp only [St.upds]
    rw [ih _ v h.2, upds_set _ _ _ v h.1]

theorem put_upds (st : St T) (d : Option Nat) (v : SV T) (u : List (Nat × HS T)) : (st.put d v).upds u = (st.upds u).put d v := by
  cases d with
  | none => rfl
  | some d =>
    induction u generalizing st with
    | nil => rfl
    | cons p r ih => exact ih (st.setBlk p.1 p.2)

theorem put_comm (st : St T) {d d' : Option Nat} (v v' : SV T) (h : ∀ i j, d = some i → d' = some j → i ≠ j) : (st.put d v).put d' v' = (st.put d' v').put d v := by
  cases d <;> cases d' <;> try rfl
  simp only [St.put]
  rw [setNth_comm _ _ _ (h _ _ rfl rfl)]

theorem put_heap (st : St T) (d : Option Nat) (v : SV T) : (st.put d v).heap = st.heap ∧ (st.put d v).next = st.next := by cases d <;> exact ⟨rfl, rfl⟩

theorem put_tmp (st : St T) (d : Option Nat) (v : SV T) {t : Nat} (h : d ≠ some t) : nth (st.put d v).tmps t = nth st.tmps t := by
  cases d with
  | none => rfl
  | some d => exact nth_setNth_ne _ _ (fun e => h (by rw [e]))
end

variable {C : Ctx E}

theorem refsLH_agree {l : List Operand} {tmps tmps' : List (SV E.T)} {H H' : List (Nat × HS E.T)} (h : ∀ t ∈ tmpsOf l, nth tmps t = nth tmps' t) (hl : ∀ id ∈ refsLH H tmps l, look H id = look H' id) : refsLH H tmps l = refsLH H' tmps' l := by
  induction l with
  | nil => rfl
  | cons x r ih =>
    have he : ev tmps x = ev tmps' x := by
      cases x with
      | tmp t => exact h t (by simp [tmpsOf])
      | _ => rfl
    have hr : ∀ t ∈ tmpsOf r, nth tmps t = nth tmps' t := fun t ht => h t (by cases x <;> simp [tmpsOf, ht])
    simp only [refsLH] at hl ⊢
    rw [ih hr (fun id hid => hl id (List.mem_append_right _ hid)), ← he, refsH_agree (H := H) (H' := H') (x := ev tmps x) (fun id hid => (hl id (List.mem_append_left _ hid)).symm)]

theorem writesK_mem {s : Option Nat} {l : List Nat} {k : Nat} (h : k ∈ l) : 2 * k ∈ writesK s l := by
  induction l with
  | nil => cases h
  | cons x r ih =>
    unfold writesK
    rcases List.mem_cons.1 h with rfl | h
    · split
      · simp
      · split <;> simp
    · split
      · simp [ih h]
      · split <;> simp [ih h]

theorem writesK_soft {s : Option Nat} {l : List Nat} {k : Nat} (h : k ∈ l) (hn : 2 * k + 1 ∉ writesK s l) : s = some k := by
  induction l with
  | nil => cases h
  | cons x r ih =>
    unfold writesK at hn
    rcases List.mem_cons.1 h with rfl | h
    · split at hn
      · simp at hn
      · split at hn
        · rename_i i hi; rw [Nat.eq_of_beq_eq_true hi]
        · simp at hn
    · split at hn
      · exact ih h (fun hm => hn (by simp [hm]))
      · split at hn
        · exact ih h (fun hm => hn (by simp [hm]))
        · exact ih h (fun hm => hn (by simp [hm]))

theorem keysOf_append {T : Nat → Type} (u v : List (Nat × HS T)) : keysOf (u ++ v) = keysOf u ++ keysOf v := by
  induction u with
  | nil => rfl
  | cons p r ih => simp only [List.cons_append, keysOf, ih]

theorem keysOf_deads {T : Nat → Type} : ∀ (l : List Nat), keysOf (deads (T := T) l) = l
  | [] => rfl
  | x :: r => by simp only [deads, keysOf, keysOf_deads r]

theorem upds_app {T : Nat → Type} (st : St T) : ∀ (u v : List (Nat × HS T)), st.upds (u ++ v) = (st.upds u).upds v := by
  intro u
  induction u generalizing st with
  | nil => intro v; rfl
  | cons p r ih => intro v; exact ih (st.setBlk p.1 p.2) v

/-- A store into a row's element keeps the row's shape. -/
theorem store_soft {t : Nat} {v : SV E.T} {id : Nat} {i : Int} {off : Nat} {st : St E.T} {u : List (Nat × HS E.T)} (h : storeB E st.heap t (.rptr id i off) v = some u) : Shaped (look st.heap id) (look (st.upds u).heap id) := by
  unfold storeB at h
  split at h
  · rename_i new n hc hs
    split at h
    · simp only at h
      split at h
      · rename_i e l hl
        split at h
        · split at h
          · rename_i y hy
            split at h
            · rename_i hall
              simp only [Option.some.injEq] at h
              subst h
              rw [upds_app]
              have hnot : id ∉ keysOf (deads (T := E.T) (rowIds1 new)) := by
                rw [keysOf_deads]
                intro hm
                have := List.all_eq_true.1 hall id hm
                rw [beq_self] at this
                cases this
              have hk := (upds_look st _ hnot).1
              have hkey : ∃ p ∈ (st.upds (deads (rowIds1 new))).heap, p.1 = id := by
                refine nodup_key _ _ ?_
                rw [hk, hl]; simp
              simp only [St.upds, St.setBlk, look_setH_same _ _ _ hkey]
              exact .inr (.inl ⟨e, l, _, hl, rfl, by simp⟩)
            · cases h
          · cases h
        · cases h
      · cases h
    · cases h
  · cases h

/-- A map in which an entry is made answers as before. -/
theorem entry_soft {fresh t id : Nat} {x i : Operand} {st : St E.T} {out : Out E.T} (hx : ev st.tmps x = .map id) (h : core E fresh st.tmps st.heap (.mapEntry t x i) = some out) : Shaped (look st.heap id) (look (st.upds out.upd).heap id) := by
  simp only [core, hx, mapAt] at h
  split at h
  · rename_i k v id0 hm hid
    cases hid
    split at h
    · rename_i kt vt l hl
      split at h
      · rename_i key z hz hb hk
        cases h
        have hkey : ∃ p ∈ st.heap, p.1 = id := nodup_key _ _ (by rw [hl]; simp)
        simp only [St.upds, St.setBlk, look_setH_same _ _ _ hkey]
        refine .inr (.inr ⟨kt, vt, l, _, hl, rfl, fun key2 z2 hz2 => ?_⟩)
        rw [hz2] at hk
        cases hk
        exact (mGet_mEnt l).symm
      · cases h
    · cases h
  · cases h

theorem tmpsOf_mem {t : Nat} : ∀ {l : List Operand}, Operand.tmp t ∈ l → t ∈ tmpsOf l
  | x :: r, h => by
    rcases List.mem_cons.1 h with rfl | h
    · simp [tmpsOf]
    · have := tmpsOf_mem h
      cases x <;> simp [tmpsOf, this]

/-- What a step does, and at what it looks. -/
theorem stepF_eff {orc : SV E.T} {fresh : Nat} {o : Oper} {st st' : St E.T} {c : CB} {R W : List Nat} (h : stepF E C orc fresh o st = some (c, st', R, W)) :
    ∃ u v, st' = (st.upds u).put o.dst v ∧ ((∀ id ∈ keysOf u, 2 * id ∈ W) ∧ ∀ id ∈ keysOf u, 2 * id + 1 ∉ W → Shaped (look st.heap id) (look (st.upds u).heap id)) ∧
      ∀ sx, Agree (tmpsOf (opnds o.op)) R st sx → stepF E C orc fresh o sx = some (c, (sx.upds u).put o.dst v, R, W) := by
  unfold stepF at h
  split at h
  · rename_i c' u v hs
    simp only [Option.some.injEq, Prod.mk.injEq] at h
    obtain ⟨rfl, rfl, rfl, rfl⟩ := h
    refine ⟨u, v, rfl, ⟨fun id hid => writesK_mem hid, fun id hid hn => ?_⟩, fun sx ag => ?_⟩
    · have hsk := writesK_soft hid hn
      obtain ⟨dst, op, ty, pos, after, guard⟩ := o
      simp only at hsk hs
      unfold softK at hsk
      split at hsk
      · split at hsk
        · rename_i t a v' _ id' i off ha
          cases hsk
          unfold stepD at hs
          split at hs
          · cases hs
          split at hs
          · cases hs
          simp only [core, ha] at hs
          cases hst : storeB E st.heap t (.rptr id i off) (ev st.tmps v') with
          | none => rw [hst] at hs; simp at hs
          | some u' =>
            rw [hst] at hs
            simp only [Option.bind_some, Option.some.injEq, Prod.mk.injEq] at hs
            obtain ⟨_, rfl, _⟩ := hs
            exact store_soft hst
        · cases hsk
      · split at hsk
        · rename_i t x i _ id' hx
          cases hsk
          unfold stepD at hs
          split at hs
          · cases hs
          split at hs
          · cases hs
          cases hst : core E fresh st.tmps st.heap (.mapEntry t x i) with
          | none => rw [hst] at hs; simp at hs
          | some out =>
            rw [hst] at hs
            simp only [Option.some.injEq, Prod.mk.injEq] at hs
            obtain ⟨_, rfl, _⟩ := hs
            exact entry_soft hx hst
        · cases hsk
      · cases hsk
    · have hev : ∀ x ∈ opnds o.op, ev st.tmps x = ev sx.tmps x := fun x hx => by
        cases x with
        | tmp t => exact ag.tmp t (tmpsOf_mem hx)
        | _ => rfl
      have full : readsK st.heap st.tmps o.op = fullK (refsLH st.heap st.tmps (opnds o.op)) → refsLH st.heap st.tmps (opnds o.op) = refsLH sx.heap sx.tmps (opnds o.op) := fun e =>
        refsLH_agree (H' := sx.heap) ag.tmp (fun id hid => ag.look id (List.mem_append_right _ (e ▸ (fullK_mem hid).1)))
      have er : readsK st.heap st.tmps o.op = readsK sx.heap sx.tmps o.op := by
        have key : ∀ op, op = o.op → readsK st.heap st.tmps op = readsK sx.heap sx.tmps op := by
          intro op hop
          rw [← hop] at full hev
          cases op <;> try exact congrArg fullK (full rfl)
          case move => rfl
          case assign => rfl
          case indexAddr t x i =>
            have hx := hev x (by simp [opnds])
            cases hxx : ev st.tmps x with
            | row id => simp only [readsK, ← hx, hxx]
            | _ =>
              have h1 : readsK st.heap st.tmps (.indexAddr t x i) = fullK (refsLH st.heap st.tmps (opnds (.indexAddr t x i))) := by simp only [readsK, hxx]
              have h2 : readsK sx.heap sx.tmps (.indexAddr t x i) = fullK (refsLH sx.heap sx.tmps (opnds (.indexAddr t x i))) := by simp only [readsK, ← hx, hxx]
              rw [h1, h2, full h1]
          case lookup t x i ok =>
            cases ok with
            | true => exact congrArg fullK (full rfl)
            | false =>
              have hx := hev x (by simp [opnds])
              cases hxx : ev st.tmps x with
              | map id => simp only [readsK, ← hx, hxx]
              | _ =>
                have h1 : readsK st.heap st.tmps (.lookup t x i false) = fullK (refsLH st.heap st.tmps (opnds (.lookup t x i false))) := by simp only [readsK, hxx]
                have h2 : readsK sx.heap sx.tmps (.lookup t x i false) = fullK (refsLH sx.heap sx.tmps (opnds (.lookup t x i false))) := by simp only [readsK, ← hx, hxx]
                rw [h1, h2, full h1]
        exact key _ rfl
      have es : softK st.tmps o.op = softK sx.tmps o.op := by
        have key : ∀ op, op = o.op → softK st.tmps op = softK sx.tmps op := by
          intro op hop
          rw [← hop] at hev
          cases op <;> try rfl
          case store t a v => simp only [softK, hev a (by simp [opnds])]
          case mapEntry t x i => simp only [softK, hev x (by simp [opnds])]
        exact key _ rfl
      have := stepD_frame (C := C) (orc := orc) (fresh := fresh) (o := o) (st := st) (st' := sx) (by rw [← er]; exact ag)
      unfold stepF
      rw [← this, hs, er, es]
  · cases h

theorem stepG_eff {orc : SV E.T} {ops : List Oper} {fresh : Nat} {o : Oper} {st st' : St E.T} {c : CB} {R W : List Nat} (h : stepG E C orc ops fresh o st = some (c, st', R, W)) :
    ∃ u v, st' = (st.upds u).put o.dst v ∧ ((∀ id ∈ keysOf u, 2 * id ∈ W) ∧ ∀ id ∈ keysOf u, 2 * id + 1 ∉ W → Shaped (look st.heap id) (look (st.upds u).heap id)) ∧
      ∀ sx, Agree (guardTmp ops o ++ tmpsOf (opnds o.op)) R st sx → stepG E C orc ops fresh o sx = some (c, (sx.upds u).put o.dst v, R, W) := by
  have ex : stepF E C orc fresh o st = some (c, st', R, W) → ∃ u v, st' = (st.upds u).put o.dst v ∧ ((∀ id ∈ keysOf u, 2 * id ∈ W) ∧ ∀ id ∈ keysOf u, 2 * id + 1 ∉ W → Shaped (look st.heap id) (look (st.upds u).heap id)) ∧
      ∀ sx, Agree (guardTmp ops o ++ tmpsOf (opnds o.op)) R st sx → stepF E C orc fresh o sx = some (c, (sx.upds u).put o.dst v, R, W) := fun h => by
    obtain ⟨u, v, h1, h2, h3⟩ := stepF_eff h
    exact ⟨u, v, h1, h2, fun sx ag => h3 sx ⟨fun t ht => ag.tmp t (List.mem_append_right _ ht), ag.look, ag.fresh, ag.shape, ag.next⟩⟩
  have sk : some (CB.b true, st.put o.dst (.tup []), ([] : List Nat), ([] : List Nat)) = some (c, st', R, W) → ∃ u v, st' = (st.upds u).put o.dst v ∧ ((∀ id ∈ keysOf u, 2 * id ∈ W) ∧ ∀ id ∈ keysOf u, 2 * id + 1 ∉ W → Shaped (look st.heap id) (look (st.upds u).heap id)) ∧
      ∀ sx : St E.T, some (CB.b true, sx.put o.dst (.tup []), ([] : List Nat), ([] : List Nat)) = some (c, (sx.upds u).put o.dst v, R, W) := fun h => by
    simp only [Option.some.injEq, Prod.mk.injEq] at h
    obtain ⟨rfl, rfl, rfl, rfl⟩ := h
    exact ⟨[], .tup [], rfl, ⟨fun id hid => (by cases hid), fun id hid => (by cases hid)⟩, fun sx => rfl⟩
  unfold stepG at h ⊢
  split at h
  · exact ex h
  · rename_i j want hg
    split at h
    · rename_i d hd
      have hgt : d ∈ guardTmp ops o ++ tmpsOf (opnds o.op) := List.mem_append_left _ (by simp [guardTmp, hg, hd])
      split at h
      · rename_i b hb
        have go : ∀ sx : St E.T, Agree (guardTmp ops o ++ tmpsOf (opnds o.op)) R st sx → nth sx.tmps d = .bool b := fun sx ag => (ag.tmp d hgt).symm.trans hb
        cases b <;> cases want <;> simp only at h
        · obtain ⟨u, v, h1, h2, h3⟩ := ex h
          exact ⟨u, v, h1, h2, fun sx ag => by rw [go sx ag]; exact h3 sx ag⟩
        · obtain ⟨u, v, h1, h2, h3⟩ := sk h
          exact ⟨u, v, h1, h2, fun sx ag => by rw [go sx ag]; exact h3 sx⟩
        · obtain ⟨u, v, h1, h2, h3⟩ := sk h
          exact ⟨u, v, h1, h2, fun sx ag => by rw [go sx ag]; exact h3 sx⟩
        · obtain ⟨u, v, h1, h2, h3⟩ := ex h
          exact ⟨u, v, h1, h2, fun sx ag => by rw [go sx ag]; exact h3 sx ag⟩
      · rename_i hb
        obtain ⟨u, v, h1, h2, h3⟩ := sk h
        exact ⟨u, v, h1, h2, fun sx ag => by rw [← ag.tmp d hgt, hb]; exact h3 sx⟩
      · cases h
    · cases h

/-- One step of such a region. -/
def StepS (E : Env) (C : Ctx E) (ops : Array Oper) (next : Nat) (p : Nat × FP) (st st' : St E.T) : Prop :=
  ∃ o c orc, ops[p.1]? = some o ∧ stepG E C orc ops.toList (next + p.1) o st = some (c, st', p.2.R, p.2.W) ∧ c.holds ∧ p.2.looks = guardTmp ops.toList o ++ tmpsOf (opnds o.op) ∧ p.2.dst = o.dst

theorem notIn_spec {d : Option Nat} {l : List Nat} (h : notIn d l = true) : ∀ x ∈ l, d ≠ some x := by
  unfold notIn at h
  intro x hx e
  subst e
  simp only at h
  rw [memN_spec.2 hx] at h
  cases h

theorem step_comm {ops : Array Oper} {next : Nat} {p q : Nat × FP} {st st1 st2 : St E.T} (hp : StepS E C ops next p st st1) (hq : StepS E C ops next q st1 st2) (hi : indepB p.2 q.2 = true) :
    ∃ st1', StepS E C ops next q st st1' ∧ StepS E C ops next p st1' st2 := by
  obtain ⟨o, c, orc, ho, hs, hc, hl, hd⟩ := hp
  obtain ⟨o', c', orc', ho', hs', hc', hl', hd'⟩ := hq
  simp only [indepB, Bool.and_eq_true] at hi
  obtain ⟨⟨⟨i1, i2⟩, i3⟩, i4⟩ := hi
  have n1 := notIn_spec i1
  have n2 := notIn_spec i2
  have n3 := disj_spec i3
  have n4 := disj_spec i4
  obtain ⟨u, v, h1, h2, h3⟩ := stepG_eff hs
  obtain ⟨u', v', h1', h2', h3'⟩ := stepG_eff hs'
  subst h1
  have nk : ∀ x ∈ keysOf u, x ∉ keysOf u' := fun x hx hx' => n3 _ (h2.1 x hx) (List.mem_append_left _ (h2'.1 x hx'))
  have ag1 : Agree (guardTmp ops.toList o' ++ tmpsOf (opnds o'.op)) q.2.R ((st.upds u).put o.dst v) st := by
    refine ⟨fun t ht => ?_, fun id hid => ?_, fun id hid => ?_, fun id hid => ?_, ?_⟩
    · rw [put_tmp _ _ _ (by rw [← hd]; exact n1 t (List.mem_append_right _ (by rw [hl']; exact ht))), (upds_same st u).1]
    · rw [(put_heap _ _ _).1]; exact (upds_look st u (fun hk => n3 _ (h2.1 id hk) (List.mem_append_right _ hid))).1
    · rw [(put_heap _ _ _).1]; exact (upds_look st u (fun hk => n3 _ (h2.1 id hk) (List.mem_append_right _ hid))).2
    · rw [(put_heap _ _ _).1]
      by_cases hk : id ∈ keysOf u
      · exact (h2.2 id hk (fun hw => n3 _ hw (List.mem_append_right _ hid))).symm
      · exact .inl (upds_look st u hk).1
    · rw [(put_heap _ _ _).2, (upds_same st u).2.1]
  have ag2 : Agree (guardTmp ops.toList o ++ tmpsOf (opnds o.op)) p.2.R st ((st.upds u').put o'.dst v') := by
    refine ⟨fun t ht => ?_, fun id hid => ?_, fun id hid => ?_, fun id hid => ?_, ?_⟩
    · rw [put_tmp _ _ _ (by rw [← hd']; exact n2 t (by rw [hl]; exact ht)), (upds_same st u').1]
    · rw [(put_heap _ _ _).1]; exact (upds_look st u' (fun hk => n4 _ (h2'.1 id hk) hid)).1.symm
    · rw [(put_heap _ _ _).1]; exact (upds_look st u' (fun hk => n4 _ (h2'.1 id hk) hid)).2.symm
    · rw [(put_heap _ _ _).1]
      by_cases hk : id ∈ keysOf u'
      · have hk0 : id ∉ keysOf u := fun h => nk id h hk
        have := h2'.2 id hk (fun hw => n4 _ hw hid)
        rw [(put_heap _ _ _).1, (upds_look st u hk0).1, put_upds, (put_heap _ _ _).1, upds_comm _ _ _ nk, (upds_look _ u hk0).1] at this
        exact this
      · exact .inl (upds_look st u' hk).1.symm
    · rw [(put_heap _ _ _).2, (upds_same st u').2.1]
  refine ⟨_, ⟨o', c', orc', ho', h3' _ ag1, hc', hl', hd'⟩, ⟨o, c, orc, ho, ?_, hc, hl, hd⟩⟩
  rw [h3 _ ag2, h1']
  congr 2
  refine Prod.ext ?_ rfl
  simp only
  rw [put_upds, put_upds, put_comm, upds_comm]
  · intro x hx
    intro hx'
    first | exact nk x hx hx' | exact nk x hx' hx
  · intro i j hi hj e
    subst e
    refine n1 i (List.mem_append_left _ ?_) (by rw [hd]; first | exact hi | exact hj)
    rw [hd']; simp; first | exact hj | exact hi

/-- Steps one behind the other. -/
inductive Run (E : Env) (C : Ctx E) (ops : Array Oper) (next : Nat) : List (Nat × FP) → St E.T → St E.T → Prop
  | nil (st) : Run E C ops next [] st st
  | cons {p r st st1 st2} : StepS E C ops next p st st1 → Run E C ops next r st1 st2 → Run E C ops next (p :: r) st st2

theorem run_bubble {ops : Array Oper} {next : Nat} {p : Nat × FP} {l2 : List (Nat × FP)} : ∀ {l1 : List (Nat × FP)} {st st' : St E.T}, Run E C ops next (l1 ++ p :: l2) st st' → (∀ q ∈ l1, indepB q.2 p.2 = true) →
    ∃ st1, StepS E C ops next p st st1 ∧ Run E C ops next (l1 ++ l2) st1 st' := by
  intro l1
  induction l1 with
  | nil => intro st st' h _; cases h with | cons h1 h2 => exact ⟨_, h1, h2⟩
  | cons q l1 ih =>
    intro st st' h hi
    cases h with
    | cons h1 h2 =>
      obtain ⟨st1, h3, h4⟩ := ih h2 (fun x hx => hi x (by simp [hx]))
      obtain ⟨st2, h5, h6⟩ := step_comm h1 h3 (hi q (by simp))
      exact ⟨st2, h5, .cons h6 h4⟩

end Go.Vg
