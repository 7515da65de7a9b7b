/-
  The executor's single operations are right: slice literals, make, builtins; all operations together. Own work; no condition.
-/
import Derived.Test.YtkaodeodiakldaaVgMa
namespace Go.Vg
open Go.RowKit
variable {P : Program} {E : Env}
section
variable {B : Nat} {S0 : Nat → Prop} {w0 : World} {gv : Gv} {σ : Nat → Option Nat} {st : St E.T} {a : Act} {w w' : World} {H : List (Nat × HS E.T)} {S : Nat → Prop}

theorem made_toList (z : Array Value) (n : Nat) : (madeCells z (n * z.size)).toList = (List.replicate n z.toList).flatten := by
  have key : ∀ m, (List.range (m * z.size)).map (fun i => z[i % z.size]!) = (List.replicate m z.toList).flatten := by
    intro m
    induction m with
    | zero => simp
    | succ m ih =>
      rw [Nat.add_mul, Nat.one_mul, Nat.add_comm, List.range_add, List.map_append, List.replicate_succ, List.flatten_cons]
      congr 1
      · apply List.ext_getElem?
        intro i
        simp only [List.getElem?_map, Array.getElem?_toList]
        by_cases hi : i < z.size
        · rw [List.getElem?_range hi]; simp [Nat.mod_eq_of_lt hi, hi]
        · rw [List.getElem?_eq_none (by simp; omega)]; simp [hi]
      · rw [← ih, List.map_map]
        apply List.map_congr_left
        intro i _
        simp
  simp only [madeCells, Array.toList_map, Array.toList_range]
  exact key n

theorem rep_rel {cs : List (SV E.T)} {vs : List Value} (h : RelC E H σ w S cs vs) : ∀ n, RelC E H σ w S (repC n cs) (List.replicate n vs).flatten
  | 0 => .nil
  | n + 1 => by rw [List.replicate_succ, List.flatten_cons]; exact h.append (rep_rel h n)

theorem flat_rep {e : Nat} (z : E.T e) : ∀ n, (List.replicate n z).flatMap (E.enc e) = repC n (E.enc e z)
  | 0 => rfl
  | n + 1 => by rw [List.replicate_succ, List.flatMap_cons, flat_rep z n]; rfl

theorem flatten_take {α : Type} (z : List α) {n c : Nat} (h : n ≤ c) : (List.replicate c z).flatten.take (n * z.length) = (List.replicate n z).flatten := by
  obtain ⟨d, rfl⟩ := Nat.exists_eq_add_of_le h
  rw [← List.replicate_append_replicate, List.flatten_append]
  exact List.take_left' (by simp)

theorem chunks_rel {e : Nat} (he : E.has e = true) : ∀ {n : Nat} {cs : List (SV E.T)} {vs : List Value} {l : List (E.T e)}, RelC E H σ w S cs vs → chunks E e n cs = some l → RelC E H σ w S (l.flatMap (E.enc e)) vs ∧ l.length = n := by
  intro n
  induction n with
  | zero =>
    intro cs vs l h hc
    cases cs with
    | nil => simp [chunks] at hc; subst hc; cases h; exact ⟨.nil, rfl⟩
    | cons s r => simp [chunks] at hc
  | succ n ih =>
    intro cs vs l h hc
    simp only [chunks] at hc
    split at hc
    · rename_i c r h1 h2
      split at hc
      · rename_i x hx
        obtain ⟨l', hl', rfl⟩ := Option.map_eq_some_iff.1 hc
        have a1 := h.take h1
        have a2 := h.drop h2
        obtain ⟨h3, h4⟩ := ih a2.1 hl'
        have := (RelC.dec he hx a1.1).append h3
        rw [List.take_append_drop] at this
        exact ⟨by simpa using this, by simp [h4]⟩
      · cases hc
    · cases hc

theorem do_makeSlice (tab : TabOk P E) (g : Gam E B S0 w0 gv σ st a w) {o : Oper} {fresh t : Nat} {x y : Operand} (hf : Fresh st fresh) (ho : o.op = .makeSlice t x y) {out : Out E.T} (h : core E fresh st.tmps st.heap (.makeSlice t x y) = some out)
    (hc : out.cond = true) : Done P E B S0 w0 gv st a o w out := by
  simp only [core] at h
  split at h
  · rename_i e k1 n k2 c hel hx hy
    have hxv := g.ev x
    have hyv := g.ev y
    rw [hx] at hxv; rw [hy] at hyv
    have hxv := int_inv hxv
    have hyv := int_inv hyv
    split at h
    · rename_i sz zero hsz hz
      split at h
      · rename_i z hb h1 hd
        simp only [Bool.and_eq_true] at hb
        have hb1 := Nat.eq_of_beq_eq_true hb.1
        have he := hb.2
        have h1 := Nat.le_of_ble_eq_true h1
        subst hb1
        cases h
        simp only [andb] at hc
        split at hc
        · rename_i hc1
          split at hc
          · rename_i hc2
            have hn0 : 0 ≤ n := by simpa [leb] using hc1
            have hnc : n ≤ c := by simpa [leb] using hc2
            obtain ⟨hr1, hr2⟩ := roomB_spec hc
            unfold zeroB at hz
            split at hz
            · rename_i hok
              cases hz
              obtain ⟨i, hi, his, hby, zv, hzv, hzs, hzr⟩ := tab.info e hok
              obtain ⟨i', hi', his', _⟩ := size_spec tab hsz
              rw [hi] at hi'; cases hi'
              have hund := elem_spec tab hel
              have hcn : (c.toNat : Int) = c := by omega
              have hrun := run_make (P := P) w t e i zv hund hi hzv k1 k2 n c hn0 hnc (by
                have : c.toNat * i.bytes ≤ 140737488355328 := by rw [hby]; exact hr1
                have h2 : ((c.toNat * i.bytes : Nat) : Int) ≤ 140737488355328 := by omega
                rw [Int.natCast_mul, hcn, Int.mul_comm] at h2
                omega) (by omega)
              rw [his', ← his', ← hzs] at hrun
              have hzrel := hzr st.heap σ w (sup E B S0 st.heap σ w)
              have hdec := RelC.dec he hd hzrel
              refine Done.row (ds := []) g hf (n := n.toNat) (c := c.toNat) (arr := madeCells zv.cells (c.toNat * zv.cells.size)) (by simp) he (by simp) (by omega) (by simp only [maxLen]; omega) (by simp [madeCells, hzs, his']) ?_ (by simp [execOp, ho, hxv, hyv, hrun])
              rw [made_toList, flat_rep]
              have e1 : E.sz e = zv.cells.toList.length := by simp [hzs, his']
              rw [e1, flatten_take _ (by omega)]
              exact rep_rel hdec _
            · cases hz
          · cases hc
        · cases hc
      · cases h
    · cases h
  · cases h

/-- make of a slice whose cells are known one by one. -/
theorem crow_make (tab : TabOk P E) {C : Ctx E} (g : Gam E B S0 w0 gv σ st a w) {o : Oper} {fresh n t : Nat} {c : Bool} {cs : List (SV E.T)} (hf : Fresh st fresh) (h : crowB E C fresh st.tmps o.op = some (c, n, t, cs)) (hc : c = true) :
    ∃ v w' σ', (execOp a.eval o).run P w = .ok (.value v) w' ∧ Gam E B S0 w0 gv σ' (st.setBlk fresh (.live (.cells t cs))) a w' ∧ RelS E (st.setBlk fresh (.live (.cells t cs))).heap σ' w' (sup E B S0 (st.setBlk fresh (.live (.cells t cs))).heap σ' w') (.crow fresh n) v := by
  unfold crowB at h
  split at h
  · cases h
  · split at h
    · rename_i t' x y ho
      split at h
      · rename_i e k1 n1 k2 c1 hel hx hy
        have hxv := g.ev x
        have hyv := g.ev y
        rw [hx] at hxv; rw [hy] at hyv
        have hxv := int_inv hxv
        have hyv := int_inv hyv
        split at h
        · rename_i sz zero hsz hz he
          split at h
          · rename_i hb
            have hb := Nat.eq_of_beq_eq_true hb
            subst hb
            simp only [Option.some.injEq, Prod.mk.injEq] at h
            obtain ⟨h1, rfl, rfl, rfl⟩ := h
            rw [hc] at h1
            simp only [andb] at h1
            split at h1
            · rename_i hc1
              split at h1
              · rename_i hc2
                have hn0 : 0 ≤ n1 := by simpa [leb] using hc1
                have hnc : n1 = c1 := by simpa using hc2
                obtain ⟨hr1, hr2⟩ := roomB_spec h1
                unfold zeroB at hz
                split at hz
                · rename_i hok
                  have hz : ((E.ti e).zero.map zcSV : List (SV E.T)) = [SV.nils] := by simpa using hz
                  obtain ⟨i, hi, his, hby, zv, hzv, hzs, hzr⟩ := tab.info e hok
                  obtain ⟨i', hi', his', _⟩ := size_spec tab hsz
                  rw [hi] at hi'; cases hi'
                  have hund := elem_spec tab hel
                  have hcn : (c1.toNat : Int) = c1 := by omega
                  have hrun := run_make (P := P) w t' e i zv hund hi hzv k1 k2 n1 c1 hn0 (by omega) (by
                    have : c1.toNat * i.bytes ≤ 140737488355328 := by rw [hby]; exact hr1
                    have h2 : ((c1.toNat * i.bytes : Nat) : Int) ≤ 140737488355328 := by omega
                    rw [Int.natCast_mul, hcn, Int.mul_comm] at h2
                    omega) (by omega)
                  rw [his', ← his', ← hzs] at hrun
                  have hzrel := hzr st.heap σ w (sup E B S0 st.heap σ w)
                  rw [hz] at hzrel
                  have hzl : zv.cells.toList = [.slice none 0 0] := by
                    generalize zv.cells.toList = l at hzrel
                    cases hzrel with
                    | cons _ _ e1 e2 => cases e1; cases e2; rfl
                  subst hnc
                  obtain ⟨σ', h1, h2, h3, go, g'⟩ := g.alloc fresh hf.1 hf.2.1 hf.2.2 (madeCells zv.cells (n1.toNat * zv.cells.size)) e (.cells e (List.replicate n1.toNat .nils)) (fun H' σ' w' S' go hs hk => ⟨_, _, hs, g.hB, hk, by
                    rw [made_toList, hzl]
                    have : ∀ m, RelC E H' σ' w' S' (List.replicate m (SV.nils : SV E.T)) (List.replicate m [Value.slice none 0 0]).flatten := by
                      intro m
                      induction m with
                      | zero => exact .nil
                      | succ m ih => rw [List.replicate_succ, List.replicate_succ, List.flatten_cons]; exact .cons rfl rfl .nils ih
                    exact this _⟩)
                  refine ⟨.slice (some ⟨w.heap.size, 0, none⟩) n1.toNat n1.toNat, _, σ', by simp [execOp, ho, hxv, hyv, hrun], g', ?_⟩
                  exact .crow fresh n1.toNat _ (by rw [show look (st.setBlk fresh (.live (.cells e (List.replicate n1.toNat .nils)))).heap fresh = _ from h3]; simp) h1
                · cases hz
              · cases h1
            · cases h1
          · cases h
        · cases h
      · cases h
    · cases h

theorem rowIds_freeV (_g : Gam E B S0 w0 gv σ st a w) : ∀ {ss : List (SV E.T)} {vs : List Value}, RelL E st.heap σ w (sup E B S0 st.heap σ w) ss vs → ∀ i ∈ rowIds ss, look st.heap i ≠ .free := by
  intro ss
  induction ss with
  | nil => intro vs _ i hi; simp [rowIds] at hi
  | cons s r ih =>
    intro vs h i hi
    cases h with
    | cons h1 h2 =>
      cases s <;> simp only [rowIds, List.mem_cons, List.mem_append] at hi <;> try exact ih h2 i hi
      · rcases hi with rfl | hi
        · cases h1 <;> assumption
        · exact ih h2 i hi
      · rcases hi with hi | hi
        · cases h1 with
          | agg _ us h3 => exact rowIds_free h3 i hi
        · exact ih h2 i hi

theorem toData_rel (g : Gam E B S0 w0 gv σ st a w) {s : SV E.T} {v : Value} (hr : RelS E st.heap σ w (sup E B S0 st.heap σ w) s v)
    {H' : List (Nat × HS E.T)} (go : Goes E st.heap σ w (sup E B S0 st.heap σ w) H' σ w (sup E B S0 H' σ w)) {ids : List Nat} (hd : ∀ j b, look H' j = .live b → j ∉ ids ∧ ∃ c, look st.heap j = .live c) (hi : ∀ i ∈ rowIds [s], i ∈ ids) :
    RelS E H' σ w (sup E B S0 H' σ w) (toData st.heap s) v := by
  unfold toData
  split
  · rename_i cs
    cases hr with
    | agg _ us h => exact .agg _ _ (mapDat_rel g go hd h (fun i h' => hi i (by simp [rowIds, h'])))
  · exact rowToDat_rel g hr go (fun id hid j b hj => by
      subst hid
      obtain ⟨h1, h2⟩ := hd j b hj
      exact ⟨fun e => h1 (e ▸ hi id (by simp [rowIds])), h2⟩)

theorem rowIds_cons {T : Nat → Type} (s : SV T) (r : List (SV T)) (i : Nat) : i ∈ rowIds (s :: r) ↔ i ∈ rowIds [s] ∨ i ∈ rowIds r := by
  cases s <;> simp [rowIds]

theorem dataParts_rel (g : Gam E B S0 w0 gv σ st a w) {H' : List (Nat × HS E.T)} (go : Goes E st.heap σ w (sup E B S0 st.heap σ w) H' σ w (sup E B S0 H' σ w)) {ids : List Nat} (hd : ∀ j b, look H' j = .live b → j ∉ ids ∧ ∃ c, look st.heap j = .live c) :
    ∀ (l : List (Nat × Operand)), (∀ i ∈ rowIds (l.map fun p => ev st.tmps p.2), i ∈ ids) → RelP E H' σ w (sup E B S0 H' σ w) (l.map fun p => (p.1, toData st.heap (ev st.tmps p.2))) (l.map fun p => (p.1, a.eval p.2)) := by
  intro l
  induction l with
  | nil => intro _; exact .nil
  | cons p r ih =>
    intro hi
    rw [List.map_cons] at hi
    exact .cons p.1 (toData_rel g (g.ev p.2) go hd (fun i h => hi i ((rowIds_cons _ _ _).2 (.inl h)))) (ih (fun i h => hi i ((rowIds_cons _ _ _).2 (.inr h))))

theorem parts_relL (g : Gam E B S0 w0 gv σ st a w) (l : List (Nat × Operand)) : RelL E st.heap σ w (sup E B S0 st.heap σ w) (l.map fun p => ev st.tmps p.2) (l.map fun p => a.eval p.2) := by
  induction l with
  | nil => exact .nil
  | cons p r ih => exact .cons (g.ev p.2) ih

theorem do_buildSlice (tab : TabOk P E) (g : Gam E B S0 w0 gv σ st a w) {o : Oper} {fresh t len : Nat} {parts : Array (Nat × Operand)} (hf : Fresh st fresh) (ho : o.op = .buildSlice t len parts) {out : Out E.T} (h : core E fresh st.tmps st.heap (.buildSlice t len parts) = some out) :
    Done P E B S0 w0 gv st a o w out := by
  simp only [core] at h
  split at h
  · rename_i e hel
    split at h
    · rename_i n zero hsz hz
      split at h
      · rename_i hb h24 h1
        simp only [Bool.and_eq_true] at hb
        have hb1 := Nat.eq_of_beq_eq_true hb.1
        have he := hb.2
        have h1 := Nat.le_of_ble_eq_true h1
        have h24 := Nat.le_of_ble_eq_true h24
        subst hb1
        obtain ⟨cs, hfill, h⟩ := Option.bind_eq_some_iff.1 h
        obtain ⟨l, hch, h⟩ := Option.bind_eq_some_iff.1 h
        cases h
        unfold zeroB at hz
        split at hz
        · rename_i hok
          cases hz
          obtain ⟨i, hi, his, hby, zv, hzv, hzs, hzr⟩ := tab.info e hok
          obtain ⟨i', hi', his', _⟩ := size_spec tab hsz
          rw [hi] at hi'; cases hi'
          have hund := elem_spec tab hel
          have hds := rowIds_freeV g (parts_relL g parts.toList)
          obtain ⟨g1, go1, hl1, hl2, _, _, _, _⟩ := g.deads (rowIds (parts.toList.map fun p => ev st.tmps p.2)) hds
          generalize hst1 : (st.upds (Vg.deads (rowIds (parts.toList.map fun p => ev st.tmps p.2)))) = st1 at *
          have hp := dataParts_rel g go1 (ids := rowIds (parts.toList.map fun p => ev st.tmps p.2)) (fun j b hj => ⟨(hl1 j b hj).1, b, (hl1 j b hj).2⟩) parts.toList (fun _ h => h)
          have hz0 := rep_rel (hzr st1.heap σ w (sup E B S0 st1.heap σ w)) len
          rw [← made_toList] at hz0
          obtain ⟨cells', h3, h4, h5⟩ := fill_sound hz0 hp hfill
          obtain ⟨h6, h7⟩ := chunks_rel he h4 hch
          have hcs : cells'.size = len * E.sz e := by rw [h5]; simp [madeCells, hzs, his']
          have hle : len ≤ 16777216 := by
            have : len * 1 ≤ len * E.sz e := Nat.mul_le_mul_left _ h1
            omega
          have hrun : (Instr.buildSlice t len (parts.map fun p => (p.1, a.eval p.2))).run P w = .ok (.slice (some ⟨w.heap.size, 0, none⟩) len len) (w.alloc (.cells cells' e)) := by
            rw [hzs] at h3
            by_cases h0 : len * i.size = 0
            · have h3' : Instr.fill (fun j => some (j * E.sz e, E.sz e)) #[] (parts.toList.map fun p => (p.1, a.eval p.2)) = some cells' := by
                rw [← h3]; congr 1; simp [madeCells, h0, Array.range_zero']
              rw [← his'] at h3'
              simp [Instr.buildSlice, run_underlying hund, sizeOf, typeInfo, hi, h0, Array.range_zero', h3', newRow]
            · exact run_buildSlice w t e len _ cells' i zv hund hi hzv (by rw [his']; omega) h0 (by rw [his'] at h3 ⊢; simpa [madeCells] using h3)
          refine Done.row (P := P) (o := o) (ds := rowIds (parts.toList.map fun p => ev st.tmps p.2)) g hf (n := len) (c := len) (arr := cells') hds he h7 (Nat.le_refl _) (by simp only [maxLen]; omega) hcs ?_ (by simp [execOp, ho, hrun])
          rw [hst1, List.take_of_length_le (by simp [hcs])]
          exact h6
        · cases hz
      · cases h
    · cases h
  · cases h

theorem do_index (tab : TabOk P E) (g : Gam E B S0 w0 gv σ st a w) {o : Oper} {fresh t : Nat} {x i : Operand} (ho : o.op = .index t x i) {out : Out E.T} (h : core E fresh st.tmps st.heap (.index t x i) = some out)
    (hc : out.cond = true) : Done P E B S0 w0 gv st a o w out := by
  simp only [core] at h
  split at h
  · rename_i k iv cs n e hi hx har
    have hiv := g.ev i
    rw [hi] at hiv
    have hiv := int_inv hiv
    have hxv := g.ev x
    rw [hx] at hxv
    have hu := arr_spec tab har
    have hin : ∀ (n : Int), inb iv n = true → 0 ≤ iv ∧ iv < n := fun n hn => by
      unfold inb at hn
      split at hn
      · rename_i h1; exact ⟨by simpa using h1, by simpa using hn⟩
      · cases hn
    split at h
    · rename_i sz hsz
      obtain ⟨ie, hie, hies, hok⟩ := size_spec tab hsz
      generalize hv : a.eval x = v at hxv
      cases hxv with
      | agg _ us hr =>
        have hrun : ∀ u, 0 ≤ iv → iv < (n : Int) → (part e us (iv.toNat * sz)).run P w = .ok u w → (execOp a.eval o).run P w = .ok (.value u) w := fun u h0 h1 h2 => by
          simp [execOp, ho, hv, hiv, Instr.index, run_underlying hu, asIntOf, h0, h1, sizeOf, typeInfo, hie, hies, h2]
        split at h
        · rename_i k0 n' l ha
          split at h
          · rename_i hn hs1 hagg
            have hn := Nat.eq_of_beq_eq_true hn
            have hs1 := Nat.eq_of_beq_eq_true hs1
            subst hn hs1
            cases h
            obtain ⟨h0, h1⟩ := hin _ hc
            obtain ⟨h5, h6, h7⟩ := arrAt_rel hr ha
            have h8 := h7 iv.toNat (by omega)
            rw [Nat.zero_add, Array.getElem?_toList] at h8
            exact Done.same g (hrun _ h0 h1 (by simp [part, Sem.run_bind, run_isAgg' tab hok w, hagg, h8])) (.int _ _)
          · cases h
        · obtain ⟨s, h2, h3⟩ := Option.bind_eq_some_iff.1 h
          cases h3
          obtain ⟨h0, h1⟩ := hin _ hc
          obtain ⟨u, h4, h5⟩ := part_sound (P := P) tab hok h2 us hr
          exact Done.same g (hrun u h0 h1 h4) h5
    · cases h
  · cases h

theorem lenB_rel (g : Gam E B S0 w0 gv σ st a w) {s : SV E.T} {n : Nat} {v : Value} (h : lenB st.heap s = some n) (hs : ∀ b, s ≠ .str b) (hm : ∀ b, s ≠ .map b) (hr : RelS E st.heap σ w (sup E B S0 st.heap σ w) s v) : ∃ ad c, v = .slice ad n c := by
  unfold lenB at h
  split at h
  · cases h; cases hr; exact ⟨_, _, rfl⟩
  · cases h
    cases hr with
    | dat_nil => exact ⟨_, _, rfl⟩
    | dat => exact ⟨_, _, rfl⟩
  · rename_i id
    split at h
    · rename_i e l hl
      cases h
      obtain ⟨xs, how, _⟩ := row_own g hl hr
      rcases how.2 with ⟨h1, h2⟩ | ⟨k, c, cur, h1, _⟩
      · rw [h2]; exact ⟨_, _, h1⟩
      · exact ⟨_, _, h1⟩
    · cases h
  · exact absurd rfl (hs _)
  · cases h; cases hr; exact ⟨_, _, rfl⟩
  · cases h; cases hr; exact ⟨_, _, rfl⟩
  · exact absurd rfl (hm _)
  · cases h

theorem cpyL_eq : ∀ (s l : List Int), cpyL s l = s.take l.length ++ l.drop (s.take l.length).length
  | [], [] => rfl
  | _ :: _, [] => rfl
  | [], y :: l => rfl
  | x :: s, _ :: l => by simp only [cpyL, List.length_cons, List.take_succ_cons, List.drop_succ_cons, List.cons_append]; rw [cpyL_eq s l]

theorem arr_copy {α : Type} (vs ls ns : List α) (off : Nat) (hl : off + ls.length ≤ vs.length) (hn : ns.length ≤ ls.length) (h7 : ∀ i, i < ls.length → vs[off + i]? = ls[i]?) :
    vs.take off ++ (ns ++ ls.drop ns.length) ++ vs.drop (off + ls.length) = vs.take off ++ ns ++ vs.drop (off + ns.length) := by
  apply List.ext_getElem?
  intro q
  have e1 : (List.take off vs).length = off := by simp; omega
  have e2 : (List.drop ns.length ls).length = ls.length - ns.length := by simp
  simp only [List.getElem?_append, List.length_append, e1, e2, List.getElem?_take, List.getElem?_drop]
  repeat' split
  all_goals first | rfl | omega | (congr 1; omega) | (rw [← h7 _ (by omega)]; congr 1; omega)

theorem copy_sound (tab : TabOk P E) (g : Gam E B S0 w0 gv σ st a w) {t tx ty : Nat} {d x : SV E.T} {vd vx : Value} (hd : RelS E st.heap σ w (sup E B S0 st.heap σ w) d vd) (hx : RelS E st.heap σ w (sup E B S0 st.heap σ w) x vx)
    {out : Out E.T} (h : copyB E st.heap t d x = some out) {o : Oper} (hexec : ∀ v' w', (Builtin.copy_ #[t, tx] ty #[vd, vx]).run P w = .ok v' w' → (execOp a.eval o).run P w = .ok (.value v') w') : Done P E B S0 w0 gv st a o w out := by
  unfold copyB at h
  split at h
  · rename_i e id off n hel
    split at h
    · rename_i sz k l2 hsz hik hl2
      split at h
      · rename_i t0 cs hb hl
        split at h
        · rename_i k' n' l ha
          split at h
          · rename_i hkn
            simp only [Bool.and_eq_true] at hb hkn
            have hs1 := Nat.eq_of_beq_eq_true hb.1
            have hkk := kEq_eq hkn.1
            have hnn := Nat.eq_of_beq_eq_true hkn.2
            subst hs1 hkk hnn
            obtain ⟨cs', hp, rfl⟩ := Option.map_eq_some_iff.1 h
            obtain ⟨ie, hie, hies, _⟩ := size_spec tab hsz
            have hu := elem_spec tab hel
            cases hd with
            | aslice _ _ _ kb h8 h9 =>
              obtain ⟨k', arr, e1, hBk, hk, hr⟩ := g.blk id _ hl
              rw [h9] at e1; cases e1
              obtain ⟨h5, h6, h7⟩ := arrAt_rel hr ha
              obtain ⟨hfl, hll⟩ := E.ints_asL e k l2 hik
              have main : ∃ w', (Builtin.copy_ #[t, tx] ty #[.slice (some ⟨kb, off, none⟩) n n, vx]).run P w = .ok (.int .i64 (if l2.length < n then (l2.length : Int) else (n : Int))) w' ∧
                  ∃ cur : Array Value, w' = w.setRow kb cur ∧ cur.toList = arr.toList.take off ++ ((E.asL e l2).take n).map (Value.int k) ++ arr.toList.drop (off + ((E.asL e l2).take n).length) := by
                rcases listOf_rel g hb.2 hl2 hx with ⟨rfl, rfl⟩ | ⟨ad, c, news, rfl, hnr, hnc⟩
                · have hz : E.asL e [] = [] := List.length_eq_zero_iff.1 (by simpa using hll)
                  refine ⟨w, ?_, arr, (setRow_self w kb arr t0 (0, 0) hk).symm, by simp [hz]⟩
                  rw [run_copy_nil P w t tx ty e _ _ _ hu (by rw [hie]; rfl)]
                  have : (if ([] : List (E.T e)).length < n then ((([] : List (E.T e)).length : Nat) : Int) else (n : Int)) = 0 := by simp only [List.length_nil]; split <;> omega
                  rw [this]; rfl
                · rw [hfl] at hnr
                  have hnv : news = (E.asL e l2).map (Value.int k) := by
                    clear hnc hfl hll
                    generalize E.asL e l2 = L at hnr
                    induction L generalizing news with
                    | nil => cases hnr; rfl
                    | cons y L ih =>
                      cases hnr with
                      | cons _ _ h1 h2 => cases h1; rw [ih _ h2]; rfl
                  have hmin : ((E.asL e l2).take n).length = min l2.length n := by rw [List.length_take, hll, Nat.min_comm]
                  have hrun := run_copy_row (P := P) w t tx ty e kb off n n ad l2.length c arr t0 (((E.asL e l2).take n).map (Value.int k)) hu (by rw [hie]; simp [hies]) hk (by simpa using hmin)
                    (fun j v hv => hnc j v (by
                      rw [hnv]
                      rw [List.map_take, List.getElem?_take] at hv
                      split at hv
                      · exact hv
                      · cases hv)) (by simp only [List.length_map]; rw [hmin]; have := Nat.min_le_right l2.length n; rw [Array.length_toList] at h6; omega) (fun v hv => by obtain ⟨y, _, rfl⟩ := List.mem_map.1 hv; rfl)
                  rw [List.length_map] at hrun
                  refine ⟨_, hrun.trans ?_, _, rfl, rfl⟩
                  have e4 : ((min l2.length n : Nat) : Int) = if l2.length < n then (l2.length : Int) else (n : Int) := by rw [Nat.min_def]; split <;> split <;> omega
                  simp only [hmin, goInt, e4]
              obtain ⟨w', hrun, cur, rfl, hcur⟩ := main
              have hput := hr.put (ns := (cpyL (E.asL e l2) l).map (Value.int k)) (relC_arr1 (by rw [cpyL_eq]; simp; omega)) hp
              have h6' : off + l.length ≤ arr.toList.length := by rw [h5]; exact h6
              have hlen2 : ((E.asL e l2).take l.length).length ≤ l.length := by rw [List.length_take]; exact Nat.min_le_left _ _
              have hcopy := arr_copy arr.toList (l.map (Value.int k)) (((E.asL e l2).take l.length).map (Value.int k)) off (by simpa using h6') (by simpa using hlen2) (fun q hq => by
                have hq' : q < l.length := by simpa using hq
                rw [h7 q (by omega)]
                simp [List.getD, hq'])
              have hsize : cur.size = arr.size := by
                have e1 := congrArg List.length hcur
                simp only [Array.length_toList, List.length_append, List.length_take, List.length_drop, List.length_map] at e1
                simp only [Array.length_toList] at h6
                omega
              refine ⟨_, _, σ, .inl (hexec _ _ hrun), g.write id kb t0 _ _ arr cur hl h9 hBk hk hsize (fun e l' h' => by cases h') (fun H' σ' w' S' go hs' hk' => ⟨kb, _, hs', hBk, hk', ?_⟩), .int _ _⟩
              have hgo := hput.1.goes go
              refine cast (congrArg _ ?_) hgo
              rw [hcur, cpyL_eq]
              simp only [List.map_append, List.map_drop, List.length_append, List.length_map, List.length_drop] at hcopy ⊢
              rw [h5] at hcopy ⊢
              have e3 : off + (((E.asL e l2).take n).length + (n - ((E.asL e l2).take n).length)) = off + n := by
                have : ((E.asL e l2).take n).length ≤ n := by rw [List.length_take]; exact Nat.min_le_left _ _
                omega
              rw [e3]
              exact hcopy
          · cases h
        · cases h
      · cases h
    · cases h
  · cases h

theorem do_builtin (tab : TabOk P E) (g : Gam E B S0 w0 gv σ st a w) {o : Oper} {fresh : Nat} {b : Builtin} {args : Array Operand} {argTypes : Array Nat} (hf : allocs o.op = true → Fresh st fresh) (ho : o.op = .call { callee := .builtin b, args, argTypes })
    {out : Out E.T} (h : builtinB E st.heap fresh b argTypes.toList (evs st.tmps args.toList) = some out) (hc : out.cond = true) : Done P E B S0 w0 gv st a o w out := by
  have hrel := evs_rel g args.toList
  generalize hss : evs st.tmps args.toList = ss at *
  generalize hvs : args.toList.map a.eval = vs at *
  have hexec : ∀ v w', ∀ cs, (builtin b argTypes o.type cs vs.toArray).run P w = .ok (.value v) w' → cs = (args.map fun | .const _ => true | _ => false) → (execOp a.eval o).run P w = .ok (.value v) w' := fun v w' cs h1 h2 => by
    subst h2
    have e : args.map a.eval = vs.toArray := by rw [← hvs, ← Array.toList_map, Array.toArray_toList]
    simp only [execOp, ho, resolve, invoke, e, Sem.run_bind, Sem.run_pure, Result.andThen_ok]
    exact h1
  unfold builtinB at h
  split at h
  · rename_i t x hat
    have hat' : argTypes = #[t] := by cases argTypes; simp_all
    cases hrel with
    | cons hr hnil =>
      cases hnil
      rename_i v
      split at h
      · rename_i n e har
        cases h
        have hu := arr_spec tab har
        exact Done.same g (v := .int .i64 n) (hexec _ _ _ (by simp [builtin, hat', Builtin.len_, run_underlying hu, goInt]) rfl) (.int _ _)
      · split at h
        · rename_i e hk
          have hu := tab.slice t e hk
          split at h
          · cases h
          · cases h
          · rename_i hns hnm
            obtain ⟨n, h1, h2⟩ := Option.bind_eq_some_iff.1 h
            cases h2
            obtain ⟨ad, c, rfl⟩ := lenB_rel g h1 (fun b hb => hns b hb) (fun b hb => hnm b hb) hr
            exact Done.same g (v := .int .i64 n) (hexec _ _ _ (by simp [builtin, hat', Builtin.len_, run_underlying hu, goInt]) rfl) (.int _ _)
        · rename_i kk vv hk
          have hu := tab.map t kk vv hk
          split at h
          · rename_i id
            obtain ⟨n, h1, h2⟩ := Option.bind_eq_some_iff.1 h
            cases h2
            unfold lenB at h1
            simp only at h1
            split at h1
            · rename_i kt vt l hl
              cases h1
              obtain ⟨_, _, kb, es, hs, _, hh, hrel⟩ := g.blk id _ hl
              cases hr with
              | map _ k' h8 h9 =>
                rw [hs] at h9; cases h9
                have hsz : es.size = l.length := by have := hrel.1; simpa using this
                exact Done.same g (v := .int .i64 l.length) (hexec _ _ _ (by simp [builtin, hat', Builtin.len_, run_underlying hu, goInt, MapKept.run_getObj_map hh, hsz]) rfl) (.int _ _)
            · cases h1
          · cases h
        · rename_i hk
          have hu := tab.string t hk
          split at h
          · cases h
            cases hr
            rename_i s
            exact Done.same g (v := .int .i64 s.size) (hexec _ _ _ (by simp [builtin, hat', Builtin.len_, run_underlying hu, goInt]) rfl) (.int _ _)
          · cases h
        · cases h
  · rename_i k1 n1 k2 n2
    split at h
    · rename_i hk
      have hk := kEq_eq hk
      subst hk
      cases h
      cases hrel with
      | cons hr1 h2 => cases h2 with
        | cons hr2 h3 =>
          cases h3; cases hr1; cases hr2
          refine Done.same g (v := .int k1 (if n2 < n1 then n2 else n1)) (hexec _ _ _ ?_ rfl) (.int _ _)
          simp [builtin, Builtin.min_, Builtin.min2]
    · cases h
  · rename_i k1 n1 k2 n2
    split at h
    · rename_i hk
      have hk := kEq_eq hk
      subst hk
      cases h
      cases hrel with
      | cons hr1 h2 => cases h2 with
        | cons hr2 h3 =>
          cases h3; cases hr1; cases hr2
          refine Done.same g (v := .int k1 (if n2 > n1 then n2 else n1)) (hexec _ _ _ ?_ rfl) (.int _ _)
          simp [builtin, Builtin.max_, Builtin.max2]
    · cases h
  · rename_i t tx s x hat
    have hat' : argTypes = #[t, tx] := by cases argTypes; simp_all
    cases hrel with
    | cons hr1 h2 => cases h2 with
      | cons hr2 h3 =>
        cases h3
        rename_i v1 v2
        refine append_sound (ty := o.type) tab g (hf (by simp [ho, allocs])) hr1 hr2 h hc (fun v' w' hr => hexec _ _ _ ?_ rfl)
        simp [builtin, hat', hr]
  · rename_i t tx d x hat
    have hat' : argTypes = #[t, tx] := by cases argTypes; simp_all
    cases hrel with
    | cons hr1 h2 => cases h2 with
      | cons hr2 h3 =>
        cases h3
        rename_i v1 v2
        refine copy_sound (tx := tx) (ty := o.type) tab g hr1 hr2 h (fun v' w' hr => hexec _ _ _ ?_ rfl)
        simp [builtin, hat', hr]
  · cases h

/-- Every single operation. -/
theorem core_sound (tab : TabOk P E) (g : Gam E B S0 w0 gv σ st a w) {o : Oper} {fresh : Nat} (hf : allocs o.op = true → Fresh st fresh) {out : Out E.T} (h : core E fresh st.tmps st.heap o.op = some out) (hc : out.cond = true) :
    Done P E B S0 w0 gv st a o w out := by
  cases ho : o.op <;> rw [ho] at h
  case move x => simp only [core, oret, Option.some.injEq] at h; subst h; exact do_move g (.inl ho)
  case assign x => simp only [core, oret, Option.some.injEq] at h; subst h; exact do_move g (.inr ho)
  case pick c x y => exact do_pick g ho h
  case alloc t => exact do_alloc tab g (hf (by simp [ho, allocs])) ho h
  case box t x => exact do_box g (hf (by simp [ho, allocs])) ho h
  case build t parts => exact do_build tab g ho h
  case buildSlice t len parts => exact do_buildSlice tab g (hf (by simp [ho, allocs])) ho h
  case load t x => exact do_load tab g ho h
  case store t x y => exact do_store tab g ho h
  case binOp op t x y ty => exact do_binOp tab g ho h hc
  case unOp op t x => exact do_unOp g ho h
  case convert s t x => exact do_convert tab g ho h
  case makeFunc f x y => exact do_makeFunc g ho h
  case makeSlice t x y => exact do_makeSlice tab g (hf (by simp [ho, allocs])) ho h hc
  case slice t x l hh m => exact do_slice tab g ho h hc
  case makeMap t r => exact do_makeMap tab g (hf (by simp [ho, allocs])) ho h
  case lookup t x i ok => exact do_lookup (fresh := fresh) tab g ho h
  case mapUpdate t x i y => exact do_mapUpdate (fresh := fresh) tab g ho h
  case mapEntry t x i => exact do_mapEntry (fresh := fresh) tab g ho h
  case entryStore t x i y => exact do_entryStore (fresh := fresh) tab g ho h hc
  case fieldAddr t x j => exact do_fieldAddr tab g ho h
  case field t x j => exact do_field tab g ho h
  case indexAddr t x i => exact do_indexAddr tab g ho h hc
  case index t x i => exact do_index tab g ho h hc
  case extract x j => exact do_extract g ho h
  case call c =>
    obtain ⟨callee, args, argTypes⟩ := c
    simp only [core] at h
    split at h
    · exact do_builtin tab g hf ho h hc
    · cases h
  all_goals (simp only [core, reduceCtorEq] at h)

end
end Go.Vg
