/-
  The executor's single operations are right: the rest, and all together. Own work; no condition.
-/
import Derived.Test.YtkaodeodiakldaaVgL
namespace Go.Vg
open Go.RowKit
variable {P : Program} {E : Env}
section
variable {B : Nat} {S0 : Nat → Prop} {w0 : World} {gv : Gv} {σ : Nat → Option Nat} {st : St E.T} {a : Act} {w w' : World}

theorem nthL_get {α : Type} (l : List α) (j : Nat) : nthL l j = l[j]? := by
  induction l generalizing j with
  | nil => rfl
  | cons x r ih => cases j with
    | zero => rfl
    | succ j => simpa [nthL] using ih j

theorem parts_rel (g : Gam E B S0 w0 gv σ st a w) (l : List (Nat × Operand)) : RelP E st.heap σ w (sup E B S0 st.heap σ w) (l.map fun p => (p.1, ev st.tmps p.2)) (l.map fun p => (p.1, a.eval p.2)) := by
  induction l with
  | nil => exact .nil
  | cons p r ih => exact .cons p.1 (g.ev p.2) ih

theorem do_build (tab : TabOk P E) (g : Gam E B S0 w0 gv σ st a w) {o : Oper} {fresh t : Nat} {parts : Array (Nat × Operand)} (ho : o.op = .build t parts) {out : Out E.T} (h : core E fresh st.tmps st.heap (.build t parts) = some out) : Done P E B S0 w0 gv st a o w out := by
  simp only [core, zeroB] at h
  split at h
  · rename_i zero hz
    split at hz
    · rename_i hok
      cases hz
      obtain ⟨i, hi, _, _, z, hz, hzs, hzr⟩ := tab.info t hok
      have hp := parts_rel g parts.toList
      split at h
      · rename_i fs hk
        obtain ⟨cs, h1, h2⟩ := Option.bind_eq_some_iff.1 h
        cases h2
        obtain ⟨fds, hu, hm, _⟩ := tab.struct t fs hk
        obtain ⟨cells', h3, h4, _⟩ := fill_sound (hzr st.heap σ w (sup E B S0 st.heap σ w)) hp h1
        have hpl : (fun j => (fieldB E t j).map fun p => (p.1, p.2.1)) = fun j => (fs.map fun p => (p.1, p.2.1)).toArray[j]? := by
          funext j
          simp [fieldB, hk, nthL_get]
        have hb : P.built t (parts.toList.map fun p => (p.1, a.eval p.2)) = some cells' := by
          simp only [Program.built, hi, hu, hz, hm]
          rw [← hpl]; exact h3
        have hrun := run_build (P := P) w t (parts.map fun p => (p.1, a.eval p.2)) cells' (by simpa using hb)
        exact Done.same g (v := .agg cells') (by simp [execOp, ho, hrun]) (.agg _ _ h4)
      · rename_i n e hk
        have hu := tab.array t n e hk
        split at h
        · rename_i n' hn
          obtain ⟨cs, h1, h2⟩ := Option.bind_eq_some_iff.1 h
          cases h2
          obtain ⟨ie, hie, hies, _⟩ := size_spec tab hn
          obtain ⟨cells', h3, h4, _⟩ := fill_sound (hzr st.heap σ w (sup E B S0 st.heap σ w)) hp h1
          have hb : P.built t (parts.toList.map fun p => (p.1, a.eval p.2)) = some cells' := by
            simp only [Program.built, hi, hu, hz, hie, hies]
            exact h3
          have hrun := run_build (P := P) w t (parts.map fun p => (p.1, a.eval p.2)) cells' (by simpa using hb)
          exact Done.same g (v := .agg cells') (by simp [execOp, ho, hrun]) (.agg _ _ h4)
        · cases h
      · cases h
    · cases hz
  · cases h

theorem field_spec (tab : TabOk P E) {t j o n ft : Nat} (h : fieldB E t j = some (o, n, ft)) : ∃ fds f i, P.underlying t = some (.struct fds) ∧ fds[j]? = some f ∧ f.offset = o ∧ f.type = ft ∧ P.info? ft = some i ∧ i.size = n := by
  unfold fieldB at h
  split at h
  · rename_i fs hk
    obtain ⟨fds, hu, _, hf⟩ := tab.struct t fs hk
    obtain ⟨f, i, h1, h2, h3, h4, h5⟩ := hf j o n ft h
    exact ⟨fds, f, i, hu, h1, h2, h3, h4, h5⟩
  · cases h

theorem do_fieldAddr (tab : TabOk P E) (g : Gam E B S0 w0 gv σ st a w) {o : Oper} {fresh t j : Nat} {x : Operand} (ho : o.op = .fieldAddr t x j) {out : Out E.T} (h : core E fresh st.tmps st.heap (.fieldAddr t x j) = some out) : Done P E B S0 w0 gv st a o w out := by
  simp only [core] at h
  split at h
  · rename_i off n ft hf
    obtain ⟨fds, f, i, hu, h1, h2, h3, h4, h5⟩ := field_spec tab hf
    split at h
    · rename_i hn
      have hn := Nat.le_of_ble_eq_true hn
      obtain ⟨s, h6, h7⟩ := Option.bind_eq_some_iff.1 h
      cases h7
      have hx := g.ev x
      have hrun : ∀ ad : Addr, a.eval x = .pointer (some ad) → (execOp a.eval o).run P w = .ok (.value (.pointer (some (ad.add off)))) w := fun ad hxa => by
        have h0 : ¬ n = 0 := by omega
        simp [execOp, ho, hxa, Instr.fieldAt, run_underlying hu, h1, Instr.sureAddr, fieldPlace, sizeOf, typeInfo, h3, h4, h5, h0, h2]
      generalize ev st.tmps x = s0 at *
      generalize a.eval x = vx at *
      unfold addrFld at h6
      split at h6 <;> simp only [Option.some.injEq, reduceCtorEq] at h6
      · subst h6
        cases hx with
        | ptr _ _ k h8 h9 =>
          refine Done.same g (hrun _ rfl) ?_
          rw [add_plain']; exact .ptr _ _ _ h8 h9
      · subst h6
        cases hx with
        | rptr _ _ _ k sz h8 h9 h10 h11 =>
          refine Done.same g (hrun _ rfl) ?_
          rw [add_plain', Nat.add_assoc]; exact .rptr _ _ _ _ _ h8 h9 h10 h11
      · subst h6
        cases hx with
        | eptr _ _ _ _ ad vss h8 h9 h10 h11 h12 h13 =>
          refine Done.same g (hrun _ rfl) ?_
          rw [add_add, Nat.add_assoc]; exact .eptr _ _ _ _ ad vss h8 h9 h10 h11 h12 h13
      · subst h6
        cases hx with
        | boxd _ _ _ k arr h8 h9 h10 =>
          refine Done.same g (hrun _ rfl) ?_
          rw [add_plain']; exact .boxd _ _ _ k arr h8 h9 h10
    · cases h
  · cases h

theorem part_sound (tab : TabOk P E) {H : List (Nat × HS E.T)} {S : Nat → Prop} {t off : Nat} {cs : List (SV E.T)} {s : SV E.T} (ht : (E.ti t).ok = true) (h : loadFrom E t cs off = some s) (vs : Array Value) (hr : RelC E H σ w S cs vs.toList) :
    ∃ u, (part t vs off).run P w = .ok u w ∧ RelS E H σ w S s u := by
  unfold loadFrom at h
  split at h
  · rename_i hagg
    obtain ⟨n, hn, h⟩ := Option.bind_eq_some_iff.1 h
    obtain ⟨r, hr', rfl⟩ := Option.map_eq_some_iff.1 h
    obtain ⟨i, hi, his, _⟩ := size_spec tab hn
    have hsub := hr.sub hr'
    refine ⟨.agg (vs.extract off (off + n)), ?_, .agg _ _ ?_⟩
    · simp [part, Sem.run_bind, run_isAgg' tab ht w, hagg, sizeOf, typeInfo, hi, his]
    · have e : (vs.extract off (off + n)).toList = (vs.toList.drop off).take n := by
        simp [List.extract_eq_take_drop]
      rw [e]; exact hsub.1
  · rename_i hagg
    split at h
    · rename_i hlt
      cases h
      have hlt : off < vs.toList.length := by
        have := hr.len
        rw [← this]
        simpa [Nat.blt_eq] using hlt
      have hcell := cell1_rel hr hlt
      have hlt' : off < vs.size := by simpa using hlt
      refine ⟨vs[off], ?_, by simpa using hcell.1⟩
      simp [part, Sem.run_bind, run_isAgg' tab ht w, hagg, hlt']
    · cases h

theorem do_field (tab : TabOk P E) (g : Gam E B S0 w0 gv σ st a w) {o : Oper} {fresh t j : Nat} {x : Operand} (ho : o.op = .field t x j) {out : Out E.T} (h : core E fresh st.tmps st.heap (.field t x j) = some out) : Done P E B S0 w0 gv st a o w out := by
  simp only [core] at h
  split at h
  · rename_i off n ft cs hf hx'
    obtain ⟨fds, f, i, hu, h1, h2, h3, h4, h5⟩ := field_spec tab hf
    split at h
    · rename_i hok
      obtain ⟨s, h6, h7⟩ := Option.bind_eq_some_iff.1 h
      cases h7
      have hx := g.ev x
      rw [hx'] at hx
      generalize hv : a.eval x = v at hx
      cases hx with
      | agg _ vs hr =>
        obtain ⟨u, h8, h9⟩ := part_sound (P := P) tab hok h6 vs hr
        exact Done.same g (v := u) (by simp [execOp, ho, hv, Instr.field, run_underlying hu, h1, asAgg, h2, h3, h8]) h9
    · cases h
  · cases h

theorem do_extract (g : Gam E B S0 w0 gv σ st a w) {o : Oper} {fresh j : Nat} {x : Operand} (ho : o.op = .extract x j) {out : Out E.T} (h : core E fresh st.tmps st.heap (.extract x j) = some out) : Done P E B S0 w0 gv st a o w out := by
  simp only [core] at h
  split at h
  · rename_i vs hx'
    split at h
    · rename_i hlt
      cases h
      have hx := g.ev x
      rw [hx'] at hx
      generalize hv : a.eval x = v at hx
      cases hx with
      | tup _ us hr =>
        have hlt : j < us.size := by
          have := hr.len
          simp [Nat.blt_eq] at hlt this
          omega
        have := hr.nth j
        refine Done.same g (v := us[j]) (by simp [execOp, ho, hv, Instr.extract, hlt]) ?_
        simpa [List.getD, hlt] using this
    · cases h
  · cases h

theorem do_indexAddr (tab : TabOk P E) (g : Gam E B S0 w0 gv σ st a w) {o : Oper} {fresh t : Nat} {x i : Operand} (ho : o.op = .indexAddr t x i) {out : Out E.T} (h : core E fresh st.tmps st.heap (.indexAddr t x i) = some out)
    (hc : out.cond = true) : Done P E B S0 w0 gv st a o w out := by
  simp only [core] at h
  split at h
  · rename_i k iv hi
    have hiv := g.ev i
    rw [hi] at hiv
    have hiv := int_inv hiv
    have hx := g.ev x
    have hin : ∀ (n : Int), inb iv n = true → 0 ≤ iv ∧ iv < n := fun n hn => by
      unfold inb at hn
      split at hn
      · rename_i h1; exact ⟨by simpa using h1, by simpa using hn⟩
      · cases hn
    unfold indexB at h
    split at h
    · rename_i n e har
      have hu := arr_spec tab har
      split at h
      · rename_i sz hsz
        obtain ⟨ie, hie, hies, _⟩ := size_spec tab hsz
        have hrun : ∀ ad : Addr, a.eval x = .pointer (some ad) → 0 ≤ iv → iv < (n : Int) → (execOp a.eval o).run P w = .ok (.value (.pointer (some (ad.add (iv.toNat * sz))))) w := fun ad hxa h0 h1 => by
          simp [execOp, ho, hxa, hiv, Instr.indexAt, run_underlying hu, Instr.sureAddr, asIntOf, h0, h1, sizeOf, typeInfo, hie, hies]
        generalize ev st.tmps x = s0 at *
        generalize hvx : a.eval x = vx at *
        split at h
        · rename_i id off
          split at h
          · rename_i t0 cs hl
            split at h
            · rename_i k0 n' l ha
              split at h
              · rename_i hn hs1
                have hn := Nat.eq_of_beq_eq_true hn
                have hs1 := Nat.eq_of_beq_eq_true hs1
                subst hn hs1
                cases h
                obtain ⟨h0, h1⟩ := hin _ hc
                cases hx with
                | ptr _ _ k h8 h9 =>
                  refine Done.same g (hrun _ rfl h0 h1) ?_
                  rw [add_plain', Nat.mul_one]; exact .aptr _ _ _ _ _ h8 h9 h0 h1
              · cases h
            · cases h
              obtain ⟨h0, h1⟩ := hin _ hc
              cases hx with
              | ptr _ _ k h8 h9 =>
                refine Done.same g (hrun _ rfl h0 h1) ?_
                rw [add_plain']; exact .ptr _ _ _ h8 h9
          · cases h
        · rename_i e' l j off
          split at h
          · rename_i k0 n' l' ha
            split at h
            · rename_i hn hs1
              have hn := Nat.eq_of_beq_eq_true hn
              have hs1 := Nat.eq_of_beq_eq_true hs1
              subst hn hs1
              cases h
              obtain ⟨h0, h1⟩ := hin _ hc
              cases hx with
              | eptr _ _ _ _ ad vss h8 h9 h10 h11 h12 h13 =>
                refine Done.same g (hrun _ rfl h0 h1) ?_
                rw [add_add, Nat.mul_one, Nat.add_assoc]; exact .aeptr _ _ _ _ _ _ ad vss h8 h9 h10 h0 h1 h11 h12 h13
            · cases h
          · cases h
            obtain ⟨h0, h1⟩ := hin _ hc
            cases hx with
            | eptr _ _ _ _ ad vss h8 h9 h10 h11 h12 h13 =>
              refine Done.same g (hrun _ rfl h0 h1) ?_
              rw [add_add, Nat.add_assoc]; exact .eptr _ _ _ _ ad vss h8 h9 h10 h11 h12 h13
        · cases h
      · cases h
    · split at h
      · rename_i e hel
        have hu := elem_spec tab hel
        generalize ev st.tmps x = s0 at *
        have hrun : ∀ (ad : Addr) (len cap sz : Nat) (ie : TypeInfo), P.info? e = some ie → ie.size = sz → a.eval x = .slice (some ad) len cap → 0 ≤ iv → iv < (len : Int) →
            (execOp a.eval o).run P w = .ok (.value (.pointer (some (ad.add (iv.toNat * sz))))) w := fun ad len cap sz ie hie hies hxa h0 h1 => by
          simp [execOp, ho, hxa, hiv, Instr.indexAt, run_underlying hu, asIntOf, h0, h1, sizeOf, typeInfo, hie, hies]
        generalize hvx : a.eval x = vx at *
        split at h
        · rename_i id
          split at h
          · rename_i e' l hl
            split at h
            · rename_i sz hbe hsz
              have hbe := Nat.eq_of_beq_eq_true hbe
              subst hbe
              split at h
              · rename_i hb
                have hb := Nat.eq_of_beq_eq_true hb
                subst hb
                cases h
                obtain ⟨h0, h1⟩ := hin _ hc
                obtain ⟨ie, hie, hies, _⟩ := size_spec tab hsz
                cases hx with
                | row_nil _ h8 h9 =>
                  obtain ⟨_, hb⟩ := g.blk id _ hl
                  rcases hb with ⟨_, h3⟩ | ⟨k', arr, h3, _⟩
                  · subst h3; simp at h1; omega
                  · rw [h9] at h3; cases h3
                | row _ k n c h8 h9 h10 =>
                  obtain ⟨h11, h12, _⟩ := h10 e l hl
                  subst h11
                  refine Done.same g (hrun _ _ _ _ ie hie hies rfl h0 h1) ?_
                  rw [add_plain', Nat.zero_add]
                  have := RelS.rptr (E := E) (S := sup E B S0 st.heap σ w) (w := w) id iv 0 k (E.sz e) h8 h9 h0 (fun e' l' hl' => by rw [hl] at hl'; cases hl'; exact ⟨rfl, h1⟩)
                  simpa using this
              · cases h
            · cases h
          · cases h
        · rename_i e' l
          split at h
          · rename_i sz hbe hsz
            have hbe := Nat.eq_of_beq_eq_true hbe
            subst hbe
            split at h
            · rename_i hb
              have hb := Nat.eq_of_beq_eq_true hb
              subst hb
              cases h
              obtain ⟨h0, h1⟩ := hin _ hc
              obtain ⟨ie, hie, hies, _⟩ := size_spec tab hsz
              cases hx with
              | dat_nil => simp at h1; omega
              | dat _ _ ad c vss h8 h9 h10 h11 h12 =>
                refine Done.same g (hrun _ _ _ _ ie hie hies rfl h0 h1) ?_
                have := RelS.eptr (E := E) (H := st.heap) (σ := σ) (S := sup E B S0 st.heap σ w) (w := w) e l iv 0 ad vss h8 h0 h1 h9 h11 h12
                simpa using this
            · cases h
          · cases h
        · rename_i id n
          split at h
          · rename_i sz hsz
            split at h
            · rename_i hb
              have hb := Nat.eq_of_beq_eq_true hb
              subst hb
              cases h
              obtain ⟨h0, h1⟩ := hin _ hc
              obtain ⟨ie, hie, hies, _⟩ := size_spec tab hsz
              cases hx with
              | crow _ _ k h8 h9 =>
                refine Done.same g (hrun _ _ _ _ ie hie hies rfl h0 h1) ?_
                rw [add_plain', Nat.zero_add, Nat.mul_one]
                exact .ptr id iv.toNat k h8 h9
            · cases h
          · cases h
        · rename_i id off n
          split at h
          · rename_i sz hsz
            split at h
            · rename_i hb
              have hb := Nat.eq_of_beq_eq_true hb
              subst hb
              cases h
              obtain ⟨h0, h1⟩ := hin _ hc
              obtain ⟨ie, hie, hies, _⟩ := size_spec tab hsz
              cases hx with
              | aslice _ _ _ k h8 h9 =>
                refine Done.same g (hrun _ _ _ _ ie hie hies rfl h0 h1) ?_
                rw [add_plain', Nat.mul_one]
                exact .aptr id off n iv k h8 h9 h0 h1
            · cases h
          · cases h
        · cases h
      · cases h
  · cases h

end
end Go.Vg
