/-
  The executor's single operations are right: all of them. Own work; no condition.
-/
import Derived.Test.YtkaodeodiakldaaVgK
namespace Go.Vg
open Go.RowKit
variable {P : Program} {E : Env}
section
variable {B : Nat} {S0 : Nat → Prop} {w0 : World} {gv : Gv} {σ : Nat → Option Nat} {st : St E.T} {a : Act} {w w' : World}

theorem do_move (g : Gam E B S0 w0 gv σ st a w) {o : Oper} {x : Operand} (ho : o.op = .move x ∨ o.op = .assign x) : Done P E B S0 w0 gv st a o w ⟨true, ev st.tmps x, []⟩ :=
  Done.same g (v := a.eval x) (by rcases ho with ho | ho <;> simp [execOp, ho]) (g.ev x)

theorem do_pick (g : Gam E B S0 w0 gv σ st a w) {o : Oper} {fresh : Nat} {c x y : Operand} (ho : o.op = .pick c x y) {out : Out E.T} (h : core E fresh st.tmps st.heap (.pick c x y) = some out) : Done P E B S0 w0 gv st a o w out := by
  simp only [core] at h
  split at h
  · rename_i b hb
    have hcv := g.ev c
    rw [hb] at hcv
    have hx := g.ev x
    have hy := g.ev y
    have hcv' : a.eval c = .bool b := by generalize a.eval c = v at hcv; cases hcv; rfl
    have hrun : (execOp a.eval o).run P w = .ok (.value (if b = true then a.eval x else a.eval y)) w := by simp [execOp, ho, hcv', asBool]
    split at h
    · rename_i bx byy h1 h2
      cases h
      rw [h1] at hx; rw [h2] at hy
      have hx' : a.eval x = .bool bx := by generalize a.eval x = v at hx; cases hx; rfl
      have hy' : a.eval y = .bool byy := by generalize a.eval y = v at hy; cases hy; rfl
      refine Done.same g hrun ?_
      cases b <;> simp [hx', hy'] <;> exact .bool _
    · cases b
      · cases h; exact Done.same g (by simpa using hrun) hy
      · cases h; exact Done.same g (by simpa using hrun) hx
  · cases h

theorem do_alloc (tab : TabOk P E) (g : Gam E B S0 w0 gv σ st a w) {o : Oper} {fresh t : Nat} (hf : Fresh st fresh) (ho : o.op = .alloc t) {out : Out E.T} (h : core E fresh st.tmps st.heap (.alloc t) = some out) : Done P E B S0 w0 gv st a o w out := by
  simp only [core, zeroB] at h
  split at h
  · rename_i cs hz
    split at hz
    · rename_i hok
      cases hz; cases h
      obtain ⟨i, hi, _, _, z, hz, _, hzr⟩ := tab.info t hok
      exact Done.box g hf (hzr _ _ _ _) (by simp [execOp, ho, Instr.alloc, zeroValue, typeInfo, hi, hz, newVar, newRow])
    · cases hz
  · cases h

theorem do_box (g : Gam E B S0 w0 gv σ st a w) {o : Oper} {fresh t : Nat} {x : Operand} (hf : Fresh st fresh) (ho : o.op = .box t x) {out : Out E.T} (h : core E fresh st.tmps st.heap (.box t x) = some out) : Done P E B S0 w0 gv st a o w out := by
  simp only [core] at h
  split at h
  · rename_i cs hc
    cases h
    exact Done.box g hf (cellsB_rel hc (g.ev x)) (by simp [execOp, ho, Instr.box, newVar, newRow])
  · cases h

theorem do_load (tab : TabOk P E) (g : Gam E B S0 w0 gv σ st a w) {o : Oper} {fresh t : Nat} {x : Operand} (ho : o.op = .load t x) {out : Out E.T} (h : core E fresh st.tmps st.heap (.load t x) = some out) : Done P E B S0 w0 gv st a o w out := by
  simp only [core] at h
  obtain ⟨s, h1, h2⟩ := Option.bind_eq_some_iff.1 h
  cases h2
  obtain ⟨ad, h3, u, h4, h5⟩ := loadB_sound tab g h1 (g.ev x)
  exact Done.same g (by simp [execOp, ho, Instr.loadAt, Instr.sureAddr, h3, h4]) h5

theorem do_store (tab : TabOk P E) (g : Gam E B S0 w0 gv σ st a w) {o : Oper} {fresh t : Nat} {x y : Operand} (ho : o.op = .store t x y) {out : Out E.T} (h : core E fresh st.tmps st.heap (.store t x y) = some out) : Done P E B S0 w0 gv st a o w out := by
  simp only [core] at h
  obtain ⟨u, h1, h2⟩ := Option.bind_eq_some_iff.1 h
  cases h2
  obtain ⟨ad, w', h3, h4, h5⟩ := storeB_sound tab g h1 (g.ev x) (g.ev y)
  exact ⟨undef, w', σ, .inr ⟨by simp [execOp, ho, Instr.storeAt, Instr.sureAddr, h3, h4], rfl⟩, h5, .tup [] #[] .nil⟩

theorem int_inv {H : List (Nat × HS E.T)} {S : Nat → Prop} {k : IntKind} {n : Int} {v : Value} (h : RelS E H σ w S (.int k n) v) : v = .int k n := by cases h; rfl
theorem bool_inv {H : List (Nat × HS E.T)} {S : Nat → Prop} {b : Bool} {v : Value} (h : RelS E H σ w S (.bool b) v) : v = .bool b := by cases h; rfl

theorem run_eq_bool {t : Nat} (hu : P.underlying t = some .bool) (b1 b2 : Bool) (w : World) : (Op.equal t (.bool b1) (.bool b2)).run P w = .ok (b1 == b2) w := by
  have : Op.equal t (.bool b1) (.bool b2) = Op.equalIn (9999 + 1) t (.bool b1) (.bool b2) := rfl
  rw [this]; unfold Op.equalIn; simp [run_underlying hu]

theorem run_binOp_eqb {t : Nat} (hu : P.underlying t = some .bool) (b1 b2 : Bool) (w : World) : (binOp .eql t (.bool b1) (.bool b2)).run P w = .ok (.bool (b1 == b2)) w := by
  have : binOp .eql t (.bool b1) (.bool b2) = (do pure (.bool (← Op.equal t (.bool b1) (.bool b2)))) := by unfold binOp; rfl
  rw [this, Sem.run_bind, run_eq_bool hu]; rfl

theorem run_binOp_neqb {t : Nat} (hu : P.underlying t = some .bool) (b1 b2 : Bool) (w : World) : (binOp .neq t (.bool b1) (.bool b2)).run P w = .ok (.bool (!(b1 == b2))) w := by
  have : binOp .neq t (.bool b1) (.bool b2) = (do pure (.bool (!(← Op.equal t (.bool b1) (.bool b2))))) := by unfold binOp; rfl
  rw [this, Sem.run_bind, run_eq_bool hu]; rfl

theorem run_and (k : IntKind) (a b : Int) (w : World) : (Op.intBits .and k a b).run P w = .ok (.int k (andI k a b)) w := by
  simp only [Op.intBits, Sem.run_pure, andI, uI, BitVec.toNat_and, BitVec.toNat_ofInt]; rfl
theorem run_or (k : IntKind) (a b : Int) (w : World) : (Op.intBits .or k a b).run P w = .ok (.int k (orI k a b)) w := by
  simp only [Op.intBits, Sem.run_pure, orI, uI, BitVec.toNat_or, BitVec.toNat_ofInt]; rfl
theorem run_xor (k : IntKind) (a b : Int) (w : World) : (Op.intBits .xor k a b).run P w = .ok (.int k (xorI k a b)) w := by
  simp only [Op.intBits, Sem.run_pure, xorI, uI, BitVec.toNat_xor, BitVec.toNat_ofInt]; rfl
theorem str_inv {H : List (Nat × HS E.T)} {S : Nat → Prop} {b : ByteArray} {v : Value} (h : RelS E H σ w S (.str b) v) : v = .string b := by cases h; rfl

set_option maxHeartbeats 1000000 in
theorem do_binOp (tab : TabOk P E) (g : Gam E B S0 w0 gv σ st a w) {o : Oper} {fresh t ty : Nat} {op : BinOp} {x y : Operand} (ho : o.op = .binOp op t x y ty) {out : Out E.T} (h : core E fresh st.tmps st.heap (.binOp op t x y ty) = some out)
    (hc : out.cond = true) : Done P E B S0 w0 gv st a o w out := by
  simp only [core, binB] at h
  have hx := g.ev x
  have hy := g.ev y
  split at h
  · rename_i k1 n1 k2 n2 h1 h2
    rw [h1] at hx; rw [h2] at hy
    have hx := int_inv hx
    have hy := int_inv hy
    split at h
    · rename_i hk
      have hk := kEq_eq hk
      subst hk
      cases op <;> simp only [binInt, oret, oneed, Option.some.injEq, reduceCtorEq] at h <;> try (subst h)
      all_goals first
        | exact Done.same g (v := .int k1 (andI k1 n1 n2)) (by simp only [execOp, ho, hx, hy, eqGuard_at_int, Sem.run_bind, Sem.run_pure, Result.andThen_ok, binOp, ne_eq, not_true_eq_false, if_false, run_and]) (.int _ _)
        | exact Done.same g (v := .int k1 (orI k1 n1 n2)) (by simp only [execOp, ho, hx, hy, eqGuard_at_int, Sem.run_bind, Sem.run_pure, Result.andThen_ok, binOp, ne_eq, not_true_eq_false, if_false, run_or]) (.int _ _)
        | exact Done.same g (v := .int k1 (xorI k1 n1 n2)) (by simp only [execOp, ho, hx, hy, eqGuard_at_int, Sem.run_bind, Sem.run_pure, Result.andThen_ok, binOp, ne_eq, not_true_eq_false, if_false, run_xor]) (.int _ _)
        | exact Done.same g (v := _) (by simp [execOp, ho, hx, hy, eqGuard_at_int, binOp, Op.intArith, Op.intCmp]; rfl) (by first | exact .int _ _ | exact .bool _)
        | skip
      · have hne : ¬ n2 = 0 := by simpa using hc
        exact Done.same g (v := .int k1 (k1.wrap (n1.tdiv n2))) (by simp [execOp, ho, hx, hy, eqGuard_at_int, binOp, Op.intDiv, hne]) (.int _ _)
      · have hne : ¬ n2 = 0 := by simpa using hc
        exact Done.same g (v := .int k1 (n1.tmod n2)) (by simp [execOp, ho, hx, hy, eqGuard_at_int, binOp, Op.intDiv, hne]) (.int _ _)
      · have hne : ¬ n2 < 0 := by have : leb 0 n2 = true := hc; simpa [leb] using this
        exact Done.same g (v := .int k1 (k1.wrap (n1 * 2 ^ (min n2.toNat k1.bits)))) (by simp [execOp, ho, hx, hy, eqGuard_at_int, binOp, Op.shift, hne]) (.int _ _)
      · have hne : ¬ n2 < 0 := by have : leb 0 n2 = true := hc; simpa [leb] using this
        exact Done.same g (v := .int k1 (n1.fdiv (2 ^ (min n2.toNat k1.bits)))) (by simp [execOp, ho, hx, hy, eqGuard_at_int, binOp, Op.shift, hne]) (.int _ _)
    · split at h
      · simp only [oneed, Option.some.injEq] at h
        subst h
        have hne : ¬ n2 < 0 := by have : leb 0 n2 = true := hc; simpa [leb] using this
        exact Done.same g (v := .int k1 (k1.wrap (n1 * 2 ^ (min n2.toNat k1.bits)))) (by simp [execOp, ho, hx, hy, eqGuard_at_int, binOp, Op.shift, hne]) (.int _ _)
      · simp only [oneed, Option.some.injEq] at h
        subst h
        have hne : ¬ n2 < 0 := by have : leb 0 n2 = true := hc; simpa [leb] using this
        exact Done.same g (v := .int k1 (n1.fdiv (2 ^ (min n2.toNat k1.bits)))) (by simp [execOp, ho, hx, hy, eqGuard_at_int, binOp, Op.shift, hne]) (.int _ _)
      · cases h
  · rename_i b1 b2 h1 h2
    rw [h1] at hx; rw [h2] at hy
    have hx := bool_inv hx
    have hy := bool_inv hy
    split at h
    · rename_i hbt
      have hu : P.underlying t = some .bool := by
        unfold boolB at hbt
        split at hbt
        · rename_i hk; exact tab.bool t hk
        · cases hbt
      split at h
      · cases h
        exact Done.same g (v := .bool (b1 == b2)) (by simp only [execOp, ho, hx, hy, eqGuard_at_bool, Sem.run_bind, Sem.run_pure, Result.andThen_ok, run_binOp_eqb hu]) (.bool _)
      · cases h
        exact Done.same g (v := .bool (!(b1 == b2))) (by simp only [execOp, ho, hx, hy, eqGuard_at_bool, Sem.run_bind, Sem.run_pure, Result.andThen_ok, run_binOp_neqb hu]) (.bool _)
      · cases h
    · cases h
  · rename_i b1 b2 h1 h2
    rw [h1] at hx; rw [h2] at hy
    have hx := str_inv hx
    have hy := str_inv hy
    split at h
    · split at h
      · cases h
        exact Done.same g (v := .bool (b1.data.toList == b2.data.toList)) (by simp only [execOp, ho, hx, hy, eqGuard_at_string, Sem.run_bind, Sem.run_pure, Result.andThen_ok, binOp, Op.stringOp, ByteArray.toList_eq]) (.bool _)
      · cases h
        exact Done.same g (v := .bool (!(b1.data.toList == b2.data.toList))) (by simp only [execOp, ho, hx, hy, eqGuard_at_string, Sem.run_bind, Sem.run_pure, Result.andThen_ok, binOp, Op.stringOp, ByteArray.toList_eq]) (.bool _)
      · cases h
    · cases h
  · rename_i cs1 cs2 h1 h2
    rw [h1] at hx; rw [h2] at hy
    split at h
    · rename_i b hq hb
      obtain ⟨hk, hg, ha⟩ := tab.eq t hq
      generalize hx1 : a.eval x = vx at hx
      generalize hy1 : a.eval y = vy at hy
      cases hx with
      | agg _ xs rx => cases hy with
        | agg _ ys ry =>
          have hv := eqL_V hb rx ry
          have hr := (kindT_run 50 9949 t _ hk).2.2 w xs.toList ys.toList (.agg xs) (.agg ys) b hv ⟨fun _ => rfl, fun h => by rw [ha] at h; cases h⟩ ⟨fun _ => rfl, fun h => by rw [ha] at h; cases h⟩
          have hr : (Op.equalIn 10000 t (.agg xs) (.agg ys)).run P w = .ok b w := hr
          split at h
          · cases h
            exact Done.same g (v := .bool b) (by simp only [execOp, ho, hx1, hy1, Sem.run_bind, run_eqGuard_agg w _ t x y xs ys hg, Result.andThen_ok, run_eql_struct, hr, Sem.run_pure]) (.bool _)
          · cases h
            exact Done.same g (v := .bool (!b)) (by simp only [execOp, ho, hx1, hy1, Sem.run_bind, run_eqGuard_agg w _ t x y xs ys hg, Result.andThen_ok, run_neq_struct, hr, Sem.run_pure]) (.bool _)
          · cases h
    · cases h
  · cases h

theorem do_unOp (g : Gam E B S0 w0 gv σ st a w) {o : Oper} {fresh t : Nat} {op : UnOp} {x : Operand} (ho : o.op = .unOp op t x) {out : Out E.T} (h : core E fresh st.tmps st.heap (.unOp op t x) = some out) : Done P E B S0 w0 gv st a o w out := by
  simp only [core] at h
  have hx := g.ev x
  split at h
  · rename_i b hb
    rw [hb] at hx
    cases h
    exact Done.same g (v := .bool !b) (by simp [execOp, ho, bool_inv hx, Op.unary]) (.bool _)
  · rename_i k n hb
    rw [hb] at hx
    cases h
    exact Done.same g (v := .int k (k.wrap (0 - n))) (by simp [execOp, ho, int_inv hx, Op.unary, Op.intArith]) (.int _ _)
  · cases h

theorem do_convert (tab : TabOk P E) (g : Gam E B S0 w0 gv σ st a w) {o : Oper} {fresh s t : Nat} {x : Operand} (ho : o.op = .convert s t x) {out : Out E.T} (h : core E fresh st.tmps st.heap (.convert s t x) = some out) : Done P E B S0 w0 gv st a o w out := by
  simp only [core] at h
  have hx := g.ev x
  split at h
  · rename_i k1 k2 k n h1 h2 h3
    rw [h3] at hx
    cases h
    have u1 := int_spec tab h1
    have u2 := int_spec tab h2
    exact Done.same g (v := .int k2 (k2.wrap n)) (by simp [execOp, ho, int_inv hx, convert, run_underlying u1, run_underlying u2, Conv.intToInt]) (.int _ _)
  · cases h

theorem evs_rel (g : Gam E B S0 w0 gv σ st a w) (l : List Operand) : RelL E st.heap σ w (sup E B S0 st.heap σ w) (evs st.tmps l) (l.map a.eval) := by
  induction l with
  | nil => exact .nil
  | cons x r ih => exact .cons (g.ev x) ih

theorem do_makeFunc (g : Gam E B S0 w0 gv σ st a w) {o : Oper} {fresh : Nat} {f : Fn} {first cap : Array Operand} (ho : o.op = .makeFunc f first cap) {out : Out E.T} (h : core E fresh st.tmps st.heap (.makeFunc f first cap) = some out) : Done P E B S0 w0 gv st a o w out := by
  simp only [core] at h
  split at h
  · rename_i f' hl
    cases h
    have hfirst : first = #[] := by cases first; simp_all
    subst hfirst
    refine Done.same g (v := .func (.func f') #[] (cap.map a.eval)) (by simp [execOp, ho, Instr.makeFunc]) (.fn _ _ _ ?_)
    have := evs_rel g cap.toList
    simpa using this
  · cases h

theorem do_slice (tab : TabOk P E) (g : Gam E B S0 w0 gv σ st a w) {o : Oper} {fresh t : Nat} {x : Operand} {lo hi mx : Option Operand} (ho : o.op = .slice t x lo hi mx) {out : Out E.T} (h : core E fresh st.tmps st.heap (.slice t x lo hi mx) = some out)
    (hc : out.cond = true) : Done P E B S0 w0 gv st a o w out := by
  cases mx with
  | some m => simp [core] at h
  | none =>
    simp only [core] at h
    have hop : ∀ (y : Option Operand) (r : Option Int), optInt st.tmps y = some r → RelO r (y.map a.eval) := fun y r hy => by
      unfold optInt at hy
      split at hy
      · cases hy; exact .none
      · rename_i o'
        split at hy
        · rename_i k n hn
          cases hy
          have := g.ev o'
          rw [hn] at this
          rw [Option.map_some, int_inv this]
          exact .some k n
        · cases hy
    split at h
    · rename_i n e har
      have hu := arr_spec tab har
      split at h
      · rename_i id off sz hx hsz
        split at h
        · rename_i t0 cs hl hs1
          split at h
          · rename_i k0 n' l ha
            split at h
            · rename_i hn
              cases h
              obtain ⟨ie, hie, hies, _⟩ := size_spec tab hsz
              have hv := g.ev x
              rw [hx] at hv
              generalize hvx : a.eval x = vx at hv
              cases hv with
              | ptr _ _ k h8 h9 =>
                refine Done.same g (v := .slice (some ⟨k, off, none⟩) n n) ?_ (.aslice _ _ _ _ h8 h9)
                simp [execOp, ho, hvx, Instr.sliceAt, run_underlying hu, Instr.sureAddr, Instr.sliceBounds, sizeOf, typeInfo, hie, Addr.add_zero']
            · cases h
          · cases h
        · cases h
      · cases h
    split at h
    · rename_i e lo' hi' hel h1 h2
      split at h
      · rename_i sz hsz
        split at h
        · rename_i hb
          have hb := Nat.eq_of_beq_eq_true hb
          subst hb
          exact slice_sound tab g hel hsz (g.ev x) (hop lo lo' h1) (hop hi hi' h2) h hc (fun v' hr => by simp [execOp, ho, hr])
        · cases h
      · cases h
    · cases h

end
end Go.Vg
