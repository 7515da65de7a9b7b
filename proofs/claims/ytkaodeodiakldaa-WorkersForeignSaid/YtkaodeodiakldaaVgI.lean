/-
  The executor's single operations are right: composite values, new memory, append. Own work; no condition.
-/
import Derived.Test.YtkaodeodiakldaaVgH
namespace Go.Vg
open Go.RowKit
variable {P : Program} {E : Env}
section
variable {B : Nat} {S0 : Nat → Prop} {w0 : World} {gv : Gv} {σ : Nat → Option Nat} {st : St E.T} {a : Act} {w : World} {H : List (Nat × HS E.T)} {S : Nat → Prop}

theorem fold_toList (off : Nat) (l : List Value) (cs : Array Value) (h : off + l.length ≤ cs.size) :
    (l.zipIdx.foldl (fun cs (x : Value × Nat) => cs.setIfInBounds (off + x.2) x.1) cs).toList = cs.toList.take off ++ l ++ cs.toList.drop (off + l.length) := by
  obtain ⟨h1, h2⟩ := Go.Great.foldl_set off l 0 cs
  apply List.ext_getElem?
  intro k
  have h3 := h2 k
  rw [Array.getElem?_toList, h3]
  have e1 : (List.take off cs.toList).length = off := by simp; omega
  simp only [List.getElem?_append, List.length_append, e1, List.getElem?_take, List.getElem?_drop, Nat.add_zero]
  repeat' split
  all_goals first | rfl | omega | (simp; done) | (rw [Array.getElem?_toList]; congr 1; omega) | (rw [List.getElem?_eq_none (by omega), Array.getElem?_eq_none (by omega)]) | skip

/-- Parts of a composite value. -/
inductive RelP (E : Env) (H : List (Nat × HS E.T)) (σ : Nat → Option Nat) (w : World) (S : Nat → Prop) : List (Nat × SV E.T) → List (Nat × Value) → Prop
  | nil : RelP E H σ w S [] []
  | cons (i) {s v r r'} : RelS E H σ w S s v → RelP E H σ w S r r' → RelP E H σ w S ((i, s) :: r) ((i, v) :: r')

theorem fill_sound {t : Nat} {place : Nat → Option (Nat × Nat)} : ∀ {parts : List (Nat × SV E.T)} {vps : List (Nat × Value)} {cs cs' : List (SV E.T)} {cells : Array Value},
    RelC E H σ w S cs cells.toList → RelP E H σ w S parts vps → fillB E t place cs parts = some cs' →
    ∃ cells', Instr.fill place cells vps = some cells' ∧ RelC E H σ w S cs' cells'.toList ∧ cells'.size = cells.size := by
  intro parts
  induction parts with
  | nil => intro vps cs cs' cells hc hp h; cases hp; simp [fillB] at h; subst h; exact ⟨cells, rfl, hc, rfl⟩
  | cons p r ih =>
    intro vps cs cs' cells hc hp h
    cases hp with
    | @cons i s v r r' hs hr =>
      simp only [fillB] at h
      split at h
      · rename_i off n new hpl hn
        split at h
        · rename_i hw
          have hw : widths new = n := Nat.eq_of_beq_eq_true hw
          obtain ⟨cs1, hput, h⟩ := Option.bind_eq_some_iff.1 h
          have hnew := cellsB_rel hn hs
          have hp2 := hc.put hnew hput
          have hl := hnew.len
          have hsz : v.cells.size = n := by rw [← hw, hl]; simp
          have hle : off + v.cells.size ≤ cells.size := by simpa using hp2.2
          have hf := fold_toList off v.cells.toList cells (by simpa using hle)
          have hfold : v.cells.zipIdx.foldl (fun cs (x : Value × Nat) => cs.setIfInBounds (off + x.2) x.1) cells = v.cells.toList.zipIdx.foldl (fun cs (x : Value × Nat) => cs.setIfInBounds (off + x.2) x.1) cells := by
            rw [← Array.foldl_toList, Array.toList_zipIdx]
          obtain ⟨cells', h1, h2, h3⟩ := ih (cells := v.cells.toList.zipIdx.foldl (fun cs (x : Value × Nat) => cs.setIfInBounds (off + x.2) x.1) cells) (by rw [hf]; exact hp2.1) hr h
          refine ⟨cells', ?_, h2, h3.trans (Go.Great.foldl_set off v.cells.toList 0 cells).1⟩
          simp only [Instr.fill, hpl]
          rw [if_neg (by simp [hsz]; omega)]
          rw [hfold]
          exact h1
        · cases h
      · cases h


/-- An operation hands over this value. -/
def Yields (P : Program) (o : Oper) (a : Act) (w : World) (v : Value) (w' : World) : Prop :=
  (execOp a.eval o).run P w = .ok (.value v) w' ∨ ((execOp a.eval o).run P w = .ok .skip w' ∧ v = undef)

/-- The operation comes to what the executor says. -/
def Done (P : Program) (E : Env) (B : Nat) (S0 : Nat → Prop) (w0 : World) (gv : Gv) (st : St E.T) (a : Act) (o : Oper) (w : World) (out : Out E.T) : Prop :=
  ∃ v w' σ', Yields P o a w v w' ∧ Gam E B S0 w0 gv σ' (st.upds out.upd) a w' ∧ RelS E (st.upds out.upd).heap σ' w' (sup E B S0 (st.upds out.upd).heap σ' w') out.val v

theorem Done.same (g : Gam E B S0 w0 gv σ st a w) {o : Oper} {c : Bool} {s : SV E.T} {v : Value} (hr : (execOp a.eval o).run P w = .ok (.value v) w) (h : RelS E st.heap σ w (sup E B S0 st.heap σ w) s v) :
    Done P E B S0 w0 gv st a o w ⟨c, s, []⟩ := ⟨v, w, σ, .inl hr, g, h⟩

/-- What a new block's name asks. -/
def Fresh (st : St E.T) (id : Nat) : Prop := look st.heap id = .free ∧ (∃ p ∈ st.heap, p.1 = id) ∧ id < st.next

theorem look_upd1 (st : St E.T) (u : Nat × HS E.T) : st.upds [u] = st.setBlk u.1 u.2 := rfl

theorem Done.box (g : Gam E B S0 w0 gv σ st a w) {o : Oper} {id t : Nat} (hf : Fresh st id) {cs : List (SV E.T)} {arr : Array Value} (hcs : RelC E st.heap σ w (sup E B S0 st.heap σ w) cs arr.toList)
    (hr : (execOp a.eval o).run P w = .ok (.value (.pointer (some ⟨w.heap.size, 0, none⟩))) (w.alloc (.cells arr t))) :
    Done P E B S0 w0 gv st a o w ⟨true, .ptr id 0, [(id, .live (.cells t cs))]⟩ := by
  obtain ⟨σ', h1, h2, h3, go, g'⟩ := g.alloc id hf.1 hf.2.1 hf.2.2 arr t (.cells t cs) (fun H' σ' w' S' go hs hk => ⟨_, _, hs, g.hB, hk, hcs.goes go⟩)
  exact ⟨_, _, σ', .inl hr, g', .ptr _ _ _ (by rw [show look (St.upds st [(id, HS.live (Blk.cells t cs))]).heap id = _ from h3]; simp) h1⟩

theorem Done.row (g : Gam E B S0 w0 gv σ st a w) {o : Oper} {id e n c : Nat} (hf : Fresh st id) {l : List (E.T e)} {arr : Array Value} {ds : List Nat} (hds : ∀ i ∈ ds, look st.heap i ≠ .free) (he : E.has e = true) (hl : l.length = n) (hn : n ≤ c) (hc : c ≤ maxLen) (hsz : arr.size = c * E.sz e)
    (hcs : RelC E (st.upds (deads ds)).heap σ w (sup E B S0 (st.upds (deads ds)).heap σ w) (l.flatMap (E.enc e)) (arr.toList.take (n * E.sz e))) {cond : Bool}
    (hr : (execOp a.eval o).run P w = .ok (.value (.slice (some ⟨w.heap.size, 0, none⟩) n c)) (w.alloc (.cells arr e))) :
    Done P E B S0 w0 gv st a o w ⟨cond, .row id, deads ds ++ [(id, .live (.row e l))]⟩ := by
  subst hl
  obtain ⟨g1, _, _, hl2, _, hnx, _, hkeys⟩ := g.deads ds hds
  have hid : id ∉ ds := fun h => hds id h hf.1
  have hf1 : look (st.upds (deads ds)).heap id = .free := (hl2 id hid).trans hf.1
  have hk1 : ∃ p ∈ (st.upds (deads ds)).heap, p.1 = id := by
    obtain ⟨p, hp, rfl⟩ := hf.2.1
    have : p.1 ∈ (st.upds (deads ds)).heap.map (·.1) := by rw [hkeys]; exact List.mem_map_of_mem hp
    obtain ⟨q, hq, e⟩ := List.mem_map.1 this
    exact ⟨q, hq, e⟩
  obtain ⟨σ', h1, h2, h3, go, g'⟩ := g1.alloc id hf1 hk1 (by rw [hnx]; exact hf.2.2) arr e (.row e l) (fun H' σ' w' S' go hs hk => ⟨he, .inr ⟨_, _, hs, g.hB, hk, by rw [hsz]; exact Nat.mul_le_mul_right _ hn, hcs.goes go⟩⟩)
  have e1 : st.upds (deads ds ++ [(id, .live (.row e l))]) = (st.upds (deads ds)).setBlk id (.live (.row e l)) := by rw [upds_append]; rfl
  refine ⟨_, _, σ', .inl hr, by rw [e1]; exact g', ?_⟩
  rw [e1]
  refine .row _ _ _ _ (by rw [show look ((st.upds (deads ds)).setBlk id (.live (.row e l))).heap id = _ from h3]; simp) h1 (fun e' l' hh => ?_)
  rw [show look ((st.upds (deads ds)).setBlk id (.live (.row e l))).heap id = _ from h3] at hh
  cases hh
  exact ⟨rfl, hn, hc, arr, h2, hsz⟩

end
end Go.Vg
