/-
  The executor's single operations are right: stores, new memory, append. Own work; no condition.
-/
import Derived.Test.YtkaodeodiakldaaVgG
namespace Go.Vg
open Go.RowKit
variable {P : Program} {E : Env}
section
variable {B : Nat} {S0 : Nat → Prop} {w0 : World} {gv : Gv} {σ : Nat → Option Nat} {st : St E.T} {a : Act} {w : World}

theorem run_storeVar_at (P : Program) {t n : Nat} {i : TypeInfo} (hi : P.info? t = some i) (his : i.size = n) (v : Value) (hv : v.cells.size = n) (h1 : ∀ u ∈ v.cells.toList, u.oneCell' = true)
    {w : World} {k t0 : Nat} {cur : Array Value} (hk : w.heap[k]? = some (.cells cur t0 (0, 0))) (o : Nat) (ho : o + n ≤ cur.size) :
    (storeVar t ⟨k, o, none⟩ v).run P w = .ok () (w.setRow k (cur.toList.take o ++ v.cells.toList ++ cur.toList.drop (o + v.cells.toList.length)).toArray) := by
  have := run_storeCells_at (P := P) k o t0 v.cells.toList 0 cur w hk (by simp [hv]; omega) h1
  simp only [Nat.add_zero] at this
  simp [storeVar, sizeOf, typeInfo, hi, his, hv, this]

theorem flat_set {e : Nat} (he : E.has e = true) {H : List (Nat × HS E.T)} {S : Nat → Prop} {l : List (E.T e)} {vs ns : List Value} {i : Nat} {y : E.T e} (hi : i < l.length)
    (h : RelC E H σ w S (l.flatMap (E.enc e)) vs) (hn : RelC E H σ w S (E.enc e y) ns) :
    RelC E H σ w S ((l.set i y).flatMap (E.enc e)) (vs.take (i * E.sz e) ++ ns ++ vs.drop ((i + 1) * E.sz e)) := by
  have hf := RelC.flat_at he h
  have hns : ns.length = E.sz e := by rw [← hn.len]; exact E.enc_sz e y he
  have hil : (i + 1) * E.sz e ≤ l.length * E.sz e := Nat.mul_le_mul_right _ hi
  have him : (i + 1) * E.sz e = i * E.sz e + E.sz e := by rw [Nat.add_mul, Nat.one_mul]
  refine RelC.flat_mk he ?_ (fun j x hx => ?_)
  · simp only [List.length_append, List.length_take, List.length_drop, List.length_set, hns, hf.1]; omega
  · rw [List.getElem?_set] at hx
    have hjl : j < l.length := by
      split at hx
      · omega
      · exact (List.getElem?_eq_some_iff.1 hx).1
    have hjm : (j + 1) * E.sz e ≤ l.length * E.sz e := Nat.mul_le_mul_right _ hjl
    have hjm' : (j + 1) * E.sz e = j * E.sz e + E.sz e := by rw [Nat.add_mul, Nat.one_mul]
    have key : ∀ (zs : List Value), (∀ q, q < E.sz e → ((vs.take (i * E.sz e) ++ ns ++ vs.drop ((i + 1) * E.sz e))[j * E.sz e + q]? = zs[q]?)) → zs.length = E.sz e →
        ((vs.take (i * E.sz e) ++ ns ++ vs.drop ((i + 1) * E.sz e)).drop (j * E.sz e)).take (E.sz e) = zs := by
      intro zs h1 h2
      apply List.ext_getElem?
      intro q
      rw [List.getElem?_take]
      split
      · rename_i hq; rw [List.getElem?_drop]; exact h1 q hq
      · rw [List.getElem?_eq_none (by omega)]
    by_cases e0 : i = j
    · subst e0
      simp only [if_true, hi] at hx
      cases hx
      rw [key ns (fun q hq => ?_) hns]
      · exact hn
      · rw [List.getElem?_append_left (by simp only [List.length_append, List.length_take]; omega), List.getElem?_append_right (by simp only [List.length_take]; omega)]
        congr 1
        simp only [List.length_take]; omega
    · rw [if_neg e0] at hx
      have := hf.2 j x hx
      rw [key ((vs.drop (j * E.sz e)).take (E.sz e)) (fun q hq => ?_) (by simp only [List.length_take, List.length_drop]; omega)]
      · exact this
      · rw [List.getElem?_take, if_pos hq, List.getElem?_drop]
        rcases Nat.lt_or_gt_of_ne e0 with hlt | hgt
        · have : (i + 1) * E.sz e ≤ j * E.sz e := Nat.mul_le_mul_right _ hlt
          rw [List.getElem?_append_right (by simp only [List.length_append, List.length_take]; omega)]
          rw [List.getElem?_drop]
          congr 1
          simp only [List.length_append, List.length_take]
          omega
        · have : (j + 1) * E.sz e ≤ i * E.sz e := Nat.mul_le_mul_right _ hgt
          rw [List.append_assoc, List.getElem?_append_left (by simp only [List.length_take]; omega), List.getElem?_take, if_pos (by omega)]

theorem drop_split {α : Type} (vs : List α) (i n : Nat) : (vs.drop i).drop n = vs.drop (i + n) := by rw [List.drop_drop]

theorem relC_arr1 {H : List (Nat × HS E.T)} {S : Nat → Prop} {k : IntKind} {n : Nat} {l : List Int} (h : l.length = n) : RelC E H σ w S [.arr k n l] (l.map (Value.int k)) := by
  have := RelC.arr (E := E) (H := H) (σ := σ) (w := w) (S := S) (k := k) h RelC.nil
  rwa [List.append_nil] at this

theorem row_store {α : Type} (vs ns : List α) (a s L off : Nat) (h1 : off + ns.length ≤ s) (h2 : a + s ≤ L) (h3 : L ≤ vs.length) :
    (vs.take L).take a ++ ((((vs.take L).drop a).take s).take off ++ ns ++ (((vs.take L).drop a).take s).drop (off + ns.length)) ++ (vs.take L).drop (a + s) = (vs.take (a + off) ++ ns ++ vs.drop (a + off + ns.length)).take L := by
  apply List.ext_getElem?
  intro q
  have e1 : (List.take a (List.take L vs)).length = a := by simp; omega
  have e2 : (List.take off (List.take s (List.drop a (List.take L vs)))).length = off := by simp; omega
  have e3 : (List.drop (off + ns.length) (List.take s (List.drop a (List.take L vs)))).length = s - (off + ns.length) := by simp; omega
  have e4 : (List.take (a + off) vs).length = a + off := by simp; omega
  simp only [List.getElem?_append, List.length_append, e1, e2, e3, e4, List.getElem?_take, List.getElem?_drop]
  repeat' split
  all_goals first | rfl | omega | (congr 1; omega) | (rw [List.getElem?_eq_none (by omega)]) | (symm; rw [List.getElem?_eq_none (by omega)])

theorem arr_store {α : Type} (vs ls : List α) (off j : Nat) (y : α) (hl : off + ls.length ≤ vs.length) (hj : j < ls.length) (h7 : ∀ i, i < ls.length → vs[off + i]? = ls[i]?) :
    vs.take off ++ ls.set j y ++ vs.drop (off + ls.length) = vs.take (off + j) ++ [y] ++ vs.drop (off + j + 1) := by
  apply List.ext_getElem?
  intro q
  have e1 : (List.take off vs).length = off := by simp; omega
  have e4 : (List.take (off + j) vs).length = off + j := by simp; omega
  simp only [List.getElem?_append, List.length_append, List.length_set, e1, e4, List.getElem?_take, List.getElem?_drop, List.getElem?_set, List.length_cons, List.length_nil]
  repeat' split
  · rfl
  · omega
  all_goals first | rfl | omega | (congr 1; omega) | (rw [show q - (off + j) = 0 by omega]; rfl) | (rw [← h7 (q - off) (by omega)]; congr 1; omega)

/-- A store. -/
theorem storeB_sound (tab : TabOk P E) (g : Gam E B S0 w0 gv σ st a w) {t : Nat} {x s : SV E.T} {vx v : Value} {u : List (Nat × HS E.T)} (h : storeB E st.heap t x s = some u)
    (hx : RelS E st.heap σ w (sup E B S0 st.heap σ w) x vx) (hv : RelS E st.heap σ w (sup E B S0 st.heap σ w) s v) :
    ∃ ad w', vx = .pointer (some ad) ∧ (storeVar t ad v).run P w = .ok () w' ∧ Gam E B S0 w0 gv σ (st.upds u) a w' := by
  unfold storeB at h
  split at h
  · rename_i new n hc hn
    split at h
    · rename_i hw
      have hw : widths new = n := Nat.eq_of_beq_eq_true hw
      obtain ⟨i, hi, his, _⟩ := size_spec tab hn
      have hnew := cellsB_rel hc hv
      have hlen : v.cells.size = n := by have := hnew.len; simpa [hw] using this.symm
      have hone := hnew.one
      split at h
      · -- a pointer into cells
        rename_i id off
        split at h
        · rename_i t0 cs hl
          obtain ⟨cs', hp, rfl⟩ := Option.map_eq_some_iff.1 h
          cases hx with
          | ptr _ _ k h1 h2 =>
            obtain ⟨k', arr, e1, hBk, hk, hr⟩ := g.blk id _ hl
            rw [h2] at e1; cases e1
            have hput := hr.put hnew hp
            refine ⟨_, _, rfl, run_storeVar_at P hi his v hlen hone hk off (by have := hput.2; simp [hlen] at this; omega), ?_⟩
            refine g.write id k t0 _ _ arr _ hl h2 hBk hk (by have := hput.2; simp at this ⊢; omega) (fun e l' h' => by cases h') (fun H' σ' w' S' go hs' hk' => ⟨k, _, hs', hBk, hk', ?_⟩)
            have := hput.1.goes go
            simpa using this
        · cases h
      · -- into a row's element
        rename_i id j off
        split at h
        · rename_i e l hl
          split at h
          · rename_i cs' hp
            split at h
            · rename_i y hy
              split at h
              · rename_i hall
                cases h
                have hids : id ∉ rowIds1 new := fun hin => by
                  have := List.all_eq_true.1 hall id hin
                  simp at this
                obtain ⟨g1, go1, hl1, hl2, _, _, _, _⟩ := g.deads (rowIds1 new) (rowIds_free hnew)
                have hl' := (hl2 id hids).trans hl
                have hnew1 := mapDat_rel g go1 (ids := rowIds1 new) (fun j b hj => ⟨(hl1 j b hj).1, b, (hl1 j b hj).2⟩) hnew (fun _ hi => hi)
                cases hx with
                | rptr _ _ _ k sz h1 h2 h3 h4 =>
                  obtain ⟨h5, h6⟩ := h4 e l hl
                  subst h5
                  obtain ⟨he, hb⟩ := g1.blk id _ hl'
                  rcases hb with ⟨h7, _⟩ | ⟨k', arr, e1, hBk, hk, hlen2, hr⟩
                  · rw [h2] at h7; cases h7
                  · rw [h2] at e1; cases e1
                    have hf := RelC.flat_at he hr
                    have hold := hf.2 j.toNat _ (listLen h3 h6 (E.d e))
                    have hput := hold.put hnew1 hp
                    have hdec := RelC.dec he hy hput.1
                    have hjl : j.toNat < l.length := by omega
                    have hjm : (j.toNat + 1) * E.sz e ≤ l.length * E.sz e := Nat.mul_le_mul_right _ hjl
                    have hjm' : (j.toNat + 1) * E.sz e = j.toNat * E.sz e + E.sz e := by rw [Nat.add_mul, Nat.one_mul]
                    have hp2 := hput.2
                    simp only [List.length_take, List.length_drop] at hp2
                    have hvl : v.cells.toList.length = n := by simpa using hlen
                    refine ⟨_, _, rfl, run_storeVar_at P hi his v hlen hone hk (j.toNat * E.sz e + off) (by omega), ?_⟩
                    rw [upds_append]
                    refine g1.write id k e (.row e l) (.row e (l.set j.toNat y)) arr _ hl' h2 hBk hk ?_ (fun e' l' h' => by cases h'; exact ⟨l, rfl, by simp⟩) (fun H' σ' w' S' go hs' hk' => ⟨he, .inr ⟨k, _, hs', hBk, hk', ?_, ?_⟩⟩)
                    · simp only [List.size_toArray, List.length_append, List.length_take, List.length_drop, Array.length_toList]; omega
                    · simp only [List.length_set, List.size_toArray, List.length_append, List.length_take, List.length_drop, Array.length_toList]; omega
                    · have hset := flat_set he hjl (hr.goes go) (hdec.goes go)
                      refine cast (congrArg _ ?_) hset
                      simp only [List.length_set]
                      have hal : arr.toList.length = arr.size := Array.length_toList
                      rw [List.toList_toArray, hjm', hvl]
                      have := row_store arr.toList v.cells.toList (j.toNat * E.sz e) (E.sz e) (l.length * E.sz e) off (by omega) (by omega) (by omega)
                      rwa [hvl] at this
              · cases h
            · cases h
          · cases h
        · cases h
      · -- into an array's element
        rename_i id off m j
        split at h
        · rename_i t0 cs hl
          cases ha : arrAt cs off with
          | none => simp [ha] at h
          | some p =>
            obtain ⟨k0, n', l⟩ := p
            cases hb : oneInt new with
            | none => simp [ha, hb] at h
            | some p =>
              obtain ⟨k1, y⟩ := p
              obtain rfl := oneInt_spec hb
              simp only [ha, hb] at h
              split at h
              · rename_i hm hkk
                have hm := Nat.eq_of_beq_eq_true hm
                have hkk := kEq_eq hkk
                subst hm hkk
                obtain ⟨cs', hp, rfl⟩ := Option.map_eq_some_iff.1 h
                cases hx with
                | aptr _ _ _ _ k h1 h2 h3 h4 =>
                  obtain ⟨k', arr, e1, hBk, hk, hr⟩ := g.blk id _ hl
                  rw [h2] at e1; cases e1
                  obtain ⟨h5, h6, h7⟩ := arrAt_rel hr ha
                  have hvc := hnew.int_inv
                  have hn1 : n = 1 := by rw [← hw]; rfl
                  subst hn1
                  have hput := hr.put (ns := (l.set j.toNat y).map (Value.int k0)) (relC_arr1 (by simpa using h5)) hp
                  have h6' : off + l.length ≤ arr.size := by simpa [h5] using h6
                  refine ⟨_, _, rfl, run_storeVar_at P hi his v hlen hone hk (off + j.toNat) (by omega), ?_⟩
                  refine g.write id k t0 _ _ arr _ hl h2 hBk hk (by simp [hvc]; omega) (fun e l' h' => by cases h') (fun H' σ' w' S' go hs' hk' => ⟨k, _, hs', hBk, hk', ?_⟩)
                  have := hput.1.goes go
                  refine cast (congrArg _ ?_) this
                  rw [hvc, List.map_set]
                  have hal : arr.toList.length = arr.size := Array.length_toList
                  have := arr_store arr.toList (l.map (Value.int k0)) off j.toNat (Value.int k0 y) (by simp; omega) (by simp; omega) (fun q hq => by
                    have hq' : q < l.length := by simpa using hq
                    rw [h7 q (by omega)]
                    simp [List.getD, hq'])
                  simpa using this
              · cases h
        · cases h
      · cases h
    · cases h
  · cases h

end
end Go.Vg
