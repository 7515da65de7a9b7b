/-
  The executor's single operations are right: append. Own work; no condition.
-/
import Derived.Test.YtkaodeodiakldaaVgI
namespace Go.Vg
open Go.RowKit
variable {P : Program} {E : Env}
section
variable {B : Nat} {S0 : Nat → Prop} {w0 : World} {gv : Gv} {σ : Nat → Option Nat} {st : St E.T} {a : Act} {w w' : World}

theorem Gam.blk_lt (g : Gam E B S0 w0 gv σ st a w) {j k : Nat} {c : Blk E.T} (hj : look st.heap j = .live c) (hk : σ j = some k) : k < w.heap.size := by
  have := g.blk j c hj
  cases c with
  | cells t cs => obtain ⟨k', arr, h1, _, h3, _⟩ := this; rw [hk] at h1; cases h1; exact (Array.getElem?_eq_some_iff.1 h3).1
  | row e l =>
    rcases this.2 with ⟨h1, _⟩ | ⟨k', arr, h1, _, h3, _⟩
    · rw [hk] at h1; cases h1
    · rw [hk] at h1; cases h1; exact (Array.getElem?_eq_some_iff.1 h3).1
  | map kt vt l => obtain ⟨_, _, k', es, h1, _, h3, _⟩ := this; rw [hk] at h1; cases h1; exact (Array.getElem?_eq_some_iff.1 h3).1
  | loop L => obtain ⟨k', r, _, _, h1, _, h3, _⟩ := this; rw [hk] at h1; cases h1; exact (Array.getElem?_eq_some_iff.1 h3).1

/-- Some names are given up; a fresh one stands for a row that took over a given-up row's block, or a new one. -/
theorem Gam.replace (g : Gam E B S0 w0 gv σ st a w) (ds : List Nat) (hds : ∀ i ∈ ds, look st.heap i ≠ .free) (id : Nat) (hf : Fresh st id) (row k' : Option Nat) (hg : w.grownBy w' row) (hdr : w.drawn ≤ w'.drawn)
    (hrow : ∀ k, row = some k → B ≤ k ∧ ∃ i b, i ∈ ds ∧ look st.heap i = .live b ∧ σ i = some k) (hk' : ∀ k, k' = some k → row = some k ∨ w.heap.size ≤ k)
    {e : Nat} {l : List (E.T e)}
    (hb : ∀ H' σ' S', Goes E st.heap σ w (sup E B S0 st.heap σ w) H' σ' w' S' → σ' id = k' → BlkRel E B gv H' σ' w' S' id (.row e l)) :
    ∃ σ', σ' id = k' ∧ look (st.upds (Vg.deads ds ++ [(id, .live (.row e l))])).heap id = .live (.row e l) ∧ Gam E B S0 w0 gv σ' (st.upds (Vg.deads ds ++ [(id, .live (.row e l))])) a w' := by
  obtain ⟨g1, go1, hl1, hl2, htm, hnx, hsv, hkeys⟩ := g.deads ds hds
  have hid : id ∉ ds := fun h => hds id h hf.1
  have hf1 : look (st.upds (Vg.deads ds)).heap id = .free := (hl2 id hid).trans hf.1
  have hk1 : ∃ p ∈ (st.upds (Vg.deads ds)).heap, p.1 = id := by
    obtain ⟨p, hp, rfl⟩ := hf.2.1
    have : p.1 ∈ (st.upds (Vg.deads ds)).heap.map (·.1) := by rw [hkeys]; exact List.mem_map_of_mem hp
    obtain ⟨q, hq, e⟩ := List.mem_map.1 this
    exact ⟨q, hq, e⟩
  have e1 : st.upds (Vg.deads ds ++ [(id, .live (.row e l))]) = (st.upds (Vg.deads ds)).setBlk id (.live (.row e l)) := by rw [upds_append]; rfl
  rw [e1]
  generalize hst1 : st.upds (Vg.deads ds) = st1 at *
  let σ' : Nat → Option Nat := fun j => if j = id then k' else σ j
  have hs : σ' id = k' := by simp [σ']
  have hso : ∀ j, j ≠ id → σ' j = σ j := fun j hj => by simp [σ', hj]
  have hl : look (setH st1.heap id (.live (.row e l))) id = .live (.row e l) := look_setH_same _ _ _ hk1
  have ho : ∀ j, j ≠ id → look (setH st1.heap id (.live (.row e l))) j = look st1.heap j := fun j hj => look_setH_ne _ _ _ _ (fun h => hj h.symm)
  -- what is live now was live, and is no given-up name
  have hlive : ∀ j c, j ≠ id → look (setH st1.heap id (.live (.row e l))) j = .live c → j ∉ ds ∧ look st.heap j = .live c := fun j c hj h => by rw [ho j hj] at h; exact hl1 j c h
  have hnotrow : ∀ j c k, j ≠ id → look (setH st1.heap id (.live (.row e l))) j = .live c → σ j = some k → some k ≠ row := fun j c k hj h hk hrw => by
    obtain ⟨h1, h2⟩ := hlive j c hj h
    obtain ⟨_, i, b, h3, h4, h5⟩ := hrow k hrw.symm
    exact h1 (g.inj j i c b k h2 h4 hk h5 ▸ h3)
  have hold : ∀ j c k, j ≠ id → look (setH st1.heap id (.live (.row e l))) j = .live c → σ j = some k → w'.heap[k]? = w.heap[k]? := fun j c k hj h hk =>
    hg.block k (g.blk_lt (hlive j c hj h).2 hk) (hnotrow j c k hj h hk)
  have go : Goes E st.heap σ w (sup E B S0 st.heap σ w) (setH st1.heap id (.live (.row e l))) σ' w' (sup E B S0 (setH st1.heap id (.live (.row e l))) σ' w') := by
    refine ⟨fun k hk => ?_, fun j hj => ?_, fun j e' l' hj hr => ?_⟩
    · have hne : some k ≠ row := fun h => by
        obtain ⟨_, i, b, _, h4, h5⟩ := hrow k h.symm
        exact hk.2.2 i b h4 h5
      refine ⟨⟨hk.1, Nat.lt_of_lt_of_le hk.2.1 hg.size, fun j c hj => ?_⟩, hg.block k hk.2.1 hne⟩
      by_cases ej : j = id
      · subst ej; rw [hs]; intro h
        rcases hk' k h with h | h
        · exact hne h.symm
        · have := hk.2.1; omega
      · rw [hso j ej]; exact hk.2.2 j c (hlive j c ej hj).2
    · have ej : j ≠ id := fun h => hj (h ▸ hf.1)
      exact ⟨by rw [ho j ej]; exact (go1.free j hj).1, hso j ej⟩
    · have ej : j ≠ id := fun h => hj (h ▸ hf.1)
      refine ⟨l', (hlive j _ ej hr).2, rfl, fun k arr h3 h4 => ⟨arr, ?_, rfl⟩⟩
      rw [hold j _ k ej hr h3]; exact h4
  refine ⟨σ', hs, hl, ?_⟩
  have hmv := g.move (H' := setH st1.heap id (.live (.row e l))) (σ' := σ') (w' := w') (g.below.grown hg hdr g.hB (fun k h => (hrow k h).1)) (Nat.le_trans g.hB hg.size) go (fun j c hj => ?_) (fun i j c c' k hi hj h1 h2 => ?_) (fun j hj => ?_)
  · have e2 : st1.setBlk id (.live (.row e l)) = { st with heap := setH st1.heap id (.live (.row e l)) } := by
      unfold St.setBlk
      rw [show st1 = { st with heap := st1.heap } by cases st1; cases st; simp_all]
    rw [e2]; exact hmv
  · by_cases ej : j = id
    · subst ej; rw [hl] at hj; cases hj; exact hb _ _ _ go hs
    · exact (g.blk j c (hlive j c ej hj).2).goes go (hso j ej) (fun k hk => hold j c k ej hj hk)
  · have key : ∀ p q d d' m, p ≠ id → q = id → look (setH st1.heap id (.live (.row e l))) p = .live d → look (setH st1.heap id (.live (.row e l))) q = .live d' → σ' p = some m → σ' q = some m → p = q := fun p q d d' m hp hq hd hd' hm hm' => by
      subst hq
      rw [hs] at hm'; rw [hso p hp] at hm
      rcases hk' m hm' with h | h
      · exact absurd h.symm (hnotrow p d m hp hd hm)
      · have := g.blk_lt (hlive p d hp hd).2 hm; omega
    by_cases ei : i = id
    · by_cases ej : j = id
      · rw [ei, ej]
      · exact (key j i c' c k ej ei hj hi h2 h1).symm
    · by_cases ej : j = id
      · exact key i j c c' k ei ej hi hj h1 h2
      · rw [hso i ei] at h1; rw [hso j ej] at h2
        exact g.inj i j c c' k (hlive i c ei hi).2 (hlive j c' ej hj).2 h1 h2
  · by_cases ej : j = id
    · subst ej; exact hf.2.2
    · rw [ho j ej] at hj
      have := g1.lt j hj
      rw [hnx] at this; exact this

/-- A slice of the call's own, in the kit's words. -/
theorem row_own (g : Gam E B S0 w0 gv σ st a w) {id e : Nat} {l : List (E.T e)} {v : Value} (hl : look st.heap id = .live (.row e l)) (hr : RelS E st.heap σ w (sup E B S0 st.heap σ w) (.row id) v) :
    ∃ xs, w.ownsRow B e (E.sz e) v l.length xs ∧ RelC E st.heap σ w (sup E B S0 st.heap σ w) (l.flatMap (E.enc e)) xs ∧ v.ownBlock = σ id ∧ E.has e = true ∧ (∀ k, σ id = some k → B ≤ k) := by
  obtain ⟨he, hb⟩ := g.blk id _ hl
  cases hr with
  | row_nil _ h1 h2 =>
    rcases hb with ⟨_, h3⟩ | ⟨k, arr, h3, _⟩
    · subst h3; exact ⟨[], World.ownsRow_nil _ _ _ _, .nil, h2.symm, he, fun k h => by rw [h2] at h; cases h⟩
    · rw [h2] at h3; cases h3
  | row _ k n c h1 h2 h3 =>
    obtain ⟨rfl, h5, hc, arr', h8', hcap⟩ := h3 e l hl
    rcases hb with ⟨h6, _⟩ | ⟨k', arr, h6, h7, h8, h9, h10⟩
    · rw [h2] at h6; cases h6
    · rw [h2] at h6; cases h6
      rw [h8'] at h8; cases h8
      refine ⟨arr'.toList.take (l.length * E.sz e), ⟨by simp; omega, .inr ⟨k, c, arr', rfl, h7, h8', h5, hc, hcap, rfl⟩⟩, h10, by simp [Value.ownBlock, h2], he, fun k' h => by rw [h2] at h; cases h; exact h7⟩

theorem dat_flat {H : List (Nat × HS E.T)} {S : Nat → Prop} {e : Nat} (he : E.has e = true) (ad : Addr) (vss : Nat → List Value) : ∀ (l : List (E.T e)) (k : Nat),
    (∀ i x, l[i]? = some x → RelC E H σ w S (E.enc e x) (vss (k + i))) → (∀ i x, l[i]? = some x → ∀ j u, (vss (k + i))[j]? = some u → w.cell? (ad.add ((k + i) * E.sz e + j)) = some u) →
    ∃ xs, RelC E H σ w S (l.flatMap (E.enc e)) xs ∧ ∀ j u, xs[j]? = some u → w.cell? (ad.add (k * E.sz e + j)) = some u := by
  intro l
  induction l with
  | nil => intro k _ _; exact ⟨[], .nil, fun j u hu => by simp at hu⟩
  | cons y l ih =>
    intro k h1 h2
    obtain ⟨xs, h3, h4⟩ := ih (k + 1) (fun i x hx => by have := h1 (i + 1) x (by simpa using hx); rwa [show k + (i + 1) = k + 1 + i by omega] at this)
      (fun i x hx j u hu => by have := h2 (i + 1) x (by simpa using hx) j u (by rwa [show k + (i + 1) = k + 1 + i by omega]); rwa [show k + (i + 1) = k + 1 + i by omega] at this)
    have h5 := h1 0 y rfl
    have h6 := h2 0 y rfl
    have hl : (vss k).length = E.sz e := by have := h5.len; simp only [Nat.add_zero] at this; rw [← this]; exact E.enc_sz e y he
    refine ⟨vss k ++ xs, by simpa using h5.append h3, fun j u hu => ?_⟩
    rw [List.getElem?_append] at hu
    split at hu
    · exact h6 j u hu
    · have := h4 (j - (vss k).length) u hu
      rw [← this]; congr 2
      rw [hl, Nat.add_mul, Nat.one_mul]
      omega

/-- A slice that is read: its cells. -/
theorem listOf_rel (g : Gam E B S0 w0 gv σ st a w) {e : Nat} {s : SV E.T} {l : List (E.T e)} {v : Value} (he : E.has e = true) (h : listOf st.heap e s = some l) (hr : RelS E st.heap σ w (sup E B S0 st.heap σ w) s v) :
    (v = .slice none 0 0 ∧ l = []) ∨ ∃ ad c xs, v = .slice (some ad) l.length c ∧ RelC E st.heap σ w (sup E B S0 st.heap σ w) (l.flatMap (E.enc e)) xs ∧ (∀ j u, xs[j]? = some u → w.cell? (ad.add j) = some u) := by
  unfold listOf at h
  split at h
  · rename_i id
    split at h
    · rename_i e' l' hl
      split at h
      · rename_i hee; subst hee; cases h
        obtain ⟨xs, how, hrel, _⟩ := row_own g hl hr
        rcases how.2 with ⟨h1, h2⟩ | ⟨k, c, cur, h1, h2, h3, h4, h5, h6, h7⟩
        · exact .inl ⟨h1, List.length_eq_zero_iff.1 h2⟩
        · refine .inr ⟨_, c, xs, h1, hrel, fun j u hu => ?_⟩
          rw [add_plain']
          refine cell_of_blk h3 _ _ ?_
          rw [← h7, List.getElem?_take] at hu
          split at hu
          · simpa using hu
          · cases hu
      · cases h
    · cases h
  · unfold asDat at h
    split at h
    · cases h; cases hr; exact .inl ⟨rfl, rfl⟩
    · split at h
      · rename_i e' l' _ hee
        subst hee; cases h
        cases hr with
        | dat_nil => exact .inl ⟨rfl, rfl⟩
        | dat _ _ ad c vss h0 h1 h2 h3 h4 =>
          obtain ⟨xs, h5, h6⟩ := dat_flat h0 ad vss l' 0 (fun i x hx => by simpa using h3 i x hx) (fun i x hx j u hu => by simpa using h4 i x hx j u (by simpa using hu))
          exact .inr ⟨ad, c, xs, rfl, h5, fun j u hu => by simpa using h6 j u hu⟩
      · cases h
    · cases h

end
end Go.Vg
