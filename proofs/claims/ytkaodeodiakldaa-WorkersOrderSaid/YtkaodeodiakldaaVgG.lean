/-
  The executor's single operations are right: tables, loads, stores. Own work; no condition.
-/
import Derived.Test.YtkaodeodiakldaaVgEq
import Derived.Deep.MidRow
namespace Go.Vg
open Go.RowKit
variable {P : Program} {E : Env}

/-- The executor's tables are the program's. -/
structure TabOk (P : Program) (E : Env) : Prop where
  info : ∀ t, (E.ti t).ok = true → ∃ i, P.info? t = some i ∧ i.size = (E.ti t).size ∧ i.bytes = (E.ti t).bytes ∧ ∃ z, i.zero = some z ∧ z.cells.size = i.size ∧
    ∀ H σ w S, RelC E H σ w S ((E.ti t).zero.map zcSV) z.cells.toList
  agg : ∀ t, (E.ti t).ok = true → ∃ d, P.underlying t = some d ∧ d.isRow = isAggB E t
  struct : ∀ t fs, (E.ti t).kind = .struct fs → ∃ fds, P.underlying t = some (.struct fds) ∧
    fds.toList.mapM (fun f => (P.info? f.type).map fun i => (f.offset, i.size)) = some (fs.map fun p => (p.1, p.2.1)) ∧
    ∀ j o n ft, nthL fs j = some (o, n, ft) → ∃ f i, fds[j]? = some f ∧ f.offset = o ∧ f.type = ft ∧ P.info? ft = some i ∧ i.size = n
  array : ∀ t n e, (E.ti t).kind = .array n e → P.underlying t = some (.array n e)
  slice : ∀ t e, (E.ti t).kind = .slice e → P.underlying t = some (.slice e)
  int : ∀ t k, (E.ti t).kind = .int k → P.underlying t = some (.int k)
  bool : ∀ t, (E.ti t).kind = .bool → P.underlying t = some .bool
  string : ∀ t, (E.ti t).kind = .string → P.underlying t = some .string
  fn : ∀ f g, E.fn f = some g → P.funcs[f]? = some g ∧ (g.name == "runtime.NumGoroutine") = false
  mixed : P.follows .mixedOrders = true
  eq : ∀ t, E.eqt t = true → kindT P 50 t = some (flatZ (E.ti t).zero) ∧ P.eqGuardType P.depth t = false ∧ isAggT P t = true
  map : ∀ t k v, (E.ti t).kind = .map k v → P.underlying t = some (.map k v)
  key : ∀ e, E.kok e = true → E.has e = true ∧ (E.ti e).ok = true ∧ (∀ x, (E.enc e x).all kcell = true) ∧ kindT P 50 e = some (flatZ (E.ti e).zero) ∧ (∀ x y, ∃ b, eqL (E.ti e).zero (E.enc e x) (E.enc e y) = some b) ∧ (isAggB E e = false → ∀ x, ∃ s, E.enc e x = [s] ∧ isCell s = true)
  zform : ∀ t, (E.ti t).ok = true → isAggB E t = false → ∀ i z, P.info? t = some i → i.zero = some z → ∀ vs, z ≠ .agg vs
  zform2 : ∀ t, (E.ti t).ok = true → isAggB E t = true → ∀ i z, P.info? t = some i → i.zero = some z → ∃ vs, z = .agg vs

section
variable (tab : TabOk P E) {H : List (Nat × HS E.T)} {σ : Nat → Option Nat} {w : World} {S : Nat → Prop}
include tab

theorem size_spec {t n : Nat} (h : sizeB E t = some n) : ∃ i, P.info? t = some i ∧ i.size = n ∧ (E.ti t).ok = true := by
  unfold sizeB at h
  split at h
  · rename_i ho
    cases h
    obtain ⟨i, h1, h2, _⟩ := tab.info t ho
    exact ⟨i, h1, h2, ho⟩
  · cases h

theorem elem_spec {t e : Nat} (h : elemB E t = some e) : P.underlying t = some (.slice e) := by
  unfold elemB at h
  split at h
  · rename_i e' hk; cases h; exact tab.slice t _ hk
  · cases h

theorem arr_spec {t n e : Nat} (h : arrB E t = some (n, e)) : P.underlying t = some (.array n e) := by
  unfold arrB at h
  split at h
  · rename_i hk; cases h; exact tab.array t _ _ hk
  · cases h

theorem int_spec {t : Nat} {k : IntKind} (h : intB E t = some k) : P.underlying t = some (.int k) := by
  unfold intB at h
  split at h
  · rename_i hk; cases h; exact tab.int t _ hk
  · cases h

theorem run_isAgg' {t : Nat} (ho : (E.ti t).ok = true) (w : World) : (isAgg t).run P w = .ok (isAggB E t) w := by
  obtain ⟨d, h1, h2⟩ := tab.agg t ho
  unfold isAgg
  rw [Sem.run_bind, run_underlying h1 w, ← h2]
  cases d <;> simp [TypeDesc.isRow]

/-- A load out of cells that are known. -/
theorem loadFrom_sound {t : Nat} {cs : List (SV E.T)} {off : Nat} {s : SV E.T} (ht : (E.ti t).ok = true) (h : loadFrom E t cs off = some s) (ad : Addr) (vs : List Value)
    (hr : RelC E H σ w S cs vs) (hc : ∀ j v, vs[off + j]? = some v → w.cell? (ad.add j) = some v) :
    ∃ u, (loadVar t ad).run P w = .ok u w ∧ RelS E H σ w S s u := by
  unfold loadFrom at h
  split at h
  · rename_i hagg
    obtain ⟨n, hn, h⟩ := Option.bind_eq_some_iff.1 h
    obtain ⟨r, hr', rfl⟩ := Option.map_eq_some_iff.1 h
    obtain ⟨i, hi, his, _⟩ := size_spec tab hn
    have hsub := hr.sub hr'
    have hl : ((vs.drop off).take n).length = n := by simp; omega
    refine ⟨.agg ((vs.drop off).take n).toArray, ?_, .agg _ _ (by simpa using hsub.1)⟩
    have hload := run_loadCells_list (P := P) w ad ((vs.drop off).take n) (fun j v hv => hc j v (by
      rw [List.getElem?_take] at hv
      split at hv
      · simpa [List.getElem?_drop] using hv
      · cases hv))
    rw [hl] at hload
    simp [loadVar, Sem.run_bind, run_isAgg' tab ht w, hagg, sizeOf, typeInfo, hi, his, hload]
  · rename_i hagg
    split at h
    · rename_i hlt
      cases h
      have hlt : off < vs.length := by
        have := hr.len
        rw [← this]
        simpa [Nat.blt_eq] using hlt
      have hcell := cell1_rel hr hlt
      refine ⟨vs[off], ?_, hcell.1⟩
      have h0 := hc 0 vs[off] (by simp [hlt])
      rw [Addr.add_zero'] at h0
      simp [loadVar, Sem.run_bind, run_isAgg' tab ht w, hagg, run_load, h0]
    · cases h

end

theorem RelC.split {H : List (Nat × HS E.T)} {σ : Nat → Option Nat} {w : World} {S : Nat → Prop} {cs' : List (SV E.T)} : ∀ {cs : List (SV E.T)} {vs : List Value}, RelC E H σ w S (cs ++ cs') vs →
    ∃ v1 v2, vs = v1 ++ v2 ∧ RelC E H σ w S cs v1 ∧ RelC E H σ w S cs' v2 := by
  intro cs
  induction cs with
  | nil => intro vs h; exact ⟨[], vs, rfl, .nil, h⟩
  | cons s r ih =>
    intro vs h
    rw [List.cons_append] at h
    cases h with
    | cons h0 h00 h1 h2 =>
      obtain ⟨v1, v2, rfl, h3, h4⟩ := ih h2
      exact ⟨_ :: v1, v2, rfl, .cons h0 h00 h1 h3, h4⟩
    | arr h1 h2 =>
      obtain ⟨v1, v2, rfl, h3, h4⟩ := ih h2
      exact ⟨_ ++ v1, v2, by rw [List.append_assoc], .arr h1 h3, h4⟩

theorem RelC.flat_at {H : List (Nat × HS E.T)} {σ : Nat → Option Nat} {w : World} {S : Nat → Prop} {e : Nat} (he : E.has e = true) : ∀ {l : List (E.T e)} {vs : List Value}, RelC E H σ w S (l.flatMap (E.enc e)) vs →
    vs.length = l.length * E.sz e ∧ ∀ i x, l[i]? = some x → RelC E H σ w S (E.enc e x) ((vs.drop (i * E.sz e)).take (E.sz e)) := by
  intro l
  induction l with
  | nil => intro vs h; cases h; simp
  | cons y l ih =>
    intro vs h
    have hsz := E.enc_sz e y he
    obtain ⟨v1, v2, rfl, h1, h2⟩ := RelC.split (cs := E.enc e y) (by simpa using h)
    have hl := h1.len
    rw [show widths (E.enc e y) = E.sz e from hsz] at hl
    obtain ⟨h3, h4⟩ := ih h2
    refine ⟨by simp [← hl, h3, Nat.add_mul]; omega, fun i x hx => ?_⟩
    cases i with
    | zero =>
      simp at hx
      subst hx
      simp only [Nat.zero_mul, List.drop_zero]
      rw [hl, List.take_left]
      exact h1
    | succ i =>
      have := h4 i x (by simpa using hx)
      rw [show (i + 1) * E.sz e = v1.length + i * E.sz e by rw [Nat.add_mul, ← hl]; omega, List.drop_append, List.drop_of_length_le (by omega)]
      simpa using this

/-- And back: element by element. -/
theorem RelC.flat_mk {H : List (Nat × HS E.T)} {σ : Nat → Option Nat} {w : World} {S : Nat → Prop} {e : Nat} (_he : E.has e = true) : ∀ {l : List (E.T e)} {vs : List Value}, vs.length = l.length * E.sz e →
    (∀ i x, l[i]? = some x → RelC E H σ w S (E.enc e x) ((vs.drop (i * E.sz e)).take (E.sz e))) → RelC E H σ w S (l.flatMap (E.enc e)) vs := by
  intro l
  induction l with
  | nil => intro vs h _; simp at h; subst h; exact .nil
  | cons y l ih =>
    intro vs h h2
    have h0 := h2 0 y rfl
    simp only [Nat.zero_mul, List.drop_zero] at h0
    have := ih (vs := vs.drop (E.sz e)) (by simp [h, Nat.add_mul]) (fun i x hx => by
      have := h2 (i + 1) x (by simpa using hx)
      rwa [Nat.add_mul, Nat.one_mul, Nat.add_comm, ← List.drop_drop] at this)
    have r := h0.append this
    rw [List.take_append_drop] at r
    simpa using r

theorem add_add (a : Addr) (m n : Nat) : (a.add m).add n = a.add (m + n) := by
  unfold Addr.add
  by_cases h1 : m = 0
  · simp [h1]
  · by_cases h2 : n = 0
    · simp [h2, h1]
    · simp [h1, h2]; omega

theorem cell_of_blk {w : World} {k : Nat} {arr : Array Value} {t : Nat} (h : w.heap[k]? = some (.cells arr t (0, 0))) (o : Nat) (v : Value) (hv : arr.toList[o]? = some v) : w.cell? ⟨k, o, none⟩ = some v := by
  simp only [World.cell?, h]
  simpa using hv

theorem listLen {α : Type} {l : List α} {i : Int} (h0 : 0 ≤ i) (h1 : i < (l.length : Int)) (d : α) : l[i.toNat]? = some (l.getD i.toNat d) := by
  have : i.toNat < l.length := by omega
  simp [List.getD, this]

theorem add_plain' (k o n : Nat) : (⟨k, o, none⟩ : Addr).add n = ⟨k, o + n, none⟩ := by unfold Addr.add; split <;> simp_all

section
variable (tab : TabOk P E) {B : Nat} {S0 : Nat → Prop} {w0 : World} {gv : Gv} {σ : Nat → Option Nat} {st : St E.T} {a : Act} {w : World}
include tab

theorem loadB0_sound (g : Gam E B S0 w0 gv σ st a w) {t : Nat} {x s : SV E.T} {v : Value} (ht : (E.ti t).ok = true) (h : loadB0 E st.heap t x = some s) (hx : RelS E st.heap σ w (sup E B S0 st.heap σ w) x v) :
    ∃ ad, v = .pointer (some ad) ∧ ∃ u, (loadVar t ad).run P w = .ok u w ∧ RelS E st.heap σ w (sup E B S0 st.heap σ w) s u := by
  cases x with
  | ptr id off =>
    simp only [loadB0] at h
    split at h
    · rename_i t0 cs hl
      cases hx with
      | ptr _ _ k h1 h2 =>
        obtain ⟨k', arr, e1, _, hk, hr⟩ := g.blk id _ hl
        rw [h2] at e1; cases e1
        refine ⟨_, rfl, ?_⟩
        exact loadFrom_sound tab ht h _ _ hr (fun j v hv => by rw [add_plain']; exact cell_of_blk hk _ _ hv)
    · cases h
  | rptr id i off =>
    simp only [loadB0] at h
    split at h
    · rename_i e l hl
      cases hx with
      | rptr _ _ _ k sz h1 h2 h3 h4 =>
        obtain ⟨h5, h6⟩ := h4 e l hl
        subst h5
        obtain ⟨he, hb⟩ := g.blk id _ hl
        rcases hb with ⟨h7, _⟩ | ⟨k', arr, e1, _, hk, hlen, hr⟩
        · rw [h2] at h7; cases h7
        · rw [h2] at e1; cases e1
          refine ⟨_, rfl, ?_⟩
          have hf := (RelC.flat_at he hr).2 i.toNat _ (listLen h3 h6 (E.d e))
          refine loadFrom_sound tab ht h _ _ hf (fun j v hv => ?_)
          rw [add_plain']
          refine cell_of_blk hk _ _ ?_
          rw [List.getElem?_take] at hv
          split at hv
          · rename_i hlt
            rw [List.getElem?_drop, List.getElem?_take] at hv
            split at hv
            · rw [← hv]; congr 1; omega
            · cases hv
          · cases hv
      
    · cases h
  | eptr e l i off =>
    simp only [loadB0] at h
    cases hx with
    | eptr _ _ _ _ ad vss h0 h1 h2 h3 h4 h5 =>
      refine ⟨_, rfl, ?_⟩
      have hi := listLen h1 h2 (E.d e)
      refine loadFrom_sound tab ht h _ _ (h4 _ _ hi) (fun j v hv => ?_)
      rw [add_add, Nat.add_assoc]
      exact h5 _ _ hi _ _ hv
  | aptr id off n i =>
    simp only [loadB0] at h
    split at h
    · rename_i t0 cs hl
      split at h
      · rename_i k0 n' l ha
        split at h
        · rename_i hn hagg
          have hn := Nat.eq_of_beq_eq_true hn
          subst hn
          cases h
          cases hx with
          | aptr _ _ _ _ k h1 h2 h3 h4 =>
            obtain ⟨k', arr, e1, _, hk, hr⟩ := g.blk id _ hl
            rw [h2] at e1; cases e1
            obtain ⟨h5, h6, h7⟩ := arrAt_rel hr ha
            have h8 := h7 i.toNat (by omega)
            refine ⟨_, rfl, _, ?_, .int _ _⟩
            have hc := cell_of_blk hk _ _ h8
            simp [loadVar, Sem.run_bind, run_isAgg' tab ht w, hagg, run_load, hc]
        · cases h
      · cases h
    · cases h
  | aeptr e l i off n j =>
    simp only [loadB0] at h
    split at h
    · rename_i k0 n' l' ha
      split at h
      · rename_i hn hagg
        have hn := Nat.eq_of_beq_eq_true hn
        subst hn
        cases h
        cases hx with
        | aeptr _ _ _ _ _ _ ad vss h0 h1 h2 b3 b4 h3 h4 h5 =>
          have hi := listLen h1 h2 (E.d e)
          obtain ⟨h6, h7, h8⟩ := arrAt_rel (h4 _ _ hi) ha
          have h9 := h8 j.toNat (by omega)
          refine ⟨_, rfl, _, ?_, .int _ _⟩
          have hc := h5 _ _ hi _ _ h9
          simp [loadVar, Sem.run_bind, run_isAgg' tab ht w, hagg, run_load, hc]
      · cases h
    · cases h
  | boxd t0 cs off =>
    simp only [loadB0] at h
    cases hx with
    | boxd _ _ _ k arr h1 h2 h3 =>
      refine ⟨_, rfl, ?_⟩
      exact loadFrom_sound tab ht h _ _ h3 (fun j v hv => by rw [add_plain']; exact cell_of_blk h2 _ _ hv)
  | _ => simp [loadB0] at h

theorem loadB_sound (g : Gam E B S0 w0 gv σ st a w) {t : Nat} {x s : SV E.T} {v : Value} (h : loadB E st.heap t x = some s) (hx : RelS E st.heap σ w (sup E B S0 st.heap σ w) x v) :
    ∃ ad, v = .pointer (some ad) ∧ ∃ u, (loadVar t ad).run P w = .ok u w ∧ RelS E st.heap σ w (sup E B S0 st.heap σ w) s u := by
  unfold loadB at h
  split at h
  · rename_i ht; exact loadB0_sound tab g ht h hx
  · cases h

end

section
variable (tab : TabOk P E) {B : Nat} {S0 : Nat → Prop} {w0 : World} {gv : Gv} {σ : Nat → Option Nat} {st : St E.T} {a : Act} {w : World}

/-- A live block's content is written anew. -/
theorem Gam.writeM (g : Gam E B S0 w0 gv σ st a w) (id k : Nat) (kt vt : Nat) (l l' : List (E.T kt × E.T vt)) (es' : Array MapEntry) (hl : look st.heap id = .live (.map kt vt l)) (hs : σ id = some k) (hB : B ≤ k)
    {es : Array MapEntry} {cl : Nat} (hk : w.heap[k]? = some (.map es cl)) (hr : MapRel E kt vt l' es'.toList) :
    Gam E B S0 w0 gv σ (st.setBlk id (.live (.map kt vt l'))) a { w with heap := w.heap.setIfInBounds k (.map es' es'.size) } := by
  have hkok := g.blk id _ hl
  have hl' : look (setH st.heap id (.live (.map kt vt l'))) id = .live (.map kt vt l') := look_setH_same _ _ _ (nodup_key _ _ (by rw [hl]; simp))
  have ho : ∀ j, j ≠ id → look (setH st.heap id (.live (.map kt vt l'))) j = look st.heap j := fun j hj => look_setH_ne _ _ _ _ (fun h => hj h.symm)
  have hlt : k < w.heap.size := (Array.getElem?_eq_some_iff.1 hk).1
  have hn : (w.heap.setIfInBounds k (.map es' es'.size))[k]? = some (.map es' es'.size) := by simp [hlt]
  have hold : ∀ j, j ≠ k → (w.heap.setIfInBounds k (.map es' es'.size))[j]? = w.heap[j]? := fun j hj => by simp [Ne.symm hj]
  have hlive : ∀ j c, look (setH st.heap id (.live (.map kt vt l'))) j = .live c → ∃ c', look st.heap j = .live c' := fun j c hj => by
    by_cases e : j = id
    · subst e; exact ⟨_, hl⟩
    · rw [ho j e] at hj; exact ⟨c, hj⟩
  have go : Goes E st.heap σ w (sup E B S0 st.heap σ w) (setH st.heap id (.live (.map kt vt l'))) σ { w with heap := w.heap.setIfInBounds k (.map es' es'.size) } (sup E B S0 (setH st.heap id (.live (.map kt vt l'))) σ { w with heap := w.heap.setIfInBounds k (.map es' es'.size) }) := by
    refine ⟨fun q hq => ?_, fun j hj => ⟨?_, rfl⟩, fun j e l hj hr => ?_⟩
    · have hne : q ≠ k := fun e => hq.2.2 id _ hl (by rw [hs, e])
      exact ⟨⟨hq.1, by simpa using hq.2.1, fun j c hj => by obtain ⟨c', hc'⟩ := hlive j c hj; exact hq.2.2 j c' hc'⟩, hold q hne⟩
    · by_cases e : j = id
      · subst e; rw [hl']; simp
      · rwa [ho j e]
    · by_cases e0 : j = id
      · subst e0; rw [hl'] at hr; cases hr
      · rw [ho j e0] at hr
        refine ⟨l, hr, rfl, fun q ar h3 h4 => ⟨ar, ?_, rfl⟩⟩
        have : q ≠ k := fun e => e0 (g.inj j id _ _ k hr hl (by rw [h3, e]) hs)
        exact (hold q this).trans h4
  refine g.move ⟨g.below.os, g.below.tape, g.below.output, by simpa using g.below.size, fun q hq => (hold q (by omega)).trans (g.below.block q hq), g.below.dr⟩ (by simpa using g.hB) go (fun j c hj => ?_) (fun i j c c' q hi hj h1 h2 => ?_) (fun j hj => ?_)
  · by_cases e : j = id
    · subst e; rw [hl'] at hj; cases hj; exact ⟨hkok.1, hkok.2.1, k, es', hs, hB, hn, hr⟩
    · rw [ho j e] at hj
      refine (g.blk j c hj).goes go rfl (fun q hq => hold q (fun e' => e (g.inj j id _ _ k hj hl (by rw [hq, e']) hs)))
  · obtain ⟨c1, h3⟩ := hlive i c hi
    obtain ⟨c2, h4⟩ := hlive j c' hj
    exact g.inj i j c1 c2 q h3 h4 h1 h2
  · by_cases e : j = id
    · subst e; exact g.lt _ (by rw [hl]; simp)
    · rw [ho j e] at hj; exact g.lt _ hj

theorem Gam.write (g : Gam E B S0 w0 gv σ st a w) (id k t : Nat) (b b' : Blk E.T) (arr arr' : Array Value) (hl : look st.heap id = .live b) (hs : σ id = some k) (hB : B ≤ k)
    (hk : w.heap[k]? = some (.cells arr t (0, 0))) (hsz : arr'.size = arr.size) (hrow : ∀ e l', b' = .row e l' → ∃ l, b = .row e l ∧ l.length = l'.length)
    (hb : ∀ H' σ' w' S', Goes E st.heap σ w (sup E B S0 st.heap σ w) H' σ' w' S' → σ' id = some k → w'.heap[k]? = some (.cells arr' t (0, 0)) → BlkRel E B gv H' σ' w' S' id b') :
    Gam E B S0 w0 gv σ (st.setBlk id (.live b')) a (w.setRow k arr') := by
  have hl' : look (setH st.heap id (.live b')) id = .live b' := look_setH_same _ _ _ (nodup_key _ _ (by rw [hl]; simp))
  have ho : ∀ j, j ≠ id → look (setH st.heap id (.live b')) j = look st.heap j := fun j hj => look_setH_ne _ _ _ _ (fun h => hj h.symm)
  have hn := setRow_heap w k arr arr' t (0, 0) hk
  have hold : ∀ j, j ≠ k → (w.setRow k arr').heap[j]? = w.heap[j]? := fun j hj => setRow_other w k j arr' hj
  have hsize : (w.setRow k arr').heap.size = w.heap.size := by simp [World.setRow]
  have hlt : k < w.heap.size := (Array.getElem?_eq_some_iff.1 hk).1
  have hlive : ∀ j c, look (setH st.heap id (.live b')) j = .live c → ∃ c', look st.heap j = .live c' := fun j c hj => by
    by_cases e : j = id
    · subst e; exact ⟨b, hl⟩
    · rw [ho j e] at hj; exact ⟨c, hj⟩
  have go : Goes E st.heap σ w (sup E B S0 st.heap σ w) (setH st.heap id (.live b')) σ (w.setRow k arr') (sup E B S0 (setH st.heap id (.live b')) σ (w.setRow k arr')) := by
    refine ⟨fun q hq => ?_, fun j hj => ⟨?_, rfl⟩, fun j e l hj hr => ?_⟩
    · have hne : q ≠ k := fun e => hq.2.2 id b hl (by rw [hs, e])
      exact ⟨⟨hq.1, by rw [hsize]; exact hq.2.1, fun j c hj => by obtain ⟨c', hc'⟩ := hlive j c hj; exact hq.2.2 j c' hc'⟩, hold q hne⟩
    · by_cases e : j = id
      · subst e; rw [hl']; simp
      · rwa [ho j e]
    · by_cases e0 : j = id
      · subst e0
        rw [hl'] at hr
        cases hr
        obtain ⟨l0, h1, h2⟩ := hrow e l rfl
        refine ⟨l0, by rw [hl, h1], h2, fun q ar h3 h4 => ?_⟩
        rw [hs] at h3; cases h3
        rw [hk] at h4; cases h4
        exact ⟨arr', hn, hsz⟩
      · rw [ho j e0] at hr
        refine ⟨l, hr, rfl, fun q ar h3 h4 => ⟨ar, ?_, rfl⟩⟩
        have : q ≠ k := fun e => e0 (g.inj j id _ _ k hr hl (by rw [h3, e]) hs)
        rw [hold q this]; exact h4
  refine g.move ⟨g.below.os, g.below.tape, g.below.output, by rw [hsize]; exact g.below.size, fun q hq => by rw [hold q (by omega)]; exact g.below.block q hq, g.below.dr⟩ (by rw [hsize]; exact g.hB) go (fun j c hj => ?_) (fun i j c c' q hi hj h1 h2 => ?_) (fun j hj => ?_)
  · by_cases e : j = id
    · subst e; rw [hl'] at hj; cases hj; exact hb _ _ _ _ go hs hn
    · rw [ho j e] at hj
      refine (g.blk j c hj).goes go rfl (fun q hq => hold q (fun e' => e (g.inj j id _ _ k hj hl (by rw [hq, e']) hs)))
  · obtain ⟨c1, h3⟩ := hlive i c hi
    obtain ⟨c2, h4⟩ := hlive j c' hj
    exact g.inj i j c1 c2 q h3 h4 h1 h2
  · by_cases e : j = id
    · subst e; exact g.lt _ (by rw [hl]; simp)
    · rw [ho j e] at hj; exact g.lt _ hj

theorem RelC.one {H : List (Nat × HS E.T)} {S : Nat → Prop} {cs : List (SV E.T)} {vs : List Value} (h : RelC E H σ w S cs vs) : ∀ v ∈ vs, v.oneCell' = true := by
  induction cs generalizing vs with
  | nil => cases h; simp
  | cons s r ih =>
    cases h with
    | cons h0 h00 h1 h2 =>
      intro v hv; simp at hv; rcases hv with rfl | hv
      · exact h00
      · exact ih h2 v hv
    | arr h1 h2 =>
      intro v hv
      simp at hv
      rcases hv with ⟨x, _, rfl⟩ | hv
      · rfl
      · exact ih h2 v hv

/-- What is stored, as cells. -/
theorem cellsB_rel {H : List (Nat × HS E.T)} {S : Nat → Prop} {s : SV E.T} {v : Value} {cs : List (SV E.T)} (h : cellsB s = some cs) (hr : RelS E H σ w S s v) : RelC E H σ w S cs v.cells.toList := by
  unfold cellsB at h
  split at h
  · cases h; cases hr with
    | agg _ vs h => exact h
  · split at h
    · rename_i hc
      cases h
      cases hr <;> first | (simp [isCell] at hc; done) | exact .cons rfl rfl (by constructor <;> assumption) .nil
    · cases h


theorem Goes.refl (H : List (Nat × HS E.T)) (σ : Nat → Option Nat) (w : World) (S : Nat → Prop) : Goes E H σ w S H σ w S :=
  ⟨fun _ hk => ⟨hk, rfl⟩, fun _ hj => ⟨hj, rfl⟩, fun _ _e l _ hr => ⟨l, hr, rfl, fun _ arr _ h => ⟨arr, h, rfl⟩⟩⟩

theorem Goes.trans {H H' H'' : List (Nat × HS E.T)} {σ σ' σ'' : Nat → Option Nat} {w w' w'' : World} {S S' S'' : Nat → Prop} (h : Goes E H σ w S H' σ' w' S') (k : Goes E H' σ' w' S' H'' σ'' w'' S'') : Goes E H σ w S H'' σ'' w'' S'' := by
  refine ⟨fun q hq => ?_, fun j hj => ?_, fun j e l hj hr => ?_⟩
  · have h1 := h.sup q hq
    have h2 := k.sup q h1.1
    exact ⟨h2.1, h2.2.trans h1.2⟩
  · have h1 := h.free j hj
    have h2 := k.free j h1.1
    exact ⟨h2.1, h2.2.trans h1.2⟩
  · have h1 := h.free j hj
    obtain ⟨l1, h2, h3, h4⟩ := k.row j e l h1.1 hr
    obtain ⟨l0, h5, h6, h7⟩ := h.row j e l1 hj h2
    refine ⟨l0, h5, h6.trans h3, fun q arr h8 h9 => ?_⟩
    obtain ⟨ar1, h10, h11⟩ := h7 q arr h8 h9
    obtain ⟨ar2, h12, h13⟩ := h4 q ar1 (h1.2.trans h8) h10
    exact ⟨ar2, h12, h13.trans h11⟩

theorem setH_keys {T : Nat → Type} (H : List (Nat × HS T)) (i : Nat) (s : HS T) : (setH H i s).map (·.1) = H.map (·.1) := by
  induction H with
  | nil => rfl
  | cons p r ih =>
    simp only [setH]
    split <;> simp [ih]

theorem upds_append {T : Nat → Type} (st : St T) (u v : List (Nat × HS T)) : st.upds (u ++ v) = (st.upds u).upds v := by
  induction u generalizing st with
  | nil => rfl
  | cons p r ih => exact ih _

/-- Names given up, one by one. -/
theorem Gam.deads (g : Gam E B S0 w0 gv σ st a w) : ∀ (ids : List Nat), (∀ i ∈ ids, look st.heap i ≠ .free) →
    Gam E B S0 w0 gv σ (st.upds (Vg.deads ids)) a w ∧ Goes E st.heap σ w (sup E B S0 st.heap σ w) (st.upds (Vg.deads ids)).heap σ w (sup E B S0 (st.upds (Vg.deads ids)).heap σ w) ∧
      (∀ j b, look (st.upds (Vg.deads ids)).heap j = .live b → j ∉ ids ∧ look st.heap j = .live b) ∧ (∀ j, j ∉ ids → look (st.upds (Vg.deads ids)).heap j = look st.heap j) ∧
      (st.upds (Vg.deads ids)).tmps = st.tmps ∧ (st.upds (Vg.deads ids)).next = st.next ∧ (st.upds (Vg.deads ids)).saved = st.saved ∧ ((st.upds (Vg.deads ids)).heap.map (·.1)) = st.heap.map (·.1) := by
  intro ids
  induction ids generalizing st with
  | nil => exact fun _ => ⟨g, Goes.refl _ _ _ _, fun j b h => ⟨by simp, h⟩, fun _ _ => rfl, rfl, rfl, rfl, rfl⟩
  | cons i r ih =>
    intro h
    have g1 := g.kill i (h i (by simp))
    obtain ⟨h1, h2, h3, h8, h9, h10, h11, h12⟩ := ih g1 (fun j hj => look_kill (h j (by simp [hj])))
    refine ⟨h1, (goes_kill E B S0 st.heap σ w i).trans h2, fun j b hj => ?_, fun j hj => ?_, h9, h10, h11, h12.trans (setH_keys _ _ _)⟩
    · obtain ⟨h4, h5⟩ := h3 j b hj
      obtain ⟨h6, h7⟩ := kill_live h5
      exact ⟨by simp [h6, h4], h7⟩
    · simp at hj
      exact (h8 j hj.2).trans (look_setH_ne _ _ _ _ (fun e => hj.1 e.symm))

/-- A slice of the call's own, read: once its name is given up it is data. -/
theorem row_dat (g : Gam E B S0 w0 gv σ st a w) {id e : Nat} {l : List (E.T e)} {v : Value} (hl : look st.heap id = .live (.row e l)) (hr : RelS E st.heap σ w (sup E B S0 st.heap σ w) (.row id) v)
    {H' : List (Nat × HS E.T)} (go : Goes E st.heap σ w (sup E B S0 st.heap σ w) H' σ w (sup E B S0 H' σ w)) (hd : ∀ j b, look H' j = .live b → j ≠ id ∧ ∃ c, look st.heap j = .live c) :
    RelS E H' σ w (sup E B S0 H' σ w) (.dat e l) v := by
  obtain ⟨he, hb⟩ := g.blk id _ hl
  cases hr with
  | row_nil _ h1 h2 =>
    rcases hb with ⟨_, h3⟩ | ⟨k, arr, h3, _⟩
    · subst h3; exact .dat_nil e he
    · rw [h2] at h3; cases h3
  | row _ k n c h1 h2 h3 =>
    obtain ⟨rfl, h5, _, _⟩ := h3 e l hl
    rcases hb with ⟨h6, _⟩ | ⟨k', arr, h6, h7, h8, h9, h10⟩
    · rw [h2] at h6; cases h6
    · rw [h2] at h6; cases h6
      have hf := RelC.flat_at he h10
      refine .dat e l ⟨k, 0, none⟩ c (fun i => ((arr.toList.take (l.length * E.sz e)).drop (i * E.sz e)).take (E.sz e)) he (fun _ => ⟨.inr h7, (Array.getElem?_eq_some_iff.1 h8).1, fun j b hj he' => ?_⟩) h5 (fun i x hx => (hf.2 i x hx).goes go) (fun i x hx j u hu => ?_)
      · obtain ⟨h11, c', h12⟩ := hd j b hj
        exact h11 (g.inj j id _ _ k h12 hl he' h2)
      · rw [add_plain']
        refine cell_of_blk h8 _ _ ?_
        rw [List.getElem?_take] at hu
        split at hu
        · rw [List.getElem?_drop, List.getElem?_take] at hu
          split at hu
          · rw [← hu]; congr 1; omega
          · cases hu
        · cases hu

theorem rowToDat_rel (g : Gam E B S0 w0 gv σ st a w) {s : SV E.T} {v : Value} (hr : RelS E st.heap σ w (sup E B S0 st.heap σ w) s v)
    {H' : List (Nat × HS E.T)} (go : Goes E st.heap σ w (sup E B S0 st.heap σ w) H' σ w (sup E B S0 H' σ w)) (hd : ∀ id, s = .row id → ∀ j b, look H' j = .live b → j ≠ id ∧ ∃ c, look st.heap j = .live c) :
    RelS E H' σ w (sup E B S0 H' σ w) (rowToDat st.heap s) v := by
  unfold rowToDat
  split
  · rename_i id
    split
    · rename_i e l hl
      exact row_dat g hl hr go (hd id rfl)
    · exact .any _
  · exact hr.goes go

theorem mapDat_rel (g : Gam E B S0 w0 gv σ st a w) {H' : List (Nat × HS E.T)} (go : Goes E st.heap σ w (sup E B S0 st.heap σ w) H' σ w (sup E B S0 H' σ w)) {ids : List Nat}
    (hd : ∀ j b, look H' j = .live b → j ∉ ids ∧ ∃ c, look st.heap j = .live c) : ∀ {cs : List (SV E.T)} {vs : List Value}, RelC E st.heap σ w (sup E B S0 st.heap σ w) cs vs → (∀ i ∈ rowIds1 cs, i ∈ ids) →
      RelC E H' σ w (sup E B S0 H' σ w) (cs.map (rowToDat st.heap)) vs := by
  intro cs
  induction cs with
  | nil => intro vs h _; cases h; exact .nil
  | cons s r ih =>
    intro vs h hi
    have hr : ∀ i ∈ rowIds1 r, i ∈ ids := fun i h' => hi i (by cases s <;> simp [rowIds1, h'])
    cases h with
    | cons h0 h00 h1 h2 =>
      refine .cons ?_ h00 (rowToDat_rel g h1 go (fun id hid j b hj => ?_)) (ih h2 hr)
      · unfold rowToDat
        split
        · split <;> rfl
        · exact h0
      · subst hid
        obtain ⟨h3, h4⟩ := hd j b hj
        exact ⟨fun e => h3 (e ▸ hi id (by simp [rowIds1])), h4⟩
    | arr h1 h2 => exact .arr h1 (ih h2 hr)

theorem rowIds_free {H : List (Nat × HS E.T)} {S : Nat → Prop} : ∀ {cs : List (SV E.T)} {vs : List Value}, RelC E H σ w S cs vs → ∀ i ∈ rowIds1 cs, look H i ≠ .free := by
  intro cs
  induction cs with
  | nil => intro vs _ i hi; simp [rowIds1] at hi
  | cons s r ih =>
    intro vs h i hi
    cases h with
    | cons h0 h00 h1 h2 =>
      cases s <;> simp only [rowIds1, List.mem_cons] at hi <;> try exact ih h2 i hi
      rcases hi with rfl | hi
      · cases h1 <;> assumption
      · exact ih h2 i hi
    | arr h1 h2 => exact ih h2 i hi

end
end Go.Vg
