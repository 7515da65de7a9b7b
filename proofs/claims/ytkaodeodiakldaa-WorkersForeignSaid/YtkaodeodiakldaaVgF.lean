/-
  A state's meaning, and how it is kept. Own work; no condition.
-/
import Derived.Test.YtkaodeodiakldaaVgDr
namespace Go.Vg
open Go.RowKit
variable {P : Program} {E : Env}

theorem nodup_key {T : Nat → Type} (H : List (Nat × HS T)) (i : Nat) (h : look H i ≠ .free) : ∃ p ∈ H, p.1 = i := by
  induction H with
  | nil => exact absurd rfl h
  | cons p r ih =>
    simp only [look] at h
    split at h
    · rename_i hb; exact ⟨p, by simp, Nat.eq_of_beq_eq_true hb⟩
    · obtain ⟨q, hq, e⟩ := ih h; exact ⟨q, by simp [hq], e⟩

theorem beq_self (i : Nat) : Nat.beq i i = true := Nat.beq_refl i
theorem beq_ne {i j : Nat} (h : i ≠ j) : Nat.beq i j = false := by
  cases hx : Nat.beq i j
  · rfl
  · exact absurd (Nat.eq_of_beq_eq_true hx) h

theorem look_setH_same {T : Nat → Type} (H : List (Nat × HS T)) (i : Nat) (s : HS T) (h : ∃ p ∈ H, p.1 = i) : look (setH H i s) i = s := by
  induction H with
  | nil => simp at h
  | cons p r ih =>
    by_cases e : p.1 = i
    · have : Nat.beq p.1 i = true := e ▸ beq_self _
      simp [setH, look, this]
    · have hb := beq_ne e
      obtain ⟨q, hq, e'⟩ := h
      simp only [List.mem_cons] at hq
      rcases hq with rfl | hq
      · exact absurd e' e
      · simp only [setH, hb, look]; exact ih ⟨q, hq, e'⟩

theorem look_setH_ne {T : Nat → Type} (H : List (Nat × HS T)) (i j : Nat) (s : HS T) (h : i ≠ j) : look (setH H i s) j = look H j := by
  induction H with
  | nil => rfl
  | cons p r ih =>
    by_cases e : p.1 = i
    · have h1 : Nat.beq p.1 i = true := e ▸ beq_self _
      have h2 : Nat.beq p.1 j = false := beq_ne (by omega)
      simp [setH, look, h1, h2, ih]
    · have hb := beq_ne e
      simp only [setH, hb, look]
      split
      · rfl
      · exact ih

/-- What data may lean on. -/
def sup (E : Env) (B : Nat) (S0 : Nat → Prop) (H : List (Nat × HS E.T)) (σ : Nat → Option Nat) (w : World) : Nat → Prop :=
  fun k => (S0 k ∨ B ≤ k) ∧ k < w.heap.size ∧ ∀ id b, look H id = .live b → σ id ≠ some k

/-- A cell of a map's key or value. -/
def kcell {T : Nat → Type} : SV T → Bool
  | .int _ _ | .bool _ | .str _ | .arr _ _ _ => true
  | _ => false
/-- A value is the datum. -/
def ValIs (E : Env) (e : Nat) (x : E.T e) (v : Value) : Prop := ∀ H σ w S, RelS E H σ w S (oneSV E e x) v
/-- A map's entries. -/
def MapRel (E : Env) (kt vt : Nat) (l : List (E.T kt × E.T vt)) (es : List MapEntry) : Prop :=
  es.length = l.length ∧ ∀ (i : Nat) (p : E.T kt × E.T vt), l[i]? = some p → ∃ en : MapEntry, es[i]? = some en ∧ en.born = i ∧ ValIs E kt p.1 en.key ∧ ValIs E vt p.2 en.val

/-- What the frames below hold: their temporaries; the blocks of their ranges' deferred calls. -/
structure Gv where
  vals : List Value
  ms : List Nat

def jumpC : Ex → Code
  | .normal => .skip
  | .ret => .ret
  | .exit id => .exit id
def phaseS : Nat → LoopState
  | 0 => .ready
  | 1 => .busy
  | _ => .done
/-- The record is as it is told. -/
def LoopIs (E : Env) (L : LoopI) (r : Loop) : Prop :=
  r.tmps.size = L.ntm ∧ rfOf E L.fid L.rid = some (r.params, r.assign, r.body) ∧ r.state = phaseS L.phase ∧ r.pending = L.jump.map jumpC

def BlkRel (E : Env) (B : Nat) (gv : Gv) (H : List (Nat × HS E.T)) (σ : Nat → Option Nat) (w : World) (S : Nat → Prop) (id : Nat) : Blk E.T → Prop
  | .cells t cs => ∃ k arr, σ id = some k ∧ B ≤ k ∧ w.heap[k]? = some (.cells arr t (0, 0)) ∧ RelC E H σ w S cs arr.toList
  | .row e l => E.has e = true ∧ ((σ id = none ∧ l = []) ∨
      ∃ k arr, σ id = some k ∧ B ≤ k ∧ w.heap[k]? = some (.cells arr e (0, 0)) ∧ l.length * E.sz e ≤ arr.size ∧ RelC E H σ w S (l.flatMap (E.enc e)) (arr.toList.take (l.length * E.sz e)))
  | .map kt vt l => E.kok kt = true ∧ E.kok vt = true ∧ ∃ k es, σ id = some k ∧ B ≤ k ∧ w.heap[k]? = some (.map es es.size) ∧ MapRel E kt vt l es.toList
  | .loop L => ∃ k r pre post, σ id = some k ∧ B ≤ k ∧ w.heap[k]? = some (.loop r) ∧ LoopIs E L r ∧ gv.vals = pre ++ (.func (.yield k) #[] #[] :: (r.tmps.toList ++ post)) ∧ post.length = L.soff

/-- A mark among deferred calls. -/
abbrev markD (D : Nat) : Deferred := { target := .collected D, args := #[] }
/-- The state says so of the activation and the world. -/
structure Gam (E : Env) (B : Nat) (S0 : Nat → Prop) (w0 : World) (gv : Gv) (σ : Nat → Option Nat) (st : St E.T) (a : Act) (w : World) : Prop where
  below : Below B w0 w
  hB : B ≤ w.heap.size
  defs : ∃ Ds : List Nat, a.defers = Ds.map markD ∧ (Ds ++ gv.ms).Nodup ∧ ∀ D ∈ Ds ++ gv.ms, (B ≤ D ∧ sup E B S0 st.heap σ w D) ∧ w.heap[D]? = some (.deferred (some []))
  tmp : RelL E st.heap σ w (sup E B S0 st.heap σ w) st.tmps a.tmps.toList
  sav : RelL E st.heap σ w (sup E B S0 st.heap σ w) st.saved gv.vals
  blk : ∀ id b, look st.heap id = .live b → BlkRel E B gv st.heap σ w (sup E B S0 st.heap σ w) id b
  inj : ∀ i j b c k, look st.heap i = .live b → look st.heap j = .live c → σ i = some k → σ j = some k → i = j
  lt : ∀ id, look st.heap id ≠ .free → id < st.next

section
variable {B : Nat} {S0 : Nat → Prop} {w0 : World} {gv : Gv} {σ σ' : Nat → Option Nat} {st : St E.T} {a : Act} {w w' : World}

theorem RelL.len {H : List (Nat × HS E.T)} {S : Nat → Prop} {cs : List (SV E.T)} {vs : List Value} : RelL E H σ w S cs vs → cs.length = vs.length
  | .nil => rfl
  | .cons _ h => by simp [h.len]

theorem RelL.nth {H : List (Nat × HS E.T)} {S : Nat → Prop} {cs : List (SV E.T)} {vs : List Value} : RelL E H σ w S cs vs → ∀ i, RelS E H σ w S (nth cs i) (vs.getD i undef)
  | .nil, i => by simp [Vg.nth]; exact .any _
  | .cons h _, 0 => by simpa [Vg.nth] using h
  | .cons _ h, i + 1 => by simpa [Vg.nth] using h.nth i

theorem RelL.set {H : List (Nat × HS E.T)} {S : Nat → Prop} {cs : List (SV E.T)} {vs : List Value} (h : RelL E H σ w S cs vs) (i : Nat) {s : SV E.T} {v : Value} (hs : RelS E H σ w S s v) :
    RelL E H σ w S (setNth cs i s) (vs.set i v) := by
  induction cs generalizing vs i with
  | nil => cases h; exact .nil
  | cons c cs ih =>
    cases h with
    | cons h1 h2 => cases i with
      | zero => exact .cons hs h2
      | succ i => exact .cons h1 (ih h2 i)

theorem RelL.append {H : List (Nat × HS E.T)} {S : Nat → Prop} {cs cs' : List (SV E.T)} {vs vs' : List Value} : RelL E H σ w S cs vs → RelL E H σ w S cs' vs' → RelL E H σ w S (cs ++ cs') (vs ++ vs')
  | .nil, h => h
  | .cons h1 h2, h => .cons h1 (h2.append h)

theorem svOf_rel {H : List (Nat × HS E.T)} {S : Nat → Prop} (v : Value) : RelS E H σ w S (svOf v) v := by
  unfold svOf
  split <;> first | exact .int _ _ | exact .bool _ | exact .str _ | exact .nils | exact .nilp | exact .nilf | exact .any _

theorem Gam.ev (g : Gam E B S0 w0 gv σ st a w) (o : Operand) : RelS E st.heap σ w (sup E B S0 st.heap σ w) (ev st.tmps o) (a.eval o) := by
  cases o with
  | tmp t =>
    have := g.tmp.nth t
    simpa [Vg.ev, Act.eval] using this
  | const v => exact svOf_rel v
  | global g => exact .any _
  | func f => exact .fn f [] #[] .nil

theorem Gam.put (g : Gam E B S0 w0 gv σ st a w) (d : Option Nat) {s : SV E.T} {v : Value} (h : RelS E st.heap σ w (sup E B S0 st.heap σ w) s v) : Gam E B S0 w0 gv σ (st.put d s) (a.put d v) w := by
  cases d with
  | none => exact g
  | some d =>
    refine ⟨g.below, g.hB, g.defs, ?_, g.sav, g.blk, g.inj, g.lt⟩
    have := g.tmp.set d h
    simpa [St.put, Act.put] using this

/-- A temporary may be told more closely. -/
theorem Gam.set (g : Gam E B S0 w0 gv σ st a w) (d : Nat) {s : SV E.T} (h : RelS E st.heap σ w (sup E B S0 st.heap σ w) s (a.tmps.getD d undef)) : Gam E B S0 w0 gv σ (st.set d s) a w := by
  refine ⟨g.below, g.hB, g.defs, ?_, g.sav, g.blk, g.inj, g.lt⟩
  have := g.tmp.set d h
  have e : a.tmps.toList.set d (a.tmps.getD d undef) = a.tmps.toList := by
    apply List.ext_getElem?
    intro i
    rw [List.getElem?_set]
    split
    · rename_i hi; subst hi
      split
      · rename_i hl; simp at hl; simp [hl]
      · rename_i hl; simp at hl; simp [hl]
    · rfl
  rw [e] at this
  exact this

/-- The state goes on: heap, names and world may change, the frame stands. -/
theorem Gam.move (g : Gam E B S0 w0 gv σ st a w) {H' : List (Nat × HS E.T)} (hw : Below B w0 w') (hB : B ≤ w'.heap.size)
    (go : Goes E st.heap σ w (sup E B S0 st.heap σ w) H' σ' w' (sup E B S0 H' σ' w'))
    (blk : ∀ id b, look H' id = .live b → BlkRel E B gv H' σ' w' (sup E B S0 H' σ' w') id b)
    (inj : ∀ i j b c k, look H' i = .live b → look H' j = .live c → σ' i = some k → σ' j = some k → i = j)
    (lt : ∀ id, look H' id ≠ .free → id < st.next) :
    Gam E B S0 w0 gv σ' { st with heap := H' } a w' :=
  ⟨hw, hB, (let ⟨Ds, h1, h2, h3⟩ := g.defs; ⟨Ds, h1, h2, fun D hD => ⟨⟨(h3 D hD).1.1, (go.sup D (h3 D hD).1.2).1⟩, (go.sup D (h3 D hD).1.2).2.trans (h3 D hD).2⟩⟩), g.tmp.goes go, g.sav.goes go, blk, inj, lt⟩

theorem BlkRel.goes {H H' : List (Nat × HS E.T)} {S S' : Nat → Prop} {id : Nat} {b : Blk E.T} (h : BlkRel E B gv H σ w S id b) (go : Goes E H σ w S H' σ' w' S') (hs : σ' id = σ id)
    (hk : ∀ k, σ id = some k → w'.heap[k]? = w.heap[k]?) : BlkRel E B gv H' σ' w' S' id b := by
  cases b with
  | cells t cs =>
    obtain ⟨k, arr, h1, h2, h3, h4⟩ := h
    exact ⟨k, arr, hs.trans h1, h2, (hk k h1).trans h3, h4.goes go⟩
  | row e l =>
    obtain ⟨h0, h⟩ := h
    refine ⟨h0, ?_⟩
    rcases h with ⟨h1, h2⟩ | ⟨k, arr, h1, h2, h3, h4, h5⟩
    · exact .inl ⟨hs.trans h1, h2⟩
    · exact .inr ⟨k, arr, hs.trans h1, h2, (hk k h1).trans h3, h4, h5.goes go⟩
  | map kt vt l =>
    obtain ⟨h0, h00, k, es, h1, h2, h3, h4⟩ := h
    exact ⟨h0, h00, k, es, hs.trans h1, h2, (hk k h1).trans h3, h4⟩
  | loop L =>
    obtain ⟨k, r, pre, post, h1, h2, h3, h4, h5⟩ := h
    exact ⟨k, r, pre, post, hs.trans h1, h2, (hk k h1).trans h3, h4, h5⟩

theorem kill_live {T : Nat → Type} {H : List (Nat × HS T)} {id : Nat} {j : Nat} {b : Blk T} (hj : look (setH H id .dead) j = .live b) : j ≠ id ∧ look H j = .live b := by
  by_cases e : id = j
  · subst e
    exfalso
    by_cases hf : look H id = .free
    · have : look (setH H id .dead) id = .free ∨ look (setH H id .dead) id = .dead := by
        clear hj
        induction H with
        | nil => left; rfl
        | cons p r ih =>
          by_cases e : p.1 = id
          · have h1 : Nat.beq p.1 id = true := e ▸ beq_self _
            right; simp [setH, look, h1]
          · have hb := beq_ne e
            simp only [look, hb] at hf
            simpa only [setH, look, hb] using ih hf
      rcases this with h | h <;> rw [h] at hj <;> cases hj
    · rw [look_setH_same _ _ _ (nodup_key _ _ hf)] at hj; cases hj
  · rw [look_setH_ne _ _ _ _ e] at hj; exact ⟨fun h => e h.symm, hj⟩

theorem look_kill {T : Nat → Type} {H : List (Nat × HS T)} {id : Nat} {j : Nat} (hj : look H j ≠ .free) : look (setH H id .dead) j ≠ .free := by
  by_cases e : id = j
  · subst e; rw [look_setH_same _ _ _ (nodup_key _ _ hj)]; simp
  · rwa [look_setH_ne _ _ _ _ e]

theorem goes_kill (E : Env) (B : Nat) (S0 : Nat → Prop) (H : List (Nat × HS E.T)) (σ : Nat → Option Nat) (w : World) (id : Nat) :
    Goes E H σ w (sup E B S0 H σ w) (setH H id .dead) σ w (sup E B S0 (setH H id .dead) σ w) :=
  ⟨fun _k hk => ⟨⟨hk.1, hk.2.1, fun j b hj => hk.2.2 j b (kill_live hj).2⟩, rfl⟩, fun _j hj => ⟨look_kill hj, rfl⟩, fun _j _e l _hj hr => ⟨l, (kill_live hr).2, rfl, fun _k arr _ h => ⟨arr, h, rfl⟩⟩⟩

/-- A name is given up. -/
theorem Gam.kill (g : Gam E B S0 w0 gv σ st a w) (id : Nat) (hid : look st.heap id ≠ .free) : Gam E B S0 w0 gv σ (st.setBlk id .dead) a w := by
  have hl : look (setH st.heap id .dead) id = .dead := look_setH_same _ _ _ (nodup_key _ _ hid)
  have hne : ∀ j b, look (setH st.heap id .dead) j = .live b → j ≠ id ∧ look st.heap j = .live b := fun j b hj => by
    by_cases e : id = j
    · subst e; rw [hl] at hj; cases hj
    · rw [look_setH_ne _ _ _ _ e] at hj; exact ⟨fun h => e h.symm, hj⟩
  have go : Goes E st.heap σ w (sup E B S0 st.heap σ w) (setH st.heap id .dead) σ w (sup E B S0 (setH st.heap id .dead) σ w) := by
    refine ⟨fun k hk => ⟨⟨hk.1, hk.2.1, fun j b hj => hk.2.2 j b (hne j b hj).2⟩, rfl⟩, fun j hj => ⟨?_, rfl⟩, fun j e l hj hr => ⟨l, (hne j _ hr).2, rfl, fun k arr _ h => ⟨arr, h, rfl⟩⟩⟩
    by_cases e : id = j
    · subst e; rw [hl]; simp
    · rwa [look_setH_ne _ _ _ _ e]
  refine g.move g.below g.hB go (fun j b hj => (g.blk j b (hne j b hj).2).goes go rfl (fun _ _ => rfl)) (fun i j b c k hi hj => g.inj i j b c k (hne i b hi).2 (hne j c hj).2) (fun j hj => ?_)
  by_cases e : id = j
  · subst e; exact g.lt _ hid
  · rw [look_setH_ne _ _ _ _ e] at hj; exact g.lt _ hj

theorem heap_alloc_at (w : World) (o : Obj) : (w.alloc o).heap[w.heap.size]? = some o := by
  show (w.heap.push o)[w.heap.size]? = _
  simp

/-- A new object under a fresh name. -/
theorem Gam.allocO (g : Gam E B S0 w0 gv σ st a w) (id : Nat) (hid : look st.heap id = .free) (hk : ∃ p ∈ st.heap, p.1 = id) (hlt : id < st.next) (o : Obj) (b : Blk E.T)
    (hb : ∀ H' σ' w' S', Goes E st.heap σ w (sup E B S0 st.heap σ w) H' σ' w' S' → σ' id = some w.heap.size → w'.heap[w.heap.size]? = some o → BlkRel E B gv H' σ' w' S' id b) :
    ∃ σ', σ' id = some w.heap.size ∧ (w.alloc o).heap[w.heap.size]? = some o ∧ look (setH st.heap id (.live b)) id = .live b ∧
      Goes E st.heap σ w (sup E B S0 st.heap σ w) (setH st.heap id (.live b)) σ' (w.alloc o) (sup E B S0 (setH st.heap id (.live b)) σ' (w.alloc o)) ∧
      Gam E B S0 w0 gv σ' (st.setBlk id (.live b)) a (w.alloc o) := by
  let σ' : Nat → Option Nat := fun j => if j = id then some w.heap.size else σ j
  have hs : σ' id = some w.heap.size := by simp [σ']
  have hso : ∀ j, j ≠ id → σ' j = σ j := fun j hj => by simp [σ', hj]
  have hl : look (setH st.heap id (.live b)) id = .live b := look_setH_same _ _ _ hk
  have ho : ∀ j, j ≠ id → look (setH st.heap id (.live b)) j = look st.heap j := fun j hj => look_setH_ne _ _ _ _ (fun h => hj h.symm)
  have hold : ∀ k, k < w.heap.size → (w.alloc o).heap[k]? = w.heap[k]? := fun k hk => Go.RowKit.Below.heap_alloc _ _ _ hk
  have hblt : ∀ j c k, look st.heap j = .live c → σ j = some k → k < w.heap.size := fun j c k hj hk => by
    have := g.blk j c hj
    cases c with
    | cells t cs => obtain ⟨k', arr, h1, _, h3, _⟩ := this; rw [hk] at h1; cases h1; exact (Array.getElem?_eq_some_iff.1 h3).1
    | row e l =>
      rcases this.2 with ⟨h1, _⟩ | ⟨k', arr, h1, _, h3, _⟩
      · rw [hk] at h1; cases h1
      · rw [hk] at h1; cases h1; exact (Array.getElem?_eq_some_iff.1 h3).1
    | map kt vt l => obtain ⟨_, _, k', es, h1, _, h3, _⟩ := this; rw [hk] at h1; cases h1; exact (Array.getElem?_eq_some_iff.1 h3).1
    | loop L => obtain ⟨k', r, _, _, h1, _, h3, _⟩ := this; rw [hk] at h1; cases h1; exact (Array.getElem?_eq_some_iff.1 h3).1
  have go : Goes E st.heap σ w (sup E B S0 st.heap σ w) (setH st.heap id (.live b)) σ' (w.alloc o) (sup E B S0 (setH st.heap id (.live b)) σ' (w.alloc o)) := by
    refine ⟨fun k hk => ⟨⟨hk.1, by have := hk.2.1; simp; omega, fun j c hj => ?_⟩, hold k hk.2.1⟩, fun j hj => ?_, fun j e l hj hr => ?_⟩
    · by_cases e : j = id
      · subst e; rw [hs]; intro h; cases h; exact absurd hk.2.1 (Nat.lt_irrefl _)
      · rw [hso j e]; rw [ho j e] at hj; exact hk.2.2 j c hj
    · have e : j ≠ id := fun e => hj (e ▸ hid)
      exact ⟨by rwa [ho j e], hso j e⟩
    · have e : j ≠ id := fun e => hj (e ▸ hid)
      rw [ho j e] at hr
      refine ⟨l, hr, rfl, fun k arr' _ h => ⟨arr', ?_, rfl⟩⟩
      rw [hold k (Array.getElem?_eq_some_iff.1 h).1]; exact h
  refine ⟨σ', hs, heap_alloc_at w _, hl, go, ?_⟩
  refine g.move (g.below.alloc g.hB _) (by have := g.hB; simp; omega) go (fun j c hj => ?_) (fun i j c c' k hi hj h1 h2 => ?_) (fun j hj => ?_)
  · by_cases e : j = id
    · subst e; rw [hl] at hj; cases hj; exact hb _ _ _ _ go hs (heap_alloc_at w _)
    · rw [ho j e] at hj
      exact (g.blk j c hj).goes go (hso j e) (fun k hk => hold k (hblt j c k hj hk))
  · by_cases e1 : i = id
    · by_cases e2 : j = id
      · rw [e1, e2]
      · subst e1; rw [hs] at h1; cases h1; rw [hso j e2] at h2; rw [ho j e2] at hj
        exact absurd (hblt j c' _ hj h2) (Nat.lt_irrefl _)
    · by_cases e2 : j = id
      · subst e2; rw [hs] at h2; cases h2; rw [hso i e1] at h1; rw [ho i e1] at hi
        exact absurd (hblt i c _ hi h1) (Nat.lt_irrefl _)
      · rw [hso i e1] at h1; rw [hso j e2] at h2; rw [ho i e1] at hi; rw [ho j e2] at hj
        exact g.inj i j c c' k hi hj h1 h2
  · by_cases e : j = id
    · subst e; exact hlt
    · rw [ho j e] at hj; exact g.lt _ hj

/-- A new block under a fresh name: what is to be shown of its content is asked in the new state. -/
theorem Gam.alloc (g : Gam E B S0 w0 gv σ st a w) (id : Nat) (hid : look st.heap id = .free) (hk : ∃ p ∈ st.heap, p.1 = id) (hlt : id < st.next) (arr : Array Value) (t : Nat) (b : Blk E.T)
    (hb : ∀ H' σ' w' S', Goes E st.heap σ w (sup E B S0 st.heap σ w) H' σ' w' S' → σ' id = some w.heap.size → w'.heap[w.heap.size]? = some (.cells arr t (0, 0)) → BlkRel E B gv H' σ' w' S' id b) :
    ∃ σ', σ' id = some w.heap.size ∧ (w.alloc (.cells arr t)).heap[w.heap.size]? = some (.cells arr t (0, 0)) ∧ look (setH st.heap id (.live b)) id = .live b ∧
      Goes E st.heap σ w (sup E B S0 st.heap σ w) (setH st.heap id (.live b)) σ' (w.alloc (.cells arr t)) (sup E B S0 (setH st.heap id (.live b)) σ' (w.alloc (.cells arr t))) ∧
      Gam E B S0 w0 gv σ' (st.setBlk id (.live b)) a (w.alloc (.cells arr t)) := g.allocO id hid hk hlt (.cells arr t) b hb

end
end Go.Vg
