/-
  A function is left: the blocks of its ranges' deferred calls are shut. Own work; no condition.
-/
import Derived.Test.YtkaodeodiakldaaVgO
namespace Go.Vg
open Go.RowKit
variable {P : Program} {E : Env}

/-- Cells and maps. -/
def isLean : Obj → Bool
  | .cells _ _ _ => true
  | .map _ _ => true
  | _ => false
/-- Whatever is cells or a map lies as it lay. -/
def Kept (w w' : World) : Prop := ∀ (k : Nat) (o : Obj), w.heap[k]? = some o → isLean o = true → w'.heap[k]? = some o

theorem Kept.cell {w w' : World} (h : Kept w w') {a : Addr} {v : Value} (hc : w.cell? a = some v) : w'.cell? a = some v := by
  unfold World.cell? at hc ⊢
  split at hc
  · rename_i c e fz hh
    rw [h _ _ hh rfl]
    exact hc
  · cases hc

section
variable {H : List (Nat × HS E.T)} {σ : Nat → Option Nat} {w w' : World} {S : Nat → Prop}
mutual
theorem RelS.turn (t : Kept w w') {s : SV E.T} {v : Value} : RelS E H σ w S s v → RelS E H σ w' S s v
  | .any v => .any v
  | .int k n => .int k n
  | .bool b => .bool b
  | .str s => .str s
  | .nilp => .nilp
  | .nilf => .nilf
  | .nils => .nils
  | .ptr id off k h1 h2 => .ptr id off k h1 h2
  | .aptr id off n i k h1 h2 h3 h4 => .aptr id off n i k h1 h2 h3 h4
  | .row_nil id h1 h2 => .row_nil id h1 h2
  | .row id k n c h1 h2 h3 => .row id k n c h1 h2 (fun e l hl => by
      obtain ⟨h7, hx, hy, arr, h8, h9⟩ := h3 e l hl
      exact ⟨h7, hx, hy, arr, t _ _ h8 rfl, h9⟩)
  | .crow id n k h1 h2 => .crow id n k h1 h2
  | .aslice id off n k h1 h2 => .aslice id off n k h1 h2
  | .yld id k h1 h2 => .yld id k h1 h2
  | .map id k h1 h2 => .map id k h1 h2
  | .rptr id i off k sz h1 h2 h3 h5 => .rptr id i off k sz h1 h2 h3 h5
  | .dat_nil e h => .dat_nil e h
  | .dat e l a c vss h0 h1 h2 h3 h4 => .dat e l a c vss h0 h1 h2 (fun i x hx => RelC.turn t (h3 i x hx)) (fun i x hx j v hv => t.cell (h4 i x hx j v hv))
  | .eptr e l i off a vss h0 b1 b2 h1 h3 h4 => .eptr e l i off a vss h0 b1 b2 h1 (fun i x hx => RelC.turn t (h3 i x hx)) (fun i x hx j v hv => t.cell (h4 i x hx j v hv))
  | .aeptr e l i off n j a vss h0 b1 b2 b3 b4 h1 h3 h4 => .aeptr e l i off n j a vss h0 b1 b2 b3 b4 h1 (fun i x hx => RelC.turn t (h3 i x hx)) (fun i x hx j v hv => t.cell (h4 i x hx j v hv))
  | .mdat kt vt l k es h1 h2 h3 => .mdat kt vt l k es h1 (t _ _ h2 rfl) h3
  | .boxd tt cs off k arr h1 h2 h3 => .boxd tt cs off k arr h1 (t _ _ h2 rfl) (RelC.turn t h3)
  | .fn f caps vs h => .fn f caps vs (RelL.turn t h)
  | .agg cs vs h => .agg cs vs (RelC.turn t h)
  | .tup cs vs h => .tup cs vs (RelL.turn t h)
theorem RelC.turn (t : Kept w w') {cs : List (SV E.T)} {vs : List Value} : RelC E H σ w S cs vs → RelC E H σ w' S cs vs
  | .nil => .nil
  | .cons h0 h00 h1 h2 => .cons h0 h00 (RelS.turn t h1) (RelC.turn t h2)
  | .arr h1 h2 => .arr h1 (RelC.turn t h2)
theorem RelL.turn (t : Kept w w') {cs : List (SV E.T)} {vs : List Value} : RelL E H σ w S cs vs → RelL E H σ w' S cs vs
  | .nil => .nil
  | .cons h1 h2 => .cons (RelS.turn t h1) (RelL.turn t h2)
end
end

section
variable {B : Nat} {S0 : Nat → Prop} {w0 : World} {gv : Gv} {σ : Nat → Option Nat} {st : St E.T} {a : Act} {w w' : World}

theorem sup_size {H : List (Nat × HS E.T)} (hs : w.heap.size ≤ w'.heap.size) {k : Nat} (h : sup E B S0 H σ w k) : sup E B S0 H σ w' k := ⟨h.1, Nat.lt_of_lt_of_le h.2.1 hs, h.2.2⟩

theorem RelS.supTurn {H : List (Nat × HS E.T)} (hs : w.heap.size = w'.heap.size) (t : Kept w w') {s : SV E.T} {v : Value} (h : RelS E H σ w (sup E B S0 H σ w) s v) : RelS E H σ w' (sup E B S0 H σ w') s v := by
  have e : sup E B S0 H σ w = sup E B S0 H σ w' := by
    funext k; simp only [sup, hs]
  rw [← e]; exact h.turn t
theorem RelL.supTurn {H : List (Nat × HS E.T)} (hs : w.heap.size = w'.heap.size) (t : Kept w w') {s : List (SV E.T)} {v : List Value} (h : RelL E H σ w (sup E B S0 H σ w) s v) : RelL E H σ w' (sup E B S0 H σ w') s v := by
  have e : sup E B S0 H σ w = sup E B S0 H σ w' := by
    funext k; simp only [sup, hs]
  rw [← e]; exact h.turn t
theorem RelC.supTurn {H : List (Nat × HS E.T)} (hs : w.heap.size = w'.heap.size) (t : Kept w w') {s : List (SV E.T)} {v : List Value} (h : RelC E H σ w (sup E B S0 H σ w) s v) : RelC E H σ w' (sup E B S0 H σ w') s v := by
  have e : sup E B S0 H σ w = sup E B S0 H σ w' := by
    funext k; simp only [sup, hs]
  rw [← e]; exact h.turn t

theorem BlkRel.turn {H : List (Nat × HS E.T)} (hs : w.heap.size = w'.heap.size) (t : Kept w w') {id : Nat} {b : Blk E.T} (hl : ∀ k r, σ id = some k → w.heap[k]? = some (.loop r) → w'.heap[k]? = some (.loop r)) (h : BlkRel E B gv H σ w (sup E B S0 H σ w) id b) : BlkRel E B gv H σ w' (sup E B S0 H σ w') id b := by
  cases b with
  | cells ty cs =>
    obtain ⟨k, arr, h1, h2, h3, h4⟩ := h
    exact ⟨k, arr, h1, h2, t _ _ h3 rfl, h4.supTurn hs t⟩
  | row e l =>
    obtain ⟨h0, h⟩ := h
    refine ⟨h0, ?_⟩
    rcases h with h | ⟨k, arr, h1, h2, h3, h4, h5⟩
    · exact .inl h
    · exact .inr ⟨k, arr, h1, h2, t _ _ h3 rfl, h4, h5.supTurn hs t⟩
  | map kt vt l =>
    obtain ⟨h0, h00, k, es, h1, h2, h3, h4⟩ := h
    exact ⟨h0, h00, k, es, h1, h2, t _ _ h3 rfl, h4⟩
  | loop L =>
    obtain ⟨k, r, pre, post, h1, h2, h3, h4, h5⟩ := h
    exact ⟨k, r, pre, post, h1, h2, hl k r h1 h3, h4, h5⟩

theorem fitsH_spec {T : Nat → Type} {sv : List (SV T)} : ∀ {H : List (Nat × HS T)}, fitsH sv H = true → ∀ {id : Nat} {L : LoopI}, look H id = .live (.loop L) → L.ntm + L.soff + 1 ≤ sv.length
  | [], _, id, L, h => by simp [look] at h
  | (i, s) :: r, hf, id, L, h => by
    simp only [fitsH] at hf
    simp only [look] at h
    split at h
    · subst h
      simp only at hf
      split at hf
      · rename_i hb; exact Nat.le_of_ble_eq_true hb
      · cases hf
    · refine fitsH_spec (H := r) ?_ h
      split at hf
      · split at hf
        · split at hf
          · exact hf
          · cases hf
        · exact hf
      · exact hf

/-- A frame comes above: what is told of the blocks stands. -/
theorem BlkRel.push {H : List (Nat × HS E.T)} {S : Nat → Prop} {id : Nat} {b : Blk E.T} (x : List Value) (ms : List Nat) (h : BlkRel E B gv H σ w S id b) : BlkRel E B ⟨x ++ gv.vals, ms⟩ H σ w S id b := by
  cases b with
  | loop L =>
    obtain ⟨k, r, pre, post, h1, h2, h3, h4, h5, h6⟩ := h
    exact ⟨k, r, x ++ pre, post, h1, h2, h3, h4, by simp [h5], h6⟩
  | _ => exact h
theorem app_suffix {α : Type} {x g pre s : List α} (h : x ++ g = pre ++ s) (hl : s.length ≤ g.length) : ∃ pre', g = pre' ++ s := by
  refine ⟨g.take (g.length - s.length), ?_⟩
  have h1 : (x ++ g).drop (x ++ g).length.pred.succ = [] ∨ True := .inr trivial
  have e : s = g.drop (g.length - s.length) := by
    have h2 : (pre ++ s).drop pre.length = s := List.drop_left' rfl
    have hlen : x.length + g.length = pre.length + s.length := by have := congrArg List.length h; simpa using this
    rw [← h, List.drop_append] at h2
    rw [List.drop_of_length_le (by omega : x.length ≤ pre.length), List.nil_append] at h2
    rw [← show pre.length - x.length = g.length - s.length by omega]
    exact h2.symm
  conv => lhs; rw [← List.take_append_drop (g.length - s.length) g]
  rw [← e]
theorem BlkRel.pop {H : List (Nat × HS E.T)} {S : Nat → Prop} {id : Nat} {b : Blk E.T} {x : List Value} {ms : List Nat} {sv : List (SV E.T)} (h : BlkRel E B ⟨x ++ gv.vals, ms⟩ H σ w S id b) (hb : look H id = .live b) (hf : fitsH sv H = true) (hl : sv.length = gv.vals.length) : BlkRel E B gv H σ w S id b := by
  cases b with
  | loop L =>
    obtain ⟨k, r, pre, post, h1, h2, h3, h4, h5, h6⟩ := h
    have hfit := fitsH_spec hf hb
    have hsz := h4.1
    obtain ⟨pre', h7⟩ := app_suffix h5 (by simp; omega)
    exact ⟨k, r, pre', post, h1, h2, h3, h4, h7, h6⟩
  | _ => exact h

theorem RelL.take {H : List (Nat × HS E.T)} {S : Nat → Prop} {cs : List (SV E.T)} {vs : List Value} (h : RelL E H σ w S cs vs) (n : Nat) : RelL E H σ w S (cs.take n) (vs.take n) := by
  induction n generalizing cs vs with
  | zero => simp; exact .nil
  | succ n ih => cases h with
    | nil => simp; exact .nil
    | cons h1 h2 => exact .cons h1 (ih h2)

theorem RelL.drop {H : List (Nat × HS E.T)} {S : Nat → Prop} {cs : List (SV E.T)} {vs : List Value} (h : RelL E H σ w S cs vs) (n : Nat) : RelL E H σ w S (cs.drop n) (vs.drop n) := by
  induction n generalizing cs vs with
  | zero => simpa using h
  | succ n ih => cases h with
    | nil => simp; exact .nil
    | cons h1 h2 => simpa using ih h2

/-- A frame of its own is laid over the state's. -/
theorem Gam.push (g : Gam E B S0 w0 gv σ st a w) {Ds : List Nat} (hn : (Ds ++ gv.ms).Nodup) (hm : ∀ D ∈ Ds ++ gv.ms, (B ≤ D ∧ sup E B S0 st.heap σ w D) ∧ w.heap[D]? = some (.deferred (some [])))
    {tm : List (SV E.T)} {vals : Array Value} (hv : RelL E st.heap σ w (sup E B S0 st.heap σ w) tm vals.toList) :
    Gam E B S0 w0 ⟨a.tmps.toList ++ gv.vals, Ds ++ gv.ms⟩ σ { tmps := tm, heap := st.heap, next := st.next, saved := st.tmps ++ st.saved } { tmps := vals, defers := [] } w :=
  ⟨g.below, g.hB, ⟨[], rfl, hn, hm⟩, hv, g.tmp.append g.sav, fun id b hb => (g.blk id b hb).push _ _, g.inj, g.lt⟩

/-- It is taken off. -/
theorem Gam.pop {Ds : List Nat} {σ2 : Nat → Option Nat} {st2 : St E.T} {a2 : Act} {w2 : World} (g2 : Gam E B S0 w0 ⟨a.tmps.toList ++ gv.vals, Ds ++ gv.ms⟩ σ2 st2 a2 w2) (hd : a.defers = Ds.map markD) {n : Nat} (hn : n = a.tmps.toList.length)
    (hf : fitsH (st2.saved.drop n) st2.heap = true) : Gam E B S0 w0 gv σ2 { tmps := st2.saved.take n, heap := st2.heap, next := st2.next, saved := st2.saved.drop n } a w2 := by
  subst hn
  obtain ⟨Ds2, _, h2, h3⟩ := g2.defs
  have hs := g2.sav
  have h4 := hs.take a.tmps.toList.length
  have h5 := hs.drop a.tmps.toList.length
  simp only [List.take_left'] at h4
  simp only [List.drop_left'] at h5
  refine ⟨g2.below, g2.hB, ⟨Ds, hd, (List.nodup_append.1 h2).2.1, fun D hD => h3 D (List.mem_append_right _ hD)⟩, h4, h5, fun id b hb => (g2.blk id b hb).pop hb hf h5.len, g2.inj, g2.lt⟩

/-- The marks are taken, one by one. -/
theorem leave_marks {fn : Func} {tmps : Array Value} {R : Ending → World → Prop} : ∀ (Ds : List Nat) (w : World), Ds.Nodup → (∀ D ∈ Ds, w.heap[D]? = some (.deferred (some []))) →
    (∀ w', w'.os = w.os → w'.tape = w.tape → w'.output = w.output → w'.heap.size = w.heap.size → w'.drawn = w.drawn → (∀ k, k ∉ Ds → w'.heap[k]? = w.heap[k]?) → ∃ v, (results fn tmps).run P w' = .ok v w' ∧ R (.returned v) w') →
    LeavesInM (Fr none) 0 P fn tmps R (Ds.map markD) .returning w
  | [], w, _, _, h => by
    obtain ⟨v, h1, h2⟩ := h w rfl rfl rfl rfl rfl (fun _ _ => rfl)
    exact ⟨v, h1, h2⟩
  | D :: r, w, hn, hd, h => by
    rw [List.nodup_cons] at hn
    refine ⟨by simp, .inl ⟨D, _, rfl, run_takeDeferred (hd D (by simp)), ?_⟩⟩
    refine leave_marks r _ hn.2 (fun D' hD' => ?_) (fun w' h1 h2 h3 h4 h6 h5 => ?_)
    · rw [World.putObj_heap_other (fun e => hn.1 (by subst e; exact hD'))]; exact hd D' (by simp [hD'])
    · refine h w' h1 h2 h3 (h4.trans World.putObj_size) h6 (fun k hk => ?_)
      simp only [List.mem_cons, not_or] at hk
      rw [h5 k hk.2, World.putObj_heap_other hk.1]

/-- A function that is left: its results are read when the marks are taken. -/
theorem leave_ok (g : Gam E B S0 w0 gv σ st a w) {fn : Func} {R : Ending → World → Prop} (h : ∀ w', Gam E B S0 w0 gv σ st { a with defers := [] } w' → ∃ v, (results fn a.tmps).run P w' = .ok v w' ∧ R (.returned v) w') :
    LeavesInM (Fr none) 0 P fn a.tmps R a.defers .returning w := by
  obtain ⟨Ds, h1, h2, h3⟩ := g.defs
  rw [h1]
  have hnd := List.nodup_append.1 h2
  refine leave_marks Ds w hnd.1 (fun D hD => (h3 D (List.mem_append_left _ hD)).2) (fun w' e1 e2 e3 e4 e6 e5 => h w' ?_)
  have t : Kept w w' := fun k o ho hd => by
    rw [e5 k (fun hk => by rw [(h3 k (List.mem_append_left _ hk)).2] at ho; cases ho; cases hd)]; exact ho
  have hs := e4.symm
  refine ⟨⟨e1.trans g.below.os, e2.trans g.below.tape, e3.trans g.below.output, by rw [e4]; exact g.below.size, fun k hk => ?_, by rw [e6]; exact g.below.dr⟩, by rw [e4]; exact g.hB, ⟨[], rfl, hnd.2.1, fun D hD => ?_⟩, g.tmp.supTurn hs t, g.sav.supTurn hs t, fun id b hb => (g.blk id b hb).turn hs t (fun k r _ hr => by rw [e5 k (fun hk => by rw [(h3 k (List.mem_append_left _ hk)).2] at hr; cases hr)]; exact hr), g.inj, g.lt⟩
  · rw [e5 k (fun hk' => by have := (h3 k (List.mem_append_left _ hk')).1.1; omega)]; exact g.below.block k hk
  · have hD' : D ∈ gv.ms := by simpa using hD
    obtain ⟨h4, h5⟩ := h3 D (List.mem_append_right _ hD')
    refine ⟨⟨h4.1, sup_size (by omega) h4.2⟩, ?_⟩
    rw [e5 D (fun hk => hnd.2.2 D hk D hD' rfl)]; exact h5
end
end Go.Vg
