/-
  The executor is right: calls. Own work; no condition.
-/
import Derived.Test.YtkaodeodiakldaaVgTu
namespace Go.Vg
open Go.RowKit
variable {P : Program} {E : Env}
section
variable {B : Nat} {S0 : Nat → Prop} {w0 : World} {gv : Gv} {σ : Nat → Option Nat} {st : St E.T} {a : Act} {w w' : World}

theorem RelL.rep {H : List (Nat × HS E.T)} {S : Nat → Prop} {s : SV E.T} {v : Value} (h : RelS E H σ w S s v) : ∀ n, RelL E H σ w S (List.replicate n s) (List.replicate n v)
  | 0 => .nil
  | n + 1 => by rw [List.replicate_succ, List.replicate_succ]; exact .cons h (rep h n)

theorem undef_rel {H : List (Nat × HS E.T)} {S : Nat → Prop} : RelS E H σ w S (.tup []) undef := .tup [] #[] .nil

/-- One result. -/
def resF (tmps : Array Value) : ResultVar → Sem Value
  | .tmp t => pure (tmps.getD t undef)
  | .cell c t => do loadVar t (← asAddr (tmps.getD c undef))

theorem results_eq (fn : Func) (tmps : Array Value) : results fn tmps = ((List.toArray <$> fn.results.toList.mapM (resF tmps)) >>= fun vs => pure (if h : vs.size = 1 then vs[0] else .tuple vs)) := by
  unfold results
  rw [Array.mapM_eq_mapM_toList]
  rfl

theorem res_run (tab : TabOk P E) (g : Gam E B S0 w0 gv σ st a w) : ∀ (rs : List ResultVar) {vs : List (SV E.T)}, resB E st.heap st.tmps rs = some vs →
    ∃ us, (rs.mapM (resF a.tmps)).run P w = .ok us w ∧ RelL E st.heap σ w (sup E B S0 st.heap σ w) vs us := by
  intro rs
  induction rs with
  | nil => intro vs h; simp [resB] at h; subst h; exact ⟨[], by simp [List.mapM_nil], .nil⟩
  | cons r rs ih =>
    intro vs h
    cases r with
    | tmp t =>
      simp only [resB] at h
      obtain ⟨vs', hv, rfl⟩ := Option.map_eq_some_iff.1 h
      obtain ⟨us, h1, h2⟩ := ih hv
      have := g.tmp.nth t
      refine ⟨a.tmps.getD t undef :: us, ?_, .cons (by simpa using this) h2⟩
      rw [List.mapM_cons]
      simp only [Sem.run_bind, resF, Sem.run_pure, Result.andThen_ok]
      rw [h1]; rfl
    | cell c t =>
      simp only [resB] at h
      split at h
      · rename_i s hs
        obtain ⟨vs', hv, rfl⟩ := Option.map_eq_some_iff.1 h
        obtain ⟨us, h1, h2⟩ := ih hv
        have hx := g.tmp.nth c
        obtain ⟨ad, had, u, hu1, hu2⟩ := loadB_sound tab g hs hx
        refine ⟨u :: us, ?_, .cons hu2 h2⟩
        rw [List.mapM_cons]
        have had' : a.tmps.getD c undef = .pointer (some ad) := by simpa using had
        have hA : asAddr (a.tmps.getD c undef) = pure ad := by rw [had']; rfl
        simp only [Sem.run_bind, resF, hA, Sem.run_pure, Result.andThen_ok, hu1]
        rw [h1]; rfl
      · cases h

theorem tupV_rel {H : List (Nat × HS E.T)} {S : Nat → Prop} {cs : List (SV E.T)} {vs : List Value} (h : RelL E H σ w S cs vs) :
    RelS E H σ w S (tupV cs) (if hh : vs.toArray.size = 1 then vs.toArray[0] else .tuple vs.toArray) := by
  unfold tupV
  split
  · cases h with
    | cons h1 h2 => cases h2; simpa using h1
  · rename_i hne
    have : vs.toArray.size ≠ 1 := fun hs => by
      have hl := h.len
      rcases cs with _ | ⟨c, _ | ⟨c', r⟩⟩
      · simp at hs hl; omega
      · exact hne c rfl
      · simp at hs hl; omega
    rw [dif_neg this]
    exact .tup _ _ (by simpa using h)

theorem results_run (tab : TabOk P E) (g : Gam E B S0 w0 gv σ st a w) {fn : Func} {vs : List (SV E.T)} (h : resB E st.heap st.tmps fn.results.toList = some vs) :
    ∃ v, (results fn a.tmps).run P w = .ok v w ∧ RelS E st.heap σ w (sup E B S0 st.heap σ w) (tupV vs) v := by
  obtain ⟨us, h1, h2⟩ := res_run tab g _ h
  refine ⟨_, ?_, tupV_rel h2⟩
  rw [results_eq]
  simp only [Sem.run_bind, Sem.run_map, h1, Result.andThen_ok, Sem.run_pure]

/-- What a call brings about. -/
def CallQ (E : Env) (B : Nat) (S0 : Nat → Prop) (w0 : World) (gv : Gv) (a : Act) (K : SV E.T → St E.T → Prop) : Ending → World → Prop :=
  fun e w' => ∃ v s st' σ', e = .returned v ∧ Gam E B S0 w0 gv σ' st' a w' ∧ RelS E st'.heap σ' w' (sup E B S0 st'.heap σ' w') s v ∧ K s st'

theorem rule_end (g : Gam E B S0 w0 gv σ st a w) {ids : List Nat} (hids : ∀ i ∈ ids, look st.heap i ≠ .free) (hb : Below w.heap.size w w') {s : SV E.T} {v : Value} (hd : isDataV s = true)
    (hr : RelS E [] (fun _ => none) w' (fun k => sup E B S0 (st.upds (deads ids)).heap σ w k ∨ (w.heap.size ≤ k ∧ k < w'.heap.size)) s v) {K : SV E.T → St E.T → Prop}
    (hk : K s (match flatV s with | true => st | false => st.upds (deads ids))) : CallQ E B S0 w0 gv a K (.returned v) w' := by
  obtain ⟨g1, go1, hlive, _, _, _, _, _⟩ := g.deads ids hids
  cases hf : flatV s with
  | true =>
    rw [hf] at hk
    exact ⟨v, s, st, σ, rfl, (g.below_call hb).1, flat_any hr hf, hk⟩
  | false =>
    rw [hf] at hk
    obtain ⟨g2, go2, h3⟩ := g1.below_call hb
    exact ⟨v, s, _, σ, rfl, g2, (hr.dataV (H' := (st.upds (deads ids)).heap) (σ' := σ) hd).goes (goes_more (fun k hk => ⟨h3 k hk, rfl⟩) (fun k _ => rfl)), hk⟩

theorem frzB_live {H : List (Nat × HS E.T)} {ids : List Nat} {s : HS E.T} {b : Blk E.T} (h : frzB E H ids s = .live b) : ∃ c, s = .live c ∧ (match c with | .cells t cs => b = .cells t (cs.map (frz1S E H ids)) | .row e l => b = .row e l | .map kt vt l => b = .map kt vt l | .loop L => b = .loop L) := by
  unfold frzB at h
  split at h
  · split at h
    · cases h; exact ⟨_, rfl, rfl⟩
    · cases h; exact ⟨_, rfl, rfl⟩
    · cases h; exact ⟨_, rfl, rfl⟩
    · cases h; exact ⟨_, rfl, rfl⟩
  · rename_i s' hs; subst h; exact absurd rfl (hs b)

theorem look_frz (H0 : List (Nat × HS E.T)) (ids : List Nat) : ∀ (H : List (Nat × HS E.T)) (i : Nat), look (H.map (frzP E H0 ids)) i = frzB E H0 ids (look H i)
  | [], i => rfl
  | p :: r, i => by
    simp only [List.map_cons, look, frzP]
    split
    · rfl
    · exact look_frz H0 ids r i

theorem frzB_free {H : List (Nat × HS E.T)} {ids : List Nat} {s : HS E.T} (h : s ≠ .free) : frzB E H ids s ≠ .free := by
  unfold frzB
  split
  · split <;> simp
  · exact h

theorem forceSt_id {T : Nat → Type} (st : St T) : forceSt st id = st := by rw [forceSt_eq]; rfl

/-- Names given up, and what they stood for told as data from then on. -/
theorem Gam.frz (tab : TabOk P E) (g : Gam E B S0 w0 gv σ st a w) (ids : List Nat) (hids : ∀ i ∈ ids, look st.heap i ≠ .free) :
    Gam E B S0 w0 gv σ (St.frz E st ids) a w ∧ (∀ k, sup E B S0 (st.upds (Vg.deads ids)).heap σ w k → sup E B S0 (St.frz E st ids).heap σ w k) := by
  unfold St.frz
  split
  · exact ⟨g, fun k h => h⟩
  · rename_i i0 r0
    rw [forceSt_id]
    generalize hI : i0 :: r0 = ids at *
    obtain ⟨g1, go1, hl1, hl2, htm, hnx, hsv, _⟩ := g.deads ids hids
    unfold St.frz1
    have hlook : ∀ i, look (((st.upds (Vg.deads ids)).heap).map (frzP E st.heap ids)) i = frzB E st.heap ids (look (st.upds (Vg.deads ids)).heap i) := look_frz _ _ _
    generalize hH : ((st.upds (Vg.deads ids)).heap).map (frzP E st.heap ids) = H2 at *
    have live2 : ∀ j b, look H2 j = .live b → ∃ c, look (st.upds (Vg.deads ids)).heap j = .live c ∧ (match c with | .cells t cs => b = .cells t (cs.map (frz1S E st.heap ids)) | .row e l => b = .row e l | .map kt vt l => b = .map kt vt l | .loop L => b = .loop L) := fun j b hj => by
      rw [hlook] at hj; exact frzB_live hj
    have hsup : ∀ k, sup E B S0 (st.upds (Vg.deads ids)).heap σ w k → sup E B S0 H2 σ w k := fun k h => ⟨h.1, h.2.1, fun id b hb => by
      obtain ⟨c, hc, _⟩ := live2 id b hb
      exact h.2.2 id c hc⟩
    have go2 : Goes E (st.upds (Vg.deads ids)).heap σ w (sup E B S0 (st.upds (Vg.deads ids)).heap σ w) H2 σ w (sup E B S0 H2 σ w) :=
      ⟨fun k h => ⟨hsup k h, rfl⟩, fun id h => ⟨by rw [hlook]; exact frzB_free h, rfl⟩, fun id e l _ hr => by
        obtain ⟨c, hc, hm⟩ := live2 id _ hr
        cases c with
        | cells t cs => cases hm
        | row e' l' => cases hm; exact ⟨l, hc, rfl, fun k arr _ h => ⟨arr, h, rfl⟩⟩
        | map kt vt l' => cases hm
        | loop L => cases hm⟩
    have go := go1.trans go2
    have hd : ∀ j b, look H2 j = .live b → j ∉ ids ∧ ∃ c, look st.heap j = .live c := fun j b hj => by
      obtain ⟨c, hc, _⟩ := live2 j b hj
      exact ⟨(hl1 j c hc).1, c, (hl1 j c hc).2⟩
    have rc : ∀ {s : SV E.T} {v : Value}, RelS E st.heap σ w (sup E B S0 st.heap σ w) s v → RelS E H2 σ w (sup E B S0 H2 σ w) (frzC E st.heap ids s) v := by
      intro s v h
      unfold frzC
      split
      · exact h.goes go
      · rename_i i r hir
        split
        · rename_i hsub
          exact cv_rel tab g go hd 6 h (fun i hi => subN_spec hsub i (hir ▸ hi))
        · exact h.goes go
    have r1 : ∀ {s : SV E.T} {v : Value}, RelS E st.heap σ w (sup E B S0 st.heap σ w) s v → RelS E H2 σ w (sup E B S0 H2 σ w) (frz1S E st.heap ids s) v := by
      intro s v h
      unfold frz1S
      split
      · rename_i id
        split
        · rename_i hm
          refine rowToDat_rel g h go (fun id' hid j b hj => ?_)
          cases hid
          obtain ⟨h3, h4⟩ := hd j b hj
          exact ⟨fun e => h3 (e ▸ memN_spec.1 hm), h4⟩
        · exact h.goes go
      · exact rc h
      · exact rc h
      · exact h.goes go
    have rC : ∀ {cs : List (SV E.T)} {vs : List Value}, RelC E st.heap σ w (sup E B S0 st.heap σ w) cs vs → RelC E H2 σ w (sup E B S0 H2 σ w) (cs.map (frz1S E st.heap ids)) vs := by
      intro cs
      induction cs with
      | nil => intro vs h; cases h; exact .nil
      | cons s r ih =>
        intro vs h
        cases h with
        | cons h0 h00 h1 h2 =>
          refine .cons ?_ h00 (r1 h1) (ih h2)
          unfold frz1S
          split
          · split
            · unfold rowToDat
              split <;> (try split) <;> first | rfl | exact h0
            · exact h0
          · unfold frzC
            split <;> (try split) <;> first | exact cv_width h0 | exact h0
          · unfold frzC
            split <;> (try split) <;> first | exact cv_width h0 | exact h0
          · exact h0
        | arr h1 h2 => exact .arr h1 (ih h2)
    have rV : ∀ {s : SV E.T} {v : Value}, RelS E st.heap σ w (sup E B S0 st.heap σ w) s v → RelS E H2 σ w (sup E B S0 H2 σ w) (frzV E st.heap ids s) v := by
      intro s v h
      unfold frzV
      split
      · cases h with
        | agg _ us h => exact .agg _ _ (rC h)
      · exact r1 h
    have rL : ∀ {cs : List (SV E.T)} {vs : List Value}, RelL E st.heap σ w (sup E B S0 st.heap σ w) cs vs → RelL E H2 σ w (sup E B S0 H2 σ w) (cs.map (frzV E st.heap ids)) vs := by
      intro cs
      induction cs with
      | nil => intro vs h; cases h; exact .nil
      | cons s r ih =>
        intro vs h
        cases h with
        | cons h1 h2 => exact .cons (rV h1) (ih h2)
    refine ⟨⟨g.below, g.hB, (let ⟨Ds, h1, h2, h3⟩ := g.defs; ⟨Ds, h1, h2, fun D hD => ⟨⟨(h3 D hD).1.1, (go.sup D (h3 D hD).1.2).1⟩, (h3 D hD).2⟩⟩), ?_, ?_, fun id b hb => ?_, fun i j b c k hi hj => ?_, fun id h => ?_⟩, hsup⟩
    · show RelL E H2 σ w _ ((st.upds (Vg.deads ids)).tmps.map _) _
      rw [htm]; exact rL g.tmp
    · show RelL E H2 σ w _ ((st.upds (Vg.deads ids)).saved.map _) _
      rw [hsv]; exact rL g.sav
    · obtain ⟨c, hc, hm⟩ := live2 id b hb
      have hb0 := g.blk id c (hl1 id c hc).2
      cases c with
      | cells t cs =>
        simp only at hm; subst hm
        obtain ⟨k, arr, h1, h2, h3, h4⟩ := hb0
        exact ⟨k, arr, h1, h2, h3, rC h4⟩
      | row e l =>
        simp only at hm; subst hm
        obtain ⟨he, h⟩ := hb0
        refine ⟨he, ?_⟩
        rcases h with h | ⟨k, arr, h1, h2, h3, h4, h5⟩
        · exact .inl h
        · exact .inr ⟨k, arr, h1, h2, h3, h4, h5.goes go⟩
      | map kt vt l =>
        simp only at hm; subst hm
        exact hb0
      | loop L =>
        simp only at hm; subst hm
        exact hb0
    · obtain ⟨c1, hc1, _⟩ := live2 i b hi
      obtain ⟨c2, hc2, _⟩ := live2 j c hj
      exact g1.inj i j c1 c2 k hc1 hc2
    · refine Nat.lt_of_lt_of_eq (g1.lt id ?_) rfl
      intro hf
      refine h ?_
      show look H2 id = .free
      rw [hlook, hf]; rfl

theorem rule_endF (tab : TabOk P E) (g : Gam E B S0 w0 gv σ st a w) {ids : List Nat} (hids : ∀ i ∈ ids, look st.heap i ≠ .free) (hb : Below w.heap.size w w') {s : SV E.T} {v : Value} (hd : isDataV s = true)
    (hr : RelS E [] (fun _ => none) w' (fun k => sup E B S0 (st.upds (deads ids)).heap σ w k ∨ (w.heap.size ≤ k ∧ k < w'.heap.size)) s v) {K : SV E.T → St E.T → Prop}
    (hk : K s (match flatV s with | true => st | false => St.frz E st ids)) : CallQ E B S0 w0 gv a K (.returned v) w' := by
  obtain ⟨g1, hs⟩ := g.frz tab ids hids
  cases hf : flatV s with
  | true =>
    rw [hf] at hk
    exact ⟨v, s, st, σ, rfl, (g.below_call hb).1, flat_any hr hf, hk⟩
  | false =>
    rw [hf] at hk
    obtain ⟨g2, go2, h3⟩ := g1.below_call hb
    exact ⟨v, s, _, σ, rfl, g2, (hr.dataV (H' := (St.frz E st ids).heap) (σ' := σ) hd).goes (goes_more (fun k hk => ⟨h3 k (hk.imp (hs k) id), rfl⟩) (fun k _ => rfl)), hk⟩

theorem rule_endZ (tab : TabOk P E) (g : Gam E B S0 w0 gv σ st a w) {fz : Bool} {ids : List Nat} (hids : ∀ i ∈ ids, look st.heap i ≠ .free) (hb : Below w.heap.size w w') {s : SV E.T} {v : Value} (hd : isDataV s = true)
    (hr : RelS E [] (fun _ => none) w' (fun k => sup E B S0 (st.upds (deads ids)).heap σ w k ∨ (w.heap.size ≤ k ∧ k < w'.heap.size)) s v) {K : SV E.T → St E.T → Prop}
    (hk : K s (match flatV s with | true => st | false => fzSt E fz st ids)) : CallQ E B S0 w0 gv a K (.returned v) w' := by
  cases fz with
  | false => exact rule_end g hids hb hd hr hk
  | true => exact rule_endF tab g hids hb hd hr hk

theorem rule_endK (tab : TabOk P E) (g : Gam E B S0 w0 gv σ st a w) {fz fr : Bool} {ids : List Nat} (hids : ∀ i ∈ ids, look st.heap i ≠ .free) (hb : Below w.heap.size w w') {s : SV E.T} {v : Value} (hd : isDataV s = true)
    (hr : RelS E [] (fun _ => none) w' (fun k => (fr = false ∧ sup E B S0 (st.upds (deads ids)).heap σ w k) ∨ (w.heap.size ≤ k ∧ k < w'.heap.size)) s v) {K : SV E.T → St E.T → Prop}
    (hk : K s (match keepB fr s with | true => st | false => fzSt E fz st ids)) : CallQ E B S0 w0 gv a K (.returned v) w' := by
  cases fr with
  | false => exact rule_endZ tab g hids hb hd (hr.goes (goes_more (fun k hk => ⟨hk.imp And.right id, rfl⟩) (fun k _ => rfl))) hk
  | true =>
    obtain ⟨g2, go2, h3⟩ := g.below_call hb
    exact ⟨v, s, st, σ, rfl, g2, (hr.dataV (H' := st.heap) (σ' := σ) hd).goes (goes_more (fun k hk => ⟨h3 k (.inr (hk.resolve_left (fun h => by cases h.1))), rfl⟩) (fun k _ => rfl)), hk⟩

/-- A call that hands back a row of its own. -/
theorem row_end (g : Gam E B S0 w0 gv σ st a w) (ds : List Nat) (hds : ∀ i ∈ ds, look st.heap i ≠ .free) {fresh : Nat} (hf : Fresh st fresh) (row : Option Nat) {e : Nat} (he : E.has e = true) {v : Value} {l : List (E.T e)} {ys : List Value}
    (hown : w'.ownsRow B e (E.sz e) v l.length ys) (hg : w.grownBy w' row) (hdr : w.drawn ≤ w'.drawn) (hrel : ∀ H σ S', RelC E H σ w' S' (l.flatMap (E.enc e)) ys)
    (hk' : ∀ k, v.ownBlock = some k → row = some k ∨ w.heap.size ≤ k) (hrow : ∀ k, row = some k → B ≤ k ∧ ∃ i b, i ∈ ds ∧ look st.heap i = .live b ∧ σ i = some k) {K : SV E.T → St E.T → Prop}
    (hk : K (.row fresh) (st.upds (deads ds ++ [(fresh, .live (.row e l))]))) : CallQ E B S0 w0 gv a K (.returned v) w' := by
  obtain ⟨σ', h1, h2, h3⟩ := g.replace (l := l) ds hds fresh hf row v.ownBlock hg hdr hrow hk' (fun H' σ' S' go hs => ⟨he, by
    rcases hown.2 with ⟨rfl, h⟩ | ⟨k, cap, cur, rfl, hb, hh, hnc, hcm, hcs, htake⟩
    · exact .inl ⟨by rw [hs]; rfl, List.length_eq_zero_iff.1 h⟩
    · exact .inr ⟨k, cur, by rw [hs]; rfl, hb, hh, by rw [hcs]; exact Nat.mul_le_mul_right _ hnc, by rw [htake]; exact hrel _ _ _⟩⟩)
  refine ⟨v, .row fresh, _, σ', rfl, h3, ?_, hk⟩
  rcases hown.2 with ⟨rfl, h⟩ | ⟨k, cap, cur, rfl, hb, hh, hnc, hcm, hcs, htake⟩
  · exact .row_nil _ (by rw [h2]; simp) h1
  · refine .row _ _ _ _ (by rw [h2]; simp) h1 (fun e' l' hl' => ?_)
    rw [h2] at hl'; cases hl'
    exact ⟨rfl, hnc, hcm, cur, hh, hcs⟩

/-- The heap is looked at by its names alone. -/
theorem Gam.sameLook (g : Gam E B S0 w0 gv σ st a w) {H' : List (Nat × HS E.T)} (hl : ∀ id, look H' id = look st.heap id) : Gam E B S0 w0 gv σ { st with heap := H' } a w := by
  have hs : ∀ k, sup E B S0 st.heap σ w k → sup E B S0 H' σ w k := fun k h => ⟨h.1, h.2.1, fun id b hb => h.2.2 id b (by rw [← hl id]; exact hb)⟩
  have go : Goes E st.heap σ w (sup E B S0 st.heap σ w) H' σ w (sup E B S0 H' σ w) :=
    ⟨fun k h => ⟨hs k h, rfl⟩, fun id h => ⟨by rw [hl id]; exact h, rfl⟩, fun id e l _ hr => ⟨l, by rw [← hl id]; exact hr, rfl, fun k arr _ h => ⟨arr, h, rfl⟩⟩⟩
  exact g.move (H' := H') (σ' := σ) g.below g.hB go (fun id b hb => (g.blk id b (by rw [← hl id]; exact hb)).goes go rfl (fun _ _ => rfl)) (fun i j b c k hi hj => g.inj i j b c k (by rw [← hl i]; exact hi) (by rw [← hl j]; exact hj)) (fun id h => g.lt id (by rw [← hl id]; exact h))

theorem allData_append {T : Nat → Type} : ∀ (a b : List (SV T)), allData (a ++ b) = (allData a && allData b)
  | [], b => rfl
  | x :: r, b => by simp only [List.cons_append, allData, allData_append r b, Bool.and_assoc]

theorem enc_all_data {e : Nat} (he : E.has e = true) (l : List (E.T e)) : allData (l.flatMap (E.enc e)) = true := by
  induction l with
  | nil => rfl
  | cons x r ih => rw [List.flatMap_cons, allData_append, E.enc_data e x he, ih]; rfl

/-- A call that puts other elements into a row. -/
theorem inp_end (g : Gam E B S0 w0 gv σ st a w) {id e : Nat} {l0 l' : List (E.T e)} (hlook : look st.heap id = .live (.row e l0)) {v : Value} (hv : RelS E st.heap σ w (sup E B S0 st.heap σ w) (.row id) v) (he : E.has e = true)
    (hlen : l'.length = l0.length) (hg : w.grownBy w' v.ownBlock) (hdr : w.drawn ≤ w'.drawn) {ys : List Value} (how : w'.ownsRow B e (E.sz e) v l'.length ys)
    (hrel : RelC E [] (fun _ => none) w' (fun k => sup E B S0 st.heap σ w k ∨ (w.heap.size ≤ k ∧ k < w'.heap.size)) (l'.flatMap (E.enc e)) ys) {K : SV E.T → St E.T → Prop} (hk : K (.tup []) (st.setBlk id (.live (.row e l')))) :
    CallQ E B S0 w0 gv a K (.returned (.tuple #[])) w' := by
  have hb := g.blk id _ hlook
  cases hv with
  | row_nil _ h1 h2 =>
    have hl0 : l0 = [] := by
      rcases hb.2 with ⟨_, h3⟩ | ⟨k, arr, h3, _⟩
      · exact h3
      · rw [h2] at h3; cases h3
    have hl' : l' = [] := by rw [hl0] at hlen; exact List.length_eq_zero_iff.1 hlen
    subst hl0 hl'
    obtain ⟨g2, _, _⟩ := g.below_call (w' := w') ⟨hg.os, hg.tape, hg.output, hg.size, fun k hk => hg.block k hk (by simp [Value.ownBlock]), hdr⟩
    refine ⟨_, .tup [], _, σ, rfl, g2.sameLook (H' := setH st.heap id (.live (.row e []))) (fun j => ?_), .tup _ _ .nil, hk⟩
    by_cases hj : j = id
    · subst hj
      rw [hlook]; exact look_setH_same _ _ _ (nodup_key _ _ (by rw [hlook]; simp))
    · exact look_setH_ne _ _ _ _ (fun h => hj h.symm)
  | row _ k n c h1 h2 h3 =>
    obtain ⟨rfl, h5, hc, arr, h8, hcap⟩ := h3 e l0 hlook
    rcases hb.2 with ⟨h6, _⟩ | ⟨k', arr0, h6, h7, h8', h9, h10⟩
    · rw [h2] at h6; cases h6
    rw [h2] at h6; cases h6
    rw [h8] at h8'; cases h8'
    rcases how.2 with ⟨h, _⟩ | ⟨k', cap, cur, hv, _, hh, hnc, hcm, hcs, htake⟩
    · cases h
    injection hv with q1 q2 q3
    injection q1 with q1
    injection q1 with q1 _ _
    subst q1 q3
    have hw1 : (w'.setRow k arr).setRow k cur = w' := by
      have hh2 := setRow_heap w' k cur arr e (0, 0) hh
      have e2 : ∀ j, ((w'.setRow k arr).setRow k cur).heap[j]? = w'.heap[j]? := fun j => by
        by_cases hj : j = k
        · subst hj; rw [setRow_heap _ _ _ _ _ _ hh2, hh]
        · rw [setRow_other _ _ _ _ hj, setRow_other _ _ _ _ hj]
      have e3 : ((w'.setRow k arr).setRow k cur).heap = w'.heap := Array.ext_getElem? e2
      show ({ w'.setRow k arr with heap := ((w'.setRow k arr).setRow k cur).heap } : World) = w'
      rw [e3]
      rfl
    have hs1 : (w'.setRow k arr).heap.size = w'.heap.size := by simp [World.setRow]
    have hbw : Below w.heap.size w (w'.setRow k arr) := by
      refine ⟨hg.os, hg.tape, hg.output, by rw [hs1]; exact hg.size, fun j hj => ?_, hdr⟩
      by_cases hjk : j = k
      · subst hjk; rw [setRow_heap _ _ _ _ _ _ hh, h8]
      · rw [setRow_other _ _ _ _ hjk]; exact hg.block j hj (by simp [Value.ownBlock, hjk])
    obtain ⟨g2, go2, hs2⟩ := g.below_call hbw
    have hr1 : RelC E st.heap σ (w'.setRow k arr) (sup E B S0 st.heap σ (w'.setRow k arr)) (l'.flatMap (E.enc e)) ys := by
      refine RelC.data (H := []) (σ := fun _ => none) (hrel.goes ⟨fun j hj => ⟨hs2 j (by rw [hs1]; exact hj), ?_⟩, fun j hj => absurd rfl hj, fun _ _ _ hj _ => absurd rfl hj⟩) (enc_all_data he l')
      refine setRow_other _ _ _ _ (fun hjk => ?_)
      subst hjk
      rcases hj with hj | hj
      · exact hj.2.2 id _ hlook h2
      · have := (Array.getElem?_eq_some_iff.1 h8).1; omega
    have g3 := g2.write id k e (.row e l0) (.row e l') arr cur hlook h2 h7 (setRow_heap _ _ _ _ _ _ hh) (by rw [hcs, hcap]) (fun e' l'' h => by cases h; exact ⟨l0, rfl, hlen.symm⟩) (fun H' σ' w2 S' go hσ hk2 => ⟨he, .inr ⟨k, cur, hσ, h7, hk2, by rw [hcs]; exact Nat.mul_le_mul_right _ hnc, by rw [htake]; exact hr1.goes go⟩⟩)
    rw [hw1] at g3
    exact ⟨_, .tup [], _, σ, rfl, g3, .tup _ _ .nil, hk⟩

theorem vcCall_sound (tab : TabOk P E) {C : Ctx E} (hC : CtxOk P E C) {code : Nat → Code → St E.T → (Ex → St E.T → Prop) → Prop} (hcode : CallOk P E C code) (g : Gam E B S0 w0 gv σ st a w)
    {f : Nat} {args : List (SV E.T)} {K : SV E.T → St E.T → Prop} {fz : Bool} {fresh : Nat} (hfresh0 : rowRule E C fz f = true → Fresh st fresh) (h : vcCall E C fz fresh code f args st K) {vals : List Value} (hv : RelL E st.heap σ w (sup E B S0 st.heap σ w) args vals) :
    ∃ fn, P.funcs[f]? = some fn ∧ fn.body.isSome = true ∧ (fn.name == "runtime.NumGoroutine") = false ∧ Calls P f vals.toArray w (CallQ E B S0 w0 gv a K) := by
  unfold vcCall at h
  split at h
  · exact h.elim
  · rename_i fn hfn
    obtain ⟨hP, hname⟩ := tab.fn f fn hfn
    refine ⟨fn, hP, ?_⟩
    split at h
    · exact h.elim
    · rename_i body hbody
      refine ⟨by rw [hbody]; rfl, hname, ?_⟩
      split at h
      · rename_i r hr
        have hrule := hC f r (ruleAt_spec hr)
        split at h
        · rename_i args' hargs
          have hids := rowIdsH_free g hv
          obtain ⟨g1, go1, hlive, _, _, _, _, _⟩ := g.deads (rowIdsH st.heap args) hids
          have hdat := dataArgs_rel tab g hv hargs go1 (fun j b hj => ⟨(hlive j b hj).1, b, (hlive j b hj).2⟩)
          have hS : ∀ k, sup E B S0 (st.upds (deads (rowIdsH st.heap args))).heap σ w k → k < w.heap.size := fun k hk => hk.2.1
          cases r with
          | fnl pre res =>
            obtain ⟨hpre, h⟩ := h
            split at h
            · rename_i hd
              refine (hrule args' hpre hd _ w vals hS hdat).mono ?_
              rintro e w' ⟨v, rfl, hb, hrel⟩
              exact rule_endZ tab g hids hb hd hrel h
            · exact h.elim
          | gen r =>
            refine (hrule args' _ h _ w vals hS hdat).mono ?_
            rintro e w' ⟨v, s, rfl, hd, hk, hb, hrel⟩
            rw [hd] at hk
            exact rule_endZ tab g hids hb hd hrel hk
          | fn fr Y enc r =>
            refine (hrule args' _ h _ w vals hS hdat).mono ?_
            rintro e w' ⟨v, y, rfl, hd, hk, hb, hrel⟩
            rw [hd] at hk
            exact rule_endK tab g hids hb hd hrel hk
          | inp e r =>
            cases hv with
            | nil => exact h.elim
            | @cons s v0 rest vs0 hv1 hv2 =>
              dsimp only at h
              split at h
              · exact h.elim
              · rename_i rest' hrest
                have hids2 := rowIdsH_free g hv2
                obtain ⟨g2, go2, hlive2, hdead2, _, _, _, _⟩ := g.deads (rowIdsH st.heap rest) hids2
                have hdat2 := dataArgs_rel tab g hv2 hrest go2 (fun j b hj => ⟨(hlive2 j b hj).1, b, (hlive2 j b hj).2⟩)
                cases s with
                | row id =>
                  dsimp only at h
                  split at h
                  · rename_i b hlook
                    split at h
                    · rename_i e' l0
                      split at h
                      · rename_i hee
                        subst hee
                        split at h
                        · rename_i hmem
                          have hnid : id ∉ rowIdsH st.heap rest := fun hin => by rw [memN_spec.2 hin] at hmem; cases hmem
                          have hl2 : look (st.upds (deads (rowIdsH st.heap rest))).heap id = .live (.row e' l0) := by rw [hdead2 id hnid]; exact hlook
                          have hv1' := RelS.goes go2 hv1
                          obtain ⟨xs, how0, hrel0, hob0, hhas, hBk⟩ := row_own g2 hl2 hv1'
                          refine (hrule l0 _ _ h B _ w v0 vs0 xs (fun k hk => ⟨hk.2.1, fun hh => ?_⟩) how0 g.hB hhas (RelC.data hrel0 (enc_all_data hhas l0)) hdat2).mono ?_
                          · rw [hob0] at hh
                            exact hk.2.2 id _ hl2 hh.symm
                          rintro ee w' ⟨l', ys, rfl, hk, hlen, hg, hdr, how, hrel⟩
                          exact inp_end g2 hl2 hv1' hhas hlen hg hdr how hrel (hk hlen)
                        · exact h.elim
                      · exact h.elim
                    · exact h.elim
                  · exact h.elim
                | _ => exact h.elim
          | row eat e r =>
            cases eat with
            | false =>
              refine (hrule args' _ h _ w vals hS hdat).mono ?_
              rintro ee w' ⟨v, l, ys, rfl, hk, he, hb, how, hrel⟩
              have hB := g.hB
              exact row_end g [] (by simp) (hfresh0 (by unfold rowRule; rw [hr])) none he ⟨how.1, how.2.imp id (fun ⟨g, cap, cur, h1, h2, h3⟩ => ⟨g, cap, cur, h1, Nat.le_trans hB h2, h3⟩)⟩ ⟨hb.os, hb.tape, hb.output, hb.size, fun k hk _ => hb.block k hk⟩ hb.dr hrel (fun k hk => .inr (by
                rcases how.2 with ⟨rfl, _⟩ | ⟨k', cap, cur, rfl, hb', _⟩
                · simp [Value.ownBlock] at hk
                · simp [Value.ownBlock] at hk; omega)) (fun k hk => by cases hk) hk
            | true =>
              obtain ⟨hflat, hrule⟩ := hrule
              dsimp only at h
              cases hv with
              | nil => exact h.elim
              | @cons s v0 rest vs0 hv1 hv2 =>
                dsimp only at h
                split at h
                · exact h.elim
                · rename_i rest' hrest
                  have hids2 := rowIdsH_free g hv2
                  obtain ⟨g2, go2, hlive2, hdead2, _, _, _, _⟩ := g.deads (rowIdsH st.heap rest) hids2
                  have hdat2 := dataArgs_rel tab g hv2 hrest go2 (fun j b hj => ⟨(hlive2 j b hj).1, b, (hlive2 j b hj).2⟩)
                  split at h
                  · exact h.elim
                  · rename_i hpl
                    cases s with
                    | nils =>
                      cases hv1
                      dsimp only at h
                      refine (hrule [] _ _ h B _ w (.slice none 0 0) vs0 [] (fun k hk => ⟨hk.2.1, by simp [Value.ownBlock]⟩) (World.ownsRow_nil _ _ _ _) g.hB (fun _ _ _ => .nil) hdat2 (plain_rel hv2 hpl)).mono ?_
                      rintro ee w' ⟨v', l', ys, rfl, hk, he, hg, hdr, how, hob, hrel⟩
                      exact row_end g _ hids2 (hfresh0 (by unfold rowRule; rw [hr])) _ he how hg hdr hrel hob (fun k hk => by simp [Value.ownBlock] at hk) hk
                    | row id =>
                      dsimp only at h
                      split at h
                      · rename_i b hlook
                        split at h
                        · rename_i e' l0
                          split at h
                          · rename_i hee
                            subst hee
                            split at h
                            · rename_i hmem
                              have hnid : id ∉ rowIdsH st.heap rest := fun hin => by rw [memN_spec.2 hin] at hmem; cases hmem
                              obtain ⟨xs, how0, hrel0, hob0, _, hBk⟩ := row_own g hlook hv1
                              have hfl : ∀ H σ S', RelC E H σ w S' (l0.flatMap (E.enc e')) xs := fun H σ' S' => by
                                have h1 : RelS E st.heap σ w (sup E B S0 st.heap σ w) (.agg (l0.flatMap (E.enc e'))) (.agg xs.toArray) := .agg _ _ hrel0
                                have h2 := flat_any (H' := H) (σ' := σ') (w' := w) (S' := S') h1 (by simp only [flatV, List.all_flatMap, List.all_eq_true]; exact fun x _ => by have := hflat x; simpa using this)
                                cases h2 with
                                | agg _ _ h3 => exact h3
                              have hl2 : look (st.upds (deads (rowIdsH st.heap rest))).heap id = .live (.row e' l0) := by rw [hdead2 id hnid]; exact hlook
                              refine (hrule l0 _ _ h B _ w v0 vs0 xs (fun k hk => ⟨hk.2.1, fun hh => ?_⟩) how0 g.hB hfl hdat2 (plain_rel hv2 hpl)).mono ?_
                              · rw [hob0] at hh
                                exact hk.2.2 id _ hl2 hh.symm
                              rintro ee w' ⟨v', l', ys, rfl, hk, he, hg, hdr, how, hob, hrel⟩
                              refine row_end g (id :: rowIdsH st.heap rest) (fun i hi => ?_) (hfresh0 (by unfold rowRule; rw [hr])) _ he how hg hdr hrel hob (fun k hk => ?_) hk
                              · rcases List.mem_cons.1 hi with rfl | hi
                                · rw [hlook]; simp
                                · exact hids2 i hi
                              · rw [hob0] at hk
                                exact ⟨hBk k hk, id, _, by simp, hlook, hk⟩
                            · exact h.elim
                          · exact h.elim
                        · exact h.elim
                      · exact h.elim
                    | _ => exact h.elim
        · exact h.elim
      · split at h
        · rename_i hle
          have hle := Nat.le_of_ble_eq_true hle
          have hlen := hv.len
          refine (callsIn_wide (n := 0)).1 (callsIn_of_wp_marks (F := Fr none) hP hbody trivial ?_ rfl)
          obtain ⟨Ds, hd1, hd2, hd3⟩ := g.defs
          have g' := g.push hd2 hd3 (tm := args ++ List.replicate (fn.ntmps - args.length) (.tup [])) (vals := vals.toArray ++ Array.replicate (fn.ntmps - vals.toArray.size) undef) (by
            have := hv.append (RelL.rep (undef_rel (E := E) (H := st.heap) (σ := σ) (w := w) (S := sup E B S0 st.heap σ w)) (fn.ntmps - args.length))
            simpa [hlen] using this)
          refine wpIn_mono (hcode f fn body hfn hbody _ _ _ _ _ _ _ _ _ g' h) ?_
          rintro e a2 w2 ⟨ex, st2, σ2, hex, g2, hk⟩
          have fin : (match resB E st2.heap st2.tmps fn.results.toList, fitsH (st2.saved.drop st.tmps.length) st2.heap with
            | some vs, true => K (tupV vs) { tmps := st2.saved.take st.tmps.length, heap := st2.heap, next := st2.next, saved := st2.saved.drop st.tmps.length }
            | _, _ => False) → LeavesInM (Fr none) 0 P fn a2.tmps (CallQ E B S0 w0 gv a K) a2.defers .returning w2 := by
            intro hk
            split at hk
            · rename_i vs hvs hfit
              refine leave_ok g2 (fun w3 g3 => ?_)
              obtain ⟨v, h1, h2⟩ := results_run tab g3 hvs
              exact ⟨v, h1, v, tupV vs, _, σ2, rfl, g3.pop hd1 g.tmp.len hfit, h2, hk⟩
            · exact hk.elim
          cases ex with
          | normal => cases e <;> first | exact hex.elim | exact fin hk
          | ret => cases e <;> first | exact hex.elim | exact fin hk
          | exit i => exact hk.elim
        · exact h.elim

/-- A call by a rule over its results, whatever is asked of them. -/
theorem fnCall_sound (tab : TabOk P E) {C : Ctx E} (hC : CtxOk P E C) (g : Gam E B S0 w0 gv σ st a w) {f : Nat} {fn : Func} (hfn : E.fn f = some fn) (_hbody : fn.body.isSome = true) {fr : Bool} {Y : Type} {enc : Y → SV E.T} {r : List (SV E.T) → (Y → Prop) → Prop}
    (hr : C.rules f = some (.fn fr Y enc r)) {args args' : List (SV E.T)} (hargs : dataArgs E st.heap args = some args') {K1 : Y → Prop} (h : r args' K1) {K : SV E.T → St E.T → Prop}
    (hk : ∀ y, K1 y → K (enc y) (match keepB fr (enc y) with | true => st | false => st.upds (deads (rowIdsH st.heap args)))) {vals : List Value} (hv : RelL E st.heap σ w (sup E B S0 st.heap σ w) args vals) :
    P.funcs[f]? = some fn ∧ (fn.name == "runtime.NumGoroutine") = false ∧ Calls P f vals.toArray w (CallQ E B S0 w0 gv a K) := by
  obtain ⟨hP, hname⟩ := tab.fn f fn hfn
  refine ⟨hP, hname, ?_⟩
  have hrule := hC f _ hr
  have hids := rowIdsH_free g hv
  obtain ⟨g1, go1, hlive, _, _, _, _, _⟩ := g.deads (rowIdsH st.heap args) hids
  have hdat := dataArgs_rel tab g hv hargs go1 (fun j b hj => ⟨(hlive j b hj).1, b, (hlive j b hj).2⟩)
  have hS : ∀ k, sup E B S0 (st.upds (deads (rowIdsH st.heap args))).heap σ w k → k < w.heap.size := fun k hk => hk.2.1
  refine (hrule args' _ h _ w vals hS hdat).mono ?_
  rintro e w' ⟨v, y, rfl, hd, hk1, hb, hrel⟩
  exact rule_endK (fz := false) tab g hids hb hd hrel (hk y hk1)

/-- The same of a call that hands back a row of its own. -/
theorem rowCall_sound (tab : TabOk P E) {C : Ctx E} (hC : CtxOk P E C) (g : Gam E B S0 w0 gv σ st a w) {f : Nat} {fn : Func} (hfn : E.fn f = some fn) (_hbody : fn.body.isSome = true) {e : Nat} {r : List (SV E.T) → (List (E.T e) → Prop) → Prop}
    (hr : C.rules f = some (.row false e r)) {args args' : List (SV E.T)} (hargs : dataArgs E st.heap args = some args') {fresh : Nat} (hfresh : Fresh st fresh) {K1 : List (E.T e) → Prop} (h : r args' K1) {K : SV E.T → St E.T → Prop}
    (hk : ∀ l, K1 l → K (.row fresh) (st.upds [(fresh, .live (.row e l))])) {vals : List Value} (hv : RelL E st.heap σ w (sup E B S0 st.heap σ w) args vals) :
    P.funcs[f]? = some fn ∧ (fn.name == "runtime.NumGoroutine") = false ∧ Calls P f vals.toArray w (CallQ E B S0 w0 gv a K) := by
  obtain ⟨hP, hname⟩ := tab.fn f fn hfn
  refine ⟨hP, hname, ?_⟩
  have hrule := hC f _ hr
  have hids := rowIdsH_free g hv
  obtain ⟨g1, go1, hlive, _, _, _, _, _⟩ := g.deads (rowIdsH st.heap args) hids
  have hdat := dataArgs_rel tab g hv hargs go1 (fun j b hj => ⟨(hlive j b hj).1, b, (hlive j b hj).2⟩)
  have hS : ∀ k, sup E B S0 (st.upds (deads (rowIdsH st.heap args))).heap σ w k → k < w.heap.size := fun k hk => hk.2.1
  refine (hrule args' _ h _ w vals hS hdat).mono ?_
  rintro ee w' ⟨v, l, ys, rfl, hk1, he, hb, how, hrel⟩
  have hB := g.hB
  exact row_end g [] (by simp) hfresh none he ⟨how.1, how.2.imp id (fun ⟨g, cap, cur, h1, h2, h3⟩ => ⟨g, cap, cur, h1, Nat.le_trans hB h2, h3⟩)⟩ ⟨hb.os, hb.tape, hb.output, hb.size, fun k hk _ => hb.block k hk⟩ hb.dr hrel (fun k hk => .inr (by
    rcases how.2 with ⟨rfl, _⟩ | ⟨k', cap, cur, rfl, hb', _⟩
    · simp [Value.ownBlock] at hk
    · simp [Value.ownBlock] at hk; omega)) (fun k hk => by cases hk) (hk l hk1)

end
end Go.Vg
