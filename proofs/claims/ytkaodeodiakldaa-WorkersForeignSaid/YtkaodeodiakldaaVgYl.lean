/-
  The executor is right: a call of yield is one round of its loop. Own work; no condition.
-/
import Derived.Test.YtkaodeodiakldaaVgP
namespace Go.Vg
open Go.RowKit
variable {P : Program} {E : Env}
section
variable {B : Nat} {S0 : Nat → Prop} {w0 : World} {gv : Gv} {σ : Nat → Option Nat} {st : St E.T} {a : Act} {w w' : World}

/-- What the executor owes at the rounds' code. -/
def RoundOk (P : Program) (E : Env) (code : Nat → Code → St E.T → (Ex → St E.T → Prop) → Prop) : Prop :=
  ∀ fid rid t, rfOf E fid rid = some t → plainC t.2.1 = true → plainC t.2.2 = true → ∀ l B S0 w0 gv σ st K a w, Gam E B S0 w0 gv σ st a w →
    (code fid t.2.1 st K → wpR (some l) P t.2.1 (PostQ E B S0 w0 gv K) a w) ∧ (code fid t.2.2 st K → wpR (some l) P t.2.2 (PostQ E B S0 w0 gv K) a w)

theorem run_yieldCall {o : Oper} {c : Call} {fo : Operand} (ho : o.op = .call c) (hc : c.callee = .value fo) {k : Nat} (hf : a.eval fo = .func (.yield k) #[] #[]) {r : Loop} (hr : w.heap[k]? = some (.loop r)) (hs : (c.args.map a.eval).size = r.params.size) :
    (execOp a.eval o).run P w = .ok (.round k r.fn ((r.params.zip (c.args.map a.eval)).foldl (fun t (p, v) => t.setIfInBounds p v) r.tmps) r.assign r.body) w := by
  have hy := run_yield (P := P) (w := w) (args := c.args.map a.eval) hr hs
  simp only [execOp, ho, resolve, hc, hf, Deferred.ofValue, Sem.run_bind, Sem.run_pure, Result.andThen_ok, invoke, Array.empty_append]
  exact hy

theorem setPs_rel {H : List (Nat × HS E.T)} {S : Nat → Prop} : ∀ {ps : List Nat} {vs : List (SV E.T)} {us : List Value} {t t1 : List (SV E.T)} {tm : Array Value}, setPs t ps vs = some t1 → RelL E H σ w S t tm.toList → RelL E H σ w S vs us →
    ps.length = us.length ∧ RelL E H σ w S t1 (((ps.zip us).foldl (fun (x : Array Value) (q : Nat × Value) => x.setIfInBounds q.1 q.2) tm)).toList
  | [], vs, us, t, t1, tm, h, ht, hv => by
    cases vs with
    | nil => cases hv; simp only [setPs, Option.some.injEq] at h; subst h; exact ⟨rfl, ht⟩
    | cons v vs => simp [setPs] at h
  | p :: ps, vs, us, t, t1, tm, h, ht, hv => by
    cases vs with
    | nil => simp [setPs] at h
    | cons v vs =>
      cases hv with
      | cons h1 h2 =>
        simp only [setPs] at h
        obtain ⟨h3, h4⟩ := setPs_rel (tm := tm.setIfInBounds p _) h (by simpa using ht.set p h1) h2
        exact ⟨by simp [h3], h4⟩

theorem RelL.takeAt {H : List (Nat × HS E.T)} {S : Nat → Prop} {cs : List (SV E.T)} {vs : List Value} (h : RelL E H σ w S cs vs) (n off : Nat) : RelL E H σ w S (takeAt n off cs) (takeAt n off vs) := by
  unfold Vg.takeAt
  rw [h.len]
  exact (h.drop _).take _

theorem takeAt_app {α : Type} {pre mid post : List α} {n off : Nat} (hn : mid.length = n) (ho : post.length = off) : takeAt n off (pre ++ (mid ++ post)) = mid := by
  unfold takeAt
  rw [show (pre ++ (mid ++ post)).length - (n + off) = pre.length by simp; omega, List.drop_left' rfl, List.take_left' hn]

theorem yldAt_spec {H : List (Nat × HS E.T)} {S : Nat → Prop} {L : LoopI} {id k : Nat} {sv : List (SV E.T)} {gvals pre tm post : List Value} (h : yldAt L id sv = true) (hs : RelL E H σ w S sv gvals) (hg : gvals = pre ++ (.func (.yield k) #[] #[] :: (tm ++ post))) (hn : tm.length = L.ntm) (hp : post.length = L.soff) : look H id ≠ .free ∧ σ id = some k := by
  have ht := hs.takeAt 1 (L.ntm + L.soff)
  have e : takeAt 1 (L.ntm + L.soff) gvals = [.func (.yield k) #[] #[]] := by
    rw [hg, show (pre ++ (Value.func (.yield k) #[] #[] :: (tm ++ post))) = pre ++ ([.func (.yield k) #[] #[]] ++ (tm ++ post)) by simp]
    exact takeAt_app rfl (by simp; omega)
  rw [e] at ht
  unfold yldAt at h
  cases hx : takeAt 1 (L.ntm + L.soff) sv with
  | nil => rw [hx] at h; cases h
  | cons s r =>
    rw [hx] at h ht
    simp only at h
    split at h
    · rename_i j
      have := Nat.eq_of_beq_eq_true h
      subst this
      cases ht with
      | cons h1 h2 => cases h1 with
        | yld _ _ h3 h4 => exact ⟨h3, h4⟩
    · cases h

theorem loopHere_spec {T : Nat → Type} {H : List (Nat × HS T)} {id : Nat} {L : LoopI} (h : loopHere H id L = true) : look H id = .live (.loop L) := by
  unfold loopHere at h
  split at h
  · rename_i b hb
    split at h
    · rw [liEq_eq h] at hb; exact hb
    · cases h
  · cases h

/-- The record turns: its phase, the jump that is pending. -/
theorem Gam.turnLoop (g : Gam E B S0 w0 gv σ st a w) {id k : Nat} {L : LoopI} (hid : look st.heap id = .live (.loop L)) (hk : σ id = some k) {r : Loop} (hr : w.heap[k]? = some (.loop r)) (r' : Loop) (L' : LoopI)
    (hfit : ∀ pre post, gv.vals = pre ++ (.func (.yield k) #[] #[] :: (r.tmps.toList ++ post)) → post.length = L.soff → LoopIs E L r → LoopIs E L' r' ∧ r'.tmps = r.tmps ∧ L'.soff = L.soff) :
    Gam E B S0 w0 gv σ (st.setBlk id (.live (.loop L'))) a (w.putObj k (.loop r')) := by
  obtain ⟨k0, r0, pre, post, h1, h2, h3, h4, h5, h6⟩ := g.blk id _ hid
  rw [hk] at h1; cases h1
  rw [hr] at h3; cases h3
  obtain ⟨f1, f2, f3⟩ := hfit pre post h5 h6 h4
  have hlt : k < w.heap.size := (Array.getElem?_eq_some_iff.1 hr).1
  have hsz : (w.putObj k (.loop r')).heap.size = w.heap.size := World.putObj_size
  have hl : look (setH st.heap id (.live (.loop L'))) id = .live (.loop L') := look_setH_same _ _ _ (nodup_key _ _ (by rw [hid]; simp))
  have ho : ∀ j, j ≠ id → look (setH st.heap id (.live (.loop L'))) j = look st.heap j := fun j hj => look_setH_ne _ _ _ _ (fun h => hj h.symm)
  have hlv : ∀ j b, look (setH st.heap id (.live (.loop L'))) j = .live b → ∃ c, look st.heap j = .live c ∧ (j ≠ id → c = b) := fun j b hj => by
    by_cases e : j = id
    · subst e; exact ⟨_, hid, fun h => absurd rfl h⟩
    · rw [ho j e] at hj; exact ⟨b, hj, fun _ => rfl⟩
  have go : Goes E st.heap σ w (sup E B S0 st.heap σ w) (setH st.heap id (.live (.loop L'))) σ (w.putObj k (.loop r')) (sup E B S0 (setH st.heap id (.live (.loop L'))) σ (w.putObj k (.loop r'))) := by
    refine ⟨fun q hq => ⟨⟨hq.1, by rw [hsz]; exact hq.2.1, fun j b hj => ?_⟩, World.putObj_heap_other (fun e => hq.2.2 id _ hid (by rw [hk, e]))⟩, fun j hj => ⟨?_, rfl⟩, fun j e l hj hr2 => ?_⟩
    · obtain ⟨c, hc, _⟩ := hlv j b hj
      exact hq.2.2 j c hc
    · by_cases e : j = id
      · subst e; rw [hl]; simp
      · rw [ho j e]; exact hj
    · by_cases e2 : j = id
      · subst e2; rw [hl] at hr2; cases hr2
      · rw [ho j e2] at hr2
        refine ⟨l, hr2, rfl, fun q arr hq hh => ⟨arr, ?_, rfl⟩⟩
        rw [World.putObj_heap_other (fun e => by subst e; rw [hr] at hh; cases hh)]; exact hh
  refine g.move (H' := setH st.heap id (.live (.loop L'))) (σ' := σ) (w' := w.putObj k (.loop r')) ⟨g.below.os, g.below.tape, g.below.output, by rw [hsz]; exact g.below.size, fun q hq => by rw [World.putObj_heap_other (by omega)]; exact g.below.block q hq, g.below.dr⟩ (by rw [hsz]; exact g.hB) go (fun j b hj => ?_) (fun i j b c q hi hj => ?_) (fun j hj => ?_)
  · by_cases e : j = id
    · subst e; rw [hl] at hj; cases hj
      exact ⟨k, r', pre, post, hk, h2, World.putObj_heap_same hlt, f1, by rw [f2]; exact h5, by rw [f3]; exact h6⟩
    · rw [ho j e] at hj
      exact (g.blk j b hj).goes go rfl (fun q hq => World.putObj_heap_other (fun e' => by subst e'; exact e (g.inj j id b _ _ hj hid hq hk)))
  · obtain ⟨c1, hc1, _⟩ := hlv i b hi
    obtain ⟨c2, hc2, _⟩ := hlv j c hj
    exact g.inj i j c1 c2 q hc1 hc2
  · by_cases e : j = id
    · subst e; exact g.lt _ (by rw [hid]; simp)
    · rw [ho j e] at hj; exact g.lt j hj

theorem vcYield_sound {code : Nat → Code → St E.T → (Ex → St E.T → Prop) → Prop} (hro : RoundOk P E code) (g : Gam E B S0 w0 gv σ st a w) {o : Oper} {c : Call} {fo : Operand} (ho : o.op = .call c) (hc : c.callee = .value fo) {id : Nat} (hf : ev st.tmps fo = .yld id) {ro : Option Nat}
    {K : SV E.T → St E.T → Prop} {Kn : St E.T → Prop} {Q : Exit → Act → World → Prop} (h : vcYield E code id (evs st.tmps c.args.toList) st K) (hK : ∀ v st', K v st' → Kn (st'.put o.dst v)) : o.wpIn (Fr ro) 0 P a w (NextQ E B S0 w0 gv Kn) Q := by
  have hfv := g.ev fo
  rw [hf] at hfv
  generalize hfe : a.eval fo = fv at hfv
  cases hfv with
  | yld _ k hy1 hy2 =>
    unfold vcYield at h
    split at h
    · rename_i b hb
      split at h
      · rename_i L
        split at h
        · rename_i hph hj
          split at h
          · exact h.elim
          · split at h
            · exact h.elim
            · rename_i t ht
              split at h
              · exact h.elim
              · rename_i hpl
                rw [Bool.and_eq_true] at hpl
                split at h
                · exact h.elim
                · rename_i t1 hset
                  obtain ⟨k0, r, pre, post, h1, h2, h3, h4, h5, h6⟩ := g.blk id _ hb
                  rw [hy2] at h1; cases h1
                  obtain ⟨hnt, hrf, hst, hpe⟩ := h4
                  rw [ht] at hrf; cases hrf
                  rw [hph] at hst
                  rw [hj] at hpe
                  have hpe : r.pending = none := hpe
                  have hst : r.state = .ready := hst
                  -- the frame's temporaries
                  have hT0 : RelL E st.heap σ w (sup E B S0 st.heap σ w) (takeAt L.ntm L.soff st.saved) r.tmps.toList := by
                    have := g.sav.takeAt L.ntm L.soff
                    rw [h5, show pre ++ (Value.func (.yield k) #[] #[] :: (r.tmps.toList ++ post)) = (pre ++ [.func (.yield k) #[] #[]]) ++ (r.tmps.toList ++ post) by simp, takeAt_app (by simpa using hnt) h6] at this
                    exact this
                  obtain ⟨hlen, hT1⟩ := setPs_rel hset hT0 (evs_rel g c.args.toList)
                  have hsz : (c.args.map a.eval).size = r.params.size := by
                    have : r.params.toList.length = (List.map a.eval c.args.toList).length := hlen
                    simpa using this.symm
                  refine ⟨fun _ _ => trivial, ?_⟩
                  rw [Oper.semAt_eq _ _ _ (fun c' hc' => by rw [ho] at hc'; cases hc'), run_yieldCall ho hc hfe h3 hsz, Oper.uponIn_round]
                  refine ⟨fun h => (by cases h), roundIn_of_wpIn (F := Fr ro) trivial ?_⟩
                  obtain ⟨Ds, hd1, hd2, hd3⟩ := g.defs
                  have hT1' : RelL E st.heap σ w (sup E B S0 st.heap σ w) t1 (((r.params.zip (c.args.map a.eval)).foldl (fun t (p, v) => t.setIfInBounds p v) r.tmps)).toList := by
                    have e : (r.params.zip (c.args.map a.eval)).foldl (fun (t : Array Value) (x : Nat × Value) => t.setIfInBounds x.1 x.2) r.tmps = (r.params.toList.zip (List.map a.eval c.args.toList)).foldl (fun (x : Array Value) (q : Nat × Value) => x.setIfInBounds q.1 q.2) r.tmps := by
                      rw [← Array.foldl_toList]; simp
                    have : RelL E st.heap σ w (sup E B S0 st.heap σ w) t1 ((r.params.zip (c.args.map a.eval)).foldl (fun (t : Array Value) (x : Nat × Value) => t.setIfInBounds x.1 x.2) r.tmps).toList := by rw [e]; exact hT1
                    exact this
                  have gp := g.push hd2 hd3 hT1'
                  have g5 : (⟨a.tmps.toList ++ gv.vals, Ds ++ gv.ms⟩ : Gv).vals = (a.tmps.toList ++ pre) ++ (.func (.yield k) #[] #[] :: (r.tmps.toList ++ post)) := by simp [h5]
                  refine wpIn_mono ((hro _ _ _ ht hpl.1 hpl.2 k _ _ _ _ _ _ _ _ _ gp).1 h) ?_
                  rintro e a1 w1 ⟨ex, st1, σ1, hex, g1, hk1⟩
                  cases ex with
                  | exit i => exact hk1.elim
                  | ret => exact hk1.elim
                  | normal =>
                    cases e <;> try exact hex.elim
                    simp only at hk1
                    split at hk1
                    · exact hk1.elim
                    · rename_i hck
                      rw [Bool.and_eq_true] at hck
                      obtain ⟨_, hs1⟩ := yldAt_spec hck.1 g1.sav g5 (by simpa using hnt) h6
                      have hl1 := loopHere_spec hck.2
                      obtain ⟨k1, r1, pre1, post1, q1, q2, q3, q4, q5, q6⟩ := g1.blk id _ hl1
                      rw [hs1] at q1; cases q1
                      obtain ⟨qn, qr, qs, qp⟩ := q4
                      rw [ht] at qr
                      obtain ⟨qr1, qr2, qr3⟩ : r.params = r1.params ∧ r.assign = r1.assign ∧ r.body = r1.body := by simpa using qr
                      rw [hph] at qs
                      rw [hj] at qp
                      have qs : r1.state = .ready := qs
                      have qp : r1.pending = none := qp
                      refine ⟨_, run_beginRound q3 qs, ?_⟩
                      have gb := g1.turnLoop hl1 hs1 q3 { r1 with state := .busy } { L with phase := 1 } (fun _ _ _ _ _ => ⟨⟨qn, by rw [ht]; simp only [qr1, qr2, qr3], rfl, by simp [qp, hj]⟩, rfl, rfl⟩)
                      refine wpIn_mono ((hro _ _ _ ht hpl.1 hpl.2 k _ _ _ _ _ _ _ _ _ gb).2 hk1) ?_
                      rintro e a2 w2 ⟨ex, st2, σ2, hex2, g2, hk2⟩
                      split at hk2
                      · rename_i hck2 hfit
                        rw [Bool.and_eq_true] at hck2
                        obtain ⟨_, hs2⟩ := yldAt_spec hck2.1 g2.sav g5 (by simpa using hnt) h6
                        have hl2 := loopHere_spec hck2.2
                        obtain ⟨k2, r2, pre2, post2, p1, p2, p3, p4, p5, p6⟩ := g2.blk id _ hl2
                        rw [hs2] at p1; cases p1
                        obtain ⟨pn, pr, ps, pp⟩ := p4
                        have fin : ∀ (jump : Option Code) (L' : LoopI) (b : Bool), jump.isNone = b → L'.ntm = L.ntm → L'.soff = L.soff → L'.fid = L.fid → L'.rid = L.rid → phaseS L'.phase = (if jump.isNone then .ready else .done) → L'.jump.map jumpC = jump →
                            K (.bool b) { tmps := st2.saved.take st.tmps.length, heap := setH st2.heap id (.live (.loop L')), next := st2.next, saved := st2.saved.drop st.tmps.length } →
                            ∃ v w', (Instr.endRound k jump).run P w2 = .ok v w' ∧ NextQ E B S0 w0 gv Kn (a.put o.dst v) w' := by
                          intro jump L' b hjb e1 e2 e3 e4 e5 e6 hk
                          refine ⟨_, _, run_endRound jump p3, ?_⟩
                          have gt := g2.turnLoop hl2 hs2 p3 { r2 with state := if jump.isNone then .ready else .done, pending := jump } L' (fun _ _ _ _ _ => ⟨⟨by rw [e1]; exact pn, by rw [e3, e4]; exact pr, e5.symm, e6.symm⟩, rfl, e2⟩)
                          have hfit' : fitsH ((st2.setBlk id (.live (.loop L'))).saved.drop st.tmps.length) (st2.setBlk id (.live (.loop L'))).heap = true := by
                            have : ∀ (sv : List (SV E.T)) (H : List (Nat × HS E.T)), fitsH sv H = true → (L'.ntm + L'.soff + 1 ≤ sv.length) → fitsH sv (setH H id (.live (.loop L'))) = true := by
                              intro sv H hf hle
                              induction H with
                              | nil => rfl
                              | cons p rr ih =>
                                have hf2 : fitsH sv rr = true := by
                                  simp only [fitsH] at hf
                                  split at hf
                                  · split at hf
                                    · split at hf
                                      · exact hf
                                      · cases hf
                                    · exact hf
                                  · exact hf
                                simp only [setH]
                                split
                                · simp only [fitsH, Nat.ble_eq_true_of_le hle]
                                  exact ih hf2
                                · simp only [fitsH] at hf ⊢
                                  revert hf
                                  split
                                  · split
                                    · split
                                      · intro _; exact ih hf2
                                      · intro h; cases h
                                    · intro _; exact ih hf2
                                  · intro _; exact ih hf2
                            exact this _ _ hfit (by rw [e1, e2]; have := fitsH_spec hfit hl2; exact this)
                          have gpop := gt.pop hd1 g.tmp.len hfit'
                          subst hjb
                          exact ⟨_, σ2, gpop.put o.dst (.bool _), hK _ _ hk⟩
                        cases ex with
                        | normal =>
                          cases e <;> try exact hex2.elim
                          exact fin none { L with phase := 0 } true rfl rfl rfl rfl rfl rfl (by simp [hj]) hk2
                        | ret =>
                          cases e <;> try exact hex2.elim
                          exact fin (some .ret) { L with phase := 2, jump := some .ret } false rfl rfl rfl rfl rfl rfl rfl hk2
                        | exit i =>
                          cases e <;> try exact hex2.elim
                          rename_i i'
                          have hii : i = i' := hex2
                          subst hii
                          exact fin (some (.exit i)) { L with phase := 2, jump := some (.exit i) } false rfl rfl rfl rfl rfl rfl rfl hk2
                      · exact hk2.elim
        · exact h.elim
      · exact h.elim
    · exact h.elim
end
end Go.Vg
