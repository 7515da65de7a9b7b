/-
  The executor is right: a range over a function. Own work; no condition.
-/
import Derived.Test.YtkaodeodiakldaaVgQ
namespace Go.Vg
open Go.RowKit
variable {P : Program} {E : Env}
section
variable {B : Nat} {S0 : Nat → Prop} {w0 : World} {gv : Gv} {σ : Nat → Option Nat} {st : St E.T} {a : Act} {w w' : World}

theorem fits_mono {T : Nat → Type} {sv sv' : List (SV T)} (hle : sv.length ≤ sv'.length) : ∀ {H : List (Nat × HS T)}, fitsH sv H = true → fitsH sv' H = true
  | [], _ => rfl
  | p :: r, h => by
    have h2 : fitsH sv r = true := by
      simp only [fitsH] at h
      split at h
      · split at h
        · split at h
          · exact h
          · cases h
        · exact h
      · exact h
    have ih := fits_mono hle h2
    simp only [fitsH] at h ⊢
    revert h
    split
    · split
      · split
        · rename_i hb
          intro _
          rw [Nat.ble_eq_true_of_le (Nat.le_trans (Nat.le_of_ble_eq_true hb) hle)]
          exact ih
        · intro h; cases h
      · intro _; exact ih
    · intro _; exact ih

/-- The record of a loop that is over turns once more. -/
theorem Gam.endLoop (g : Gam E B S0 w0 gv σ st a w) {id k : Nat} {L : LoopI} (hid : look st.heap id = .live (.loop L)) (hk : σ id = some k) {r : Loop} (hr : w.heap[k]? = some (.loop r)) (r' : Loop) :
    Gam E B S0 w0 gv σ (st.setBlk id .dead) a (w.putObj k (.loop r')) := by
  obtain ⟨k0, r0, _, _, h1, h2, _, _⟩ := g.blk id _ hid
  rw [hk] at h1; cases h1
  have gk := g.kill id (by rw [hid]; simp)
  have hsz : w.heap.size = (w.putObj k (.loop r')).heap.size := World.putObj_size.symm
  have t : Kept w (w.putObj k (.loop r')) := fun q o ho hl => by
    rw [World.putObj_heap_other (fun e => by subst e; rw [hr] at ho; cases ho; cases hl)]; exact ho
  obtain ⟨Ds, d1, d2, d3⟩ := gk.defs
  refine ⟨⟨gk.below.os, gk.below.tape, gk.below.output, by rw [← hsz]; exact gk.below.size, fun q hq => by rw [World.putObj_heap_other (by omega)]; exact gk.below.block q hq, gk.below.dr⟩, by rw [← hsz]; exact gk.hB, ⟨Ds, d1, d2, fun D hD => ⟨⟨(d3 D hD).1.1, sup_size (by omega) (d3 D hD).1.2⟩, ?_⟩⟩, gk.tmp.supTurn hsz t, gk.sav.supTurn hsz t, fun j b hb => (gk.blk j b hb).turn hsz t (fun q r2 hq hr2 => ?_), gk.inj, gk.lt⟩
  · rw [World.putObj_heap_other (fun e => by have := (d3 D hD).2; rw [e, hr] at this; cases this)]; exact (d3 D hD).2
  · obtain ⟨hne, hlive⟩ := kill_live hb
    rw [World.putObj_heap_other (fun e => by subst e; exact hne (g.inj j id _ _ _ hlive hid hq hk))]; exact hr2

theorem rangeFunc_sound (tab : TabOk P E) {C : Ctx E} {code : Nat → Code → St E.T → (Ex → St E.T → Prop) → Prop} (hcode : CallOk P E C code) (g : Gam E B S0 w0 gv σ st a w) {fid : Nat} {g0 : Operand} {ps : Array Tmp} {x y : Code}
    (hrf : rfOf E fid (firstRegion y) = some (ps, x, y)) {f : Nat} {caps : List (SV E.T)} (he : ev st.tmps g0 = .fn f caps) {fn : Func} (hfn : E.fn f = some fn) {fb : Code} (hfb : fn.body = some fb) (_hle : caps.length + 1 ≤ fn.ntmps) {K : Ex → St E.T → Prop}
    (h : code f fb { tmps := .yld st.next :: (caps ++ List.replicate (fn.ntmps - (caps.length + 1)) (.tup [])), heap := (st.next, .live (.loop ⟨fid, firstRegion y, st.tmps.length, st.saved.length, 0, none⟩)) :: st.heap, next := st.next + 1, saved := .yld st.next :: (st.tmps ++ st.saved) } fun ex st' =>
      match ex with
      | .exit _ => False
      | _ => match st'.saved, resB E st'.heap st'.tmps fn.results.toList with
        | [], _ => False
        | _ :: _, none => False
        | s0 :: sv, some _ => match s0 with
          | .yld j => match look st'.heap j with
            | .live b => match b with
              | .loop L => match Nat.beq L.phase 1, fitsH (sv.drop st.tmps.length) (setH st'.heap j .dead) with
                | false, true => match L.jump with
                  | none => K .normal { tmps := sv.take st.tmps.length, heap := setH st'.heap j .dead, next := st'.next, saved := sv.drop st.tmps.length }
                  | some ex => match ex with
                    | .normal => False
                    | ex => K ex { tmps := sv.take st.tmps.length, heap := setH st'.heap j .dead, next := st'.next, saved := sv.drop st.tmps.length }
                | _, _ => False
              | _ => False
            | _ => False
          | _ => False) : wpR none P (.rangeFunc g0 ps x y) (PostQ E B S0 w0 gv K) a w := by
  obtain ⟨hP, hname⟩ := tab.fn f fn hfn
  have hfv := g.ev g0
  rw [he] at hfv
  generalize hfe : a.eval g0 = fv at hfv
  cases hfv with
  | fn _ _ lb hcaps =>
    refine wpIn_rangeFunc (F := Fr none) ?_
    intro fnn _
    obtain ⟨rec, hrec⟩ : ∃ rec : Loop, rec = { state := .ready, pending := none, fn := fnn, tmps := a.tmps, params := ps, assign := x, body := y, defers := w.heap.size } := ⟨_, rfl⟩
    obtain ⟨l, hl⟩ : ∃ l, l = w.heap.size + 1 := ⟨_, rfl⟩
    obtain ⟨yv, hyv⟩ : ∃ yv : Value, yv = .func (.yield l) #[] #[] := ⟨_, rfl⟩
    have hb2 : fn.body ≠ none := by rw [hfb]; simp
    have hn' : fn.name ≠ "runtime.NumGoroutine" := by simpa using hname
    have eg : ∀ args w, (callFunc f args).run P w = .ok (.enter f args) w := fun args w => by simp [callFunc, hP, hb2, hn']
    obtain ⟨wa, hwa⟩ : ∃ wa, wa = w.alloc (.deferred (some [])) := ⟨_, rfl⟩
    obtain ⟨w1, hw1⟩ : ∃ w1, w1 = wa.alloc (.loop rec) := ⟨_, rfl⟩
    refine ⟨l, [markD w.heap.size], w1, { target := .fn (.func f) lb, args := #[yv] }, w1, f, #[yv] ++ lb, w1, ?_, ?_, fun _ _ => trivial, ?_, fun h => (by cases h), ?_⟩
    · rw [hw1, hwa, hrec, hl]; exact run_enterLoop_outer _ _ _ _ _
    · simp only [resolve, hfe]
      simp [go_sem, hyv]
    · simp [invoke, go_sem, eg]
    refine calls_fr ((callsIn_wide (n := 0)).1 (callsIn_of_wp_marks (F := Fr none) hP hfb trivial ?_ rfl))
    -- the worlds
    have hwas : wa.heap.size = w.heap.size + 1 := by rw [hwa]; simp
    have hbel : Below w.heap.size w wa := by rw [hwa]; exact (Below.refl _ w).alloc (Nat.le_refl _) _
    have hDa : wa.heap[w.heap.size]? = some (.deferred (some [])) := by rw [hwa]; exact heap_alloc_at w _
    have ga := (g.below_call hbel).1
    obtain ⟨Ds, d1, d2, d3⟩ := ga.defs
    obtain ⟨Ds0, e1, _, e3⟩ := g.defs
    have hlt : ∀ D ∈ Ds ++ gv.ms, D < w.heap.size := fun D hD => by
      rcases List.mem_append.1 hD with hD | hD
      · have : Ds = Ds0 := by
          have hh : Ds.map markD = Ds0.map markD := d1.symm.trans e1
          have : Function.Injective markD := fun p q hpq => by have := congrArg (fun d : Deferred => d.target) hpq; injection this
          exact (List.map_inj_right (fun p q hpq => this hpq)).1 hh
        subst this
        exact (Array.getElem?_eq_some_iff.1 (e3 D (List.mem_append_left _ hD)).2).1
      · exact (Array.getElem?_eq_some_iff.1 (e3 D (List.mem_append_right _ hD)).2).1
    -- two frames are laid over: the record's name; the iterator's
    have gp1 := ga.push (Ds := w.heap.size :: Ds) (tm := [.any]) (vals := #[yv]) (by
        rw [List.cons_append, List.nodup_cons]; exact ⟨fun hD => by have := hlt _ hD; omega, d2⟩) (fun D hD => by
        rw [List.cons_append] at hD
        rcases List.mem_cons.1 hD with rfl | hD
        · exact ⟨⟨g.hB, .inr g.hB, by omega, fun id b hb he => by have := g.blk_lt hb he; omega⟩, hDa⟩
        · exact d3 D hD) (.cons (.any _) .nil)
    obtain ⟨Dz, z1, z2, z3⟩ := gp1.defs
    have hz : Dz = [] := by
      have : Dz.map markD = [] := z1.symm
      simpa using this
    subst hz
    have hcapsa : RelL E st.heap σ wa (sup E B S0 st.heap σ wa) caps lb.toList := hcaps.goes (g.below_call hbel).2.1
    have hlb := hcaps.len
    have gp2 := gp1.push (Ds := []) (tm := .any :: (caps ++ List.replicate (fn.ntmps - (caps.length + 1)) (.tup []))) (vals := (#[yv] ++ lb) ++ Array.replicate (fn.ntmps - (#[yv] ++ lb).size) undef) z2 z3 (by
        have hr := RelL.rep (undef_rel (E := E) (H := st.heap) (σ := σ) (w := wa) (S := sup E B S0 st.heap σ wa)) (fn.ntmps - (caps.length + 1))
        have := RelL.cons (.any yv) (hcapsa.append hr)
        have e : ((#[yv] ++ lb) ++ Array.replicate (fn.ntmps - (#[yv] ++ lb).size) undef).toList = yv :: (lb.toList ++ List.replicate (fn.ntmps - (caps.length + 1)) undef) := by
          simp [hlb]; congr 1; omega
        rw [e]; exact this)
    -- the record
    have gs := gp2.slots [⟨none, .alloc 0, 0, "", #[], none⟩]
    simp only [slots, allocs, Nat.add_zero, List.length_cons, List.length_nil, Nat.zero_add, List.cons_append, List.nil_append] at gs
    obtain ⟨σ1, s1, s2, s3, _, g4⟩ := gs.allocO st.next (by simp [look]) ⟨(st.next, .free), by simp, rfl⟩ (Nat.lt_succ_self _) (.loop rec) (.loop ⟨fid, firstRegion y, st.tmps.length, st.saved.length, 0, none⟩) (fun H' σ' w2 S' go hs' hh => by
      have htl := g.tmp.len
      have hsl := g.sav.len
      refine ⟨wa.heap.size, rec, [], gv.vals, hs', by rw [hwas]; have := g.hB; omega, hh, ⟨?_, ?_, ?_, ?_⟩, ?_, ?_⟩
      · rw [hrec]; simpa using htl.symm
      · rw [hrec]; exact hrf
      · rw [hrec]; rfl
      · rw [hrec]; rfl
      · rw [hrec, hwas, ← hl, ← hyv]; simp
      · exact hsl.symm)
    rw [← hw1] at g4 s2
    rw [hwas, ← hl] at s1
    have hlook : ∀ i, look ((st.next, HS.live (.loop ⟨fid, firstRegion y, st.tmps.length, st.saved.length, 0, none⟩)) :: st.heap) i = look (setH ((st.next, HS.free) :: st.heap) st.next (.live (.loop ⟨fid, firstRegion y, st.tmps.length, st.saved.length, 0, none⟩))) i := fun i => by
      by_cases e : i = st.next
      · subst e; rw [s3]; simp [look]
      · rw [look_setH_ne _ _ _ _ (fun h => e h.symm)]
        simp [look, beq_ne (fun h => e h.symm)]
    have g5 := g4.sameLook hlook
    have hid5 : look ((st.next, HS.live (.loop ⟨fid, firstRegion y, st.tmps.length, st.saved.length, 0, none⟩)) :: st.heap) st.next ≠ .free := by simp [look]
    have g6 : Gam E B S0 w0 ⟨(#[yv] : Array Value).toList ++ (⟨a.tmps.toList ++ gv.vals, (w.heap.size :: Ds) ++ gv.ms⟩ : Gv).vals, [] ++ (⟨a.tmps.toList ++ gv.vals, (w.heap.size :: Ds) ++ gv.ms⟩ : Gv).ms⟩ σ1 { tmps := .yld st.next :: (caps ++ List.replicate (fn.ntmps - (caps.length + 1)) (.tup [])), heap := (st.next, .live (.loop ⟨fid, firstRegion y, st.tmps.length, st.saved.length, 0, none⟩)) :: st.heap, next := st.next + 1, saved := .yld st.next :: (st.tmps ++ st.saved) } { tmps := (#[yv] ++ lb) ++ Array.replicate (fn.ntmps - (#[yv] ++ lb).size) undef, defers := [] } w1 := by
      refine ⟨g5.below, g5.hB, g5.defs, ?_, ?_, g5.blk, g5.inj, g5.lt⟩
      · have ht := g5.tmp
        have e : ((#[yv] ++ lb) ++ Array.replicate (fn.ntmps - (#[yv] ++ lb).size) undef).toList = yv :: (lb.toList ++ List.replicate (fn.ntmps - (#[yv] ++ lb).size) undef) := by simp
        show RelL E _ σ1 w1 _ (SV.yld st.next :: _) _
        rw [e] at ht ⊢
        cases ht with
        | cons _ h2 => exact .cons (by rw [hyv]; exact .yld _ _ hid5 s1) h2
      · have ht := g5.sav
        show RelL E _ σ1 w1 _ (SV.yld st.next :: _) (yv :: _)
        cases ht with
        | cons _ h2 => exact .cons (by rw [hyv]; exact .yld _ _ hid5 s1) h2
    refine wpIn_mono (hcode f fn fb hfn hfb _ _ _ _ _ _ _ _ _ g6 h) ?_
    rintro e a2 w2 ⟨ex, st2, σ2, hex, g2, hk⟩
    have fin : (match st2.saved, resB E st2.heap st2.tmps fn.results.toList with
        | [], _ => False
        | _ :: _, none => False
        | s0 :: sv, some _ => match s0 with
          | .yld j => match look st2.heap j with
            | .live b => match b with
              | .loop L => match Nat.beq L.phase 1, fitsH (sv.drop st.tmps.length) (setH st2.heap j .dead) with
                | false, true => match L.jump with
                  | none => K .normal { tmps := sv.take st.tmps.length, heap := setH st2.heap j .dead, next := st2.next, saved := sv.drop st.tmps.length }
                  | some ex => match ex with
                    | .normal => False
                    | ex => K ex { tmps := sv.take st.tmps.length, heap := setH st2.heap j .dead, next := st2.next, saved := sv.drop st.tmps.length }
                | _, _ => False
              | _ => False
            | _ => False
          | _ => False) → LeavesInM (Fr none) 0 P fn a2.tmps (rangePost (Fr none) 0 P l (PostQ E B S0 w0 gv K) { a with defers := [markD w.heap.size] ++ a.defers }) a2.defers .returning w2 := by
      intro hk
      split at hk
      · exact hk.elim
      · exact hk.elim
      rename_i s0 sv us hsv hres
      split at hk
      · rename_i j
        split at hk
        · rename_i b hlk
          split at hk
          · rename_i L
            split at hk
            · rename_i hph hfit
              refine leave_ok g2 (fun w3 g3 => ?_)
              obtain ⟨v, hv1, _⟩ := results_run tab g3 hres
              refine ⟨v, hv1, ?_⟩
              have hs3 := g3.sav
              rw [hsv] at hs3
              have hσ : σ2 j = some l := by
                cases hs3 with
                | cons q1 _ =>
                  rw [hyv] at q1
                  cases q1 with
                  | yld _ _ _ q => exact q
              obtain ⟨k, r, pre, post, p1, p2, p3, p4, p5⟩ := g3.blk _ _ hlk
              rw [hσ] at p1; cases p1
              obtain ⟨pn, pr, pst, pp⟩ := p4
              have hnb : r.state ≠ .busy := by
                rw [pst]
                intro hb
                unfold phaseS at hb
                split at hb
                · cases hb
                · rename_i h1; rw [h1] at hph; cases hph
                · cases hb
              refine ⟨r.pending, _, run_endLoop p3 hnb, ?_⟩
              have ge := g3.endLoop hlk hσ p3 { r with state := .exhausted }
              have hfit1 : fitsH (st2.saved.drop 1) (setH st2.heap j .dead) = true := by
                rw [hsv]; exact fits_mono (by simp) hfit
              have gq1 := Gam.pop (gv := ⟨a.tmps.toList ++ gv.vals, (w.heap.size :: Ds) ++ gv.ms⟩) (a := { tmps := #[yv], defers := [] }) (Ds := []) ge rfl (n := 1) rfl hfit1
              have gq2 := Gam.pop (gv := gv) (a := { a with defers := [markD w.heap.size] ++ a.defers }) (Ds := w.heap.size :: Ds) gq1 (by rw [d1]; rfl) (n := st.tmps.length) g.tmp.len (by
                show fitsH ((st2.saved.drop 1).drop st.tmps.length) _ = true
                rw [hsv]; exact hfit)
              have gq : Gam E B S0 w0 gv σ2 { tmps := sv.take st.tmps.length, heap := setH st2.heap j .dead, next := st2.next, saved := sv.drop st.tmps.length } { a with defers := [markD w.heap.size] ++ a.defers } (w3.putObj l (.loop { r with state := .exhausted })) := by
                have e : st2.saved.drop 1 = sv := by rw [hsv]; rfl
                have := gq2
                simp only [St.setBlk, e] at this
                exact this
              split at hk
              · rename_i hj0
                rw [hj0] at pp
                have pp : r.pending = none := pp
                rw [pp] at gq ⊢
                exact ⟨.normal, _, σ2, trivial, gq, hk⟩
              · rename_i ex0 hj0
                rw [hj0] at pp
                have pp : r.pending = some (jumpC ex0) := pp
                rw [pp] at gq ⊢
                cases ex0 with
                | normal => exact hk.elim
                | ret => exact wpIn_ret ⟨.ret, _, σ2, trivial, gq, hk⟩
                | exit i => exact wpIn_exit ⟨.exit i, _, σ2, rfl, gq, hk⟩
            · exact hk.elim
          · exact hk.elim
        · exact hk.elim
      · exact hk.elim
    cases ex with
    | normal => cases e <;> first | exact hex.elim | exact fin hk
    | ret => cases e <;> first | exact hex.elim | exact fin hk
    | exit i => exact hk.elim
end
end Go.Vg
