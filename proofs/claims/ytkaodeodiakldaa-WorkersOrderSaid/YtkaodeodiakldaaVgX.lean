/-
  Regions that draw their order: every order comes to the same state. Own work; no condition.
-/
import Derived.Test.YtkaodeodiakldaaVgW
namespace Go.Vg
open Go.RowKit
variable {P : Program} {E : Env} {C : Ctx E}

theorem set_same {T : Nat → Type} (st : St T) (d : Nat) {v : SV T} (h : nth st.tmps d = v) : st.set d v = st := by
  subst h; simp only [St.set, setNth_nth]

/-- What a step may do: as the lexical executor does, or a call by a rule over its results. -/
def actX (E : Env) (C : Ctx E) (fresh : Nat) (o : Oper) (st : St E.T) (K : St E.T → Prop) : Prop :=
  vcAct E C false (fun _ _ _ _ => False) fresh o st K ∨
  (∃ c fo f caps fn fr Y enc r args' K1, o.op = .call c ∧ c.callee = .value fo ∧ ev st.tmps fo = .fn f caps ∧ E.fn f = some fn ∧ fn.body.isSome = true ∧ C.rules f = some (.fn fr Y enc r) ∧
    dataArgs E st.heap (evs st.tmps c.args.toList ++ caps) = some args' ∧ r args' K1 ∧ ∀ y, K1 y → K ((match keepB fr (enc y) with | true => st | false => st.upds (deads (rowIdsH st.heap (evs st.tmps c.args.toList ++ caps)))).put o.dst (enc y))) ∨
  ∃ c fo f caps fn e r args' K1, o.op = .call c ∧ c.callee = .value fo ∧ ev st.tmps fo = .fn f caps ∧ E.fn f = some fn ∧ fn.body.isSome = true ∧ C.rules f = some (.row false e r) ∧
    dataArgs E st.heap (evs st.tmps c.args.toList ++ caps) = some args' ∧ freshOk o.op st fresh = true ∧ r args' K1 ∧ ∀ l, K1 l → K ((st.upds [(fresh, .live (.row e l))]).put o.dst (.row fresh))

theorem actX_ok (tab : TabOk P E) (hC : CtxOk P E C) : ActOk P E (actX E C) := by
  have hcode : CallOk P E C (fun (_ : Nat) (_ : Code) (_ : St E.T) (_ : Ex → St E.T → Prop) => False) := fun _ _ _ _ _ _ _ _ _ _ _ _ _ _ _ h => h.elim
  have hround : RoundOk P E (fun (_ : Nat) (_ : Code) (_ : St E.T) (_ : Ex → St E.T → Prop) => False) := fun _ _ _ _ _ _ _ _ _ _ _ _ _ _ _ _ _ => ⟨fun h => h.elim, fun h => h.elim⟩
  intro ro B S0 w0 gv σ fresh o st K a w Q g h
  rcases h with h | ⟨c, fo, f, caps, fn, fr, Y, enc, r, args', K1, ho, hcal, hf, hfn, hb, hr, hd, h, hk⟩ | ⟨c, fo, f, caps, fn, e, r, args', K1, ho, hcal, hf, hfn, hb, hr, hd, hfr, h, hk⟩
  · exact vcAct_ok tab hC hcode hround false _ _ _ _ _ _ _ _ _ _ _ _ Q g h
  · have hfv := g.ev fo
    rw [hf] at hfv
    generalize hfe : a.eval fo = fv at hfv
    cases hfv with
    | fn _ _ vs hcaps =>
      have hargs := (evs_rel g c.args.toList).append hcaps
      obtain ⟨h1, h3, h4⟩ := fnCall_sound tab hC g hfn hb hr hd h (K := fun s st' => K (st'.put o.dst s)) hk hargs
      refine ⟨fun _ _ => trivial, ?_⟩
      rw [Oper.semAt_eq _ _ _ (fun c' hc' => by rw [ho] at hc'; cases hc'), run_call ho hcal hfe h1 hb h3, Oper.uponIn_enter]
      refine ⟨fun h => (by cases h), calls_fr ?_⟩
      have : (List.map a.eval c.args.toList ++ vs.toList).toArray = c.args.map a.eval ++ vs := by simp
      rw [this] at h4
      refine h4.mono ?_
      rintro e w' ⟨v, s, st', σ', rfl, g', hr, hk⟩
      exact ⟨_, σ', g'.put o.dst hr, hk⟩
  · have hfv := g.ev fo
    rw [hf] at hfv
    generalize hfe : a.eval fo = fv at hfv
    cases hfv with
    | fn _ _ vs hcaps =>
      have hargs := (evs_rel g c.args.toList).append hcaps
      have hfresh := freshOk_spec g hfr (by rw [ho]; obtain ⟨_, _, _⟩ := c; simp only at hcal; rw [hcal]; rfl)
      obtain ⟨h1, h3, h4⟩ := rowCall_sound tab hC g hfn hb hr hd hfresh h (K := fun s st' => K (st'.put o.dst s)) hk hargs
      refine ⟨fun _ _ => trivial, ?_⟩
      rw [Oper.semAt_eq _ _ _ (fun c' hc' => by rw [ho] at hc'; cases hc'), run_call ho hcal hfe h1 hb h3, Oper.uponIn_enter]
      refine ⟨fun h => (by cases h), calls_fr ?_⟩
      have : (List.map a.eval c.args.toList ++ vs.toList).toArray = c.args.map a.eval ++ vs := by simp
      rw [this] at h4
      refine h4.mono ?_
      rintro e w' ⟨v, s, st', σ', rfl, g', hr, hk⟩
      exact ⟨_, σ', g'.put o.dst hr, hk⟩

/-- A step is what the lexical executor does there. -/
theorem stepD_act {orc : SV E.T} {fresh : Nat} {o : Oper} {st : St E.T} {c : CB} {u : List (Nat × HS E.T)} {v : SV E.T} (h : stepD E C orc fresh o st = some (c, u, v)) (hc : c.holds) : actX E C fresh o st (fun st' => st' = (st.upds u).put o.dst v) := by
  unfold stepD at h
  split at h
  · cases h
  rename_i hf
  split at h
  · cases h
  · rename_i hcr0
    split at h
    · rename_i out ho
      simp only [Option.some.injEq, Prod.mk.injEq] at h
      obtain ⟨rfl, rfl, rfl⟩ := h
      left
      have hcr : crowB E C fresh st.tmps o.op = none := hcr0
      unfold vcAct
      rw [hf, hcr, ho]
      have hc : out.cond = true := hc
      simp only [hc, br, forceV_eq]
    · rename_i hn
      split at h
      · rename_i cl hop
        split at h
        · rename_i f hcal
          split at h
          · rename_i g caps hg
            split at h
            · rename_i fn pre res args' hfn hr hd
              left
              have hcr : crowB E C fresh st.tmps o.op = none := hcr0
              unfold vcAct
              rw [hf, hcr, hn]
              simp only [hop, hcal, hg]
              unfold vcCall
              split at h
              · rename_i hb hdv hfl
                simp only [Option.some.injEq, Prod.mk.injEq] at h
                obtain ⟨rfl, rfl, rfl⟩ := h
                simp only [hfn, hb, show ruleAt E C false g = _ from hr, hd]
                refine ⟨hc, ?_⟩
                rw [hdv, hfl]; rfl
              · rename_i hb hdv hfl
                simp only [Option.some.injEq, Prod.mk.injEq] at h
                obtain ⟨rfl, rfl, rfl⟩ := h
                simp only [hfn, hb, show ruleAt E C false g = _ from hr, hd]
                refine ⟨hc, ?_⟩
                rw [hdv, hfl]; rfl
              · cases h
            · rename_i fn fr Y enc r args' hfn hr hd
              right; left
              split at h
              · rename_i hb hdv hfl
                simp only [Option.some.injEq, Prod.mk.injEq] at h
                obtain ⟨rfl, rfl, rfl⟩ := h
                refine ⟨cl, f, g, caps, fn, fr, Y, enc, r, args', _, hop, hcal, hg, hfn, by rw [hb]; rfl, hr, hd, hc, fun y hy => ?_⟩
                rw [hy, hfl]; rfl
              · rename_i hb hdv hfl
                simp only [Option.some.injEq, Prod.mk.injEq] at h
                obtain ⟨rfl, rfl, rfl⟩ := h
                refine ⟨cl, f, g, caps, fn, fr, Y, enc, r, args', _, hop, hcal, hg, hfn, by rw [hb]; rfl, hr, hd, hc, fun y hy => ?_⟩
                rw [hy, hfl]
              · cases h
            · rename_i fn e r args' hfn hr hd
              right; right
              split at h
              · rename_i e' l hb
                split at h
                · rename_i he
                  subst he
                  simp only [Option.some.injEq, Prod.mk.injEq] at h
                  obtain ⟨rfl, rfl, rfl⟩ := h
                  refine ⟨cl, f, g, caps, fn, e', r, args', _, hop, hcal, hg, hfn, by rw [hb]; rfl, hr, hd, hf, hc, fun y hy => ?_⟩
                  rw [hy]
                · cases h
              · cases h
            · cases h
          · cases h
        · cases h
      · cases h

theorem step_op {orc : SV E.T} {ops : List Oper} {fresh : Nat} {o : Oper} {st st' : St E.T} {c : CB} {R W : List Nat} (h : stepG E C orc ops fresh o st = some (c, st', R, W)) (hc : c.holds) : vcOp E (actX E C) ops fresh o st (fun s => s = st') := by
  have ex : ∀ s, s = st → stepF E C orc fresh o st = some (c, st', R, W) → actX E C fresh o s (fun s => s = st') := by
    rintro s rfl h
    unfold stepF at h
    split at h
    · rename_i c' u v hs
      simp only [Option.some.injEq, Prod.mk.injEq] at h
      obtain ⟨rfl, rfl, rfl, rfl⟩ := h
      exact stepD_act hs hc
    · cases h
  unfold stepG at h
  unfold vcOp
  split at h
  · rename_i hg
    exact ex st rfl h
  · rename_i j want hg
    (try rw [hg]); (try simp only)
    split at h
    · rename_i d hd
      (try rw [hd]); (try simp only)
      split at h
      · rename_i b hb
        (try rw [hb]); (try simp only)
        cases b <;> cases want <;> simp only [br] at h ⊢
        · exact ex _ (set_same st d hb) h
        · simp only [Option.some.injEq, Prod.mk.injEq] at h
          obtain ⟨_, rfl, _, _⟩ := h
          rw [set_same st d hb]
        · simp only [Option.some.injEq, Prod.mk.injEq] at h
          obtain ⟨_, rfl, _, _⟩ := h
          rw [set_same st d hb]
        · exact ex _ (set_same st d hb) h
      · rename_i hb
        (try rw [hb]); (try simp only)
        simp only [Option.some.injEq, Prod.mk.injEq] at h
        obtain ⟨_, rfl, _, _⟩ := h
        rfl
      · cases h
    · cases h

section
variable {B : Nat} {S0 : Nat → Prop} {w0 : World} {gv : Gv} {σ : Nat → Option Nat} {st : St E.T} {a : Act} {w : World}

theorem step_wp {r : Option Nat} (tab : TabOk P E) (hC : CtxOk P E C) {ops : Array Oper} {next : Nat} {p : Nat × FP} {st' : St E.T} {Q : Exit → Act → World → Prop} {K : Act → World → Prop} (g : Gam E B S0 w0 gv σ st a w) (h : StepS E C ops next p st st')
    (hk : ∀ a' w' σ', Gam E B S0 w0 gv σ' st' a' w' → K a' w') : wpOpIn (Fr r) 0 P ops Q p.1 K a w := by
  obtain ⟨o, c, orc, ho, hs, hc, _, _⟩ := h
  have hop := step_op hs hc
  have := vcOp_ok (actX_ok tab hC) r _ _ _ _ _ ops _ _ _ _ _ _ Q g hop
  unfold wpOpIn
  rw [ho]
  simp only
  split
  · rename_i hw
    rw [if_pos hw] at this
    refine Oper.wpIn_mono ?_ this
    rintro a' w' ⟨st2, σ2, g2, rfl⟩
    exact hk _ _ _ g2
  · rename_i hw
    rw [if_neg hw] at this
    obtain ⟨st2, σ2, g2, rfl⟩ := this
    exact ⟨fun _ _ => trivial, hk _ _ _ g2⟩

end

/-- Steps that may change places where no edge holds them. -/
inductive Good (ops : Array Oper) : List (Nat × FP) → List (Nat × FP) → Prop
  | nil (done) : Good ops done []
  | cons {p r done} (o : Oper) : ops[p.1]? = some o → p.2.anc = ancOf done (predsL o.after.toList) → allLt p.1 (predsL o.after.toList) = true → chkD p.2 done = true → Good ops (p :: done) r → Good ops done (p :: r)

theorem allAnc_spec {anc : List Nat} : ∀ {l : List (Nat × FP)}, allAnc anc l = true → ∀ p ∈ l, p.1 ∈ anc
  | [], _, p, hp => by cases hp
  | q :: r, h, p, hp => by
    simp only [allAnc] at h
    split at h
    · rename_i hm
      rcases List.mem_cons.1 hp with rfl | hp
      · exact memN_spec.1 hm
      · exact allAnc_spec h p hp
    · cases h

theorem chkD_of {fp : FP} : ∀ {l : List (Nat × FP)}, (∀ p ∈ l, p.1 ∈ fp.anc) → chkD fp l = true
  | [], _ => rfl
  | q :: r, h => by
    simp only [chkD, memN_spec.2 (h q (by simp))]
    exact chkD_of (fun p hp => h p (by simp [hp]))

theorem anyGe_spec {b : Nat} : ∀ {l : List Nat}, anyGe b l = true → ∃ j ∈ l, b ≤ j
  | [], h => by cases h
  | j :: r, h => by
    simp only [anyGe] at h
    split at h
    · rename_i hb; exact ⟨j, by simp, Nat.le_of_ble_eq_true hb⟩
    · obtain ⟨k, h1, h2⟩ := anyGe_spec h; exact ⟨k, by simp [h1], h2⟩

theorem laterB_spec {b : Nat} : ∀ {l : List Oper}, laterB b l = true → ∀ o ∈ l, ∃ j ∈ predsL o.after.toList, b ≤ j
  | [], _, o, ho => by cases ho
  | q :: r, h, o, ho => by
    simp only [laterB] at h
    split at h
    · rename_i hg
      rcases List.mem_cons.1 ho with rfl | ho
      · exact anyGe_spec hg
      · exact laterB_spec h o ho
    · cases h

theorem barO_guard {o : Oper} {st : St E.T} (h : barO E C o st = true) : o.guard = none := by
  unfold barO at h
  split at h
  · cases h
  · assumption

/-- The steps up to the end, or to the next call that is walked in place. -/
theorem vcDraw_run {code : Nat → Code → St E.T → (Ex → St E.T → Prop) → Prop} {ops : Array Oper} {next : Nat} {K : St E.T → Prop} : ∀ (rest : List Oper) (i : Nat) (done : List (Nat × FP)) (st : St E.T), ops.toList.drop i = rest → vcDraw E C code ops.toList next rest i done st K →
    ∃ steps stF, Run E C ops next steps st stF ∧ steps.map (·.1) = List.range' i steps.length ∧ Good ops done steps ∧
      ((steps.length = rest.length ∧ K stF) ∨ ∃ o r anc, rest.drop steps.length = o :: r ∧ barO E C o stF = true ∧ anc = ancOf (steps.reverse ++ done) (predsL o.after.toList) ∧ allLt (i + steps.length) (predsL o.after.toList) = true ∧ allAnc anc (steps.reverse ++ done) = true ∧ laterB (i + steps.length) r = true ∧
        vcAct E C true code (next + (i + steps.length)) o stF fun st' => vcDraw E C code ops.toList next r (i + steps.length + 1) ((i + steps.length, barFP anc) :: (steps.reverse ++ done)) st' K) := by
  intro rest
  induction rest with
  | nil => intro i done st _ h; exact ⟨[], st, .nil _, rfl, .nil _, .inl ⟨rfl, h⟩⟩
  | cons o r ih =>
    intro i done st hdrop h
    have hlt : i < ops.toList.length := by
      rcases Nat.lt_or_ge i ops.toList.length with h | h
      · exact h
      · rw [List.drop_eq_nil_of_le h] at hdrop; cases hdrop
    rw [List.drop_eq_getElem_cons hlt] at hdrop
    injection hdrop with ho hr
    have hoi : ops[i]? = some o := by
      rw [← Array.getElem?_toList, List.getElem?_eq_getElem hlt, ho]
    simp only [vcDraw] at h
    split at h
    · rename_i hbar
      rw [forceNs_eq] at h
      split at h
      · rename_i h1 h2 h3
        simp only [forceSt_eq] at h
        exact ⟨[], st, .nil _, rfl, .nil _, .inr ⟨o, r, _, rfl, hbar, rfl, h1, h2, h3, h⟩⟩
      · exact h.elim
    have one : vcStepG E C ops.toList (next + i) i done o st (fun st' done' => forceSt st' fun st' => vcDraw E C code ops.toList next r (i + 1) done' st' K) →
        ∃ steps stF, Run E C ops next steps st stF ∧ steps.map (·.1) = List.range' i steps.length ∧ Good ops done steps ∧
      ((steps.length = (o :: r).length ∧ K stF) ∨ ∃ o' r' anc, (o :: r).drop steps.length = o' :: r' ∧ barO E C o' stF = true ∧ anc = ancOf (steps.reverse ++ done) (predsL o'.after.toList) ∧ allLt (i + steps.length) (predsL o'.after.toList) = true ∧ allAnc anc (steps.reverse ++ done) = true ∧ laterB (i + steps.length) r' = true ∧
        vcAct E C true code (next + (i + steps.length)) o' stF fun st' => vcDraw E C code ops.toList next r' (i + steps.length + 1) ((i + steps.length, barFP anc) :: (steps.reverse ++ done)) st' K) := by
      intro h
      have h : ∃ orc, vcStepH E C orc ops.toList (next + i) i done o st (fun st' done' => forceSt st' fun st' => vcDraw E C code ops.toList next r (i + 1) done' st' K) := by
        unfold vcStepG at h
        split at h
        · obtain ⟨y, h⟩ := h; exact ⟨_, h⟩
        · exact ⟨_, h⟩
      obtain ⟨orc, h⟩ := h
      unfold vcStepH at h
      split at h
      · rename_i c st' R W hs
        simp only [forceFP_eq] at h
        split at h
        · rename_i h1 h2
          have h : c.holds ∧ vcDraw E C code ops.toList next r (i + 1) ((i, fpOf ops.toList done o R W) :: done) st' K := by
            cases c with
            | b c => cases c with
              | true => exact ⟨rfl, by simpa only [br, forceSt_eq] using h⟩
              | false => exact h.elim
            | p c => exact ⟨h.1, by simpa only [forceSt_eq] using h.2⟩
          obtain ⟨hc, h⟩ := h
          obtain ⟨steps, stF, hrun, hkeys, hg, hend⟩ := ih (i + 1) _ st' hr h
          have e1 : i + 1 + steps.length = i + (steps.length + 1) := by omega
          have e2 : ((i, fpOf ops.toList done o R W) :: steps).reverse ++ done = steps.reverse ++ (i, fpOf ops.toList done o R W) :: done := by simp
          refine ⟨(i, fpOf ops.toList done o R W) :: steps, stF, .cons ⟨o, c, orc, hoi, hs, hc, rfl, rfl⟩ hrun, ?_, .cons o hoi rfl h1 h2 hg, ?_⟩
          · rw [List.map_cons, hkeys, List.length_cons, List.range'_succ]
          · rw [e2]
            rw [e1] at hend
            simpa only [List.length_cons, List.drop_succ_cons, Nat.add_right_cancel_iff] using hend
        · exact h.elim
      · exact h.elim
    split at h
    · exact one h
    · split at h
      · rename_i d hd
        split at h
        · rename_i b hb
          cases b with
          | true => simp only [br] at h; rw [set_same st d hb] at h; exact one h
          | false => simp only [br] at h; rw [set_same st d hb] at h; exact one h
        · exact one h
      · exact h.elim

theorem chkD_spec {fp : FP} : ∀ {l : List (Nat × FP)}, chkD fp l = true → ∀ p ∈ l, p.1 ∈ fp.anc ∨ indepB p.2 fp = true := by
  intro l
  induction l with
  | nil => intro _ p hp; cases hp
  | cons q r ih =>
    intro h p hp
    simp only [chkD] at h
    split at h
    · rename_i hm
      rcases List.mem_cons.1 hp with rfl | hp
      · exact .inl (memN_spec.1 hm)
      · exact ih h p hp
    · split at h
      · rename_i hi
        rcases List.mem_cons.1 hp with rfl | hp
        · exact .inr hi
        · exact ih h p hp
      · cases h

theorem ancAt_spec {j : Nat} : ∀ {l : List (Nat × FP)} {x : Nat}, x ∈ ancAt l j → ∃ p ∈ l, p.1 = j ∧ x ∈ p.2.anc := by
  intro l
  induction l with
  | nil => intro x h; cases h
  | cons q r ih =>
    intro x h
    simp only [ancAt] at h
    split at h
    · rename_i hb; exact ⟨q, by simp, Nat.eq_of_beq_eq_true hb, h⟩
    · obtain ⟨p, hp, h1, h2⟩ := ih h; exact ⟨p, by simp [hp], h1, h2⟩

theorem ancOf_spec {done : List (Nat × FP)} : ∀ {l : List Nat} {x : Nat}, x ∈ ancOf done l → x ∈ l ∨ ∃ p ∈ done, p.1 ∈ l ∧ x ∈ p.2.anc := by
  intro l
  induction l with
  | nil => intro x h; cases h
  | cons j r ih =>
    intro x h
    simp only [ancOf] at h
    rcases uni_spec h with h | h
    · rcases List.mem_cons.1 h with rfl | h
      · exact .inl (by simp)
      · obtain ⟨p, hp, h1, h2⟩ := ancAt_spec h
        exact .inr ⟨p, hp, by simp [h1], h2⟩
    · rcases ih h with h | ⟨p, hp, h1, h2⟩
      · exact .inl (by simp [h])
      · exact .inr ⟨p, hp, by simp [h1], h2⟩

theorem allLt_spec {i : Nat} : ∀ {l : List Nat}, allLt i l = true → ∀ j ∈ l, j < i := by
  intro l
  induction l with
  | nil => intro _ j hj; cases hj
  | cons k r ih =>
    intro h j hj
    simp only [allLt] at h
    split at h
    · rename_i hb
      rcases List.mem_cons.1 hj with rfl | hj
      · simpa [Nat.blt_eq] using hb
      · exact ih h j hj
    · cases h

theorem predsL_spec : ∀ {l : List Edge} {e : Edge}, e ∈ l → Region.binds .any e = true → e.on ∈ predsL l := by
  intro l
  induction l with
  | nil => intro e h _; cases h
  | cons x r ih =>
    intro e h hb
    simp only [predsL]
    rcases List.mem_cons.1 h with rfl | h
    · rw [hb]; simp
    · have := ih h hb
      split <;> simp [this]

theorem predsL_inv : ∀ {l : List Edge} {j : Nat}, j ∈ predsL l → ∃ e ∈ l, Region.binds .any e = true ∧ e.on = j := by
  intro l
  induction l with
  | nil => intro j h; cases h
  | cons x r ih =>
    intro j h
    simp only [predsL] at h
    split at h
    · rename_i hb
      rcases List.mem_cons.1 h with rfl | h
      · exact ⟨x, by simp, hb, rfl⟩
      · obtain ⟨e, he, h1, h2⟩ := ih h; exact ⟨e, by simp [he], h1, h2⟩
    · obtain ⟨e, he, h1, h2⟩ := ih h; exact ⟨e, by simp [he], h1, h2⟩

/-- What the list of steps bears as a whole. -/
structure Pend (ops : Array Oper) (N : Nat) (all : List (Nat × FP)) : Prop where
  keys : all.map (·.1) = List.range N
  anc : ∀ q ∈ all, ∃ o, ops[q.1]? = some o ∧ (∀ j ∈ predsL o.after.toList, j < q.1) ∧ ∀ j ∈ q.2.anc, j ∈ predsL o.after.toList ∨ ∃ p ∈ all, p.1 ∈ predsL o.after.toList ∧ j ∈ p.2.anc
  pair : all.Pairwise fun p q => p.1 ∈ q.2.anc ∨ indepB p.2 q.2 = true

theorem Good.pair {ops : Array Oper} {done steps : List (Nat × FP)} (h : Good ops done steps) : (∀ p ∈ done, ∀ q ∈ steps, p.1 ∈ q.2.anc ∨ indepB p.2 q.2 = true) ∧ steps.Pairwise fun p q => p.1 ∈ q.2.anc ∨ indepB p.2 q.2 = true := by
  induction h with
  | nil => exact ⟨fun _ _ q hq => (by cases hq), .nil⟩
  | cons o h1 h2 h3 h4 _ ih =>
    obtain ⟨i1, i2⟩ := ih
    refine ⟨fun p hp q hq => ?_, .cons (fun q hq => i1 _ (by simp) q hq) i2⟩
    rcases List.mem_cons.1 hq with rfl | hq
    · exact chkD_spec h4 p hp
    · exact i1 p (by simp [hp]) q hq

theorem Good.anc {ops : Array Oper} {done steps : List (Nat × FP)} (h : Good ops done steps) : ∀ q ∈ steps, ∃ o, ops[q.1]? = some o ∧ (∀ j ∈ predsL o.after.toList, j < q.1) ∧ ∀ j ∈ q.2.anc, j ∈ predsL o.after.toList ∨ ∃ p, (p ∈ done ∨ p ∈ steps) ∧ p.1 ∈ predsL o.after.toList ∧ j ∈ p.2.anc := by
  induction h with
  | nil => intro q hq; cases hq
  | cons o h1 h2 h3 h4 _ ih =>
    intro q hq
    rcases List.mem_cons.1 hq with rfl | hq
    · refine ⟨o, h1, allLt_spec h3, fun j hj => ?_⟩
      rw [h2] at hj
      rcases ancOf_spec hj with h | ⟨p, hp, h5, h6⟩
      · exact .inl h
      · exact .inr ⟨p, .inl hp, h5, h6⟩
    · obtain ⟨o', h5, h6, h7⟩ := ih q hq
      refine ⟨o', h5, h6, fun j hj => ?_⟩
      rcases h7 j hj with h | ⟨p, hp, h8, h9⟩
      · exact .inl h
      · refine .inr ⟨p, ?_, h8, h9⟩
        rcases hp with hp | hp
        · rcases List.mem_cons.1 hp with rfl | hp
          · exact .inr (by simp)
          · exact .inl hp
        · exact .inr (by simp [hp])

theorem Good.pend {ops : Array Oper} {N : Nat} {steps : List (Nat × FP)} (h : Good ops [] steps) (hk : steps.map (·.1) = List.range N) : Pend ops N steps := by
  refine ⟨hk, fun q hq => ?_, h.pair.2⟩
  obtain ⟨o, h1, h2, h3⟩ := h.anc q hq
  refine ⟨o, h1, h2, fun j hj => ?_⟩
  rcases h3 j hj with h | ⟨p, hp, h4, h5⟩
  · exact .inl h
  · rcases hp with hp | hp
    · cases hp
    · exact .inr ⟨p, hp, h4, h5⟩

theorem Good.append {ops : Array Oper} {done l1 l2 : List (Nat × FP)} (h : Good ops done l1) (h2 : Good ops (l1.reverse ++ done) l2) : Good ops done (l1 ++ l2) := by
  induction h with
  | nil => exact h2
  | cons o a b c d _ ih => exact .cons o a b c d (ih (by simpa using h2))

section
variable {B : Nat} {S0 : Nat → Prop} {w0 : World} {gv : Gv}

theorem key_inj {all : List (Nat × FP)} {n : Nat} (h : all.map (·.1) = List.range n) {p q : Nat × FP} (hp : p ∈ all) (hq : q ∈ all) (he : p.1 = q.1) : p = q := by
  have nd : (all.map (·.1)).Nodup := by rw [h]; exact List.nodup_range
  clear h
  induction all with
  | nil => cases hp
  | cons x r ih =>
    simp only [List.map_cons, List.nodup_cons] at nd
    rcases List.mem_cons.1 hp with h1 | h1 <;> rcases List.mem_cons.1 hq with h2 | h2
    · rw [h1, h2]
    · exact absurd (by rw [← h1, he]; exact List.mem_map_of_mem h2) nd.1
    · exact absurd (by rw [← h2, ← he]; exact List.mem_map_of_mem h1) nd.1
    · exact ih h1 h2 nd.2

theorem wpAny_of {r : Option Nat} (tab : TabOk P E) (hC : CtxOk P E C) {ops : Array Oper} {next N : Nat} {all : List (Nat × FP)} (pd : Pend ops N all) {Q : Exit → Act → World → Prop} {stF : St E.T}
    (hblk : ∀ listed : Array Bool, listed.size = ops.size → (∀ i, N ≤ i → i < ops.size → listed.getD i true = false) → (∀ q ∈ all, listed.getD q.1 true = true → ∀ j ∈ q.2.anc, j < N → listed.getD j true = true) → ∀ i ∈ Region.ready .any ops listed, N ≤ i → ∀ j, j < N → listed.getD j true = true)
    (hend : ∀ (listed : Array Bool) (σ : Nat → Option Nat) (a : Act) (w : World), listed.size = ops.size → (∀ j, listed.getD j true = false ↔ (N ≤ j ∧ j < ops.size)) → Gam E B S0 w0 gv σ stF a w → wpAnyIn (Fr r) 0 P .any ops Q (ops.size - N) listed a w) :
    ∀ (fuel : Nat) (rem : List (Nat × FP)) (listed : Array Bool) (σ : Nat → Option Nat) (st : St E.T) (a : Act) (w : World), rem.length = fuel → rem.Sublist all → listed.size = ops.size →
      (∀ i, listed.getD i true = false ↔ (i ∈ rem.map (·.1) ∨ (N ≤ i ∧ i < ops.size))) → (∀ q ∈ all, q.1 ∉ rem.map (·.1) → ∀ j ∈ q.2.anc, j ∉ rem.map (·.1)) →
      Run E C ops next rem st stF → Gam E B S0 w0 gv σ st a w → wpAnyIn (Fr r) 0 P .any ops Q (fuel + (ops.size - N)) listed a w := by
  have lists : ∀ (listed : Array Bool) (rem : List (Nat × FP)), listed.size = ops.size → (∀ i, listed.getD i true = false ↔ (i ∈ rem.map (·.1) ∨ (N ≤ i ∧ i < ops.size))) → ∀ j, listed.getD j false = true ↔ (j < ops.size ∧ j ∉ rem.map (·.1) ∧ j < N) := by
    intro listed rem hs hl j
    by_cases hj : j < listed.size
    · have := hl j
      simp only [Array.getD, hj, dite_true] at this ⊢
      rw [hs] at hj
      cases hb : listed.getInternal j (by omega) with
      | true => rw [hb] at this; simp only [Bool.true_eq_false, false_iff, not_or, not_and, Nat.not_lt] at this; simp only [true_iff]; exact ⟨hj, this.1, by have := this.2; omega⟩
      | false => rw [hb] at this; simp only [true_iff] at this; simp only [Bool.false_eq_true, false_iff]; rintro ⟨_, h1, h2⟩; rcases this with h | h; exact h1 h; omega
    · have : ¬ j < ops.size := by omega
      simp [Array.getD, hj, this]
  have below : ∀ q ∈ all, q.1 < N := fun q hq => by have := List.mem_map_of_mem (f := fun x : Nat × FP => x.1) hq; rw [pd.keys] at this; exact List.mem_range.1 this
  have nd : (all.map (·.1)).Nodup := by rw [pd.keys]; exact List.nodup_range
  intro fuel
  induction fuel with
  | zero =>
    intro rem listed σ st a w hlen hsub hsz hl hcl hrun g
    have : rem = [] := List.length_eq_zero_iff.1 hlen
    subst this
    cases hrun
    rw [Nat.zero_add]
    exact hend listed σ a w hsz (fun j => by rw [hl j]; simp) g
  | succ n ih =>
    intro rem listed σ st a w hlen hsub hsz hl hcl hrun g
    have hL := lists listed rem hsz hl
    rw [Nat.succ_add]
    refine ⟨fun h0 => ?_, fun i hi => ?_⟩
    · -- the first one is ready
      exfalso
      cases rem with
      | nil => simp at hlen
      | cons p r =>
        have hp : p ∈ all := hsub.subset (by simp)
        obtain ⟨o, h1, h2, _⟩ := pd.anc p hp
        have hsorted : (all.map (·.1)).Pairwise (· < ·) := by rw [pd.keys]; exact List.pairwise_lt_range
        have hs2 : ((p :: r).map (·.1)).Pairwise (· < ·) := hsorted.sublist (hsub.map _)
        have : p.1 ∈ Region.ready .any ops listed := by
          rw [mem_ready]
          refine ⟨(hl p.1).2 (by simp), o, h1, fun e he hb => ?_⟩
          have hlt := h2 e.on (predsL_spec (by simpa using he) hb)
          rw [hL]
          refine ⟨Nat.lt_trans hlt (Array.getElem?_eq_some_iff.1 h1).1, fun hm => ?_, Nat.lt_trans hlt (below p hp)⟩
          rw [List.map_cons, List.pairwise_cons] at hs2
          rw [List.map_cons, List.mem_cons] at hm
          rcases hm with hm | hm
          · omega
          · have := hs2.1 _ hm; omega
        rw [h0] at this
        cases this
    · obtain ⟨hi0, o, ho, hpre⟩ := mem_ready.1 hi
      have hmem : i ∈ rem.map (·.1) := by
        rcases (hl i).1 hi0 with h | h
        · exact h
        exfalso
        cases rem with
        | nil => simp at hlen
        | cons p r =>
          have hp : p ∈ all := hsub.subset (by simp)
          have h1 := hblk listed hsz (fun i h1 h2 => (hl i).2 (.inr ⟨h1, h2⟩)) (fun q hq hql j hj hjN => ?_) i hi h.1 p.1 (below p hp)
          · rw [(hl p.1).2 (by simp)] at h1; cases h1
          · have hq2 : q.1 ∉ (p :: r).map (·.1) := fun hm => by rw [(hl q.1).2 (.inl hm)] at hql; cases hql
            have hj2 := hcl q hq hq2 j hj
            cases hb : listed.getD j true with
            | true => rfl
            | false => rcases (hl j).1 hb with h | h
                       · exact absurd h hj2
                       · omega
      obtain ⟨p, hp, rfl⟩ := List.mem_map.1 hmem
      obtain ⟨l1, l2, rfl⟩ := List.append_of_mem hp
      have hpa : p ∈ all := hsub.subset hp
      obtain ⟨o', ho', hlt, hanc⟩ := pd.anc p hpa
      rw [ho] at ho'
      cases ho'
      have hfree : ∀ j ∈ p.2.anc, j ∉ (l1 ++ p :: l2).map (·.1) := by
        intro j hj
        rcases hanc j hj with h | ⟨q, hq, h1, h2⟩
        · obtain ⟨e, he, hb, rfl⟩ := predsL_inv h
          exact ((hL _).1 (hpre e (by simpa using he) hb)).2.1
        · obtain ⟨e, he, hb, h3⟩ := predsL_inv h1
          refine hcl q hq ?_ j h2
          rw [← h3]
          exact ((hL _).1 (hpre e (by simpa using he) hb)).2.1
      have hpair : (l1 ++ p :: l2).Pairwise fun p q => p.1 ∈ q.2.anc ∨ indepB p.2 q.2 = true := pd.pair.sublist hsub
      have hind : ∀ q ∈ l1, indepB q.2 p.2 = true := by
        intro q hq
        rw [List.pairwise_append] at hpair
        rcases hpair.2.2 q hq p (by simp) with h | h
        · exact absurd (List.mem_map_of_mem (f := fun x : Nat × FP => x.1) (a := q) (List.mem_append_left _ hq)) (hfree _ h)
        · exact h
      obtain ⟨st1, hs1, hrun1⟩ := run_bubble hrun hind
      refine step_wp tab hC g hs1 ?_
      intro a' w' σ' g'
      have hsub2 : (l1 ++ l2).Sublist (l1 ++ p :: l2) := List.Sublist.append (List.Sublist.refl _) (List.sublist_cons_self _ _)
      have hnd : ((l1 ++ p :: l2).map (·.1)).Nodup := nd.sublist (hsub.map _)
      have hp0 : p.1 ∉ (l1 ++ l2).map (·.1) := by
        intro hm
        simp only [List.map_append, List.map_cons] at hnd hm
        rw [List.nodup_append] at hnd
        obtain ⟨n1, n2, n3⟩ := hnd
        rw [List.nodup_cons] at n2
        rcases List.mem_append.1 hm with hm | hm
        · exact n3 _ hm _ (by simp) rfl
        · exact n2.1 hm
      refine ih (l1 ++ l2) _ σ' st1 a' w' (by simp at hlen ⊢; omega) (hsub2.trans hsub) (by simp [hsz]) ?_ ?_ hrun1 g'
      · intro j
        by_cases hj : p.1 = j
        · subst hj
          have hlt2 : p.1 < listed.size := by rw [hsz]; exact (Array.getElem?_eq_some_iff.1 ho).1
          have := below p hpa
          simp only [hp0, false_or]
          simp [hlt2]
          omega
        · rw [getD_set_ne true hj, hl j]
          simp only [List.map_append, List.map_cons, List.mem_append, List.mem_cons]
          constructor
          · rintro ((h | h | h) | h)
            · exact .inl (.inl h)
            · exact absurd h.symm hj
            · exact .inl (.inr h)
            · exact .inr h
          · rintro ((h | h) | h)
            · exact .inl (.inl h)
            · exact .inl (.inr (.inr h))
            · exact .inr h
      · intro q hq hqn j hj hjm
        have hjm2 : j ∈ (l1 ++ p :: l2).map (·.1) := (hsub2.map _).subset hjm
        by_cases hqp : q.1 = p.1
        · have := key_inj pd.keys hq hpa hqp
          subst this
          exact hfree j hj hjm2
        · refine hcl q hq ?_ j hj hjm2
          intro hm
          apply hqn
          simp only [List.map_append, List.map_cons, List.mem_append, List.mem_cons] at hm ⊢
          rcases hm with h | h | h
          · exact .inl h
          · exact absurd h hqp
          · exact .inr h

theorem Gam.drew {σ : Nat → Option Nat} {st : St E.T} {a : Act} {w : World} (g : Gam E B S0 w0 gv σ st a w) : Gam E B S0 w0 gv σ st a { w with drawn := w.drawn + 1 } :=
  (g.below_call (Below.drew (Below.refl _ w))).1

theorem draw_rest {r : Option Nat} (tab : TabOk P E) (hC : CtxOk P E C) {code : Nat → Code → St E.T → (Ex → St E.T → Prop) → Prop} (hcode : CallOk P E C code) (hround : RoundOk P E code) {ops : Array Oper} {next : Nat} {K : Ex → St E.T → Prop} : ∀ (n i : Nat) (D : List (Nat × FP)) (st : St E.T) (listed : Array Bool) (σ : Nat → Option Nat) (a : Act) (w : World),
    ops.size - i = n → i ≤ ops.size → Good ops [] D → D.map (·.1) = List.range i → listed.size = ops.size → (∀ j, listed.getD j true = false ↔ (i ≤ j ∧ j < ops.size)) → Gam E B S0 w0 gv σ st a w → vcDraw E C code ops.toList next (ops.toList.drop i) i D.reverse st (K .normal) →
    wpAnyIn (Fr r) 0 P .any ops (PostQ E B S0 w0 gv K) (ops.size - i) listed a w := by
  intro n
  induction n using Nat.strongRecOn with
  | _ n IH =>
  intro i D st listed σ a w hn hi hgD hkD hsz hl g h
  obtain ⟨steps, stF, hrun, hkeys, hgood, hfin⟩ := vcDraw_run _ i _ _ rfl h
  have hga : Good ops [] (D ++ steps) := hgD.append (by simpa using hgood)
  have hka : (D ++ steps).map (·.1) = List.range (i + steps.length) := by
    rw [List.map_append, hkD, hkeys, List.range_eq_range', List.range_eq_range', ← List.range'_append]; simp
  have pd := hga.pend hka
  have hlen : (ops.toList.drop i).length = ops.size - i := by simp
  have hN : i + steps.length ≤ ops.size := by
    rcases hfin with ⟨h1, _⟩ | ⟨o, r', anc, h1, _⟩
    · rw [hlen] at h1; omega
    · have := congrArg List.length h1
      simp only [List.length_drop, List.length_cons, Array.length_toList] at this
      omega
  have hsplit : ops.size - i = steps.length + (ops.size - (i + steps.length)) := by omega
  rw [hsplit]
  refine wpAny_of tab hC pd (stF := stF) ?_ ?_ steps.length steps listed σ st a w rfl (List.sublist_append_right _ _) hsz ?_ ?_ hrun g
  · intro lst hs hun hclo k hk hNk j hj
    obtain ⟨hk0, ok, hok, hpre⟩ := mem_ready.1 hk
    have hksz := (Array.getElem?_eq_some_iff.1 hok).1
    have getT : ∀ e, lst.getD e false = true → lst.getD e true = true ∧ e < ops.size := by
      intro e he
      by_cases hj : e < lst.size
      · simp only [Array.getD, hj, dite_true] at he ⊢; exact ⟨he, by omega⟩
      · simp [Array.getD, hj] at he
    rcases hfin with ⟨h1, _⟩ | ⟨o, r', anc, h1, hbar, hanc, hlt, hall, hlat, _⟩
    · rw [hlen] at h1; omega
    · have hr' : ops.toList.drop (i + steps.length) = o :: r' := by rw [← List.drop_drop]; exact h1
      rcases Nat.eq_or_lt_of_le hNk with he | hgt
      · subst he
        have : o = ok := by
          have h3 : (ops.toList.drop (i + steps.length))[0]? = some o := by rw [hr']; rfl
          rw [List.getElem?_drop, Nat.add_zero, Array.getElem?_toList, hok] at h3
          exact (Option.some.inj h3).symm
        subst this
        have hm : ∃ p ∈ steps.reverse ++ D.reverse, p.1 = j := by
          have : j ∈ (D ++ steps).map (·.1) := by rw [hka]; exact List.mem_range.2 hj
          obtain ⟨p, hp, rfl⟩ := List.mem_map.1 this
          exact ⟨p, by simp at hp ⊢; exact hp.symm, rfl⟩
        obtain ⟨p, hp, rfl⟩ := hm
        have hja := allAnc_spec hall p hp
        rw [hanc] at hja
        rcases ancOf_spec hja with hja | ⟨q, hq, h3, h4⟩
        · obtain ⟨e, he, hb, h5⟩ := predsL_inv hja
          rw [← h5]
          exact (getT _ (hpre e (by simpa using he) hb)).1
        · obtain ⟨e, he, hb, h5⟩ := predsL_inv h3
          refine hclo q (by simp at hq ⊢; exact hq.symm) ?_ _ h4 hj
          rw [← h5]
          exact (getT _ (hpre e (by simpa using he) hb)).1
      · exfalso
        have hmem : ok ∈ r' := by
          have h3 : (ops.toList.drop (i + steps.length))[k - (i + steps.length)]? = some ok := by
            rw [List.getElem?_drop, show i + steps.length + (k - (i + steps.length)) = k by omega, Array.getElem?_toList, hok]
          rw [hr', show k - (i + steps.length) = (k - (i + steps.length) - 1) + 1 by omega, List.getElem?_cons_succ] at h3
          exact List.mem_of_getElem? h3
        obtain ⟨j2, hj2, hge⟩ := laterB_spec hlat ok hmem
        obtain ⟨e, he, hb, h5⟩ := predsL_inv hj2
        obtain ⟨h6, h7⟩ := getT _ (hpre e (by simpa using he) hb)
        rw [hun e.on (by omega) h7] at h6
        cases h6
  · intro lst σ' a' w' hs hl' g'
    rcases hfin with ⟨h1, hk⟩ | ⟨o, r', anc, h1, hbar, hanc, hlt, hall, hlat, hact⟩
    · have h0 : ops.size - (i + steps.length) = 0 := by rw [hlen] at h1; omega
      rw [h0]
      refine ⟨?_, ⟨.normal, _, σ', trivial, g', hk⟩⟩
      rw [List.eq_nil_iff_forall_not_mem]
      intro j hj
      have := (hl' j).1 (mem_ready.1 hj).1
      omega
    · have hr' : ops.toList.drop (i + steps.length) = o :: r' := by rw [← List.drop_drop]; exact h1
      have hoi : ops[i + steps.length]? = some o := by
        have h3 : (ops.toList.drop (i + steps.length))[0]? = some o := by rw [hr']; rfl
        rw [List.getElem?_drop, Nat.add_zero, Array.getElem?_toList] at h3
        exact h3
      have hNs := (Array.getElem?_eq_some_iff.1 hoi).1
      have getF : ∀ e, lst.getD e false = true ↔ e < i + steps.length := by
        intro e
        have := hl' e
        by_cases hj : e < lst.size
        · simp only [Array.getD, hj, dite_true] at this ⊢
          cases hb : lst.getInternal e hj with
          | true => rw [hb] at this; simp only [Bool.true_eq_false, false_iff, not_and, Nat.not_lt] at this; simp only [true_iff]; omega
          | false => rw [hb] at this; simp only [true_iff] at this; simp only [Bool.false_eq_true, false_iff]; omega
        · simp only [Array.getD, hj, dite_false, Bool.false_eq_true, false_iff]; omega
      have hready : i + steps.length ∈ Region.ready .any ops lst := by
        rw [mem_ready]
        refine ⟨(hl' _).2 ⟨Nat.le_refl _, hNs⟩, o, hoi, fun e he hb => (getF _).2 (allLt_spec hlt _ (predsL_spec (by simpa using he) hb))⟩
      rw [show ops.size - (i + steps.length) = (ops.size - (i + steps.length + 1)) + 1 by omega]
      refine ⟨fun h0 => (by rw [h0] at hready; cases hready), fun k hk => ?_⟩
      obtain ⟨hk0, ok, hok, hpre⟩ := mem_ready.1 hk
      obtain ⟨hk1, hk2⟩ := (hl' k).1 hk0
      have hkN : k = i + steps.length := by
        rcases Nat.eq_or_lt_of_le hk1 with he | hgt
        · exact he.symm
        · exfalso
          have hmem : ok ∈ r' := by
            have h3 : (ops.toList.drop (i + steps.length))[k - (i + steps.length)]? = some ok := by
              rw [List.getElem?_drop, show i + steps.length + (k - (i + steps.length)) = k by omega, Array.getElem?_toList, hok]
            rw [hr', show k - (i + steps.length) = (k - (i + steps.length) - 1) + 1 by omega, List.getElem?_cons_succ] at h3
            exact List.mem_of_getElem? h3
          obtain ⟨j2, hj2, hge⟩ := laterB_spec hlat ok hmem
          obtain ⟨e, he, hb, h5⟩ := predsL_inv hj2
          have := (getF _).1 (hpre e (by simpa using he) hb)
          omega
      subst hkN
      have hop : vcOp E (vcAct E C true code) ops.toList (next + (i + steps.length)) o stF (fun st' => vcDraw E C code ops.toList next r' (i + steps.length + 1) ((i + steps.length, barFP anc) :: (steps.reverse ++ D.reverse)) st' (K .normal)) := by
        unfold vcOp
        rw [barO_guard hbar]
        exact hact
      have hw := vcOp_ok (vcAct_ok tab hC hcode hround true) r _ _ _ _ _ ops _ _ _ _ _ _ (PostQ E B S0 w0 gv K) g' hop
      have hfinish : ∀ a2 w2, NextQ E B S0 w0 gv (fun st' => vcDraw E C code ops.toList next r' (i + steps.length + 1) ((i + steps.length, barFP anc) :: (steps.reverse ++ D.reverse)) st' (K .normal)) a2 w2 → wpAnyIn (Fr r) 0 P .any ops (PostQ E B S0 w0 gv K) (ops.size - (i + steps.length + 1)) (lst.setIfInBounds (i + steps.length) true) a2 w2 := by
        rintro a2 w2 ⟨st2, σ2, g2, h2⟩
        refine IH (ops.size - (i + steps.length + 1)) (by omega) (i + steps.length + 1) (D ++ steps ++ [(i + steps.length, barFP anc)]) st2 _ σ2 a2 w2 rfl hNs ?_ ?_ (by simp [hs]) ?_ g2 ?_
        · refine hga.append (.cons o hoi ?_ hlt (chkD_of ?_) (.nil _))
          · simp only [barFP, List.reverse_append, List.append_nil]; exact hanc
          · intro p hp
            exact allAnc_spec hall p (by simpa using hp)
        · rw [List.map_append, hka]; simp [List.range_succ]
        · intro j
          by_cases hj : i + steps.length = j
          · subst hj
            have hlt2 : i + steps.length < lst.size := by omega
            simp [hlt2]
            omega
          · rw [getD_set_ne true hj, hl' j]
            omega
        · have : ops.toList.drop (i + steps.length + 1) = r' := by rw [← List.drop_drop, hr']; rfl
          rw [this]
          simpa using h2
      unfold wpOpIn
      rw [hoi]
      simp only
      split
      · rename_i hwd
        rw [if_pos hwd] at hw
        exact Oper.wpIn_mono hfinish hw
      · rename_i hwd
        rw [if_neg hwd] at hw
        exact ⟨fun _ _ => trivial, hfinish _ _ hw⟩
  · intro j
    rw [hl j, hkeys, List.mem_range'_1]
    omega
  · intro q hq hqn j hj hjm
    -- what is listed has its forerunners listed
    have hqD : q.1 < i := by
      have : q.1 ∈ (D ++ steps).map (·.1) := List.mem_map_of_mem hq
      rw [hka, List.mem_range] at this
      rw [hkeys, List.mem_range'_1] at hqn
      omega
    rw [hkeys, List.mem_range'_1] at hjm
    have lt : ∀ (m : Nat) (q : Nat × FP), q ∈ D ++ steps → q.1 ≤ m → ∀ j ∈ q.2.anc, j < q.1 := by
      intro m
      induction m with
      | zero =>
        intro q hq hm j hj
        obtain ⟨o, _, h2, h3⟩ := pd.anc q hq
        rcases h3 j hj with h | ⟨p, hp, h4, h5⟩
        · exact h2 j h
        · have := h2 _ h4; omega
      | succ m ihm =>
        intro q hq hm j hj
        obtain ⟨o, _, h2, h3⟩ := pd.anc q hq
        rcases h3 j hj with h | ⟨p, hp, h4, h5⟩
        · exact h2 j h
        · have h6 := h2 _ h4
          have := ihm p hp (by omega) j h5
          omega
    have := lt q.1 q hq (Nat.le_refl _) j hj
    omega

theorem draw_ok (tab : TabOk P E) (hC : CtxOk P E C) : DrawOk P E C := by
  intro code hcode hround r ops id B S0 w0 gv σ st K a w g h
  refine wpIn_region_any tab.mixed ?_
  have g1 := (g.slots ops.toList).drew
  have := draw_rest (r := r) tab hC hcode hround ops.size 0 [] _ (Array.replicate ops.size false) σ _ _ rfl (Nat.zero_le _) (.nil _) rfl (by simp) (fun j => ?_) g1 h
  · simpa using this
  · by_cases hj : j < ops.size
    · simp [hj]
    · simp [hj]
end
end Go.Vg
