/-
  The executor is right: operations in a region. Own work; no condition.
-/
import Derived.Test.YtkaodeodiakldaaVgYl
namespace Go.Vg
open Go.RowKit
variable {P : Program} {E : Env}
section
variable {B : Nat} {S0 : Nat → Prop} {w0 : World} {gv : Gv} {σ : Nat → Option Nat} {st : St E.T} {a : Act} {w w' : World}

theorem run_eq_slice {t e : Nat} (hu : P.underlying t = some (.slice e)) (ad : Option Addr) (n c : Nat) (w : World) : (Op.equal t (.slice ad n c) (.slice none 0 0)).run P w = .ok ad.isNone w := by
  have : Op.equal t (.slice ad n c) (.slice none 0 0) = Op.equalIn (9999 + 1) t (.slice ad n c) (.slice none 0 0) := rfl
  rw [this]; unfold Op.equalIn; cases ad <;> simp [run_underlying hu]

theorem run_binOp_eqs {t e : Nat} (hu : P.underlying t = some (.slice e)) (ad : Option Addr) (n c : Nat) (w : World) : (binOp .eql t (.slice ad n c) (.slice none 0 0)).run P w = .ok (.bool ad.isNone) w := by
  have : binOp .eql t (.slice ad n c) (.slice none 0 0) = (do pure (.bool (← Op.equal t (.slice ad n c) (.slice none 0 0)))) := by unfold binOp; rfl
  rw [this, Sem.run_bind, run_eq_slice hu]; rfl

theorem run_binOp_neqs {t e : Nat} (hu : P.underlying t = some (.slice e)) (ad : Option Addr) (n c : Nat) (w : World) : (binOp .neq t (.slice ad n c) (.slice none 0 0)).run P w = .ok (.bool (!ad.isNone)) w := by
  have : binOp .neq t (.slice ad n c) (.slice none 0 0) = (do pure (.bool (!(← Op.equal t (.slice ad n c) (.slice none 0 0))))) := by unfold binOp; rfl
  rw [this, Sem.run_bind, run_eq_slice hu]; rfl

theorem nilCmp_spec (g : Gam E B S0 w0 gv σ st a w) {x y : SV E.T} {u v : Value} {r : Option Nat} (h : nilCmp st.heap x y = some r) (hx : RelS E st.heap σ w (sup E B S0 st.heap σ w) x u) (hy : RelS E st.heap σ w (sup E B S0 st.heap σ w) y v) :
    v = .slice none 0 0 ∧ ∃ ad n c, u = .slice ad n c ∧ (r = none → ad.isNone = true) ∧ ∀ m, r = some m → ad.isNone = true → m = 0 := by
  unfold nilCmp at h
  split at h
  · cases h; cases hx; cases hy; exact ⟨rfl, none, 0, 0, rfl, fun _ => rfl, fun m h => by cases h⟩
  · cases h; cases hy
    cases hx with
    | dat_nil => exact ⟨rfl, none, 0, 0, rfl, fun _ => rfl, fun m h _ => by cases h; rfl⟩
    | dat => exact ⟨rfl, some _, _, _, rfl, fun h => (by cases h), fun m h h2 => by cases h2⟩
  · rename_i id
    split at h
    · rename_i e l hl
      cases h; cases hy
      cases hx with
      | row_nil _ h1 h2 =>
        refine ⟨rfl, none, 0, 0, rfl, fun _ => rfl, fun m h _ => ?_⟩
        cases h
        rcases (g.blk id _ hl).2 with ⟨_, h3⟩ | ⟨k, arr, h3, _⟩
        · rw [h3]; rfl
        · rw [h2] at h3; cases h3
      | row => exact ⟨rfl, some _, _, _, rfl, fun h => (by cases h), fun m h h2 => by cases h2⟩
    · cases h
  · cases h

theorem vcAct_ok (tab : TabOk P E) {C : Ctx E} (hC : CtxOk P E C) {code : Nat → Code → St E.T → (Ex → St E.T → Prop) → Prop} (hcode : CallOk P E C code) (hround : RoundOk P E code) : ∀ fz, ActOk P E (vcAct E C fz code) := by
  intro fz
  intro r B S0 w0 gv σ fresh o st K a w Q g h
  unfold vcAct at h
  split at h
  · split at h
    · rename_i c ho
      split at h
      · rename_i fo hcal
        split at h
        · rename_i f caps hf
          have hfv := g.ev fo
          rw [hf] at hfv
          generalize hfe : a.eval fo = fv at hfv
          cases hfv with
          | fn _ _ vs hcaps =>
            have hargs := (evs_rel g c.args.toList).append hcaps
            split at h
            · exact h.elim
            · rename_i hrr
              obtain ⟨fn, h1, h2, h3, h4⟩ := vcCall_sound tab hC hcode g (fun e => by rw [hrr] at e; cases e) h hargs
              refine ⟨fun _ _ => trivial, ?_⟩
              rw [Oper.semAt_eq _ _ _ (fun c' hc' => by rw [ho] at hc'; cases hc'), run_call ho hcal hfe h1 h2 h3, Oper.uponIn_enter]
              refine ⟨fun h => (by cases h), calls_fr ?_⟩
              have : (List.map a.eval c.args.toList ++ vs.toList).toArray = c.args.map a.eval ++ vs := by simp
              rw [this] at h4
              refine h4.mono ?_
              rintro e w' ⟨v, s, st', σ', rfl, g', hr, hk⟩
              exact ⟨_, σ', g'.put o.dst hr, hk⟩
        · rename_i id hf
          exact vcYield_sound hround g ho hcal hf h (fun _ _ hk => hk)
        · exact h.elim
      · exact h.elim
    · exact h.elim
  · rename_i hfr
    split at h
    · rename_i cc n t cs hcr
      cases hc : cc with
      | false => rw [hc] at h; exact h.elim
      | true =>
        have hal : allocs o.op = true := by
          unfold crowB at hcr
          split at hcr
          · cases hcr
          · split at hcr
            · rename_i ho; rw [ho]; rfl
            · cases hcr
        obtain ⟨v, w', σ', h1, g', h2⟩ := crow_make tab g (freshOk_spec g hfr hal) hcr hc
        rw [hc] at h
        exact wp_of_yields (fun c hc' => by unfold crowB at hcr; rw [hc'] at hcr; split at hcr <;> cases hcr) (.inl h1) ⟨_, σ', g'.put o.dst h2, h⟩
    rename_i hcr
    split at h
    · rename_i out hout
      cases hc : out.cond with
      | false => rw [hc] at h; exact h.elim
      | true => rw [hc] at h; simp only [br, forceV_eq] at h; exact core_wp tab g hfr hout hc h
    · split at h
      · rename_i c ho
        split at h
        · rename_i fo hcal
          split at h
          · rename_i f caps hf
            have hfv := g.ev fo
            rw [hf] at hfv
            generalize hfe : a.eval fo = fv at hfv
            cases hfv with
            | fn _ _ vs hcaps =>
              have hargs := (evs_rel g c.args.toList).append hcaps
              obtain ⟨fn, h1, h2, h3, h4⟩ := vcCall_sound tab hC hcode g (fun _ => freshOk_spec g hfr (by rw [ho]; obtain ⟨_, _, _⟩ := c; simp only at hcal; rw [hcal]; rfl)) h hargs
              refine ⟨fun _ _ => trivial, ?_⟩
              rw [Oper.semAt_eq _ _ _ (fun c' hc' => by rw [ho] at hc'; cases hc'), run_call ho hcal hfe h1 h2 h3, Oper.uponIn_enter]
              refine ⟨fun h => (by cases h), calls_fr ?_⟩
              have : (List.map a.eval c.args.toList ++ vs.toList).toArray = c.args.map a.eval ++ vs := by simp
              rw [this] at h4
              refine h4.mono ?_
              rintro e w' ⟨v, s, st', σ', rfl, g', hr, hk⟩
              exact ⟨_, σ', g'.put o.dst hr, hk⟩
          · rename_i id hf
            exact vcYield_sound hround g ho hcal hf h (fun _ _ hk => hk)
          · exact h.elim
        · exact h.elim
      · rename_i op t x y ty ho
        split at h
        · rename_i e hel
          have hu := elem_spec tab hel
          have run : ∀ ad n c, a.eval x = .slice ad n c → a.eval y = .slice none 0 0 → (op = .eql → (execOp a.eval o).run P w = .ok (.value (.bool ad.isNone)) w) ∧ (op = .neq → (execOp a.eval o).run P w = .ok (.value (.bool (!ad.isNone))) w) := by
            intro ad n c hx hy
            refine ⟨fun he => ?_, fun he => ?_⟩ <;> subst he
            · simp only [execOp, ho, hx, hy, eqGuard_at_slice, Sem.run_bind, Sem.run_pure, Result.andThen_ok, run_binOp_eqs hu]
            · simp only [execOp, ho, hx, hy, eqGuard_at_slice, Sem.run_bind, Sem.run_pure, Result.andThen_ok, run_binOp_neqs hu]
          split at h
          · rename_i hn
            obtain ⟨h1, ad, n, c, h2, h3, _⟩ := nilCmp_spec g hn (g.ev x) (g.ev y)
            refine wp_of_yields (fun c hc' => by rw [ho] at hc'; cases hc') (.inl ((run ad n c h2 h1).1 rfl)) ⟨_, σ, g.put o.dst ?_, h⟩
            rw [h3 rfl]; exact .bool _
          · rename_i hn
            obtain ⟨h1, ad, n, c, h2, h3, _⟩ := nilCmp_spec g hn (g.ev x) (g.ev y)
            refine wp_of_yields (fun c hc' => by rw [ho] at hc'; cases hc') (.inl ((run ad n c h2 h1).2 rfl)) ⟨_, σ, g.put o.dst ?_, h⟩
            rw [h3 rfl]; exact .bool _
          · rename_i m hn
            obtain ⟨h1, ad, n, c, h2, _, h3⟩ := nilCmp_spec g hn (g.ev x) (g.ev y)
            exact wp_of_yields (fun c hc' => by rw [ho] at hc'; cases hc') (.inl ((run ad n c h2 h1).1 rfl)) ⟨_, σ, g.put o.dst (.bool _), h _ (h3 m rfl)⟩
          · rename_i m hn
            obtain ⟨h1, ad, n, c, h2, _, h3⟩ := nilCmp_spec g hn (g.ev x) (g.ev y)
            exact wp_of_yields (fun c hc' => by rw [ho] at hc'; cases hc') (.inl ((run ad n c h2 h1).2 rfl)) ⟨_, σ, g.put o.dst (.bool _), h _ (h3 m rfl)⟩
          · exact h.elim
        · exact h.elim
      · exact h.elim

/-- A guard's temporary, as it is. -/
theorem getD_of_bool {l : Array Value} {d : Nat} {b : Bool} (h : l.getD d undef = .bool b) : l[d]? = some (.bool b) := by
  rw [Array.getD_eq_getD_getElem?] at h
  cases hx : l[d]? with
  | none => rw [hx] at h; cases h
  | some v => rw [hx] at h; simp at h; rw [h]

/-- One operation with its guard, with what an act owes. -/
def vcOp_spec (P : Program) (E : Env) (op : List Oper → Nat → Oper → St E.T → (St E.T → Prop) → Prop) : Prop :=
  ∀ r B S0 w0 gv σ (ops : Array Oper) fresh o st K a w Q, Gam E B S0 w0 gv σ st a w → op ops.toList fresh o st K →
    if Region.wanted o (yielded ops a.tmps) then o.wpIn (Fr r) 0 P a w (NextQ E B S0 w0 gv K) Q else NextQ E B S0 w0 gv K (a.put o.dst undef) w

theorem vcOp_ok {act : Nat → Oper → St E.T → (St E.T → Prop) → Prop} (ha : ActOk P E act) : vcOp_spec P E (fun ops fresh o st K => vcOp E act ops fresh o st K) := by
  intro r B S0 w0 gv σ ops fresh o st K a w Q g h
  simp only [vcOp] at h
  split at h
  · rename_i hg
    have : Region.wanted o (yielded ops a.tmps) = true := by simp [Region.wanted, hg]
    rw [if_pos this]
    exact ha _ _ _ _ _ _ _ _ _ _ _ _ Q g h
  · rename_i j want hg
    split at h
    · rename_i d hd
      have hd' : (ops[j]?).bind (·.dst) = some d := by rw [← hd]; simp
      have hx := g.tmp.nth d
      have hxe : a.tmps.toList.getD d undef = a.tmps.getD d undef := by simp
      rw [hxe] at hx
      split at h
      · rename_i b hb
        rw [hb] at hx
        have hv := bool_inv hx
        have hget := getD_of_bool hv
        have hw : Region.wanted o (yielded ops a.tmps) = (b == want) := by
          simp only [Region.wanted, hg, yielded, hd', Option.bind_some, hget]
          cases b <;> cases want <;> rfl
        have gs : ∀ b', b' = b → Gam E B S0 w0 gv σ (st.set d (.bool b')) a w := fun b' hb' => g.set d (by rw [hv, hb']; exact .bool _)
        rw [hw]
        cases b <;> cases want <;> simp only [br] at h <;>
          first
            | (rw [show (true == true) = true from rfl, if_pos rfl]; exact ha _ _ _ _ _ _ _ _ _ _ _ _ Q (gs _ rfl) h)
            | (rw [show (false == false) = true from rfl, if_pos rfl]; exact ha _ _ _ _ _ _ _ _ _ _ _ _ Q (gs _ rfl) h)
            | (rw [if_neg (by decide)]; exact ⟨_, σ, (gs _ rfl).put o.dst undef_rel, h⟩)
      · rename_i hb
        rw [hb] at hx
        have hw : Region.wanted o (yielded ops a.tmps) = false := by
          simp only [Region.wanted, hg, yielded, hd', Option.bind_some]
          cases hx' : a.tmps[d]? with
          | none => simp
          | some v =>
            rw [Array.getD_eq_getD_getElem?, hx'] at hx
            simp only [Option.getD_some] at hx
            cases hx; simp
        rw [hw]
        exact ⟨_, σ, g.put o.dst undef_rel, h⟩
      · exact h.elim
    · exact h.elim

theorem vcOps_ok {r : Option Nat} {act : Nat → Oper → St E.T → (St E.T → Prop) → Prop} (ha : ActOk P E act) {ops : Array Oper} {next : Nat} {K : St E.T → Prop} {Q : Exit → Act → World → Prop} (hQ : ∀ a w, NextQ E B S0 w0 gv K a w → Q .normal a w) :
    ∀ (rest : List Oper) (i : Nat) {σ : Nat → Option Nat} {st : St E.T} {a : Act} {w : World}, ops.toList.drop i = rest → Gam E B S0 w0 gv σ st a w → vcOps E act ops.toList next rest i st K →
      wpOpsIn (Fr r) 0 P ops Q (List.range' i rest.length) a w := by
  intro rest
  induction rest with
  | nil => intro i σ st a w _ g h; exact hQ _ _ ⟨st, σ, g, h⟩
  | cons o rs ih =>
    intro i σ st a w hdrop g h
    have hlt : i < ops.toList.length := by
      rcases Nat.lt_or_ge i ops.toList.length with h | h
      · exact h
      · rw [List.drop_eq_nil_of_le h] at hdrop; cases hdrop
    rw [List.drop_eq_getElem_cons hlt] at hdrop
    injection hdrop with ho hr
    have hoi : ops[i]? = some o := by
      rw [← Array.getElem?_toList, List.getElem?_eq_getElem hlt, ho]
    rw [List.length_cons, List.range'_succ, wpOpsIn_cons]
    unfold wpOpIn
    rw [hoi]
    simp only
    simp only [vcOps, forceSt_eq] at h
    have := vcOp_ok ha r _ _ _ _ _ ops _ _ _ _ _ _ Q g h
    split
    · rename_i hw
      rw [if_pos hw] at this
      refine Oper.wpIn_mono ?_ this
      rintro a' w' ⟨st', σ', g', hk⟩
      exact ih (i + 1) hr g' hk
    · rename_i hw
      rw [if_neg hw] at this
      obtain ⟨st', σ', g', hk⟩ := this
      exact ⟨fun _ _ => trivial, ih (i + 1) hr g' hk⟩

theorem slots_look {T : Nat → Type} (next : Nat) : ∀ (ops : List Oper) (i : Nat) (H : List (Nat × HS T)), (∀ id, look H id ≠ .free → id < next) → ∀ id, look (slots next ops i ++ H) id = look H id := by
  intro ops
  induction ops with
  | nil => intro i H _ id; rfl
  | cons o r ih =>
    intro i H h id
    simp only [slots]
    split
    · simp only [List.cons_append, look]
      split
      · rename_i hb
        have := Nat.eq_of_beq_eq_true hb
        by_cases hf : look H id = .free
        · rw [hf]
        · have := h id hf; omega
      · exact ih (i + 1) H h id
    · exact ih (i + 1) H h id

theorem Gam.slots (g : Gam E B S0 w0 gv σ st a w) (ops : List Oper) : Gam E B S0 w0 gv σ { st with heap := Vg.slots st.next ops 0 ++ st.heap, next := st.next + ops.length } a w := by
  have hl := slots_look st.next ops 0 st.heap g.lt
  have hs : ∀ k, sup E B S0 st.heap σ w k → sup E B S0 (Vg.slots st.next ops 0 ++ st.heap) σ w k := fun k h => ⟨h.1, h.2.1, fun id b hb => h.2.2 id b (by rw [← hl id]; exact hb)⟩
  have go : Goes E st.heap σ w (sup E B S0 st.heap σ w) (Vg.slots st.next ops 0 ++ st.heap) σ w (sup E B S0 (Vg.slots st.next ops 0 ++ st.heap) σ w) :=
    ⟨fun k h => ⟨hs k h, rfl⟩, fun id h => ⟨by rw [hl id]; exact h, rfl⟩, fun id e l _ hr => ⟨l, by rw [← hl id]; exact hr, rfl, fun k arr _ h => ⟨arr, h, rfl⟩⟩⟩
  have := g.move (H' := Vg.slots st.next ops 0 ++ st.heap) (σ' := σ) g.below g.hB go (fun id b hb => (g.blk id b (by rw [← hl id]; exact hb)).goes go rfl (fun _ _ => rfl)) (fun i j b c k hi hj => g.inj i j b c k (by rw [← hl i]; exact hi) (by rw [← hl j]; exact hj)) (fun id h => g.lt id (by rw [← hl id]; exact h))
  exact ⟨this.below, this.hB, this.defs, this.tmp, this.sav, this.blk, this.inj, fun id h => Nat.lt_of_lt_of_le (this.lt id h) (Nat.le_add_right _ _)⟩

end
end Go.Vg
