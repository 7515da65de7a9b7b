/-
  The executor is right: code. Own work; no condition.
-/
import Derived.Test.YtkaodeodiakldaaVgY
import Derived.Test.YtkaodeodiakldaaVgRf
namespace Go.Vg
open Go.RowKit
variable {P : Program} {E : Env}

/-- A loop from its head on, as the frame holds it. -/
def LoopWp (r : Option Nat) (P : Program) (body : Code) (Q : Exit → Act → World → Prop) (a : Act) (w : World) : Prop :=
  ∀ (b : Frame) (k : List Item) (cs : List Frame), b.roundOf = r → ∃ e a' w', Q e a' w' ∧ ArrivesIn (Machine.fenced P (Fr r)) P (lone (b.atR a (.code body :: .inLoop body :: k)) cs w) b k cs e a' w'

theorem LoopWp.loop {r : Option Nat} {body : Code} {Q : Exit → Act → World → Prop} {a : Act} {w : World} (h : LoopWp r P body Q a w) : wpR r P (Code.loop body) Q a w :=
  fun b k cs hro hb hr => let ⟨e, a', w', hq, harr⟩ := h b k cs hro; ⟨e, a', w', hq, .of_steps (.one (fenced_calm hb hr rfl) stepR_loop) harr⟩

theorem LoopWp.round {r : Option Nat} {body : Code} {Q : Exit → Act → World → Prop} {a : Act} {w : World} (h : wpR r P body (Exit.then (LoopWp r P body Q) Q) a w) : LoopWp r P body Q a w := by
  intro b k cs hro
  have hr : (Fr r).room (cs.length + 1 + 0) := fr_room
  obtain ⟨e, a₁, w₁, hq, harr⟩ := h b (.inLoop body :: k) cs hro trivial hr
  cases e with
  | normal =>
    obtain ⟨e₂, a₂, w₂, hq₂, harr₂⟩ := hq b k cs hro
    exact ⟨e₂, a₂, w₂, hq₂, .of_steps (StepsIn.trans harr (.one (fenced_calm (F := Fr r) (n := 0) trivial hr rfl) stepR_inLoop)) harr₂⟩
  | exit id => exact ⟨_, a₁, w₁, hq, .pass (x := .inLoop body) rfl (fun _ _ => .inl (by simp)) harr⟩
  | goto l => exact ⟨_, a₁, w₁, hq, .pass (x := .inLoop body) rfl (fun _ _ => .inl (by simp)) harr⟩
  | ret => exact ⟨_, a₁, w₁, hq, .pass (x := .inLoop body) rfl (fun _ _ => .inl (by simp)) harr⟩
  | panic ch => exact ⟨_, a₁, w₁, hq, .pass (x := .inLoop body) rfl (fun _ _ => .inl (by simp)) harr⟩
  | outgrown => exact ⟨_, a₁, w₁, hq, .pass (x := .inLoop body) rfl (fun _ _ => .inl (by simp)) harr⟩

/-- What a region that draws its order owes. -/
def DrawOk (P : Program) (E : Env) (C : Ctx E) : Prop :=
  ∀ code, CallOk P E C code → RoundOk P E code → ∀ r (ops : Array Oper) id B S0 w0 gv σ (st : St E.T) K a w, Gam E B S0 w0 gv σ st a w →
    vcDraw E C code ops.toList st.next ops.toList 0 [] { st with heap := slots st.next ops.toList 0 ++ st.heap, next := st.next + ops.toList.length } (K .normal) →
    wpR r P (Code.region id ops true) (PostQ E B S0 w0 gv K) a w

/-- A piece says what the code does. -/
def PieceOk (P : Program) (E : Env) (p : Piece E) (c : Code) : Prop :=
  ∀ r B S0 w0 gv σ vs K a w, mayR r c → Gam E B S0 w0 gv σ (insSt p.head vs) a w → p.W vs K →
    wpR r P c (PostQ E B S0 w0 gv fun e st => ∃ m ws, p.exit e = some m ∧ st = insSt m ws ∧ K e ws) a w

/-- A range over a function that stands in this function's body. -/
def RfIn (E : Env) (fid : Nat) (t : Array Tmp × Code × Code) : Prop := ∃ fn b, E.fn fid = some fn ∧ fn.body = some b ∧ t ∈ rfsIn b

theorem rfIn_body {fid : Nat} {fn : Func} {b : Code} (h1 : E.fn fid = some fn) (h2 : fn.body = some b) : ∀ t ∈ rfsIn b, RfIn E fid t := fun _ ht => ⟨fn, b, h1, h2, ht⟩

/-- Each piece of the code that is told is told rightly. -/
def PiecesOk (P : Program) (E : Env) (C : Ctx E) (fid : Nat) : Code → Prop
  | .seq a b => PiecesOk P E C fid a ∧ PiecesOk P E C fid b ∧ (∀ p, C.seqs fid (firstRegion b) = some p → PieceOk P E p b)
  | .cond _ a b => PiecesOk P E C fid a ∧ PiecesOk P E C fid b
  | .block _ b => PiecesOk P E C fid b
  | .scope b => PiecesOk P E C fid b
  | .loop b => PiecesOk P E C fid b ∧ (∀ p, C.loops fid (firstRegion b) = some p → PieceOk P E p (.loop b))
  | .rangeFunc _ ps x y => RfIn E fid (ps, x, y) ∧ PiecesOk P E C fid x ∧ PiecesOk P E C fid y
  | _ => True

theorem pieces_rfs {C : Ctx E} {fid : Nat} : ∀ {c : Code}, PiecesOk P E C fid c → ∀ t ∈ rfsIn c, PiecesOk P E C fid t.2.1 ∧ PiecesOk P E C fid t.2.2 := by
  intro c
  induction c with
  | seq a b iha ihb =>
    intro h t ht
    rcases List.mem_append.1 ht with ht | ht
    · exact iha h.1 t ht
    · exact ihb h.2.1 t ht
  | cond _ a b iha ihb =>
    intro h t ht
    rcases List.mem_append.1 ht with ht | ht
    · exact iha h.1 t ht
    · exact ihb h.2 t ht
  | block _ b ih => exact fun h t ht => ih h t ht
  | scope b ih => exact fun h t ht => ih h t ht
  | loop b ih => exact fun h t ht => ih h.1 t ht
  | rangeFunc _ ps x y ihx ihy =>
    intro h t ht
    rcases List.mem_cons.1 ht with rfl | ht
    · exact ⟨h.2.1, h.2.2⟩
    · rcases List.mem_append.1 ht with ht | ht
      · exact ihx h.2.1 t ht
      · exact ihy h.2.2 t ht
  | _ => intro _ t ht; cases ht

theorem rfFind_mem {id : Nat} : ∀ {l : List (Array Tmp × Code × Code)} {t : Array Tmp × Code × Code}, rfFind id l = some t → t ∈ l
  | [], _, h => by cases h
  | x :: r, t, h => by
    simp only [rfFind] at h
    split at h
    · split at h
      · cases h
      · cases h; exact List.mem_cons_self
    · exact List.mem_cons_of_mem _ (rfFind_mem h)

theorem rfOf_spec {fid rid : Nat} {t : Array Tmp × Code × Code} (h : rfOf E fid rid = some t) : ∃ fn c, E.fn fid = some fn ∧ fn.body = some c ∧ t ∈ rfsIn c := by
  unfold rfOf at h
  split at h
  · cases h
  · rename_i fn hfn
    split at h
    · cases h
    · rename_i c hc
      exact ⟨fn, c, hfn, hc, rfFind_mem h⟩

theorem rfHas_not {id : Nat} : ∀ {l : List (Array Tmp × Code × Code)}, rfHas id l = false → ∀ t ∈ l, firstRegion t.2.2 ≠ id
  | [], _, t, h => by cases h
  | x :: r, h, t, ht => by
    simp only [rfHas] at h
    split at h
    · cases h
    · rename_i hb
      rcases List.mem_cons.1 ht with rfl | ht
      · exact fun e => by rw [e] at hb; simp at hb
      · exact rfHas_not h t ht

theorem rfFind_only {id : Nat} : ∀ {l : List (Array Tmp × Code × Code)} {t u : Array Tmp × Code × Code}, rfFind id l = some t → u ∈ l → firstRegion u.2.2 = id → u = t
  | [], _, _, h, _, _ => by cases h
  | x :: r, t, u, h, hu, hi => by
    simp only [rfFind] at h
    split at h
    · split at h
      · cases h
      · rename_i hn
        cases h
        rcases List.mem_cons.1 hu with rfl | hu
        · rfl
        · exact absurd hi (rfHas_not hn u hu)
    · rename_i hb
      rcases List.mem_cons.1 hu with rfl | hu
      · rw [hi] at hb; simp at hb
      · exact rfFind_only h hu hi

theorem rfOf_only {fid : Nat} {t u : Array Tmp × Code × Code} (h : rfOf E fid (firstRegion u.2.2) = some t) (hu : RfIn E fid u) : rfOf E fid (firstRegion u.2.2) = some u := by
  obtain ⟨fn, b, h1, h2, h3⟩ := hu
  have h0 := h
  unfold rfOf at h
  rw [h1] at h
  simp only at h
  rw [h2] at h
  rw [h0, rfFind_only h h3 rfl]

/-- The code of all functions that are walked in place. -/
def BodiesOk (P : Program) (E : Env) (C : Ctx E) : Prop :=
  ∀ f fn body, E.fn f = some fn → fn.body = some body → PiecesOk P E C f body

/-- What the executor owes at code. -/
def CodeOk2 (P : Program) (E : Env) (C : Ctx E) (code : Nat → Code → St E.T → (Ex → St E.T → Prop) → Prop) : Prop :=
  ∀ r B S0 w0 gv σ fid c st K a w, mayR r c → PiecesOk P E C fid c → Gam E B S0 w0 gv σ st a w → code fid c st K → wpR r P c (PostQ E B S0 w0 gv K) a w

theorem useP_sound {B : Nat} {S0 : Nat → Prop} {w0 : World} {gv : Gv} {σ : Nat → Option Nat} {st : St E.T} {a : Act} {w : World} {p : Piece E} {c : Code} {K : Ex → St E.T → Prop}
    {r : Option Nat} (hm : mayR r c) (hp : PieceOk P E p c) (g : Gam E B S0 w0 gv σ st a w) (h : useP E p st K) : wpR r P c (PostQ E B S0 w0 gv K) a w := by
  unfold useP at h
  split at h
  · rename_i vs hvs
    obtain ⟨σ', g'⟩ := absSt_sound g hvs
    refine wpIn_mono (hp _ _ _ _ _ _ _ _ _ _ hm g' h) ?_
    rintro e a' w' ⟨ex, st', σ2, hex, g2, m, ws, hm, rfl, hk⟩
    rw [hm] at hk
    exact ⟨ex, _, σ2, hex, g2, hk⟩
  · exact h.elim

section
variable {B : Nat} {S0 : Nat → Prop} {w0 : World} {gv : Gv} {σ : Nat → Option Nat} {st : St E.T} {a : Act} {w : World}

theorem vcLoop_sound {C : Ctx E} : ∀ (n : Nat), (∀ m, m < n → CodeOk2 P E C (vcCode E C m)) → ∀ {r : Option Nat} {fid : Nat} {body : Code}, mayR r body → PiecesOk P E C fid body → C.loops fid (firstRegion body) = none →
    ∀ {B : Nat} {S0 : Nat → Prop} {w0 : World} {gv : Gv} {σ : Nat → Option Nat} {st : St E.T} {K : Ex → St E.T → Prop} {a : Act} {w : World}, Gam E B S0 w0 gv σ st a w → vcCode E C n fid (.loop body) st K → LoopWp r P body (PostQ E B S0 w0 gv K) a w := by
  intro n
  induction n with
  | zero => intro _ r fid body _ _ _ B S0 w0 gv σ st K a w g h; exact h.elim
  | succ n ih =>
    intro hm r fid body hr hpo hl B S0 w0 gv σ st K a w g h
    simp only [vcCode, hl] at h
    refine LoopWp.round (wpIn_mono (hm n (Nat.lt_succ_self n) _ _ _ _ _ _ _ _ _ _ _ _ hr hpo g h) ?_)
    rintro e a' w' ⟨ex, st', σ', hex, g', hk⟩
    cases ex with
    | normal => cases e <;> first | exact hex.elim | exact ih (fun m hm' => hm m (Nat.lt_succ_of_lt hm')) hr hpo hl g' hk
    | exit i => cases e <;> first | exact hex.elim | exact ⟨.exit i, st', σ', hex, g', hk⟩
    | ret => cases e <;> first | exact hex.elim | exact ⟨.ret, st', σ', hex, g', hk⟩

theorem vcCode_sound (tab : TabOk P E) {C : Ctx E} (hC : CtxOk P E C) (hd : DrawOk P E C) (hb : BodiesOk P E C) : ∀ n, CodeOk2 P E C (vcCode E C n) := by
  intro n
  induction n using Nat.strongRecOn with
  | _ n IH =>
  cases n with
  | zero => intro r B S0 w0 gv σ fid c st K a w hr hp g h; exact h.elim
  | succ n =>
    have ih := IH n (Nat.lt_succ_self n)
    have ihc : CallOk P E C (vcCode E C n) := fun f fn body h2 h3 B S0 w0 gv σ st K a w g h => ih _ _ _ _ _ _ _ _ _ _ _ _ (.inl rfl) (hb f fn body h2 h3) g h
    have ihr : RoundOk P E (vcCode E C n) := fun fid rid t ht p1 p2 l B S0 w0 gv σ st K a w g => by
      obtain ⟨fn, c, h1, h2, h3⟩ := rfOf_spec ht
      obtain ⟨q1, q2⟩ := pieces_rfs (hb fid fn c h1 h2) t h3
      exact ⟨ih (some l) _ _ _ _ _ _ _ _ _ _ _ (.inr p1) q1 g, ih (some l) _ _ _ _ _ _ _ _ _ _ _ (.inr p2) q2 g⟩
    intro r B S0 w0 gv σ fid c st K a w hr hp g h
    cases c with
    | skip => exact wpIn_skip ⟨.normal, st, σ, trivial, g, h⟩
    | label l => exact wpIn_label ⟨.normal, st, σ, trivial, g, h⟩
    | ret => exact wpIn_ret ⟨.ret, st, σ, trivial, g, h⟩
    | exit id => exact wpIn_exit ⟨.exit id, st, σ, rfl, g, h⟩
    | region id ops draw =>
      cases draw with
      | false =>
        simp only [vcCode, forceSt_eq] at h
        refine wpIn_region ?_
        rw [List.range_eq_range']
        have := vcOps_ok (r := r) (Q := PostQ E B S0 w0 gv K) (K := K .normal) (vcAct_ok tab hC ihc ihr true) (fun a w ⟨st, σ, g, hk⟩ => ⟨.normal, st, σ, trivial, g, hk⟩) ops.toList 0 rfl (g.slots ops.toList) h
        simpa using this
      | true =>
        simp only [vcCode, forceSt_eq] at h
        exact hd _ ihc ihr r ops _ _ _ _ _ _ _ _ _ _ g h
    | seq x y =>
      simp only [vcCode] at h
      obtain ⟨hp1, hp2, hp3⟩ := hp
      refine wpIn_seq (wpIn_mono (ih _ _ _ _ _ _ _ _ _ _ _ _ (hr.imp id fun h => (by simp only [plainC, Bool.and_eq_true] at h; exact h.1)) hp1 g h) ?_)
      have hr2 : mayR r y := hr.imp id fun h => (by simp only [plainC, Bool.and_eq_true] at h; exact h.2)
      rintro e a' w' ⟨ex, st', σ', hex, g', hk⟩
      cases ex with
      | normal =>
        cases e <;> try exact hex.elim
        simp only at hk
        split at hk
        · exact ih _ _ _ _ _ _ _ _ _ _ _ _ hr2 hp2 g' hk
        · rename_i p hpp
          exact useP_sound hr2 (hp3 p hpp) g' hk
      | exit i => cases e <;> first | exact hex.elim | exact ⟨.exit i, st', σ', hex, g', hk⟩
      | ret => cases e <;> first | exact hex.elim | exact ⟨.ret, st', σ', hex, g', hk⟩
    | cond c x y =>
      simp only [vcCode] at h
      obtain ⟨hp1, hp2⟩ := hp
      split at h
      · rename_i t
        split at h
        · rename_i b hb
          have hx := g.tmp.nth t
          rw [hb] at hx
          have hv := bool_inv hx
          have hv' : a.tmps.getD t undef = .bool b := by simpa using hv
          refine wpIn_cond (t := b) (by simpa [Act.eval] using hv') ?_
          cases b with
          | true => exact ih _ _ _ _ _ _ _ _ _ _ _ _ (hr.imp id fun h => (by simp only [plainC, Bool.and_eq_true] at h; exact h.1)) hp1 (g.set t (s := .bool true) (by rw [hv']; exact .bool _)) h
          | false => exact ih _ _ _ _ _ _ _ _ _ _ _ _ (hr.imp id fun h => (by simp only [plainC, Bool.and_eq_true] at h; exact h.2)) hp2 (g.set t (s := .bool false) (by rw [hv']; exact .bool _)) h
        · exact h.elim
      · exact h.elim
    | block id body =>
      simp only [vcCode] at h
      refine wpIn_block (wpIn_mono (ih _ _ _ _ _ _ _ _ _ _ _ _ hr hp g h) ?_)
      rintro e a' w' ⟨ex, st', σ', hex, g', hk⟩
      cases ex with
      | normal => cases e <;> first | exact hex.elim | exact ⟨.normal, st', σ', hex, g', hk⟩
      | exit i =>
        cases e <;> try exact hex.elim
        rename_i i'
        have hex : i = i' := hex
        subst hex
        simp only [Exit.inBlock]
        by_cases hi : i = id
        · subst hi
          rw [if_pos rfl]
          simp only [Nat.beq_refl] at hk
          exact ⟨.normal, st', σ', trivial, g', hk⟩
        · rw [if_neg hi]
          simp only [beq_ne hi] at hk
          exact ⟨.exit i, st', σ', rfl, g', hk⟩
      | ret => cases e <;> first | exact hex.elim | exact ⟨.ret, st', σ', hex, g', hk⟩
    | scope body =>
      simp only [vcCode] at h
      have hr0 : r = none := hr.resolve_right (by simp [plainC])
      subst hr0
      refine (wpIn_wide (n := 0)).2 (wp_scope_straight (wp_mono ((wpIn_wide (n := 0)).1 (ih none _ _ _ _ _ _ _ _ _ _ _ (.inl rfl) hp g h)) ?_))
      rintro e a' w' ⟨ex, st', σ', hex, g', hk⟩
      cases ex <;> cases e <;> first | exact hex.elim | exact ⟨_, st', σ', hex, g', hk⟩
    | loop body =>
      cases hl : C.loops fid (firstRegion body) with
      | none => exact (vcLoop_sound (n + 1) (fun m hm => IH m hm) (show mayR r body from hr) hp.1 hl g h).loop
      | some L =>
        simp only [vcCode, hl] at h
        exact useP_sound hr (hp.2 L hl) g h
    | rangeFunc g0 ps x y =>
      have hr0 : r = none := hr.resolve_right (by simp [plainC])
      subst hr0
      simp only [vcCode] at h
      split at h
      · rename_i f caps _ he hrf
        split at h
        · exact h.elim
        · rename_i fn hfn
          split at h
          · exact h.elim
          · rename_i fb hfb
            split at h
            · exact h.elim
            · rename_i hle
              simp only [forceN_eq] at h
              exact rangeFunc_sound tab ihc g (rfOf_only hrf hp.1) he hfn hfb (Nat.le_of_ble_eq_true hle) h
      · exact h.elim
    | _ => exact h.elim

/-- A loop's telling is right where one round of its body is what it says. -/
theorem loop_ok (tab : TabOk P E) {C : Ctx E} (hC : CtxOk P E C) (hd : DrawOk P E C) (hb : BodiesOk P E C) {fid : Nat} {body : Code} (hp : PiecesOk P E C fid body) {head : Tm} {exit : Ex → Option Tm}
    {Wn : Nat → List (SV E.T) → (Ex → List (SV E.T) → Prop) → Prop} (h0 : ∀ vs K, ¬ Wn 0 vs K) (n : Nat)
    (hs : ∀ k vs K, Wn (k + 1) vs K → vcCode E C n fid body (insSt head vs) fun e st => match e with
      | .normal => match absSt E.has head st with
        | some vs' => Wn k vs' K
        | none => False
      | e => match exit e with
        | some m => match absSt E.has m st with
          | some ws => K e ws
          | none => False
        | none => False) : PieceOk P E ⟨head, exit, fun vs K => ∃ k, Wn k vs K⟩ (.loop body) := by
  intro r B S0 w0 gv σ vs K a w hr g ⟨k, hk⟩
  refine LoopWp.loop ?_
  induction k generalizing σ vs a w with
  | zero => exact (h0 _ _ hk).elim
  | succ k ih =>
    refine LoopWp.round (wpIn_mono (vcCode_sound tab hC hd hb n _ _ _ _ _ _ _ _ _ _ _ _ hr hp g (hs k vs K hk)) ?_)
    rintro e a' w' ⟨ex, st', σ', hex, g', hk'⟩
    have out : (match exit ex with
        | some m => match absSt E.has m st' with
          | some ws => K ex ws
          | none => False
        | none => False) → PostQ E B S0 w0 gv (fun e st => ∃ m ws, exit e = some m ∧ st = insSt m ws ∧ K e ws) e a' w' := by
      intro h
      split at h
      · rename_i m hm
        split at h
        · rename_i ws hws
          obtain ⟨σ2, g2⟩ := absSt_sound g' hws
          exact ⟨ex, _, σ2, hex, g2, m, ws, hm, rfl, h⟩
        · exact h.elim
      · exact h.elim
    cases ex with
    | normal =>
      cases e <;> try exact hex.elim
      simp only at hk'
      split at hk'
      · rename_i vs' hvs
        obtain ⟨σ2, g2⟩ := absSt_sound g' hvs
        exact ih σ2 vs' a' w' g2 hk'
      · exact hk'.elim
    | exit i => cases e <;> first | exact hex.elim | exact out hk'
    | ret => cases e <;> first | exact hex.elim | exact out hk'

/-- A piece of straight code. -/
theorem seq_ok (tab : TabOk P E) {C : Ctx E} (hC : CtxOk P E C) (hd : DrawOk P E C) (hb : BodiesOk P E C) {fid : Nat} {c : Code} (hp : PiecesOk P E C fid c) {head : Tm} {exit : Ex → Option Tm}
    {W : List (SV E.T) → (Ex → List (SV E.T) → Prop) → Prop} (n : Nat)
    (hs : ∀ vs K, W vs K → vcCode E C n fid c (insSt head vs) fun e st => match exit e with
        | some m => match absSt E.has m st with
          | some ws => K e ws
          | none => False
        | none => False) : PieceOk P E ⟨head, exit, W⟩ c := by
  intro r B S0 w0 gv σ vs K a w hr g hk
  refine wpIn_mono (vcCode_sound tab hC hd hb n _ _ _ _ _ _ _ _ _ _ _ _ hr hp g (hs vs K hk)) ?_
  rintro e a' w' ⟨ex, st', σ', hex, g', h⟩
  split at h
  · rename_i m hm
    split at h
    · rename_i ws hws
      obtain ⟨σ2, g2⟩ := absSt_sound g' hws
      exact ⟨ex, _, σ2, hex, g2, m, ws, hm, rfl, h⟩
    · exact h.elim
  · exact h.elim
end
end Go.Vg
