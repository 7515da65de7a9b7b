/-
  The executor is right: code. Own work; no condition.
-/
import Derived.Test.YthmmgoebdcegmaaGreatDoorVgY
namespace Go.Vg
open Go.RowKit
variable {P : Program} {E : Env}

/-- A loop from its head on, as the frame holds it. -/
def LoopWp (P : Program) (body : Code) (Q : Exit → Act → World → Prop) (a : Act) (w : World) : Prop :=
  ∀ (b : Frame) (k : List Item) (cs : List Frame), ∃ e a' w', Q e a' w' ∧ Arrives P (lone (b.at a (.code body :: .inLoop body :: k)) cs w) b k cs e a' w'

theorem LoopWp.loop {body : Code} {Q : Exit → Act → World → Prop} {a : Act} {w : World} (h : LoopWp P body Q a w) : (Code.loop body).wp P Q a w :=
  fun b k cs => let ⟨e, a', w', hq, harr⟩ := h b k cs; ⟨e, a', w', hq, .of_steps (.one step_loop) harr⟩

theorem LoopWp.round {body : Code} {Q : Exit → Act → World → Prop} {a : Act} {w : World} (h : body.wp P (Exit.then (LoopWp P body Q) Q) a w) : LoopWp P body Q a w := by
  intro b k cs
  obtain ⟨e, a₁, w₁, hq, harr⟩ := h b (.inLoop body :: k) cs
  cases e with
  | normal =>
    obtain ⟨e₂, a₂, w₂, hq₂, harr₂⟩ := hq b k cs
    exact ⟨e₂, a₂, w₂, hq₂, .of_steps (Steps.trans harr (.one step_inLoop)) harr₂⟩
  | exit id => exact ⟨_, a₁, w₁, hq, .pass (x := .inLoop body) rfl (fun _ _ => .inl (by simp)) harr⟩
  | goto l => exact ⟨_, a₁, w₁, hq, .pass (x := .inLoop body) rfl (fun _ _ => .inl (by simp)) harr⟩
  | ret => exact ⟨_, a₁, w₁, hq, .pass (x := .inLoop body) rfl (fun _ _ => .inl (by simp)) harr⟩
  | panic ch => exact ⟨_, a₁, w₁, hq, .pass (x := .inLoop body) rfl (fun _ _ => .inl (by simp)) harr⟩
  | outgrown => exact ⟨_, a₁, w₁, hq, .pass (x := .inLoop body) rfl (fun _ _ => .inl (by simp)) harr⟩

/-- What a region that draws its order owes. -/
def DrawOk (P : Program) (E : Env) (C : Ctx E) : Prop :=
  ∀ (ops : Array Oper) id B S0 w0 gv σ (st : St E.T) K a w, Gam E B S0 w0 gv σ st a w →
    vcDraw E C ops.toList st.next ops.toList 0 [] { st with heap := slots st.next ops.toList 0 ++ st.heap, next := st.next + ops.toList.length } (K .normal) →
    (Code.region id ops true).wp P (PostQ E B S0 w0 gv K) a w

/-- A piece says what the code does. -/
def PieceOk (P : Program) (E : Env) (p : Piece E) (c : Code) : Prop :=
  ∀ B S0 w0 gv σ vs K a w, Gam E B S0 w0 gv σ (insSt p.head vs) a w → p.W vs K →
    c.wp P (PostQ E B S0 w0 gv fun e st => ∃ m ws, p.exit e = some m ∧ st = insSt m ws ∧ K e ws) a w

/-- Each piece of the code that is told is told rightly. -/
def PiecesOk (P : Program) (E : Env) (C : Ctx E) (fid : Nat) : Code → Prop
  | .seq a b => PiecesOk P E C fid a ∧ PiecesOk P E C fid b ∧ (∀ p, C.seqs fid (firstRegion b) = some p → PieceOk P E p b)
  | .cond _ a b => PiecesOk P E C fid a ∧ PiecesOk P E C fid b
  | .block _ b => PiecesOk P E C fid b
  | .scope b => PiecesOk P E C fid b
  | .loop b => PiecesOk P E C fid b ∧ (∀ p, C.loops fid (firstRegion b) = some p → PieceOk P E p (.loop b))
  | _ => True

/-- The code of all functions that are walked in place. -/
def BodiesOk (P : Program) (E : Env) (C : Ctx E) : Prop :=
  ∀ f fn body, E.fn f = some fn → fn.body = some body → PiecesOk P E C f body

/-- What the executor owes at code. -/
def CodeOk2 (P : Program) (E : Env) (C : Ctx E) (code : Nat → Code → St E.T → (Ex → St E.T → Prop) → Prop) : Prop :=
  ∀ B S0 w0 gv σ fid c st K a w, PiecesOk P E C fid c → Gam E B S0 w0 gv σ st a w → code fid c st K → c.wp P (PostQ E B S0 w0 gv K) a w

theorem useP_sound {B : Nat} {S0 : Nat → Prop} {w0 : World} {gv : List Value} {σ : Nat → Option Nat} {st : St E.T} {a : Act} {w : World} {p : Piece E} {c : Code} {K : Ex → St E.T → Prop}
    (hp : PieceOk P E p c) (g : Gam E B S0 w0 gv σ st a w) (h : useP E p st K) : c.wp P (PostQ E B S0 w0 gv K) a w := by
  unfold useP at h
  split at h
  · rename_i vs hvs
    obtain ⟨σ', g'⟩ := absSt_sound g hvs
    refine wp_mono (hp _ _ _ _ _ _ _ _ _ g' h) ?_
    rintro e a' w' ⟨ex, st', σ2, hex, g2, m, ws, hm, rfl, hk⟩
    rw [hm] at hk
    exact ⟨ex, _, σ2, hex, g2, hk⟩
  · exact h.elim

section
variable {B : Nat} {S0 : Nat → Prop} {w0 : World} {gv : List Value} {σ : Nat → Option Nat} {st : St E.T} {a : Act} {w : World}

theorem vcLoop_sound {C : Ctx E} : ∀ (n : Nat), (∀ m, m < n → CodeOk2 P E C (vcCode E C m)) → ∀ {fid : Nat} {body : Code}, PiecesOk P E C fid body → C.loops fid (firstRegion body) = none →
    ∀ {B : Nat} {S0 : Nat → Prop} {w0 : World} {gv : List Value} {σ : Nat → Option Nat} {st : St E.T} {K : Ex → St E.T → Prop} {a : Act} {w : World}, Gam E B S0 w0 gv σ st a w → vcCode E C n fid (.loop body) st K → LoopWp P body (PostQ E B S0 w0 gv K) a w := by
  intro n
  induction n with
  | zero => intro _ fid body _ _ B S0 w0 gv σ st K a w g h; exact h.elim
  | succ n ih =>
    intro hm fid body hpo hl B S0 w0 gv σ st K a w g h
    simp only [vcCode, hl] at h
    refine LoopWp.round (wp_mono (hm n (Nat.lt_succ_self n) _ _ _ _ _ _ _ _ _ _ _ hpo g h) ?_)
    rintro e a' w' ⟨ex, st', σ', hex, g', hk⟩
    cases ex with
    | normal => cases e <;> first | exact hex.elim | exact ih (fun m hm' => hm m (Nat.lt_succ_of_lt hm')) hpo hl g' hk
    | exit i => cases e <;> first | exact hex.elim | exact ⟨.exit i, st', σ', hex, g', hk⟩
    | ret => cases e <;> first | exact hex.elim | exact ⟨.ret, st', σ', hex, g', hk⟩

theorem vcCode_sound (tab : TabOk P E) {C : Ctx E} (hC : CtxOk P E C) (hd : DrawOk P E C) (hb : BodiesOk P E C) : ∀ n, CodeOk2 P E C (vcCode E C n) := by
  intro n
  induction n using Nat.strongRecOn with
  | _ n IH =>
  cases n with
  | zero => intro B S0 w0 gv σ fid c st K a w hp g h; exact h.elim
  | succ n =>
    have ih := IH n (Nat.lt_succ_self n)
    have ihc : CallOk P E C (vcCode E C n) := fun f fn body h2 h3 B S0 w0 gv σ st K a w g h => ih _ _ _ _ _ _ _ _ _ _ _ (hb f fn body h2 h3) g h
    intro B S0 w0 gv σ fid c st K a w hp g h
    cases c with
    | skip => exact wp_skip ⟨.normal, st, σ, trivial, g, h⟩
    | label l => exact wp_label ⟨.normal, st, σ, trivial, g, h⟩
    | ret => exact wp_ret ⟨.ret, st, σ, trivial, g, h⟩
    | exit id => exact wp_exit ⟨.exit id, st, σ, rfl, g, h⟩
    | region id ops draw =>
      cases draw with
      | false =>
        simp only [vcCode, forceSt_eq] at h
        refine wp_region ?_
        rw [List.range_eq_range']
        have := vcOps_ok (Q := PostQ E B S0 w0 gv K) (K := K .normal) (vcAct_ok tab hC ihc true) (fun a w ⟨st, σ, g, hk⟩ => ⟨.normal, st, σ, trivial, g, hk⟩) ops.toList 0 rfl (g.slots ops.toList) h
        simpa using this
      | true =>
        simp only [vcCode, forceSt_eq] at h
        exact hd ops _ _ _ _ _ _ _ _ _ _ g h
    | seq x y =>
      simp only [vcCode] at h
      obtain ⟨hp1, hp2, hp3⟩ := hp
      refine wp_seq (wp_mono (ih _ _ _ _ _ _ _ _ _ _ _ hp1 g h) ?_)
      rintro e a' w' ⟨ex, st', σ', hex, g', hk⟩
      cases ex with
      | normal =>
        cases e <;> try exact hex.elim
        simp only at hk
        split at hk
        · exact ih _ _ _ _ _ _ _ _ _ _ _ hp2 g' hk
        · rename_i p hpp
          exact useP_sound (hp3 p hpp) g' hk
      | exit i => cases e <;> first | exact hex.elim | exact ⟨.exit i, st', σ', hex, g', hk⟩
      | ret => cases e <;> first | exact hex.elim | exact ⟨.ret, st', σ', hex, g', hk⟩
    | cond c x y =>
      simp only [vcCode] at h
      obtain ⟨hp1, hp2⟩ := hp
      split at h
      · rename_i t
        split at h
        · rename_i b hb
          have hx := g.tmp.nth t
          rw [hb] at hx
          have hv := bool_inv hx
          have hv' : a.tmps.getD t undef = .bool b := by simpa using hv
          refine wp_cond (t := b) (by simpa [Act.eval] using hv') ?_
          cases b with
          | true => exact ih _ _ _ _ _ _ _ _ _ _ _ hp1 (g.set t (s := .bool true) (by rw [hv']; exact .bool _)) h
          | false => exact ih _ _ _ _ _ _ _ _ _ _ _ hp2 (g.set t (s := .bool false) (by rw [hv']; exact .bool _)) h
        · exact h.elim
      · exact h.elim
    | block id body =>
      simp only [vcCode] at h
      refine wp_block (wp_mono (ih _ _ _ _ _ _ _ _ _ _ _ hp g h) ?_)
      rintro e a' w' ⟨ex, st', σ', hex, g', hk⟩
      cases ex with
      | normal => cases e <;> first | exact hex.elim | exact ⟨.normal, st', σ', hex, g', hk⟩
      | exit i =>
        cases e <;> try exact hex.elim
        rename_i i'
        have hex : i = i' := hex
        subst hex
        simp only [Exit.inBlock]
        by_cases hi : i = id
        · subst hi
          rw [if_pos rfl]
          simp only [Nat.beq_refl] at hk
          exact ⟨.normal, st', σ', trivial, g', hk⟩
        · rw [if_neg hi]
          simp only [beq_ne hi] at hk
          exact ⟨.exit i, st', σ', rfl, g', hk⟩
      | ret => cases e <;> first | exact hex.elim | exact ⟨.ret, st', σ', hex, g', hk⟩
    | scope body =>
      simp only [vcCode] at h
      refine wp_scope_straight (wp_mono (ih _ _ _ _ _ _ _ _ _ _ _ hp g h) ?_)
      rintro e a' w' ⟨ex, st', σ', hex, g', hk⟩
      cases ex <;> cases e <;> first | exact hex.elim | exact ⟨_, st', σ', hex, g', hk⟩
    | loop body =>
      cases hl : C.loops fid (firstRegion body) with
      | none => exact (vcLoop_sound (n + 1) (fun m hm => IH m hm) hp.1 hl g h).loop
      | some L =>
        simp only [vcCode, hl] at h
        exact useP_sound (hp.2 L hl) g h
    | _ => exact h.elim

/-- A loop's telling is right where one round of its body is what it says. -/
theorem loop_ok (tab : TabOk P E) {C : Ctx E} (hC : CtxOk P E C) (hd : DrawOk P E C) (hb : BodiesOk P E C) {fid : Nat} {body : Code} (hp : PiecesOk P E C fid body) {head : Tm} {exit : Ex → Option Tm}
    {Wn : Nat → List (SV E.T) → (Ex → List (SV E.T) → Prop) → Prop} (h0 : ∀ vs K, ¬ Wn 0 vs K) (n : Nat)
    (hs : ∀ k vs K, Wn (k + 1) vs K → vcCode E C n fid body (insSt head vs) fun e st => match e with
      | .normal => match absSt E.has head st with
        | some vs' => Wn k vs' K
        | none => False
      | e => match exit e with
        | some m => match absSt E.has m st with
          | some ws => K e ws
          | none => False
        | none => False) : PieceOk P E ⟨head, exit, fun vs K => ∃ k, Wn k vs K⟩ (.loop body) := by
  intro B S0 w0 gv σ vs K a w g ⟨k, hk⟩
  refine LoopWp.loop ?_
  induction k generalizing σ vs a w with
  | zero => exact (h0 _ _ hk).elim
  | succ k ih =>
    refine LoopWp.round (wp_mono (vcCode_sound tab hC hd hb n _ _ _ _ _ _ _ _ _ _ _ hp g (hs k vs K hk)) ?_)
    rintro e a' w' ⟨ex, st', σ', hex, g', hk'⟩
    have out : (match exit ex with
        | some m => match absSt E.has m st' with
          | some ws => K ex ws
          | none => False
        | none => False) → PostQ E B S0 w0 gv (fun e st => ∃ m ws, exit e = some m ∧ st = insSt m ws ∧ K e ws) e a' w' := by
      intro h
      split at h
      · rename_i m hm
        split at h
        · rename_i ws hws
          obtain ⟨σ2, g2⟩ := absSt_sound g' hws
          exact ⟨ex, _, σ2, hex, g2, m, ws, hm, rfl, h⟩
        · exact h.elim
      · exact h.elim
    cases ex with
    | normal =>
      cases e <;> try exact hex.elim
      simp only at hk'
      split at hk'
      · rename_i vs' hvs
        obtain ⟨σ2, g2⟩ := absSt_sound g' hvs
        exact ih σ2 vs' a' w' g2 hk'
      · exact hk'.elim
    | exit i => cases e <;> first | exact hex.elim | exact out hk'
    | ret => cases e <;> first | exact hex.elim | exact out hk'

/-- A piece of straight code. -/
theorem seq_ok (tab : TabOk P E) {C : Ctx E} (hC : CtxOk P E C) (hd : DrawOk P E C) (hb : BodiesOk P E C) {fid : Nat} {c : Code} (hp : PiecesOk P E C fid c) {head : Tm} {exit : Ex → Option Tm}
    {W : List (SV E.T) → (Ex → List (SV E.T) → Prop) → Prop} (n : Nat)
    (hs : ∀ vs K, W vs K → vcCode E C n fid c (insSt head vs) fun e st => match exit e with
        | some m => match absSt E.has m st with
          | some ws => K e ws
          | none => False
        | none => False) : PieceOk P E ⟨head, exit, W⟩ c := by
  intro B S0 w0 gv σ vs K a w g hk
  refine wp_mono (vcCode_sound tab hC hd hb n _ _ _ _ _ _ _ _ _ _ _ hp g (hs vs K hk)) ?_
  rintro e a' w' ⟨ex, st', σ', hex, g', h⟩
  split at h
  · rename_i m hm
    split at h
    · rename_i ws hws
      obtain ⟨σ2, g2⟩ := absSt_sound g' hws
      exact ⟨ex, _, σ2, hex, g2, m, ws, hm, rfl, h⟩
    · exact h.elim
  · exact h.elim
end
end Go.Vg
