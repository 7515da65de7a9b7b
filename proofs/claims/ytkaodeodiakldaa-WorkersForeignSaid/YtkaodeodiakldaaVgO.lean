/-
  The executor is right: calls, operations in a region, code. Own work; no condition.
-/
import Derived.Test.YtkaodeodiakldaaVgN
import Derived.Deep.LoopGhost
import Derived.OrdersIn
import Derived.RangeFuncLeaves
import Derived.RangeFuncRecord
namespace Go.Vg
open Go.RowKit
variable {P : Program} {E : Env}

/-- A value that holds data alone says the same under all names. -/
theorem RelS.dataV {H H' : List (Nat × HS E.T)} {σ σ' : Nat → Option Nat} {w : World} {S : Nat → Prop} {s : SV E.T} {v : Value} (h : RelS E H σ w S s v) (hd : isDataV s = true) : RelS E H' σ' w S s v := by
  cases s with
  | agg cs => cases h with
    | agg _ vs h => exact .agg _ _ (RelC.data h hd)
  | tup cs => cases h with
    | tup _ vs h =>
      refine .tup _ _ ?_
      simp only [isDataV, List.all_eq_true] at hd
      generalize vs.toList = us at h
      clear vs
      induction cs generalizing us with
      | nil => cases h; exact .nil
      | cons c r ih =>
        cases h with
        | cons h1 h2 =>
          refine .cons ?_ (ih (fun x hx => hd x (by simp [hx])) _ h2)
          have := hd c (by simp)
          cases c with
          | agg cs => cases h1 with
            | agg _ vs h => exact .agg _ _ (RelC.data h this)
          | _ => exact RelS.data h1 this
  | _ => exact RelS.data h hd

/-- More blocks may be leaned on; what was there stands. -/
theorem goes_more {H : List (Nat × HS E.T)} {σ : Nat → Option Nat} {w w' : World} {S S' : Nat → Prop} (hs : ∀ k, S k → S' k ∧ w'.heap[k]? = w.heap[k]?) (hb : ∀ k, k < w.heap.size → w'.heap[k]? = w.heap[k]?) : Goes E H σ w S H σ w' S' :=
  ⟨hs, fun _ h => ⟨h, rfl⟩, fun _ e l _ hr => ⟨l, hr, rfl, fun k arr _ h => ⟨arr, by rw [hb k (Array.getElem?_eq_some_iff.1 h).1]; exact h, rfl⟩⟩⟩

/-- A value whose block, if it is a slice that has one, is a plain row told from its beginning on. -/
def PlainV (w : World) (v : Value) : Prop := ∀ a n c, v = .slice (some a) n c → a.spot = none ∧ a.off = 0 ∧ ∃ arr e, w.heap[a.block]? = some (.cells arr e (0, 0))

theorem plain_rel {H : List (Nat × HS E.T)} {σ : Nat → Option Nat} {w : World} {S : Nat → Prop} : ∀ {ss : List (SV E.T)} {vs : List Value}, RelL E H σ w S ss vs → plainAll H ss = true → ∀ u ∈ vs, PlainV w u
  | [], _, .nil, _ => fun u hu => by cases hu
  | s :: r, _, .cons h1 h2, hp => by
    simp only [plainAll] at hp
    split at hp
    · rename_i hs
      intro u hu
      rcases List.mem_cons.1 hu with rfl | hu
      · unfold plainArg at hs
        cases s <;> first | (cases hs; done) | skip
        · cases h1; intro a n c he; cases he
        · cases h1; intro a n c he; cases he
        · cases h1; intro a n c he; cases he
        · cases h1; intro a n c he; cases he
        · cases h1 with
          | row_nil _ _ _ => intro a n c he; cases he
          | row _ k n c h3 h4 h5 =>
            intro a n' c' he
            cases he
            dsimp only at hs
            split at hs
            · rename_i hl
              split at hs
              · obtain ⟨_, _, _, arr, h6, _⟩ := h5 _ _ hl
                exact ⟨rfl, rfl, arr, _, h6⟩
              · cases hs
            · cases hs
      · exact plain_rel h2 hp u hu
    · cases hp

/-- What a rule says of the calls of a function. -/
def RuleOk (P : Program) (E : Env) (f : Nat) : Rule E → Prop
  | .fnl pre res => ∀ args, pre args → isDataV (res args) = true → ∀ (S : Nat → Prop) (w : World) (vals : List Value), (∀ k, S k → k < w.heap.size) → RelL E [] (fun _ => none) w S args vals →
      Calls P f vals.toArray w fun e w' => ∃ v, e = .returned v ∧ Below w.heap.size w w' ∧ RelS E [] (fun _ => none) w' (fun k => S k ∨ (w.heap.size ≤ k ∧ k < w'.heap.size)) (res args) v
  | .gen r => ∀ args K, r args K → ∀ (S : Nat → Prop) (w : World) (vals : List Value), (∀ k, S k → k < w.heap.size) → RelL E [] (fun _ => none) w S args vals →
      Calls P f vals.toArray w fun e w' => ∃ v s, e = .returned v ∧ isDataV s = true ∧ K s ∧ Below w.heap.size w w' ∧ RelS E [] (fun _ => none) w' (fun k => S k ∨ (w.heap.size ≤ k ∧ k < w'.heap.size)) s v
  | .fn fr Y enc r => ∀ args K, r args K → ∀ (S : Nat → Prop) (w : World) (vals : List Value), (∀ k, S k → k < w.heap.size) → RelL E [] (fun _ => none) w S args vals →
      Calls P f vals.toArray w fun e w' => ∃ (v : Value) (y : Y), e = .returned v ∧ isDataV (enc y) = true ∧ K y ∧ Below w.heap.size w w' ∧ RelS E [] (fun _ => none) w' (fun k => (fr = false ∧ S k) ∨ (w.heap.size ≤ k ∧ k < w'.heap.size)) (enc y) v
  | .inp e r => ∀ (l : List (E.T e)) rest K, r (.dat e l :: rest) K → ∀ (B : Nat) (S : Nat → Prop) (w : World) (v : Value) (vals xs : List Value), (∀ k, S k → k < w.heap.size ∧ some k ≠ v.ownBlock) → w.ownsRow B e (E.sz e) v l.length xs → B ≤ w.heap.size → E.has e = true →
      RelC E [] (fun _ => none) w S (l.flatMap (E.enc e)) xs → RelL E [] (fun _ => none) w S rest vals →
      Calls P f (v :: vals).toArray w fun ee w' => ∃ (l' : List (E.T e)) (ys : List Value), ee = .returned (.tuple #[]) ∧ K l' ∧ l'.length = l.length ∧ w.grownBy w' v.ownBlock ∧ w.drawn ≤ w'.drawn ∧ w'.ownsRow B e (E.sz e) v l'.length ys ∧
        RelC E [] (fun _ => none) w' (fun k => S k ∨ (w.heap.size ≤ k ∧ k < w'.heap.size)) (l'.flatMap (E.enc e)) ys
  | .row eat e r => match eat with
    | false => ∀ args K, r args K → ∀ (S : Nat → Prop) (w : World) (vals : List Value), (∀ k, S k → k < w.heap.size) → RelL E [] (fun _ => none) w S args vals →
      Calls P f vals.toArray w fun ee w' => ∃ (v : Value) (l : List (E.T e)) (ys : List Value), ee = .returned v ∧ K l ∧ E.has e = true ∧ Below w.heap.size w w' ∧ w'.ownsRow w.heap.size e (E.sz e) v l.length ys ∧ ∀ H σ S', RelC E H σ w' S' (l.flatMap (E.enc e)) ys
    | true => (∀ x, (E.enc e x).all flat = true) ∧ ∀ (l : List (E.T e)) rest K, r (.dat e l :: rest) K → ∀ (B : Nat) (S : Nat → Prop) (w : World) (v : Value) (vals xs : List Value), (∀ k, S k → k < w.heap.size ∧ some k ≠ v.ownBlock) → w.ownsRow B e (E.sz e) v l.length xs → B ≤ w.heap.size →
      (∀ H σ S', RelC E H σ w S' (l.flatMap (E.enc e)) xs) → RelL E [] (fun _ => none) w S rest vals → (∀ u ∈ vals, PlainV w u) →
      Calls P f (v :: vals).toArray w fun ee w' => ∃ (v' : Value) (l' : List (E.T e)) (ys : List Value), ee = .returned v' ∧ K l' ∧ E.has e = true ∧ w.grownBy w' v.ownBlock ∧ w.drawn ≤ w'.drawn ∧ w'.ownsRow B e (E.sz e) v' l'.length ys ∧ (∀ k, v'.ownBlock = some k → v.ownBlock = some k ∨ w.heap.size ≤ k) ∧ ∀ H σ S', RelC E H σ w' S' (l'.flatMap (E.enc e)) ys

def CtxOk (P : Program) (E : Env) (C : Ctx E) : Prop := ∀ f r, C.rules f = some r → RuleOk P E f r

/-- Code is walked at large ('none'), or in a round of a range over a function ('some l': its record's block). -/
abbrev Fr (r : Option Nat) : Fence := { Fence.wide with round := r }
abbrev wpR (r : Option Nat) (P : Program) (c : Code) (Q : Exit → Act → World → Prop) (a : Act) (w : World) : Prop := c.wpIn (Fr r) 0 P Q a w
theorem fr_room {r : Option Nat} {n : Nat} : (Fr r).room n := fun _ h => by cases h
theorem calls_fr {r : Option Nat} {n : Nat} {P : Program} {f : FuncId} {args : Array Value} {w : World} {R : Ending → World → Prop} (h : Calls P f args w R) : CallsIn (Fr r) n P f args w R := (callsIn_wide (n := n)).2 h
/-- Where code may be walked. -/
def mayR (r : Option Nat) (c : Code) : Prop := r = none ∨ plainC c = true

def exIs : Ex → Exit → Prop
  | .normal, .normal => True
  | .ret, .ret => True
  | .exit i, .exit j => i = j
  | _, _ => False

def PostQ (E : Env) (B : Nat) (S0 : Nat → Prop) (w0 : World) (gv : Gv) (K : Ex → St E.T → Prop) : Exit → Act → World → Prop :=
  fun e a w => ∃ ex st σ, exIs ex e ∧ Gam E B S0 w0 gv σ st a w ∧ K ex st

def CodeOk (P : Program) (E : Env) (code : Nat → Code → St E.T → (Ex → St E.T → Prop) → Prop) : Prop :=
  ∀ r B S0 w0 gv σ fid c st K a w, mayR r c → Gam E B S0 w0 gv σ st a w → code fid c st K → wpR r P c (PostQ E B S0 w0 gv K) a w

/-- What the executor owes at the bodies that it walks in place. -/
def CallOk (P : Program) (E : Env) (_C : Ctx E) (code : Nat → Code → St E.T → (Ex → St E.T → Prop) → Prop) : Prop :=
  ∀ f fn body, E.fn f = some fn → fn.body = some body → ∀ B S0 w0 gv σ st K a w, Gam E B S0 w0 gv σ st a w → code f body st K → wpR none P body (PostQ E B S0 w0 gv K) a w

/-- What an act owes. -/
def NextQ (E : Env) (B : Nat) (S0 : Nat → Prop) (w0 : World) (gv : Gv) (K : St E.T → Prop) : Act → World → Prop := fun a w => ∃ st σ, Gam E B S0 w0 gv σ st a w ∧ K st

def ActOk (P : Program) (E : Env) (act : Nat → Oper → St E.T → (St E.T → Prop) → Prop) : Prop :=
  ∀ r B S0 w0 gv σ fresh o st K a w Q, Gam E B S0 w0 gv σ st a w → act fresh o st K → o.wpIn (Fr r) 0 P a w (NextQ E B S0 w0 gv K) Q

section
variable {B : Nat} {S0 : Nat → Prop} {w0 : World} {gv : Gv} {σ : Nat → Option Nat} {st : St E.T} {a : Act} {w w' : World}

/-- A call that leaves alone all that was there. -/
theorem Gam.below_call (g : Gam E B S0 w0 gv σ st a w) (hw : Below w.heap.size w w') : Gam E B S0 w0 gv σ st a w' ∧ Goes E st.heap σ w (sup E B S0 st.heap σ w) st.heap σ w' (sup E B S0 st.heap σ w') ∧
    (∀ k, (sup E B S0 st.heap σ w k ∨ (w.heap.size ≤ k ∧ k < w'.heap.size)) → sup E B S0 st.heap σ w' k) := by
  have hs : ∀ k, sup E B S0 st.heap σ w k → sup E B S0 st.heap σ w' k := fun k h => ⟨h.1, Nat.lt_of_lt_of_le h.2.1 hw.size, h.2.2⟩
  have go : Goes E st.heap σ w (sup E B S0 st.heap σ w) st.heap σ w' (sup E B S0 st.heap σ w') := goes_more (fun k h => ⟨hs k h, hw.block k h.2.1⟩) (fun k h => hw.block k h)
  refine ⟨?_, go, fun k h => ?_⟩
  · exact g.move (H' := st.heap) (σ' := σ) (g.below.trans (hw.mono g.hB)) (Nat.le_trans g.hB hw.size) go (fun j b hj => (g.blk j b hj).goes go rfl (fun k hk => hw.block k (g.blk_lt hj hk))) g.inj g.lt
  · rcases h with h | ⟨h1, h2⟩
    · exact hs k h
    · exact ⟨.inr (Nat.le_trans g.hB h1), h2, fun id b hl he => by have := g.blk_lt hl he; omega⟩

theorem freshOk_spec (_g : Gam E B S0 w0 gv σ st a w) {o : Op} {id : Nat} (h : freshOk o st id = true) : allocs o = true → Fresh st id := by
  intro ha
  unfold freshOk at h
  rw [ha] at h
  simp only at h
  split at h
  · rename_i hf
    have hlt : id < st.next := by simpa [Nat.blt_eq] using h
    clear h ha
    have : ∀ (H : List (Nat × HS E.T)), freshB H id = true → look H id = .free ∧ ∃ p ∈ H, p.1 = id := by
      intro H
      induction H with
      | nil => intro h; simp [freshB] at h
      | cons p r ih =>
        intro h
        obtain ⟨i, s⟩ := p
        simp only [freshB] at h
        split at h
        · rename_i hb
          split at h
          · exact ⟨by simp only [look, hb], (i, .free), by simp, Nat.eq_of_beq_eq_true hb⟩
          · cases h
        · rename_i hb
          obtain ⟨h1, q, h2, h3⟩ := ih h
          exact ⟨by simp [look, hb, h1], q, by simp [h2], h3⟩
    obtain ⟨h1, h2⟩ := this _ hf
    exact ⟨h1, h2, hlt⟩
  · cases h

theorem wp_of_yields {r : Option Nat} {o : Oper} {v : Value} {K : Act → World → Prop} {Q : Exit → Act → World → Prop} (hd : ∀ c, o.op ≠ .defer c) (h : Yields P o a w v w') (hk : K (a.put o.dst v) w') : o.wpIn (Fr r) 0 P a w K Q := by
  refine ⟨fun _ _ => trivial, ?_⟩
  rw [Oper.semAt_eq _ _ _ hd]
  rcases h with h | ⟨h, rfl⟩
  · rw [h]; exact hk
  · rw [h]; exact hk

theorem core_defer {fresh : Nat} {tmps : List (SV E.T)} {H : List (Nat × HS E.T)} {o : Op} {out : Out E.T} (h : core E fresh tmps H o = some out) : ∀ c, o ≠ .defer c := by
  rintro c rfl
  simp [core] at h

theorem core_wp {r : Option Nat} (tab : TabOk P E) (g : Gam E B S0 w0 gv σ st a w) {o : Oper} {fresh : Nat} {out : Out E.T} {K : St E.T → Prop} {Q : Exit → Act → World → Prop} (hf : freshOk o.op st fresh = true) (h : core E fresh st.tmps st.heap o.op = some out) (hc : out.cond = true)
    (hk : K ((st.upds out.upd).put o.dst out.val)) : o.wpIn (Fr r) 0 P a w (NextQ E B S0 w0 gv K) Q := by
  obtain ⟨v, w', σ', h1, h2, h3⟩ := core_sound tab g (freshOk_spec g hf) h hc
  exact wp_of_yields (core_defer h) h1 ⟨_, σ', h2.put o.dst h3, hk⟩

theorem run_call {o : Oper} {c : Call} {fo : Operand} (ho : o.op = .call c) (hc : c.callee = .value fo) {f : Nat} {caps : Array Value} (hf : a.eval fo = .func (.func f) #[] caps) {fn : Func} (hfn : P.funcs[f]? = some fn) (hb : fn.body.isSome = true) (hn : (fn.name == "runtime.NumGoroutine") = false) :
    (execOp a.eval o).run P w = .ok (.enter f ((c.args.map a.eval) ++ caps)) w := by
  have hb' : fn.body.isNone = false := by cases hx : fn.body <;> simp_all
  have hn' : fn.name ≠ "runtime.NumGoroutine" := by simpa using hn
  have hb2 : fn.body ≠ none := by cases hx : fn.body <;> simp_all
  simp [execOp, ho, resolve, hc, Deferred.ofValue, hf, invoke, callFunc, hfn, hb2, hn']

theorem crow_dat (g : Gam E B S0 w0 gv σ st a w) {id n t : Nat} {cs : List (SV E.T)} {l : List (E.T t)} {v : Value} (hl : look st.heap id = .live (.cells t cs)) (he : E.has t = true) (hc : chunks E t n (cs.map (rowToDat st.heap)) = some l)
    (hr : RelS E st.heap σ w (sup E B S0 st.heap σ w) (.crow id n) v) {H' : List (Nat × HS E.T)} (go : Goes E st.heap σ w (sup E B S0 st.heap σ w) H' σ w (sup E B S0 H' σ w)) {ids : List Nat}
    (hd : ∀ j b, look H' j = .live b → j ∉ ids ∧ ∃ c, look st.heap j = .live c) (hi : id ∈ ids ∧ ∀ i ∈ rowIds1 cs, i ∈ ids) : RelS E H' σ w (sup E B S0 H' σ w) (.dat t l) v := by
  cases hr with
  | crow _ _ k h1 h2 =>
    obtain ⟨k', arr, h3, h4, h5, h6⟩ := g.blk id _ hl
    rw [h2] at h3; cases h3
    have m := mapDat_rel g go hd h6 hi.2
    obtain ⟨m2, hlen⟩ := chunks_rel he m hc
    have hf := RelC.flat_at he m2
    subst hlen
    refine .dat t l ⟨k, 0, none⟩ l.length (fun i => (arr.toList.drop (i * E.sz t)).take (E.sz t)) he (fun _ => ⟨.inr h4, (Array.getElem?_eq_some_iff.1 h5).1, fun j b hj he' => ?_⟩) (Nat.le_refl _) (fun i x hx => hf.2 i x hx) (fun i x hx j u hu => ?_)
    · obtain ⟨h11, c', h12⟩ := hd j b hj
      exact h11 (by have := g.inj j id _ _ k h12 hl he' h2; rw [this]; exact hi.1)
    · rw [add_plain']
      refine cell_of_blk h5 _ _ ?_
      rw [List.getElem?_take] at hu
      split at hu
      · rw [List.getElem?_drop] at hu
        rw [← hu]; congr 1; omega
      · cases hu

theorem frz_row {H : List (Nat × HS E.T)} (s : SV E.T) : (∃ id n, s = .crow id n) ∨ (∃ id, s = .map id) ∨ (frz1 E H s = s ∧ inner1 H s = []) := by
  cases s <;> first | exact .inr (.inr ⟨rfl, rfl⟩) | exact .inl ⟨_, _, rfl⟩ | exact .inr (.inl ⟨_, rfl⟩)

theorem map_dat (tab : TabOk P E) (g : Gam E B S0 w0 gv σ st a w) {id kt vt : Nat} {l : List (E.T kt × E.T vt)} {v : Value} (hl : look st.heap id = .live (.map kt vt l))
    (hr : RelS E st.heap σ w (sup E B S0 st.heap σ w) (.map id) v) {H' : List (Nat × HS E.T)} {ids : List Nat}
    (hd : ∀ j b, look H' j = .live b → j ∉ ids ∧ ∃ c, look st.heap j = .live c) (hi : id ∈ ids) : RelS E H' σ w (sup E B S0 H' σ w) (.mdat kt vt l) v := by
  cases hr with
  | map _ k h1 h2 =>
    obtain ⟨hk, hv, k', es, h3, h4, h5, h6⟩ := g.blk id _ hl
    rw [h2] at h3; cases h3
    refine .mdat kt vt l k es ⟨.inr h4, (Array.getElem?_eq_some_iff.1 h5).1, fun j b hj he' => ?_⟩ h5 (.of tab hk hv h6)
    obtain ⟨h11, c', h12⟩ := hd j b hj
    exact h11 (by have := g.inj j id _ _ k h12 hl he' h2; rw [this]; exact hi)

theorem frz_rel (tab : TabOk P E) (g : Gam E B S0 w0 gv σ st a w) {s : SV E.T} {v : Value} (hr : RelS E st.heap σ w (sup E B S0 st.heap σ w) s v)
    {H' : List (Nat × HS E.T)} (go : Goes E st.heap σ w (sup E B S0 st.heap σ w) H' σ w (sup E B S0 H' σ w)) {ids : List Nat} (hd : ∀ j b, look H' j = .live b → j ∉ ids ∧ ∃ c, look st.heap j = .live c)
    (hi : ∀ i ∈ inner1 st.heap s, i ∈ ids) (hi2 : ∀ id, s = .row id → id ∈ ids) : RelS E H' σ w (sup E B S0 H' σ w) (rowToDat st.heap (frz1 E st.heap s)) v := by
  rcases frz_row (H := st.heap) s with ⟨id, n, rfl⟩ | ⟨id, rfl⟩ | ⟨h1, _⟩
  · unfold frz1
    simp only
    split
    · rename_i t cs hl
      simp only [inner1, hl] at hi
      split
      · rename_i he
        split
        · rename_i l hc
          exact crow_dat g hl he hc hr go hd ⟨hi id (by simp), fun i h => hi i (by simp [h])⟩
        · exact .any _
      · exact .any _
    · exact .any _
  · unfold frz1
    simp only
    split
    · rename_i kt vt l hl
      exact map_dat tab g hl hr hd (hi id (by simp [inner1]))
    · exact .any _
  · rw [h1]
    exact rowToDat_rel g hr go (fun id hid j b hj => by
      obtain ⟨h1, h2⟩ := hd j b hj
      exact ⟨fun e => h1 (e ▸ hi2 id hid), h2⟩)

theorem frz_width {H : List (Nat × HS E.T)} {s : SV E.T} (h : width s = 1) : width (rowToDat H (frz1 E H s)) = 1 := by
  rcases frz_row (H := H) s with ⟨id, n, rfl⟩ | ⟨id, rfl⟩ | ⟨h1, _⟩
  · unfold frz1
    simp only
    split
    · split
      · split <;> rfl
      · rfl
    · rfl
  · unfold frz1
    simp only
    split <;> rfl
  · rw [h1]
    unfold rowToDat
    split
    · split <;> rfl
    · exact h

theorem mapFrz_rel (tab : TabOk P E) (g : Gam E B S0 w0 gv σ st a w) {H' : List (Nat × HS E.T)} (go : Goes E st.heap σ w (sup E B S0 st.heap σ w) H' σ w (sup E B S0 H' σ w)) {ids : List Nat}
    (hd : ∀ j b, look H' j = .live b → j ∉ ids ∧ ∃ c, look st.heap j = .live c) : ∀ {cs : List (SV E.T)} {vs : List Value}, RelC E st.heap σ w (sup E B S0 st.heap σ w) cs vs → (∀ i ∈ rowIds1 cs ++ cs.flatMap (inner1 st.heap), i ∈ ids) →
      RelC E H' σ w (sup E B S0 H' σ w) (cs.map fun s => rowToDat st.heap (frz1 E st.heap s)) vs := by
  intro cs
  induction cs with
  | nil => intro vs h _; cases h; exact .nil
  | cons s r ih =>
    intro vs h hi
    have hr : ∀ i ∈ rowIds1 r ++ r.flatMap (inner1 st.heap), i ∈ ids := fun i h' => hi i (by
      rcases List.mem_append.1 h' with h' | h'
      · refine List.mem_append_left _ ?_
        cases s <;> simp [rowIds1, h']
      · refine List.mem_append_right _ ?_
        rw [List.flatMap_cons]
        exact List.mem_append_right _ h')
    cases h with
    | cons h0 h00 h1 h2 =>
      refine .cons (frz_width h0) h00 (frz_rel tab g h1 go hd (fun i h => hi i (List.mem_append_right _ (by rw [List.flatMap_cons]; exact List.mem_append_left _ h))) (fun id hid => ?_)) (ih h2 hr)
      subst hid
      exact hi id (by simp [rowIds1])
    | arr h1 h2 => exact .arr h1 (ih h2 hr)

theorem cv_width {H : List (Nat × HS E.T)} {n : Nat} {s : SV E.T} (h : width s = 1) : width (cv E H n s) = 1 := by
  cases n with
  | zero => unfold cv; split <;> first | exact h | rfl
  | succ n =>
    unfold cv
    split
    · split <;> rfl
    · rfl
    · exact frz_width h

theorem cv_relC {H H' : List (Nat × HS E.T)} {σ : Nat → Option Nat} {w : World} {S S' : Nat → Prop} {ids : List Nat} {n : Nat} (IH : ∀ {s : SV E.T} {v : Value}, RelS E H σ w S s v → (∀ i ∈ cvI H n s, i ∈ ids) → RelS E H' σ w S' (cv E H n s) v) :
    ∀ {cs : List (SV E.T)} {vs : List Value}, RelC E H σ w S cs vs → (∀ i ∈ cs.flatMap (cvI H n), i ∈ ids) → RelC E H' σ w S' (cs.map (cv E H n)) vs := by
  intro cs
  induction cs with
  | nil => intro vs h _; cases h; exact .nil
  | cons c r ih =>
    intro vs h hi
    have hr : ∀ i ∈ r.flatMap (cvI H n), i ∈ ids := fun i h => hi i (by rw [List.flatMap_cons]; exact List.mem_append_right _ h)
    have hc : ∀ i ∈ cvI H n c, i ∈ ids := fun i h => hi i (by rw [List.flatMap_cons]; exact List.mem_append_left _ h)
    cases h with
    | cons h0 h00 h7 h8 => exact .cons (cv_width h0) h00 (IH h7 hc) (ih h8 hr)
    | arr h7 h8 => cases n <;> exact .arr h7 (ih h8 hr)
theorem cv_relL {H H' : List (Nat × HS E.T)} {σ : Nat → Option Nat} {w : World} {S S' : Nat → Prop} {ids : List Nat} {n : Nat} (IH : ∀ {s : SV E.T} {v : Value}, RelS E H σ w S s v → (∀ i ∈ cvI H n s, i ∈ ids) → RelS E H' σ w S' (cv E H n s) v) :
    ∀ {cs : List (SV E.T)} {vs : List Value}, RelL E H σ w S cs vs → (∀ i ∈ cs.flatMap (cvI H n), i ∈ ids) → RelL E H' σ w S' (cs.map (cv E H n)) vs := by
  intro cs
  induction cs with
  | nil => intro vs h _; cases h; exact .nil
  | cons c r ih =>
    intro vs h hi
    have hr : ∀ i ∈ r.flatMap (cvI H n), i ∈ ids := fun i h => hi i (by rw [List.flatMap_cons]; exact List.mem_append_right _ h)
    have hc : ∀ i ∈ cvI H n c, i ∈ ids := fun i h => hi i (by rw [List.flatMap_cons]; exact List.mem_append_left _ h)
    cases h with
    | cons h7 h8 => exact .cons (IH h7 hc) (ih h8 hr)

theorem cv_base (tab : TabOk P E) (g : Gam E B S0 w0 gv σ st a w) {H' : List (Nat × HS E.T)} (go : Goes E st.heap σ w (sup E B S0 st.heap σ w) H' σ w (sup E B S0 H' σ w)) {ids : List Nat} (hd : ∀ j b, look H' j = .live b → j ∉ ids ∧ ∃ c, look st.heap j = .live c)
    {s : SV E.T} {v : Value} (hr : RelS E st.heap σ w (sup E B S0 st.heap σ w) s v) (hi : ∀ i ∈ inner1 st.heap s, i ∈ ids) (h2 : ∀ id, s = .row id → id ∈ ids) : RelS E H' σ w (sup E B S0 H' σ w) (rowToDat st.heap (frz1 E st.heap s)) v :=
  frz_rel tab g hr go hd hi h2

theorem cv_rel (tab : TabOk P E) (g : Gam E B S0 w0 gv σ st a w) {H' : List (Nat × HS E.T)} (go : Goes E st.heap σ w (sup E B S0 st.heap σ w) H' σ w (sup E B S0 H' σ w)) {ids : List Nat} (hd : ∀ j b, look H' j = .live b → j ∉ ids ∧ ∃ c, look st.heap j = .live c) :
    ∀ (n : Nat) {s : SV E.T} {v : Value}, RelS E st.heap σ w (sup E B S0 st.heap σ w) s v → (∀ i ∈ cvI st.heap n s, i ∈ ids) → RelS E H' σ w (sup E B S0 H' σ w) (cv E st.heap n s) v
  | 0, s, v, hr, _ => by
    unfold cv
    split
    · cases hr
    · exact .any v
  | n + 1, s, v, hr, hi => by
    have IH := fun {s : SV E.T} {v : Value} => cv_rel tab g go hd n (s := s) (v := v)
    cases s with
    | ptr id off =>
      simp only [cv]
      simp only [cvI] at hi
      split
      · rename_i t cs hl
        rw [hl] at hi
        simp only at hi
        cases hr with
        | ptr _ _ k h1 h2 =>
          obtain ⟨k', arr, h3, h4, h5, h6⟩ := g.blk id _ hl
          rw [h2] at h3; cases h3
          refine .boxd t _ off k arr ⟨.inr h4, (Array.getElem?_eq_some_iff.1 h5).1, fun j b hj he' => ?_⟩ h5 (cv_relC IH h6 (fun i h => hi i (List.mem_cons_of_mem _ h)))
          obtain ⟨h11, c', h12⟩ := hd j b hj
          exact h11 (by have := g.inj j id _ _ k h12 hl he' h2; rw [this]; exact hi id (by simp))
      · exact .any _
    | fn f caps =>
      simp only [cv]
      simp only [cvI] at hi
      cases hr with
      | fn _ _ vs h => exact .fn _ _ _ (cv_relL IH h hi)
    | row id => exact cv_base tab g go hd hr (fun i h => by simp [inner1] at h) (fun i h => by cases h; exact hi id (by simp [cvI]))
    | _ => exact cv_base tab g go hd hr hi (fun _ h => by cases h)

theorem cvI_free (g : Gam E B S0 w0 gv σ st a w) (inn : ∀ {s : SV E.T} {v : Value}, RelS E st.heap σ w (sup E B S0 st.heap σ w) s v → ∀ i ∈ inner1 st.heap s, look st.heap i ≠ .free) :
    ∀ (n : Nat) {s : SV E.T} {v : Value}, RelS E st.heap σ w (sup E B S0 st.heap σ w) s v → ∀ i ∈ cvI st.heap n s, look st.heap i ≠ .free
  | 0, s, v, _, i, hi => by simp [cvI] at hi
  | n + 1, s, v, hr, i, hi => by
    have IH := fun {s : SV E.T} {v : Value} => cvI_free g inn n (s := s) (v := v)
    have IC : ∀ {cs : List (SV E.T)} {vs : List Value}, RelC E st.heap σ w (sup E B S0 st.heap σ w) cs vs → ∀ i ∈ cs.flatMap (cvI st.heap n), look st.heap i ≠ .free := by
      intro cs
      induction cs with
      | nil => intro vs _ i hi; simp at hi
      | cons c r ih =>
        intro vs h i hi
        rw [List.flatMap_cons] at hi
        cases h with
        | cons _ _ h1 h2 =>
          rcases List.mem_append.1 hi with hi | hi
          · exact IH h1 i hi
          · exact ih h2 i hi
        | arr _ h2 =>
          rcases List.mem_append.1 hi with hi | hi
          · cases n <;> simp [cvI, inner1] at hi
          · exact ih h2 i hi
    have IL : ∀ {cs : List (SV E.T)} {vs : List Value}, RelL E st.heap σ w (sup E B S0 st.heap σ w) cs vs → ∀ i ∈ cs.flatMap (cvI st.heap n), look st.heap i ≠ .free := by
      intro cs
      induction cs with
      | nil => intro vs _ i hi; simp at hi
      | cons c r ih =>
        intro vs h i hi
        rw [List.flatMap_cons] at hi
        cases h with
        | cons h1 h2 =>
          rcases List.mem_append.1 hi with hi | hi
          · exact IH h1 i hi
          · exact ih h2 i hi
    cases s with
    | ptr id off =>
      simp only [cvI] at hi
      cases hr with
      | ptr _ _ k h1 h2 =>
        rcases List.mem_cons.1 hi with rfl | hi
        · exact h1
        · split at hi
          · rename_i t cs hl
            obtain ⟨_, _, _, _, _, h6⟩ := g.blk id _ hl
            exact IC h6 i hi
          · cases hi
    | fn f caps =>
      simp only [cvI] at hi
      cases hr with
      | fn _ _ vs h => exact IL h i hi
    | row id =>
      simp [cvI] at hi; subst hi
      cases hr <;> assumption
    | _ => exact inn hr i hi

theorem toData2_rel (tab : TabOk P E) (g : Gam E B S0 w0 gv σ st a w) {s : SV E.T} {v : Value} (hr : RelS E st.heap σ w (sup E B S0 st.heap σ w) s v)
    {H' : List (Nat × HS E.T)} (go : Goes E st.heap σ w (sup E B S0 st.heap σ w) H' σ w (sup E B S0 H' σ w)) {ids : List Nat} (hd : ∀ j b, look H' j = .live b → j ∉ ids ∧ ∃ c, look st.heap j = .live c) (hi : ∀ i ∈ idsH st.heap s, i ∈ ids) :
    RelS E H' σ w (sup E B S0 H' σ w) (toData2 E st.heap s) v := by
  unfold toData2
  split
  · rename_i cs
    cases hr with
    | agg _ us h => exact .agg _ _ (mapFrz_rel tab g go hd h hi)
  · exact cv_rel tab g go hd 6 hr hi
  · exact cv_rel tab g go hd 6 hr hi
  · rename_i hna hnp hnf
    refine frz_rel tab g hr go hd (fun i h => hi i ?_) (fun id hid => by subst hid; exact hi id (by simp [idsH]))
    cases s <;> first | exact h | (simp [inner1] at h; done) | exact absurd rfl (hna _)

theorem rowIdsH_free (g : Gam E B S0 w0 gv σ st a w) : ∀ {ss : List (SV E.T)} {vs : List Value}, RelL E st.heap σ w (sup E B S0 st.heap σ w) ss vs → ∀ i ∈ rowIdsH st.heap ss, look st.heap i ≠ .free := by
  have inn : ∀ {s : SV E.T} {v : Value}, RelS E st.heap σ w (sup E B S0 st.heap σ w) s v → ∀ i ∈ inner1 st.heap s, look st.heap i ≠ .free := by
    intro s v h i hi
    cases s <;> first | (simp [inner1] at hi; done) | skip
    all_goals try (cases h with
      | map _ k h1 h2 => simp [inner1] at hi; subst hi; exact h1)
    rename_i id n
    cases h with
    | crow _ _ k h1 h2 =>
      simp only [inner1] at hi
      split at hi
      · rename_i t cs hl
        rcases List.mem_cons.1 hi with rfl | hi
        · exact h1
        · obtain ⟨_, _, _, _, _, h6⟩ := g.blk id _ hl
          exact rowIds_free h6 i hi
      · simp at hi; subst hi; exact h1
  have cells : ∀ {cs : List (SV E.T)} {vs : List Value}, RelC E st.heap σ w (sup E B S0 st.heap σ w) cs vs → ∀ i ∈ cs.flatMap (inner1 st.heap), look st.heap i ≠ .free := by
    intro cs
    induction cs with
    | nil => intro vs _ i hi; simp at hi
    | cons s r ih =>
      intro vs h i hi
      rw [List.flatMap_cons] at hi
      cases h with
      | cons _ _ h1 h2 =>
        rcases List.mem_append.1 hi with hi | hi
        · exact inn h1 i hi
        · exact ih h2 i hi
      | arr _ h2 =>
        rcases List.mem_append.1 hi with hi | hi
        · simp [inner1] at hi
        · exact ih h2 i hi
  intro ss
  induction ss with
  | nil => intro vs _ i hi; simp [rowIdsH] at hi
  | cons s r ih =>
    intro vs h i hi
    rw [rowIdsH, List.flatMap_cons] at hi
    cases h with
    | cons h1 h2 =>
      rcases List.mem_append.1 hi with hi | hi
      · cases s <;> first | exact inn h1 i hi | exact cvI_free g inn 6 h1 i hi | skip
        · cases h1 with
          | agg _ us h3 =>
            rcases List.mem_append.1 hi with hi | hi
            · exact rowIds_free h3 i hi
            · exact cells h3 i hi
      · exact ih h2 i hi

theorem dataArgs_rel (tab : TabOk P E) (g : Gam E B S0 w0 gv σ st a w) {ss : List (SV E.T)} {vs : List Value} (h : RelL E st.heap σ w (sup E B S0 st.heap σ w) ss vs) {args' : List (SV E.T)} (hd : dataArgs E st.heap ss = some args')
    {H' : List (Nat × HS E.T)} (go : Goes E st.heap σ w (sup E B S0 st.heap σ w) H' σ w (sup E B S0 H' σ w)) (hl : ∀ j b, look H' j = .live b → j ∉ rowIdsH st.heap ss ∧ ∃ c, look st.heap j = .live c) :
    RelL E [] (fun _ => none) w (sup E B S0 H' σ w) args' vs := by
  unfold dataArgs at hd
  split at hd
  · rename_i hall
    cases hd
    have : ∀ (ids : List Nat), (∀ j b, look H' j = .live b → j ∉ ids ∧ ∃ c, look st.heap j = .live c) → ∀ (ss : List (SV E.T)) (vs : List Value), RelL E st.heap σ w (sup E B S0 st.heap σ w) ss vs → (∀ i ∈ rowIdsH st.heap ss, i ∈ ids) → (ss.map (toData2 E st.heap)).all isDataV = true →
        RelL E [] (fun _ => none) w (sup E B S0 H' σ w) (ss.map (toData2 E st.heap)) vs := by
      intro ids hids ss
      induction ss with
      | nil => intro vs h _ _; cases h; exact .nil
      | cons s r ih =>
        intro vs h hi hall
        simp only [List.map_cons, List.all_cons, Bool.and_eq_true] at hall
        rw [rowIdsH, List.flatMap_cons] at hi
        cases h with
        | cons h1 h2 => exact .cons ((toData2_rel tab g h1 go hids (fun i h => hi i (List.mem_append_left _ h))).dataV hall.1) (ih _ h2 (fun i h => hi i (List.mem_append_right _ h)) hall.2)
    exact this (rowIdsH st.heap ss) hl ss vs h (fun _ h => h) hall
  · cases hd

theorem flat_any {H H' : List (Nat × HS E.T)} {σ σ' : Nat → Option Nat} {w w' : World} {S S' : Nat → Prop} {s : SV E.T} {v : Value} (h : RelS E H σ w S s v) (hf : flatV s = true) : RelS E H' σ' w' S' s v := by
  have one : ∀ {s : SV E.T} {v : Value}, RelS E H σ w S s v → flat s = true → RelS E H' σ' w' S' s v := fun {s v} h hf => by
    cases s with
    | int k n => cases h; exact .int _ _
    | bool b => cases h; exact .bool _
    | str b => cases h; exact .str _
    | nils => cases h; exact .nils
    | nilp => cases h; exact .nilp
    | nilf => cases h; exact .nilf
    | arr k n l => cases h
    | _ => simp [flat] at hf
  have cell : ∀ {cs : List (SV E.T)} {vs : List Value}, RelC E H σ w S cs vs → cs.all flat = true → RelC E H' σ' w' S' cs vs := by
    intro cs
    induction cs with
    | nil => intro vs h _; cases h; exact .nil
    | cons c r ih =>
      intro vs h hf
      simp only [List.all_cons, Bool.and_eq_true] at hf
      cases h with
      | cons h0 h00 h1 h2 => exact .cons h0 h00 (one h1 hf.1) (ih h2 hf.2)
      | arr h1 h2 => exact .arr h1 (ih h2 hf.2)
  cases s with
  | agg cs => cases h with
    | agg _ vs h => exact .agg _ _ (cell h hf)
  | tup cs => cases h with
    | tup _ vs h =>
      refine .tup _ _ ?_
      simp only [flatV, List.all_eq_true] at hf
      generalize vs.toList = us at h
      clear vs
      induction cs generalizing us with
      | nil => cases h; exact .nil
      | cons c r ih =>
        cases h with
        | cons h1 h2 =>
          refine .cons ?_ (ih (fun x hx => hf x (by simp [hx])) _ h2)
          have := hf c (by simp)
          cases c with
          | agg cs => cases h1 with
            | agg _ vs h => exact .agg _ _ (cell h (by simpa using this))
          | _ => exact one h1 this
  | _ => exact one h hf

end
end Go.Vg
