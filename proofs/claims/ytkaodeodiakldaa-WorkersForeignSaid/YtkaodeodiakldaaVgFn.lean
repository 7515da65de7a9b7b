/-
  Rules of functions over data; the pieces of a body. Own work; no condition.
-/
import Derived.Test.YtkaodeodiakldaaVgTab
namespace Go.Vg
open Go.RowKit
variable {P : Program} {E : Env}

/-- Values that say as much or less: a nil slice is an empty one. -/
inductive WkV {T : Nat → Type} (has : Nat → Bool) : SV T → SV T → Prop
  | same (s) : WkV has s s
  | nils (e) : has e = true → WkV has .nils (.dat e [])
  | agg {cs cs'} : WkL has cs cs' → WkV has (.agg cs) (.agg cs')

inductive WkA {T : Nat → Type} (has : Nat → Bool) : List (SV T) → List (SV T) → Prop
  | nil : WkA has [] []
  | cons {s s' r r'} : WkV has s s' → WkA has r r' → WkA has (s :: r) (s' :: r')

section
variable {H : List (Nat × HS E.T)} {σ : Nat → Option Nat} {w : World} {S : Nat → Prop}
theorem RelS.wkV {s s' : SV E.T} {v : Value} (h : RelS E H σ w S s v) (hw : WkV E.has s s') : RelS E H σ w S s' v := by
  cases hw with
  | same => exact h
  | nils e he => cases h; exact .dat_nil e he
  | agg hw => cases h with | agg _ vs h => exact .agg _ _ (h.wk hw)

theorem RelL.wkA {ss ss' : List (SV E.T)} {vs : List Value} (h : RelL E H σ w S ss vs) (hw : WkA E.has ss ss') : RelL E H σ w S ss' vs := by
  induction hw generalizing vs with
  | nil => exact h
  | cons h1 _ ih => cases h with | cons h2 h3 => exact .cons (h2.wkV h1) (ih h3)

theorem RelS.wkT {ss ss' : List (SV E.T)} {v : Value} (h : RelS E H σ w S (tupV ss) v) (hw : WkA E.has ss ss') : RelS E H σ w S (tupV ss') v := by
  cases hw with
  | nil => exact h
  | cons h1 h2 => cases h2 with
    | nil => exact RelS.wkV h h1
    | cons h3 h4 => cases h with | tup _ vs h => exact .tup _ _ (h.wkA (.cons h1 (.cons h3 h4)))
end

/-- What is asked at a function's end, over data. -/
def finR {Y : Type} (E : Env) (fn : Func) (decR : List (SV E.T) → Option Y) (K : Y → Prop) (ex : Ex) (st : St E.T) : Prop :=
  match ex with
  | .exit _ => False
  | _ => match resB E st.heap st.tmps fn.results.toList with
    | some vs => match dataArgs E st.heap vs with
      | some vs' => match decR vs' with
        | some y => K y
        | none => False
      | none => False
    | none => False

/-- A function's rule over data. -/
def ruleF {X Y : Type} (E : Env) (decA : List (SV E.T) → Option X) (encR : Y → List (SV E.T)) (V : X → (Y → Prop) → Prop) : Rule E :=
  .fn false Y (fun y => tupV (encR y)) fun args K => match decA args with
    | some x => V x K
    | none => False

theorem rule_fun {X Y : Type} (tab : TabOk P E) {C : Ctx E} (hC : CtxOk P E C) (hb : BodiesOk P E C) {f : Nat} {fn : Func} {body : Code} (hfn : E.fn f = some fn) (hbody : fn.body = some body) (hp : PiecesOk P E C f body) (n : Nat)
    {decA : List (SV E.T) → Option X} (encA : X → List (SV E.T)) {decR : List (SV E.T) → Option Y} {encR : Y → List (SV E.T)}
    (hA : ∀ args x, decA args = some x → WkA E.has args (encA x)) (hR : ∀ vs y, decR vs = some y → WkA E.has vs (encR y)) (hRd : ∀ y, isDataV (tupV (encR y)) = true)
    (hl : ∀ x, (encA x).length ≤ fn.ntmps) {V : X → (Y → Prop) → Prop} (hV : ∀ x K, vcCode E C n f body (entry E fn (encA x)) (finR E fn decR K) = V x K) : RuleOk P E f (ruleF E decA encR V) := by
  intro args K hrk S w vals hS hrel
  split at hrk
  · rename_i x hx
    have hrel := hrel.wkA (hA args x hx)
    have hvc : vcCode E C n f body (entry E fn (encA x)) (finR E fn decR K) := by rw [hV]; exact hrk
    obtain ⟨hP, hname⟩ := tab.fn f fn hfn
    refine (callsIn_wide (n := 0)).1 (callsIn_of_wp_marks (F := Fr none) hP hbody trivial ?_ rfl)
    have hlen := hl x
    have hl := hrel.len
    have hrel' : RelL E [] (fun _ => none) w (sup E w.heap.size S [] (fun _ => none) w) (encA x) vals :=
      hrel.goes (goes_more (fun k hk => ⟨⟨.inl hk, hS k hk, fun id b h => by simp [look] at h⟩, rfl⟩) (fun k _ => rfl))
    have g : Gam E w.heap.size S w ⟨[], []⟩ (fun _ => none) (entry E fn (encA x)) { tmps := vals.toArray ++ Array.replicate (fn.ntmps - vals.toArray.size) undef, defers := [] } w := by
      refine ⟨Below.refl _ _, Nat.le_refl _, ⟨[], rfl, List.nodup_nil, fun D hD => by cases hD⟩, ?_, .nil, fun id b h => by simp [entry, look] at h, fun i j b c k h => by simp [entry, look] at h, fun id h => by simp [entry, look] at h⟩
      have := hrel'.append (RelL.rep (undef_rel (E := E) (H := []) (σ := fun _ => none) (w := w) (S := sup E w.heap.size S [] (fun _ => none) w)) (fn.ntmps - (encA x).length))
      simpa [entry, hl] using this
    refine wpIn_mono (vcCode_sound tab hC (draw_ok tab hC) hb n none _ _ _ _ _ _ _ _ _ _ _ (.inl rfl) hp g hvc) ?_
    rintro e a2 w2 ⟨ex, st2, σ2, hex, g2, hk⟩
    have fin : (match resB E st2.heap st2.tmps fn.results.toList with
      | some vs => match dataArgs E st2.heap vs with
        | some vs' => match decR vs' with
          | some y => K y
          | none => False
        | none => False
      | none => False) → LeavesInM (Fr none) 0 P fn a2.tmps (fun ee w' => ∃ (v' : Value) (y : Y), ee = .returned v' ∧ isDataV (tupV (encR y)) = true ∧ K y ∧ Below w.heap.size w w' ∧ RelS E [] (fun _ => none) w' (fun k => (false = false ∧ S k) ∨ (w.heap.size ≤ k ∧ k < w'.heap.size)) (tupV (encR y)) v') a2.defers .returning w2 := by
      intro hk
      split at hk
      · rename_i vs hvs
        split at hk
        · rename_i vs' hvs'
          split at hk
          · rename_i y hy
            refine leave_ok g2 (fun w3 g3 => ?_)
            obtain ⟨us, h1, h2⟩ := res_run tab g3 _ hvs
            have hids := rowIdsH_free g3 h2
            obtain ⟨_, go3, hlive, _, _, _, _, _⟩ := g3.deads (rowIdsH st2.heap vs) hids
            have hdat := dataArgs_rel tab g3 h2 hvs' go3 (fun j b hj => ⟨(hlive j b hj).1, b, (hlive j b hj).2⟩)
            refine ⟨(if hh : us.toArray.size = 1 then us.toArray[0] else .tuple us.toArray), ?_, _, y, rfl, hRd y, hk, g3.below, ?_⟩
            · rw [results_eq]
              simp only [Sem.run_bind, Sem.run_map, h1, Result.andThen_ok, Sem.run_pure]
            · exact ((tupV_rel hdat).wkT (hR _ _ hy)).goes (goes_more (fun k hk => ⟨hk.1.elim (fun h => .inl ⟨rfl, h⟩) (fun h => .inr ⟨h, hk.2.1⟩), rfl⟩) (fun k _ => rfl))
          · exact hk.elim
        · exact hk.elim
      · exact hk.elim
    cases ex with
    | normal => cases e <;> first | exact hex.elim | exact fin hk
    | ret => cases e <;> first | exact hex.elim | exact fin hk
    | exit i => exact hk.elim
  · exact hrk.elim

/-! ### A function that hands back a new slice, of elements that lean on nothing -/
theorem flatC {H H' : List (Nat × HS E.T)} {σ σ' : Nat → Option Nat} {w w' : World} {S S' : Nat → Prop} {cs : List (SV E.T)} {vs : List Value} (h : RelC E H σ w S cs vs) (hf : cs.all flat = true) : RelC E H' σ' w' S' cs vs := by
  have h1 : RelS E H σ w S (.agg cs) (.agg vs.toArray) := .agg _ _ h
  have h2 := flat_any (H' := H') (σ' := σ') (w' := w') (S' := S') h1 hf
  cases h2 with
  | agg _ _ h3 => exact h3

/-- What is asked at the end of such a function. -/
def finO (E : Env) (fn : Func) (e : Nat) (K : List (E.T e) → Prop) (ex : Ex) (st : St E.T) : Prop :=
  match ex with
  | .exit _ => False
  | _ => match resB E st.heap st.tmps fn.results.toList with
    | some vs => match vs with
      | [] => False
      | s :: r => match r with
        | _ :: _ => False
        | [] => match s with
          | .nils => K []
          | .row id => match look st.heap id with
            | .live b => match b with
              | .row e' l => if h : e' = e then K (h ▸ l) else False
              | _ => False
            | _ => False
          | _ => False
    | none => False

def ruleW {X : Type} (E : Env) (e : Nat) (decA : List (SV E.T) → Option X) (V : X → (List (E.T e) → Prop) → Prop) : Rule E :=
  .row false e fun args K => match decA args with
    | some x => V x K
    | none => False

theorem rule_funW {X : Type} (tab : TabOk P E) {C : Ctx E} (hC : CtxOk P E C) (hb : BodiesOk P E C) {f : Nat} {fn : Func} {body : Code} (hfn : E.fn f = some fn) (hbody : fn.body = some body) (hp : PiecesOk P E C f body) (n : Nat) {e : Nat} (he : E.has e = true) (hflat : ∀ x, (E.enc e x).all flat = true)
    {decA : List (SV E.T) → Option X} (encA : X → List (SV E.T)) (hA : ∀ args x, decA args = some x → WkA E.has args (encA x)) (hl : ∀ x, (encA x).length ≤ fn.ntmps) {V : X → (List (E.T e) → Prop) → Prop} (hV : ∀ x K, vcCode E C n f body (entry E fn (encA x)) (finO E fn e K) = V x K) : RuleOk P E f (ruleW E e decA V) := by
  intro args K hrk S w vals hS hrel
  split at hrk
  · rename_i x hx
    have hrel := hrel.wkA (hA args x hx)
    have hvc : vcCode E C n f body (entry E fn (encA x)) (finO E fn e K) := by rw [hV]; exact hrk
    obtain ⟨hP, hname⟩ := tab.fn f fn hfn
    refine (callsIn_wide (n := 0)).1 (callsIn_of_wp_marks (F := Fr none) hP hbody trivial ?_ rfl)
    have hlen := hl x
    have hl := hrel.len
    have hrel' : RelL E [] (fun _ => none) w (sup E w.heap.size S [] (fun _ => none) w) (encA x) vals :=
      hrel.goes (goes_more (fun k hk => ⟨⟨.inl hk, hS k hk, fun id b h => by simp [look] at h⟩, rfl⟩) (fun k _ => rfl))
    have g : Gam E w.heap.size S w ⟨[], []⟩ (fun _ => none) (entry E fn (encA x)) { tmps := vals.toArray ++ Array.replicate (fn.ntmps - vals.toArray.size) undef, defers := [] } w := by
      refine ⟨Below.refl _ _, Nat.le_refl _, ⟨[], rfl, List.nodup_nil, fun D hD => by cases hD⟩, ?_, .nil, fun id b h => by simp [entry, look] at h, fun i j b c k h => by simp [entry, look] at h, fun id h => by simp [entry, look] at h⟩
      have := hrel'.append (RelL.rep (undef_rel (E := E) (H := []) (σ := fun _ => none) (w := w) (S := sup E w.heap.size S [] (fun _ => none) w)) (fn.ntmps - (encA x).length))
      simpa [entry, hl] using this
    refine wpIn_mono (vcCode_sound tab hC (draw_ok tab hC) hb n none _ _ _ _ _ _ _ _ _ _ _ (.inl rfl) hp g hvc) ?_
    rintro ee a2 w2 ⟨ex, st2, σ2, hex, g2, hk⟩
    have fin : (match resB E st2.heap st2.tmps fn.results.toList with
      | some vs => match vs with
        | [] => False
        | s :: r => match r with
          | _ :: _ => False
          | [] => match s with
            | .nils => K []
            | .row id => match look st2.heap id with
              | .live b => match b with
                | .row e' l => if h : e' = e then K (h ▸ l) else False
                | _ => False
              | _ => False
            | _ => False
      | none => False) → LeavesInM (Fr none) 0 P fn a2.tmps (fun ed w' => ∃ (v' : Value) (y : List (E.T e)) (ys : List Value), ed = .returned v' ∧ K y ∧ E.has e = true ∧ Below w.heap.size w w' ∧ w'.ownsRow w.heap.size e (E.sz e) v' y.length ys ∧ ∀ H σ S', RelC E H σ w' S' (y.flatMap (E.enc e)) ys) a2.defers .returning w2 := by
      intro hk
      split at hk
      · rename_i vs hvs
        refine leave_ok g2 (fun w3 g3 => ?_)
        obtain ⟨us, h1, h2⟩ := res_run tab g3 _ hvs
        split at hk
        · exact hk.elim
        · rename_i s r
          split at hk
          · exact hk.elim
          · cases h2 with
            | cons h3 h4 =>
              cases h4
              rename_i u
              have hrun : (results fn a2.tmps).run P w3 = .ok u w3 := by
                rw [results_eq]
                simp only [Sem.run_bind, Sem.run_map, h1, Result.andThen_ok, Sem.run_pure]
                rfl
              split at hk
              · cases h3
                exact ⟨_, hrun, _, [], [], rfl, hk, he, g3.below, World.ownsRow_nil _ _ _ _, fun _ _ _ => .nil⟩
              · rename_i id
                split at hk
                · rename_i b hb2
                  split at hk
                  · rename_i e' l
                    split at hk
                    · rename_i hee
                      subst hee
                      obtain ⟨xs, how, hrel2, _, _, _⟩ := row_own g3 hb2 h3
                      exact ⟨_, hrun, _, l, xs, rfl, hk, he, g3.below, how, fun _ _ _ => flatC hrel2 (by simp only [List.all_flatMap, List.all_eq_true]; exact fun x _ => by have := hflat x; simpa using this)⟩
                    · exact hk.elim
                  · exact hk.elim
                · exact hk.elim
              · exact hk.elim
      · exact hk.elim
    cases ex with
    | normal => cases ee <;> first | exact hex.elim | exact fin hk
    | ret => cases ee <;> first | exact hex.elim | exact fin hk
    | exit i => exact hk.elim
  · exact hrk.elim

/-- A rule of a function that puts other elements into its first argument's row. -/
def ruleI {X : Type} (E : Env) (e : Nat) (decA : List (SV E.T) → Option X) (V : X → (List (E.T e) → Prop) → Prop) : Rule E :=
  .inp e fun args K => match decA args with
    | some x => V x K
    | none => False

/-! ### Tables of rules -/
def findR : List (Nat × Rule E) → Nat → Option (Rule E)
  | [], _ => none
  | p :: r, f => match Nat.beq p.1 f with
    | true => some p.2
    | false => findR r f

def AllOk (P : Program) (E : Env) : List (Nat × Rule E) → Prop
  | [] => True
  | p :: r => RuleOk P E p.1 p.2 ∧ AllOk P E r

theorem findR_ok : ∀ {l : List (Nat × Rule E)}, AllOk P E l → ∀ f r, findR l f = some r → RuleOk P E f r
  | [], _, f, r, h => by cases h
  | p :: l, h, f, r, hf => by
    simp only [findR] at hf
    split at hf
    · rename_i hb
      cases hf
      rw [← Nat.eq_of_beq_eq_true hb]
      exact h.1
    · exact findR_ok h.2 f r hf

/-! ### The pieces of a body -/
def loopsIn : Code → List Code
  | .seq a b => loopsIn a ++ loopsIn b
  | .cond _ a b => loopsIn a ++ loopsIn b
  | .block _ b => loopsIn b
  | .scope b => loopsIn b
  | .loop b => b :: loopsIn b
  | .rangeFunc _ _ x y => loopsIn x ++ loopsIn y
  | _ => []

def seqsIn : Code → List Code
  | .seq a b => b :: (seqsIn a ++ seqsIn b)
  | .cond _ a b => seqsIn a ++ seqsIn b
  | .block _ b => seqsIn b
  | .scope b => seqsIn b
  | .loop b => seqsIn b
  | .rangeFunc _ _ x y => seqsIn x ++ seqsIn y
  | _ => []

def findC : Nat → List Code → Code
  | _, [] => .skip
  | id, c :: r => match Nat.beq (firstRegion c) id with
    | true => c
    | false => findC id r

def hasC : Nat → List Code → Bool
  | _, [] => false
  | id, c :: r => match Nat.beq (firstRegion c) id with
    | true => true
    | false => hasC id r

/-- The loop's body that begins with this region. -/
def loopAt (c : Code) (id : Nat) : Code := findC id (loopsIn c)
/-- The code behind another that begins with this region. -/
def seqAt (c : Code) (id : Nat) : Code := findC id (seqsIn c)

/-- Of these keys, each stands for one code alone. -/
def onceC (ids : List Nat) : List Code → Bool
  | [] => true
  | c :: r => match memN ids (firstRegion c) with
    | true => match hasC (firstRegion c) r with
      | true => false
      | false => onceC ids r
    | false => onceC ids r

theorem hasC_not {id : Nat} : ∀ {l : List Code}, hasC id l = false → ∀ c ∈ l, firstRegion c ≠ id
  | [], _, c, h => by cases h
  | d :: r, h, c, hc => by
    simp only [hasC] at h
    split at h
    · cases h
    · rename_i hb
      rcases List.mem_cons.1 hc with rfl | hc
      · exact fun e => by rw [e] at hb; simp at hb
      · exact hasC_not h c hc

theorem findC_once {ids : List Nat} : ∀ {l : List Code}, onceC ids l = true → ∀ c ∈ l, firstRegion c ∈ ids → findC (firstRegion c) l = c
  | [], _, c, h, _ => by cases h
  | d :: r, h, c, hc, hi => by
    simp only [onceC] at h
    rcases List.mem_cons.1 hc with rfl | hc
    · simp only [findC, Nat.beq_refl]
    · have hne : Nat.beq (firstRegion d) (firstRegion c) = false := by
        cases hb : Nat.beq (firstRegion d) (firstRegion c) with
        | false => rfl
        | true =>
          exfalso
          have e := Nat.eq_of_beq_eq_true hb
          rw [memN_spec.2 (e ▸ hi)] at h
          simp only at h
          split at h
          · cases h
          · rename_i hn; exact hasC_not hn c hc e.symm
      simp only [findC, hne]
      refine findC_once ?_ c hc hi
      split at h
      · split at h
        · cases h
        · exact h
      · exact h

theorem pieces_of {C : Ctx E} {fid : Nat} : ∀ {c : Code}, (∀ t ∈ rfsIn c, RfIn E fid t) → (∀ b ∈ loopsIn c, ∀ p, C.loops fid (firstRegion b) = some p → PieceOk P E p (.loop b)) → (∀ b ∈ seqsIn c, ∀ p, C.seqs fid (firstRegion b) = some p → PieceOk P E p b) → PiecesOk P E C fid c
  | .seq a b, hr, hl, hs => ⟨pieces_of (fun x hx => hr x (by simp [rfsIn, hx])) (fun x hx => hl x (by simp [loopsIn, hx])) (fun x hx => hs x (by simp [seqsIn, hx])), pieces_of (fun x hx => hr x (by simp [rfsIn, hx])) (fun x hx => hl x (by simp [loopsIn, hx])) (fun x hx => hs x (by simp [seqsIn, hx])), hs b (by simp [seqsIn])⟩
  | .cond _ a b, hr, hl, hs => ⟨pieces_of (fun x hx => hr x (by simp [rfsIn, hx])) (fun x hx => hl x (by simp [loopsIn, hx])) (fun x hx => hs x (by simp [seqsIn, hx])), pieces_of (fun x hx => hr x (by simp [rfsIn, hx])) (fun x hx => hl x (by simp [loopsIn, hx])) (fun x hx => hs x (by simp [seqsIn, hx]))⟩
  | .block _ b, hr, hl, hs => pieces_of (c := b) hr hl hs
  | .scope b, hr, hl, hs => pieces_of (c := b) hr hl hs
  | .loop b, hr, hl, hs => ⟨pieces_of (c := b) hr (fun x hx => hl x (by simp [loopsIn, hx])) hs, hl b (by simp [loopsIn])⟩
  | .skip, _, _, _ => trivial
  | .region _ _ _, _, _, _ => trivial
  | .rangeFunc _ ps x y, hr, hl, hs => ⟨hr _ (by simp [rfsIn]), pieces_of (fun z hz => hr z (by simp [rfsIn, hz])) (fun z hz => hl z (by simp [loopsIn, hz])) (fun z hz => hs z (by simp [seqsIn, hz])), pieces_of (fun z hz => hr z (by simp [rfsIn, hz])) (fun z hz => hl z (by simp [loopsIn, hz])) (fun z hz => hs z (by simp [seqsIn, hz]))⟩
  | .exit _, _, _, _ => trivial
  | .label _, _, _, _ => trivial
  | .goto _, _, _, _ => trivial
  | .ret, _, _, _ => trivial
  | .refuse _, _, _, _ => trivial

/-- Told pieces of a function, by their keys. -/
def findP : List (Nat × Piece E) → Nat → Option (Piece E)
  | [], _ => none
  | p :: r, i => match Nat.beq p.1 i with
    | true => some p.2
    | false => findP r i

theorem findP_mem {l : List (Nat × Piece E)} {i : Nat} {p : Piece E} (h : findP l i = some p) : (i, p) ∈ l := by
  induction l with
  | nil => cases h
  | cons q r ih =>
    simp only [findP] at h
    split at h
    · rename_i hb
      cases h
      have := Nat.eq_of_beq_eq_true hb
      subst this
      exact List.mem_cons_self
    · exact List.mem_cons_of_mem _ (ih h)

/-- The pieces in some code, each told rightly. -/
theorem pieces_at {C : Ctx E} {fid : Nat} {c : Code} (hR : ∀ t ∈ rfsIn c, RfIn E fid t) {L S : List (Nat × Piece E)} (hL : ∀ id, C.loops fid id = findP L id) (hS : ∀ id, C.seqs fid id = findP S id)
    (oL : onceC (L.map (·.1)) (loopsIn c) = true) (oS : onceC (S.map (·.1)) (seqsIn c) = true)
    (kL : ∀ q ∈ L, hasC q.1 (loopsIn c) = true → PieceOk P E q.2 (.loop (loopAt c q.1))) (kS : ∀ q ∈ S, hasC q.1 (seqsIn c) = true → PieceOk P E q.2 (seqAt c q.1)) : PiecesOk P E C fid c := by
  have has : ∀ {l : List Code} {b : Code}, b ∈ l → hasC (firstRegion b) l = true := by
    intro l b hb
    cases h : hasC (firstRegion b) l with
    | true => rfl
    | false => exact absurd rfl (hasC_not h b hb)
  refine pieces_of hR (fun b hb p hp => ?_) (fun b hb p hp => ?_)
  · rw [hL] at hp
    have hm := findP_mem hp
    have := kL _ hm (has hb)
    have e := findC_once oL b hb (List.mem_map_of_mem (f := (·.1)) hm)
    unfold loopAt at this
    rw [show findC (firstRegion b, p).fst (loopsIn c) = b from e] at this
    exact this
  · rw [hS] at hp
    have hm := findP_mem hp
    have := kS _ hm (has hb)
    have e := findC_once oS b hb (List.mem_map_of_mem (f := (·.1)) hm)
    unfold seqAt at this
    rw [show findC (firstRegion b, p).fst (seqsIn c) = b from e] at this
    exact this

/-- What holds of some code holds of each loop's body in it. -/
theorem pieces_sub' {C : Ctx E} {fid : Nat} : ∀ {c : Code}, PiecesOk P E C fid c → ∀ b ∈ loopsIn c, PiecesOk P E C fid b
  | .seq x y, h, b, hb => by
    simp only [loopsIn, List.mem_append] at hb
    rcases hb with hb | hb
    · exact pieces_sub' h.1 b hb
    · exact pieces_sub' h.2.1 b hb
  | .cond _ x y, h, b, hb => by
    simp only [loopsIn, List.mem_append] at hb
    rcases hb with hb | hb
    · exact pieces_sub' h.1 b hb
    · exact pieces_sub' h.2 b hb
  | .block _ x, h, b, hb => pieces_sub' (c := x) h b hb
  | .scope x, h, b, hb => pieces_sub' (c := x) h b hb
  | .loop x, h, b, hb => by
    simp only [loopsIn, List.mem_cons] at hb
    rcases hb with rfl | hb
    · exact h.1
    · exact pieces_sub' h.1 b hb
  | .skip, _, _, hb => by cases hb
  | .region _ _ _, _, _, hb => by cases hb
  | .rangeFunc _ _ x y, h, b, hb => by
    simp only [loopsIn, List.mem_append] at hb
    rcases hb with hb | hb
    · exact pieces_sub' h.2.1 b hb
    · exact pieces_sub' h.2.2 b hb
  | .exit _, _, _, hb => by cases hb
  | .label _, _, _, hb => by cases hb
  | .goto _, _, _, hb => by cases hb
  | .ret, _, _, hb => by cases hb
  | .refuse _, _, _, hb => by cases hb

theorem findC_mem {id : Nat} : ∀ {l : List Code}, hasC id l = true → findC id l ∈ l
  | [], h => by cases h
  | c :: r, h => by
    simp only [hasC] at h
    simp only [findC]
    split
    · exact List.mem_cons_self
    · rename_i hb
      rw [hb] at h
      exact List.mem_cons_of_mem _ (findC_mem h)

theorem pieces_sub {C : Ctx E} {fid : Nat} {c : Code} {id : Nat} (h : PiecesOk P E C fid c) (hm : hasC id (loopsIn c) = true) : PiecesOk P E C fid (loopAt c id) :=
  pieces_sub' h _ (findC_mem hm)

/-- What a round owes at its end. -/
def stepK (p : Piece E) (W : List (SV E.T) → (Ex → List (SV E.T) → Prop) → Prop) (K : Ex → List (SV E.T) → Prop) (e : Ex) (st : St E.T) : Prop :=
  match e with
  | .normal => match absSt E.has p.head st with
    | some vs => W vs K
    | none => False
  | e => match p.exit e with
    | some m => match absSt E.has m st with
      | some ws => K e ws
      | none => False
    | none => False

theorem loop_step (tab : TabOk P E) {C : Ctx E} (hC : CtxOk P E C) (hb : BodiesOk P E C) {fid : Nat} {body : Code} (hp : PiecesOk P E C fid body) {p : Piece E}
    {Wn : Nat → List (SV E.T) → (Ex → List (SV E.T) → Prop) → Prop} (hW : p.W = fun vs K => ∃ k, Wn k vs K) (h0 : ∀ vs K, Wn 0 vs K → False) (n : Nat)
    (hs : ∀ k vs K, Wn (k + 1) vs K → vcCode E C n fid body (insSt p.head vs) (stepK p (Wn k) K)) : PieceOk P E p (.loop body) := by
  obtain ⟨head, exit, W⟩ := p
  simp only at hW
  subst hW
  exact loop_ok tab hC (draw_ok tab hC) hb hp (fun vs K h => h0 vs K h) n (fun k vs K h => hs k vs K h)

/-- A piece's exits, by list. -/
def exitF : Option Tm → List (Nat × Tm) → Option Tm → Ex → Option Tm
  | n, _, _, .normal => n
  | _, _, r, .ret => r
  | _, [], _, .exit _ => none
  | n, p :: l, r, .exit i => match Nat.beq p.1 i with
    | true => some p.2
    | false => exitF n l r (.exit i)

theorem pieces_subS' {C : Ctx E} {fid : Nat} : ∀ {c : Code}, PiecesOk P E C fid c → ∀ b ∈ seqsIn c, PiecesOk P E C fid b
  | .seq x y, h, b, hb => by
    simp only [seqsIn, List.mem_cons, List.mem_append] at hb
    rcases hb with rfl | hb | hb
    · exact h.2.1
    · exact pieces_subS' h.1 b hb
    · exact pieces_subS' h.2.1 b hb
  | .cond _ x y, h, b, hb => by
    simp only [seqsIn, List.mem_append] at hb
    rcases hb with hb | hb
    · exact pieces_subS' h.1 b hb
    · exact pieces_subS' h.2 b hb
  | .block _ x, h, b, hb => pieces_subS' (c := x) h b hb
  | .scope x, h, b, hb => pieces_subS' (c := x) h b hb
  | .loop x, h, b, hb => pieces_subS' (c := x) h.1 b hb
  | .skip, _, _, hb => by cases hb
  | .region _ _ _, _, _, hb => by cases hb
  | .rangeFunc _ _ x y, h, b, hb => by
    simp only [seqsIn, List.mem_append] at hb
    rcases hb with hb | hb
    · exact pieces_subS' h.2.1 b hb
    · exact pieces_subS' h.2.2 b hb
  | .exit _, _, _, hb => by cases hb
  | .label _, _, _, hb => by cases hb
  | .goto _, _, _, hb => by cases hb
  | .ret, _, _, hb => by cases hb
  | .refuse _, _, _, hb => by cases hb

theorem pieces_subS {C : Ctx E} {fid : Nat} {c : Code} {id : Nat} (h : PiecesOk P E C fid c) (hm : hasC id (seqsIn c) = true) : PiecesOk P E C fid (seqAt c id) :=
  pieces_subS' h _ (findC_mem hm)

theorem seq_step (tab : TabOk P E) {C : Ctx E} (hC : CtxOk P E C) (hb : BodiesOk P E C) {fid : Nat} {c : Code} (hp : PiecesOk P E C fid c) {p : Piece E} (n : Nat)
    (hs : ∀ vs K, p.W vs K → vcCode E C n fid c (insSt p.head vs) (outP E p K)) : PieceOk P E p c := by
  obtain ⟨head, exit, W⟩ := p
  exact seq_ok tab hC (draw_ok tab hC) hb hp n (fun vs K h => hs vs K h)

/-! ### A value's content -/
def gI {T : Nat → Type} (k : IntKind) : SV T → Option Int
  | .int k' n => match kEq k k' with
    | true => some n
    | false => none
  | _ => none
def gB {T : Nat → Type} : SV T → Option Bool
  | .bool b => some b
  | _ => none
def gS {T : Nat → Type} : SV T → Option ByteArray
  | .str b => some b
  | _ => none
def gD {T : Nat → Type} (e : Nat) : SV T → Option (List (T e))
  | .dat e' l => if h : e' = e then some (h ▸ l) else none
  | _ => none
def gA {T : Nat → Type} (k : IntKind) (n : Nat) : SV T → Option (List Int)
  | .arr k' n' l => match kEq k k', Nat.beq n n' with
    | true, true => some l
    | _, _ => none
  | _ => none
section
variable {T : Nat → Type} {s : SV T}
def gM {T : Nat → Type} (kt vt : Nat) : SV T → Option (List (T kt × T vt))
  | .mdat k v l => if h : k = kt ∧ v = vt then some (h.1 ▸ h.2 ▸ l) else none
  | _ => none
theorem gM_spec {kt vt : Nat} {l : List (T kt × T vt)} (h : gM kt vt s = some l) : s = .mdat kt vt l := by
  unfold gM at h
  split at h
  · split at h
    · rename_i hh; obtain ⟨h1, h2⟩ := hh; subst h1 h2; cases h; rfl
    · cases h
  · cases h
theorem gI_spec {k : IntKind} {n : Int} (h : gI k s = some n) : s = .int k n := by
  unfold gI at h; split at h
  · split at h
    · rename_i hk; cases h; rw [kEq_eq hk]
    · cases h
  · cases h
theorem gB_spec {b : Bool} (h : gB s = some b) : s = .bool b := by
  unfold gB at h; split at h <;> cases h; rfl
theorem gS_spec {b : ByteArray} (h : gS s = some b) : s = .str b := by
  unfold gS at h; split at h <;> cases h; rfl
theorem gD_spec {e : Nat} {l : List (T e)} (h : gD e s = some l) : s = .dat e l := by
  unfold gD at h; split at h
  · split at h
    · rename_i he; subst he; cases h; rfl
    · cases h
  · cases h
theorem gA_spec {k : IntKind} {n : Nat} {l : List Int} (h : gA k n s = some l) : s = .arr k n l := by
  unfold gA at h; split at h
  · split at h
    · rename_i hk hn; cases h; rw [kEq_eq hk, Nat.eq_of_beq_eq_true hn]
    · cases h
  · cases h
theorem asDat_wkV {has : Nat → Bool} {e : Nat} {l : List (T e)} (h : asDat e s = some l) (he : has e = true) : WkV has s (.dat e l) := by
  unfold asDat at h; split at h
  · cases h; exact .nils e he
  · split at h
    · rename_i h1; subst h1; cases h; exact .same _
    · cases h
  · cases h
end

/-! ### Holes' values, one by one -/
section
variable {T : Nat → Type}
def dCI (k : IntKind) (vs : List (SV T)) (f : Int → List (SV T) → Prop) : Prop :=
  match vs with
  | [] => False
  | s :: r => match gI k s with
    | some x => f x r
    | none => False
def dCB (vs : List (SV T)) (f : Bool → List (SV T) → Prop) : Prop :=
  match vs with
  | [] => False
  | s :: r => match gB s with
    | some x => f x r
    | none => False
def dCS (vs : List (SV T)) (f : ByteArray → List (SV T) → Prop) : Prop :=
  match vs with
  | [] => False
  | s :: r => match gS s with
    | some x => f x r
    | none => False
def dCD (e : Nat) (vs : List (SV T)) (f : List (T e) → List (SV T) → Prop) : Prop :=
  match vs with
  | [] => False
  | s :: r => match gD e s with
    | some x => f x r
    | none => False
def dCA (k : IntKind) (n : Nat) (vs : List (SV T)) (f : List Int → List (SV T) → Prop) : Prop :=
  match vs with
  | [] => False
  | s :: r => match gA k n s with
    | some x => f x r
    | none => False
def dCM (kt vt : Nat) (vs : List (SV T)) (f : List (T kt × T vt) → List (SV T) → Prop) : Prop :=
  match vs with
  | [] => False
  | v :: r => match v with
    | .mdat kt' vt' l => if h : kt' = kt ∧ vt' = vt then f (h.1 ▸ h.2 ▸ l) r else False
    | _ => False
theorem dCM_spec {kt vt : Nat} {vs : List (SV T)} {f : List (T kt × T vt) → List (SV T) → Prop} (h : dCM kt vt vs f) : ∃ x r, vs = .mdat kt vt x :: r ∧ f x r := by
  unfold dCM at h
  split at h
  · exact h.elim
  · split at h
    · split at h
      · rename_i he
        obtain ⟨h1, h2⟩ := he
        subst h1 h2
        exact ⟨_, _, rfl, h⟩
      · exact h.elim
    · exact h.elim
def dCN (vs : List (SV T)) (f : List (SV T) → Prop) : Prop :=
  match vs with
  | [] => False
  | s :: r => match s with
    | .nils => f r
    | _ => False
def dCP (vs : List (SV T)) (f : List (SV T) → Prop) : Prop :=
  match vs with
  | [] => False
  | s :: r => match s with
    | .nilp => f r
    | _ => False
def dCF (vs : List (SV T)) (f : List (SV T) → Prop) : Prop :=
  match vs with
  | [] => False
  | s :: r => match s with
    | .nilf => f r
    | _ => False
def dCE (vs : List (SV T)) (p : Prop) : Prop :=
  match vs with
  | [] => p
  | _ :: _ => False
theorem dCI_spec {k : IntKind} {vs : List (SV T)} {f : Int → List (SV T) → Prop} (h : dCI k vs f) : ∃ x r, vs = .int k x :: r ∧ f x r := by
  unfold dCI at h; split at h
  · exact h.elim
  · split at h
    · rename_i hx; exact ⟨_, _, by rw [gI_spec hx], h⟩
    · exact h.elim
theorem dCB_spec {vs : List (SV T)} {f : Bool → List (SV T) → Prop} (h : dCB vs f) : ∃ x r, vs = .bool x :: r ∧ f x r := by
  unfold dCB at h; split at h
  · exact h.elim
  · split at h
    · rename_i hx; exact ⟨_, _, by rw [gB_spec hx], h⟩
    · exact h.elim
theorem dCS_spec {vs : List (SV T)} {f : ByteArray → List (SV T) → Prop} (h : dCS vs f) : ∃ x r, vs = .str x :: r ∧ f x r := by
  unfold dCS at h; split at h
  · exact h.elim
  · split at h
    · rename_i hx; exact ⟨_, _, by rw [gS_spec hx], h⟩
    · exact h.elim
theorem dCD_spec {e : Nat} {vs : List (SV T)} {f : List (T e) → List (SV T) → Prop} (h : dCD e vs f) : ∃ x r, vs = .dat e x :: r ∧ f x r := by
  unfold dCD at h; split at h
  · exact h.elim
  · split at h
    · rename_i hx; exact ⟨_, _, by rw [gD_spec hx], h⟩
    · exact h.elim
theorem dCA_spec {k : IntKind} {n : Nat} {vs : List (SV T)} {f : List Int → List (SV T) → Prop} (h : dCA k n vs f) : ∃ x r, vs = .arr k n x :: r ∧ f x r := by
  unfold dCA at h; split at h
  · exact h.elim
  · split at h
    · rename_i hx; exact ⟨_, _, by rw [gA_spec hx], h⟩
    · exact h.elim
theorem dCN_spec {vs : List (SV T)} {f : List (SV T) → Prop} (h : dCN vs f) : ∃ r, vs = .nils :: r ∧ f r := by
  unfold dCN at h; split at h
  · exact h.elim
  · split at h
    · exact ⟨_, rfl, h⟩
    · exact h.elim
theorem dCP_spec {vs : List (SV T)} {f : List (SV T) → Prop} (h : dCP vs f) : ∃ r, vs = .nilp :: r ∧ f r := by
  unfold dCP at h; split at h
  · exact h.elim
  · split at h
    · exact ⟨_, rfl, h⟩
    · exact h.elim
theorem dCF_spec {vs : List (SV T)} {f : List (SV T) → Prop} (h : dCF vs f) : ∃ r, vs = .nilf :: r ∧ f r := by
  unfold dCF at h; split at h
  · exact h.elim
  · split at h
    · exact ⟨_, rfl, h⟩
    · exact h.elim
theorem dCE_spec {vs : List (SV T)} {p : Prop} (h : dCE vs p) : vs = [] ∧ p := by
  unfold dCE at h; split at h
  · exact ⟨rfl, h⟩
  · exact h.elim
end

def findG : List (Nat × List (Nat × Piece E)) → Nat → List (Nat × Piece E)
  | [], _ => []
  | p :: r, g => match Nat.beq p.1 g with
    | true => p.2
    | false => findG r g

/-- A function's context: rules, and the pieces of its own body and of those that are walked in place. -/
def ctxG (E : Env) (crow : Bool) (I : List Nat) (R : List (Nat × Rule E)) (L S : List (Nat × List (Nat × Piece E))) : Ctx E where
  crow := crow
  inl := memN I
  rules := findR R
  loops := fun g id => findP (findG L g) id
  seqs := fun g id => findP (findG S g) id

theorem ctxG_ok {R : List (Nat × Rule E)} (h : AllOk P E R) (crow : Bool) (I : List Nat) (L S : List (Nat × List (Nat × Piece E))) : CtxOk P E (ctxG E crow I R L S) := findR_ok h

/-- A function's body, whatever it is, holds pieces that are told rightly. -/
def BodyAt (P : Program) (E : Env) (C : Ctx E) (g : Nat) : Prop := ∀ fn body, E.fn g = some fn → fn.body = some body → PiecesOk P E C g body

theorem body_at {C : Ctx E} {g : Nat} {fn : Func} {body : Code} (hfn : E.fn g = some fn) (hbody : fn.body = some body) (h : PiecesOk P E C g body) : BodyAt P E C g := by
  intro fn' body' h1 h2
  rw [hfn] at h1; cases h1
  rw [hbody] at h2; cases h2
  exact h

theorem findG_none {L : List (Nat × List (Nat × Piece E))} {g : Nat} (h : g ∉ L.map (·.1)) : findG L g = [] := by
  induction L with
  | nil => rfl
  | cons p r ih =>
    simp only [List.map_cons, List.mem_cons, not_or] at h
    simp only [findG, beq_ne (fun e => h.1 e.symm)]
    exact ih h.2

theorem bodies_okG {crow : Bool} {I : List Nat} {R : List (Nat × Rule E)} {L S : List (Nat × List (Nat × Piece E))} {ks : List Nat} (hk : (L.map (·.1) ++ S.map (·.1)).all (fun g => memN ks g) = true) (h : ∀ g ∈ ks, BodyAt P E (ctxG E crow I R L S) g) : BodiesOk P E (ctxG E crow I R L S) := by
  intro g fn body hg hb
  by_cases e : g ∈ ks
  · exact h g e fn body hg hb
  · have n1 : g ∉ L.map (·.1) := fun hm => e (memN_spec.1 (List.all_eq_true.1 hk g (List.mem_append_left _ hm)))
    have n2 : g ∉ S.map (·.1) := fun hm => e (memN_spec.1 (List.all_eq_true.1 hk g (List.mem_append_right _ hm)))
    refine pieces_of (rfIn_body hg hb) (fun b _ p hp => ?_) (fun b _ p hp => ?_)
    · simp only [ctxG, findG_none n1] at hp; cases hp
    · simp only [ctxG, findG_none n2] at hp; cases hp

/-- A piece that is never used. -/
def deadP (E : Env) : Piece E := ⟨⟨[], [], [], 0⟩, fun _ => none, fun _ _ => False⟩
theorem deadP_ok (c : Code) : PieceOk P E (deadP E) c := fun _ _ _ _ _ _ _ _ _ _ _ _ h => h.elim

/-- Two ways to tell of a function. -/
theorem rule_or {X Y : Type} {f : Nat} {decA : List (SV E.T) → Option X} {encR : Y → List (SV E.T)} {V : X → (Y → Prop) → Prop} {X1 X2 : Type} {d1 : List (SV E.T) → Option X1} {d2 : List (SV E.T) → Option X2} {V1 : X1 → (Y → Prop) → Prop} {V2 : X2 → (Y → Prop) → Prop}
    (h1 : RuleOk P E f (ruleF E d1 encR V1)) (h2 : RuleOk P E f (ruleF E d2 encR V2))
    (hv : ∀ args x K, decA args = some x → V x K → (∃ x1, d1 args = some x1 ∧ V1 x1 K) ∨ ∃ x2, d2 args = some x2 ∧ V2 x2 K) : RuleOk P E f (ruleF E decA encR V) := by
  intro args K hr S w vals hS hrel
  split at hr
  · rename_i x hx
    rcases hv args x K hx hr with ⟨x1, e1, v1⟩ | ⟨x2, e2, v2⟩
    · exact h1 args K (by show (match d1 args with | some x => V1 x K | none => False); rw [e1]; exact v1) S w vals hS hrel
    · exact h2 args K (by show (match d2 args with | some x => V2 x K | none => False); rw [e2]; exact v2) S w vals hS hrel
  · exact hr.elim

end Go.Vg
