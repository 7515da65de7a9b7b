/-
  Equality of structs and arrays of integers, bools and strings, cell by cell. Own work; no condition.
-/
import Derived.Test.YtkaodeodiakldaaVgF
import Derived.Laws.StructEq
import Derived.ChangeKeysEq
namespace Go.Vg
open Go.RowKit
variable {P : Program} {E : Env}

def nB (a b : Nat) : Bool := Nat.beq a b
theorem nB_eq {a b : Nat} (h : nB a b = true) : a = b := Nat.eq_of_beq_eq_true h

def eq1 (z : ZC) (x y : Value) : Option Bool :=
  match z with
  | .int k0 => match x with
    | .int k a => match y with
      | .int k' b => match kEq k0 k, kEq k0 k' with
        | true, true => some (a == b)
        | _, _ => none
      | _ => none
    | _ => none
  | .bool => match x with
    | .bool a => match y with
      | .bool b => some (a == b)
      | _ => none
    | _ => none
  | .str => match x with
    | .string a => match y with
      | .string b => some (a == b)
      | _ => none
    | _ => none
  | _ => none
def eqV : List ZC → List Value → List Value → Option Bool
  | [], [], [] => some true
  | z :: zs, x :: r, y :: r' => match eq1 z x y, eqV zs r r' with
    | some a, some b => some (a && b)
    | _, _ => none
  | _, _, _ => none
/-- Kinds cell by cell. -/
def flatZ : List ZC → List ZC
  | [] => []
  | z :: r => match z with
    | .arr k n => List.replicate n (.int k) ++ flatZ r
    | z => z :: flatZ r

theorem andb_eq (a b : Bool) : andb a b = (a && b) := by cases a <;> rfl

theorem eqV_append : ∀ {z z' : List ZC} {a b c d : List Value} {r : Bool}, a.length = z.length → b.length = z.length → eqV (z ++ z') (a ++ c) (b ++ d) = some r → ∃ r1 r2, eqV z a b = some r1 ∧ eqV z' c d = some r2 ∧ r = (r1 && r2)
  | [], z', [], [], c, d, r, _, _, h => ⟨true, r, rfl, h, by simp⟩
  | z :: zs, z', x :: a, y :: b, c, d, r, ha, hb, h => by
    simp only [List.cons_append, eqV] at h
    split at h
    · rename_i p q h1 h2
      cases h
      obtain ⟨r1, r2, h3, h4, h5⟩ := eqV_append (by simpa using ha) (by simpa using hb) h2
      exact ⟨p && r1, r2, by simp [eqV, h1, h3], h4, by rw [h5, Bool.and_assoc]⟩
    · cases h
  | [], _, _ :: _, _, _, _, _, ha, _, _ => by simp at ha
  | [], _, [], _ :: _, _, _, _, _, hb, _ => by simp at hb
  | _ :: _, _, [], _, _, _, _, ha, _, _ => by simp at ha
  | _ :: _, _, _ :: _, [], _, _, _, _, hb, _ => by simp at hb

theorem eqV_join : ∀ {z z' : List ZC} {a b c d : List Value} {r1 r2 : Bool}, eqV z a b = some r1 → eqV z' c d = some r2 → eqV (z ++ z') (a ++ c) (b ++ d) = some (r1 && r2)
  | [], z', [], [], c, d, r1, r2, h1, h2 => by cases h1; simpa using h2
  | z :: zs, z', x :: a, y :: b, c, d, r1, r2, h1, h2 => by
    simp only [eqV] at h1
    split at h1
    · rename_i p q h3 h4
      cases h1
      simp only [List.cons_append, eqV, h3, eqV_join h4 h2, Bool.and_assoc]
    · cases h1
  | [], _, _ :: _, _, _, _, _, _, h, _ => by simp [eqV] at h
  | [], _, [], _ :: _, _, _, _, _, h, _ => by simp [eqV] at h
  | _ :: _, _, [], _, _, _, _, _, h, _ => by simp [eqV] at h
  | _ :: _, _, _ :: _, [], _, _, _, _, h, _ => by simp [eqV] at h

theorem kEq_refl (k : IntKind) : kEq k k = true := by cases k <;> rfl

theorem eqV_arr {k : IntKind} : ∀ {n : Nat} {l l' : List Int}, l.length = n → l'.length = n → eqV (List.replicate n (.int k)) (l.map (Value.int k)) (l'.map (Value.int k)) = some (l == l')
  | 0, [], [], _, _ => rfl
  | n + 1, x :: l, y :: l', h, h' => by
    simp only [List.map_cons, List.replicate_succ, eqV, eq1, kEq_refl, eqV_arr (k := k) (n := n) (l := l) (l' := l') (by simpa using h) (by simpa using h')]
    rfl
  | 0, _ :: _, _, h, _ => by simp at h
  | 0, [], _ :: _, _, h => by simp at h
  | _ + 1, [], _, h, _ => by simp at h
  | _ + 1, _ :: _, [], _, h => by simp at h

section
variable {H : List (Nat × HS E.T)} {σ : Nat → Option Nat} {w : World} {S : Nat → Prop}

theorem eqS_V {z : ZC} {x y : SV E.T} {p : Bool} (hx : eqS z x y = some p) {r r' : List (SV E.T)} {vs vs' : List Value} (h1 : RelC E H σ w S (x :: r) vs) (h2 : RelC E H σ w S (y :: r') vs') :
    ∃ us us' ws ws', vs = us ++ ws ∧ vs' = us' ++ ws' ∧ RelC E H σ w S r ws ∧ RelC E H σ w S r' ws' ∧ eqV (flatZ [z]) us us' = some p := by
  unfold eqS at hx
  split at hx
  · split at hx
    · split at hx
      · split at hx
        · rename_i h3 h4
          cases hx
          cases h1 with
          | cons _ _ e1 f1 => cases h2 with
            | cons _ _ e2 f2 =>
              cases e1; cases e2
              exact ⟨[_], [_], _, _, rfl, rfl, f1, f2, by simp [flatZ, eqV, eq1, h3, h4]⟩
        · cases hx
      · cases hx
    · cases hx
  · split at hx
    · split at hx
      · cases hx
        cases h1 with
        | cons _ _ e1 f1 => cases h2 with
          | cons _ _ e2 f2 =>
            cases e1; cases e2
            exact ⟨[_], [_], _, _, rfl, rfl, f1, f2, by simp [flatZ, eqV, eq1]⟩
      · cases hx
    · cases hx
  · split at hx
    · split at hx
      · cases hx
        cases h1 with
        | cons _ _ e1 f1 => cases h2 with
          | cons _ _ e2 f2 =>
            cases e1; cases e2
            exact ⟨[_], [_], _, _, rfl, rfl, f1, f2, by simp [flatZ, eqV, eq1]⟩
      · cases hx
    · cases hx
  · split at hx
    · split at hx
      · split at hx
        · rename_i hk hn
          cases hx
          simp only [Bool.and_eq_true] at hk hn
          have k1 := kEq_eq hk.1; have k2 := kEq_eq hk.2
          subst k1; subst k2
          have n1 := Nat.eq_of_beq_eq_true hn.1; have n2 := Nat.eq_of_beq_eq_true hn.2
          subst n1; subst n2
          cases h1 with
          | cons _ _ e1 _ => cases e1
          | arr l1 f1 => cases h2 with
            | cons _ _ e2 _ => cases e2
            | arr l2 f2 => exact ⟨_, _, _, _, rfl, rfl, f1, f2, by simpa [flatZ] using eqV_arr l1 l2⟩
        · cases hx
      · cases hx
    · cases hx
  · cases hx

theorem flatZ_cons (z : ZC) (r : List ZC) : flatZ (z :: r) = flatZ [z] ++ flatZ r := by cases z <;> simp [flatZ]

theorem eqL_V : ∀ {zs : List ZC} {cs cs' : List (SV E.T)} {b : Bool}, eqL zs cs cs' = some b → ∀ {vs vs' : List Value}, RelC E H σ w S cs vs → RelC E H σ w S cs' vs' → eqV (flatZ zs) vs vs' = some b
  | [], cs, cs', b, h, vs, vs', h1, h2 => by
    unfold eqL at h
    split at h
    · cases h1; cases h2; exact h
    · cases h
  | z :: zs, cs, cs', b, h, vs, vs', h1, h2 => by
    unfold eqL at h
    split at h
    · cases h
    · rename_i x r
      split at h
      · cases h
      · rename_i y r'
        split at h
        · rename_i p hp
          obtain ⟨us, us', ws, ws', rfl, rfl, f1, f2, e1⟩ := eqS_V hp h1 h2
          rw [flatZ_cons]
          split at h
          · split at h
            · cases h
              cases f1; cases f2
              have := eqV_join (z' := []) (c := []) (d := []) e1 rfl
              simpa [flatZ] using this
            · cases h
          · split at h
            · rename_i q hq
              cases h
              rw [andb_eq]
              exact eqV_join e1 (eqL_V hq f1 f2)
            · cases h
        · cases h
end

def zEq : ZC → ZC → Bool
  | .int k, .int k' => kEq k k'
  | .bool, .bool => true
  | .str, .str => true
  | _, _ => false
def zEqL : List ZC → List ZC → Bool
  | [], [] => true
  | a :: r, b :: r' => zEq a b && zEqL r r'
  | _, _ => false
theorem zEq_eq {a b : ZC} (h : zEq a b = true) : a = b := by
  cases a <;> cases b <;> first | rfl | (simp [zEq] at h; done) | (rw [kEq_eq (show kEq _ _ = true from h)])
theorem zEqL_eq : ∀ {a b : List ZC}, zEqL a b = true → a = b
  | [], [], _ => rfl
  | x :: a, y :: b, h => by
    simp only [zEqL, Bool.and_eq_true] at h
    rw [zEq_eq h.1, zEqL_eq h.2]
  | [], _ :: _, h => by cases h
  | _ :: _, [], h => by cases h

/-- The cells' kinds of a struct's fields, laid out one behind the other. -/
def kindFs (P : Program) (q : TypeId → Option (List ZC)) : List Field → Nat → Option (List ZC)
  | [], _ => some []
  | f :: r, o => match !(f.name == "_") && nB f.offset o, P.info? f.type, q f.type with
    | true, some i, some l => match nB i.size l.length, kindFs P q r (o + i.size) with
      | true, some l' => some (l ++ l')
      | _, _ => none
    | _, _, _ => none

/-- The cells' kinds of a type whose values may be compared cell by cell. -/
def kindT (P : Program) : Nat → TypeId → Option (List ZC)
  | 0, _ => none
  | d + 1, t => match P.underlying t with
    | some (.int k) => some [.int k]
    | some .bool => some [.bool]
    | some .string => some [.str]
    | some (.struct fs) => match P.stoodInHeld t with
      | false => kindFs P (kindT P d) fs.toList 0
      | true => none
    | some (.array m e) => match P.info? e, P.underlying e with
      | some i, some (.int k) => match nB i.size 1 with
        | true => some (List.replicate m (.int k))
        | false => none
      | _, _ => none
    | _ => none

def isAggT (P : Program) (t : TypeId) : Bool := match P.underlying t with
  | some (.struct _) | some (.array _ _) => true
  | _ => false

/-- A value of a type as its cells. -/
def ValOf (P : Program) (t : TypeId) (xs : List Value) (v : Value) : Prop :=
  (isAggT P t = true → v = .agg xs.toArray) ∧ (isAggT P t = false → xs = [v])

theorem run_isAggT {t : TypeId} {d : TypeDesc} (h : P.underlying t = some d) (w : World) : (isAgg t).run P w = .ok (isAggT P t) w := by
  unfold isAgg isAggT
  rw [Sem.run_bind, run_underlying h w, h]
  cases d <;> rfl

theorem part_run {t : TypeId} {d : TypeDesc} {i : TypeInfo} (hu : P.underlying t = some d) (hi : P.info? t = some i) {xs : Array Value} {o : Nat} (hn : isAggT P t = false → i.size = 1) (ho : o + i.size ≤ xs.size) (w : World) :
    ∃ v, (part t xs o).run P w = .ok v w ∧ ValOf P t ((xs.toList.drop o).take i.size) v := by
  unfold part
  rw [Sem.run_bind, run_isAggT hu w, Result.andThen_ok]
  cases ha : isAggT P t with
  | true =>
    refine ⟨.agg (xs.extract o (o + i.size)), by simp [run_sizeOf w hi, Program.cellsOf, hi], fun _ => ?_, fun h => by rw [ha] at h; cases h⟩
    congr 1
    apply Array.ext'
    rw [Array.toList_extract]
    simp [List.extract]
  | false =>
    have h1 := hn ha
    have hlt : o < xs.size := by omega
    refine ⟨xs[o], by simp [hlt], fun h => (by rw [ha] at h; cases h), fun _ => ?_⟩
    rw [h1, List.drop_eq_getElem_cons (by simpa using hlt)]
    simp

def EqRun (P : Program) (c : Nat) (t : TypeId) (zs : List ZC) : Prop :=
  (∃ d, P.underlying t = some d) ∧ (isAggT P t = false → zs.length = 1) ∧
  ∀ (w : World) (xs ys : List Value) (x y : Value) (b : Bool), eqV zs xs ys = some b → ValOf P t xs x → ValOf P t ys y → (Op.equalIn c t x y).run P w = .ok b w

theorem eqV_len : ∀ {z : List ZC} {a b : List Value} {r : Bool}, eqV z a b = some r → a.length = z.length ∧ b.length = z.length
  | [], [], [], _, _ => ⟨rfl, rfl⟩
  | z :: zs, x :: a, y :: b, r, h => by
    simp only [eqV] at h
    split at h
    · rename_i h1 h2; have := eqV_len h2; simp [this]
    · cases h
  | [], _ :: _, _, _, h => by simp [eqV] at h
  | [], [], _ :: _, _, h => by simp [eqV] at h
  | _ :: _, [], _, _, h => by simp [eqV] at h
  | _ :: _, _ :: _, [], _, h => by simp [eqV] at h

theorem kindFs_run {c : Nat} {q : TypeId → Option (List ZC)} (IH : ∀ t zs, q t = some zs → EqRun P c t zs) (xs ys : Array Value) (w : World) :
    ∀ (fs : List Field) (o : Nat) (zs : List ZC) (b : Bool), kindFs P q fs o = some zs → eqV zs (xs.toList.drop o) (ys.toList.drop o) = some b → (Op.eqFields c xs ys fs).run P w = .ok b w
  | [], o, zs, b, h, he => by
    simp only [kindFs] at h
    cases h
    obtain ⟨h1, h2⟩ := eqV_len he
    rw [List.length_eq_zero_iff.1 h1, List.length_eq_zero_iff.1 h2] at he
    cases he
    simp [Op.eqFields]
  | f :: r, o, zs, b, h, he => by
    simp only [kindFs] at h
    split at h
    · rename_i i l h1 hi hq
      split at h
      · rename_i l' h3 h4
        cases h
        simp only [Bool.and_eq_true] at h1
        obtain ⟨h1, h2⟩ := h1
        have h2 := nB_eq h2
        have h3 := nB_eq h3
        subst h2
        obtain ⟨⟨d, hd⟩, IH2, IH1⟩ := IH _ _ hq
        have hname : f.name ≠ "_" := by simpa using h1
        obtain ⟨lx, ly⟩ := eqV_len he
        simp only [List.length_append, List.length_drop, Array.length_toList] at lx ly
        have one : isAggT P f.type = false → i.size = 1 := fun h => by rw [h3]; exact IH2 h
        have z1 : f.offset + i.size ≤ xs.size ∨ l.length = 0 := by omega
        have z2 : f.offset + i.size ≤ ys.size ∨ l.length = 0 := by omega
        by_cases hz : i.size = 0
        · -- an empty part
          have hl : l = [] := List.length_eq_zero_iff.1 (by omega)
          have ha : isAggT P f.type = true := by
            cases hh : isAggT P f.type with
            | true => rfl
            | false => have := one hh; omega
          have pr : ∀ zs : Array Value, (part f.type zs f.offset).run P w = .ok (.agg (zs.extract f.offset f.offset)) w := fun zs => by
            unfold part
            rw [Sem.run_bind, run_isAggT hd w, Result.andThen_ok, ha]
            simp [run_sizeOf w hi, Program.cellsOf, hi, hz]
          have ev : ∀ zs : Array Value, ValOf P f.type [] (.agg (zs.extract f.offset f.offset)) := fun zs => ⟨fun _ => by simp; omega, fun h => by rw [ha] at h; cases h⟩
          have hr1 := IH1 w [] [] _ _ true (by rw [hl]; rfl) (ev xs) (ev ys)
          have hr2 := kindFs_run IH xs ys w r _ l' b h4 (by rw [hl] at he; simpa [hz] using he)
          simp only [Op.eqFields, if_pos hname, Sem.run_bind, pr, Result.andThen_ok, hr1]
          simpa using hr2
        · obtain ⟨a, pa, va⟩ := part_run (xs := xs) (o := f.offset) hd hi one (by omega) w
          obtain ⟨a', pa', va'⟩ := part_run (xs := ys) (o := f.offset) hd hi one (by omega) w
          have ex : xs.toList.drop f.offset = (xs.toList.drop f.offset).take i.size ++ xs.toList.drop (f.offset + i.size) := by rw [← List.drop_drop]; exact (List.take_append_drop _ _).symm
          have ey : ys.toList.drop f.offset = (ys.toList.drop f.offset).take i.size ++ ys.toList.drop (f.offset + i.size) := by rw [← List.drop_drop]; exact (List.take_append_drop _ _).symm
          rw [ex, ey] at he
          obtain ⟨r1, r2, e1, e2, rfl⟩ := eqV_append (by simp; omega) (by simp; omega) he
          have hr1 := IH1 w _ _ a a' r1 e1 va va'
          have hr2 := kindFs_run IH xs ys w r _ l' r2 h4 e2
          simp only [Op.eqFields, if_pos hname, Sem.run_bind, pa, pa', Result.andThen_ok, hr1]
          cases r1
          · simp
          · simpa using hr2
      · cases h
    · cases h

theorem eqItems_run {c : Nat} {k : IntKind} {e : TypeId} (he : P.underlying e = some (.int k)) {ie : TypeInfo} (hi : P.info? e = some ie) (hs : ie.size = 1) (xs ys : Array Value) (w : World) :
    ∀ (m o : Nat) (b : Bool), eqV (List.replicate m (.int k)) (xs.toList.drop o) (ys.toList.drop o) = some b → (Op.eqItems (c + 1) e 1 xs ys (List.range' o m)).run P w = .ok b w
  | 0, o, b, h => by
    obtain ⟨h1, h2⟩ := eqV_len h
    rw [List.length_eq_zero_iff.1 h1, List.length_eq_zero_iff.1 h2] at h
    cases h
    simp [Op.eqItems]
  | m + 1, o, b, h => by
    obtain ⟨lx, ly⟩ := eqV_len h
    simp only [List.length_replicate, List.length_drop, Array.length_toList] at lx ly
    have l1 : o < xs.toList.length := by simp; omega
    have l2 : o < ys.toList.length := by simp; omega
    rw [List.drop_eq_getElem_cons l1, List.drop_eq_getElem_cons l2, List.replicate_succ] at h
    simp only [eqV] at h
    split at h
    · rename_i p q h1 h2
      cases h
      have hr := eqItems_run (c := c) he hi hs xs ys w m (o + 1) q h2
      have na : isAggT P e = false := by simp [isAggT, he]
      obtain ⟨a, pa, _, va⟩ := part_run (xs := xs) (o := o) he hi (fun _ => hs) (by simp at l1; omega) w
      obtain ⟨a', pa', _, va'⟩ := part_run (xs := ys) (o := o) he hi (fun _ => hs) (by simp at l2; omega) w
      have va := va na
      have va' := va' na
      rw [hs, List.drop_eq_getElem_cons l1] at va
      rw [hs, List.drop_eq_getElem_cons l2] at va'
      simp only [List.take_succ_cons, List.take_zero, List.cons.injEq, and_true] at va va'
      rw [va, va'] at h1
      have hq : (Op.equalIn (c + 1) e a a').run P w = .ok p w := by
        unfold eq1 at h1
        simp only at h1
        split at h1
        · split at h1
          · split at h1
            · rename_i k1 k2
              cases h1
              have k1 := kEq_eq k1; have k2 := kEq_eq k2
              subst k1; subst k2
              simp [Op.equalIn, run_underlying he]
            · cases h1
          · cases h1
        · cases h1
      rw [List.range'_succ]
      simp only [Op.eqItems, Sem.run_bind, Nat.mul_one, pa, pa', Result.andThen_ok, hq]
      cases p
      · simp
      · simpa using hr
    · cases h

theorem kindT_run : ∀ (d c : Nat) (t : TypeId) (zs : List ZC), kindT P d t = some zs → EqRun P (c + d + 1) t zs
  | 0, _, _, _, h => by cases h
  | d + 1, c, t, zs, h => by
    unfold kindT at h
    split at h
    · rename_i k hu
      cases h
      have na : isAggT P t = false := by simp [isAggT, hu]
      refine ⟨⟨_, hu⟩, fun _ => rfl, fun w xs ys x y b he vx vy => ?_⟩
      rw [vx.2 na, vy.2 na] at he
      simp only [eqV] at he
      split at he
      · rename_i p q h1 h2
        cases h2; cases he
        unfold eq1 at h1
        simp only at h1
        split at h1
        · split at h1
          · split at h1
            · rename_i k1 k2
              cases h1
              have k1 := kEq_eq k1; have k2 := kEq_eq k2
              subst k1; subst k2
              simp [Op.equalIn, run_underlying hu]
            · cases h1
          · cases h1
        · cases h1
      · cases he
    · rename_i hu
      cases h
      have na : isAggT P t = false := by simp [isAggT, hu]
      refine ⟨⟨_, hu⟩, fun _ => rfl, fun w xs ys x y b he vx vy => ?_⟩
      rw [vx.2 na, vy.2 na] at he
      simp only [eqV] at he
      split at he
      · rename_i p q h1 h2
        cases h2; cases he
        unfold eq1 at h1
        simp only at h1
        split at h1
        · split at h1
          · cases h1
            simp [Op.equalIn, run_underlying hu]
          · cases h1
        · cases h1
      · cases he
    · rename_i hu
      cases h
      have na : isAggT P t = false := by simp [isAggT, hu]
      refine ⟨⟨_, hu⟩, fun _ => rfl, fun w xs ys x y b he vx vy => ?_⟩
      rw [vx.2 na, vy.2 na] at he
      simp only [eqV] at he
      split at he
      · rename_i p q h1 h2
        cases h2; cases he
        unfold eq1 at h1
        simp only at h1
        split at h1
        · split at h1
          · cases h1
            simp [Op.equalIn, run_underlying hu]
          · cases h1
        · cases h1
      · cases he
    · rename_i fs hu
      split at h
      · rename_i hst
        have ag : isAggT P t = true := by simp [isAggT, hu]
        have hf : P.fieldsOf t = fs := by simp [Program.fieldsOf, hu]
        refine ⟨⟨_, hu⟩, fun hh => (by rw [ag] at hh; cases hh), fun w xs ys x y b he vx vy => ?_⟩
        rw [vx.1 ag, vy.1 ag]
        rw [run_equalIn_struct (P := P) w (c + (d + 1)) t xs.toArray ys.toArray (by rw [hf]; exact hu) hst, hf]
        exact kindFs_run (fun t zs hq => kindT_run d c t zs hq) xs.toArray ys.toArray w fs.toList 0 zs b h (by simpa using he)
      · cases h
    · rename_i m e hu
      split at h
      · rename_i i k hi he
        split at h
        · rename_i hs
          cases h
          have ag : isAggT P t = true := by simp [isAggT, hu]
          refine ⟨⟨_, hu⟩, fun hh => (by rw [ag] at hh; cases hh), fun w xs ys x y b hv vx vy => ?_⟩
          rw [vx.1 ag, vy.1 ag, run_equalIn_array w (c + (d + 1)) xs.toArray ys.toArray hu hi]
          have hs := nB_eq hs
          have := eqItems_run (c := c + d) he hi hs xs.toArray ys.toArray w m 0 b (by simpa using hv)
          rw [List.range_eq_range']
          have e : c + (d + 1) = c + d + 1 := rfl
          rw [e]
          simpa [Program.cellsOf, hi, hs] using this
        · cases h
      · cases h
    · cases h
end Go.Vg
