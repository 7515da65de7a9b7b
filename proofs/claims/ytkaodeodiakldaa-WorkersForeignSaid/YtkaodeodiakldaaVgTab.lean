/-
  The executor's tables are the program's: by a look over them. Own work; no condition.
-/
import Derived.Test.YtkaodeodiakldaaVgZ
namespace Go.Vg
open Go.RowKit
variable {P : Program} {E : Env}

def zeroI (k : IntKind) : Value → Bool
  | .int k' m => match m with
    | .ofNat n => match n with
      | 0 => kEq k k'
      | _ + 1 => false
    | .negSucc _ => false
  | _ => false

theorem zeroI_spec {k : IntKind} {v : Value} (h : zeroI k v = true) : v = .int k 0 := by
  cases v <;> first | (simp [zeroI] at h; done) | skip
  rename_i k' m
  cases m with
  | ofNat n => cases n with
    | zero => rw [kEq_eq (show kEq k k' = true from h)]; rfl
    | succ n => cases h
  | negSucc n => cases h

/-- n zero cells of an array of integers. -/
def arrZ (k : IntKind) : Nat → List Value → Option (List Value)
  | 0, l => some l
  | n + 1, l => match l with
    | [] => none
    | v :: r => match zeroI k v with
      | true => arrZ k n r
      | false => none

def zeroOne (z : ZC) (v : Value) : Bool :=
  match z with
  | .int k => zeroI k v
  | .bool => match v with | .bool b => !b | _ => false
  | .str => match v with | .string s => nB s.size 0 | _ => false
  | .slice => match v with
    | .slice a n c => match a with
      | none => nB n 0 && nB c 0
      | some _ => false
    | _ => false
  | .ptr => match v with
    | .pointer a => match a with
      | none => true
      | some _ => false
    | _ => false
  | .func => match v with | .nilFunc => true | _ => false
  | .map => match v with
    | .map a => match a with
      | none => true
      | some _ => false
    | _ => false
  | .iface => match v with | .nilIface => true | _ => false
  | .arr _ _ => false
  | .no => false

def zeroZ : List ZC → List Value → Bool
  | [], l => l.isEmpty
  | z :: r, l => match z with
    | .arr k n => match arrZ k n l with
      | some l' => zeroZ r l'
      | none => false
    | z => match l with
      | [] => false
      | v :: l => zeroOne z v && zeroZ r l

theorem arrZ_spec {k : IntKind} : ∀ {n : Nat} {l l' : List Value}, arrZ k n l = some l' → l = (List.replicate n (0 : Int)).map (Value.int k) ++ l'
  | 0, l, l', h => by simp only [arrZ] at h; cases h; rfl
  | n + 1, [], l', h => by simp [arrZ] at h
  | n + 1, v :: r, l', h => by
    simp only [arrZ] at h
    split at h
    · rename_i hv
      rw [arrZ_spec h, zeroI_spec hv, List.replicate_succ]; rfl
    · cases h

theorem size0 {s : ByteArray} (h : s.size = 0) : s = ByteArray.empty := by
  cases s with
  | mk d =>
    have : d = #[] := Array.eq_empty_of_size_eq_zero h
    subst this; rfl

theorem zeroOne_spec {H : List (Nat × HS E.T)} {σ : Nat → Option Nat} {w : World} {S : Nat → Prop} {z : ZC} {v : Value} (h : zeroOne z v = true) : RelS E H σ w S (zcSV z) v ∧ width (zcSV (T := E.T) z) = 1 ∧ v.oneCell' = true := by
  cases z with
  | int k => rw [zeroI_spec h]; exact ⟨.int _ _, rfl, rfl⟩
  | bool => cases v <;> first | (simp [zeroOne] at h; done) | skip
            rename_i b; cases b
            · exact ⟨.bool _, rfl, rfl⟩
            · simp [zeroOne] at h
  | str => cases v <;> first | (simp [zeroOne] at h; done) | skip
           rename_i s
           have := size0 (nB_eq (show nB s.size 0 = true from h))
           subst this
           exact ⟨.str _, rfl, rfl⟩
  | slice => cases v <;> first | (simp [zeroOne] at h; done) | skip
             rename_i a n c
             cases a with
             | none =>
               simp only [zeroOne, Bool.and_eq_true] at h
               rw [nB_eq h.1, nB_eq h.2]
               exact ⟨.nils, rfl, rfl⟩
             | some a => simp [zeroOne] at h
  | ptr => cases v <;> first | (simp [zeroOne] at h; done) | skip
           rename_i a
           cases a with
           | none => exact ⟨.nilp, rfl, rfl⟩
           | some a => simp [zeroOne] at h
  | func => cases v <;> first | (simp [zeroOne] at h; done) | skip
            exact ⟨.nilf, rfl, rfl⟩
  | map => cases v <;> first | (simp [zeroOne] at h; done) | skip
           rename_i a
           cases a with
           | none => exact ⟨.any _, rfl, rfl⟩
           | some a => simp [zeroOne] at h
  | iface => cases v <;> first | (simp [zeroOne] at h; done) | skip
             exact ⟨.any _, rfl, rfl⟩
  | arr k n => simp [zeroOne] at h
  | no => simp [zeroOne] at h

theorem zeroZ_spec {H : List (Nat × HS E.T)} {σ : Nat → Option Nat} {w : World} {S : Nat → Prop} : ∀ {zs : List ZC} {l : List Value}, zeroZ zs l = true → RelC E H σ w S (zs.map zcSV) l
  | [], l, h => by
    simp only [zeroZ, List.isEmpty_iff] at h
    subst h; exact .nil
  | z :: r, l, h => by
    have gen : ∀ l : List Value, (match l with | [] => false | v :: l => zeroOne z v && zeroZ r l) = true → RelC E H σ w S ((z :: r).map zcSV) l := by
      intro l h
      cases l with
      | nil => cases h
      | cons v l =>
        simp only [Bool.and_eq_true] at h
        obtain ⟨h1, h2, h3⟩ := zeroOne_spec (H := H) (σ := σ) (w := w) (S := S) h.1
        exact .cons h2 h3 h1 (zeroZ_spec h.2)
    cases z with
    | arr k n =>
      simp only [zeroZ] at h
      split at h
      · rename_i l' hl
        rw [arrZ_spec hl]
        exact .arr (by simp) (zeroZ_spec h)
      · cases h
    | _ => exact gen l (by simpa only [zeroZ] using h)

def structZ (P : Program) : List Field → List (Nat × Nat × Nat) → Bool
  | [], [] => true
  | f :: r, p :: r' => match nB f.offset p.1 && nB f.type p.2.2 with
    | true => match P.info? f.type with
      | some i => nB i.size p.2.1 && structZ P r r'
      | none => false
    | false => false
  | _, _ => false

def kindZ (P : Program) : TK → Option TypeDesc → Bool
  | .struct fs, some (.struct fds) => structZ P fds.toList fs
  | .array n e, some (.array n' e') => nB n n' && nB e e'
  | .slice e, some (.slice e') => nB e e'
  | .int k, some (.int k') => kEq k k'
  | .bool, some .bool => true
  | .string, some .string => true
  | .map k v, some (.map k' v') => nB k k' && nB v v'
  | .other, _ => true
  | _, _ => false

def formZ (k : TK) (z : Value) : Bool :=
  match z with
  | .agg _ => (match k with | .struct _ => true | .array _ _ => true | _ => false)
  | _ => (match k with | .struct _ => false | .array _ _ => false | _ => true)

def infoZ (P : Program) (T : TI) (t : Nat) : Bool :=
  kindZ P T.kind (P.underlying t) && match T.ok with
  | false => true
  | true => match P.info? t with
    | some i => nB i.size T.size && nB i.bytes T.bytes && (match i.zero with | some z => nB z.cells.size i.size && zeroZ T.zero z.cells.toList && formZ T.kind z | none => false) &&
      match P.underlying t with
      | some d => d.isRow == (match T.kind with | .struct _ => true | .array _ _ => true | _ => false)
      | none => false
    | none => false

theorem structZ_spec {fs : List Field} {ps : List (Nat × Nat × Nat)} (h : structZ P fs ps = true) :
    fs.mapM (fun f => (P.info? f.type).map fun i => (f.offset, i.size)) = some (ps.map fun p => (p.1, p.2.1)) ∧
    ∀ j o n ft, nthL ps j = some (o, n, ft) → ∃ f i, fs[j]? = some f ∧ f.offset = o ∧ f.type = ft ∧ P.info? ft = some i ∧ i.size = n := by
  induction fs generalizing ps with
  | nil =>
    cases ps with
    | nil => exact ⟨rfl, fun j o n ft h => by simp [nthL] at h⟩
    | cons p r => simp [structZ] at h
  | cons f r ih =>
    cases ps with
    | nil => simp [structZ] at h
    | cons p r' =>
      simp only [structZ] at h
      split at h
      · rename_i h1
        split at h
        · rename_i i hi
          simp only [Bool.and_eq_true] at h h1
          obtain ⟨i1, i2⟩ := ih h.2
          have e1 := nB_eq h1.1
          have e2 := nB_eq h1.2
          have e3 := nB_eq h.1
          refine ⟨?_, fun j o n ft hj => ?_⟩
          · rw [List.mapM_cons, hi, i1]
            simp [e1, e3]
          · cases j with
            | zero => simp only [nthL] at hj; cases hj; exact ⟨f, i, rfl, e1, e2, by have e2' : f.type = ft := e2; rw [← e2']; exact hi, e3⟩
            | succ j => simp only [nthL] at hj; exact i2 j o n ft hj
        · cases h
      · cases h

/-- A look whether a type's values may be compared. -/
def eqZ (P : Program) (T : TI) (t : Nat) : Bool :=
  (match kindT P 50 t with
  | some l => zEqL l (flatZ T.zero)
  | none => false) && !(P.eqGuardType P.depth t) && isAggT P t

theorem eqZ_spec {T : TI} {t : Nat} (h : eqZ P T t = true) : kindT P 50 t = some (flatZ T.zero) ∧ P.eqGuardType P.depth t = false ∧ isAggT P t = true := by
  simp only [eqZ, Bool.and_eq_true, Bool.not_eq_true'] at h
  obtain ⟨⟨h1, h2⟩, h3⟩ := h
  refine ⟨?_, h2, h3⟩
  split at h1
  · rename_i l hl; rw [hl, zEqL_eq h1]
  · cases h1

/-- A look whether a type's values may be keys. -/
def keyZ (P : Program) (T : TI) (t : Nat) : Bool :=
  match kindT P 50 t with
  | some l => zEqL l (flatZ T.zero)
  | none => false
theorem keyZ_spec {T : TI} {t : Nat} (h : keyZ P T t = true) : kindT P 50 t = some (flatZ T.zero) := by
  unfold keyZ at h
  split at h
  · rename_i l hl; rw [hl, zEqL_eq h]
  · cases h

theorem tab_of {N : Nat} (h : (List.range N).all (fun t => infoZ P (E.ti t) t) = true) (hn : ∀ t, N ≤ t → E.ti t = ⟨false, .other, 0, 0, []⟩)
    (hf : ∀ f g, E.fn f = some g → P.funcs[f]? = some g ∧ (g.name == "runtime.NumGoroutine") = false) (hm : P.follows .mixedOrders = true) (he : ∀ t, E.eqt t = true → eqZ P (E.ti t) t = true)
    (hkey : ∀ e, E.kok e = true → E.has e = true ∧ (E.ti e).ok = true ∧ (∀ x, (E.enc e x).all kcell = true) ∧ keyZ P (E.ti e) e = true ∧ (∀ x y, ∃ b, eqL (E.ti e).zero (E.enc e x) (E.enc e y) = some b) ∧ (isAggB E e = false → ∀ x, ∃ s, E.enc e x = [s] ∧ isCell s = true)) : TabOk P E := by
  have hz : ∀ t, (E.ti t = ⟨false, .other, 0, 0, []⟩) ∨ (kindZ P (E.ti t).kind (P.underlying t) = true ∧ infoZ P (E.ti t) t = true) := by
    intro t
    rcases Nat.lt_or_ge t N with hlt | hge
    · have := List.all_eq_true.1 h t (List.mem_range.2 hlt)
      refine .inr ⟨?_, this⟩
      unfold infoZ at this
      exact (Bool.and_eq_true _ _ ▸ this).1
    · exact .inl (hn t hge)
  have kd : ∀ t k, (E.ti t).kind = k → k ≠ .other → kindZ P k (P.underlying t) = true := by
    intro t k hk hne
    rcases hz t with h | h
    · rw [h] at hk; exact absurd hk.symm hne
    · rw [← hk]; exact h.1
  refine ⟨fun t ht => ?_, fun t ht => ?_, fun t fs hk => ?_, fun t n e hk => ?_, fun t e hk => ?_, fun t k hk => ?_, fun t hk => ?_, fun t hk => ?_, hf, hm, fun t ht => eqZ_spec (he t ht), fun t k v hk => ?_, fun e h => ?_, fun t ht ha i z hi hz0 => ?_, fun t ht ha i z hi hz0 => ?_⟩
  · rcases hz t with h | ⟨_, h⟩
    · rw [h] at ht; cases ht
    · unfold infoZ at h
      rw [ht, Bool.and_eq_true] at h
      obtain ⟨_, h⟩ := h
      simp only at h
      split at h
      · rename_i i hi
        simp only [Bool.and_eq_true] at h
        obtain ⟨⟨⟨h1, h2⟩, h3⟩, _⟩ := h
        split at h3
        · rename_i z hz
          rw [Bool.and_eq_true] at h3
          rw [Bool.and_eq_true] at h3
          exact ⟨i, hi, nB_eq h1, nB_eq h2, z, hz, nB_eq h3.1.1, fun H σ w S => zeroZ_spec h3.1.2⟩
        · cases h3
      · cases h
  · rcases hz t with h | ⟨_, h⟩
    · rw [h] at ht; cases ht
    · unfold infoZ at h
      rw [ht, Bool.and_eq_true] at h
      obtain ⟨_, h⟩ := h
      simp only at h
      split at h
      · simp only [Bool.and_eq_true] at h
        obtain ⟨_, h⟩ := h
        split at h
        · rename_i d hd
          refine ⟨d, hd, ?_⟩
          unfold isAggB
          exact eq_of_beq h
        · cases h
      · cases h
  · have := kd t _ hk (by simp)
    unfold kindZ at this
    split at this <;> try (first | (cases this; done) | contradiction)
    rename_i fs' fds h1 h2
    cases h1
    obtain ⟨i1, i2⟩ := structZ_spec this
    exact ⟨fds, h2, i1, fun j o n ft hj => by
      obtain ⟨f, i, h3, h4⟩ := i2 j o n ft hj
      exact ⟨f, i, by rw [← Array.getElem?_toList]; exact h3, h4⟩⟩
  · have := kd t _ hk (by simp)
    unfold kindZ at this
    split at this <;> try (first | (cases this; done) | contradiction)
    rename_i h1 h2
    cases h1
    rw [Bool.and_eq_true] at this
    rw [h2, nB_eq this.1, nB_eq this.2]
  · have := kd t _ hk (by simp)
    unfold kindZ at this
    split at this <;> try (first | (cases this; done) | contradiction)
    rename_i h1 h2
    cases h1
    rw [h2, nB_eq this]
  · have := kd t _ hk (by simp)
    unfold kindZ at this
    split at this <;> try (first | (cases this; done) | contradiction)
    rename_i h1 h2
    cases h1
    rw [h2, kEq_eq this]
  · have := kd t _ hk (by simp)
    unfold kindZ at this
    split at this <;> first | (cases this; done) | (rename_i h1 h2; exact h2) | (rename_i h1; cases h1; done) | skip
    all_goals (first | assumption | (rename_i h1 _; cases h1; done))
  · have := kd t _ hk (by simp)
    unfold kindZ at this
    split at this <;> first | (cases this; done) | (rename_i h1 h2; exact h2) | (rename_i h1; cases h1; done) | skip
    all_goals (first | assumption | (rename_i h1 _; cases h1; done))
  · have := kd t _ hk (by simp)
    unfold kindZ at this
    split at this <;> try (first | (cases this; done) | contradiction)
    rename_i h1 h2
    cases h1
    rw [Bool.and_eq_true] at this
    rw [h2, nB_eq this.1, nB_eq this.2]
  · obtain ⟨h1, h2, h3, h4, h5, h6⟩ := hkey e h
    exact ⟨h1, h2, h3, keyZ_spec h4, h5, h6⟩
  · rcases hz t with h | ⟨_, h⟩
    · rw [h] at ht; cases ht
    · unfold infoZ at h
      rw [ht, Bool.and_eq_true] at h
      obtain ⟨_, h⟩ := h
      simp only [hi, hz0] at h
      simp only [Bool.and_eq_true] at h
      have hf := h.1.2.2
      unfold isAggB at ha
      rintro vs rfl
      unfold formZ at hf
      simp only at hf
      cases hk : (E.ti t).kind <;> rw [hk] at hf ha <;> simp at hf ha
  · rcases hz t with h | ⟨_, h⟩
    · rw [h] at ht; cases ht
    · unfold infoZ at h
      rw [ht, Bool.and_eq_true] at h
      obtain ⟨_, h⟩ := h
      simp only [hi, hz0] at h
      simp only [Bool.and_eq_true] at h
      have hf := h.1.2.2
      unfold isAggB at ha
      unfold formZ at hf
      cases z with
      | agg vs => exact ⟨vs, rfl⟩
      | _ => simp only at hf; cases hk : (E.ti t).kind <;> rw [hk] at hf ha <;> simp at hf ha

end Go.Vg
