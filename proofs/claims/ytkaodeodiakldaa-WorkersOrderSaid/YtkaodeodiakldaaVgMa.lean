/-
  Maps: what the model does at a map of the call's own. Own work; no condition.
-/
import Derived.Test.YtkaodeodiakldaaVgM
import Derived.MapKept
import Derived.WideKeyRuns
namespace Go.Vg
open Go.RowKit
variable {P : Program} {E : Env}

def wideD : TypeDesc → Bool
  | .array _ _ | .struct _ => true
  | _ => false

/-! ### A key is looked at -/
theorem ck_run (em : Bool) : ∀ (d c : Nat) (t : TypeId) (zs : List ZC), kindT P d t = some zs → ∀ (w : World) (xs : List Value) (v : Value), xs.length = zs.length → ValOf P t xs v → (Instr.checkKey em (c + d + 1) t v).run P w = .ok () w
  | 0, _, _, _, h => by cases h
  | d + 1, c, t, zs, h => by
    intro w xs v hl hv
    have hh := h
    unfold kindT at h
    split at h
    · rename_i k hu
      have na : isAggT P t = false := by simp [isAggT, hu]
      unfold Instr.checkKey
      simp only [Sem.run_bind, run_underlying hu, Result.andThen_ok]
      cases v <;> rfl
    · rename_i hu
      unfold Instr.checkKey
      simp only [Sem.run_bind, run_underlying hu, Result.andThen_ok]
      cases v <;> rfl
    · rename_i hu
      unfold Instr.checkKey
      simp only [Sem.run_bind, run_underlying hu, Result.andThen_ok]
      cases v <;> rfl
    · rename_i fs hu
      split at h
      · have ag : isAggT P t = true := by simp [isAggT, hu]
        rw [hv.1 ag]
        unfold Instr.checkKey
        simp only [Sem.run_bind, run_underlying hu, Result.andThen_ok]
        rw [← Array.forIn_toList]
        have hb : 0 + zs.length ≤ xs.length := by omega
        clear hh hl hu
        revert h hb
        generalize fs.toList = L
        generalize (0 : Nat) = o
        induction L generalizing o zs with
        | nil => intro _ _; simp
        | cons f L ih =>
          intro h ho
          simp only [kindFs] at h
          split at h
          · rename_i i l h1 hi hq
            split at h
            · rename_i l' h3 h4
              cases h
              simp only [Bool.and_eq_true] at h1
              obtain ⟨h1, h2⟩ := h1
              have h2 := nB_eq h2
              have h3 := nB_eq h3
              have hname : f.name ≠ "_" := by simpa using h1
              obtain ⟨⟨dd, hd⟩, hone, _⟩ := kindT_run d 0 _ _ hq
              simp only [List.length_append] at ho
              obtain ⟨a, pa, va⟩ := part_run (xs := xs.toArray) (o := f.offset) hd hi (fun hna => by rw [h3]; exact hone hna) (by simp; omega) w
              have hc := ck_run em d c _ _ hq w ((xs.toArray.toList.drop f.offset).take i.size) a (by simp; omega) va
              have e : c + d + 1 = c + (d + 1) := by omega
              rw [e] at hc
              simp only [List.forIn_cons, Sem.run_bind, hname, ne_eq, not_false_eq_true, if_true, Result.andThen_ok, pa, hc, Sem.run_pure]
              exact ih l' (o + i.size) h4 (by omega)
            · cases h
          · cases h
      · cases h
    · rename_i m e hu
      split at h
      · rename_i i k hi he
        split at h
        · rename_i hs
          have hs := nB_eq hs
          cases h
          have ag : isAggT P t = true := by simp [isAggT, hu]
          rw [hv.1 ag]
          unfold Instr.checkKey
          simp only [Sem.run_bind, run_underlying hu, Result.andThen_ok]
          simp only [Std.Legacy.Range.forIn_eq_forIn_range', Std.Legacy.Range.size, Nat.sub_zero, Nat.add_one_sub_one, Nat.div_one]
          have hlen : xs.length = m := by simpa using hl
          have each : ∀ j ∈ List.range' 0 m, j < xs.length := fun j hj => by
            simp [List.mem_range'] at hj; omega
          clear hl
          generalize List.range' 0 m = is at each
          induction is with
          | nil => simp
          | cons j is ih =>
            have hj := each j (by simp)
            obtain ⟨a, pa, va⟩ := part_run (xs := xs.toArray) (o := j) he hi (fun _ => hs) (by simp; omega) w
            have p2 : (Instr.checkKey em (c + (d + 1)) e a).run P w = .ok () w := by
              rw [show c + (d + 1) = (c + d) + 1 from rfl]
              unfold Instr.checkKey
              simp only [Sem.run_bind, run_underlying he, Result.andThen_ok]
              cases a <;> rfl
            have sz : (sizeOf e).run P w = .ok 1 w := by rw [run_sizeOf w hi]; simp [Program.cellsOf, hi, hs]
            simp only [List.forIn_cons, Sem.run_bind, sz, Result.andThen_ok, Nat.mul_one, pa, p2, Sem.run_pure]
            exact ih (fun y hy => each y (by simp [hy]))
        · cases h
      · cases h
    · cases h

/-! ### Data as values -/
section
variable {H : List (Nat × HS E.T)} {σ : Nat → Option Nat} {w : World} {S : Nat → Prop}

theorem kcells_any {H' : List (Nat × HS E.T)} {σ' : Nat → Option Nat} {w' : World} {S' : Nat → Prop} : ∀ {cs : List (SV E.T)} {vs : List Value}, RelC E H σ w S cs vs → cs.all kcell = true → RelC E H' σ' w' S' cs vs
  | [], _, .nil, _ => .nil
  | _ :: _, _, .cons h0 h00 h1 h2, hf => by
    simp only [List.all_cons, Bool.and_eq_true] at hf
    refine .cons h0 h00 ?_ (kcells_any h2 hf.2)
    have hk := hf.1
    cases h1 <;> simp [kcell] at hk <;> constructor
  | _ :: _, _, .arr h1 h2, hf => by
    simp only [List.all_cons, Bool.and_eq_true] at hf
    exact .arr h1 (kcells_any h2 hf.2)

theorem kcells_one : ∀ {cs : List (SV E.T)} {vs vs' : List Value}, RelC E H σ w S cs vs → RelC E H σ w S cs vs' → cs.all kcell = true → vs = vs'
  | [], _, _, .nil, .nil, _ => rfl
  | _ :: _, _, _, .cons h0 h00 h1 h2, h, hf => by
    simp only [List.all_cons, Bool.and_eq_true] at hf
    have hk := hf.1
    cases h with
    | cons g0 g00 g1 g2 =>
      rw [kcells_one h2 g2 hf.2]
      cases h1 <;> simp [kcell] at hk <;> cases g1 <;> rfl
    | arr g1 g2 => cases h1
  | _ :: _, _, _, .arr h1 h2, h, hf => by
    simp only [List.all_cons, Bool.and_eq_true] at hf
    cases h with
    | cons g0 g00 g1 g2 => cases g1
    | arr g1 g2 => rw [kcells_one h2 g2 hf.2]

theorem kcells_bits : ∀ {cs : List (SV E.T)} {vs : List Value}, RelC E H σ w S cs vs → cs.all kcell = true → ∀ n, ∀ v ∈ vs, Instr.sameBits n v v = true
  | [], _, .nil, _, _, v, hv => by cases hv
  | _ :: _, _, .cons h0 h00 h1 h2, hf, n, v, hv => by
    simp only [List.all_cons, Bool.and_eq_true] at hf
    have hk := hf.1
    rcases List.mem_cons.1 hv with rfl | hv
    · cases h1 <;> simp [kcell] at hk <;> simp [Instr.sameBits, MapKept.bytes_beq]
    · exact kcells_bits h2 hf.2 n v hv
  | _ :: _, _, .arr h1 h2, hf, n, v, hv => by
    simp only [List.all_cons, Bool.and_eq_true] at hf
    rcases List.mem_append.1 hv with hv | hv
    · obtain ⟨x, _, rfl⟩ := List.mem_map.1 hv; simp [Instr.sameBits]
    · exact kcells_bits h2 hf.2 n v hv
end

section
variable (tab : TabOk P E) {e : Nat} (hk : E.kok e = true)
include tab hk

theorem oneSV_kcell (x : E.T e) : (isAggB E e = true ∧ oneSV E e x = .agg (E.enc e x) ∧ (E.enc e x).all kcell = true) ∨ (isAggB E e = false ∧ E.enc e x = [oneSV E e x] ∧ kcell (oneSV E e x) = true ∧ isCell (oneSV E e x) = true) := by
  obtain ⟨_, _, h3, _, _, h6⟩ := tab.key e hk
  cases ha : isAggB E e with
  | true => left; exact ⟨rfl, by simp [oneSV, ha], h3 x⟩
  | false =>
    right
    obtain ⟨s, h7, h8⟩ := h6 ha x
    have := h3 x
    rw [h7] at this
    refine ⟨rfl, ?_, ?_, ?_⟩ <;> simp_all [oneSV, nth]

theorem valIs_of {x : E.T e} {v : Value} {H : List (Nat × HS E.T)} {σ : Nat → Option Nat} {w : World} {S : Nat → Prop} (h : RelS E H σ w S (oneSV E e x) v) : ValIs E e x v := by
  intro H' σ' w' S'
  rcases oneSV_kcell tab hk x with ⟨_, h2, h3⟩ | ⟨_, _, h3, _⟩
  · rw [h2] at h ⊢
    cases h with
    | agg _ vs h => exact .agg _ _ (kcells_any h h3)
  · generalize oneSV E e x = s at h h3
    cases h <;> simp [kcell] at h3 <;> constructor

theorem valIs_cells {x : E.T e} {v : Value} (h : ValIs E e x v) (H : List (Nat × HS E.T)) (σ : Nat → Option Nat) (w : World) (S : Nat → Prop) : RelC E H σ w S (E.enc e x) v.cells.toList := by
  have h := h H σ w S
  rcases oneSV_kcell tab hk x with ⟨_, h2, h3⟩ | ⟨_, h2, h3, h4⟩
  · rw [h2] at h; exact cellsB_rel rfl h
  · rw [h2]
    refine cellsB_rel ?_ h
    generalize oneSV E e x = s at h4
    cases s <;> simp [isCell] at h4 <;> simp [cellsB, isCell]

theorem valIs_ValOf {x : E.T e} {v : Value} (h : ValIs E e x v) : ValOf P e v.cells.toList v := by
  obtain ⟨_, hok, _⟩ := tab.key e hk
  obtain ⟨d, hd, hr⟩ := tab.agg e hok
  have hT : isAggT P e = isAggB E e := by
    rw [← hr]; unfold isAggT; rw [hd]; cases d <;> rfl
  have h := h [] (fun _ => none) default (fun _ => False)
  rcases oneSV_kcell tab hk x with ⟨h1, h2, _⟩ | ⟨h1, _, h3, h4⟩
  · rw [h2] at h
    cases h with
    | agg _ vs h => exact ⟨fun _ => (by simp [Value.cells]), fun hh => (by rw [hT, h1] at hh; cases hh)⟩
  · refine ⟨fun hh => (by rw [hT, h1] at hh; cases hh), fun _ => ?_⟩
    generalize oneSV E e x = s at h h3
    cases h <;> simp [kcell] at h3 <;> rfl

theorem valIs_unique {x : E.T e} {v v' : Value} (h : ValIs E e x v) (h' : ValIs E e x v') : v = v' := by
  have q := h [] (fun _ => none) default (fun _ => False)
  have q' := h' [] (fun _ => none) default (fun _ => False)
  clear h h'
  rcases oneSV_kcell tab hk x with ⟨_, h2, h3⟩ | ⟨_, _, h3, _⟩
  · rw [h2] at q q'
    cases q with
    | agg _ vs r => cases q' with
      | agg _ vs' r' => rw [show vs = vs' from Array.ext' (kcells_one r r' h3)]
  · generalize oneSV E e x = s at q q' h3
    cases q <;> simp [kcell] at h3 <;> cases q' <;> rfl

theorem valIs_bits {x : E.T e} {v : Value} (h : ValIs E e x v) : Instr.sameBits 10000 v v = true := by
  have hc := valIs_cells tab hk h [] (fun _ => none) default (fun _ => False)
  obtain ⟨_, _, h3, _⟩ := tab.key e hk
  have hb := kcells_bits hc (h3 x)
  have h := h [] (fun _ => none) default (fun _ => False)
  rcases oneSV_kcell tab hk x with ⟨_, h2, _⟩ | ⟨_, _, h3, _⟩
  · rw [h2] at h
    cases h with
    | agg _ vs h =>
      simp only [Instr.sameBits, beq_self_eq_true, Bool.true_and, List.all_eq_true]
      rintro ⟨x, y⟩ hxy
      have e1 : x = y := by
        obtain ⟨i, hi, hxy⟩ := List.mem_iff_getElem.1 hxy
        simp only [List.getElem_zip, Prod.mk.injEq] at hxy
        rw [← hxy.1, ← hxy.2]
      subst e1
      exact hb 9999 x (by simpa [Value.cells] using (List.of_mem_zip hxy).1)
  · generalize oneSV E e x = s at h h3
    cases h <;> simp [kcell] at h3 <;> simp [Instr.sameBits, MapKept.bytes_beq]

theorem fromSV_spec {s : SV E.T} {x : E.T e} (h : fromSV E e s = some x) : s = oneSV E e x := by
  obtain ⟨hhas, _, h3, _⟩ := tab.key e hk
  have wk : ∀ {cs cs' : List (SV E.T)}, WkL E.has cs cs' → cs'.all kcell = true → cs = cs' := by
    intro cs cs' hw
    induction hw with
    | nil => intro _; rfl
    | cons s hw ih => intro hf; simp only [List.all_cons, Bool.and_eq_true] at hf; rw [ih hf.2]
    | nils e he hw ih => intro hf; simp [kcell] at hf
  unfold fromSV at h
  split at h
  · rename_i ha
    split at h
    · rename_i cs
      rw [wk (E.enc_dec e cs x hhas h) (h3 x)]
      simp [oneSV, ha]
    · cases h
  · rename_i ha
    split at h
    · have := wk (E.enc_dec e _ x hhas h) (h3 x)
      simp [oneSV, ha, ← this, nth]
    · cases h

/-- The model's equality of two keys. -/
theorem key_run {x y : E.T e} {v v' : Value} (h : ValIs E e x v) (h' : ValIs E e y v') (w : World) : (Op.equal e v v').run P w = .ok (keyEq E e x y) w := by
  obtain ⟨_, _, _, h4, h5, _⟩ := tab.key e hk
  obtain ⟨b, hb⟩ := h5 x y
  have hc := valIs_cells tab hk h [] (fun _ => none) default (fun _ => False)
  have hc' := valIs_cells tab hk h' [] (fun _ => none) default (fun _ => False)
  have hv := eqL_V hb hc hc'
  have e1 : keyEq E e x y = b := by simp [keyEq, hb]
  rw [e1]
  exact (kindT_run 50 9949 e _ h4).2.2 w _ _ _ _ b hv (valIs_ValOf tab hk h) (valIs_ValOf tab hk h')

end

theorem eqS_true {z : ZC} {s s' : SV E.T} (h : eqS z s s' = some true) : s = s' := by
  unfold eqS at h
  split at h
  · split at h
    · split at h
      · split at h
        · rename_i h1 h2
          have h1 := kEq_eq h1; have h2 := kEq_eq h2
          simp only [Option.some.injEq, beq_iff_eq] at h
          rw [← h1, ← h2, h]
        · cases h
      · cases h
    · cases h
  · split at h
    · split at h
      · simp only [Option.some.injEq, beq_iff_eq] at h; rw [h]
      · cases h
    · cases h
  · split at h
    · split at h
      · simp only [Option.some.injEq] at h; rw [(MapKept.bytes_beq _ _).1 h]
      · cases h
    · cases h
  · split at h
    · split at h
      · split at h
        · rename_i h1 h2
          simp only [Bool.and_eq_true] at h1 h2
          have a1 := kEq_eq h1.1; have a2 := kEq_eq h1.2
          have b1 := Nat.eq_of_beq_eq_true h2.1; have b2 := Nat.eq_of_beq_eq_true h2.2
          simp only [Option.some.injEq, beq_iff_eq] at h
          rw [← a1, ← a2, ← b1, ← b2, h]
        · cases h
      · cases h
    · cases h
  · cases h

theorem eqL_true : ∀ {zs : List ZC} {cs cs' : List (SV E.T)}, eqL zs cs cs' = some true → cs = cs'
  | [], [], [], _ => rfl
  | [], _ :: _, _, h => by simp [eqL] at h
  | [], [], _ :: _, h => by simp [eqL] at h
  | _ :: _, [], _, h => by simp [eqL] at h
  | _ :: _, _ :: _, [], h => by simp [eqL] at h
  | z :: zs, x :: r, y :: r', h => by
    simp only [eqL] at h
    split at h
    · rename_i a ha
      split at h
      · split at h
        · cases h
          rw [eqS_true ha]
        · cases h
      · split at h
        · rename_i b hb
          simp only [Option.some.injEq, andb_eq, Bool.and_eq_true] at h
          obtain ⟨rfl, rfl⟩ := h
          rw [eqS_true ha, eqL_true hb]
        · cases h
    · cases h

theorem keyEq_one {e : Nat} {x y : E.T e} (h : keyEq E e x y = true) : oneSV E e x = oneSV E e y := by
  unfold keyEq at h
  split at h
  · rename_i b hb
    subst h
    have := eqL_true hb
    simp only [oneSV, this]
  · cases h

/-! ### Looking for a key -/
section
variable {α β : Type}
def fR (f : α → Bool) : List (α × β) → List MapEntry → Nat → Option (Nat × Value)
  | p :: r, e :: es, i => match f p.1 with
    | true => some (i, e.val)
    | false => fR f r es (i + 1)
  | _, _, _ => none

theorem fR_spec (f : α → Bool) : ∀ (l : List (α × β)) (es : List MapEntry) (i : Nat), es.length = l.length →
    (mHas f l = true ∧ ∃ en p, es[mIdx f l]? = some en ∧ l[mIdx f l]? = some p ∧ f p.1 = true ∧ fR f l es i = some (i + mIdx f l, en.val)) ∨ (mHas f l = false ∧ mIdx f l = l.length ∧ fR f l es i = none)
  | [], es, i, _ => .inr ⟨rfl, rfl, by cases es <;> rfl⟩
  | p :: r, [], i, h => by simp at h
  | p :: r, e :: es, i, h => by
    cases hf : f p.1 with
    | true => exact .inl ⟨by simp [mHas, hf], e, p, by simp [mIdx, hf], by simp [mIdx, hf], hf, by simp [fR, mIdx, hf]⟩
    | false =>
      rcases fR_spec f r es (i + 1) (by simpa using h) with ⟨h1, en, q, h2, h3, h4, h5⟩ | ⟨h1, h2, h3⟩
      · exact .inl ⟨by simp [mHas, hf, h1], en, q, by simp [mIdx, hf, h2], by simp [mIdx, hf, h3], h4, by simp only [fR, mIdx, hf, h5]; congr 2; omega⟩
      · exact .inr ⟨by simp [mHas, hf, h1], by simp [mIdx, hf, h2], by simp [fR, hf, h3]⟩

theorem mGet_at {f : α → Bool} {z : β} : ∀ {l : List (α × β)} {p : α × β}, mHas f l = true → l[mIdx f l]? = some p → mGet f z l = p.2
  | [], _, h, _ => by simp [mHas] at h
  | q :: r, p, h, hp => by
    cases hf : f q.1 with
    | true => simp [mIdx, hf] at hp; subst hp; simp [mGet, hf]
    | false => simp [mIdx, hf] at hp; simp [mHas, hf] at h; simp [mGet, hf, mGet_at h hp]
theorem mGet_none {f : α → Bool} {z : β} : ∀ {l : List (α × β)}, mHas f l = false → mGet f z l = z
  | [], _ => rfl
  | q :: r, h => by
    cases hf : f q.1 with
    | true => simp [mHas, hf] at h
    | false => simp [mHas, hf] at h; simp [mGet, hf, mGet_none h]
theorem mPut_eq {f : α → Bool} {k : α} {v : β} : ∀ {l : List (α × β)}, mPut f k v l = if mHas f l then l.set (mIdx f l) (k, v) else l ++ [(k, v)]
  | [] => rfl
  | q :: r => by
    cases hf : f q.1 with
    | true => simp [mPut, mHas, mIdx, hf]
    | false => simp only [mPut, mHas, mIdx, hf, mPut_eq (l := r)]; split <;> simp
theorem mEnt_eq {f : α → Bool} {k : α} {z : β} : ∀ {l : List (α × β)}, mEnt f k z l = if mHas f l then l.set (mIdx f l) (k, mGet f z l) else l ++ [(k, z)]
  | [] => rfl
  | q :: r => by
    cases hf : f q.1 with
    | true => simp [mEnt, mHas, mIdx, mGet, hf]
    | false => simp only [mEnt, mHas, mIdx, mGet, hf, mEnt_eq (l := r)]; split <;> simp
theorem mSet_eq {y : β} : ∀ {l : List (α × β)} {n : Nat} {p : α × β}, l[n]? = some p → mSet l n y = l.set n (p.1, y)
  | [], n, p, h => by simp at h
  | q :: r, 0, p, h => by simp at h; subst h; rfl
  | q :: r, n + 1, p, h => by simp at h; simp [mSet, mSet_eq h]
end

section
variable (tab : TabOk P E) {kt vt : Nat} (hk : E.kok kt = true)
include tab hk

theorem ask_run {x : E.T kt} {v : Value} (hv : ValIs E kt x v) (w : World) : ∀ (l : List (E.T kt × E.T vt)) (es : List MapEntry) (i : Nat), es.length = l.length → (∀ (j : Nat) (p : E.T kt × E.T vt), l[j]? = some p → ∃ en : MapEntry, es[j]? = some en ∧ ValIs E kt p.1 en.key) →
    (Instr.findAsking kt v es i).run P w = .ok (fR (keyEq E kt x) l es i) w
  | [], [], i, _, _ => by simp [Instr.findAsking, fR]
  | [], _ :: _, i, h, _ => by simp at h
  | _ :: _, [], i, h, _ => by simp at h
  | p :: r, e :: es, i, h, hr => by
    obtain ⟨en, h1, h2⟩ := hr 0 p rfl
    simp at h1; subst h1
    have hrun := key_run tab hk hv h2 w
    have ih := ask_run hv w r es (i + 1) (by simpa using h) (fun j q hq => by simpa using hr (j + 1) q (by simpa using hq))
    simp only [Instr.findAsking, Sem.run_bind, hrun, Result.andThen_ok, fR]
    cases keyEq E kt x p.1 with
    | true => simp
    | false => simpa using ih

theorem now_run {d : TypeDesc} (hu : P.underlying kt = some d) (hd : wideD d = false) {x y : E.T kt} {v v' : Value} (hv : ValIs E kt x v) (hv' : ValIs E kt y v') : Instr.sameNow d v v' = some (keyEq E kt x y) := by
  obtain ⟨_, _, _, h4, h5, _⟩ := tab.key kt hk
  obtain ⟨b, hb⟩ := h5 x y
  have hc := valIs_cells tab hk hv [] (fun _ => none) default (fun _ => False)
  have hc' := valIs_cells tab hk hv' [] (fun _ => none) default (fun _ => False)
  have he := eqL_V hb hc hc'
  have e1 : keyEq E kt x y = b := by simp [keyEq, hb]
  rw [e1]
  have na : isAggT P kt = false := by
    unfold isAggT; rw [hu]; cases d <;> first | rfl | (cases hd)
  have c1 := (valIs_ValOf tab hk hv).2 na
  have c2 := (valIs_ValOf tab hk hv').2 na
  rw [c1, c2] at he
  unfold kindT at h4
  rw [hu] at h4
  have fin : ∀ z, (z :: ([] : List ZC)) = flatZ (E.ti kt).zero → eq1 z v v' = some b := by
    intro z hz
    rw [← hz] at he
    simp only [eqV] at he
    split at he
    · rename_i p q h1 h2
      cases h2; cases he
      rw [h1, Bool.and_true]
    · cases he
  cases d
  case array => cases hd
  case struct => cases hd
  case int k =>
    have h1 := fin (.int k) (Option.some.inj h4)
    unfold eq1 at h1
    simp only at h1
    split at h1
    · split at h1
      · split at h1
        · rename_i k1 k2
          have k1 := kEq_eq k1; have k2 := kEq_eq k2
          subst k1; subst k2
          cases h1
          simp [Instr.sameNow]
        · cases h1
      · cases h1
    · cases h1
  case bool =>
    have h1 := fin .bool (Option.some.inj h4)
    unfold eq1 at h1
    simp only at h1
    split at h1
    · split at h1
      · cases h1; simp [Instr.sameNow]
      · cases h1
    · cases h1
  case string =>
    have h1 := fin .str (Option.some.inj h4)
    unfold eq1 at h1
    simp only at h1
    split at h1
    · split at h1
      · cases h1; simp [Instr.sameNow]
      · cases h1
    · cases h1
  all_goals (simp at h4)

theorem find_run {x : E.T kt} {v : Value} (hv : ValIs E kt x v) (w : World) {l : List (E.T kt × E.T vt)} {es : List MapEntry} (hl : es.length = l.length) (hr : ∀ (j : Nat) (p : E.T kt × E.T vt), l[j]? = some p → ∃ en : MapEntry, es[j]? = some en ∧ ValIs E kt p.1 en.key) :
    (Instr.findKey kt v es).run P w = .ok (fR (keyEq E kt x) l es 0) w := by
  obtain ⟨_, hok, _⟩ := tab.key kt hk
  obtain ⟨d, hu, _⟩ := tab.agg kt hok
  cases hd : wideD d with
  | true =>
    rw [run_findKey_eq w (by rw [hu]; cases d <;> first | rfl | (cases hd))]
    exact ask_run tab hk hv w l es 0 hl hr
  | false =>
    have key : ∀ (l : List (E.T kt × E.T vt)) (es : List MapEntry) (i : Nat), es.length = l.length → (∀ (j : Nat) (p : E.T kt × E.T vt), l[j]? = some p → ∃ en : MapEntry, es[j]? = some en ∧ ValIs E kt p.1 en.key) → Instr.findNow d v es i = some (fR (keyEq E kt x) l es i) := by
      intro l
      induction l with
      | nil => intro es i h _; simp at h; subst h; rfl
      | cons p r ih =>
        intro es i h hr
        cases es with
        | nil => simp at h
        | cons e es =>
          obtain ⟨en, h1, h2⟩ := hr 0 p rfl
          simp at h1; subst h1
          have := now_run tab hk hu hd hv h2
          simp only [Instr.findNow, this, fR]
          cases keyEq E kt x p.1 with
          | true => rfl
          | false => exact ih es (i + 1) (by simpa using h) (fun j q hq => by simpa using hr (j + 1) q (by simpa using hq))
    exact MapKept.run_findKey hu (key l es 0 hl hr)

theorem check_run (em : Bool) {x : E.T kt} {v : Value} (hv : ValIs E kt x v) (w : World) : (Instr.checkKey em 10000 kt v).run P w = .ok () w := by
  obtain ⟨_, _, _, h4, h5, _⟩ := tab.key kt hk
  obtain ⟨b, hb⟩ := h5 x x
  have hc := valIs_cells tab hk hv [] (fun _ => none) default (fun _ => False)
  have hlen := (eqV_len (eqL_V hb hc hc)).1
  exact ck_run em 50 9949 kt _ h4 w v.cells.toList v hlen (valIs_ValOf tab hk hv)
end

section
variable {B : Nat} {S0 : Nat → Prop} {w0 : World} {gv : Gv} {σ : Nat → Option Nat} {st : St E.T} {a : Act} {w : World}

theorem map_spec (tab : TabOk P E) {t k v : Nat} (h : mapB E t = some (k, v)) : P.underlying t = some (.map k v) := by
  unfold mapB at h
  split at h
  · rename_i hk; cases h; exact tab.map t _ _ hk
  · cases h

theorem do_makeMap (tab : TabOk P E) (g : Gam E B S0 w0 gv σ st a w) {o : Oper} {fresh t : Nat} {r : Option Operand} (hf : Fresh st fresh) (ho : o.op = .makeMap t r) {out : Out E.T} (h : core E fresh st.tmps st.heap (.makeMap t r) = some out) : Done P E B S0 w0 gv st a o w out := by
  simp only [core] at h
  split at h
  · rename_i k v n hm hr
    split at h
    · rename_i hkk
      simp only [Bool.and_eq_true] at hkk
      cases h
      have hu := map_spec tab hm
      have hrun : (execOp a.eval o).run P w = .ok (.value (.map (some w.heap.size))) (w.alloc (.map #[] 0)) := by
        cases r with
        | none => simp [execOp, ho, Instr.makeMap, newObj, Sem.run]
        | some x =>
          unfold optInt at hr
          simp only at hr
          split at hr
          · rename_i kk nn hx
            have hv := g.ev x
            rw [hx] at hv
            have := int_inv hv
            simp [execOp, ho, Instr.makeMap, run_underlying hu, this, asInt, asIntOf, newObj, Sem.run]
          · cases hr
      obtain ⟨σ', h1, h2, h3, go, g'⟩ := g.allocO fresh hf.1 hf.2.1 hf.2.2 (.map #[] 0) (.map k v []) (fun H' σ' w' S' go hs hk => ⟨hkk.1, hkk.2, _, #[], hs, g.hB, hk, rfl, fun i p hp => by simp at hp⟩)
      refine ⟨_, _, σ', .inl hrun, g', .map _ _ ?_ h1⟩
      rw [show look (St.upds st [(fresh, HS.live (Blk.map k v []))]).heap fresh = _ from h3]; simp
    · cases h
  · cases h

/-- What is known of a map that is looked at. -/
structure MapHere (P : Program) (E : Env) (B : Nat) (S0 : Nat → Prop) (σ : Nat → Option Nat) (st : St E.T) (a : Act) (w : World) (t : Nat) (x i : Operand) (id kt vt : Nat) (l : List (E.T kt × E.T vt)) (key : E.T kt) (z : E.T vt) (k : Nat) (es : Array MapEntry) : Prop where
  ty : P.underlying t = some (.map kt vt)
  kk : E.kok kt = true
  vk : E.kok vt = true
  val : a.eval x = .map (some k)
  nam : σ id = some k
  live : look st.heap id = .live (.map kt vt l)
  B : B ≤ k
  heap : w.heap[k]? = some (.map es es.size)
  rel : MapRel E kt vt l es.toList
  key : ValIs E kt key (a.eval i)
  zero : ∃ zv, (zeroValue vt).run P w = .ok zv w ∧ ValIs E vt z zv

theorem mapAt_spec (tab : TabOk P E) (g : Gam E B S0 w0 gv σ st a w) {t : Nat} {x i : Operand} {f : (id kt vt : Nat) → List (E.T kt × E.T vt) → E.T kt → E.T vt → Option (Out E.T)} {out : Out E.T} (h : mapAt E st.heap t (ev st.tmps x) (ev st.tmps i) f = some out) :
    ∃ id kt vt l key z k es, MapHere P E B S0 σ st a w t x i id kt vt l key z k es ∧ f id kt vt l key z = some out := by
  unfold mapAt at h
  split at h
  · rename_i k v id hm hx
    split at h
    · rename_i kt vt l hl
      split at h
      · rename_i key z hkv hkey hz
        simp only [Bool.and_eq_true] at hkv
        have e1 := Nat.eq_of_beq_eq_true hkv.1
        have e2 := Nat.eq_of_beq_eq_true hkv.2
        subst e1 e2
        obtain ⟨hk1, hk2, kb, es, hs, hB, hh, hr⟩ := g.blk id _ hl
        have hv := g.ev x
        rw [hx] at hv
        generalize hvx : a.eval x = vx at hv
        cases hv with
        | map _ k' h8 h9 =>
          rw [hs] at h9; cases h9
          have hi := g.ev i
          have hsv := fromSV_spec tab hk1 hkey
          rw [hsv] at hi
          refine ⟨id, k, v, l, key, z, kb, es, ⟨map_spec tab hm, hk1, hk2, hvx, hs, hl, hB, hh, hr, valIs_of tab hk1 hi, ?_⟩, h⟩
          obtain ⟨zc, hz1, hz2⟩ := Option.bind_eq_some_iff.1 hz
          obtain ⟨hhas, hok, hkc, _, _, hone⟩ := tab.key v hk2
          obtain ⟨ti, hti, _, _, zv, hzv, hzs, hzr⟩ := tab.info v hok
          refine ⟨zv, by simp [zeroValue, typeInfo, hti, hzv], ?_⟩
          unfold zeroB at hz1
          rw [hok] at hz1
          simp only [Option.some.injEq] at hz1
          have hrel := hzr st.heap σ w (sup E B S0 st.heap σ w)
          rw [hz1] at hrel
          have hdec := RelC.dec hhas hz2 hrel
          have hz0 : RelS E st.heap σ w (sup E B S0 st.heap σ w) (oneSV E v z) zv := by
            rcases oneSV_kcell tab hk2 z with ⟨ha, h2, _⟩ | ⟨ha, h2, h3, h4⟩
            · rw [h2]
              obtain ⟨vs, rfl⟩ := tab.zform2 v hok ha ti zv hti hzv
              exact .agg _ _ (by simpa [Value.cells] using hdec)
            · have hna := tab.zform v hok ha ti zv hti hzv
              have hcells : zv.cells = #[zv] := by
                unfold Value.cells
                split
                · rename_i cs; exact absurd rfl (hna cs)
                · rfl
              rw [hcells, h2] at hdec
              generalize oneSV E v z = s at hdec h4
              cases s <;> simp [isCell] at h4 <;> (cases hdec with | cons _ _ h5 _ => exact h5)
          exact valIs_of tab hk2 hz0
      · cases h
    · cases h
  · cases h

section
variable {t : Nat} {x i : Operand} {id kt vt : Nat} {l : List (E.T kt × E.T vt)} {key : E.T kt} {z : E.T vt} {k : Nat} {es : Array MapEntry}

theorem MapHere.find (m : MapHere P E B S0 σ st a w t x i id kt vt l key z k es) (tab : TabOk P E) : (Instr.findKey kt (a.eval i) es.toList).run P w = .ok (fR (keyEq E kt key) l es.toList 0) w :=
  find_run tab m.kk m.key w m.rel.1 (fun j p hp => by obtain ⟨en, h1, _, h2, _⟩ := m.rel.2 j p hp; exact ⟨en, h1, h2⟩)

/-- A map's contents that are handed on as data. -/
theorem KRel.rel {s : SV E.T} {v : Value} (h : KRel s v) (H : List (Nat × HS E.T)) (σ : Nat → Option Nat) (w : World) (S : Nat → Prop) : RelS E H σ w S s v := by cases h <;> constructor
theorem KRelC.rel {cs : List (SV E.T)} {vs : List Value} (h : KRelC cs vs) (H : List (Nat × HS E.T)) (σ : Nat → Option Nat) (w : World) (S : Nat → Prop) : RelC E H σ w S cs vs := by
  induction h with
  | nil => exact .nil
  | cons h1 h2 ih => exact .cons (by cases h1 <;> rfl) (by cases h1 <;> rfl) (h1.rel _ _ _ _) ih
  | arr h1 h2 ih => exact .arr h1 ih
theorem KVal.is {e : Nat} {x : E.T e} {v : Value} (h : KVal E e x v) : ValIs E e x v := by
  intro H σ w S
  unfold oneSV
  cases ha : isAggB E e with
  | true =>
    obtain ⟨vs, rfl, h1⟩ := h.1 ha
    exact .agg _ _ (h1.rel _ _ _ _)
  | false =>
    obtain ⟨s, h1, h2⟩ := h.2 ha
    simp only [h1, nth]
    exact h2.rel _ _ _ _
theorem MapK.rel {l : List (E.T kt × E.T vt)} {es : List MapEntry} (h : MapK E kt vt l es) : MapRel E kt vt l es :=
  ⟨h.1, fun i p hp => by obtain ⟨en, h1, h2, h3, h4⟩ := h.2 i p hp; exact ⟨en, h1, h2, h3.is, h4.is⟩⟩
theorem relC_K {H : List (Nat × HS E.T)} {σ : Nat → Option Nat} {w : World} {S : Nat → Prop} : ∀ {cs : List (SV E.T)} {vs : List Value}, RelC E H σ w S cs vs → cs.all kcell = true → KRelC cs vs
  | [], _, .nil, _ => .nil
  | _ :: _, _, .cons h0 h00 h1 h2, hf => by
    simp only [List.all_cons, Bool.and_eq_true] at hf
    refine .cons ?_ (relC_K h2 hf.2)
    have hk := hf.1
    cases h1 <;> simp [kcell] at hk <;> constructor
  | _ :: _, _, .arr h1 h2, hf => by
    simp only [List.all_cons, Bool.and_eq_true] at hf
    exact .arr h1 (relC_K h2 hf.2)
theorem KVal.of (tab : TabOk P E) {e : Nat} (hk : E.kok e = true) {x : E.T e} {v : Value} (h : ValIs E e x v) : KVal E e x v := by
  have h := h [] (fun _ => none) default (fun _ => False)
  rcases oneSV_kcell tab hk x with ⟨h1, h2, h3⟩ | ⟨h1, h2, h3, h4⟩
  · rw [h2] at h
    cases h with
    | agg _ vs r => exact ⟨fun _ => ⟨vs, rfl, relC_K r h3⟩, fun hh => by rw [h1] at hh; cases hh⟩
  · refine ⟨fun hh => (by rw [h1] at hh; cases hh), fun _ => ⟨_, h2, ?_⟩⟩
    generalize oneSV E e x = s at h h3 h4
    cases h <;> simp [kcell] at h3 <;> simp [isCell] at h4 <;> constructor
theorem MapK.of (tab : TabOk P E) (hk : E.kok kt = true) (hv : E.kok vt = true) {l : List (E.T kt × E.T vt)} {es : List MapEntry} (h : MapRel E kt vt l es) : MapK E kt vt l es :=
  ⟨h.1, fun i p hp => by obtain ⟨en, h1, h2, h3, h4⟩ := h.2 i p hp; exact ⟨en, h1, h2, .of tab hk h3, .of tab hv h4⟩⟩

theorem zero_is (tab : TabOk P E) (_g : Gam E B S0 w0 gv σ st a w) {v : Nat} (hk2 : E.kok v = true) {z : E.T v} (hz : (zeroB E v).bind (E.dec v) = some z) : ∃ zv, (zeroValue v).run P w = .ok zv w ∧ ValIs E v z zv := by
  obtain ⟨zc, hz1, hz2⟩ := Option.bind_eq_some_iff.1 hz
  obtain ⟨hhas, hok, hkc, _, _, hone⟩ := tab.key v hk2
  obtain ⟨ti, hti, _, _, zv, hzv, hzs, hzr⟩ := tab.info v hok
  refine ⟨zv, by simp [zeroValue, typeInfo, hti, hzv], ?_⟩
  unfold zeroB at hz1
  rw [hok] at hz1
  simp only [Option.some.injEq] at hz1
  have hrel := hzr st.heap σ w (sup E B S0 st.heap σ w)
  rw [hz1] at hrel
  have hdec := RelC.dec hhas hz2 hrel
  have hz0 : RelS E st.heap σ w (sup E B S0 st.heap σ w) (oneSV E v z) zv := by
    rcases oneSV_kcell tab hk2 z with ⟨ha, h2, _⟩ | ⟨ha, h2, h3, h4⟩
    · rw [h2]
      obtain ⟨vs, rfl⟩ := tab.zform2 v hok ha ti zv hti hzv
      exact .agg _ _ (by simpa [Value.cells] using hdec)
    · have hna := tab.zform v hok ha ti zv hti hzv
      have hcells : zv.cells = #[zv] := by
        unfold Value.cells
        split
        · rename_i cs; exact absurd rfl (hna cs)
        · rfl
      rw [hcells, h2] at hdec
      generalize oneSV E v z = s at hdec h4
      cases s <;> simp [isCell] at h4 <;> (cases hdec with | cons _ _ h5 _ => exact h5)
  exact valIs_of tab hk2 hz0

theorem look_run (tab : TabOk P E) {t k0 : Nat} {x i : Value} {ok : Bool} {l : List (E.T kt × E.T vt)} {key : E.T kt} {z : E.T vt} {es : Array MapEntry} (ty : P.underlying t = some (.map kt vt)) (kk : E.kok kt = true) (val : x = .map (some k0))
    (heap : w.heap[k0]? = some (.map es es.size)) (rel : MapRel E kt vt l es.toList) (hkey : ValIs E kt key i) (hz : ∃ zv, (zeroValue vt).run P w = .ok zv w ∧ ValIs E vt z zv) :
    ∃ v, ValIs E vt (mGet (keyEq E kt key) z l) v ∧ (Instr.lookup t x i ok).run P w = .ok (if ok then .tuple #[v, .bool (mHas (keyEq E kt key) l)] else v) w := by
  obtain ⟨zv, hz1, hz2⟩ := hz
  have hchk := check_run tab kk es.isEmpty hkey w
  have hf := find_run tab kk hkey w rel.1 (fun j p hp => by obtain ⟨en, h1, _, h2, _⟩ := rel.2 j p hp; exact ⟨en, h1, h2⟩)
  rcases fR_spec (keyEq E kt key) l es.toList 0 rel.1 with ⟨h1, en, p, h2, h3, h4, h5⟩ | ⟨h1, h2, h3⟩
  · obtain ⟨en', h6, _, h7, h8⟩ := rel.2 _ p h3
    rw [h2] at h6; cases h6
    refine ⟨en.val, by rw [mGet_at h1 h3]; exact h8, ?_⟩
    rw [h5] at hf
    simp only [Instr.lookup, Sem.run_bind, run_underlying ty, Result.andThen_ok, val, MapKept.run_getObj_map heap, Sem.run_pure, hchk, hf, h1]
  · refine ⟨zv, by rw [mGet_none h1]; exact hz2, ?_⟩
    rw [h3] at hf
    simp only [Instr.lookup, Sem.run_bind, run_underlying ty, Result.andThen_ok, val, MapKept.run_getObj_map heap, Sem.run_pure, hchk, hf, h1, hz1]

theorem do_lookup (tab : TabOk P E) (g : Gam E B S0 w0 gv σ st a w) {o : Oper} {fresh t : Nat} {x i : Operand} {ok : Bool} (ho : o.op = .lookup t x i ok) {out : Out E.T} (h : core E fresh st.tmps st.heap (.lookup t x i ok) = some out) : Done P E B S0 w0 gv st a o w out := by
  simp only [core] at h
  split at h
  · rename_i kt vt l hx
    split at h
    · rename_i k v hm
      split at h
      · rename_i key z hkv hkey hz
        simp only [Bool.and_eq_true] at hkv
        have e1 := Nat.eq_of_beq_eq_true hkv.1.1
        have e2 := Nat.eq_of_beq_eq_true hkv.1.2
        subst e1 e2
        have hv := g.ev x
        rw [hx] at hv
        generalize hvx : a.eval x = vx at hv
        cases hv with
        | mdat _ _ _ k0 es h8 h9 h10 =>
          have hi := g.ev i
          rw [fromSV_spec tab hkv.2.1 hkey] at hi
          obtain ⟨v', hv, hrun⟩ := look_run tab (ok := ok) (map_spec tab hm) hkv.2.1 hvx h9 h10.rel (valIs_of tab hkv.2.1 hi) (zero_is tab g hkv.2.2 hz)
          split at h
          · cases h
            refine Done.same g (v := .tuple #[v', .bool (mHas (keyEq E k key) l)]) (by simp [execOp, ho, hrun]) (.tup _ _ (.cons (hv _ _ _ _) (.cons (.bool _) .nil)))
          · cases h
            exact Done.same g (v := v') (by simp [execOp, ho, hrun]) (hv _ _ _ _)
      · cases h
    · cases h
  · obtain ⟨id, kt, vt, l, key, z, k, es, m, h⟩ := mapAt_spec tab g h
    obtain ⟨v, hv, hrun⟩ := look_run tab (ok := ok) m.ty m.kk m.val m.heap m.rel m.key m.zero
    cases ok with
    | true =>
      cases h
      refine Done.same g (v := .tuple #[v, .bool (mHas (keyEq E kt key) l)]) (by simp [execOp, ho, hrun]) (.tup _ _ (.cons (hv _ _ _ _) (.cons (.bool _) .nil)))
    | false =>
      cases h
      exact Done.same g (v := v) (by simp [execOp, ho, hrun]) (hv _ _ _ _)

theorem set_rel {l : List (E.T kt × E.T vt)} {es : List MapEntry} (h : MapRel E kt vt l es) {n : Nat} {p q : E.T kt × E.T vt} {en en' : MapEntry} (hp : l[n]? = some p) (he : es[n]? = some en) (hb : en'.born = en.born) (hk : ValIs E kt q.1 en'.key) (hv : ValIs E vt q.2 en'.val) :
    MapRel E kt vt (l.set n q) (es.set n en') := by
  refine ⟨by simp [h.1], fun j r hr => ?_⟩
  rw [List.getElem?_set] at hr
  split at hr
  · rename_i hj; subst hj
    split at hr
    · cases hr
      obtain ⟨en0, h1, h2, _⟩ := h.2 n p hp
      rw [he] at h1; cases h1
      have hlt : n < es.length := (List.getElem?_eq_some_iff.1 he).1
      exact ⟨en', by simp [hlt], hb.trans h2, hk, hv⟩
    · cases hr
  · rename_i hj
    obtain ⟨en0, h1, h2⟩ := h.2 j r hr
    exact ⟨en0, by rw [List.getElem?_set, if_neg hj]; exact h1, h2⟩

theorem push_rel {l : List (E.T kt × E.T vt)} {es : List MapEntry} (h : MapRel E kt vt l es) {q : E.T kt × E.T vt} {en : MapEntry} (hb : en.born = es.length) (hk : ValIs E kt q.1 en.key) (hv : ValIs E vt q.2 en.val) :
    MapRel E kt vt (l ++ [q]) (es ++ [en]) := by
  refine ⟨by simp [h.1], fun j r hr => ?_⟩
  rw [List.getElem?_append] at hr
  split at hr
  · rename_i hj
    obtain ⟨en0, h1, h2⟩ := h.2 j r hr
    exact ⟨en0, by rw [List.getElem?_append_left (by rw [h.1]; exact hj)]; exact h1, h2⟩
  · rename_i hj
    have : j - l.length = 0 := by
      have := (List.getElem?_eq_some_iff.1 hr).1
      simp at this; omega
    rw [this] at hr
    simp at hr; subst hr
    have hj2 : j = es.length := by rw [h.1]; omega
    exact ⟨en, by rw [hj2]; simp, by rw [hb, hj2], hk, hv⟩

theorem modify_list {α : Type} (es : Array α) (n : Nat) (f : α → α) {en : α} (h : es.toList[n]? = some en) : (es.modify n f).toList = es.toList.set n (f en) := by
  have hlt : n < es.size := by simpa using (List.getElem?_eq_some_iff.1 h).1
  apply List.ext_getElem?
  intro j
  rw [Array.getElem?_toList, Array.getElem?_modify, List.getElem?_set]
  split
  · rename_i hj; subst hj
    have : es[n]? = some en := by rw [← Array.getElem?_toList]; exact h
    rw [this]; simp [hlt]
  · rw [Array.getElem?_toList]

theorem keyStays (m : MapHere P E B S0 σ st a w t x i id kt vt l key z k es) (tab : TabOk P E) {en : MapEntry} {p : E.T kt × E.T vt} (hp : ValIs E kt p.1 en.key) (hq : keyEq E kt key p.1 = true) : (Instr.keyThatStays en.key (a.eval i)).run P w = .ok (a.eval i) w := by
  have e1 := keyEq_one hq
  have hv : ValIs E kt key en.key := fun H σ w S => by rw [e1]; exact hp H σ w S
  rw [valIs_unique tab m.kk hv m.key]
  simp [Instr.keyThatStays, valIs_bits tab m.kk m.key]

theorem do_mapUpdate (tab : TabOk P E) (g : Gam E B S0 w0 gv σ st a w) {o : Oper} {fresh t : Nat} {x i y : Operand} (ho : o.op = .mapUpdate t x i y) {out : Out E.T} (h : core E fresh st.tmps st.heap (.mapUpdate t x i y) = some out) : Done P E B S0 w0 gv st a o w out := by
  simp only [core] at h
  obtain ⟨id, kt, vt, l, key, z, k, es, m, h⟩ := mapAt_spec tab g h
  split at h
  · rename_i yv hy
    cases h
    have hyv : ValIs E vt yv (a.eval y) := by
      have := g.ev y
      rw [fromSV_spec tab m.vk hy] at this
      exact valIs_of tab m.vk this
    have hchk := check_run tab m.kk false m.key w
    have hf := m.find tab
    have fin : ∀ es' : Array MapEntry, MapRel E kt vt (mPut (keyEq E kt key) key yv l) es'.toList → (Instr.mapUpdate t (a.eval x) (a.eval i) (a.eval y)).run P w = .ok () { w with heap := w.heap.setIfInBounds k (.map es' es'.size) } →
        Done P E B S0 w0 gv st a o w ⟨true, .tup [], [(id, .live (.map kt vt (mPut (keyEq E kt key) key yv l)))]⟩ := fun es' hr hrun =>
      ⟨undef, _, σ, .inr ⟨by simp [execOp, ho, hrun], rfl⟩, g.writeM id k kt vt l _ es' m.live m.nam m.B m.heap hr, .tup _ _ .nil⟩
    rcases fR_spec (keyEq E kt key) l es.toList 0 m.rel.1 with ⟨h1, en, p, h2, h3, h4, h5⟩ | ⟨h1, h2, h3⟩
    · obtain ⟨en', h6, h7, h8, h9⟩ := m.rel.2 _ p h3
      rw [h2] at h6; cases h6
      have hst := keyStays m tab h8 h4
      have hget : es[mIdx (keyEq E kt key) l]? = some en := by rw [← Array.getElem?_toList]; exact h2
      refine fin (es.modify (mIdx (keyEq E kt key) l) fun e => { e with key := a.eval i, val := a.eval y }) ?_ ?_
      · rw [mPut_eq, if_pos h1, modify_list _ _ _ h2]
        exact set_rel m.rel h3 h2 rfl m.key hyv
      · rw [h5] at hf
        simp only [Instr.mapUpdate, Sem.run_bind, run_underlying m.ty, Result.andThen_ok, m.val, MapKept.run_getObj_map m.heap, hchk, hf, Nat.zero_add, hget, Option.map_some, Option.getD_some, hst, MapKept.run_setObj_map _ m.heap, Array.size_modify]
    · refine fin (es.push { key := a.eval i, val := a.eval y, born := es.size }) ?_ ?_
      · rw [mPut_eq, if_neg (by rw [h1]; simp), Array.toList_push]
        exact push_rel m.rel (by simp) m.key hyv
      · rw [h3] at hf
        simp only [Instr.mapUpdate, Sem.run_bind, run_underlying m.ty, Result.andThen_ok, m.val, MapKept.run_getObj_map m.heap, hchk, hf, MapKept.run_setObj_map _ m.heap, Array.size_push]
  · cases h

theorem do_mapEntry (tab : TabOk P E) (g : Gam E B S0 w0 gv σ st a w) {o : Oper} {fresh t : Nat} {x i : Operand} (ho : o.op = .mapEntry t x i) {out : Out E.T} (h : core E fresh st.tmps st.heap (.mapEntry t x i) = some out) : Done P E B S0 w0 gv st a o w out := by
  simp only [core] at h
  obtain ⟨id, kt, vt, l, key, z, k, es, m, h⟩ := mapAt_spec tab g h
  cases h
  obtain ⟨zv, hz1, hz2⟩ := m.zero
  have hchk := check_run tab m.kk false m.key w
  have hf := m.find tab
  have fin : ∀ (es' : Array MapEntry) v, MapRel E kt vt (mEnt (keyEq E kt key) key z l) es'.toList → ValIs E vt (mGet (keyEq E kt key) z l) v →
      (Instr.mapEntry t (a.eval x) (a.eval i)).run P w = .ok (.tuple #[v, .int .i64 (mIdx (keyEq E kt key) l)]) { w with heap := w.heap.setIfInBounds k (.map es' es'.size) } →
      Done P E B S0 w0 gv st a o w ⟨true, .tup [oneSV E vt (mGet (keyEq E kt key) z l), .int .i64 (mIdx (keyEq E kt key) l)], [(id, .live (.map kt vt (mEnt (keyEq E kt key) key z l)))]⟩ := fun es' v hr hv hrun =>
    ⟨.tuple #[v, .int .i64 (mIdx (keyEq E kt key) l)], _, σ, .inl (by simp [execOp, ho, hrun]), g.writeM id k kt vt l _ es' m.live m.nam m.B m.heap hr, .tup _ _ (.cons (hv _ _ _ _) (.cons (.int _ _) .nil))⟩
  rcases fR_spec (keyEq E kt key) l es.toList 0 m.rel.1 with ⟨h1, en, p, h2, h3, h4, h5⟩ | ⟨h1, h2, h3⟩
  · obtain ⟨en', h6, h7, h8, h9⟩ := m.rel.2 _ p h3
    rw [h2] at h6; cases h6
    have hst := keyStays m tab h8 h4
    have hget : es[mIdx (keyEq E kt key) l]? = some en := by rw [← Array.getElem?_toList]; exact h2
    refine fin (es.modify (mIdx (keyEq E kt key) l) fun e => { e with key := a.eval i }) en.val ?_ (by rw [mGet_at h1 h3]; exact h9) ?_
    · rw [mEnt_eq, if_pos h1, modify_list _ _ _ h2, mGet_at h1 h3]
      exact set_rel m.rel h3 h2 rfl m.key h9
    · rw [h5] at hf
      simp only [Instr.mapEntry, Sem.run_bind, run_underlying m.ty, Result.andThen_ok, m.val, MapKept.run_getObj_map m.heap, hchk, hf, Nat.zero_add, hget, Option.map_some, Option.getD_some, hst, MapKept.run_setObj_map _ m.heap, Array.size_modify, Sem.run_pure, goInt, h7]
  · refine fin (es.push { key := a.eval i, val := zv, born := es.size }) zv ?_ (by rw [mGet_none h1]; exact hz2) ?_
    · rw [mEnt_eq, if_neg (by rw [h1]; simp), Array.toList_push]
      exact push_rel m.rel (by simp) m.key hz2
    · rw [h3] at hf
      have hsz : es.size = mIdx (keyEq E kt key) l := by rw [h2, ← m.rel.1]; simp
      simp only [Instr.mapEntry, Sem.run_bind, run_underlying m.ty, Result.andThen_ok, m.val, MapKept.run_getObj_map m.heap, hchk, hf, hz1, MapKept.run_setObj_map _ m.heap, Array.size_push, Sem.run_pure, goInt, ← hsz]

theorem do_entryStore (tab : TabOk P E) (g : Gam E B S0 w0 gv σ st a w) {o : Oper} {fresh t : Nat} {x s y : Operand} (ho : o.op = .entryStore t x s y) {out : Out E.T} (h : core E fresh st.tmps st.heap (.entryStore t x s y) = some out) (hc : out.cond = true) : Done P E B S0 w0 gv st a o w out := by
  simp only [core] at h
  split at h
  · rename_i k v id kk n hm hx hs
    split at h
    · rename_i kt vt l hl
      split at h
      · rename_i yv hkv hy
        simp only [Bool.and_eq_true] at hkv
        have e1 := Nat.eq_of_beq_eq_true hkv.1
        have e2 := Nat.eq_of_beq_eq_true hkv.2
        subst e1 e2
        cases h
        obtain ⟨hk1, hk2, kb, es, hsg, hB, hh, hr⟩ := g.blk id _ hl
        have hv := g.ev x
        rw [hx] at hv
        have hsv := g.ev s
        rw [hs] at hsv
        have hsv := int_inv hsv
        have hyv : ValIs E v yv (a.eval y) := by
          have := g.ev y
          rw [fromSV_spec tab hk2 hy] at this
          exact valIs_of tab hk2 this
        generalize hvx : a.eval x = vx at hv
        cases hv with
        | map _ k' h8 h9 =>
          rw [hsg] at h9; cases h9
          unfold inb at hc
          simp only at hc
          split at hc
          · rename_i hn0
            have hn0 : 0 ≤ n := by simpa using hn0
            have hn1 : n < (l.length : Int) := by simpa using hc
            obtain ⟨m, rfl⟩ := Int.eq_ofNat_of_zero_le hn0
            have hml : m < l.length := by omega
            obtain ⟨en, h1, h2, h3, h4⟩ := hr.2 m l[m] (by simp [hml])
            have hmes : m < es.size := by have := hr.1; simp at this; omega
            have hfind : es.findIdx? (fun e => (e.born : Int) == (m : Int)) = some m := by
              rw [Array.findIdx?_eq_some_iff_getElem]
              have hborn : ∀ j, (hj : j < es.size) → es[j].born = j := fun j hj => by
                obtain ⟨en', g1, g2, _⟩ := hr.2 j (l[j]'(by have := hr.1; simp at this; omega)) (by simp)
                have : es[j]? = some en' := by rw [← Array.getElem?_toList]; exact g1
                rw [Array.getElem?_eq_getElem hj] at this
                cases this; exact g2
              exact ⟨hmes, by simp [hborn m hmes], fun j hj => by simp [hborn j (by omega)]; omega⟩
            refine ⟨undef, _, σ, .inr ⟨?_, rfl⟩, g.writeM id kb k v l (mSet l m yv) (es.modify m fun e => { e with val := a.eval y }) hl hsg hB hh ?_, .tup _ _ .nil⟩
            · simp only [execOp, ho, Instr.entryStore, hvx, hsv, asInt, asIntOf, Sem.run_bind, MapKept.run_getObj_map hh, Result.andThen_ok, Sem.run_pure, hfind, MapKept.run_setObj_map _ hh, Array.size_modify]
            · rw [mSet_eq (p := l[m]) (by simp [hml]), modify_list _ _ _ h1]
              exact set_rel hr (p := l[m]) (by simp [hml]) h1 rfl h3 hyv
          · cases hc
      · cases h
    · cases h
  · cases h
end
end
end Go.Vg
