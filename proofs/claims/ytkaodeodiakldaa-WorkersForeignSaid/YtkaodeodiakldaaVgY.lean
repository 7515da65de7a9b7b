/-
  Templates: a state that fits one entails the one out of its holes' values. Own work; no condition.
-/
import Derived.Test.YtkaodeodiakldaaVgS
namespace Go.Vg
open Go.RowKit
variable {P : Program} {E : Env}
section
variable {T : Nat → Type} {has : Nat → Bool}

theorem entS_self {s : SV T} (h : isHole s = true) (ren : Ren) : ∃ ps, entS has s s ren = some (ren, ps) ∧ ∀ p ∈ ps, p := by
  cases s <;> first | (simp only [isHole] at h; cases h; done) | skip
  case int k n => exact ⟨[n = n], by simp [entS, show kEq k k = true by cases k <;> rfl], by simp⟩
  case bool b => exact ⟨[b = b], by simp [entS], by simp⟩
  case str b => exact ⟨[b = b], by simp [entS], by simp⟩
  case nilp => exact ⟨[], by simp [entS], by simp⟩
  case nils => exact ⟨[], by simp [entS], by simp⟩
  case nilf => exact ⟨[], by simp [entS], by simp⟩
  case dat e l => exact ⟨[l = l], by simp [entS], by simp⟩
  case arr k n l => exact ⟨[l = l], by simp [entS, show kEq k k = true by cases k <;> rfl], by simp⟩
  case mdat k n l => exact ⟨[l = l], by simp [entS], by simp⟩

mutual
theorem absS_spec : ∀ (t : TV) (s : SV T) (ren ren' : Ren) (vs : List (SV T)), absS has t s ren = some (ren', vs) → ∀ rest, ∃ ps, entS has (insS t (vs ++ rest)).1 s ren = some (ren', ps) ∧ (∀ p ∈ ps, p) ∧ (insS t (vs ++ rest)).2 = rest
  | .hole, s, ren, ren', vs, h, rest => by
    simp only [absS] at h
    split at h
    · rename_i hs; cases h
      obtain ⟨ps, h1, h2⟩ := entS_self (has := has) hs ren
      exact ⟨ps, by simpa [insS, popV] using h1, h2, rfl⟩
    · cases h
  | .holeD e, s, ren, ren', vs, h, rest => by
    simp only [absS] at h
    split at h
    · split at h
      · rename_i he; cases h
        exact ⟨[([] : List (T e)) = []], by simp [insS, popV, entS, he], by simp, rfl⟩
      · cases h
    · rename_i e' l
      split at h
      · cases h
        exact ⟨[l = l], by simp [insS, popV, entS], by simp, rfl⟩
      · cases h
    · cases h
  | .any, s, ren, ren', vs, h, rest => by
    simp only [absS] at h
    split at h
    · cases h
    · rename_i hne; cases h
      refine ⟨[], ?_, by simp, rfl⟩
      cases s <;> first | rfl | exact (hne _ _ _ rfl).elim
  | .ptr j o, s, ren, ren', vs, h, rest => by
    simp only [absS] at h
    split at h
    · rename_i i o'
      split at h
      · rename_i ho
        obtain ⟨r, hr, h⟩ := Option.map_eq_some_iff.1 h
        cases h
        exact ⟨[], by simp [insS, entS, ho, hr], by simp, rfl⟩
      · cases h
    · cases h
  | .row j, s, ren, ren', vs, h, rest => by
    simp only [absS] at h
    split at h
    · obtain ⟨r, hr, h⟩ := Option.map_eq_some_iff.1 h
      cases h
      exact ⟨[], by simp [insS, entS, hr], by simp, rfl⟩
    · obtain ⟨r, hr, h⟩ := Option.map_eq_some_iff.1 h
      cases h
      exact ⟨[], by simp [insS, entS, hr], by simp, rfl⟩
    · cases h
  | .map j, s, ren, ren', vs, h, rest => by
    simp only [absS] at h
    split at h
    · obtain ⟨r, hr, h⟩ := Option.map_eq_some_iff.1 h
      cases h
      exact ⟨[], by simp [insS, entS, hr], by simp, rfl⟩
    · cases h
  | .yld j, s, ren, ren', vs, h, rest => by
    simp only [absS] at h
    split at h
    · obtain ⟨r, hr, h⟩ := Option.map_eq_some_iff.1 h
      cases h
      exact ⟨[], by simp [insS, entS, hr], by simp, rfl⟩
    · cases h
  | .aslice j o n, s, ren, ren', vs, h, rest => by
    simp only [absS] at h
    split at h
    · split at h
      · rename_i ho
        obtain ⟨r, hr, h⟩ := Option.map_eq_some_iff.1 h
        cases h
        exact ⟨[], by simp only [insS, entS, ho, hr, Option.map_some], by simp, rfl⟩
      · cases h
    · cases h
  | .tup0, s, ren, ren', vs, h, rest => by
    simp only [absS] at h
    split at h
    · cases h
      exact ⟨[], by simp [insS, entS, entL], by simp, rfl⟩
    · cases h
  | .agg l, s, ren, ren', vs, h, rest => by
    simp only [absS] at h
    split at h
    · obtain ⟨ps, h1, h2, h3⟩ := absL_spec l _ _ _ _ h rest
      exact ⟨ps, by simpa [insS, entS] using h1, h2, h3⟩
    · cases h
  | .tup l, s, ren, ren', vs, h, rest => by
    simp only [absS] at h
    split at h
    · obtain ⟨ps, h1, h2, h3⟩ := absL_spec l _ _ _ _ h rest
      exact ⟨ps, by simpa [insS, entS] using h1, h2, h3⟩
    · cases h
  | .fn f l, s, ren, ren', vs, h, rest => by
    simp only [absS] at h
    split at h
    · split at h
      · rename_i hf
        obtain ⟨ps, h1, h2, h3⟩ := absL_spec l _ _ _ _ h rest
        exact ⟨ps, by simpa [insS, entS, hf] using h1, h2, h3⟩
      · cases h
    · cases h
  | .boxd t l o, s, ren, ren', vs, h, rest => by
    simp only [absS] at h
    split at h
    · split at h
      · rename_i hf
        obtain ⟨ps, h1, h2, h3⟩ := absL_spec l _ _ _ _ h rest
        exact ⟨ps, by simpa only [insS, entS, hf] using h1, h2, h3⟩
      · cases h
    · cases h
theorem absL_spec : ∀ (t : List TV) (s : List (SV T)) (ren ren' : Ren) (vs : List (SV T)), absL has t s ren = some (ren', vs) → ∀ rest, ∃ ps, entL has (insL t (vs ++ rest)).1 s ren = some (ren', ps) ∧ (∀ p ∈ ps, p) ∧ (insL t (vs ++ rest)).2 = rest
  | [], s, ren, ren', vs, h, rest => by
    simp only [absL] at h
    split at h
    · cases h; exact ⟨[], by simp [insL, entL], by simp, rfl⟩
    · cases h
  | b :: t, s, ren, ren', vs, h, rest => by
    simp only [absL] at h
    split at h
    · rename_i a s
      split at h
      · rename_i r v1 h1
        split at h
        · rename_i r' v2 h2
          cases h
          obtain ⟨p1, e1, q1, x1⟩ := absS_spec b _ _ _ _ h1 (v2 ++ rest)
          obtain ⟨p2, e2, q2, x2⟩ := absL_spec t _ _ _ _ h2 rest
          refine ⟨p1 ++ p2, ?_, ?_, ?_⟩
          · simp only [insL, List.append_assoc, entL, x1, e1, andEnt, e2]
          · intro p hp
            rcases List.mem_append.1 hp with hp | hp
            · exact q1 p hp
            · exact q2 p hp
          · simp only [insL, List.append_assoc, x1, x2]
        · cases h
      · cases h
    · cases h
end

theorem absH_spec {H : List (Nat × HS T)} : ∀ (t : List (Nat × TB)) (ren ren' : Ren) (vs : List (SV T)), absH has H t ren = some (ren', vs) → ∃ ps, entH has H (insH t vs) ren = some (ren', ps) ∧ (∀ p ∈ ps, p) := by
  intro t
  induction t with
  | nil => intro ren ren' vs h; simp only [absH] at h; cases h; exact ⟨[], by simp [insH, entH], by simp⟩
  | cons p t ih =>
    obtain ⟨j, b⟩ := p
    intro ren ren' vs h
    simp only [absH] at h
    split at h
    · rename_i i hj
      have hfix : renFix ren j = (ren, some i) := by simp [renFix, hj]
      split at h
      · rename_i b0 hb0
        split at h
        · rename_i t l
          split at h
          · rename_i t0 cs
            split at h
            · rename_i ht
              split at h
              · rename_i r1 v1 h1
                split at h
                · rename_i r2 v2 h2
                  cases h
                  obtain ⟨p1, e1, q1, x1⟩ := absL_spec l _ _ _ _ h1 v2
                  obtain ⟨p2, e2, q2⟩ := ih _ _ _ h2
                  refine ⟨p1 ++ p2, ?_, ?_⟩
                  · simp only [insH, entH, hfix, hb0, ht, e1, x1, andEnt, e2]
                  · intro p hp
                    rcases List.mem_append.1 hp with hp | hp
                    · exact q1 p hp
                    · exact q2 p hp
                · cases h
              · cases h
            · cases h
          · cases h
        · rename_i e
          split at h
          · rename_i e0 l0
            split at h
            · split at h
              · rename_i r2 v2 h2
                cases h
                obtain ⟨p2, e2, q2⟩ := ih _ _ _ h2
                refine ⟨[l0 = l0] ++ p2, ?_, ?_⟩
                · simp only [insH, popV, rowOf, entH, hfix, hb0, andEnt, e2, dite_true]
                · intro p hp
                  rcases List.mem_append.1 hp with hp | hp
                  · simpa using hp
                  · exact q2 p hp
              · cases h
            · cases h
          · cases h
        · rename_i k v
          split at h
          · rename_i k0 v0 l0
            split at h
            · split at h
              · rename_i r2 v2 h2
                cases h
                obtain ⟨p2, e2, q2⟩ := ih _ _ _ h2
                refine ⟨[l0 = l0] ++ p2, ?_, ?_⟩
                · simp only [insH, popV, mapOf, entH, hfix, hb0, andEnt, e2, and_self, dite_true]
                · intro p hp
                  rcases List.mem_append.1 hp with hp | hp
                  · simpa using hp
                  · exact q2 p hp
              · cases h
            · cases h
          · cases h
        · rename_i L
          split at h
          · rename_i L0
            split at h
            · rename_i hL
              split at h
              · rename_i r2 v2 h2
                cases h
                obtain ⟨p2, e2, q2⟩ := ih _ _ _ h2
                exact ⟨p2, by simp only [insH, entH, hfix, hb0, hL, andEnt, e2, List.nil_append], q2⟩
              · cases h
            · cases h
          · cases h
      · cases h
    · rename_i hj
      have hfix : renFix ren j = (ren, none) := by simp [renFix, hj]
      split at h
      · rename_i e
        split at h
        · rename_i he
          split at h
          · rename_i r2 v2 h2
            cases h
            obtain ⟨p2, e2, q2⟩ := ih _ _ _ h2
            refine ⟨[([] : List (T e)) = []] ++ p2, ?_, ?_⟩
            · simp only [insH, popV, rowOf, entH, hfix, he, andEnt, e2]
            · intro p hp
              rcases List.mem_append.1 hp with hp | hp
              · simpa using hp
              · exact q2 p hp
          · cases h
        · cases h
      · cases h
    · cases h

theorem conj_of : ∀ {ps : List Prop}, (∀ p ∈ ps, p) → conj ps
  | [], _ => trivial
  | [p], h => h p (by simp)
  | p :: q :: r, h => ⟨h p (by simp), conj_of (fun x hx => h x (List.mem_cons_of_mem _ hx))⟩

theorem absSt_ent {m : Tm} {st : St T} {vs : List (SV T)} (h : absSt has m st = some vs) : ent has st (insSt m vs) := by
  unfold absSt at h
  split at h
  · rename_i r1 v1 h1
    split at h
    · rename_i r2 v2 h2
      split at h
      · rename_i r3 v3 h3
        split at h
        · rename_i k1 k2 k3
          cases h
          obtain ⟨p1, e1, q1, x1⟩ := absL_spec m.tmps _ _ _ _ h1 (v2 ++ v3)
          obtain ⟨p2, e2, q2, x2⟩ := absL_spec m.saved _ _ _ _ h2 v3
          obtain ⟨p3, e3, q3⟩ := absH_spec m.heap _ _ _ h3
          unfold ent
          have hh : (insSt m (v1 ++ (v2 ++ v3))).heap = insH m.heap v3 := by simp only [insSt, x1, x2]
          have ht : (insSt m (v1 ++ (v2 ++ v3))).tmps = (insL m.tmps (v1 ++ (v2 ++ v3))).1 := rfl
          have hs : (insSt m (v1 ++ (v2 ++ v3))).saved = (insL m.saved (v2 ++ v3)).1 := by simp only [insSt, x1]
          have hn : (insSt m (v1 ++ (v2 ++ v3))).next = m.next := rfl
          have hx : (andEnt (entL has (insSt m (v1 ++ (v2 ++ v3))).tmps st.tmps []) fun r1 => andEnt (entL has (insSt m (v1 ++ (v2 ++ v3))).saved st.saved r1) fun r2 => entH has st.heap (insSt m (v1 ++ (v2 ++ v3))).heap r2) = some (r3, p1 ++ (p2 ++ p3)) := by
            rw [ht, hs, hh, e1]
            simp only [andEnt, e2, e3]
          rw [hx, hn, k1]
          simp only [k2, k3]
          refine conj_of fun p hp => ?_
          rcases List.mem_append.1 hp with hp | hp
          · exact q1 p hp
          · rcases List.mem_append.1 hp with hp | hp
            · exact q2 p hp
            · exact q3 p hp
        · cases h
      · cases h
    · cases h
  · cases h
end

section
variable {B : Nat} {S0 : Nat → Prop} {w0 : World} {gv : Gv} {σ : Nat → Option Nat} {st : St E.T} {a : Act} {w : World}
theorem absSt_sound {m : Tm} {vs : List (SV E.T)} (g : Gam E B S0 w0 gv σ st a w) (h : absSt E.has m st = some vs) : ∃ σ', Gam E B S0 w0 gv σ' (insSt m vs) a w :=
  ent_sound g (absSt_ent h)
end
end Go.Vg
