/-
  What the walked functions of chapter 22 come to (5): deficit.Take. Own work; no condition.
-/
import Derived.Test.YtgekegoflaichaaDa
import Derived.Test.YtgekegoflaichaaSd
set_option maxRecDepth 10000
namespace Go.Vg.Ytgekegoflaichaa
open Go.Vg Go.Proofs

def packV (t g : Int) (d : List Int) (v6 v7 : Int) : List Int :=
  [t, g, 32768 * d.getD 0 0 + d.getD 1 0, 32768 * d.getD 2 0 + d.getD 3 0, 32768 * d.getD 4 0 + d.getD 5 0, 32768 * d.getD 6 0 + d.getD 7 0, v6, v7]

def takeEnd (q : Queue) (now : Int) : Option (Int × Int × List Int) → Queue × Packet × Bool × List Packet × Int
  | none => (zeroQ, zeroP, false, [], 0)
  | some (t, g, d) => match q.lists.getD t.toNat [] with
    | [] => (zeroQ, zeroP, false, [], 0)
    | x :: [] => ({ q with lists := q.lists.set t.toNat [], vars := packV ((t + 1) % 8) 0 ((d.set t.toNat (d.getD t.toNat 0 - x.p.size)).set t.toNat 0) (q.vars.getD 6 0) now }, x.p, true, [], 0)
    | x :: y :: r => ({ q with lists := q.lists.set t.toNat (y :: r), vars := packV t g (d.set t.toNat (d.getD t.toNat 0 - x.p.size)) (q.vars.getD 6 0) now }, x.p, true, [], 0)

def takeS (q : Queue) (now : Int) : Queue × Packet × Bool × List Packet × Int :=
  if openS q now ≠ 0 then (zeroQ, zeroP, false, [], openS q now) else
  if sumLen q.lists = 0 then (atS q now, zeroP, false, [], 0) else
  takeEnd q now (roundsS q.policy.a q.lists fuelS (q.vars.getD 0 0) (q.vars.getD 1 0) (defS q.vars))

theorem l19_spec {a : Int} {ls : List (List Queued)} (_hsm : Small ls) {x1 : Bool} {x2 x5 x7 x8 x9 : Int} {x10 : List Int} {x11 x12 x13 x14 x15 x16 : Int} {x17 : List Int} {x18 x19 x20 x21 x22 x23 x24 : Int} {x25 x26 : Bool}
    {k0 : Bool → Int → Int → Int → Int → Int → Int → Int → Int → List Int → Int → Int → Int → Int → Int → Int → List Int → Int → Int → Int → Int → Int → Int → Int → Bool → Bool → List Int → Int → Int → Int → Int → Int → Int → Bool → Bool → List (List Queued) → Prop}
    {t' g' : Int} {d' : List Int} (hk : ∀ x r, ls.getD t'.toNat [] = x :: r → k0 x1 x2 t' g' x5 a x7 x8 x9 x10 x11 x12 x13 x14 x15 x16 x17 x18 x19 x20 x21 x22 x23 x24 x25 x26 d' x.p.flow x.p.sub x.p.number x.p.data x.p.size x.p.sent x.p.able x.p.marked ls) :
    ∀ (n : Nat) (t g : Int) (d : List Int) (y1 y2 y3 y4 y5 y6 : Int) (y7 y8 : Bool), Way a ls t g d → roundsS a ls n t g d = some (t', g', d') →
      ∃ k, l_19_8 k x1 x2 t g x5 a x7 x8 x9 x10 x11 x12 x13 x14 x15 x16 x17 x18 x19 x20 x21 x22 x23 x24 x25 x26 d y1 y2 y3 y4 y5 y6 y7 y8 ls k0 := by
  intro n
  induction n with
  | zero => intro t g d y1 y2 y3 y4 y5 y6 y7 y8 _ h; cases h
  | succ n ih =>
    intro t g d y1 y2 y3 y4 y5 y6 y7 y8 w h
    have ht := w.ht
    have hd := w.hd
    have hl := w.hl
    have hwr : (IntKind.i64.wrap (t + 1)).tmod 8 = (t + 1) % 8 := by
      rw [wrapi (by omega) (by omega), Int.tmod_eq_emod_of_nonneg (by omega)]
    have hin : inb t (ls.length : Int) = true := inb_of (by omega) (by omega)
    rw [roundsS] at h
    cases hx : ls.getD t.toNat [] with
    | nil =>
      rw [hx] at h
      obtain ⟨k, hk⟩ := ih ((t + 1) % 8) 0 d y1 y2 y3 y4 y5 y6 y7 y8 (w.pass (fun x r h => by rw [hx] at h; cases h)) h
      refine ⟨k + 1, br_true hin (br_true ?_ ?_)⟩
      · rw [show ls.getD t.toNat (env.d 43) = [] from hx]; rfl
      · rw [hwr]; exact hk
    | cons x r =>
      rw [hx] at h
      simp only at h
      have hx' : ls.getD t.toNat (env.d 43) = x :: r := hx
      have hn0 : ((List.length (ls.getD t.toNat (env.d 43)) : Int) == 0) = false := by
        rw [hx']; simp only [List.length_cons, beq_eq_false_iff_ne]; omega
      have h8 : inb t 8 = true := inb_of (by omega) (by omega)
      -- at the packet
      have at13 : ∀ (k : Nat) (g1 : Int) (d1 : List Int), Way a ls t 1 d1 → (x.p.size ≤ d1.getD t.toNat 0 → t' = t ∧ g' = g1 ∧ d' = d1) → (¬ x.p.size ≤ d1.getD t.toNat 0 → l_19_8 k x1 x2 ((t + 1) % 8) 0 x5 a x7 x8 x9 x10 x11 x12 x13 x14 x15 x16 x17 x18 x19 x20 x21 x22 x23 x24 x25 x26 d1 x.p.flow x.p.sub x.p.number x.p.data x.p.size x.p.sent x.p.able x.p.marked ls k0) →
          s_19_13 x1 x2 t g1 (ls.getD t.toNat (env.d 43)) x5 a x7 x8 x9 x10 x11 x12 x13 x14 x15 x16 x17 x18 x19 x20 x21 x22 x23 x24 x25 x26 d1 y1 y2 y3 y4 y5 y6 y7 y8 ls k0 fun y39 y40 y41 y42 y43 y44 y45 y46 y47 y48 y49 y50 y51 y52 y53 y54 y55 y56 y57 y58 y59 y60 y61 y62 y63 y64 y65 y66 y67 y68 y69 y70 y71 y72 y73 y74 ↦ l_19_8 k y39 y40 ((IntKind.i64.wrap (y41 + 1)).tmod 8) 0 y43 y44 y45 y46 y47 y48 y49 y50 y51 y52 y53 y54 y55 y56 y57 y58 y59 y60 y61 y62 y63 y64 y65 y66 y67 y68 y69 y70 y71 y72 y73 y74 k0 := by
        intro k g1 d1 w1 e1 e2
        unfold s_19_13
        rw [hx']
        refine br_true (inb_of (by omega) (by simp)) (br_true h8 (br_of (fun e => ?_) (fun e => ?_)))
        · obtain ⟨rfl, rfl, rfl⟩ := e1 (of_decide_eq_true e)
          exact hk x r hx
        · have := e2 (of_decide_eq_false e)
          rw [← hwr] at this
          exact this
      rcases w.hg with rfl | rfl
      · simp only [if_true] at h
        have w1 := w.got hx
        have hb := w.h0 t.toNat (by omega)
        have ha := w.ha
        have hwa : IntKind.i64.wrap (d.getD t.toNat 0 + a) = d.getD t.toNat 0 + a := wrapi (by omega) (by omega)
        by_cases hle : x.p.size ≤ (d.set t.toNat (d.getD t.toNat 0 + a)).getD t.toNat 0
        · rw [if_pos hle] at h
          cases h
          refine ⟨1, br_true hin (br_false hn0 (br_true rfl (br_true h8 (br_true h8 ?_))))⟩
          rw [hwa]
          exact at13 0 1 _ w1 (fun _ => ⟨rfl, rfl, rfl⟩) (fun e => absurd hle e)
        · rw [if_neg hle] at h
          obtain ⟨k, hk'⟩ := ih ((t + 1) % 8) 0 _ x.p.flow x.p.sub x.p.number x.p.data x.p.size x.p.sent x.p.able x.p.marked (w1.pass (fun y q h => by rw [hx] at h; cases h; omega)) h
          refine ⟨k + 1, br_true hin (br_false hn0 (br_true rfl (br_true h8 (br_true h8 ?_))))⟩
          rw [hwa]
          exact at13 k 1 _ w1 (fun e => absurd e hle) (fun _ => hk')
      · simp only [show ¬ (1 : Int) = 0 by omega, if_false] at h
        by_cases hle : x.p.size ≤ d.getD t.toNat 0
        · rw [if_pos hle] at h
          cases h
          refine ⟨1, br_true hin (br_false hn0 (br_false rfl ?_))⟩
          exact at13 0 1 _ w (fun _ => ⟨rfl, rfl, rfl⟩) (fun e => absurd hle e)
        · rw [if_neg hle] at h
          obtain ⟨k, hk'⟩ := ih ((t + 1) % 8) 0 _ x.p.flow x.p.sub x.p.number x.p.data x.p.size x.p.sent x.p.able x.p.marked (w.pass (fun y q h => by rw [hx] at h; cases h; omega)) h
          refine ⟨k + 1, br_true hin (br_false hn0 (br_false rfl ?_))⟩
          exact at13 k 1 _ w (fun e => absurd e hle) (fun _ => hk')

theorem flowsOk_get {t g v7 : Int} {ds : List Int} {ls : List (List Queued)} : ∀ (n i : Nat), flowsOk t g v7 ds ls i n = true → ∀ j, i ≤ j → j < i + n → flowOk t g v7 j (ds.getD j 0) (ls.getD j []) = true
  | 0, i, _, j, h1, h2 => by omega
  | n + 1, i, h, j, h1, h2 => by
    simp only [flowsOk, Bool.and_eq_true] at h
    rcases Nat.eq_or_lt_of_le h1 with rfl | h3
    · exact h.1
    · exact flowsOk_get n (i + 1) h.2 j h3 (by omega)

/-- What validity says. -/
structure ValidP (q : Queue) : Prop where
  kind : q.policy.kind = 5
  a : 100 ≤ q.policy.a ∧ q.policy.a ≤ 10000
  b : q.policy.b = 0
  c : q.policy.c = 0
  room : 1 ≤ q.room ∧ q.room ≤ 500
  len : q.lists.length = 8
  seed : q.seed = 0
  v6 : q.vars.getD 6 0 = 0
  v0 : 0 ≤ q.vars.getD 0 0 ∧ q.vars.getD 0 0 ≤ 7
  v1 : 0 ≤ q.vars.getD 1 0 ∧ q.vars.getD 1 0 ≤ 1
  got : q.vars.getD 1 0 = 1 → q.lists.getD (q.vars.getD 0 0).toNat [] ≠ []
  v7 : 0 ≤ q.vars.getD 7 0 ∧ q.vars.getD 7 0 ≤ 10000000
  n2 : 0 ≤ q.vars.getD 2 0
  n3 : 0 ≤ q.vars.getD 3 0
  n4 : 0 ≤ q.vars.getD 4 0
  n5 : 0 ≤ q.vars.getD 5 0
  flows : ∀ i : Nat, i < 8 → flowOk (q.vars.getD 0 0) (q.vars.getD 1 0) (q.vars.getD 7 0) i ((defS q.vars).getD i 0) (q.lists.getD i []) = true
  many : (sumLen q.lists : Int) ≤ q.room

theorem flowsOk_mk {t g v7 : Int} {ds : List Int} {ls : List (List Queued)} : ∀ (n i : Nat), (∀ j, i ≤ j → j < i + n → flowOk t g v7 j (ds.getD j 0) (ls.getD j []) = true) → flowsOk t g v7 ds ls i n = true
  | 0, i, _ => rfl
  | n + 1, i, h => by
    simp only [flowsOk, Bool.and_eq_true]
    exact ⟨h i (by omega) (by omega), flowsOk_mk n (i + 1) (fun j h1 h2 => h j (by omega) (by omega))⟩

theorem validS_iff {q : Queue} : validS q = true ↔ ValidP q := by
  constructor
  · intro h
    simp only [validS, Bool.and_eq_true, decide_eq_true_eq, beq_iff_eq, Bool.or_eq_true, Bool.not_eq_true', beq_eq_false_iff_ne, ne_eq] at h
    obtain ⟨⟨⟨⟨⟨⟨⟨⟨⟨⟨⟨⟨⟨⟨⟨⟨⟨h1, h2⟩, h3⟩, h4⟩, h5⟩, h6⟩, h7⟩, h8⟩, h9⟩, h10⟩, h11⟩, h12⟩, h13⟩, h14⟩, h15⟩, h16⟩, h17⟩, h18⟩ := h
    exact ⟨h1, inS_iff.1 h2, h3, h4, inS_iff.1 h5, h6, h7, h8, inS_iff.1 h9, inS_iff.1 h10, fun e => (h11.resolve_left (fun h => h e)) ∘ (fun h => by rw [h]; rfl), inS_iff.1 h12, h13, h14, h15, h16, fun i hi => flowsOk_get 8 0 h17 i (Nat.zero_le _) (by omega), h18⟩
  · intro h
    simp only [validS, Bool.and_eq_true, decide_eq_true_eq, beq_iff_eq, Bool.or_eq_true, Bool.not_eq_true', beq_eq_false_iff_ne, ne_eq]
    refine ⟨⟨⟨⟨⟨⟨⟨⟨⟨⟨⟨⟨⟨⟨⟨⟨⟨h.kind, inS_iff.2 h.a⟩, h.b⟩, h.c⟩, inS_iff.2 h.room⟩, h.len⟩, h.seed⟩, h.v6⟩, inS_iff.2 h.v0⟩, inS_iff.2 h.v1⟩, ?_⟩, inS_iff.2 h.v7⟩, h.n2⟩, h.n3⟩, h.n4⟩, h.n5⟩, flowsOk_mk 8 0 (fun j _ h2 => h.flows j (by omega))⟩, h.many⟩
    by_cases e : q.vars.getD 1 0 = 1
    · exact .inr (fun h0 => h.got e (List.length_eq_zero_iff.1 h0))
    · exact .inl e

theorem okList_cons {flow last at_ : Int} {x : Queued} {r : List Queued} (h : okList flow last at_ (x :: r) = true) : isPacketS x.p = true ∧ x.p.flow = flow ∧ (at_ ≤ x.at_ ∧ x.at_ ≤ last) ∧ okList flow last x.at_ r = true := by
  simp only [okList, Bool.and_eq_true, beq_iff_eq] at h
  exact ⟨h.1.1.1, h.1.1.2, inS_iff.1 h.1.2, h.2⟩
theorem packet_size {p : Packet} (h : isPacketS p = true) : 1 ≤ p.size ∧ p.size ≤ 10000 := by
  simp only [isPacketS, Bool.and_eq_true] at h
  exact inS_iff.1 h.1.2

theorem ValidP.way {q : Queue} (h : ValidP q) : Way q.policy.a q.lists (q.vars.getD 0 0) (q.vars.getD 1 0) (defS q.vars) where
  ha := h.a
  hl := h.len
  hd := rfl
  ht := by have := h.v0; omega
  hg := by have := h.v1; omega
  h0 := fun i hi => by
    have := h.flows i hi
    simp only [flowOk, Bool.and_eq_true] at this
    exact inS_iff.1 this.1.1.1
  hs := fun i x r hi hx => by
    have := h.flows i hi
    rw [hx] at this
    simp only [flowOk, Bool.and_eq_true] at this
    exact packet_size (okList_cons this.1.2).1
  hh := fun i x r hi hx => by
    have := h.flows i hi
    rw [hx] at this
    simp only [flowOk, Bool.and_eq_true, headOk, Bool.or_eq_true, beq_iff_eq, decide_eq_true_eq] at this
    rcases this.2 with ⟨h1, h2⟩ | h1
    · exact .inl ⟨h1, h2⟩
    · exact .inr h1

theorem sumLen_zero {ls : List (List Queued)} : sumLen ls = 0 ↔ ∀ l ∈ ls, l = [] := by
  induction ls with
  | nil => simp [sumLen]
  | cons x r ih =>
    rw [sumLen_cons]
    simp only [List.mem_cons, forall_eq_or_imp]
    rw [← ih, ← List.length_eq_zero_iff]
    omega

theorem ValidP.ne {q : Queue} (h : ValidP q) (hs : sumLen q.lists ≠ 0) : ∃ i, i < 8 ∧ q.lists.getD i [] ≠ [] := by
  rcases Classical.em (∃ i, i < 8 ∧ q.lists.getD i [] ≠ []) with h1 | h1
  · exact h1
  · refine absurd (sumLen_zero.2 (fun l hl => ?_)) hs
    obtain ⟨i, hi, rfl⟩ := List.getElem_of_mem hl
    rcases Classical.em (q.lists[i] = []) with h2 | h2
    · exact h2
    · exact absurd ⟨i, by rw [← h.len]; exact hi, by rw [List.getD_eq_getElem?_getD, List.getElem?_eq_getElem hi]; exact h2⟩ h1

end Go.Vg.Ytgekegoflaichaa
