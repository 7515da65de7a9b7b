/-
  What the walked functions of chapter 22 come to (2): validity. Own work; no condition.
-/
import Derived.Test.YtgekegoflaichaaSa
namespace Go.Vg.Ytgekegoflaichaa
open Go.Vg Go.Proofs

def sumLen (ls : List (List Queued)) : Nat := (ls.map List.length).sum
theorem sumLen_cons (x : List Queued) (r : List (List Queued)) : sumLen (x :: r) = x.length + sumLen r := by simp [sumLen]
theorem sumLen_mem {l : List Queued} {ls : List (List Queued)} (h : l ∈ ls) : l.length ≤ sumLen ls := by
  induction ls with
  | nil => cases h
  | cons x r ih =>
    rw [sumLen_cons]
    rcases List.mem_cons.1 h with rfl | h
    · omega
    · have := ih h; omega
theorem sumLen_getD (ls : List (List Queued)) (i : Nat) : (ls.getD i []).length ≤ sumLen ls := by
  by_cases hi : i < ls.length
  · rw [List.getD_eq_getElem?_getD, List.getElem?_eq_getElem hi]
    exact sumLen_mem (List.getElem_mem hi)
  · rw [List.getD_eq_getElem?_getD, List.getElem?_eq_none (by omega)]; simp

/-- Few lists with few packets. -/
structure Small (ls : List (List Queued)) : Prop where
  len : ls.length ≤ 1000
  sum : sumLen ls ≤ 1000000

/-- The deficits that lie in the numbers. -/
def defS (v : List Int) : List Int :=
  [IntKind.i64.wrap ((v.getD 2 0).tdiv 32768), (v.getD 2 0).tmod 32768, IntKind.i64.wrap ((v.getD 3 0).tdiv 32768), (v.getD 3 0).tmod 32768,
   IntKind.i64.wrap ((v.getD 4 0).tdiv 32768), (v.getD 4 0).tmod 32768, IntKind.i64.wrap ((v.getD 5 0).tdiv 32768), (v.getD 5 0).tmod 32768]

theorem V50_spec {q : Queue} {K : List Int → Prop} (h : K (defS q.vars)) : V50 q K := by rw [V50_eq]; exact ⟨5, h⟩

theorem l47_spec {j : Int} {ls : List (List Queued)} (h1 : ls.length ≤ 1000) {k0 : Int → Int → Prop} : ∀ (d : List (List Queued)) (i : Nat) (acc : Int), ls.drop i = d → 0 ≤ acc → acc + sumLen d ≤ 1000000 → k0 j (acc + sumLen d) →
    ∃ k, l_47_3 k j acc ls ls.length i k0 := by
  intro d
  induction d with
  | nil =>
    intro i acc hd h0 h2 hk
    have : ls.length ≤ i := by simpa using hd
    refine ⟨1, br_false (by simp; omega) ?_⟩
    simpa [sumLen] using hk
  | cons x r ih =>
    intro i acc hd h0 h2 hk
    have hlt := lt_drop hd
    have hg : ls.getD (i : Int).toNat (env.d 43) = x := getD_drop (by simpa using hd)
    rw [sumLen_cons] at h2 hk
    have hw : IntKind.i64.wrap ((i : Int) + 1) = ((i + 1 : Nat) : Int) := by rw [wrapi (by omega) (by omega)]; rfl
    have hw2 : IntKind.i64.wrap (acc + (x.length : Int)) = acc + x.length := wrapi (by omega) (by omega)
    obtain ⟨k, hk⟩ := ih (i + 1) (acc + x.length) (drop_next hd) (by omega) (by omega) (by rw [show acc + (x.length : Int) + (sumLen r : Int) = acc + ((x.length + sumLen r : Nat) : Int) by omega]; exact hk)
    refine ⟨k + 1, br_true (by simpa using hlt) (br_true (inb_of (by omega) (by omega)) ?_)⟩
    rw [hg, hw, hw2]
    exact hk

theorem V47_spec {q : Queue} {K : Int → Prop} (hs : Small q.lists) (h : K (sumLen q.lists)) : V47 q K := by
  rw [V47_eq]; unfold B47
  exact l47_spec hs.len q.lists 0 0 rfl (by omega) (by have := hs.sum; omega) (by simpa using h)

def headOk (b : Bool) (d : Int) : List Queued → Bool
  | [] => true
  | x :: _ => b || decide (d < x.p.size)
/-- One flow's part of validity. -/
def flowOk (turn got v7 : Int) (i : Nat) (d : Int) (l : List Queued) : Bool :=
  inS d 0 19999 && (decide (l.length ≠ 0) || d == 0) && okList i v7 0 l && headOk (got == 1 && turn == i) d l

def flowsOk (turn got v7 : Int) (ds : List Int) (ls : List (List Queued)) : Nat → Nat → Bool
  | _, 0 => true
  | i, n + 1 => flowOk turn got v7 i (ds.getD i 0) (ls.getD i []) && flowsOk turn got v7 ds ls (i + 1) n

def validS (q : Queue) : Bool :=
  q.policy.kind == 5 && inS q.policy.a 100 10000 && q.policy.b == 0 && q.policy.c == 0 && inS q.room 1 500 && decide (q.lists.length = 8) && q.seed == 0 && q.vars.getD 6 0 == 0 &&
  inS (q.vars.getD 0 0) 0 7 && inS (q.vars.getD 1 0) 0 1 && (!(q.vars.getD 1 0 == 1) || decide ((q.lists.getD (q.vars.getD 0 0).toNat []).length ≠ 0)) && inS (q.vars.getD 7 0) 0 10000000 &&
  decide (0 ≤ q.vars.getD 2 0) && decide (0 ≤ q.vars.getD 3 0) && decide (0 ≤ q.vars.getD 4 0) && decide (0 ≤ q.vars.getD 5 0) &&
  flowsOk (q.vars.getD 0 0) (q.vars.getD 1 0) (q.vars.getD 7 0) (defS q.vars) q.lists 0 8 && decide ((sumLen q.lists : Int) ≤ q.room)

theorem inS_iff {n a b : Int} : inS n a b = true ↔ a ≤ n ∧ n ≤ b := by simp [inS]

theorem l2113_spec {x1 : Bool} {a1 a2 a3 a4 a5 : Int} {sd : Int} {ds v : List Int} {ls : List (List Queued)} (hs : Small ls) (hl : ls.length = 8) (_hds : ds.length = 8) {kr : Bool → Prop} {k2 : Bool → Int → Int → Int → Int → Int → List (List Queued) → List Int → Int → Prop} :
    ∀ (n i : Nat), i + n = 8 → (flowsOk (v.getD 0 0) (v.getD 1 0) (v.getD 7 0) ds ls i n = true → k2 x1 a1 a2 a3 a4 a5 ls v sd) → (flowsOk (v.getD 0 0) (v.getD 1 0) (v.getD 7 0) ds ls i n = false → kr false) →
    ∃ k, l_21_13 k x1 ds i a1 a2 a3 a4 a5 ls v sd v kr k2 := by
  intro n
  induction n with
  | zero =>
    intro i hi h1 h2
    obtain rfl : i = 8 := by omega
    exact ⟨1, h1 rfl⟩
  | succ n ih =>
    intro i hi h1 h2
    have hlt : i < 8 := by omega
    have hw : IntKind.i64.wrap ((i : Int) + 1) = ((i + 1 : Nat) : Int) := by rw [wrapi (by omega) (by omega)]; rfl
    have hti : (i : Int).toNat = i := by omega
    have hlen := sumLen_getD ls i
    have hsum := hs.sum
    obtain ⟨l, hld⟩ : ∃ l, ls.getD i [] = l := ⟨_, rfl⟩
    have hld' : ls.getD i (env.d 43) = l := hld
    obtain ⟨d, hdd⟩ : ∃ d, ds.getD i 0 = d := ⟨_, rfl⟩
    rw [hld] at hlen
    simp only [flowsOk, hld, hdd] at h1 h2
    by_cases hf : flowOk (v.getD 0 0) (v.getD 1 0) (v.getD 7 0) i d l = true
    · obtain ⟨k, hk⟩ := ih (i + 1) (by omega) (fun h => h1 (by rw [hf, h]; rfl)) (fun h => h2 (by rw [h, Bool.and_false]))
      refine ⟨k + 1, br_true (by simp; omega) (br_true (inb_of (by omega) (by show (i : Int) < 8; omega)) ?_)⟩
      have hf' := hf
      simp only [flowOk, Bool.and_eq_true] at hf'
      obtain ⟨⟨⟨f1, f2⟩, f3⟩, f4⟩ := hf'
      rw [hti, hdd, hld']
      refine ⟨true, V55_spec (by rw [f1]), ?_⟩
      refine br_false rfl ?_
      have rest : ∃ k17, (V56 l i (v.getD 7 0) fun y18 => tupV (encR56 y18) = tupV (encR56 k17)) ∧ br (!k17) (kr false) (s_21_17 x1 i d ds i a1 a2 a3 a4 a5 ls v sd v kr fun y18 y19 y20 y21 y22 y23 y24 y25 y26 y27 y28 y29 => l_21_13 k y18 y19 (IntKind.i64.wrap (y20 + 1)) y21 y22 y23 y24 y25 y26 y27 y28 y29 kr k2) := by
        refine ⟨true, V56_spec (by omega) (by rw [f3]), br_false rfl ?_⟩
        have kn : l_21_13 k x1 ds (IntKind.i64.wrap ((i : Int) + 1)) a1 a2 a3 a4 a5 ls v sd v kr k2 := by rw [hw]; exact hk
        have s18 : ∀ b : Bool, ((v.getD 1 0 == 1) && (v.getD 0 0 == (i : Int))) = b → s_21_18 x1 i d b ds i a1 a2 a3 a4 a5 ls v sd v kr fun y18 y19 y20 y21 y22 y23 y24 y25 y26 y27 y28 y29 => l_21_13 k y18 y19 (IntKind.i64.wrap (y20 + 1)) y21 y22 y23 y24 y25 y26 y27 y28 y29 kr k2 := by
          intro b hb
          unfold s_21_18
          refine br_of (fun e => ?_) (fun _ => kn)
          have e : 0 < d := by simpa using e
          refine br_of (fun eb => ?_) (fun _ => kn)
          have eb : b = false := by simpa using eb
          refine br_true (inb_of (by omega) (by omega)) ?_
          rw [hti, hld']
          cases l with
          | nil => simp at f2; omega
          | cons x r =>
            refine br_true (inb_of (by omega) (by simp)) (br_false ?_ kn)
            rw [hb, eb] at f4
            simp only [headOk, Bool.false_or, decide_eq_true_eq] at f4
            show decide (d ≥ x.p.size) = false
            simp; omega
        unfold s_21_17
        refine br_of (fun e => s18 _ (by rw [e]; simp)) (fun e => s18 _ (by rw [e]; simp))
      refine br_of (fun e => ?_) (fun _ => ?_)
      · have e : 0 < d := by simpa using e
        refine br_true (inb_of (by omega) (by omega)) (br_false ?_ (br_true (inb_of (by omega) (by omega)) rest))
        have : l.length ≠ 0 := fun h0 => by
          have : l = [] := List.length_eq_zero_iff.1 h0
          rw [this] at f2; simp at f2; omega
        simp; exact fun h => this (by rw [h]; rfl)
      · exact br_true (inb_of (by omega) (by omega)) rest
    · have hf0 : flowOk (v.getD 0 0) (v.getD 1 0) (v.getD 7 0) i d l = false := by simpa using hf
      have hkr : kr false := h2 (by rw [hf0, Bool.false_and])
      refine ⟨1, br_true (by simp; omega) (br_true (inb_of (by omega) (by show (i : Int) < 8; omega)) ?_)⟩
      rw [hti, hdd, hld']
      refine ⟨inS d 0 19999, V55_spec rfl, ?_⟩
      refine br_of (fun _ => hkr) (fun e1 => ?_)
      have f1 : inS d 0 19999 = true := by simpa using e1
      have g1 := inS_iff.1 f1
      have rest : (decide (l.length ≠ 0) || d == 0) = true → ∃ k17, (V56 l i (v.getD 7 0) fun y18 => tupV (encR56 y18) = tupV (encR56 k17)) ∧ br (!k17) (kr false) (s_21_17 x1 i d ds i a1 a2 a3 a4 a5 ls v sd v kr fun y18 y19 y20 y21 y22 y23 y24 y25 y26 y27 y28 y29 => l_21_13 0 y18 y19 (IntKind.i64.wrap (y20 + 1)) y21 y22 y23 y24 y25 y26 y27 y28 y29 kr k2) := by
        intro f2
        refine ⟨okList i (v.getD 7 0) 0 l, V56_spec (by omega) rfl, br_of (fun _ => hkr) (fun e3 => ?_)⟩
        have f3 : okList i (v.getD 7 0) 0 l = true := by simpa using e3
        have f4 : headOk (v.getD 1 0 == 1 && v.getD 0 0 == (i : Int)) d l = false := by
          unfold flowOk at hf0
          rw [f1, f2, f3] at hf0
          simpa using hf0
        cases l with
        | nil => cases f4
        | cons x r =>
          simp only [headOk, Bool.or_eq_false_iff, decide_eq_false_iff_not] at f4
          obtain ⟨f4, f5⟩ := f4
          have hx : isPacketS x.p = true := by
            simp only [okList, Bool.and_eq_true] at f3; exact f3.1.1.1
          have hsz : 1 ≤ x.p.size := by
            simp only [isPacketS, Bool.and_eq_true] at hx
            exact (inS_iff.1 hx.1.2).1
          have s18 : s_21_18 x1 i d false ds i a1 a2 a3 a4 a5 ls v sd v kr fun y18 y19 y20 y21 y22 y23 y24 y25 y26 y27 y28 y29 => l_21_13 0 y18 y19 (IntKind.i64.wrap (y20 + 1)) y21 y22 y23 y24 y25 y26 y27 y28 y29 kr k2 := by
            unfold s_21_18
            refine br_true (by simp; omega) (br_true rfl (br_true (inb_of (by omega) (by omega)) ?_))
            rw [hti, hld']
            exact br_true (inb_of (by omega) (by simp)) (br_true (by show decide (d ≥ x.p.size) = true; simp; omega) hkr)
          unfold s_21_17
          refine br_of (fun e => ?_) (fun e => s18)
          have : (v.getD 0 0 == (i : Int)) = false := by
            rw [e] at f4; simpa using f4
          rw [this]; exact s18
      refine br_of (fun e => ?_) (fun e => ?_)
      · have e : 0 < d := by simpa using e
        refine br_true (inb_of (by omega) (by omega)) (br_of (fun _ => hkr) (fun e2 => br_true (inb_of (by omega) (by omega)) (rest ?_)))
        have : l.length ≠ 0 := fun h0 => by
          rw [h0] at e2; simp at e2
        simp [this]
      · have e : ¬ 0 < d := by simpa using e
        refine br_true (inb_of (by omega) (by omega)) (rest ?_)
        have : d = 0 := by omega
        simp [this]

end Go.Vg.Ytgekegoflaichaa
