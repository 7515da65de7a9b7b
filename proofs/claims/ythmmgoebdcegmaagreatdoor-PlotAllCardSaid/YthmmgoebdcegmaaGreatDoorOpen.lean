/-
  The arguments of this seat's laws, read as data. Written by a program of this work (genopen.py); no condition.
-/
import Derived.Test.YthmmgoebdcegmaaGreatDoorVgOpen
import Derived.Test.YthmmgoebdcegmaaGreatDoorEnv
set_option maxRecDepth 100000
namespace Go.Vg.YthmmgoebdcegmaaGreatDoor
open Go.Vg Go.Proofs
def fitI (k : IntKind) (n : Int) : Prop := (Lit.int k n).wf = true
def fitA (k : IntKind) (n : Nat) (l : List Int) : Prop := l.length = n ∧ ∀ x ∈ l, fitI k x
theorem rd3 {H : Type} {henc : TypeId × Value → H} {W : World} {cs : List Value} (h : Rd henc Tryz.prog W 3 cs) : ∃ y : Int, RC env W [.int .i64 y] cs ∧ fitI .i64 y := rd_int tab (by kernel_rfl) h
theorem rd22 {H : Type} {henc : TypeId × Value → H} {W : World} {cs : List Value} (h : Rd henc Tryz.prog W 22 cs) : ∃ y : List Int, RC env W [.arr .i64 6 y] cs ∧ fitA .i64 6 y :=
  rd_array tab (e := 3) (by kernel_rfl) (by kernel_rfl) (by kernel_rfl) (by kernel_rfl) (by kernel_rfl) (by kernel_rfl) h
structure fitChange (x : Change) : Prop where
  kind : fitI .i64 x.kind
  a : fitI .i64 x.a
  b : fitI .i64 x.b
theorem rd60 {H : Type} {henc : TypeId × Value → H} {W : World} {cs : List Value} (h : Rd henc Tryz.prog W 60 cs) : ∃ y : Change, RC env W (encChange y) cs ∧ fitChange y := by
  obtain ⟨hl, h⟩ := rd_struct tab (t := 60) (fs := [(0, 1, 3), (1, 1, 3), (2, 1, 3)]) (by kernel_rfl) (by kernel_rfl) h
  obtain ⟨y0, r0, g0⟩ := rd3 (h (0, 1, 3) (by simp))
  obtain ⟨y1, r1, g1⟩ := rd3 (h (1, 1, 3) (by simp))
  obtain ⟨y2, r2, g2⟩ := rd3 (h (2, 1, 3) (by simp))
  exact ⟨⟨y0, y1, y2⟩, (rc_seg (a := 0) (b := 1) r0 rfl (rc_seg (a := 1) (b := 2) r1 rfl (rc_seg (a := 2) (b := 3) r2 rfl (rc_end (hl.trans (by kernel_rfl : (env.ti 60).size = 3)))))), ⟨g0, g1, g2⟩⟩
theorem rd23 {H : Type} {henc : TypeId × Value → H} {W : World} {cs : List Value} (h : Rd henc Tryz.prog W 23 cs) : ∃ y : List Change, RC env W [.dat 60 y] cs ∧ ((∀ z0 ∈ y, fitChange z0) ∧ List.length y ≤ 9223372036854775807) :=
  rd_slice tab (e := 60) (by kernel_rfl) (by kernel_rfl) (by kernel_rfl) (by kernel_rfl) (of_decide_eq_true (by kernel_rfl)) (G := fun y : Change => fitChange y) (fun cs h => rd60 h) h
structure fitBudget (x : Budget) : Prop where
  periods : fitI .i64 x.periods
  length : fitI .i64 x.length
  left : fitA .i64 6 x.left
  choices : ((∀ z0 ∈ x.choices, fitChange z0) ∧ List.length x.choices ≤ 9223372036854775807)
theorem rd25 {H : Type} {henc : TypeId × Value → H} {W : World} {cs : List Value} (h : Rd henc Tryz.prog W 25 cs) : ∃ y : Budget, RC env W (encBudget y) cs ∧ fitBudget y := by
  obtain ⟨hl, h⟩ := rd_struct tab (t := 25) (fs := [(0, 1, 3), (1, 1, 3), (2, 6, 22), (8, 1, 23)]) (by kernel_rfl) (by kernel_rfl) h
  obtain ⟨y0, r0, g0⟩ := rd3 (h (0, 1, 3) (by simp))
  obtain ⟨y1, r1, g1⟩ := rd3 (h (1, 1, 3) (by simp))
  obtain ⟨y2, r2, g2⟩ := rd22 (h (2, 6, 22) (by simp))
  obtain ⟨y3, r3, g3⟩ := rd23 (h (8, 1, 23) (by simp))
  exact ⟨⟨y0, y1, y2, y3⟩, (rc_seg (a := 0) (b := 1) r0 rfl (rc_seg (a := 1) (b := 2) r1 rfl (rc_seg (a := 2) (b := 8) r2 rfl (rc_seg (a := 8) (b := 9) r3 rfl (rc_end (hl.trans (by kernel_rfl : (env.ti 25).size = 9))))))), ⟨g0, g1, g2, g3⟩⟩
theorem arg25 {H : Type} {henc : TypeId × Value → H} {W : World} {v : Value} (hv : Value.okWide Tryz.prog W .any 0 25 v) (h : Rd henc Tryz.prog W 25 v.cells.toList) : ∃ y : Budget, RS env W (v25 y) v ∧ fitBudget y := let ⟨y, h1, h2⟩ := rd25 h; ⟨y, arg_struct tab (fs := [(0, 1, 3), (1, 1, 3), (2, 6, 22), (8, 1, 23)]) (by kernel_rfl) hv h1, h2⟩
theorem rd26 {H : Type} {henc : TypeId × Value → H} {W : World} {cs : List Value} (h : Rd henc Tryz.prog W 26 cs) : ∃ y : List Int, RC env W [.dat 3 y] cs ∧ ((∀ z0 ∈ y, fitI .i64 z0) ∧ List.length y ≤ 9223372036854775807) :=
  rd_slice tab (e := 3) (by kernel_rfl) (by kernel_rfl) (by kernel_rfl) (by kernel_rfl) (of_decide_eq_true (by kernel_rfl)) (G := fun y : Int => fitI .i64 y) (fun cs h => rd3 h) h
theorem arg26 {H : Type} {henc : TypeId × Value → H} {W : World} {v : Value} (hv : Value.okWide Tryz.prog W .any 0 26 v) (h : Rd henc Tryz.prog W 26 v.cells.toList) : ∃ y : (List Int), RS env W (v26 y) v ∧ ((∀ z0 ∈ y, fitI .i64 z0) ∧ List.length y ≤ 9223372036854775807) := let ⟨y, h1, h2⟩ := rd26 h; ⟨y, arg_slice tab (e := 3) (by kernel_rfl) hv h1, h2⟩
theorem rd35 {H : Type} {henc : TypeId × Value → H} {W : World} {cs : List Value} (h : Rd henc Tryz.prog W 35 cs) : ∃ y : List Int, RC env W [.arr .u8 6 y] cs ∧ fitA .u8 6 y :=
  rd_array tab (e := 5) (by kernel_rfl) (by kernel_rfl) (by kernel_rfl) (by kernel_rfl) (by kernel_rfl) (by kernel_rfl) h
theorem arg35 {H : Type} {henc : TypeId × Value → H} {W : World} {v : Value} (hv : Value.okWide Tryz.prog W .any 0 35 v) (h : Rd henc Tryz.prog W 35 v.cells.toList) : ∃ y : (List Int), RS env W (v35 y) v ∧ fitA .u8 6 y := let ⟨y, h1, h2⟩ := rd35 h; ⟨y, arg_array tab (n := 6) (e := 5) (by kernel_rfl) hv h1, h2⟩
theorem rd5 {H : Type} {henc : TypeId × Value → H} {W : World} {cs : List Value} (h : Rd henc Tryz.prog W 5 cs) : ∃ y : Int, RC env W [.int .u8 y] cs ∧ fitI .u8 y := rd_int tab (by kernel_rfl) h
theorem arg5 {H : Type} {henc : TypeId × Value → H} {W : World} {v : Value} (hv : Value.okWide Tryz.prog W .any 0 5 v) (h : Rd henc Tryz.prog W 5 v.cells.toList) : ∃ y : Int, RS env W (v5 y) v ∧ fitI .u8 y := arg_int tab (by kernel_rfl) hv h
end Go.Vg.YthmmgoebdcegmaaGreatDoor
