/-
  The arguments of this seat's laws, read as data. Written by a program of this work (genopen.py); no condition.
-/
import Derived.Test.YtkaodeodiakldaaVgOpen
import Derived.Test.YtkaodeodiakldaaEnv
set_option maxRecDepth 100000
namespace Go.Vg.Ytkaodeodiakldaa
open Go.Vg Go.Proofs
def fitI (k : IntKind) (n : Int) : Prop := (Lit.int k n).wf = true
def fitA (k : IntKind) (n : Nat) (l : List Int) : Prop := l.length = n ∧ ∀ x ∈ l, fitI k x
theorem rd3 {H : Type} {henc : TypeId × Value → H} {W : World} {cs : List Value} (h : Rd henc Try.prog W 3 cs) : ∃ y : Int, RC env W [.int .i64 y] cs ∧ fitI .i64 y := rd_int tab (by kernel_rfl) h
theorem arg3 {H : Type} {henc : TypeId × Value → H} {W : World} {v : Value} (hv : Value.okWide Try.prog W .any 0 3 v) (h : Rd henc Try.prog W 3 v.cells.toList) : ∃ y : Int, RS env W (v3 y) v ∧ fitI .i64 y := arg_int tab (by kernel_rfl) hv h
structure fitTask (x : Task) : Prop where
  number : fitI .i64 x.number
  worker : fitI .i64 x.worker
  from_ : fitI .i64 x.from_
  to_ : fitI .i64 x.to_
theorem rd39 {H : Type} {henc : TypeId × Value → H} {W : World} {cs : List Value} (h : Rd henc Try.prog W 39 cs) : ∃ y : Task, RC env W (encTask y) cs ∧ fitTask y := by
  obtain ⟨hl, h⟩ := rd_struct tab (t := 39) (fs := [(0, 1, 3), (1, 1, 3), (2, 1, 3), (3, 1, 3)]) (by kernel_rfl) (by kernel_rfl) h
  obtain ⟨y0, r0, g0⟩ := rd3 (h (0, 1, 3) (by simp))
  obtain ⟨y1, r1, g1⟩ := rd3 (h (1, 1, 3) (by simp))
  obtain ⟨y2, r2, g2⟩ := rd3 (h (2, 1, 3) (by simp))
  obtain ⟨y3, r3, g3⟩ := rd3 (h (3, 1, 3) (by simp))
  exact ⟨⟨y0, y1, y2, y3⟩, (rc_seg (a := 0) (b := 1) r0 rfl (rc_seg (a := 1) (b := 2) r1 rfl (rc_seg (a := 2) (b := 3) r2 rfl (rc_seg (a := 3) (b := 4) r3 rfl (rc_end (hl.trans (by kernel_rfl : (env.ti 39).size = 4))))))), ⟨g0, g1, g2, g3⟩⟩
theorem rd22 {H : Type} {henc : TypeId × Value → H} {W : World} {cs : List Value} (h : Rd henc Try.prog W 22 cs) : ∃ y : List Task, RC env W [.dat 39 y] cs ∧ ((∀ z0 ∈ y, fitTask z0) ∧ List.length y ≤ 9223372036854775807) :=
  rd_slice tab (e := 39) (by kernel_rfl) (by kernel_rfl) (by kernel_rfl) (by kernel_rfl) (of_decide_eq_true (by kernel_rfl)) (G := fun y : Task => fitTask y) (fun cs h => rd39 h) h
theorem arg22 {H : Type} {henc : TypeId × Value → H} {W : World} {v : Value} (hv : Value.okWide Try.prog W .any 0 22 v) (h : Rd henc Try.prog W 22 v.cells.toList) : ∃ y : (List Task), RS env W (v22 y) v ∧ ((∀ z0 ∈ y, fitTask z0) ∧ List.length y ≤ 9223372036854775807) := let ⟨y, h1, h2⟩ := rd22 h; ⟨y, arg_slice tab (e := 39) (by kernel_rfl) hv h1, h2⟩
theorem rd29 {H : Type} {henc : TypeId × Value → H} {W : World} {cs : List Value} (h : Rd henc Try.prog W 29 cs) : ∃ y : Int, RC env W [.int .u64 y] cs ∧ fitI .u64 y := rd_int tab (by kernel_rfl) h
theorem rd4 {H : Type} {henc : TypeId × Value → H} {W : World} {cs : List Value} (h : Rd henc Try.prog W 4 cs) : ∃ y : Bool, RC env W [.bool y] cs ∧ True := let ⟨y, h⟩ := rd_bool tab (by kernel_rfl) h; ⟨y, h, trivial⟩
structure fitPacket (x : Packet) : Prop where
  flow : fitI .i64 x.flow
  sub : fitI .i64 x.sub
  number : fitI .i64 x.number
  data : fitI .i64 x.data
  size : fitI .i64 x.size
  sent : fitI .i64 x.sent
theorem rd48 {H : Type} {henc : TypeId × Value → H} {W : World} {cs : List Value} (h : Rd henc Try.prog W 48 cs) : ∃ y : Packet, RC env W (encPacket y) cs ∧ fitPacket y := by
  obtain ⟨hl, h⟩ := rd_struct tab (t := 48) (fs := [(0, 1, 3), (1, 1, 3), (2, 1, 3), (3, 1, 3), (4, 1, 3), (5, 1, 3), (6, 1, 4), (7, 1, 4)]) (by kernel_rfl) (by kernel_rfl) h
  obtain ⟨y0, r0, g0⟩ := rd3 (h (0, 1, 3) (by simp))
  obtain ⟨y1, r1, g1⟩ := rd3 (h (1, 1, 3) (by simp))
  obtain ⟨y2, r2, g2⟩ := rd3 (h (2, 1, 3) (by simp))
  obtain ⟨y3, r3, g3⟩ := rd3 (h (3, 1, 3) (by simp))
  obtain ⟨y4, r4, g4⟩ := rd3 (h (4, 1, 3) (by simp))
  obtain ⟨y5, r5, g5⟩ := rd3 (h (5, 1, 3) (by simp))
  obtain ⟨y6, r6, g6⟩ := rd4 (h (6, 1, 4) (by simp))
  obtain ⟨y7, r7, g7⟩ := rd4 (h (7, 1, 4) (by simp))
  exact ⟨⟨y0, y1, y2, y3, y4, y5, y6, y7⟩, (rc_seg (a := 0) (b := 1) r0 rfl (rc_seg (a := 1) (b := 2) r1 rfl (rc_seg (a := 2) (b := 3) r2 rfl (rc_seg (a := 3) (b := 4) r3 rfl (rc_seg (a := 4) (b := 5) r4 rfl (rc_seg (a := 5) (b := 6) r5 rfl (rc_seg (a := 6) (b := 7) r6 rfl (rc_seg (a := 7) (b := 8) r7 rfl (rc_end (hl.trans (by kernel_rfl : (env.ti 48).size = 8))))))))))), ⟨g0, g1, g2, g3, g4, g5⟩⟩
structure fitRecord (x : Record) : Prop where
  at_ : fitI .i64 x.at_
  kind : fitI .i64 x.kind
  a : fitI .i64 x.a
  p : fitPacket x.p
theorem rd50 {H : Type} {henc : TypeId × Value → H} {W : World} {cs : List Value} (h : Rd henc Try.prog W 50 cs) : ∃ y : Record, RC env W (encRecord y) cs ∧ fitRecord y := by
  obtain ⟨hl, h⟩ := rd_struct tab (t := 50) (fs := [(0, 1, 3), (1, 1, 3), (2, 1, 3), (3, 8, 48)]) (by kernel_rfl) (by kernel_rfl) h
  obtain ⟨y0, r0, g0⟩ := rd3 (h (0, 1, 3) (by simp))
  obtain ⟨y1, r1, g1⟩ := rd3 (h (1, 1, 3) (by simp))
  obtain ⟨y2, r2, g2⟩ := rd3 (h (2, 1, 3) (by simp))
  obtain ⟨y3, r3, g3⟩ := rd48 (h (3, 8, 48) (by simp))
  exact ⟨⟨y0, y1, y2, y3⟩, (rc_seg (a := 0) (b := 1) r0 rfl (rc_seg (a := 1) (b := 2) r1 rfl (rc_seg (a := 2) (b := 3) r2 rfl (rc_seg (a := 3) (b := 11) r3 rfl (rc_end (hl.trans (by kernel_rfl : (env.ti 50).size = 11))))))), ⟨g0, g1, g2, g3⟩⟩
theorem rd30 {H : Type} {henc : TypeId × Value → H} {W : World} {cs : List Value} (h : Rd henc Try.prog W 30 cs) : ∃ y : List Record, RC env W [.dat 50 y] cs ∧ ((∀ z0 ∈ y, fitRecord z0) ∧ List.length y ≤ 9223372036854775807) :=
  rd_slice tab (e := 50) (by kernel_rfl) (by kernel_rfl) (by kernel_rfl) (by kernel_rfl) (of_decide_eq_true (by kernel_rfl)) (G := fun y : Record => fitRecord y) (fun cs h => rd50 h) h
structure fitSegment (x : Segment) : Prop where
  from_ : fitI .i64 x.from_
  to_ : fitI .i64 x.to_
  begin_ : fitI .u64 x.begin_
  end_ : fitI .u64 x.end_
  records : ((∀ z0 ∈ x.records, fitRecord z0) ∧ List.length x.records ≤ 9223372036854775807)
theorem rd32 {H : Type} {henc : TypeId × Value → H} {W : World} {cs : List Value} (h : Rd henc Try.prog W 32 cs) : ∃ y : Segment, RC env W (encSegment y) cs ∧ fitSegment y := by
  obtain ⟨hl, h⟩ := rd_struct tab (t := 32) (fs := [(0, 1, 3), (1, 1, 3), (2, 1, 29), (3, 1, 29), (4, 1, 30)]) (by kernel_rfl) (by kernel_rfl) h
  obtain ⟨y0, r0, g0⟩ := rd3 (h (0, 1, 3) (by simp))
  obtain ⟨y1, r1, g1⟩ := rd3 (h (1, 1, 3) (by simp))
  obtain ⟨y2, r2, g2⟩ := rd29 (h (2, 1, 29) (by simp))
  obtain ⟨y3, r3, g3⟩ := rd29 (h (3, 1, 29) (by simp))
  obtain ⟨y4, r4, g4⟩ := rd30 (h (4, 1, 30) (by simp))
  exact ⟨⟨y0, y1, y2, y3, y4⟩, (rc_seg (a := 0) (b := 1) r0 rfl (rc_seg (a := 1) (b := 2) r1 rfl (rc_seg (a := 2) (b := 3) r2 rfl (rc_seg (a := 3) (b := 4) r3 rfl (rc_seg (a := 4) (b := 5) r4 rfl (rc_end (hl.trans (by kernel_rfl : (env.ti 32).size = 5)))))))), ⟨g0, g1, g2, g3, g4⟩⟩
theorem rd23 {H : Type} {henc : TypeId × Value → H} {W : World} {cs : List Value} (h : Rd henc Try.prog W 23 cs) : ∃ y : List Segment, RC env W [.dat 32 y] cs ∧ ((∀ z0 ∈ y, fitSegment z0) ∧ List.length y ≤ 9223372036854775807) :=
  rd_slice tab (e := 32) (by kernel_rfl) (by kernel_rfl) (by kernel_rfl) (by kernel_rfl) (of_decide_eq_true (by kernel_rfl)) (G := fun y : Segment => fitSegment y) (fun cs h => rd32 h) h
theorem arg23 {H : Type} {henc : TypeId × Value → H} {W : World} {v : Value} (hv : Value.okWide Try.prog W .any 0 23 v) (h : Rd henc Try.prog W 23 v.cells.toList) : ∃ y : (List Segment), RS env W (v23 y) v ∧ ((∀ z0 ∈ y, fitSegment z0) ∧ List.length y ≤ 9223372036854775807) := let ⟨y, h1, h2⟩ := rd23 h; ⟨y, arg_slice tab (e := 32) (by kernel_rfl) hv h1, h2⟩
theorem rd5 {H : Type} {henc : TypeId × Value → H} {W : World} {cs : List Value} (h : Rd henc Try.prog W 5 cs) : ∃ y : Int, RC env W [.int .u8 y] cs ∧ fitI .u8 y := rd_int tab (by kernel_rfl) h
theorem rd42 {H : Type} {henc : TypeId × Value → H} {W : World} {cs : List Value} (h : Rd henc Try.prog W 42 cs) : ∃ y : List Int, RC env W [.dat 5 y] cs ∧ ((∀ z0 ∈ y, fitI .u8 z0) ∧ List.length y ≤ 9223372036854775807) :=
  rd_slice tab (e := 5) (by kernel_rfl) (by kernel_rfl) (by kernel_rfl) (by kernel_rfl) (of_decide_eq_true (by kernel_rfl)) (G := fun y : Int => fitI .u8 y) (fun cs h => rd5 h) h
theorem arg42 {H : Type} {henc : TypeId × Value → H} {W : World} {v : Value} (hv : Value.okWide Try.prog W .any 0 42 v) (h : Rd henc Try.prog W 42 v.cells.toList) : ∃ y : (List Int), RS env W (v42 y) v ∧ ((∀ z0 ∈ y, fitI .u8 z0) ∧ List.length y ≤ 9223372036854775807) := let ⟨y, h1, h2⟩ := rd42 h; ⟨y, arg_slice tab (e := 5) (by kernel_rfl) hv h1, h2⟩
theorem arg5 {H : Type} {henc : TypeId × Value → H} {W : World} {v : Value} (hv : Value.okWide Try.prog W .any 0 5 v) (h : Rd henc Try.prog W 5 v.cells.toList) : ∃ y : Int, RS env W (v5 y) v ∧ fitI .u8 y := arg_int tab (by kernel_rfl) hv h
theorem arg29 {H : Type} {henc : TypeId × Value → H} {W : World} {v : Value} (hv : Value.okWide Try.prog W .any 0 29 v) (h : Rd henc Try.prog W 29 v.cells.toList) : ∃ y : Int, RS env W (v29 y) v ∧ fitI .u64 y := arg_int tab (by kernel_rfl) hv h
end Go.Vg.Ytkaodeodiakldaa
