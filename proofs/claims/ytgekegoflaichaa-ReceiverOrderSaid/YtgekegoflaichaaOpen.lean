/-
  The arguments of this seat's laws, read as data. Written by a program of this work (genopen.py); no condition.
-/
import Derived.Test.YtgekegoflaichaaVgOpen
import Derived.Test.YtgekegoflaichaaEnv
set_option maxRecDepth 100000
namespace Go.Vg.Ytgekegoflaichaa
open Go.Vg Go.Proofs
def fitI (k : IntKind) (n : Int) : Prop := (Lit.int k n).wf = true
def fitA (k : IntKind) (n : Nat) (l : List Int) : Prop := l.length = n ∧ ∀ x ∈ l, fitI k x
theorem rd3 {H : Type} {henc : TypeId × Value → H} {W : World} {cs : List Value} (h : Rd henc Try.prog W 3 cs) : ∃ y : Int, RC env W [.int .i64 y] cs ∧ fitI .i64 y := rd_int tab (by kernel_rfl) h
structure fitPolicy (x : Policy) : Prop where
  kind : fitI .i64 x.kind
  a : fitI .i64 x.a
  b : fitI .i64 x.b
  c : fitI .i64 x.c
theorem rd23 {H : Type} {henc : TypeId × Value → H} {W : World} {cs : List Value} (h : Rd henc Try.prog W 23 cs) : ∃ y : Policy, RC env W (encPolicy y) cs ∧ fitPolicy y := by
  obtain ⟨hl, h⟩ := rd_struct tab (t := 23) (fs := [(0, 1, 3), (1, 1, 3), (2, 1, 3), (3, 1, 3)]) (by kernel_rfl) (by kernel_rfl) h
  obtain ⟨y0, r0, g0⟩ := rd3 (h (0, 1, 3) (by simp))
  obtain ⟨y1, r1, g1⟩ := rd3 (h (1, 1, 3) (by simp))
  obtain ⟨y2, r2, g2⟩ := rd3 (h (2, 1, 3) (by simp))
  obtain ⟨y3, r3, g3⟩ := rd3 (h (3, 1, 3) (by simp))
  exact ⟨⟨y0, y1, y2, y3⟩, (rc_seg (a := 0) (b := 1) r0 rfl (rc_seg (a := 1) (b := 2) r1 rfl (rc_seg (a := 2) (b := 3) r2 rfl (rc_seg (a := 3) (b := 4) r3 rfl (rc_end (hl.trans (by kernel_rfl : (env.ti 23).size = 4))))))), ⟨g0, g1, g2, g3⟩⟩
theorem rd4 {H : Type} {henc : TypeId × Value → H} {W : World} {cs : List Value} (h : Rd henc Try.prog W 4 cs) : ∃ y : Bool, RC env W [.bool y] cs ∧ True := let ⟨y, h⟩ := rd_bool tab (by kernel_rfl) h; ⟨y, h, trivial⟩
structure fitPacket (x : Packet) : Prop where
  flow : fitI .i64 x.flow
  sub : fitI .i64 x.sub
  number : fitI .i64 x.number
  data : fitI .i64 x.data
  size : fitI .i64 x.size
  sent : fitI .i64 x.sent
theorem rd30 {H : Type} {henc : TypeId × Value → H} {W : World} {cs : List Value} (h : Rd henc Try.prog W 30 cs) : ∃ y : Packet, RC env W (encPacket y) cs ∧ fitPacket y := by
  obtain ⟨hl, h⟩ := rd_struct tab (t := 30) (fs := [(0, 1, 3), (1, 1, 3), (2, 1, 3), (3, 1, 3), (4, 1, 3), (5, 1, 3), (6, 1, 4), (7, 1, 4)]) (by kernel_rfl) (by kernel_rfl) h
  obtain ⟨y0, r0, g0⟩ := rd3 (h (0, 1, 3) (by simp))
  obtain ⟨y1, r1, g1⟩ := rd3 (h (1, 1, 3) (by simp))
  obtain ⟨y2, r2, g2⟩ := rd3 (h (2, 1, 3) (by simp))
  obtain ⟨y3, r3, g3⟩ := rd3 (h (3, 1, 3) (by simp))
  obtain ⟨y4, r4, g4⟩ := rd3 (h (4, 1, 3) (by simp))
  obtain ⟨y5, r5, g5⟩ := rd3 (h (5, 1, 3) (by simp))
  obtain ⟨y6, r6, g6⟩ := rd4 (h (6, 1, 4) (by simp))
  obtain ⟨y7, r7, g7⟩ := rd4 (h (7, 1, 4) (by simp))
  exact ⟨⟨y0, y1, y2, y3, y4, y5, y6, y7⟩, (rc_seg (a := 0) (b := 1) r0 rfl (rc_seg (a := 1) (b := 2) r1 rfl (rc_seg (a := 2) (b := 3) r2 rfl (rc_seg (a := 3) (b := 4) r3 rfl (rc_seg (a := 4) (b := 5) r4 rfl (rc_seg (a := 5) (b := 6) r5 rfl (rc_seg (a := 6) (b := 7) r6 rfl (rc_seg (a := 7) (b := 8) r7 rfl (rc_end (hl.trans (by kernel_rfl : (env.ti 30).size = 8))))))))))), ⟨g0, g1, g2, g3, g4, g5⟩⟩
structure fitQueued (x : Queued) : Prop where
  p : fitPacket x.p
  at_ : fitI .i64 x.at_
theorem rd45 {H : Type} {henc : TypeId × Value → H} {W : World} {cs : List Value} (h : Rd henc Try.prog W 45 cs) : ∃ y : Queued, RC env W (encQueued y) cs ∧ fitQueued y := by
  obtain ⟨hl, h⟩ := rd_struct tab (t := 45) (fs := [(0, 8, 30), (8, 1, 3)]) (by kernel_rfl) (by kernel_rfl) h
  obtain ⟨y0, r0, g0⟩ := rd30 (h (0, 8, 30) (by simp))
  obtain ⟨y1, r1, g1⟩ := rd3 (h (8, 1, 3) (by simp))
  exact ⟨⟨y0, y1⟩, (rc_seg (a := 0) (b := 8) r0 rfl (rc_seg (a := 8) (b := 9) r1 rfl (rc_end (hl.trans (by kernel_rfl : (env.ti 45).size = 9))))), ⟨g0, g1⟩⟩
theorem rd43 {H : Type} {henc : TypeId × Value → H} {W : World} {cs : List Value} (h : Rd henc Try.prog W 43 cs) : ∃ y : List Queued, RC env W [.dat 45 y] cs ∧ ((∀ z0 ∈ y, fitQueued z0) ∧ List.length y ≤ 9223372036854775807) :=
  rd_slice tab (e := 45) (by kernel_rfl) (by kernel_rfl) (by kernel_rfl) (by kernel_rfl) (of_decide_eq_true (by kernel_rfl)) (G := fun y : Queued => fitQueued y) (fun cs h => rd45 h) h
theorem rd24 {H : Type} {henc : TypeId × Value → H} {W : World} {cs : List Value} (h : Rd henc Try.prog W 24 cs) : ∃ y : List (List Queued), RC env W [.dat 43 y] cs ∧ ((∀ z0 ∈ y, ((∀ z1 ∈ z0, fitQueued z1) ∧ List.length z0 ≤ 9223372036854775807)) ∧ List.length y ≤ 9223372036854775807) :=
  rd_slice tab (e := 43) (by kernel_rfl) (by kernel_rfl) (by kernel_rfl) (by kernel_rfl) (of_decide_eq_true (by kernel_rfl)) (G := fun y : (List Queued) => ((∀ z0 ∈ y, fitQueued z0) ∧ List.length y ≤ 9223372036854775807)) (fun cs h => rd43 h) h
theorem rd25 {H : Type} {henc : TypeId × Value → H} {W : World} {cs : List Value} (h : Rd henc Try.prog W 25 cs) : ∃ y : List Int, RC env W [.arr .i64 8 y] cs ∧ fitA .i64 8 y :=
  rd_array tab (e := 3) (by kernel_rfl) (by kernel_rfl) (by kernel_rfl) (by kernel_rfl) (by kernel_rfl) (by kernel_rfl) h
theorem rd26 {H : Type} {henc : TypeId × Value → H} {W : World} {cs : List Value} (h : Rd henc Try.prog W 26 cs) : ∃ y : Int, RC env W [.int .u64 y] cs ∧ fitI .u64 y := rd_int tab (by kernel_rfl) h
structure fitQueue (x : Queue) : Prop where
  policy : fitPolicy x.policy
  room : fitI .i64 x.room
  lists : ((∀ z0 ∈ x.lists, ((∀ z1 ∈ z0, fitQueued z1) ∧ List.length z0 ≤ 9223372036854775807)) ∧ List.length x.lists ≤ 9223372036854775807)
  vars : fitA .i64 8 x.vars
  seed : fitI .u64 x.seed
theorem rd28 {H : Type} {henc : TypeId × Value → H} {W : World} {cs : List Value} (h : Rd henc Try.prog W 28 cs) : ∃ y : Queue, RC env W (encQueue y) cs ∧ fitQueue y := by
  obtain ⟨hl, h⟩ := rd_struct tab (t := 28) (fs := [(0, 4, 23), (4, 1, 3), (5, 1, 24), (6, 8, 25), (14, 1, 26)]) (by kernel_rfl) (by kernel_rfl) h
  obtain ⟨y0, r0, g0⟩ := rd23 (h (0, 4, 23) (by simp))
  obtain ⟨y1, r1, g1⟩ := rd3 (h (4, 1, 3) (by simp))
  obtain ⟨y2, r2, g2⟩ := rd24 (h (5, 1, 24) (by simp))
  obtain ⟨y3, r3, g3⟩ := rd25 (h (6, 8, 25) (by simp))
  obtain ⟨y4, r4, g4⟩ := rd26 (h (14, 1, 26) (by simp))
  exact ⟨⟨y0, y1, y2, y3, y4⟩, (rc_seg (a := 0) (b := 4) r0 rfl (rc_seg (a := 4) (b := 5) r1 rfl (rc_seg (a := 5) (b := 6) r2 rfl (rc_seg (a := 6) (b := 14) r3 rfl (rc_seg (a := 14) (b := 15) r4 rfl (rc_end (hl.trans (by kernel_rfl : (env.ti 28).size = 15)))))))), ⟨g0, g1, g2, g3, g4⟩⟩
theorem arg28 {H : Type} {henc : TypeId × Value → H} {W : World} {v : Value} (hv : Value.okWide Try.prog W .any 0 28 v) (h : Rd henc Try.prog W 28 v.cells.toList) : ∃ y : Queue, RS env W (v28 y) v ∧ fitQueue y := let ⟨y, h1, h2⟩ := rd28 h; ⟨y, arg_struct tab (fs := [(0, 4, 23), (4, 1, 3), (5, 1, 24), (6, 8, 25), (14, 1, 26)]) (by kernel_rfl) hv h1, h2⟩
theorem arg30 {H : Type} {henc : TypeId × Value → H} {W : World} {v : Value} (hv : Value.okWide Try.prog W .any 0 30 v) (h : Rd henc Try.prog W 30 v.cells.toList) : ∃ y : Packet, RS env W (v30 y) v ∧ fitPacket y := let ⟨y, h1, h2⟩ := rd30 h; ⟨y, arg_struct tab (fs := [(0, 1, 3), (1, 1, 3), (2, 1, 3), (3, 1, 3), (4, 1, 3), (5, 1, 3), (6, 1, 4), (7, 1, 4)]) (by kernel_rfl) hv h1, h2⟩
theorem arg3 {H : Type} {henc : TypeId × Value → H} {W : World} {v : Value} (hv : Value.okWide Try.prog W .any 0 3 v) (h : Rd henc Try.prog W 3 v.cells.toList) : ∃ y : Int, RS env W (v3 y) v ∧ fitI .i64 y := arg_int tab (by kernel_rfl) hv h
theorem rd46 {H : Type} {henc : TypeId × Value → H} {W : World} {cs : List Value} (h : Rd henc Try.prog W 46 cs) : ∃ y : Int, RC env W [.int .u16 y] cs ∧ fitI .u16 y := rd_int tab (by kernel_rfl) h
structure fitStep (x : Step) : Prop where
  wait : fitI .u16 x.wait
  p : fitPacket x.p
theorem rd48 {H : Type} {henc : TypeId × Value → H} {W : World} {cs : List Value} (h : Rd henc Try.prog W 48 cs) : ∃ y : Step, RC env W (encStep y) cs ∧ fitStep y := by
  obtain ⟨hl, h⟩ := rd_struct tab (t := 48) (fs := [(0, 1, 46), (1, 1, 4), (2, 8, 30)]) (by kernel_rfl) (by kernel_rfl) h
  obtain ⟨y0, r0, g0⟩ := rd46 (h (0, 1, 46) (by simp))
  obtain ⟨y1, r1, g1⟩ := rd4 (h (1, 1, 4) (by simp))
  obtain ⟨y2, r2, g2⟩ := rd30 (h (2, 8, 30) (by simp))
  exact ⟨⟨y0, y1, y2⟩, (rc_seg (a := 0) (b := 1) r0 rfl (rc_seg (a := 1) (b := 2) r1 rfl (rc_seg (a := 2) (b := 10) r2 rfl (rc_end (hl.trans (by kernel_rfl : (env.ti 48).size = 10)))))), ⟨g0, g2⟩⟩
theorem rd42 {H : Type} {henc : TypeId × Value → H} {W : World} {cs : List Value} (h : Rd henc Try.prog W 42 cs) : ∃ y : List Step, RC env W [.dat 48 y] cs ∧ ((∀ z0 ∈ y, fitStep z0) ∧ List.length y ≤ 9223372036854775807) :=
  rd_slice tab (e := 48) (by kernel_rfl) (by kernel_rfl) (by kernel_rfl) (by kernel_rfl) (of_decide_eq_true (by kernel_rfl)) (G := fun y : Step => fitStep y) (fun cs h => rd48 h) h
theorem arg42 {H : Type} {henc : TypeId × Value → H} {W : World} {v : Value} (hv : Value.okWide Try.prog W .any 0 42 v) (h : Rd henc Try.prog W 42 v.cells.toList) : ∃ y : (List Step), RS env W (v42 y) v ∧ ((∀ z0 ∈ y, fitStep z0) ∧ List.length y ≤ 9223372036854775807) := let ⟨y, h1, h2⟩ := rd42 h; ⟨y, arg_slice tab (e := 48) (by kernel_rfl) hv h1, h2⟩
theorem rd33 {H : Type} {henc : TypeId × Value → H} {W : World} {cs : List Value} (h : Rd henc Try.prog W 33 cs) : ∃ y : List Packet, RC env W [.dat 30 y] cs ∧ ((∀ z0 ∈ y, fitPacket z0) ∧ List.length y ≤ 9223372036854775807) :=
  rd_slice tab (e := 30) (by kernel_rfl) (by kernel_rfl) (by kernel_rfl) (by kernel_rfl) (of_decide_eq_true (by kernel_rfl)) (G := fun y : Packet => fitPacket y) (fun cs h => rd30 h) h
theorem arg33 {H : Type} {henc : TypeId × Value → H} {W : World} {v : Value} (hv : Value.okWide Try.prog W .any 0 33 v) (h : Rd henc Try.prog W 33 v.cells.toList) : ∃ y : (List Packet), RS env W (v33 y) v ∧ ((∀ z0 ∈ y, fitPacket z0) ∧ List.length y ≤ 9223372036854775807) := let ⟨y, h1, h2⟩ := rd33 h; ⟨y, arg_slice tab (e := 30) (by kernel_rfl) hv h1, h2⟩
theorem rd5 {H : Type} {henc : TypeId × Value → H} {W : World} {cs : List Value} (h : Rd henc Try.prog W 5 cs) : ∃ y : Int, RC env W [.int .u8 y] cs ∧ fitI .u8 y := rd_int tab (by kernel_rfl) h
theorem rd62 {H : Type} {henc : TypeId × Value → H} {W : World} {cs : List Value} (h : Rd henc Try.prog W 62 cs) : ∃ y : List Int, RC env W [.dat 5 y] cs ∧ ((∀ z0 ∈ y, fitI .u8 z0) ∧ List.length y ≤ 9223372036854775807) :=
  rd_slice tab (e := 5) (by kernel_rfl) (by kernel_rfl) (by kernel_rfl) (by kernel_rfl) (of_decide_eq_true (by kernel_rfl)) (G := fun y : Int => fitI .u8 y) (fun cs h => rd5 h) h
theorem arg62 {H : Type} {henc : TypeId × Value → H} {W : World} {v : Value} (hv : Value.okWide Try.prog W .any 0 62 v) (h : Rd henc Try.prog W 62 v.cells.toList) : ∃ y : (List Int), RS env W (v62 y) v ∧ ((∀ z0 ∈ y, fitI .u8 z0) ∧ List.length y ≤ 9223372036854775807) := let ⟨y, h1, h2⟩ := rd62 h; ⟨y, arg_slice tab (e := 5) (by kernel_rfl) hv h1, h2⟩
theorem rd65 {H : Type} {henc : TypeId × Value → H} {W : World} {cs : List Value} (h : Rd henc Try.prog W 65 cs) : ∃ y : List Int, RC env W [.dat 3 y] cs ∧ ((∀ z0 ∈ y, fitI .i64 z0) ∧ List.length y ≤ 9223372036854775807) :=
  rd_slice tab (e := 3) (by kernel_rfl) (by kernel_rfl) (by kernel_rfl) (by kernel_rfl) (of_decide_eq_true (by kernel_rfl)) (G := fun y : Int => fitI .i64 y) (fun cs h => rd3 h) h
structure fitReceiver (x : Receiver) : Prop where
  next_ : fitI .i64 x.next_
  have_ : ((∀ z0 ∈ x.have_, fitI .i64 z0) ∧ List.length x.have_ ≤ 9223372036854775807)
theorem rd67 {H : Type} {henc : TypeId × Value → H} {W : World} {cs : List Value} (h : Rd henc Try.prog W 67 cs) : ∃ y : Receiver, RC env W (encReceiver y) cs ∧ fitReceiver y := by
  obtain ⟨hl, h⟩ := rd_struct tab (t := 67) (fs := [(0, 1, 3), (1, 1, 65)]) (by kernel_rfl) (by kernel_rfl) h
  obtain ⟨y0, r0, g0⟩ := rd3 (h (0, 1, 3) (by simp))
  obtain ⟨y1, r1, g1⟩ := rd65 (h (1, 1, 65) (by simp))
  exact ⟨⟨y0, y1⟩, (rc_seg (a := 0) (b := 1) r0 rfl (rc_seg (a := 1) (b := 2) r1 rfl (rc_end (hl.trans (by kernel_rfl : (env.ti 67).size = 2))))), ⟨g0, g1⟩⟩
theorem arg67 {H : Type} {henc : TypeId × Value → H} {W : World} {v : Value} (hv : Value.okWide Try.prog W .any 0 67 v) (h : Rd henc Try.prog W 67 v.cells.toList) : ∃ y : Receiver, RS env W (v67 y) v ∧ fitReceiver y := let ⟨y, h1, h2⟩ := rd67 h; ⟨y, arg_struct tab (fs := [(0, 1, 3), (1, 1, 65)]) (by kernel_rfl) hv h1, h2⟩
theorem arg5 {H : Type} {henc : TypeId × Value → H} {W : World} {v : Value} (hv : Value.okWide Try.prog W .any 0 5 v) (h : Rd henc Try.prog W 5 v.cells.toList) : ∃ y : Int, RS env W (v5 y) v ∧ fitI .u8 y := arg_int tab (by kernel_rfl) hv h
end Go.Vg.Ytgekegoflaichaa
