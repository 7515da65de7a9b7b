/-
  What the walked functions of chapter 22 come to (4): deficit.Put. Own work; no condition. (Written by mkSd.py.)
-/
import Derived.Test.YtgekegoflaichaaSc
import Derived.Test.YtgekegoflaichaaP
set_option maxRecDepth 10000
namespace Go.Vg.Ytgekegoflaichaa
open Go.Vg Go.Proofs

theorem room45 {n : Nat} (h : n ≤ 1000000000) : roomB n (bytesB env 45) = true := by
  have : bytesB env 45 = 64 := by kernel_rfl
  unfold roomB
  rw [this, decide_eq_true (by omega), decide_eq_true (by omega)]; rfl
theorem room43 {n : Nat} (h : n ≤ 1000000000) : roomB n (bytesB env 43) = true := by
  have : bytesB env 43 = 24 := by kernel_rfl
  unfold roomB
  rw [this, decide_eq_true (by omega), decide_eq_true (by omega)]; rfl
theorem room30 {n : Nat} (h : n ≤ 1000000000) : roomB n (bytesB env 30) = true := by
  have : bytesB env 30 = 56 := by kernel_rfl
  unfold roomB
  rw [this, decide_eq_true (by omega), decide_eq_true (by omega)]; rfl
theorem clone_ok {n : Nat} (h : n ≤ 1000000) : andb (leb 0 0) (andb (leb 0 (IntKind.i64.wrap ((n : Int) + 1))) (roomB (IntKind.i64.wrap ((n : Int) + 1)).toNat (bytesB env 45))) = true := by
  rw [wrapi (by omega) (by omega)]
  rw [room45 (by omega)]
  unfold leb
  rw [decide_eq_true (by omega), decide_eq_true (by omega)]; rfl

def zeroQ : Queue := ⟨⟨0, 0, 0, 0⟩, 0, [], [0, 0, 0, 0, 0, 0, 0, 0], 0⟩
def zeroP : Packet := ⟨0, 0, 0, 0, 0, 0, false, false⟩

/-- What a queue at a time is: an error, or the queue. -/
def openS (q : Queue) (now : Int) : Int := if validS q = false then 1 else if inS now 0 10000000 = false then 1 else if now < q.vars.getD 7 0 then 18 else 0
def atS (q : Queue) (now : Int) : Queue := { q with vars := q.vars.set 7 now }
def putS (q : Queue) (p : Packet) (now : Int) : Queue × List Packet × Int :=
  if isPacketS p = false then (zeroQ, [], 1) else if openS q now ≠ 0 then (zeroQ, [], openS q now) else
  if (sumLen q.lists : Int) = q.room then (atS q now, [p], 0) else ({ atS q now with lists := q.lists.set p.flow.toNat (q.lists.getD p.flow.toNat [] ++ [⟨p, now⟩]) }, [], 0)

theorem openS_1 {q : Queue} {now : Int} (h : validS q = false) : openS q now = 1 := by unfold openS; rw [if_pos h]
theorem openS_2 {q : Queue} {now : Int} (h : validS q = true) (h2 : inS now 0 10000000 = false) : openS q now = 1 := by unfold openS; rw [if_neg (by rw [h]; decide), if_pos h2]
theorem openS_3 {q : Queue} {now : Int} (h : validS q = true) (h2 : inS now 0 10000000 = true) (h3 : now < q.vars.getD 7 0) : openS q now = 18 := by unfold openS; rw [if_neg (by rw [h]; decide), if_neg (by rw [h2]; decide), if_pos h3]
theorem openS_0 {q : Queue} {now : Int} (h : validS q = true) (h2 : inS now 0 10000000 = true) (h3 : ¬ now < q.vars.getD 7 0) : openS q now = 0 := by unfold openS; rw [if_neg (by rw [h]; decide), if_neg (by rw [h2]; decide), if_neg h3]
theorem putS_1 {q : Queue} {p : Packet} {now : Int} (h : isPacketS p = false) : putS q p now = (zeroQ, [], 1) := by unfold putS; rw [if_pos h]
theorem putS_2 {q : Queue} {p : Packet} {now e : Int} (h : isPacketS p = true) (ho : openS q now = e) (he : e ≠ 0) : putS q p now = (zeroQ, [], e) := by unfold putS; rw [if_neg (by rw [h]; decide), ho, if_pos he]
theorem putS_3 {q : Queue} {p : Packet} {now : Int} (h : isPacketS p = true) (ho : openS q now = 0) (hf : (sumLen q.lists : Int) = q.room) : putS q p now = (atS q now, [p], 0) := by unfold putS; rw [if_neg (by rw [h]; decide), ho, if_neg (by decide), if_pos hf]
theorem putS_4 {q : Queue} {p : Packet} {now : Int} (h : isPacketS p = true) (ho : openS q now = 0) (hf : ¬ (sumLen q.lists : Int) = q.room) : putS q p now = ({ atS q now with lists := q.lists.set p.flow.toNat (q.lists.getD p.flow.toNat [] ++ [⟨p, now⟩]) }, [], 0) := by unfold putS; rw [if_neg (by rw [h]; decide), ho, if_neg (by decide), if_neg hf]
theorem inS_true {n a b : Int} (h1 : a ≤ n) (h2 : n ≤ b) : inS n a b = true := inS_iff.2 ⟨h1, h2⟩
theorem bool_not {b : Bool} (h : (!b) = true) : b = false := by simpa using h
theorem bool_nn {b : Bool} (h : (!b) = false) : b = true := by simpa using h


theorem V17a0_spec {q : Queue} {p : Packet} {now : Int} {l0 l1 l2 l3 l4 l5 l6 l7 : List Queued} {K : Queue × List Packet × Int → Prop} (hq : q.lists = [l0, l1, l2, l3, l4, l5, l6, l7]) (hp : p.flow = 0) (hs : Small q.lists) (h : K (putS q p now)) : V17a0 q p now l0 l1 l2 l3 l4 l5 l6 l7 K := by
  obtain ⟨pol, room, lists, vars, seed⟩ := q
  obtain ⟨flow, sub, number, data, size, sent, able, marked⟩ := p
  simp only at hq hp hs
  subst hq hp
  rw [V17a0_eq]; unfold B17a0
  have hsum := hs.sum
  simp only [sumLen_cons, show sumLen [] = 0 from rfl] at hsum
  refine V45_spec (br_of (fun e => ?_) (fun e => ?_))
  · rw [putS_1 (bool_not e)] at h; exact h
  have e0 := bool_nn e
  refine V21_spec hs (br_of (fun e => ?_) (fun e => ?_))
  · rw [putS_2 e0 (openS_1 (bool_not e)) (by decide)] at h; exact h
  have e1 := bool_nn e
  refine V55_spec (br_of (fun e => ?_) (fun e => ?_))
  · rw [putS_2 e0 (openS_2 e1 (bool_not e)) (by decide)] at h; exact h
  have e2 := bool_nn e
  refine br_of (fun e => ?_) (fun e => ?_)
  · rw [putS_2 e0 (openS_3 e1 e2 (by simpa using e)) (by decide)] at h; exact h
  have e3 := openS_0 e1 e2 (by simpa using e)
  refine br_true (clone_ok (n := l0.length) (by omega)) (br_true (room45 (n := l0.length) (by omega)) ?_)
  refine br_true (clone_ok (n := l1.length) (by omega)) (br_true (room45 (n := l1.length) (by omega)) ?_)
  refine br_true (clone_ok (n := l2.length) (by omega)) (br_true (room45 (n := l2.length) (by omega)) ?_)
  refine br_true (clone_ok (n := l3.length) (by omega)) (br_true (room45 (n := l3.length) (by omega)) ?_)
  refine br_true (clone_ok (n := l4.length) (by omega)) (br_true (room45 (n := l4.length) (by omega)) ?_)
  refine br_true (clone_ok (n := l5.length) (by omega)) (br_true (room45 (n := l5.length) (by omega)) ?_)
  refine br_true (clone_ok (n := l6.length) (by omega)) (br_true (room45 (n := l6.length) (by omega)) ?_)
  refine br_true (clone_ok (n := l7.length) (by omega)) (br_true (room45 (n := l7.length) (by omega)) ?_)
  refine ⟨_, V47_spec (q := ⟨pol, room, [l0, l1, l2, l3, l4, l5, l6, l7], vars.set 7 now, seed⟩) hs rfl, ?_⟩
  refine br_of (fun e => ?_) (fun e => ?_)
  · rw [putS_3 e0 e3 (by simpa using e)] at h; exact h
  rw [putS_4 e0 e3 (by simpa using e)] at h
  exact br_true (room45 (by simp only [List.replicate, List.nil_append, List.length_append, List.length_cons, List.length_nil]; show l0.length + _ ≤ _; omega)) h


theorem V17a1_spec {q : Queue} {p : Packet} {now : Int} {l0 l1 l2 l3 l4 l5 l6 l7 : List Queued} {K : Queue × List Packet × Int → Prop} (hq : q.lists = [l0, l1, l2, l3, l4, l5, l6, l7]) (hp : p.flow = 1) (hs : Small q.lists) (h : K (putS q p now)) : V17a1 q p now l0 l1 l2 l3 l4 l5 l6 l7 K := by
  obtain ⟨pol, room, lists, vars, seed⟩ := q
  obtain ⟨flow, sub, number, data, size, sent, able, marked⟩ := p
  simp only at hq hp hs
  subst hq hp
  rw [V17a1_eq]; unfold B17a1
  have hsum := hs.sum
  simp only [sumLen_cons, show sumLen [] = 0 from rfl] at hsum
  refine V45_spec (br_of (fun e => ?_) (fun e => ?_))
  · rw [putS_1 (bool_not e)] at h; exact h
  have e0 := bool_nn e
  refine V21_spec hs (br_of (fun e => ?_) (fun e => ?_))
  · rw [putS_2 e0 (openS_1 (bool_not e)) (by decide)] at h; exact h
  have e1 := bool_nn e
  refine V55_spec (br_of (fun e => ?_) (fun e => ?_))
  · rw [putS_2 e0 (openS_2 e1 (bool_not e)) (by decide)] at h; exact h
  have e2 := bool_nn e
  refine br_of (fun e => ?_) (fun e => ?_)
  · rw [putS_2 e0 (openS_3 e1 e2 (by simpa using e)) (by decide)] at h; exact h
  have e3 := openS_0 e1 e2 (by simpa using e)
  refine br_true (clone_ok (n := l0.length) (by omega)) (br_true (room45 (n := l0.length) (by omega)) ?_)
  refine br_true (clone_ok (n := l1.length) (by omega)) (br_true (room45 (n := l1.length) (by omega)) ?_)
  refine br_true (clone_ok (n := l2.length) (by omega)) (br_true (room45 (n := l2.length) (by omega)) ?_)
  refine br_true (clone_ok (n := l3.length) (by omega)) (br_true (room45 (n := l3.length) (by omega)) ?_)
  refine br_true (clone_ok (n := l4.length) (by omega)) (br_true (room45 (n := l4.length) (by omega)) ?_)
  refine br_true (clone_ok (n := l5.length) (by omega)) (br_true (room45 (n := l5.length) (by omega)) ?_)
  refine br_true (clone_ok (n := l6.length) (by omega)) (br_true (room45 (n := l6.length) (by omega)) ?_)
  refine br_true (clone_ok (n := l7.length) (by omega)) (br_true (room45 (n := l7.length) (by omega)) ?_)
  refine ⟨_, V47_spec (q := ⟨pol, room, [l0, l1, l2, l3, l4, l5, l6, l7], vars.set 7 now, seed⟩) hs rfl, ?_⟩
  refine br_of (fun e => ?_) (fun e => ?_)
  · rw [putS_3 e0 e3 (by simpa using e)] at h; exact h
  rw [putS_4 e0 e3 (by simpa using e)] at h
  exact br_true (room45 (by simp only [List.replicate, List.nil_append, List.length_append, List.length_cons, List.length_nil]; show l1.length + _ ≤ _; omega)) h


theorem V17a2_spec {q : Queue} {p : Packet} {now : Int} {l0 l1 l2 l3 l4 l5 l6 l7 : List Queued} {K : Queue × List Packet × Int → Prop} (hq : q.lists = [l0, l1, l2, l3, l4, l5, l6, l7]) (hp : p.flow = 2) (hs : Small q.lists) (h : K (putS q p now)) : V17a2 q p now l0 l1 l2 l3 l4 l5 l6 l7 K := by
  obtain ⟨pol, room, lists, vars, seed⟩ := q
  obtain ⟨flow, sub, number, data, size, sent, able, marked⟩ := p
  simp only at hq hp hs
  subst hq hp
  rw [V17a2_eq]; unfold B17a2
  have hsum := hs.sum
  simp only [sumLen_cons, show sumLen [] = 0 from rfl] at hsum
  refine V45_spec (br_of (fun e => ?_) (fun e => ?_))
  · rw [putS_1 (bool_not e)] at h; exact h
  have e0 := bool_nn e
  refine V21_spec hs (br_of (fun e => ?_) (fun e => ?_))
  · rw [putS_2 e0 (openS_1 (bool_not e)) (by decide)] at h; exact h
  have e1 := bool_nn e
  refine V55_spec (br_of (fun e => ?_) (fun e => ?_))
  · rw [putS_2 e0 (openS_2 e1 (bool_not e)) (by decide)] at h; exact h
  have e2 := bool_nn e
  refine br_of (fun e => ?_) (fun e => ?_)
  · rw [putS_2 e0 (openS_3 e1 e2 (by simpa using e)) (by decide)] at h; exact h
  have e3 := openS_0 e1 e2 (by simpa using e)
  refine br_true (clone_ok (n := l0.length) (by omega)) (br_true (room45 (n := l0.length) (by omega)) ?_)
  refine br_true (clone_ok (n := l1.length) (by omega)) (br_true (room45 (n := l1.length) (by omega)) ?_)
  refine br_true (clone_ok (n := l2.length) (by omega)) (br_true (room45 (n := l2.length) (by omega)) ?_)
  refine br_true (clone_ok (n := l3.length) (by omega)) (br_true (room45 (n := l3.length) (by omega)) ?_)
  refine br_true (clone_ok (n := l4.length) (by omega)) (br_true (room45 (n := l4.length) (by omega)) ?_)
  refine br_true (clone_ok (n := l5.length) (by omega)) (br_true (room45 (n := l5.length) (by omega)) ?_)
  refine br_true (clone_ok (n := l6.length) (by omega)) (br_true (room45 (n := l6.length) (by omega)) ?_)
  refine br_true (clone_ok (n := l7.length) (by omega)) (br_true (room45 (n := l7.length) (by omega)) ?_)
  refine ⟨_, V47_spec (q := ⟨pol, room, [l0, l1, l2, l3, l4, l5, l6, l7], vars.set 7 now, seed⟩) hs rfl, ?_⟩
  refine br_of (fun e => ?_) (fun e => ?_)
  · rw [putS_3 e0 e3 (by simpa using e)] at h; exact h
  rw [putS_4 e0 e3 (by simpa using e)] at h
  exact br_true (room45 (by simp only [List.replicate, List.nil_append, List.length_append, List.length_cons, List.length_nil]; show l2.length + _ ≤ _; omega)) h


theorem V17a3_spec {q : Queue} {p : Packet} {now : Int} {l0 l1 l2 l3 l4 l5 l6 l7 : List Queued} {K : Queue × List Packet × Int → Prop} (hq : q.lists = [l0, l1, l2, l3, l4, l5, l6, l7]) (hp : p.flow = 3) (hs : Small q.lists) (h : K (putS q p now)) : V17a3 q p now l0 l1 l2 l3 l4 l5 l6 l7 K := by
  obtain ⟨pol, room, lists, vars, seed⟩ := q
  obtain ⟨flow, sub, number, data, size, sent, able, marked⟩ := p
  simp only at hq hp hs
  subst hq hp
  rw [V17a3_eq]; unfold B17a3
  have hsum := hs.sum
  simp only [sumLen_cons, show sumLen [] = 0 from rfl] at hsum
  refine V45_spec (br_of (fun e => ?_) (fun e => ?_))
  · rw [putS_1 (bool_not e)] at h; exact h
  have e0 := bool_nn e
  refine V21_spec hs (br_of (fun e => ?_) (fun e => ?_))
  · rw [putS_2 e0 (openS_1 (bool_not e)) (by decide)] at h; exact h
  have e1 := bool_nn e
  refine V55_spec (br_of (fun e => ?_) (fun e => ?_))
  · rw [putS_2 e0 (openS_2 e1 (bool_not e)) (by decide)] at h; exact h
  have e2 := bool_nn e
  refine br_of (fun e => ?_) (fun e => ?_)
  · rw [putS_2 e0 (openS_3 e1 e2 (by simpa using e)) (by decide)] at h; exact h
  have e3 := openS_0 e1 e2 (by simpa using e)
  refine br_true (clone_ok (n := l0.length) (by omega)) (br_true (room45 (n := l0.length) (by omega)) ?_)
  refine br_true (clone_ok (n := l1.length) (by omega)) (br_true (room45 (n := l1.length) (by omega)) ?_)
  refine br_true (clone_ok (n := l2.length) (by omega)) (br_true (room45 (n := l2.length) (by omega)) ?_)
  refine br_true (clone_ok (n := l3.length) (by omega)) (br_true (room45 (n := l3.length) (by omega)) ?_)
  refine br_true (clone_ok (n := l4.length) (by omega)) (br_true (room45 (n := l4.length) (by omega)) ?_)
  refine br_true (clone_ok (n := l5.length) (by omega)) (br_true (room45 (n := l5.length) (by omega)) ?_)
  refine br_true (clone_ok (n := l6.length) (by omega)) (br_true (room45 (n := l6.length) (by omega)) ?_)
  refine br_true (clone_ok (n := l7.length) (by omega)) (br_true (room45 (n := l7.length) (by omega)) ?_)
  refine ⟨_, V47_spec (q := ⟨pol, room, [l0, l1, l2, l3, l4, l5, l6, l7], vars.set 7 now, seed⟩) hs rfl, ?_⟩
  refine br_of (fun e => ?_) (fun e => ?_)
  · rw [putS_3 e0 e3 (by simpa using e)] at h; exact h
  rw [putS_4 e0 e3 (by simpa using e)] at h
  exact br_true (room45 (by simp only [List.replicate, List.nil_append, List.length_append, List.length_cons, List.length_nil]; show l3.length + _ ≤ _; omega)) h


theorem V17a4_spec {q : Queue} {p : Packet} {now : Int} {l0 l1 l2 l3 l4 l5 l6 l7 : List Queued} {K : Queue × List Packet × Int → Prop} (hq : q.lists = [l0, l1, l2, l3, l4, l5, l6, l7]) (hp : p.flow = 4) (hs : Small q.lists) (h : K (putS q p now)) : V17a4 q p now l0 l1 l2 l3 l4 l5 l6 l7 K := by
  obtain ⟨pol, room, lists, vars, seed⟩ := q
  obtain ⟨flow, sub, number, data, size, sent, able, marked⟩ := p
  simp only at hq hp hs
  subst hq hp
  rw [V17a4_eq]; unfold B17a4
  have hsum := hs.sum
  simp only [sumLen_cons, show sumLen [] = 0 from rfl] at hsum
  refine V45_spec (br_of (fun e => ?_) (fun e => ?_))
  · rw [putS_1 (bool_not e)] at h; exact h
  have e0 := bool_nn e
  refine V21_spec hs (br_of (fun e => ?_) (fun e => ?_))
  · rw [putS_2 e0 (openS_1 (bool_not e)) (by decide)] at h; exact h
  have e1 := bool_nn e
  refine V55_spec (br_of (fun e => ?_) (fun e => ?_))
  · rw [putS_2 e0 (openS_2 e1 (bool_not e)) (by decide)] at h; exact h
  have e2 := bool_nn e
  refine br_of (fun e => ?_) (fun e => ?_)
  · rw [putS_2 e0 (openS_3 e1 e2 (by simpa using e)) (by decide)] at h; exact h
  have e3 := openS_0 e1 e2 (by simpa using e)
  refine br_true (clone_ok (n := l0.length) (by omega)) (br_true (room45 (n := l0.length) (by omega)) ?_)
  refine br_true (clone_ok (n := l1.length) (by omega)) (br_true (room45 (n := l1.length) (by omega)) ?_)
  refine br_true (clone_ok (n := l2.length) (by omega)) (br_true (room45 (n := l2.length) (by omega)) ?_)
  refine br_true (clone_ok (n := l3.length) (by omega)) (br_true (room45 (n := l3.length) (by omega)) ?_)
  refine br_true (clone_ok (n := l4.length) (by omega)) (br_true (room45 (n := l4.length) (by omega)) ?_)
  refine br_true (clone_ok (n := l5.length) (by omega)) (br_true (room45 (n := l5.length) (by omega)) ?_)
  refine br_true (clone_ok (n := l6.length) (by omega)) (br_true (room45 (n := l6.length) (by omega)) ?_)
  refine br_true (clone_ok (n := l7.length) (by omega)) (br_true (room45 (n := l7.length) (by omega)) ?_)
  refine ⟨_, V47_spec (q := ⟨pol, room, [l0, l1, l2, l3, l4, l5, l6, l7], vars.set 7 now, seed⟩) hs rfl, ?_⟩
  refine br_of (fun e => ?_) (fun e => ?_)
  · rw [putS_3 e0 e3 (by simpa using e)] at h; exact h
  rw [putS_4 e0 e3 (by simpa using e)] at h
  exact br_true (room45 (by simp only [List.replicate, List.nil_append, List.length_append, List.length_cons, List.length_nil]; show l4.length + _ ≤ _; omega)) h


theorem V17a5_spec {q : Queue} {p : Packet} {now : Int} {l0 l1 l2 l3 l4 l5 l6 l7 : List Queued} {K : Queue × List Packet × Int → Prop} (hq : q.lists = [l0, l1, l2, l3, l4, l5, l6, l7]) (hp : p.flow = 5) (hs : Small q.lists) (h : K (putS q p now)) : V17a5 q p now l0 l1 l2 l3 l4 l5 l6 l7 K := by
  obtain ⟨pol, room, lists, vars, seed⟩ := q
  obtain ⟨flow, sub, number, data, size, sent, able, marked⟩ := p
  simp only at hq hp hs
  subst hq hp
  rw [V17a5_eq]; unfold B17a5
  have hsum := hs.sum
  simp only [sumLen_cons, show sumLen [] = 0 from rfl] at hsum
  refine V45_spec (br_of (fun e => ?_) (fun e => ?_))
  · rw [putS_1 (bool_not e)] at h; exact h
  have e0 := bool_nn e
  refine V21_spec hs (br_of (fun e => ?_) (fun e => ?_))
  · rw [putS_2 e0 (openS_1 (bool_not e)) (by decide)] at h; exact h
  have e1 := bool_nn e
  refine V55_spec (br_of (fun e => ?_) (fun e => ?_))
  · rw [putS_2 e0 (openS_2 e1 (bool_not e)) (by decide)] at h; exact h
  have e2 := bool_nn e
  refine br_of (fun e => ?_) (fun e => ?_)
  · rw [putS_2 e0 (openS_3 e1 e2 (by simpa using e)) (by decide)] at h; exact h
  have e3 := openS_0 e1 e2 (by simpa using e)
  refine br_true (clone_ok (n := l0.length) (by omega)) (br_true (room45 (n := l0.length) (by omega)) ?_)
  refine br_true (clone_ok (n := l1.length) (by omega)) (br_true (room45 (n := l1.length) (by omega)) ?_)
  refine br_true (clone_ok (n := l2.length) (by omega)) (br_true (room45 (n := l2.length) (by omega)) ?_)
  refine br_true (clone_ok (n := l3.length) (by omega)) (br_true (room45 (n := l3.length) (by omega)) ?_)
  refine br_true (clone_ok (n := l4.length) (by omega)) (br_true (room45 (n := l4.length) (by omega)) ?_)
  refine br_true (clone_ok (n := l5.length) (by omega)) (br_true (room45 (n := l5.length) (by omega)) ?_)
  refine br_true (clone_ok (n := l6.length) (by omega)) (br_true (room45 (n := l6.length) (by omega)) ?_)
  refine br_true (clone_ok (n := l7.length) (by omega)) (br_true (room45 (n := l7.length) (by omega)) ?_)
  refine ⟨_, V47_spec (q := ⟨pol, room, [l0, l1, l2, l3, l4, l5, l6, l7], vars.set 7 now, seed⟩) hs rfl, ?_⟩
  refine br_of (fun e => ?_) (fun e => ?_)
  · rw [putS_3 e0 e3 (by simpa using e)] at h; exact h
  rw [putS_4 e0 e3 (by simpa using e)] at h
  exact br_true (room45 (by simp only [List.replicate, List.nil_append, List.length_append, List.length_cons, List.length_nil]; show l5.length + _ ≤ _; omega)) h


theorem V17a6_spec {q : Queue} {p : Packet} {now : Int} {l0 l1 l2 l3 l4 l5 l6 l7 : List Queued} {K : Queue × List Packet × Int → Prop} (hq : q.lists = [l0, l1, l2, l3, l4, l5, l6, l7]) (hp : p.flow = 6) (hs : Small q.lists) (h : K (putS q p now)) : V17a6 q p now l0 l1 l2 l3 l4 l5 l6 l7 K := by
  obtain ⟨pol, room, lists, vars, seed⟩ := q
  obtain ⟨flow, sub, number, data, size, sent, able, marked⟩ := p
  simp only at hq hp hs
  subst hq hp
  rw [V17a6_eq]; unfold B17a6
  have hsum := hs.sum
  simp only [sumLen_cons, show sumLen [] = 0 from rfl] at hsum
  refine V45_spec (br_of (fun e => ?_) (fun e => ?_))
  · rw [putS_1 (bool_not e)] at h; exact h
  have e0 := bool_nn e
  refine V21_spec hs (br_of (fun e => ?_) (fun e => ?_))
  · rw [putS_2 e0 (openS_1 (bool_not e)) (by decide)] at h; exact h
  have e1 := bool_nn e
  refine V55_spec (br_of (fun e => ?_) (fun e => ?_))
  · rw [putS_2 e0 (openS_2 e1 (bool_not e)) (by decide)] at h; exact h
  have e2 := bool_nn e
  refine br_of (fun e => ?_) (fun e => ?_)
  · rw [putS_2 e0 (openS_3 e1 e2 (by simpa using e)) (by decide)] at h; exact h
  have e3 := openS_0 e1 e2 (by simpa using e)
  refine br_true (clone_ok (n := l0.length) (by omega)) (br_true (room45 (n := l0.length) (by omega)) ?_)
  refine br_true (clone_ok (n := l1.length) (by omega)) (br_true (room45 (n := l1.length) (by omega)) ?_)
  refine br_true (clone_ok (n := l2.length) (by omega)) (br_true (room45 (n := l2.length) (by omega)) ?_)
  refine br_true (clone_ok (n := l3.length) (by omega)) (br_true (room45 (n := l3.length) (by omega)) ?_)
  refine br_true (clone_ok (n := l4.length) (by omega)) (br_true (room45 (n := l4.length) (by omega)) ?_)
  refine br_true (clone_ok (n := l5.length) (by omega)) (br_true (room45 (n := l5.length) (by omega)) ?_)
  refine br_true (clone_ok (n := l6.length) (by omega)) (br_true (room45 (n := l6.length) (by omega)) ?_)
  refine br_true (clone_ok (n := l7.length) (by omega)) (br_true (room45 (n := l7.length) (by omega)) ?_)
  refine ⟨_, V47_spec (q := ⟨pol, room, [l0, l1, l2, l3, l4, l5, l6, l7], vars.set 7 now, seed⟩) hs rfl, ?_⟩
  refine br_of (fun e => ?_) (fun e => ?_)
  · rw [putS_3 e0 e3 (by simpa using e)] at h; exact h
  rw [putS_4 e0 e3 (by simpa using e)] at h
  exact br_true (room45 (by simp only [List.replicate, List.nil_append, List.length_append, List.length_cons, List.length_nil]; show l6.length + _ ≤ _; omega)) h


theorem V17a7_spec {q : Queue} {p : Packet} {now : Int} {l0 l1 l2 l3 l4 l5 l6 l7 : List Queued} {K : Queue × List Packet × Int → Prop} (hq : q.lists = [l0, l1, l2, l3, l4, l5, l6, l7]) (hp : p.flow = 7) (hs : Small q.lists) (h : K (putS q p now)) : V17a7 q p now l0 l1 l2 l3 l4 l5 l6 l7 K := by
  obtain ⟨pol, room, lists, vars, seed⟩ := q
  obtain ⟨flow, sub, number, data, size, sent, able, marked⟩ := p
  simp only at hq hp hs
  subst hq hp
  rw [V17a7_eq]; unfold B17a7
  have hsum := hs.sum
  simp only [sumLen_cons, show sumLen [] = 0 from rfl] at hsum
  refine V45_spec (br_of (fun e => ?_) (fun e => ?_))
  · rw [putS_1 (bool_not e)] at h; exact h
  have e0 := bool_nn e
  refine V21_spec hs (br_of (fun e => ?_) (fun e => ?_))
  · rw [putS_2 e0 (openS_1 (bool_not e)) (by decide)] at h; exact h
  have e1 := bool_nn e
  refine V55_spec (br_of (fun e => ?_) (fun e => ?_))
  · rw [putS_2 e0 (openS_2 e1 (bool_not e)) (by decide)] at h; exact h
  have e2 := bool_nn e
  refine br_of (fun e => ?_) (fun e => ?_)
  · rw [putS_2 e0 (openS_3 e1 e2 (by simpa using e)) (by decide)] at h; exact h
  have e3 := openS_0 e1 e2 (by simpa using e)
  refine br_true (clone_ok (n := l0.length) (by omega)) (br_true (room45 (n := l0.length) (by omega)) ?_)
  refine br_true (clone_ok (n := l1.length) (by omega)) (br_true (room45 (n := l1.length) (by omega)) ?_)
  refine br_true (clone_ok (n := l2.length) (by omega)) (br_true (room45 (n := l2.length) (by omega)) ?_)
  refine br_true (clone_ok (n := l3.length) (by omega)) (br_true (room45 (n := l3.length) (by omega)) ?_)
  refine br_true (clone_ok (n := l4.length) (by omega)) (br_true (room45 (n := l4.length) (by omega)) ?_)
  refine br_true (clone_ok (n := l5.length) (by omega)) (br_true (room45 (n := l5.length) (by omega)) ?_)
  refine br_true (clone_ok (n := l6.length) (by omega)) (br_true (room45 (n := l6.length) (by omega)) ?_)
  refine br_true (clone_ok (n := l7.length) (by omega)) (br_true (room45 (n := l7.length) (by omega)) ?_)
  refine ⟨_, V47_spec (q := ⟨pol, room, [l0, l1, l2, l3, l4, l5, l6, l7], vars.set 7 now, seed⟩) hs rfl, ?_⟩
  refine br_of (fun e => ?_) (fun e => ?_)
  · rw [putS_3 e0 e3 (by simpa using e)] at h; exact h
  rw [putS_4 e0 e3 (by simpa using e)] at h
  exact br_true (room45 (by simp only [List.replicate, List.nil_append, List.length_append, List.length_cons, List.length_nil]; show l7.length + _ ≤ _; omega)) h


theorem V17_spec {q : Queue} {p : Packet} {now : Int} {K : Queue × List Packet × Int → Prop} (hs : Small q.lists) (h : K (putS q p now)) : V17 q p now K := by
  rw [V17_eq]; unfold B17 V17_1 V17_2 V17_3 V17_4 V17_5 V17_6 V17_7
  by_cases hv : isPacketS p = true ∧ validS q = true
  · obtain ⟨hp, hv⟩ := hv
    have hl : q.lists.length = 8 := by
      simp only [validS, Bool.and_eq_true, decide_eq_true_eq] at hv
      omega
    have hfl := inS_iff.1 (show inS p.flow 0 7 = true by simp only [isPacketS, Bool.and_eq_true] at hp; exact hp.1.1.1.1.1)
    obtain ⟨l0, l1, l2, l3, l4, l5, l6, l7, hq⟩ : ∃ l0 l1 l2 l3 l4 l5 l6 l7, q.lists = [l0, l1, l2, l3, l4, l5, l6, l7] := by
      rcases hq : q.lists with _ | ⟨l0, _ | ⟨l1, _ | ⟨l2, _ | ⟨l3, _ | ⟨l4, _ | ⟨l5, _ | ⟨l6, _ | ⟨l7, _ | ⟨l8, r⟩⟩⟩⟩⟩⟩⟩⟩⟩ <;> rw [hq] at hl <;> first | exact ⟨l0, l1, l2, l3, l4, l5, l6, l7, rfl⟩ | (exfalso; simp at hl; done) | (exfalso; simp at hl; omega)
    rw [hq]
    have : p.flow = 0 ∨ p.flow = 1 ∨ p.flow = 2 ∨ p.flow = 3 ∨ p.flow = 4 ∨ p.flow = 5 ∨ p.flow = 6 ∨ p.flow = 7 := by omega
    rcases this with e | e | e | e | e | e | e | e

    · exact .inl ⟨e, V17a0_spec hq e hs h⟩
    · exact .inr (.inl ⟨e, V17a1_spec hq e hs h⟩)
    · exact .inr (.inr (.inl ⟨e, V17a2_spec hq e hs h⟩))
    · exact .inr (.inr (.inr (.inl ⟨e, V17a3_spec hq e hs h⟩)))
    · exact .inr (.inr (.inr (.inr (.inl ⟨e, V17a4_spec hq e hs h⟩))))
    · exact .inr (.inr (.inr (.inr (.inr (.inl ⟨e, V17a5_spec hq e hs h⟩)))))
    · exact .inr (.inr (.inr (.inr (.inr (.inr (.inl ⟨e, V17a6_spec hq e hs h⟩))))))
    · exact .inr (.inr (.inr (.inr (.inr (.inr (.inr (.inl ⟨e, V17a7_spec hq e hs h⟩)))))))
  · refine .inr (.inr (.inr (.inr (.inr (.inr (.inr (.inr ?_)))))))
    rw [V17b_eq]; unfold B17b
    refine V45_spec (br_of (fun e => ?_) (fun e => ?_))
    · rw [putS_1 (bool_not e)] at h; exact h
    have e0 := bool_nn e
    refine V21_spec hs (br_of (fun e => ?_) (fun e => ?_))
    · rw [putS_2 e0 (openS_1 (bool_not e)) (by decide)] at h; exact h
    exact absurd ⟨e0, bool_nn e⟩ hv
end Go.Vg.Ytgekegoflaichaa
