/-
  The laws of chapter 22: DeficitConserves. Own work; no condition.
-/
import Derived.Test.YtgekegoflaichaaDf
import Derived.Test.YtgekegoflaichaaN
set_option maxRecDepth 10000
namespace Go.Vg.Ytgekegoflaichaa
open Go.Vg Go.Proofs

theorem fit_u16 {n : Int} (h : fitI .u16 n) : 0 ≤ n ∧ n ≤ 65535 := by
  have h : (decide (IntKind.u16.min ≤ n) && decide (n ≤ IntKind.u16.max)) = true := h
  simp only [Bool.and_eq_true, decide_eq_true_eq] at h
  have h1 : IntKind.u16.min = 0 := by kernel_rfl
  have h2 : IntKind.u16.max = 65535 := by kernel_rfl
  rw [h1, h2] at h
  exact h

theorem allP_len (ls : List (List Queued)) : (allP ls).length = sumLen ls := by
  induction ls with
  | nil => rfl
  | cons x r ih => simp only [allP, List.flatMap_cons, List.length_append, List.length_map] at ih ⊢; rw [ih, sumLen_cons]

theorem l410_spec {st : List Step} {x2 x3 : Bool} {a1 a2 a3 a4 a5 sd : Int} {ls : List (List Queued)} (hs : Small ls) {v : List Int} {i : Nat} (hi : i < ls.length) {l : List Queued} (hl : ls.getD i [] = l)
    {k2 : List Step → Bool → Bool → Int → Int → Int → Int → Int → Int → List (List Queued) → List Int → Int → List Packet → Prop} :
    ∀ (d : List Queued) (j : Nat) (acc : List Packet), l.drop j = d → acc.length ≤ 10000000 - d.length → d.length ≤ 1000000 → k2 st x2 x3 i a1 a2 a3 a4 a5 ls v sd (acc ++ d.map (·.p)) → ∃ k, l_4_10 k st x2 x3 i j a1 a2 a3 a4 a5 ls v sd acc k2 := by
  intro d
  have hl' : ls.getD (i : Int).toNat (env.d 43) = l := hl
  have hin : inb (i : Int) (ls.length : Int) = true := inb_of (by omega) (by omega)
  have hlen := sumLen_getD ls i
  have hsum := hs.sum
  rw [hl] at hlen
  induction d with
  | nil =>
    intro j acc hd _ _ hk
    have : l.length ≤ j := by simpa using hd
    refine ⟨1, br_true hin (br_false ?_ (by simpa using hk))⟩
    rw [hl']; simp; omega
  | cons x r ih =>
    intro j acc hd ha hd2 hk
    have hlt := lt_drop hd
    simp only [List.length_cons] at ha hd2
    have hg : l.getD (j : Int).toNat (env.d 45) = x := getD_drop (by simpa using hd)
    have hw : IntKind.i64.wrap ((j : Int) + 1) = ((j + 1 : Nat) : Int) := by rw [wrapi (by omega) (by omega)]; rfl
    obtain ⟨k, hk⟩ := ih (j + 1) (acc ++ [x.p]) (drop_next hd) (by simp; omega) (by omega) (by simpa using hk)
    refine ⟨k + 1, br_true hin (br_true ?_ (br_true hin (br_true ?_ (br_true (room30 (by simp; omega)) ?_))))⟩
    · rw [hl']; simpa using hlt
    · rw [hl']; exact inb_of (by omega) (by omega)
    · rw [hl', hg, hw]; exact hk

theorem l47c_spec {st : List Step} {x2 x3 : Bool} {a1 a2 a3 a4 a5 sd : Int} {ls : List (List Queued)} (hs : Small ls) {v : List Int}
    {k0 : List Step → Bool → Bool → Int → Int → Int → Int → Int → List (List Queued) → List Int → Int → List Packet → Prop} (hk : k0 st x2 x3 a1 a2 a3 a4 a5 ls v sd (allP ls)) :
    ∀ (d : List (List Queued)) (i : Nat) (acc : List Packet), ls.drop i = d → acc ++ allP d = allP ls → ∃ k, l_4_7 k st x2 x3 i a1 a2 a3 a4 a5 ls v sd acc k0 := by
  intro d
  induction d with
  | nil =>
    intro i acc hd ha
    have : ls.length ≤ i := by simpa using hd
    refine ⟨1, br_false (by simp; omega) ?_⟩
    have : acc = allP ls := by rw [← ha]; simp [allP]
    rw [this]; exact hk
  | cons x r ih =>
    intro i acc hd ha
    have hlt := lt_drop hd
    have hg : ls.getD i [] = x := by
      have : ls.getD (i : Int).toNat ([] : List Queued) = x := getD_drop (by simpa using hd)
      simpa using this
    have hlen := hs.len
    have hsum := hs.sum
    have hlx := sumLen_getD ls i
    rw [hg] at hlx
    have hw : IntKind.i64.wrap ((i : Int) + 1) = ((i + 1 : Nat) : Int) := by rw [wrapi (by omega) (by omega)]; rfl
    have hal := congrArg List.length ha
    rw [List.length_append, allP_len, allP_len, sumLen_cons] at hal
    obtain ⟨k, hk'⟩ := ih (i + 1) (acc ++ x.map (·.p)) (drop_next hd) (by rw [List.append_assoc, ← ha]; rfl)
    refine ⟨k + 1, br_true (by simpa using hlt) ?_⟩
    refine l410_spec hs hlt hg x 0 acc rfl (by omega) (by omega) ?_
    rw [hw]; exact hk'

theorem s433_spec {st : List Step} {x2 x3 : Bool} {now : Int} {i : Int} {q : Queue} {came went : List Packet} (k : Kept q came went) {kr : Bool → Prop} {kn : List Step → Bool → Bool → Int → Int → Int → Int → Int → Int → Int → List (List Queued) → List Int → Int → List Packet → List Packet → Prop}
    (h : kn st x2 x3 now i q.policy.kind q.policy.a q.policy.b q.policy.c q.room q.lists q.vars q.seed came went) : s_4_33 st x2 x3 now i q.policy.kind q.policy.a q.policy.b q.policy.c q.room q.lists q.vars q.seed came went kr kn := by
  unfold s_4_33
  refine V22_spec (q := q) ⟨k.len8, k.fit⟩ (valid_small k.valid) ?_
  rw [validS_iff.2 k.valid]
  exact br_false rfl h

/-- The time of the next call. -/
def nextT (now w : Int) : Int := if now + w < 10000000 then now + w else 10000000
theorem nextT_ok {now w : Int} (h : 0 ≤ now ∧ now ≤ 10000000) (hw : 0 ≤ w ∧ w ≤ 65535) : now ≤ nextT now w ∧ 0 ≤ nextT now w ∧ nextT now w ≤ 10000000 := by unfold nextT; split <;> omega

theorem l415_spec {st : List Step} (hst : ∀ s ∈ st, 0 ≤ s.wait ∧ s.wait ≤ 65535) (hl : st.length ≤ 200) {x2 x3 : Bool} {kr : Bool → Prop} {k4 : Bool → Bool → Int → Int → Int → Int → Int → List (List Queued) → List Int → Int → List Packet → List Packet → Prop}
    (hk : ∀ (q : Queue) (came went : List Packet), Kept q came went → came.length ≤ 1001000 → went.length ≤ 1001000 → k4 x2 x3 q.policy.kind q.policy.a q.policy.b q.policy.c q.room q.lists q.vars q.seed came went) :
    ∀ (d : List Step) (i : Nat) (now : Int) (q : Queue) (came went : List Packet), st.drop i = d → i ≤ st.length → Kept q came went → q.vars.getD 7 0 ≤ now → 0 ≤ now ∧ now ≤ 10000000 → came.length ≤ 1000000 + i → went.length ≤ i →
    ∃ k, l_4_15 k st x2 x3 now i q.policy.kind q.policy.a q.policy.b q.policy.c q.room q.lists q.vars q.seed came went kr k4 := by
  intro d
  induction d with
  | nil =>
    intro i now q came went hd hil k _ _ hc hw
    have : st.length ≤ i := by simpa using hd
    exact ⟨1, br_false (by simp; omega) (hk q came went k (by omega) (by omega))⟩
  | cons s r ih =>
    intro i now q came went hd hil k h7 hn hc hw
    have hlt := lt_drop hd
    have hg : st.getD (i : Int).toNat (env.d 48) = s := getD_drop (by simpa using hd)
    have hwr : IntKind.i64.wrap ((i : Int) + 1) = ((i + 1 : Nat) : Int) := by rw [wrapi (by omega) (by omega)]; rfl
    have hin : inb (i : Int) (st.length : Int) = true := inb_of (by omega) (by omega)
    have hs := hst s (List.mem_of_mem_drop (i := i) (by rw [hd]; exact List.mem_cons_self))
    have ht : (if IntKind.i64.wrap (now + IntKind.i64.wrap s.wait) < 10000000 then IntKind.i64.wrap (now + IntKind.i64.wrap s.wait) else 10000000) = nextT now s.wait := by
      rw [wrapi (n := s.wait) (by omega) (by omega), wrapi (n := now + s.wait) (by omega) (by omega)]; rfl
    obtain ⟨t1, t2, t3⟩ := nextT_ok hn hs
    have ho : openS q (nextT now s.wait) = 0 := openS_0 (validS_iff.2 k.valid) (inS_true t2 t3) (by omega)
    have hsm := valid_small k.valid
    by_cases htk : s.take = true
    · -- a packet is taken
      have k1 := kept_take (now := nextT now s.wait) k ho
      obtain ⟨h1, h2⟩ := take_is ho
      have h4 : (takeS q (nextT now s.wait)).2.2.2.1 = [] := by
        rcases takeS_cases q (nextT now s.wait) with ⟨_, h'⟩ | ⟨_, _, h'⟩ | ⟨_, _, t, d, x, r, hr, w, hx, hle, h'⟩ <;> rw [h']
      have v7 := take_v7 k.len8 ho
      obtain ⟨m, hm⟩ := ih (i + 1) (nextT now s.wait) _ came (if (takeS q (nextT now s.wait)).2.2.1 = true then went ++ [(takeS q (nextT now s.wait)).2.1] else went) (drop_next hd) (by omega) k1 (by omega) ⟨t2, t3⟩ (by omega) (by split <;> (try rw [List.length_append, List.length_singleton]) <;> omega)
      refine ⟨m + 1, br_true (by simpa using hlt) (br_true hin (br_true hin ?_))⟩
      rw [hg]
      refine V26_spec (br_true hin (br_true htk ?_))
      rw [ht]
      refine V19_spec (q := q) hsm k.len8 (br_false (by rw [h2]; rfl) (br_false (by rw [h4]; rfl) (V27_spec (q := q) hsm (br_false ?_ ?_))))
      · rw [h1]; simp
      · unfold s_4_23
        refine br_of (fun e => ?_) (fun e => ?_)
        · rw [e, if_pos rfl] at hm k1
          refine br_true (room30 (by simp; omega)) (s433_spec k1 ?_)
          rw [hwr]; exact hm
        · rw [e, if_neg (by decide)] at hm k1
          refine s433_spec k1 ?_
          rw [hwr]; exact hm
    · have htk : s.take = false := by simpa using htk
      by_cases hp : isPacketS s.p = true
      · have k1 := kept_put (now := nextT now s.wait) k hp ho
        have h2 := put_ok hp ho
        have v7 : (putS q s.p (nextT now s.wait)).1.vars.getD 7 0 = nextT now s.wait := by
          rcases putS_cases q s.p (nextT now s.wait) with ⟨h', _⟩ | ⟨_, h', _⟩ | ⟨_, _, _, h'⟩ | ⟨_, _, _, h'⟩
          · rw [hp] at h'; cases h'
          · exact absurd ho h'
          · rw [h']; exact set7_get k.len8
          · rw [h']; exact set7_get k.len8
        obtain ⟨m, hm⟩ := ih (i + 1) (nextT now s.wait) _ (if (putS q s.p (nextT now s.wait)).2.1 = [] then came ++ [s.p] else came) went (drop_next hd) (by omega) k1 (by omega) ⟨t2, t3⟩ (by split <;> (try rw [List.length_append, List.length_singleton]) <;> omega) (by omega)
        refine ⟨m + 1, br_true (by simpa using hlt) (br_true hin (br_true hin ?_))⟩
        rw [hg]
        refine V26_spec ?_
        rw [hp]
        refine br_true hin (br_false htk (br_true rfl (br_true hin ?_)))
        rw [ht]
        refine ⟨putS q s.p (nextT now s.wait), V17_spec (q := q) hsm rfl, br_false (by rw [h2]; rfl) ?_⟩
        rcases put_len (p := s.p) hp ho with ⟨h3, h4⟩ | ⟨h3, h4⟩
        · rw [h3] at hm k1 ⊢
          rw [if_neg (by simp)] at hm k1
          refine br_false rfl ⟨_, V27_spec (q := q) hsm rfl, br_false (by simp [h4]) (br_true rfl (br_true rfl (br_true hin (br_false ?_ ?_))))⟩
          · rw [show ([s.p] : List Packet).getD 0 (env.d 30) = s.p from rfl, packet_same]; rfl
          · unfold s_4_30
            refine br_false rfl (s433_spec k1 ?_)
            rw [hwr]; exact hm
        · rw [h3] at hm k1 ⊢
          rw [if_pos rfl] at hm k1
          refine br_false rfl ⟨_, V27_spec (q := q) hsm rfl, br_false (by simp [h4]) (br_false rfl ?_)⟩
          unfold s_4_30
          refine br_true rfl (br_true hin ?_)
          rw [hg]
          refine br_true (room30 (by simp; omega)) (s433_spec k1 ?_)
          rw [hwr]; exact hm
      · have hp : isPacketS s.p = false := by simpa using hp
        obtain ⟨m, hm⟩ := ih (i + 1) (nextT now s.wait) q came went (drop_next hd) (by omega) k (by omega) ⟨t2, t3⟩ (by omega) (by omega)
        refine ⟨m + 1, br_true (by simpa using hlt) (br_true hin (br_true hin ?_))⟩
        rw [hg]
        refine V26_spec ?_
        rw [hp]
        refine br_true hin (br_false htk (br_false rfl (s433_spec k ?_)))
        rw [ht, hwr]; exact hm

theorem l283_spec {l : List Packet} (hl : l.length ≤ 10000000) {f : Int} {k0 : List Packet → Prop} : ∀ (d : List Packet) (i : Nat) (acc : List Packet), l.drop i = d → acc.length ≤ i → k0 (acc ++ ofS d f) → ∃ k, l_28_3 k l f i acc k0 := by
  intro d
  induction d with
  | nil =>
    intro i acc hd _ hk
    have : l.length ≤ i := by simpa using hd
    exact ⟨1, br_false (by simp; omega) (by simpa [ofS] using hk)⟩
  | cons x r ih =>
    intro i acc hd ha hk
    have hlt := lt_drop hd
    have hg : l.getD (i : Int).toNat (env.d 30) = x := getD_drop (by simpa using hd)
    have hw : IntKind.i64.wrap ((i : Int) + 1) = ((i + 1 : Nat) : Int) := by rw [wrapi (by omega) (by omega)]; rfl
    have hin : inb (i : Int) (l.length : Int) = true := inb_of (by omega) (by omega)
    have hk : k0 (acc ++ (ofS [x] f ++ ofS r f)) := by
      rw [← ofS_append]; exact hk
    rw [ofS_one] at hk
    by_cases e : x.flow = f
    · rw [if_pos e] at hk
      obtain ⟨k, hk⟩ := ih (i + 1) (acc ++ [x]) (drop_next hd) (by simp; omega) (by rw [List.append_assoc]; exact hk)
      refine ⟨k + 1, br_true (by simpa using hlt) (br_true hin ?_)⟩
      rw [hg]
      refine br_true (by simpa using e) (br_true hin (br_true (room30 (by simp; omega)) ?_))
      rw [hw]; exact hk
    · rw [if_neg e] at hk
      obtain ⟨k, hk⟩ := ih (i + 1) acc (drop_next hd) (by omega) hk
      refine ⟨k + 1, br_true (by simpa using hlt) (br_true hin ?_)⟩
      rw [hg]
      refine br_false (by simpa using e) ?_
      rw [hw]; exact hk
theorem V28_spec {l : List Packet} (hl : l.length ≤ 10000000) {f : Int} {K : List Packet → Prop} (h : K (ofS l f)) : V28 l f K := by
  rw [V28_eq]; unfold B28
  exact l283_spec hl l 0 [] rfl (by simp) (by simpa using h)

theorem l441_spec {x1 x2 : Bool} {a1 a2 a3 a4 a5 sd : Int} {ls : List (List Queued)} (hs : Small ls) {v : List Int} {i : Nat} (hi : i < ls.length) {l : List Queued} (hl : ls.getD i [] = l) {came went : List Packet}
    {k8 : Bool → Bool → Int → Int → Int → Int → Int → Int → List (List Queued) → List Int → Int → List Packet → List Packet → List Packet → Prop} :
    ∀ (d : List Queued) (j : Nat) (acc : List Packet), l.drop j = d → acc.length + d.length ≤ 20000000 → k8 x1 x2 i a1 a2 a3 a4 a5 ls v sd came went (acc ++ d.map (·.p)) → ∃ k, l_4_41 k x1 x2 i j a1 a2 a3 a4 a5 ls v sd came went acc k8 := by
  intro d
  have hl' : ls.getD (i : Int).toNat (env.d 43) = l := hl
  have hlen0 := hs.len
  have hin : inb (i : Int) (ls.length : Int) = true := inb_of (by omega) (by omega)
  have hlen := sumLen_getD ls i
  have hsum := hs.sum
  rw [hl] at hlen
  induction d with
  | nil =>
    intro j acc hd _ hk
    have : l.length ≤ j := by simpa using hd
    refine ⟨1, br_true hin (br_false ?_ (by simpa using hk))⟩
    rw [hl']; simp; omega
  | cons x r ih =>
    intro j acc hd ha hk
    have hlt := lt_drop hd
    simp only [List.length_cons] at ha
    have hg : l.getD (j : Int).toNat (env.d 45) = x := getD_drop (by simpa using hd)
    have hw : IntKind.i64.wrap ((j : Int) + 1) = ((j + 1 : Nat) : Int) := by rw [wrapi (by omega) (by omega)]; rfl
    obtain ⟨k, hk⟩ := ih (j + 1) (acc ++ [x.p]) (drop_next hd) (by simp; omega) (by simpa using hk)
    refine ⟨k + 1, br_true hin (br_true ?_ (br_true hin (br_true ?_ (br_true (room30 (by simp; omega)) ?_))))⟩
    · rw [hl']; simpa using hlt
    · rw [hl']; exact inb_of (by omega) (by omega)
    · rw [hl', hg, hw]; exact hk

theorem ofS_len (l : List Packet) (f : Int) : (ofS l f).length ≤ l.length := List.length_filter_le _ _

theorem l437_spec {x1 : Bool} {q : Queue} {came went : List Packet} (k : Kept q came went) (hc : came.length ≤ 1001000) (hw2 : went.length ≤ 1001000) {k6 : Bool → Bool → Prop} (hk : k6 x1 true) :
    ∀ (m i : Nat), i + m = 8 → ∃ k, l_4_37 k x1 true i q.policy.kind q.policy.a q.policy.b q.policy.c q.room q.lists q.vars q.seed came went k6 := by
  intro m
  induction m with
  | zero => intro i hi; exact ⟨1, br_false (by simp; omega) hk⟩
  | succ m ih =>
    intro i hi
    have hw : IntKind.i64.wrap ((i : Int) + 1) = ((i + 1 : Nat) : Int) := by rw [wrapi (by omega) (by omega)]; rfl
    obtain ⟨n, hn⟩ := ih (i + 1) (by omega)
    have hl8 := k.valid.len
    have hsm := valid_small k.valid
    have hlen := sumLen_getD q.lists i
    have hsum := hsm.sum
    have hof := ofS_len went i
    have hof2 := ofS_len came i
    refine ⟨n + 1, br_true (by simp; omega) (V28_spec (by omega) ?_)⟩
    refine l441_spec hsm (by omega) rfl (q.lists.getD i []) 0 (ofS went i) rfl (by omega) ?_
    refine br_true rfl (V28_spec (by omega) ?_)
    rw [← k.same i (by omega)]
    refine V24_refl (by omega) ?_
    rw [hw]; exact hn

theorem pureDeficitConserves (q : Queue) (st : List Step) (hq : fitQueue q) (hst : (∀ z0 ∈ st, fitStep z0) ∧ List.length st ≤ 9223372036854775807) : V4 q st (fun b => b = true) := by
  rw [V4_eq]; unfold B4
  have hf := fit_q hq
  refine V15_spec (V25_spec hf hq.lists.2 (br_of (fun _ => rfl) (fun e => ?_)))
  have e := bool_nn e
  simp only [Bool.and_eq_true] at e
  obtain ⟨e1, e2⟩ := e
  have hs := few_small e1
  have vp := validS_iff.1 e2
  refine br_of (fun _ => rfl) (fun e3 => ?_)
  have hl : st.length ≤ 200 := by simp at e3; omega
  have hw : ∀ s ∈ st, 0 ≤ s.wait ∧ s.wait ≤ 65535 := fun s h => fit_u16 (hst.1 s h).wait
  unfold s_4_5
  refine l47c_spec hs ?_ q.lists 0 [] rfl rfl
  have k0 := kept_start vp hf
  have hall := allP_len q.lists
  have hsum := hs.sum
  refine l415_spec (x2 := false) (x3 := true) (kr := fun b => b = true) hw hl (fun q' came went k hc hw => ?_) st 0 (q.vars.getD 7 0) q (allP q.lists) [] rfl (by omega) k0 (by omega) ⟨vp.v7.1, vp.v7.2⟩ (by omega) (by simp)
  exact l437_spec (x1 := false) (k6 := fun _ b => b = true) k hc hw rfl 8 0 rfl

end Go.Vg.Ytgekegoflaichaa
