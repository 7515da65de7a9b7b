/-
  What the walked functions of chapter 30 come to (3): the reference's Receive, what was played, the example. Own work; no condition.
-/
import Derived.Test.YtgekegoflaichaaUb
namespace Go.Vg.Ytgekegoflaichaa
open Go.Vg Go.Proofs

theorem adv_filter : ∀ {l : List Int} {n : Int}, l.Pairwise (· < ·) → (∀ x ∈ l, n ≤ x) → (adv n l).2 = l.filter (fun x => decide ((adv n l).1 ≤ x)) ∧ n ≤ (adv n l).1 ∧ (adv n l).1 ∉ l ∧ (adv n l).1 ≤ n + l.length
  | [], n, _, _ => by simp [adv]
  | x :: r, n, hs, hb => by
    rw [List.pairwise_cons] at hs
    by_cases hx : x = n
    · subst hx
      have hr : ∀ y ∈ r, x + 1 ≤ y := fun y hy => by have := hs.1 y hy; omega
      obtain ⟨h1, h2, h3, h4⟩ := adv_filter hs.2 hr
      have e : adv x (x :: r) = adv (x + 1) r := by simp [adv]
      rw [e]
      refine ⟨?_, by omega, ?_, by simp only [List.length_cons]; omega⟩
      · rw [List.filter_cons_of_neg (by simp; omega)]; exact h1
      · simp only [List.mem_cons, not_or]
        exact ⟨by omega, h3⟩
    · have e : adv n (x :: r) = (n, x :: r) := by simp [adv, hx]
      rw [e]
      refine ⟨?_, by simp, ?_, by simp; omega⟩
      · rw [List.filter_eq_self.2 (fun y hy => by simpa using hb y hy)]
      · intro hm
        rcases List.mem_cons.1 hm with h | h
        · exact hx h.symm
        · have h5 := hs.1 _ h
          have h6 := hb x (by simp)
          have : n < n := by omega
          omega

theorem l66n_spec {next : Int} {have_ : List Int} (hl : have_.length ≤ 100000) {d x4 : Int} {k0 : Int → Int → List Int → Int → Int → Prop} : ∀ (l pre : List Int) (n : Int), have_ = pre ++ l → (∀ x ∈ pre, x < n) → l.Pairwise (· < ·) → (∀ x ∈ l, n ≤ x) → next < n → 0 ≤ next → n + l.length ≤ 3000000000 → k0 d next have_ x4 (adv n l).1 → ∃ k, l_66_5 k d next have_ x4 n k0 := by
  intro l
  induction l with
  | nil =>
    intro pre n he hp _ _ hn _ _ h
    have : hasS ⟨next, have_⟩ n = false := by
      simp only [hasS, Bool.or_eq_false_iff, decide_eq_false_iff_not]
      refine ⟨by omega, fun hm => ?_⟩
      rw [he, List.append_nil] at hm
      have := hp _ hm; omega
    exact ⟨1, V44_spec (by show have_.length ≤ _; omega) (br_false this h)⟩
  | cons x r ih =>
    intro pre n he hp hs hb hn h0 hbd h
    rw [List.pairwise_cons] at hs
    simp only [List.length_cons] at hbd
    have hw : IntKind.i64.wrap (n + 1) = n + 1 := wrapi (by omega) (by omega)
    by_cases hx : x = n
    · have h' : k0 d next have_ x4 (adv (n + 1) r).1 := by simpa [adv, hx] using h
      obtain ⟨k, hk⟩ := ih (pre ++ [x]) (n + 1) (by simp [he]) (fun y hy => by
        rcases List.mem_append.1 hy with hy | hy
        · have := hp y hy; omega
        · simp at hy; omega) hs.2 (fun y hy => by have := hs.1 y hy; omega) (by omega) h0 (by omega) h'
      refine ⟨k + 1, V44_spec (by show have_.length ≤ _; omega) (br_true ?_ ?_)⟩
      · simp only [hasS, Bool.or_eq_true, decide_eq_true_eq]
        exact .inr (by show n ∈ have_; rw [he, hx]; simp)
      · rw [hw]; exact hk
    · have h' : k0 d next have_ x4 n := by simpa [adv, hx] using h
      refine ⟨1, V44_spec (by show have_.length ≤ _; omega) (br_false ?_ h')⟩
      simp only [hasS, Bool.or_eq_false_iff, decide_eq_false_iff_not]
      refine ⟨by omega, fun hm => ?_⟩
      have hm : n ∈ have_ := hm
      rw [he] at hm
      rcases List.mem_append.1 hm with hm | hm
      · have := hp _ hm; omega
      · rcases List.mem_cons.1 hm with hm | hm
        · exact hx hm.symm
        · have h5 := hs.1 _ hm
          have h6 := hb x (by simp)
          omega

section
variable {next d : Int} {l : List Int} (hl : l.length ≤ 100000) {x6 : Int} {k2 : Int → Bool → Int → List Int → Int → Int → List Int → Prop}
include hl

/-- The tail of a round of the copying loop. -/
theorem tail66 {b : Bool} {i : Nat} {x n : Int} {acc : List Int} {k : Nat} (hlt : i < l.length) (hg : l.getD (i : Int).toNat (env.d 3) = x) (ha : acc.length ≤ 500000)
    (h1 : n ≤ x → l_66_9 k d b (i + 1 : Nat) next l x6 n (acc ++ [x]) k2) (h2 : ¬ n ≤ x → l_66_9 k d b (i + 1 : Nat) next l x6 n acc k2) :
    br (inb (i : Int) (l.length : Int)) (br (decide (l.getD (i : Int).toNat (env.d 3) ≥ n)) (br (inb (i : Int) (l.length : Int)) (br (roomB (acc ++ [l.getD (i : Int).toNat (env.d 3)]).length (bytesB env 3)) (l_66_9 k d b (IntKind.i64.wrap ((i : Int) + 1)) next l x6 n (acc ++ [l.getD (i : Int).toNat (env.d 3)]) k2) False) False) (l_66_9 k d b (IntKind.i64.wrap ((i : Int) + 1)) next l x6 n acc k2)) False := by
  have hwi : IntKind.i64.wrap ((i : Int) + 1) = ((i + 1 : Nat) : Int) := by rw [wrapi (by omega) (by omega)]; rfl
  have hin : inb (i : Int) (l.length : Int) = true := inb_of (by omega) (by omega)
  rw [hg, hwi]
  refine br_true hin (br_of (fun e => br_true hin (br_true (room3 (by simp; omega)) (h1 (by simpa using e)))) (fun e => h2 (by simpa using e)))

theorem l66e_spec {b : Bool} {n : Int} (hd : ¬ d > next) : ∀ (r : List Int) (i : Nat) (acc : List Int), l.drop i = r → acc.length + r.length ≤ 500000 → k2 d b next l x6 n (acc ++ r.filter (fun x => decide (n ≤ x))) → ∃ k, l_66_9 k d b i next l x6 n acc k2 := by
  intro r
  induction r with
  | nil =>
    intro i acc hdr _ h
    have : l.length ≤ i := by simpa using hdr
    have h : k2 d b next l x6 n acc := by simpa using h
    exact ⟨1, br_false (by simp; omega) h⟩
  | cons x r ih =>
    intro i acc hdr ha h
    have hlt := lt_drop hdr
    have hg : l.getD (i : Int).toNat (env.d 3) = x := getD_drop (by simpa using hdr)
    simp only [List.length_cons] at ha
    by_cases hx : n ≤ x
    · obtain ⟨k, hk⟩ := ih (i + 1) (acc ++ [x]) (drop_next hdr) (by simp; omega) (by simpa [hx] using h)
      exact ⟨k + 1, br_true (by simpa using hlt) (br_false (by simpa using hd) (br_f (tail66 hl hlt hg (by omega) (fun _ => hk) (fun h => absurd hx h))))⟩
    · obtain ⟨k, hk⟩ := ih (i + 1) acc (drop_next hdr) (by omega) (by simpa [hx] using h)
      exact ⟨k + 1, br_true (by simpa using hlt) (br_false (by simpa using hd) (br_f (tail66 hl hlt hg (by omega) (fun h => absurd h hx) (fun _ => hk))))⟩

theorem l66t_spec (hd : d > next) : ∀ (r : List Int) (i : Nat) (acc : List Int), l.drop i = r → (∀ x ∈ r, next ≤ x) → acc.length + r.length ≤ 500000 → k2 d true next l x6 next (acc ++ r) → ∃ k, l_66_9 k d true i next l x6 next acc k2 := by
  intro r
  induction r with
  | nil =>
    intro i acc hdr _ _ h
    have : l.length ≤ i := by simpa using hdr
    have h : k2 d true next l x6 next acc := by simpa using h
    exact ⟨1, br_false (by simp; omega) h⟩
  | cons x r ih =>
    intro i acc hdr hb ha h
    have hlt := lt_drop hdr
    have hg : l.getD (i : Int).toNat (env.d 3) = x := getD_drop (by simpa using hdr)
    simp only [List.length_cons] at ha
    have hin : inb (i : Int) (l.length : Int) = true := inb_of (by omega) (by omega)
    obtain ⟨k, hk⟩ := ih (i + 1) (acc ++ [x]) (drop_next hdr) (fun y hy => hb y (by simp [hy])) (by simp; omega) (by simpa using h)
    have t := tail66 (d := d) (next := next) (x6 := x6) (k2 := k2) (b := true) (n := next) (acc := acc) (k := k) hl hlt hg (by omega) (fun _ => hk) (fun h => absurd (hb x (by simp)) h)
    exact ⟨k + 1, br_true (by simpa using hlt) (br_true (by simpa using hd) (br_true hin (br_of (fun _ => br_f t) (fun _ => br_f t))))⟩

theorem l66f_spec (hd : d > next) : ∀ (r : List Int) (i : Nat) (acc : List Int), l.drop i = r → (∀ x ∈ r, next ≤ x) → d ∉ r → acc.length + r.length ≤ 400000 →
    (∀ b acc', (if b = true then acc' else acc' ++ [d]) = acc ++ ins d r → acc'.length ≤ 500000 → k2 d b next l x6 next acc') → ∃ k, l_66_9 k d false i next l x6 next acc k2 := by
  intro r
  induction r with
  | nil =>
    intro i acc hdr _ _ ha h
    have : l.length ≤ i := by simpa using hdr
    exact ⟨1, br_false (by simp; omega) (h false acc (by simp [ins]) (by omega))⟩
  | cons x r ih =>
    intro i acc hdr hb hm ha h
    have hlt := lt_drop hdr
    have hg : l.getD (i : Int).toNat (env.d 3) = x := getD_drop (by simpa using hdr)
    simp only [List.length_cons] at ha
    have hin : inb (i : Int) (l.length : Int) = true := inb_of (by omega) (by omega)
    simp only [List.mem_cons, not_or] at hm
    by_cases hx : d < x
    · obtain ⟨k, hk⟩ := l66t_spec hl (x6 := x6) (k2 := k2) hd r (i + 1) (acc ++ [d] ++ [x]) (drop_next hdr) (fun y hy => hb y (by simp [hy])) (by simp; omega)
        (h true _ (by simp [ins, show ¬ x < d by omega]) (by simp; omega))
      have t := tail66 (d := d) (next := next) (x6 := x6) (k2 := k2) (b := true) (n := next) (acc := acc ++ [d]) (k := k) hl hlt hg (by simp; omega) (fun _ => hk) (fun h => absurd (hb x (by simp)) h)
      refine ⟨k + 1, br_true (by simpa using hlt) (br_true (by simpa using hd) (br_true hin ?_))⟩
      rw [hg]
      refine br_true (by simpa using hx) (br_t (br_true (room3 (by simp; omega)) ?_))
      exact t
    · obtain ⟨k, hk⟩ := ih (i + 1) (acc ++ [x]) (drop_next hdr) (fun y hy => hb y (by simp [hy])) hm.2 (by simp; omega)
        (fun b acc' he hl' => h b acc' (by rw [he]; simp [ins, show x < d by omega]) hl')
      have t := tail66 (d := d) (next := next) (x6 := x6) (k2 := k2) (b := false) (n := next) (acc := acc) (k := k) hl hlt hg (by omega) (fun _ => hk) (fun h => absurd (hb x (by simp)) h)
      refine ⟨k + 1, br_true (by simpa using hlt) (br_true (by simpa using hd) (br_true hin (br_false ?_ (br_f t))))⟩
      rw [hg]; simpa using hx
end

theorem V66_spec {r : Receiver} {d hi : Int} (hl : r.have_.length ≤ 100000) (hc : chain r.next_ hi r.have_ = true) (h0 : 0 ≤ r.next_) (h1 : r.next_ ≤ 1000000000) (hge : r.next_ ≤ d) (hm : d ∉ r.have_) {K : Receiver → Prop}
    (h : K (if d = r.next_ then ⟨(adv (r.next_ + 1) r.have_).1, (adv (r.next_ + 1) r.have_).2⟩ else ⟨r.next_, ins d r.have_⟩)) : V66 r d K := by
  rw [V66_eq]; unfold B66
  obtain ⟨hs, hb⟩ := chain_pair hc
  refine br_of (fun e => ?_) (fun e => ?_)
  · have e : d = r.next_ := by simpa using e
    subst e
    rw [if_pos rfl] at h
    have hb' : ∀ x ∈ r.have_, r.next_ + 1 ≤ x := fun x hx => by have := (hb x hx).1; omega
    have hw : IntKind.i64.wrap (r.next_ + 1) = r.next_ + 1 := wrapi (by omega) (by omega)
    rw [hw]
    refine l66n_spec hl r.have_ [] (r.next_ + 1) rfl (by simp) hs hb' (by omega) h0 (by omega) ?_
    have hf := (adv_filter hs hb').1
    refine l66e_spec hl (by omega) r.have_ 0 [] rfl (by simp; omega) (br_false (by simp) ?_)
    rw [List.nil_append, ← hf]
    exact h
  · have e : d ≠ r.next_ := by simpa using e
    rw [if_neg e] at h
    have hd : d > r.next_ := by omega
    refine l66f_spec hl hd r.have_ 0 [] rfl (fun x hx => by have := (hb x hx).1; omega) hm (by simp; omega) (fun b acc he hlen => br_true (by simpa using hd) ?_)
    cases b with
    | true =>
      have he : acc = ins d r.have_ := by simpa using he
      refine br_f ?_
      rw [he]; exact h
    | false =>
      have he : acc ++ [d] = ins d r.have_ := by simpa using he
      refine br_t (br_true (room3 (by simp; omega)) ?_)
      rw [he]; exact h

theorem V38_spec {r : Receiver} {w : Int} {p : Packet} (hl : r.have_.length ≤ 100000) {K : Receiver × Ack × Bool × Int → Prop} (h : K (recvS r w p)) : V38 r w p K := by
  rw [V38_eq]; unfold B38
  unfold recvS at h
  refine V40_spec (by omega) (br_of (fun e => ?_) (fun e => ?_))
  · have e : validS r w = false := by simpa using e
    rw [if_pos e] at h; exact h
  have hv : validS r w = true := by simpa using e
  rw [if_neg (by simp [hv])] at h
  refine V26_spec (br_of (fun e => ?_) (fun e => ?_))
  · have e : isPacketS p = false := by simpa using e
    rw [if_pos e] at h; exact h
  have hp : isPacketS p = true := by simpa using e
  rw [if_neg (by simp [hp])] at h
  have hv2 := hv
  simp only [validS, inS, Bool.and_eq_true, decide_eq_true_eq] at hv2
  obtain ⟨⟨hw, hn⟩, hc⟩ := hv2
  have e2 : IntKind.i64.wrap (r.next_ + w) = r.next_ + w := wrapi (by omega) (by omega)
  rw [e2]
  refine br_of (fun e => ?_) (fun e => ?_)
  · have e : r.next_ + w ≤ p.data := by simpa using e
    rw [if_pos e] at h; exact h
  have e : ¬ r.next_ + w ≤ p.data := by simpa using e
  rw [if_neg e] at h
  refine br_of (fun e => ?_) (fun e => ?_)
  · have e : p.data = 1000000000 := by simpa using e
    rw [if_pos e] at h; exact h
  have e : ¬ p.data = 1000000000 := by simpa using e
  rw [if_neg e] at h
  obtain ⟨hs, hb⟩ := chain_pair hc
  refine V44_spec (by omega) (br_true (room3 (by simp; omega)) (br_of (fun e => ?_) (fun e => ?_)))
  · have e : hasS r p.data = false := by simpa using e
    have e3 := e
    simp only [hasS, Bool.or_eq_false_iff, decide_eq_false_iff_not] at e3
    refine V66_spec hl hc hn.1 hn.2 (by omega) e3.2 ?_
    rw [e]
    by_cases hd : p.data = r.next_
    · rw [if_pos hd] at h ⊢; exact h
    · rw [if_neg hd, if_neg e3.1, if_neg e3.2] at h
      rw [if_neg hd]; exact h
  · have e : hasS r p.data = true := by simpa using e
    rw [e]
    simp only [hasS, Bool.or_eq_true, decide_eq_true_eq] at e
    have hd : ¬ p.data = r.next_ := fun hd => by
      rcases e with e | e
      · omega
      · have := (hb _ e).1; omega
    rw [if_neg hd] at h
    rcases e with e | e
    · rw [if_pos e] at h; exact h
    · have := (hb _ e).1
      rw [if_neg (by omega), if_pos e] at h; exact h

theorem V35_spec {K : Bool → Prop} (h : K true) : V35 K := by
  rw [V35_eq]; unfold B35
  refine ⟨dataS 9, V60_spec rfl, recvS ⟨7, []⟩ 4 (dataS 9), V37_spec (by simp) rfl, dataS 7, V60_spec rfl, recvS ⟨7, [9]⟩ 4 (dataS 7), V37_spec (of_decide_eq_true (by kernel_rfl)) (by kernel_rfl), dataS 8, V60_spec rfl, recvS ⟨8, [9]⟩ 4 (dataS 8), V37_spec (of_decide_eq_true (by kernel_rfl)) (by kernel_rfl), dataS 9, V60_spec rfl, recvS ⟨10, []⟩ 4 (dataS 9), V37_spec (of_decide_eq_true (by kernel_rfl)) (by kernel_rfl),
    dataS 14, V60_spec rfl, recvS ⟨10, []⟩ 4 (dataS 14), V37_spec (of_decide_eq_true (by kernel_rfl)) (by kernel_rfl), dataS 9, V60_spec rfl, recvS ⟨7, []⟩ 0 (dataS 9), V37_spec (by simp) rfl, ?_⟩
  have a1 : recvS ⟨7, []⟩ 4 (dataS 9) = (⟨7, [9]⟩, ⟨0, 109, 7, 3, true⟩, true, 0) := by kernel_rfl
  have a2 : recvS ⟨7, [9]⟩ 4 (dataS 7) = (⟨8, [9]⟩, ⟨0, 107, 8, 3, true⟩, true, 0) := by kernel_rfl
  have a3 : recvS ⟨8, [9]⟩ 4 (dataS 8) = (⟨10, []⟩, ⟨0, 108, 10, 3, false⟩, true, 0) := by kernel_rfl
  have a4 : recvS ⟨10, []⟩ 4 (dataS 9) = (⟨10, []⟩, ⟨0, 109, 10, 3, true⟩, false, 0) := by kernel_rfl
  have a5 : recvS ⟨10, []⟩ 4 (dataS 14) = (⟨0, []⟩, ack0, false, 10) := by kernel_rfl
  have a6 : recvS ⟨7, []⟩ 0 (dataS 9) = (⟨0, []⟩, ack0, false, 1) := by kernel_rfl
  rw [a1, a2, a3, a4, a5, a6]
  refine br_t (br_t (br_t (br_t (br_t (br_t (br_t (br_t (br_t (br_t ?_)))))))))
  refine V41_spec (by simp) (fun _ => br_t ?_) (fun h => absurd rfl h)
  refine V41_spec (by simp) (fun _ => br_t ?_) (fun h => absurd rfl h)
  refine V41_spec (by simp) (fun _ => br_t ?_) (fun h => absurd rfl h)
  refine V41_spec (by simp) (fun _ => br_t ?_) (fun h => absurd rfl h)
  refine br_t (br_t (br_t (br_t ?_)))
  refine V39_spec (by simp) (br_true (by kernel_rfl) ?_)
  refine V39_spec (by simp) ?_
  have : validS ⟨7, [9]⟩ 2 = false := by kernel_rfl
  rw [this]; exact h

end Go.Vg.Ytgekegoflaichaa
