/-
  The laws of chapter 30 (4): packets in another order. Own work; no condition.
-/
import Derived.Test.YtgekegoflaichaaUf
import Derived.Test.YtgekegoflaichaaTe
namespace Go.Vg.Ytgekegoflaichaa
open Go.Vg Go.Proofs

theorem adv_ge : ∀ {l : List Int} {n : Int}, n ≤ (adv n l).1
  | [], n => by simp [adv]
  | x :: r, n => by
    by_cases hx : x = n
    · subst hx
      have e : adv x (x :: r) = adv (x + 1) r := by simp [adv]
      rw [e]
      have := adv_ge (l := r) (n := x + 1)
      omega
    · have e : adv n (x :: r) = (n, x :: r) := by simp [adv, hx]
      rw [e]; exact Int.le_refl _

theorem took_next {r : Receiver} {w : Int} {p : Packet} {o : Receiver × Ack × Bool × Int} (ht : Took r w p o) : r.next_ ≤ o.1.next_ := by
  cases ht with
  | next h => have := adv_ge (l := r.have_) (n := r.next_ + 1); show r.next_ ≤ (adv _ _).1; omega
  | old h => exact Int.le_refl _
  | has h h1 => exact Int.le_refl _
  | new h h1 => exact Int.le_refl _

/-- Packets within the window are taken, all of them. -/
theorem play_all {w n0 : Int} : ∀ (ps : List Packet) (r : Receiver) (f : Int) (g : List Int), validS r w = true → n0 ≤ r.next_ → (∀ p ∈ ps, isPacketS p = true) → (∀ p ∈ ps, p.data < n0 + w ∧ p.data ≠ 1000000000) →
    ∃ s f', playS w ps r f g = (s, f', g ++ ps.map (·.data), true) ∧ validS s w = true ∧ (∀ q, (q < s.next_ ∨ q ∈ s.have_) ↔ ((q < r.next_ ∨ q ∈ r.have_) ∨ q ∈ ps.map (·.data))) ∧ s.next_ + s.have_.length = r.next_ + r.have_.length + (f' - f)
  | [], r, f, g, hv, _, _, _ => ⟨r, f, by simp [playS], hv, by simp, by omega⟩
  | p :: ps, r, f, g, hv, hn, hp, hw => by
    have hps : ∀ q ∈ ps, isPacketS q = true := fun q hq => hp q (List.mem_cons_of_mem _ hq)
    have hws : ∀ q ∈ ps, q.data < n0 + w ∧ q.data ≠ 1000000000 := fun q hq => hw q (List.mem_cons_of_mem _ hq)
    have hpp := hp p (List.mem_cons_self ..)
    obtain ⟨w1, w2⟩ := hw p (List.mem_cons_self ..)
    have ht := recv_took hv hpp (by omega : p.data < r.next_ + w) w2
    have hz := took_zero ht
    have hv' := took_valid hv hpp (by omega) w2 ht
    have hnx := took_next ht
    obtain ⟨s, f', e, a, b, c⟩ := play_all ps (recvS r w p).1 (if (recvS r w p).2.2.1 = true then f + 1 else f) (g ++ [p.data]) hv' (by omega) hps hws
    have hc := took_count ht
    refine ⟨s, f', ?_, a, fun q => ?_, ?_⟩
    · rw [playS, if_neg (by rw [hz]; decide), if_neg (by rw [hz]; decide), e]; simp
    · rw [b, took_has ht, List.map_cons, List.mem_cons]
      constructor
      · rintro ((h | h) | h)
        · exact .inl h
        · exact .inr (.inl h)
        · exact .inr (.inr h)
      · rintro (h | h | h)
        · exact .inl (.inl h)
        · exact .inl (.inr h)
        · exact .inr h
    · split at hc <;> rename_i hh <;> simp only [hh] at c <;> simp at c <;> omega

theorem asc_ext : ∀ {l m : List Int}, l.Pairwise (· < ·) → m.Pairwise (· < ·) → (∀ x, x ∈ l ↔ x ∈ m) → l = m
  | [], [], _, _, _ => rfl
  | [], y :: _, _, _, h => absurd ((h y).2 (by simp)) (by simp)
  | x :: _, [], _, _, h => absurd ((h x).1 (by simp)) (by simp)
  | x :: l, y :: m, hl, hm, h => by
    rw [List.pairwise_cons] at hl hm
    have e : x = y := by
      rcases List.mem_cons.1 ((h x).1 (by simp)) with h1 | h1
      · exact h1
      · rcases List.mem_cons.1 ((h y).2 (by simp)) with h2 | h2
        · exact h2.symm
        · have := hm.1 x h1; have := hl.1 y h2; omega
    subst e
    congr 1
    refine asc_ext hl.2 hm.2 fun z => ⟨fun hz => ?_, fun hz => ?_⟩
    · rcases List.mem_cons.1 ((h z).1 (by simp [hz])) with h1 | h1
      · have := hl.1 z hz; omega
      · exact h1
    · rcases List.mem_cons.1 ((h z).2 (by simp [hz])) with h1 | h1
      · have := hm.1 z hz; omega
      · exact h1

theorem has_ext {a b : Receiver} {w : Int} (ha : validS a w = true) (hb : validS b w = true) (h : ∀ q, (q < a.next_ ∨ q ∈ a.have_) ↔ (q < b.next_ ∨ q ∈ b.have_)) : a = b := by
  obtain ⟨_, _, a3⟩ := valid_iff.1 ha
  obtain ⟨_, _, b3⟩ := valid_iff.1 hb
  obtain ⟨a4, a5⟩ := chain_pair a3
  obtain ⟨b4, b5⟩ := chain_pair b3
  have hn : a.next_ = b.next_ := by
    rcases Int.lt_trichotomy a.next_ b.next_ with h1 | h1 | h1
    · rcases (h a.next_).2 (.inl h1) with h2 | h2
      · omega
      · have := (a5 _ h2).1; omega
    · exact h1
    · rcases (h b.next_).1 (.inl h1) with h2 | h2
      · omega
      · have := (b5 _ h2).1; omega
  have hh : a.have_ = b.have_ := asc_ext a4 b4 fun x => ⟨fun hx => by
    rcases (h x).1 (.inr hx) with h2 | h2
    · have := (a5 _ hx).1; omega
    · exact h2, fun hx => by
    rcases (h x).2 (.inr hx) with h2 | h2
    · have := (b5 _ hx).1; omega
    · exact h2⟩
  cases a; cases b; simp only at hn hh; rw [hn, hh]

theorem mem_turn {ps : List Packet} {k : Nat} {q : Packet} : q ∈ ps.drop k ++ ps.take k ↔ q ∈ ps := by
  rw [List.mem_append]
  constructor
  · rintro (h | h)
    · exact List.mem_of_mem_drop h
    · exact List.mem_of_mem_take h
  · intro h
    rw [← List.take_append_drop k ps, List.mem_append] at h
    exact h.symm

theorem mem_swap {L : List Packet} {i : Nat} {d : Packet} (hi : i < L.length) {q : Packet} : q ∈ ((L.set 0 (L.getD i d)).set i (L.getD 0 d)) ↔ q ∈ L := by
  have h0 : 0 < L.length := by omega
  rw [getD_lt hi, getD_lt h0]
  rw [List.mem_iff_getElem, List.mem_iff_getElem]
  constructor
  · rintro ⟨n, hn, rfl⟩
    simp only [List.length_set] at hn
    rw [List.getElem_set]
    split
    · exact ⟨0, h0, rfl⟩
    · rw [List.getElem_set]
      split
      · exact ⟨i, hi, rfl⟩
      · exact ⟨n, hn, rfl⟩
  · rintro ⟨n, hn, rfl⟩
    by_cases h1 : n = i
    · subst h1
      by_cases h2 : n = 0
      · subst h2
        exact ⟨0, by simpa using h0, by simp⟩
      · refine ⟨0, by simpa using h0, ?_⟩
        rw [List.getElem_set_ne (by omega), List.getElem_set_self]
    · by_cases h2 : n = 0
      · subst h2
        refine ⟨i, by simpa using hi, ?_⟩
        rw [List.getElem_set_self]
      · refine ⟨n, by simpa using hn, ?_⟩
        rw [List.getElem_set_ne (by omega), List.getElem_set_ne (by omega)]

theorem l11_spec {r : Receiver} {w : Int} {ps : List Packet} (hl : ps.length ≤ 100000) {x2 : List Packet} {x3 x4 : Int} {x5 x6 : Bool} {kr : Bool → Prop} {k0 : Int → (List Packet) → Int → Int → Bool → Bool → Int → (List Int) → Prop}
    (hw : IntKind.i64.wrap (r.next_ + w) = r.next_ + w) (hk : kr x6) : ∀ (d : List Packet) (i : Nat), ps.drop i = d → ((∀ p ∈ d, p.data < r.next_ + w ∧ p.data ≠ 1000000000) → k0 w x2 x3 x4 x5 x6 r.next_ r.have_) →
    ∃ k, l_11_5 k w x2 x3 x4 x5 x6 ps ps.length i r.next_ r.have_ kr k0 := by
  intro d
  induction d with
  | nil =>
    intro i hd h
    have : ps.length ≤ i := by simpa using hd
    exact ⟨1, br_false (by simp; omega) (h (by simp))⟩
  | cons x t ih =>
    intro i hd h
    have hlt := lt_drop hd
    have hg : ps.getD (i : Int).toNat (env.d 30) = x := getD_drop (by simpa using hd)
    have hwi : IntKind.i64.wrap ((i : Int) + 1) = ((i + 1 : Nat) : Int) := by rw [wrapi (by omega) (by omega)]; rfl
    have step : ∀ k, (x.data < r.next_ + w → x.data ≠ 1000000000 → l_11_5 k w x2 x3 x4 x5 x6 ps ps.length (i + 1 : Nat) r.next_ r.have_ kr k0) → l_11_5 (k + 1) w x2 x3 x4 x5 x6 ps ps.length i r.next_ r.have_ kr k0 := by
      intro k hk2
      refine br_true (by simpa using hlt) (br_true (inb_of (by omega) (by omega)) ?_)
      rw [hg, hwi, hw]
      exact br_of (fun _ => hk) (fun e1 => br_of (fun _ => hk) (fun e2 => hk2 (by simp at e1; omega) (by simpa using e2)))
    by_cases hx : x.data < r.next_ + w ∧ x.data ≠ 1000000000
    · obtain ⟨k, hk2⟩ := ih (i + 1) (drop_next hd) (fun hh => h (by
        intro p hp
        rcases List.mem_cons.1 hp with rfl | hp
        · exact hx
        · exact hh p hp))
      exact ⟨k + 1, step k fun _ _ => hk2⟩
    · exact ⟨1, step 0 fun h1 h2 => absurd ⟨h1, h2⟩ hx⟩

theorem room30 {n : Nat} (h : n ≤ 1000000) : roomB n (bytesB env 30) = true := by
  have e : bytesB env 30 = 56 := by kernel_rfl
  have h1 : decide (n * 56 ≤ 140737488355328) = true := decide_eq_true (by omega)
  have h2 : decide (n ≤ 140737488355328) = true := decide_eq_true (by omega)
  rw [e]; unfold roomB; rw [h1, h2]; rfl

theorem fit_u8 {n : Int} (h : fitI .u8 n) : 0 ≤ n ∧ n ≤ 255 := by
  have h : (decide (IntKind.u8.min ≤ n) && decide (n ≤ IntKind.u8.max)) = true := h
  simp only [Bool.and_eq_true, decide_eq_true_eq] at h
  have h1 : IntKind.u8.min = 0 := by kernel_rfl
  have h2 : IntKind.u8.max = 255 := by kernel_rfl
  rw [h1, h2] at h
  exact h

theorem cutOk1 {n : Nat} {k : Int} (h1 : 0 ≤ k) (h2 : k ≤ n) : cutOk (some k) none n = true ∧ cutOk none (some k) n = true := by
  constructor <;> simp [cutOk, leb, andb, h1, h2]

theorem pureReceiverOrder (r : Receiver) (w : Int) (ps : List Packet) (turn swap : Int) (_ : fitReceiver r) (_ : fitI .i64 w) (_ : (∀ z0 ∈ ps, fitPacket z0) ∧ List.length ps ≤ 9223372036854775807) (ht : fitI .u8 turn) (hs : fitI .u8 swap) : V11 r w ps turn swap (fun b => b = true) := by
  have ht1 := fit_u8 ht
  have hs1 := fit_u8 hs
  rw [V11_eq]; unfold B11
  refine V35_spec (V42_spec (br_t rfl) (fun hl hv hn hp => br_f (br_of (fun _ => rfl) (fun e => ?_))))
  have hne : 0 < ps.length := by
    have : ps.length ≠ 0 := fun h => by rw [h] at e; simp at e
    omega
  obtain ⟨v1, v2, _⟩ := valid_iff.1 hv
  have hlv := valid_len hv
  unfold s_11_4
  have hlw : IntKind.i64.wrap (r.next_ + w) = r.next_ + w := wrapi (by omega) (by omega)
  refine l11_spec (r := r) (kr := fun b => b = true) (x6 := true) (by omega) hlw rfl ps 0 rfl fun hw => ?_
  have e1 : IntKind.i64.wrap turn = turn := wrapi (by omega) (by omega)
  have e2 : IntKind.i64.wrap swap = swap := wrapi (by omega) (by omega)
  rw [e1, e2]
  have hk0 : 0 ≤ turn.tmod (ps.length : Int) := Int.tmod_nonneg _ (by omega)
  have hk1 : turn.tmod (ps.length : Int) < ps.length := Int.tmod_lt_of_pos _ (by omega)
  generalize turn.tmod (ps.length : Int) = k at hk0 hk1 ⊢
  obtain ⟨kn, rfl⟩ := Int.eq_ofNat_of_zero_le hk0
  have hL : ([] ++ cutL ps ((some (kn : Int)).getD 0) ((none : Option Int).getD (ps.length : Int)) ++ cutL ps ((none : Option Int).getD 0) ((some (kn : Int)).getD (ps.length : Int))) = ps.drop kn ++ ps.take kn := by
    simp [cutL]
  have hLl : (ps.drop kn ++ ps.take kn).length = ps.length := by simp; omega
  rw [hL]
  have hr1 : roomB ([] ++ cutL ps ((some (kn : Int)).getD 0) ((none : Option Int).getD (ps.length : Int))).length (bytesB env 30) = true := room30 (by simp [cutL]; omega)
  obtain ⟨c1, c2⟩ := cutOk1 (n := ps.length) hk0 (by omega)
  have hmem : ∀ q, q ∈ ps.drop kn ++ ps.take kn ↔ q ∈ ps := fun q => mem_turn
  generalize ps.drop kn ++ ps.take kn = L at hLl hmem ⊢
  have hi0 : 0 ≤ swap.tmod (L.length : Int) := Int.tmod_nonneg _ (by omega)
  have hi1 : swap.tmod (L.length : Int) < L.length := Int.tmod_lt_of_pos _ (by omega)
  generalize swap.tmod (L.length : Int) = i at hi0 hi1 ⊢
  have hin : inb i (L.length : Int) = true := inb_of hi0 hi1
  have h00 : inb 0 (L.length : Int) = true := inb_of (by omega) (by omega)
  have hne1 : (!(ps.length : Int) == 0) = true := by rw [show ((ps.length : Int) == 0) = false from by rw [beq_eq_false_iff_ne]; omega]; rfl
  have hne2 : (!(L.length : Int) == 0) = true := by rw [show ((L.length : Int) == 0) = false from by rw [beq_eq_false_iff_ne]; omega]; rfl
  refine br_true hne1 (br_true c1 (br_true hr1 (br_true c2 (br_true (room30 (by omega)) (br_true hne2 (br_true hin (br_true h00 (br_true h00 (br_true ?_ ?_)))))))))
  · rw [List.length_set]; exact hin
  have hsw : ∀ q, q ∈ ((L.set 0 (L.getD i.toNat (env.d 30))).set i.toNat (L.getD 0 (env.d 30))) ↔ q ∈ L := fun q => mem_swap (by omega)
  have hsl : ((L.set 0 (L.getD i.toNat (env.d 30))).set i.toNat (L.getD 0 (env.d 30))).length = L.length := by simp
  show V43 ⟨r.next_, r.have_⟩ w ps fun y20 => V43 ⟨r.next_, r.have_⟩ w ((L.set 0 (L.getD i.toNat (env.d 30))).set i.toNat (L.getD 0 (env.d 30))) _
  generalize (L.set 0 (L.getD i.toNat (env.d 30))).set i.toNat (L.getD 0 (env.d 30)) = M at hsw hsl
  have hM : ∀ q, q ∈ M ↔ q ∈ ps := fun q => (hsw q).trans (hmem q)
  obtain ⟨s, f, p1, p2, p3, p4⟩ := play_all ps r 0 [] hv (Int.le_refl _) hp hw
  obtain ⟨s', f', q1, q2, q3, q4⟩ := play_all M r 0 [] hv (Int.le_refl _) (fun p h => hp p ((hM p).1 h)) (fun p h => hw p ((hM p).1 h))
  have hss : s = s' := has_ext p2 q2 fun q => by
    rw [p3, q3]
    have : q ∈ ps.map (·.data) ↔ q ∈ M.map (·.data) := by
      simp only [List.mem_map, hM]
    rw [this]
  subst hss
  have hff : f = f' := by omega
  subst hff
  have hsl2 := valid_len p2
  refine V43_spec (r := r) (by omega) hp hv fun a m g e => ?_
  rw [p1] at e; cases e
  refine V43_spec (r := r) (by omega) (fun p h => hp p ((hM p).1 h)) hv fun a m g e => ?_
  rw [q1] at e; cases e
  refine br_t (br_t (br_t (V41_spec (by show s.have_.length ≤ _; omega) (fun _ => br_t ?_) (fun h => absurd rfl h))))
  simp

end Go.Vg.Ytgekegoflaichaa
