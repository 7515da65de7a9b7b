/-
  The laws of chapter 30 (3): what a receiver has after packets. Own work; no condition.
-/
import Derived.Test.YtgekegoflaichaaUe
namespace Go.Vg.Ytgekegoflaichaa
open Go.Vg Go.Proofs

theorem adv_has {q : Int} : ∀ {l : List Int} {n : Int}, (q < (adv n l).1 ∨ q ∈ (adv n l).2) ↔ (q < n ∨ q ∈ l)
  | [], n => by simp [adv]
  | x :: r, n => by
    by_cases hx : x = n
    · subst hx
      have e : adv x (x :: r) = adv (x + 1) r := by simp [adv]
      rw [e, adv_has, List.mem_cons]
      constructor
      · rintro (h | h)
        · by_cases hq : q = x
          · exact .inr (.inl hq)
          · exact .inl (by omega)
        · exact .inr (.inr h)
      · rintro (h | h | h)
        · exact .inl (by omega)
        · exact .inl (by omega)
        · exact .inr h
    · have e : adv n (x :: r) = (n, x :: r) := by simp [adv, hx]
      rw [e]
theorem adv_count : ∀ {l : List Int} {n : Int}, (adv n l).1 + (adv n l).2.length = n + l.length
  | [], n => by simp [adv]
  | x :: r, n => by
    by_cases hx : x = n
    · subst hx
      have e : adv x (x :: r) = adv (x + 1) r := by simp [adv]
      rw [e, adv_count]; simp only [List.length_cons]; omega
    · have e : adv n (x :: r) = (n, x :: r) := by simp [adv, hx]
      rw [e]
theorem ins_mem {q d : Int} : ∀ {l : List Int}, q ∈ ins d l ↔ (q = d ∨ q ∈ l)
  | [] => by simp [ins]
  | x :: r => by
    unfold ins
    split
    · rw [List.mem_cons, ins_mem, List.mem_cons]
      constructor
      · rintro (h | h | h)
        · exact .inr (.inl h)
        · exact .inl h
        · exact .inr (.inr h)
      · rintro (h | h | h)
        · exact .inr (.inl h)
        · exact .inl h
        · exact .inr (.inr h)
    · rw [List.mem_cons]
theorem ins_len {d : Int} : ∀ {l : List Int}, (ins d l).length = l.length + 1
  | [] => rfl
  | x :: r => by
    unfold ins
    split
    · simp only [List.length_cons, ins_len]
    · rfl

theorem took_has {r : Receiver} {w : Int} {p : Packet} {o : Receiver × Ack × Bool × Int} (ht : Took r w p o) (q : Int) : (q < o.1.next_ ∨ q ∈ o.1.have_) ↔ ((q < r.next_ ∨ q ∈ r.have_) ∨ q = p.data) := by
  cases ht with
  | next h =>
    dsimp only
    rw [adv_has]
    constructor
    · rintro (h' | h')
      · by_cases hq : q = p.data
        · exact .inr hq
        · exact .inl (.inl (by omega))
      · exact .inl (.inr h')
    · rintro ((h' | h') | h')
      · exact .inl (by omega)
      · exact .inr h'
      · exact .inl (by omega)
  | old h =>
    dsimp only
    constructor
    · exact .inl
    · rintro (h' | h')
      · exact h'
      · exact .inl (by omega)
  | has h h1 =>
    dsimp only
    constructor
    · exact .inl
    · rintro (h' | h')
      · exact h'
      · exact .inr (by rw [h']; exact h1)
  | new h h1 =>
    dsimp only
    rw [ins_mem]
    constructor
    · rintro (h' | h' | h')
      · exact .inl (.inl h')
      · exact .inr h'
      · exact .inl (.inr h')
    · rintro ((h' | h') | h')
      · exact .inl h'
      · exact .inr (.inr h')
      · exact .inr (.inl h')

theorem took_count {r : Receiver} {w : Int} {p : Packet} {o : Receiver × Ack × Bool × Int} (ht : Took r w p o) : o.1.next_ + o.1.have_.length = r.next_ + r.have_.length + (if o.2.2.1 = true then 1 else 0) := by
  cases ht with
  | next h => dsimp only; rw [adv_count, if_pos rfl]; omega
  | old h => simp
  | has h h1 => simp
  | new h h1 => dsimp only; rw [ins_len, if_pos rfl]; omega

/-- A receiver after packets; how many were new; the data of those that were not refused. -/
def playS (w : Int) : List Packet → Receiver → Int → List Int → Receiver × Int × List Int × Bool
  | [], r, f, g => (r, f, g, true)
  | p :: ps, r, f, g => if (recvS r w p).2.2.2 = 10 then playS w ps r f g else if (recvS r w p).2.2.2 ≠ 0 then (r, 0, [], false)
    else playS w ps (recvS r w p).1 (if (recvS r w p).2.2.1 = true then f + 1 else f) (g ++ [p.data])

theorem recv_cases {r : Receiver} {w : Int} {p : Packet} (hv : validS r w = true) (hp : isPacketS p = true) : (recvS r w p).2.2.2 = 10 ∨ (p.data < r.next_ + w ∧ p.data ≠ 1000000000 ∧ Took r w p (recvS r w p)) := by
  by_cases h3 : r.next_ + w ≤ p.data
  · left; unfold recvS
    rw [if_neg (by simp [hv]), if_neg (by simp [hp]), if_pos h3]
  · by_cases h4 : p.data = 1000000000
    · left; unfold recvS
      rw [if_neg (by simp [hv]), if_neg (by simp [hp]), if_neg h3, if_pos h4]
    · exact .inr ⟨by omega, h4, recv_took hv hp (by omega) h4⟩

theorem play_ok {w : Int} : ∀ (ps : List Packet) (r : Receiver) (f : Int) (g : List Int), validS r w = true → (∀ p ∈ ps, isPacketS p = true) →
    ∃ s f' g', playS w ps r f g = (s, f', g ++ g', true) ∧ validS s w = true ∧ (∀ q, (q < s.next_ ∨ q ∈ s.have_) ↔ ((q < r.next_ ∨ q ∈ r.have_) ∨ q ∈ g')) ∧ s.next_ + s.have_.length = r.next_ + r.have_.length + (f' - f) ∧ f ≤ f' ∧ f' ≤ f + ps.length
  | [], r, f, g, hv, _ => ⟨r, f, [], by simp [playS], hv, by simp, by omega, Int.le_refl _, by simp⟩
  | p :: ps, r, f, g, hv, hp => by
    have hps : ∀ q ∈ ps, isPacketS q = true := fun q hq => hp q (List.mem_cons_of_mem _ hq)
    have hpp := hp p (List.mem_cons_self ..)
    rcases recv_cases hv hpp with h | ⟨h1, h2, ht⟩
    · obtain ⟨s, f', g', e, a, b, c, d1, d2⟩ := play_ok ps r f g hv hps
      refine ⟨s, f', g', ?_, a, b, c, d1, by simp only [List.length_cons]; omega⟩
      rw [playS, if_pos h]; exact e
    · have hz := took_zero ht
      have hv' := took_valid hv hpp h1 h2 ht
      obtain ⟨s, f', g', e, a, b, c, d1, d2⟩ := play_ok ps (recvS r w p).1 (if (recvS r w p).2.2.1 = true then f + 1 else f) (g ++ [p.data]) hv' hps
      have hc := took_count ht
      refine ⟨s, f', p.data :: g', ?_, a, fun q => ?_, ?_, ?_, ?_⟩
      · rw [playS, if_neg (by rw [hz]; decide), if_neg (by rw [hz]; decide), e]; simp
      · rw [b, took_has ht, List.mem_cons]
        constructor
        · rintro ((h | h) | h)
          · exact .inl h
          · exact .inr (.inl h)
          · exact .inr (.inr h)
        · rintro (h | h | h)
          · exact .inl (.inl h)
          · exact .inl (.inr h)
          · exact .inr h
      · split at hc <;> rename_i hh <;> simp only [hh] at c <;> simp at c <;> omega
      · split at d1 <;> omega
      · simp only [List.length_cons]; split at d2 <;> omega

theorem l43_spec {w : Int} {ps : List Packet} (hl : ps.length ≤ 100000) (hp : ∀ p ∈ ps, isPacketS p = true) {x2 x10 : Int} {x3 : Bool} {kr : Int → Bool → Int → List Int → Prop} {k0 : Int → Bool → Int → Int → List Int → Int → List Int → Prop} :
    ∀ (d : List Packet) (i : Nat) (r : Receiver) (f : Int) (g : List Int), ps.drop i = d → validS r w = true → 0 ≤ f → f + d.length ≤ 1000000 → g.length + d.length ≤ 1000000 →
      (∀ s f' g', playS w d r f g = (s, f', g', true) → k0 x2 x3 f' s.next_ s.have_ x10 g') → ∃ k, l_43_4 k w x2 x3 f ps ps.length i r.next_ r.have_ x10 g kr k0 := by
  intro d
  induction d with
  | nil =>
    intro i r f g hd _ _ _ _ h
    have : ps.length ≤ i := by simpa using hd
    exact ⟨1, br_false (by simp; omega) (h r f g rfl)⟩
  | cons x t ih =>
    intro i r f g hd hv hf hf2 hg2 h
    have hlt := lt_drop hd
    have hg : ps.getD (i : Int).toNat (env.d 30) = x := getD_drop (by simpa using hd)
    have hwi : IntKind.i64.wrap ((i : Int) + 1) = ((i + 1 : Nat) : Int) := by rw [wrapi (by omega) (by omega)]; rfl
    have hwf : IntKind.i64.wrap (f + 1) = f + 1 := by
      simp only [List.length_cons] at hf2
      exact wrapi (by omega) (by omega)
    have hx : isPacketS x = true := hp x (by
      have : x ∈ ps.drop i := by rw [hd]; simp
      exact List.mem_of_mem_drop this)
    have hlen := valid_len hv
    have hw := (valid_iff.1 hv).1
    simp only [List.length_cons] at hf2 hg2
    have hin : inb (i : Int) (ps.length : Int) = true := inb_of (by omega) (by omega)
    rcases recv_cases hv hx with h10 | ⟨h1, h2, ht⟩
    · obtain ⟨k, hk⟩ := ih (i + 1) r f g (drop_next hd) hv hf (by omega) (by omega) (fun s f' g' e => h s f' g' (by rw [playS, if_pos h10]; exact e))
      refine ⟨k + 1, br_true (by simpa using hlt) (br_true hin ?_)⟩
      rw [hg, hwi]
      refine V37_spec (r := ⟨r.next_, r.have_⟩) (by show r.have_.length ≤ _; omega) (br_true (by show ((recvS r w x).2.2.2 == 10) = true; rw [h10]; rfl) hk)
    · have hz := took_zero ht
      have hv' := took_valid hv hx h1 h2 ht
      have hstep : ∀ s f' g', playS w t (recvS r w x).1 (if (recvS r w x).2.2.1 = true then f + 1 else f) (g ++ [x.data]) = (s, f', g', true) → k0 x2 x3 f' s.next_ s.have_ x10 g' := fun s f' g' e =>
        h s f' g' (by rw [playS, if_neg (by rw [hz]; decide), if_neg (by rw [hz]; decide)]; exact e)
      obtain ⟨k, hk⟩ := ih (i + 1) (recvS r w x).1 (if (recvS r w x).2.2.1 = true then f + 1 else f) (g ++ [x.data]) (drop_next hd) hv' (by split <;> omega) (by split <;> omega) (by simp; omega) hstep
      refine ⟨k + 1, br_true (by simpa using hlt) (br_true hin ?_)⟩
      rw [hg, hwi, hwf]
      refine V37_spec (r := ⟨r.next_, r.have_⟩) (by show r.have_.length ≤ _; omega) (br_false (by show ((recvS r w x).2.2.2 == 10) = false; rw [hz]; rfl) (br_false (by show ((recvS r w x).2.2.2 != 0) = false; rw [hz]; rfl) (br_of (fun e => br_true (room3 (by simp; omega)) ?_) (fun e => br_true (room3 (by simp; omega)) ?_))))
      · have e : (recvS r w x).2.2.1 = true := e
        rw [if_pos e] at hk; exact hk
      · have e : (recvS r w x).2.2.1 = false := e
        rw [if_neg (by simp [e])] at hk; exact hk

theorem V43_spec {r : Receiver} {w : Int} {ps : List Packet} (hl : ps.length ≤ 100000) (hp : ∀ p ∈ ps, isPacketS p = true) (hv : validS r w = true) {K : Receiver × Int × List Int × Bool → Prop}
    (h : ∀ s f' g', playS w ps r 0 [] = (s, f', g', true) → K (s, f', g', true)) : V43 r w ps K := by
  rw [V43_eq]; unfold B43
  exact l43_spec hl hp ps 0 r 0 [] rfl hv (by omega) (by omega) (by simp; omega) h

theorem l42_spec {ps : List Packet} (hl : ps.length ≤ 100000) {x2 : Bool} {kr k0 : Bool → Prop} : ∀ (d : List Packet) (i : Nat), ps.drop i = d → (d.all isPacketS = true → k0 x2) → (d.all isPacketS = false → kr false) → ∃ k, l_42_4 k x2 ps ps.length i kr k0 := by
  intro d
  induction d with
  | nil =>
    intro i hd h1 _
    have : ps.length ≤ i := by simpa using hd
    exact ⟨1, br_false (by simp; omega) (h1 rfl)⟩
  | cons x t ih =>
    intro i hd h1 h2
    have hlt := lt_drop hd
    have hg : ps.getD (i : Int).toNat (env.d 30) = x := getD_drop (by simpa using hd)
    have hwi : IntKind.i64.wrap ((i : Int) + 1) = ((i + 1 : Nat) : Int) := by rw [wrapi (by omega) (by omega)]; rfl
    have step : ∀ k, (isPacketS x = true → l_42_4 k x2 ps ps.length (i + 1 : Nat) kr k0) → l_42_4 (k + 1) x2 ps ps.length i kr k0 := by
      intro k hk
      refine br_true (by simpa using hlt) (br_true (inb_of (by omega) (by omega)) ?_)
      rw [hg, hwi]
      refine V26_spec (br_of (fun e => h2 ?_) (fun e => hk (bool_nn e)))
      have e : isPacketS x = false := by simpa using e
      simp [e]
    cases hx : isPacketS x with
    | false => exact ⟨1, step 0 fun h => by rw [hx] at h; cases h⟩
    | true =>
      obtain ⟨k, hk⟩ := ih (i + 1) (drop_next hd) (fun h => h1 (by simp only [List.all_cons, hx, h]; rfl)) (fun h => h2 (by simp only [List.all_cons, hx, h]; rfl))
      exact ⟨k + 1, step k fun _ => hk⟩

theorem V42_spec {r : Receiver} {w : Int} {ps : List Packet} {K : Bool → Prop} (h1 : K false)
    (h2 : r.have_.length ≤ 1100 → validS r w = true → ps.length ≤ 200 → (∀ p ∈ ps, isPacketS p = true) → K true) : V42 r w ps K := by
  rw [V42_eq]; unfold B42
  refine V36_spec (br_of (fun _ => h1) (fun e => ?_))
  have hl := few_len (bool_nn e)
  refine V40_spec (by omega) (br_of (fun _ => h1) (fun e => ?_))
  have hv := bool_nn e
  refine br_of (fun _ => h1) (fun e => ?_)
  have hn : ps.length ≤ 200 := by simp at e; omega
  exact l42_spec (by omega) ps 0 rfl (fun ha => h2 hl hv hn (fun p hp => List.all_eq_true.1 ha p hp)) (fun _ => h1)

theorem l10_spec {s : Receiver} (hl : s.have_.length ≤ 100000) {other : Int} {x2 x3 : Bool} {x4 : Int} {g : List Int} (hg : g.length ≤ 100000) {x9 : Int} {x10 : List Int} {kr : Bool → Prop} {k0 : Int → Bool → Bool → Int → Bool → Int → List Int → Int → List Int → Prop} :
    ∀ (d : List Int) (i : Nat) (am : Bool), g.drop i = d → (∀ n ∈ d, hasS s n = true) → k0 other x2 x3 x4 (am || decide (other ∈ d)) x9 x10 s.next_ s.have_ → ∃ k, l_10_9 k other x2 x3 x4 am g g.length i x9 x10 s.next_ s.have_ kr k0 := by
  intro d
  induction d with
  | nil =>
    intro i am hd _ h
    have : g.length ≤ i := by simpa using hd
    have h : k0 other x2 x3 x4 am x9 x10 s.next_ s.have_ := by simpa using h
    exact ⟨1, br_false (by simp; omega) h⟩
  | cons x t ih =>
    intro i am hd hh h
    have hlt := lt_drop hd
    have hgx : g.getD (i : Int).toNat (env.d 3) = x := getD_drop (by simpa using hd)
    have hwi : IntKind.i64.wrap ((i : Int) + 1) = ((i + 1 : Nat) : Int) := by rw [wrapi (by omega) (by omega)]; rfl
    have hx := hh x (by simp)
    have e : ((am || decide (x = other)) || decide (other ∈ t)) = (am || decide (other ∈ x :: t)) := by
      by_cases h1 : x = other
      · simp [h1]
      · simp [h1, Ne.symm h1]
    obtain ⟨k, hk⟩ := ih (i + 1) (am || decide (x = other)) (drop_next hd) (fun n hn => hh n (by simp [hn])) (by rw [e]; exact h)
    refine ⟨k + 1, br_true (by simpa using hlt) (br_true (inb_of (by omega) (by omega)) ?_)⟩
    rw [hgx]
    unfold s_10_12
    dsimp only
    rw [hwi]
    refine br_of (fun ha => ?_) (fun ha => ?_)
    · rw [ha, Bool.true_or] at hk
      exact V44_spec (r := ⟨s.next_, s.have_⟩) (by show s.have_.length ≤ _; omega) (br_false (by show (!(hasS s x)) = false; rw [hx]; rfl) hk)
    · rw [ha, Bool.false_or] at hk
      exact V44_spec (r := ⟨s.next_, s.have_⟩) (by show s.have_.length ≤ _; omega) (br_false (by show (!(hasS s x)) = false; rw [hx]; rfl) hk)

theorem pureReceiverHas (r : Receiver) (w : Int) (ps : List Packet) (other : Int) (_ : fitReceiver r) (_ : fitI .i64 w) (_ : (∀ z0 ∈ ps, fitPacket z0) ∧ List.length ps ≤ 9223372036854775807) (_ : fitI .i64 other) : V10 r w ps other (fun b => b = true) := by
  rw [V10_eq]; unfold B10
  refine V35_spec (V42_spec (br_t rfl) (fun hl hv hn hp => br_f ?_))
  obtain ⟨s, f', g', e, hs, hhas, hcnt, hf1, hf2⟩ := play_ok ps r 0 [] hv hp
  refine V43_spec (by omega) hp hv (fun s' f'' g'' e' => ?_)
  rw [e] at e'
  obtain ⟨rfl, rfl, rfl⟩ : s = s' ∧ f' = f'' ∧ [] ++ g' = g'' := by
    simp only [Prod.mk.injEq] at e'
    exact ⟨e'.1, e'.2.1, e'.2.2.1⟩
  have hls := valid_len hs
  obtain ⟨a1, a2, _⟩ := valid_iff.1 hs
  obtain ⟨_, b2, _⟩ := valid_iff.1 hv
  refine br_f (V40_spec (by show s.have_.length ≤ _; omega) (br_false (by show (!(validS s w)) = false; rw [hs]; rfl) ?_))
  unfold s_10_7
  have hb : ∀ q, hasS s q = (hasS r q || decide (q ∈ g')) := fun q => by
    have := hhas q
    simp only [hasS]
    rw [← Bool.decide_or, ← Bool.decide_or, ← Bool.decide_or]
    exact decide_eq_decide.2 this
  have hgl : ([] ++ g' : List Int).length ≤ 100000 := by
    have : ∀ (ps : List Packet) (r : Receiver) (f : Int) (g : List Int), (playS w ps r f g).2.2.1.length ≤ g.length + ps.length := by
      intro ps
      induction ps with
      | nil => intro r f g; simp [playS]
      | cons p t ih =>
        intro r f g
        unfold playS
        split
        · have := ih r f g; simp only [List.length_cons]; omega
        · split
          · simp
          · have := ih (recvS r w p).1 (if (recvS r w p).2.2.1 = true then f + 1 else f) (g ++ [p.data])
            simp only [List.length_append, List.length_cons, List.length_nil] at this ⊢; omega
    have := this ps r 0 []
    rw [e] at this
    simp only [List.length_nil] at this
    omega
  refine V44_spec (r := ⟨r.next_, r.have_⟩) (by show r.have_.length ≤ _; omega) ?_
  refine l10_spec (s := s) (by omega) hgl _ 0 _ rfl (fun n hn => ?_) (br_t (V44_spec (r := ⟨s.next_, s.have_⟩) (by show s.have_.length ≤ _; omega) (br_true ?_ ?_)))
  · rw [hb]
    have : decide (n ∈ g') = true := by simpa using hn
    rw [this, Bool.or_true]
  · show (hasS s other == (hasS r other || decide (other ∈ [] ++ g'))) = true
    rw [hb]
    exact beq_iff_eq.2 (congrArg (hasS r other || ·) (decide_eq_decide.2 (by simp)))
  · have e1 : IntKind.i64.wrap (s.next_ + s.have_.length) = s.next_ + s.have_.length := wrapi (by omega) (by omega)
    have e2 : IntKind.i64.wrap (r.next_ + r.have_.length) = r.next_ + r.have_.length := wrapi (by omega) (by omega)
    have e3 : IntKind.i64.wrap (r.next_ + r.have_.length + f') = r.next_ + r.have_.length + f' := wrapi (by omega) (by omega)
    rw [e1, e2, e3, hcnt]; simp

end Go.Vg.Ytgekegoflaichaa
