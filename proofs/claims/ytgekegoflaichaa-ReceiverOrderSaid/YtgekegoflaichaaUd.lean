/-
  The laws of chapter 30 (1): the reference, once more, room. Own work; no condition.
-/
import Derived.Test.YtgekegoflaichaaUc
import Derived.Test.YtgekegoflaichaaTd
import Derived.Test.YtgekegoflaichaaOpen
namespace Go.Vg.Ytgekegoflaichaa
open Go.Vg Go.Proofs

theorem bool_nn {b : Bool} (h : (!b) = false) : b = true := by simpa using h
theorem few_len {r : Receiver} (h : decide (r.have_.length ≤ 1100) = true) : r.have_.length ≤ 1100 := by simpa using h

theorem ack_same (k : Ack) : andb (k.sub == k.sub) (andb (k.number == k.number) (andb (k.next_ == k.next_) (andb (k.sent == k.sent) (k.marked == k.marked)))) = true := by simp [andb]

theorem pureReceiverMatchesReference (r : Receiver) (w : Int) (p : Packet) (_ : fitReceiver r) (_ : fitI .i64 w) (_ : fitPacket p) : V9 r w p (fun b => b = true) := by
  rw [V9_eq]; unfold B9
  refine V35_spec (V36_spec (br_of (fun _ => rfl) (fun e => ?_)))
  have hl := few_len (bool_nn e)
  refine V37_spec (by omega) (V38_spec (by omega) (br_t ?_))
  refine ⟨validS r w, V39_spec (by omega) rfl, validS r w, V40_spec (by omega) rfl, br_true (by simp) ?_⟩
  have hlen : (recvS r w p).1.have_.length ≤ 1000000 := by
    unfold recvS
    repeat' split
    all_goals first | (simp; done) | (show r.have_.length ≤ _; omega) | skip
    · have : ∀ (l : List Int) (n : Int), (adv n l).2.length ≤ l.length := by
        intro l
        induction l with
        | nil => intro n; simp [adv]
        | cons x r ih => intro n; unfold adv; split; (have := ih (n + 1); simp; omega); simp
      have := this r.have_ (r.next_ + 1)
      show (adv (r.next_ + 1) r.have_).2.length ≤ _
      omega
    · have : ∀ (l : List Int) (n : Int), (ins n l).length ≤ l.length + 1 := by
        intro l
        induction l with
        | nil => intro n; simp [ins]
        | cons x r ih => intro n; unfold ins; split; (have := ih n; simp; omega); simp
      have := this r.have_ p.data
      show (ins p.data r.have_).length ≤ _
      omega
  exact ⟨true, V41_spec hlen (fun _ => rfl) (fun h => absurd rfl h), br_t (br_true (ack_same _) (br_true (by simp) (by simp)))⟩

theorem chain_mono {lo hi hi' : Int} (h : hi ≤ hi') : ∀ {l : List Int}, chain lo hi l = true → chain lo hi' l = true
  | [], _ => rfl
  | x :: r, hc => by
    simp only [chain, Bool.and_eq_true, decide_eq_true_eq] at hc ⊢
    exact ⟨by omega, chain_mono h hc.2⟩
theorem chain_ins {hi d : Int} : ∀ {l : List Int} {lo : Int}, chain lo hi l = true → lo < d → d < hi → d ∉ l → chain lo hi (ins d l) = true
  | [], _, _, h1, h2, _ => by simp [ins, chain, h1, h2]
  | x :: r, lo, hc, h1, h2, hm => by
    simp only [chain, Bool.and_eq_true, decide_eq_true_eq] at hc
    simp only [List.mem_cons, not_or] at hm
    by_cases hx : x < d
    · have := chain_ins hc.2 hx h2 hm.2
      simp [ins, hx, chain, hc.1.1, hc.1.2, this]
    · have : d < x := by omega
      simp [ins, hx, chain, h1, h2, this, hc.1.2, hc.2]
theorem chain_adv {hi : Int} : ∀ {l : List Int} {n : Int}, chain (n - 1) hi l = true → n ≤ hi → chain (adv n l).1 hi (adv n l).2 = true ∧ n ≤ (adv n l).1 ∧ (adv n l).1 ≤ hi
  | [], n, _, h => by simp [adv, chain, h]
  | x :: r, n, hc, h => by
    simp only [chain, Bool.and_eq_true, decide_eq_true_eq] at hc
    by_cases hx : x = n
    · subst hx
      have e : adv x (x :: r) = adv (x + 1) r := by simp [adv]
      rw [e]
      have := chain_adv (l := r) (n := x + 1) (by rw [Int.add_sub_cancel]; exact hc.2) (by omega)
      exact ⟨this.1, by omega, this.2.2⟩
    · have e : adv n (x :: r) = (n, x :: r) := by simp [adv, hx]
      rw [e]
      have : n < x := by omega
      simp [chain, this, hc.1.2, hc.2, h]
theorem chain_len {hi : Int} : ∀ {l : List Int} {lo : Int}, chain lo hi l = true → lo < hi → lo + l.length < hi
  | [], lo, _, h => by simpa using h
  | x :: r, lo, hc, h => by
    simp only [chain, Bool.and_eq_true, decide_eq_true_eq] at hc
    have := chain_len hc.2 hc.1.2
    simp only [List.length_cons]; omega

theorem valid_iff {r : Receiver} {w : Int} : validS r w = true ↔ (1 ≤ w ∧ w ≤ 1000) ∧ (0 ≤ r.next_ ∧ r.next_ ≤ 1000000000) ∧ chain r.next_ (hiS r.next_ w) r.have_ = true := by
  simp only [validS, inS, Bool.and_eq_true, decide_eq_true_eq, and_assoc]

/-- The ways in which a packet is taken. -/
inductive Took (r : Receiver) (w : Int) (p : Packet) : Receiver × Ack × Bool × Int → Prop
  | next : p.data = r.next_ → Took r w p (⟨(adv (r.next_ + 1) r.have_).1, (adv (r.next_ + 1) r.have_).2⟩, ackS p (adv (r.next_ + 1) r.have_).1, true, 0)
  | old : p.data < r.next_ → Took r w p (r, ackS p r.next_, false, 0)
  | has : r.next_ < p.data → p.data ∈ r.have_ → Took r w p (r, ackS p r.next_, false, 0)
  | new : r.next_ < p.data → p.data ∉ r.have_ → Took r w p (⟨r.next_, ins p.data r.have_⟩, ackS p r.next_, true, 0)

theorem recv_took {r : Receiver} {w : Int} {p : Packet} (hv : validS r w = true) (hp : isPacketS p = true) (h1 : p.data < r.next_ + w) (h2 : p.data ≠ 1000000000) : Took r w p (recvS r w p) := by
  unfold recvS
  rw [if_neg (by simp [hv]), if_neg (by simp [hp]), if_neg (by omega), if_neg h2]
  by_cases a : p.data = r.next_
  · rw [if_pos a]; exact .next a
  · rw [if_neg a]
    by_cases b : p.data < r.next_
    · rw [if_pos b]; exact .old b
    · rw [if_neg b]
      by_cases c : p.data ∈ r.have_
      · rw [if_pos c]; exact .has (by omega) c
      · rw [if_neg c]; exact .new (by omega) c

theorem recv_zero {r : Receiver} {w : Int} {p : Packet} (h : (recvS r w p).2.2.2 = 0) : validS r w = true ∧ isPacketS p = true ∧ p.data < r.next_ + w ∧ p.data ≠ 1000000000 := by
  unfold recvS at h
  split at h; (cases h)
  split at h; (cases h)
  split at h; (cases h)
  split at h; (cases h)
  rename_i h1 h2 h3 h4
  exact ⟨by simpa using h1, by simpa using h2, by omega, h4⟩

theorem data_lt {p : Packet} (hp : isPacketS p = true) (h : p.data ≠ 1000000000) : 0 ≤ p.data ∧ p.data < 1000000000 := by
  simp only [isPacketS, inS, Bool.and_eq_true, decide_eq_true_eq] at hp
  omega

theorem hi_le {n n' w : Int} (h : n ≤ n') : hiS n w ≤ hiS n' w := by unfold hiS; split <;> split <;> omega

theorem took_valid {r : Receiver} {w : Int} {p : Packet} {o : Receiver × Ack × Bool × Int} (hv : validS r w = true) (hp : isPacketS p = true) (h1 : p.data < r.next_ + w) (h2 : p.data ≠ 1000000000) (ht : Took r w p o) : validS o.1 w = true := by
  have hd := data_lt hp h2
  obtain ⟨a1, a2, a3⟩ := valid_iff.1 hv
  have hhi : hiS r.next_ w ≤ 1000000000 ∧ hiS r.next_ w ≤ r.next_ + w := by unfold hiS; split <;> omega
  cases ht with
  | next h =>
    have := chain_adv (l := r.have_) (n := r.next_ + 1) (hi := hiS r.next_ w) (by rw [Int.add_sub_cancel]; exact a3) (by unfold hiS; split <;> omega)
    exact valid_iff.2 ⟨a1, ⟨by show 0 ≤ (adv _ _).1; omega, by show (adv _ _).1 ≤ _; omega⟩, chain_mono (hi_le (by show r.next_ ≤ (adv _ _).1; omega)) this.1⟩
  | old h => exact hv
  | has h h' => exact hv
  | new h h' => exact valid_iff.2 ⟨a1, a2, chain_ins a3 h (by unfold hiS; split <;> omega) h'⟩

theorem took_zero {r : Receiver} {w : Int} {p : Packet} {o : Receiver × Ack × Bool × Int} (ht : Took r w p o) : o.2.2.2 = 0 := by cases ht <;> rfl

theorem valid_len {r : Receiver} {w : Int} (hv : validS r w = true) : (r.have_.length : Int) < w := by
  obtain ⟨a1, a2, a3⟩ := valid_iff.1 hv
  by_cases h : r.next_ < hiS r.next_ w
  · have := chain_len a3 h
    have : hiS r.next_ w ≤ r.next_ + w := by unfold hiS; split <;> omega
    omega
  · cases hh : r.have_ with
    | nil => simp; omega
    | cons x t =>
      rw [hh] at a3
      simp only [chain, Bool.and_eq_true, decide_eq_true_eq] at a3
      omega

theorem took_again {r : Receiver} {w : Int} {p : Packet} {o : Receiver × Ack × Bool × Int} (hv : validS r w = true) (hp : isPacketS p = true) (h1 : p.data < r.next_ + w) (h2 : p.data ≠ 1000000000) (ht : Took r w p o) : recvS o.1 w p = (o.1, o.2.1, false, 0) := by
  have hv' := took_valid hv hp h1 h2 ht
  have hd := data_lt hp h2
  obtain ⟨a1, a2, a3⟩ := valid_iff.1 hv
  have nx : r.next_ ≤ o.1.next_ := by
    cases ht with
    | next h =>
      have := chain_adv (l := r.have_) (n := r.next_ + 1) (hi := hiS r.next_ w) (by rw [Int.add_sub_cancel]; exact a3) (by unfold hiS; split <;> omega)
      show r.next_ ≤ (adv _ _).1; omega
    | old h => exact Int.le_refl _
    | has h h' => exact Int.le_refl _
    | new h h' => exact Int.le_refl _
  unfold recvS
  rw [if_neg (by simp [hv']), if_neg (by simp [hp]), if_neg (by omega), if_neg h2]
  cases ht with
  | next h =>
    have := chain_adv (l := r.have_) (n := r.next_ + 1) (hi := hiS r.next_ w) (by rw [Int.add_sub_cancel]; exact a3) (by unfold hiS; split <;> omega)
    dsimp only
    rw [if_neg (by omega), if_pos (by omega)]
  | old h => dsimp only; rw [if_neg (by omega), if_pos h]
  | has h h' => dsimp only; rw [if_neg (by omega), if_neg (by omega), if_pos h']
  | new h h' =>
    have hm : p.data ∈ ins p.data r.have_ := by
      generalize r.have_ = l
      induction l with
      | nil => simp [ins]
      | cons x t ih => unfold ins; split; (exact List.mem_cons_of_mem _ ih); simp
    dsimp only; rw [if_neg (by omega), if_neg (by omega), if_pos hm]

theorem recv_bad {r : Receiver} {w : Int} {p : Packet} (h : (recvS r w p).2.2.2 ≠ 0) : (recvS r w p).1 = ⟨0, []⟩ ∧ (recvS r w p).2.1 = ack0 := by
  unfold recvS at h ⊢
  split; (exact ⟨rfl, rfl⟩)
  split; (exact ⟨rfl, rfl⟩)
  split; (exact ⟨rfl, rfl⟩)
  split; (exact ⟨rfl, rfl⟩)
  rename_i h1 h2 h3 h4
  rw [if_neg h1, if_neg h2, if_neg h3, if_neg h4] at h
  exfalso
  split at h; (exact h rfl)
  split at h; (exact h rfl)
  split at h; (exact h rfl)
  exact h rfl

theorem pureReceiverTwice (r : Receiver) (w : Int) (p : Packet) (_ : fitReceiver r) (_ : fitI .i64 w) (_ : fitPacket p) : V12 r w p (fun b => b = true) := by
  rw [V12_eq]; unfold B12
  refine V35_spec (V36_spec (br_of (fun _ => rfl) (fun e => ?_)))
  have hl := few_len (bool_nn e)
  refine V37_spec (by omega) (br_of (fun e => br_t ?_) (fun e => ?_))
  · have e : (recvS r w p).2.2.2 ≠ 0 := by simpa using e
    obtain ⟨h1, h2⟩ := recv_bad e
    rw [h1, h2]
    exact V41_spec (by simp) (fun _ => rfl) (fun h => absurd rfl h)
  · have e : (recvS r w p).2.2.2 = 0 := by simpa using e
    obtain ⟨hv, hp, h1, h2⟩ := recv_zero e
    have ht := recv_took hv hp h1 h2
    have hv' := took_valid hv hp h1 h2 ht
    have hlen := valid_len hv'
    have hw := (valid_iff.1 hv').1
    refine V37_spec (by omega) ?_
    rw [took_again hv hp h1 h2 ht]
    exact br_t (br_t (br_t (V41_spec (by omega) (fun _ => br_t (ack_same _)) (fun h => absurd rfl h))))

theorem pureReceiverRoom (r : Receiver) (w : Int) (p : Packet) (_ : fitReceiver r) (_ : fitI .i64 w) (_ : fitPacket p) : V14 r w p (fun b => b = true) := by
  rw [V14_eq]; unfold B14
  refine V35_spec (V36_spec (br_of (fun _ => rfl) (fun e => ?_)))
  have hl := few_len (bool_nn e)
  refine V40_spec (by omega) (br_of (fun _ => rfl) (fun e => ?_))
  have hv := bool_nn e
  refine V26_spec (br_of (fun _ => rfl) (fun e => ?_))
  have hp := bool_nn e
  obtain ⟨a1, a2, a3⟩ := valid_iff.1 hv
  have e2 : IntKind.i64.wrap (r.next_ + w) = r.next_ + w := wrapi (by omega) (by omega)
  refine V37_spec (r := r) (p := p) (by omega) ?_
  rw [e2]
  have full : ∀ (h : r.next_ + w ≤ p.data ∨ p.data = 1000000000), (recvS r w p).2.2.2 = 10 := by
    intro h
    unfold recvS
    rw [if_neg (by simp [hv]), if_neg (by simp [hp])]
    by_cases h3 : r.next_ + w ≤ p.data
    · rw [if_pos h3]
    · rw [if_neg h3, if_pos (by omega)]
  refine br_of (fun e => ?_) (fun e => ?_)
  · have e : r.next_ + w ≤ p.data := by simpa using e
    unfold s_14_6
    exact br_t (br_t (by rw [full (.inl e)]; rfl))
  · have e : ¬ r.next_ + w ≤ p.data := by simpa using e
    unfold s_14_6
    refine br_of (fun e' => br_t ?_) (fun e' => br_t ?_)
    · have e' : p.data = 1000000000 := by simpa using e'
      rw [full (.inr e')]; rfl
    · have e' : p.data ≠ 1000000000 := by simpa using e'
      have ht := recv_took hv hp (by omega) e'
      have hv' := took_valid hv hp (by omega) e' ht
      have hlen := valid_len hv'
      have hz := took_zero ht
      refine br_true (by rw [hz]; rfl) (V39_spec (r := ⟨(recvS r w p).1.next_, (recvS r w p).1.have_⟩) (by show (recvS r w p).1.have_.length ≤ _; omega) (br_true hv' ?_))
      exact decide_eq_true hlen

end Go.Vg.Ytgekegoflaichaa
