/-
  slices.Insert at []int over a row of the caller's own: the shelf's four contracts as one. Own work; no condition.
-/
import Derived.Test.YtgekegoflaichaaVgEat
import Derived.Shelf.Spec.SlicesInsertGrow
namespace Go.Vg
open Go.RowKit Go.Proofs

theorem heap_setCell_at {w : World} {b : Nat} {arr : Array Value} {e : TypeId} {fz : Nat × Nat} (h : w.heap[b]? = some (.cells arr e fz)) (o : Nat) (v : Value) :
    (w.setCell ⟨b, o, none⟩ v).heap[b]? = some (.cells (arr.setIfInBounds o v) e fz) := by
  obtain ⟨hlt, hk⟩ := Array.getElem?_eq_some_iff.1 h
  show (w.heap.modify b _)[b]? = _
  rw [Array.getElem?_eq_getElem (by rw [Array.size_modify]; exact hlt), Array.getElem_modify_self, hk]
  rfl

theorem heap_setCells_at {b : Nat} {e : TypeId} {fz : Nat × Nat} : ∀ (vs : List Value) (o : Nat) (w : World) (arr : Array Value), w.heap[b]? = some (.cells arr e fz) → o + vs.length ≤ arr.size →
    ∃ arr', (w.setCells b o vs).heap[b]? = some (.cells arr' e fz) ∧ arr'.size = arr.size ∧ arr'.toList = arr.toList.take o ++ vs ++ arr.toList.drop (o + vs.length)
  | [], o, w, arr, h, _ => ⟨arr, h, rfl, by simp⟩
  | v :: r, o, w, arr, h, hle => by
    simp only [List.length_cons] at hle
    obtain ⟨arr', h1, h2, h3⟩ := heap_setCells_at r (o + 1) (w.setCell ⟨b, o, none⟩ v) (arr.setIfInBounds o v) (heap_setCell_at h o v) (by simp; omega)
    refine ⟨arr', h1, by simpa using h2, ?_⟩
    have ho : o < arr.toList.length := by simp; omega
    have e1 : (arr.toList.set o v).take (o + 1) = arr.toList.take o ++ [v] := by
      rw [List.take_add_one, List.take_set_of_le (Nat.le_refl _)]
      simp [List.getElem?_set]
      omega
    have e2 : (arr.toList.set o v).drop (o + 1 + r.length) = arr.toList.drop (o + (r.length + 1)) := by
      rw [List.drop_set_of_lt (by omega)]
      congr 1
      omega
    rw [h3, Array.toList_setIfInBounds, e1, e2]
    simp

theorem grown_setCells (b : Nat) : ∀ (vs : List Value) (o : Nat) (w : World), w.grownBy (w.setCells b o vs) (some b)
  | [], _, w => ⟨rfl, rfl, rfl, Nat.le_refl _, fun _ _ _ => rfl⟩
  | v :: r, o, w => by
    have h := grown_setCells b r (o + 1) (w.setCell ⟨b, o, none⟩ v)
    have hs : (w.setCell ⟨b, o, none⟩ v).heap.size = w.heap.size := by show (w.heap.modify b _).size = _; simp
    refine ⟨h.os, h.tape, h.output, by have := h.size; rw [hs] at this; exact this, fun k hk hne => (h.block k (by rw [hs]; exact hk) hne).trans ?_⟩
    show (w.heap.modify b _)[k]? = _
    rw [Array.getElem?_modify]
    rw [if_neg (fun h => hne (by rw [h]))]

theorem grown_trans {a b c : World} {row : Option Nat} (h : a.grownBy b row) (k : b.grownBy c row) : a.grownBy c row :=
  ⟨k.os.trans h.os, k.tape.trans h.tape, k.output.trans h.output, Nat.le_trans h.size k.size, fun i hi hne => (k.block i (Nat.lt_of_lt_of_le hi h.size) hne).trans (h.block i hi hne)⟩

theorem row_cells {w : World} {g : Nat} {cur : Array Value} {e : TypeId} {fz : Nat × Nat} (hg : w.heap[g]? = some (.cells cur e fz)) (k : Nat) : w.cell? ⟨g, k, none⟩ = cur[k]? := by
  simp [World.cell?, hg]

theorem insert_world {P : Program} {ρ : Go.Shelf.Ren} (L : Lays2.n21 P ρ) {w : World} {B : Nat} {v : Value} {n i : Nat} {cs vs : List Value} (hown : w.ownsRow B (ρ.t 3) 1 v n cs) (hi : i ≤ n) (hm : 0 < vs.length)
    (hbig : (n + vs.length) * 8 ≤ 140737488355328) {vb c : Nat} {arr' : Array Value} {e' : TypeId} (hvb : w.heap[vb]? = some (.cells arr' e' (0, 0))) (hne : v.ownBlock ≠ some vb)
    (hvs : ∀ j u, vs[j]? = some u → w.cell? ⟨vb, j, none⟩ = some u) (h1c : ∀ u ∈ cs, u.oneCell' = true) (h1v : ∀ u ∈ vs, u.oneCell' = true) (hB : B ≤ w.heap.size) :
    Calls P (ρ.f 21) #[v, .int .i64 i, .slice (some ⟨vb, 0, none⟩) vs.length c] w fun e w' => ∃ v', e = .returned v' ∧ w.grownBy w' v.ownBlock ∧
      w'.ownsRow B (ρ.t 3) 1 v' (n + vs.length) (cs.take i ++ vs ++ cs.drop i) ∧ ∀ k, v'.ownBlock = some k → v.ownBlock = some k ∨ w.heap.size ≤ k := by
  have hlen := hown.1
  have hcl : cs.length = n := by omega
  have hvs' : ∀ j u, vs[j]? = some u → w.cell? ⟨vb, 0 + j, none⟩ = some u := fun j u h => by rw [Nat.zero_add]; exact hvs j u h
  have hol : (cs.take i ++ vs ++ cs.drop i).length = (n + vs.length) * 1 := by simp; omega
  have hmax : n + vs.length ≤ maxLen := by simp only [maxLen]; omega
  rcases hown.2 with ⟨rfl, h0⟩ | ⟨g, cap, cur, rfl, hBg, hg, hnc, hcm, hsz, htk⟩
  · -- nil
    subst h0
    have hi0 : i = 0 := by omega
    subst hi0
    have hcs : cs = [] := List.length_eq_zero_iff.1 hcl
    subst hcs
    refine (Any2.slices_Insert_int_end_grow L none 0 0 vb 0 vs.length c [] vs w hm (Nat.le_refl _) (by omega) hbig rfl rfl (fun _ => rfl) (fun a h => by cases h) hvs' h1v).mono ?_
    rintro e w' ⟨rfl, rfl⟩
    have hG := grownCap_ge w (0 + vs.length) 0 (ρ.t 3)
    have hG2 := grownCap_le_maxLen w (0 + vs.length) 0 (ρ.t 3) hmax
    generalize grownCap w (0 + vs.length) 0 (ρ.t 3) = G at hG hG2 ⊢
    have ga := World.grownBy_alloc w.drew (.cells (([] ++ vs).toArray ++ Builtin.zeroCells (Value.int .i64 0).cells (G - (0 + vs.length))) (ρ.t 3)) none
    refine ⟨_, rfl, ⟨ga.os, ga.tape, ga.output, ga.size, fun k hk _ => ga.block k hk (by simp)⟩, ⟨hol, .inr ⟨w.heap.size, G, _, rfl, hB, heap_alloc_new w.drew _, by omega, hG2, ?_, ?_⟩⟩, fun k hk => .inr ?_⟩
    · simp [Builtin.zeroCells, Value.cells]; omega
    · simp
    · simp [Value.ownBlock] at hk; omega
  · -- a row
    simp only [Nat.mul_one] at hsz htk hlen
    have hcurl : cur.toList.length = cap := by simp [hsz]
    have hcs : ∀ j u, cs[j]? = some u → w.cell? ⟨g, 0 + j, none⟩ = some u := fun j u h => by
      rw [row_cells hg, Nat.zero_add]
      rw [← htk, List.getElem?_take] at h
      split at h
      · simpa using h
      · cases h
    have hgl : g < w.heap.size := (Array.getElem?_eq_some_iff.1 hg).1
    have hgb : vb ≠ g := fun h => hne (by rw [h]; rfl)
    have hsp : ∀ j, j < cap → (w.cell? ⟨g, 0 + j, none⟩).isSome = true := fun j hj => by rw [row_cells hg, Nat.zero_add, Array.getElem?_eq_getElem (by omega)]; rfl
    have hfz : ∀ j, w.frozen? ⟨g, j, none⟩ = false := fun j => by simp [World.frozen?, hg]
    have hti : cur.toList.take i = cs.take i := by rw [← htk, List.take_take, Nat.min_eq_left hi]
    by_cases hroom : n + vs.length ≤ cap
    · rcases Nat.lt_or_ge i n with hin | hin
      · refine (Any2.slices_Insert_int_shift L g 0 n cap i vb 0 vs.length c cs vs w hin hm hroom (by simp only [maxLen] at hcm; omega) hgb hcl rfl hcs (fun j hj => hsp j (by omega)) (fun j _ => hfz _) hvs' h1c h1v e' (ρ.t 3) arr'.size cur.size
          (by simp [World.shape?, hvb]) (by simp [World.shape?, hg]) (by omega) (by simp [World.frozen?, hvb]) (by simp [World.frozen?, hvb])).mono ?_
        rintro e w' ⟨rfl, rfl⟩
        have hdl : (cs.drop i).length = n - i := by rw [List.length_drop, hcl]
        obtain ⟨a1, h1, h2, h3⟩ := heap_setCells_at (cs.drop i) (0 + (i + vs.length)) w.drew cur hg (by rw [hdl]; omega)
        obtain ⟨a2, h4, h5, h6⟩ := heap_setCells_at vs (0 + i) _ a1 h1 (by omega)
        have g1 := grown_setCells g (cs.drop i) (0 + (i + vs.length)) w.drew
        have g2 := grown_trans g1 (grown_setCells g vs (0 + i) _)
        refine ⟨_, rfl, ⟨g2.os, g2.tape, g2.output, g2.size, fun k hk hne => g2.block k hk hne⟩, ⟨hol, .inr ⟨g, cap, a2, rfl, hBg, h4, hroom, hcm, by omega, ?_⟩⟩, fun k hk => .inl hk⟩
        simp only [Nat.zero_add] at h3 h6
        have hl1 : (cur.toList.take (i + vs.length)).length = i + vs.length := by rw [List.length_take]; omega
        have hA : a1.toList.take i = cs.take i := by
          rw [h3, List.append_assoc, List.take_append_of_le_length (by omega), List.take_take, Nat.min_eq_left (by omega), hti]
        have hD : a1.toList.drop (i + vs.length) = cs.drop i ++ cur.toList.drop (i + vs.length + (cs.drop i).length) := by
          rw [h3, List.append_assoc, List.drop_left' hl1]
        have hl2 : (cs.take i ++ vs ++ cs.drop i).length = (n + vs.length) * 1 := hol
        rw [h6, hA, hD, ← List.append_assoc, List.take_left' hl2]
      · have hin' : i = n := by omega
        subst hin'
        refine (Any2.slices_Insert_int_end_room L g 0 i cap vb 0 vs.length c vs w hm hroom (by simp only [maxLen] at hcm; omega) rfl (fun j hj => by rw [Nat.add_assoc]; exact hsp _ (by omega)) (fun j _ => hfz _) hvs' h1v).mono ?_
        rintro e w' ⟨rfl, rfl⟩
        obtain ⟨a2, h4, h5, h6⟩ := heap_setCells_at vs (0 + i) w cur hg (by omega)
        refine ⟨_, rfl, grown_setCells g vs (0 + i) w, ⟨hol, .inr ⟨g, cap, a2, rfl, hBg, h4, hroom, hcm, by omega, ?_⟩⟩, fun k hk => .inl hk⟩
        have hl2 : (cur.toList.take i).length = i := by simp; omega
        rw [h6]
        simp only [Nat.zero_add, Nat.mul_one]
        rw [List.take_left' (by simp only [List.length_append, hl2]), hti, List.drop_eq_nil_of_le (by omega), List.append_nil]
    · have hroom' : cap < n + vs.length := by omega
      rcases Nat.lt_or_ge i n with hin | hin
      · refine (Any2.slices_Insert_int_grow L g 0 n cap i vb 0 vs.length c cs vs w hin hm hnc hroom' hbig hcl rfl hcs hvs' h1c h1v).mono ?_
        rintro e w' ⟨rfl, rfl⟩
        have hG := grownCap_ge w (n + vs.length) cap (ρ.t 3)
        have hG2 := grownCap_le_maxLen w (n + vs.length) cap (ρ.t 3) hmax
        generalize grownCap w (n + vs.length) cap (ρ.t 3) = G at hG hG2 ⊢
        generalize hR : (cs.take i).toArray ++ Builtin.zeroCells (Value.int .i64 0).cells (n + vs.length - i) ++ Builtin.zeroCells (Value.int .i64 0).cells (G - (n + vs.length)) = ROW
        have hRs : ROW.size = G := by rw [← hR]; simp [Builtin.zeroCells, Value.cells]; omega
        have hRt : ROW.toList.take i = cs.take i := by
          rw [← hR]
          simp only [Array.toList_append, List.append_assoc]
          rw [List.take_append_of_le_length (by rw [List.length_take]; omega)]
          exact List.take_take.trans (by rw [Nat.min_self])
        have hdl : (cs.drop i).length = n - i := by rw [List.length_drop, hcl]
        have ga := World.grownBy_alloc w (.cells ROW (ρ.t 3)) none
        have hnew := heap_alloc_new w (.cells ROW (ρ.t 3))
        obtain ⟨a1, h1, h2, h3⟩ := heap_setCells_at vs i (w.alloc (.cells ROW (ρ.t 3))).drew ROW hnew (by omega)
        obtain ⟨a2, h4, h5, h6⟩ := heap_setCells_at (cs.drop i) (i + vs.length) ((w.alloc (.cells ROW (ρ.t 3))).drew.setCells w.heap.size i vs).drew a1 h1 (by rw [hdl]; omega)
        have g1 := grown_setCells w.heap.size vs i (w.alloc (.cells ROW (ρ.t 3))).drew
        have g2 := grown_setCells w.heap.size (cs.drop i) (i + vs.length) ((w.alloc (.cells ROW (ρ.t 3))).drew.setCells w.heap.size i vs).drew
        have hs1 : (w.alloc (.cells ROW (ρ.t 3))).heap.size ≤ ((w.alloc (.cells ROW (ρ.t 3))).drew.setCells w.heap.size i vs).heap.size := g1.size
        have hs0 : w.heap.size ≤ (w.alloc (.cells ROW (ρ.t 3))).heap.size := ga.size
        refine ⟨_, rfl, ⟨g2.os.trans (g1.os.trans ga.os), g2.tape.trans (g1.tape.trans ga.tape), g2.output.trans (g1.output.trans ga.output), Nat.le_trans hs0 (Nat.le_trans hs1 g2.size), fun k hk _ => ?_⟩, ⟨hol, .inr ⟨w.heap.size, G, a2, rfl, hB, h4, hG, hG2, by omega, ?_⟩⟩, fun k hk => .inr ?_⟩
        · have e2 := g2.block k (by show k < ((w.alloc (.cells ROW (ρ.t 3))).drew.setCells w.heap.size i vs).heap.size; omega) (by simp; omega)
          have e1 := g1.block k (by show k < (w.alloc (.cells ROW (ρ.t 3))).heap.size; omega) (by simp; omega)
          exact e2.trans (e1.trans (ga.block k hk (by simp)))
        · rw [h6, h3]
          have hl1 : (ROW.toList.take i ++ vs).length = i + vs.length := by rw [List.length_append, List.length_take, Array.length_toList]; omega
          rw [List.take_left' hl1, hRt, List.take_left' hol]
        · simp [Value.ownBlock] at hk; omega
      · have hin' : i = n := by omega
        subst hin'
        refine (Any2.slices_Insert_int_end_grow L (some ⟨g, 0, none⟩) i cap vb 0 vs.length c cs vs w hm hnc hroom' hbig hcl rfl (fun h => by cases h) (fun a ha j u hj => by cases ha; rw [Addr.add_lit]; exact hcs j u hj) hvs' h1v).mono ?_
        rintro e w' ⟨rfl, rfl⟩
        have hG := grownCap_ge w (i + vs.length) cap (ρ.t 3)
        have hG2 := grownCap_le_maxLen w (i + vs.length) cap (ρ.t 3) hmax
        generalize grownCap w (i + vs.length) cap (ρ.t 3) = G at hG hG2 ⊢
        have ga := World.grownBy_alloc w.drew (.cells ((cs ++ vs).toArray ++ Builtin.zeroCells (Value.int .i64 0).cells (G - (i + vs.length))) (ρ.t 3)) none
        refine ⟨_, rfl, ⟨ga.os, ga.tape, ga.output, ga.size, fun k hk _ => ga.block k hk (by simp)⟩, ⟨hol, .inr ⟨w.heap.size, G, _, rfl, hB, heap_alloc_new w.drew _, by omega, hG2, ?_, ?_⟩⟩, fun k hk => .inr ?_⟩
        · simp [Builtin.zeroCells, Value.cells]; omega
        · rw [List.take_of_length_le (by omega : cs.length ≤ i), List.drop_eq_nil_of_le (by omega : cs.length ≤ i), List.append_nil]
          simp only [Array.toList_append, Nat.mul_one]
          rw [List.take_left' (by simp; omega)]
        · simp [Value.ownBlock] at hk; omega

end Go.Vg
