/- cut, own and stays: the first 5000; a list of one's own with a mark behind it; whether it stayed. -/
import Derived.Test.YtcgkolaljgpphaaBegun
import Derived.Test.YtcgkolaljgpphaaOfRef
import Derived.OwnWalk
namespace Go.Proofs.Ytcgkolaljgpphaa
set_option linter.unusedVariables false
set_option linter.unusedSimpArgs false
open Go.RowKit

theorem info44 : (Try.prog.info? 44).map (fun i => (i.zero, i.size, i.bytes)) = some (some (.agg #[.int .i64 0, .int .i64 0, .string ⟨#[]⟩]), 3, 32) := by kernel_rfl
def cellsV (vs : List Val) : List Value := vs.flatMap fun v => [.int .i64 v.k, .int .i64 v.n, .string v.s]
theorem cellsV_len (vs : List Val) : (cellsV vs).length = vs.length * 3 := by
  induction vs with
  | nil => rfl
  | cons v vs ih => simp only [cellsV, List.flatMap_cons, List.length_append, List.length_cons, List.length_nil] at *; omega
theorem cellsV_get (vs : List Val) (i : Nat) (hi : i < vs.length) : (cellsV vs)[i * 3]? = some (.int .i64 (vs.getD i default).k) ∧ (cellsV vs)[i * 3 + 1]? = some (.int .i64 (vs.getD i default).n) ∧ (cellsV vs)[i * 3 + 2]? = some (.string (vs.getD i default).s) := by
  induction vs generalizing i with
  | nil => simp at hi
  | cons v vs ih =>
    cases i with
    | zero => exact ⟨rfl, rfl, rfl⟩
    | succ i =>
      have := ih i (by simpa using hi)
      simp only [cellsV, List.flatMap_cons] at *
      rw [List.getElem?_append_right (by simp; omega), List.getElem?_append_right (by simp; omega), List.getElem?_append_right (by simp; omega)]
      simp only [List.length_cons, List.length_nil, List.getD_cons_succ]
      rw [show (i + 1) * 3 - (0 + 1 + 1 + 1) = i * 3 by omega, show (i + 1) * 3 + 1 - (0 + 1 + 1 + 1) = i * 3 + 1 by omega, show (i + 1) * 3 + 2 - (0 + 1 + 1 + 1) = i * 3 + 2 by omega]
      exact this
theorem ValsAt.of_own {w : World} {B g cap n : Nat} {vs : List Val} (h : w.ownsRow B 44 3 (.slice (some ⟨g, 0, none⟩) n cap) n (cellsV vs)) (hn : vs.length = n) : ValsAt w (some ⟨g, 0, none⟩) vs := by
  intro i hi
  obtain ⟨h0, h1, h2⟩ := cellsV_get vs i hi
  refine ⟨g, 0, rfl, (h.lt g rfl).2, ?_, ?_, ?_⟩
  · rw [Nat.zero_add, h.cellAt (i * 3) (by omega)]; exact h0
  · rw [Nat.zero_add, h.cellAt (i * 3 + 1) (by omega)]; exact h1
  · rw [Nat.zero_add, h.cellAt (i * 3 + 2) (by omega)]; exact h2
theorem ValsAt.take {w : World} {A : Option Addr} {vs : List Val} (h : ValsAt w A vs) (m : Nat) : ValsAt w A (vs.take m) := by
  intro i hi
  simp only [List.length_take] at hi
  have e : (vs.take m).getD i default = vs.getD i default := by
    simp only [List.getD, List.getElem?_take]
    rw [if_pos (by omega)]
  rw [e]
  exact h i (by omega)
/-- The cells that an append of the list takes. -/
theorem ValsAt.cells {w : World} {A : Option Addr} {vs : List Val} (h : ValsAt w A vs) : ∀ ad, A = some ad → ∀ j u, (cellsV vs)[j]? = some u → w.cell? (ad.add j) = some u := by
  rintro ad rfl j u hu
  have hj := (List.getElem?_eq_some_iff.1 hu).1
  rw [cellsV_len] at hj
  obtain ⟨b, off, e, _, h0, h1, h2⟩ := h (j / 3) (by omega)
  obtain ⟨g0, g1, g2⟩ := cellsV_get vs (j / 3) (by omega)
  cases e
  rw [Addr.add_lit]
  rcases (by omega : j = j / 3 * 3 ∨ j = j / 3 * 3 + 1 ∨ j = j / 3 * 3 + 2) with e | e | e
  · rw [← e] at h0 g0; rw [h0, ← hu, g0]
  · rw [Nat.add_assoc, ← e] at h1; rw [← e] at g1; rw [h1, ← hu, g1]
  · rw [Nat.add_assoc, ← e] at h2; rw [← e] at g2; rw [h2, ← hu, g2]
theorem cellsV_one : ∀ (vs : List Val), ∀ u ∈ cellsV vs, u.oneCell' = true := by
  intro vs u hu
  obtain ⟨v, _, hu⟩ := List.mem_flatMap.1 hu
  simp at hu
  rcases hu with rfl | rfl | rfl <;> rfl

set_option maxHeartbeats 400000 in
theorem cut9 (A : Option Addr) (C n : Nat) (w : World) (hc : n ≤ C) :
    Calls Try.prog 9 #[.slice A n C] w fun e w' => e = .returned (.slice A (min n 5000) C) ∧ w = w' := by
  have e1 : (if (5000 : Int) < (n : Int) then (5000 : Int) else (n : Int)) = ((min n 5000 : Nat) : Int) := by split <;> omega
  have hm : ((min n 5000 : Nat) : Int) ≤ (C : Int) := by omega
  have hm0 : (0 : Int) ≤ ((min n 5000 : Nat) : Int) := by omega
  have hn1 : (min n 5000) ≤ n := by omega
  rcases Nat.lt_or_ge 5000 n with h | h
  · have e2 : min n 5000 = 5000 := by omega
    rw [e2] at *
    go_enter Try.func9, Try.ntmps9
    go_wp2
    go_ret
    exact ⟨rfl, rfl⟩
  · have e2 : min n 5000 = n := by omega
    rw [e2] at *
    go_enter Try.func9, Try.ntmps9
    go_wp2
    go_ret
    exact ⟨rfl, rfl⟩

def mark : Val := ⟨-7, 0, ⟨#[]⟩⟩
set_option maxHeartbeats 800000 in
theorem own10 (A : Option Addr) (C n : Nat) (vs : List Val) (w : World) (hv : ValsAt w A vs) (hn : vs.length = n) (hl : n ≤ 8000) (hA : A = none → n = 0 ∧ C = 0) :
    Calls Try.prog 10 #[.slice A n C] w fun e w' => ∃ g, e = .returned (.slice (some ⟨g, 0, none⟩) n (n + 1)) ∧ ValsAt w' (some ⟨g, 0, none⟩) (vs ++ [mark]) ∧ Below w.heap.size w w' := by
  obtain ⟨i0, hi, hz0, hz1, hz2⟩ := info_parts info44
  have HV := Lib.hid hv
  clear hv
  go_enter Try.func10, Try.ntmps10
  go_wp2_with (at_make; refine wpList_make_own _ rfl _ _ 22 rfl w.heap.size 44 i0 _ 3 Try.underlying22 hi hz0 hz1 .i64 .i64 _ (n + 1) rfl rfl (by push_cast; rfl) (by rw [hz2]; omega) (by unfold maxLen; omega) (Nat.le_refl _) ?_)
  intro w1 hown1 hgrow1
  have hb1 : Below w.heap.size w w1 := (Below.refl _ _).grown hgrow1 (Nat.le_refl _) (fun k hk => by cases hk)
  have hn1 : (n : Int) ≤ (n : Int) + 1 := by omega
  go_wp2_with (at_builtin; refine wpList_append_fits_any _ rfl _ _ 22 rfl w.heap.size 44 i0 3 Try.underlying22 hi hz1 w.heap.size 0 (n + 1) [] rfl hown1 A n C (cellsV vs) rfl (by rw [cellsV_len, hn]) hA (HV.out.below hb1).cells (cellsV_one vs) (by omega) ?_)
  intro w2 hown2 hgrow2
  try simp only [Nat.zero_add, List.nil_append] at hown2
  have hb2 : Below w.heap.size w w2 := hb1.grown hgrow2 hb1.size (fun k hk => by cases hk; exact Nat.le_refl _)
  have hsz2 := hb2.size
  try simp only [Nat.zero_add]
  clear hown1 hgrow1 hgrow2 hb1
  go_wp2_with (at_builtin; refine wpList_append_fits_any _ rfl _ _ 22 rfl w.heap.size 44 i0 3 Try.underlying22 hi hz1 w.heap.size n (n + 1) (cellsV vs) rfl (hown2.alloc _) (some ⟨w2.heap.size, 0, none⟩) 1 1 (cellsV [mark]) rfl rfl (fun h => by cases h) (fun ad had j u hu => by
    cases had
    rw [Addr.add_lit, cell_of_row _ _ _ _ _ _ (heap_alloc_new w2 _)]
    have hj := (List.getElem?_eq_some_iff.1 hu).1
    simp [cellsV] at hj
    rcases (by omega : j = 0 ∨ j = 1 ∨ j = 2) with rfl | rfl | rfl <;> exact hu) (cellsV_one [mark]) (by omega) ?_)
  intro w3 hown3 hgrow3
  have hb3 : Below w.heap.size w w3 := (hb2.alloc hsz2 _).grown hgrow3 (by simp; omega) (fun k hk => by cases hk; exact Nat.le_refl _)
  have e : cellsV vs ++ cellsV [mark] = cellsV (vs ++ [mark]) := by simp [cellsV]
  rw [e] at hown3
  have HO := Lib.hid (And.intro (ValsAt.of_own hown3 (by simp [hn])) hb3)
  clear hown2 hown3 hgrow3 hb2 hb3 e
  go_wp2
  go_ret
  exact ⟨w.heap.size, rfl, HO.out.1, HO.out.2⟩

set_option maxRecDepth 100000 in
set_option maxHeartbeats 1000000 in
theorem stays13 (g : Nat) (A : Option Addr) (C n : Nat) (vs : List Val) (w : World) (hl : ValsAt w (some ⟨g, 0, none⟩) (vs ++ [mark])) (hv : ValsAt w A vs) (hf : ∀ v ∈ vs, v.fits) (hn : vs.length = n) (h8 : n ≤ 8000) :
    Calls Try.prog 13 #[.slice (some ⟨g, 0, none⟩) n (n + 1), .slice A n C] w fun e w' => e = .returned (.bool true) ∧ Below w.heap.size w w' := by
  obtain ⟨b, off, eA, hlt0, m0, m1, m2⟩ := hl n (by simp [hn])
  cases eA
  have em : (vs ++ [mark]).getD n default = mark := by simp [List.getD, ← hn]
  rw [em, Nat.zero_add] at m0 m1 m2
  have HL := Lib.hid hl
  have HV := Lib.hid hv
  have HF := Lib.hid hf
  clear hl hv hf em
  go_enter Try.func13, Try.ntmps13
  have hn1 : (n : Int) < (n : Int) + 1 := by omega
  simp only [mark] at m0 m1 m2
  go_wp2
  go_loopw [5, 6] (fun v i wr => ∃ k : Nat, k ≤ n ∧ i = .int .i64 k ∧ v = .bool true ∧ Below w.heap.size w wr) (fun _ i _ => n - (intOf i).toNat)
  case atStart => exact ⟨0, Nat.zero_le _, rfl, by simp, Below.refl _ _⟩
  case round =>
    obtain ⟨k, hk, rfl, rfl, hb⟩ := hrel
    clear m0 m1 m2 hn1
    by_cases hlt : k < n
    · have hkv : k < vs.length := by omega
      obtain ⟨b', off', kk, n1, s, rfl, hbl, hget, hc0, hc1, hc2, hnn, hs⟩ := (HV.out.below hb).get HF.out hkv
      obtain ⟨b2, off2, e2, _, hd0, hd1, hd2⟩ := (HL.out.below hb) k (by simp; omega)
      cases e2
      have eg : (vs ++ [mark]).getD k default = vs.getD k default := by rw [List.getD_eq_getElem?_getD, List.getD_eq_getElem?_getD, List.getElem?_append_left hkv]
      rw [eg, hget, Nat.zero_add] at hd0 hd1 hd2
      have HB := Lib.hid hb.drew
      clear hb eg hget hnn hs
      go_wp2_with fail
      refine wp_region_noPanic ?_
      refine wp_region_held_drew (S := (fun w' => (w'.cell? ⟨b', off' + k * 3, none⟩ = some (.int .i64 kk) ∧ w'.cell? ⟨b', off' + k * 3 + 1, none⟩ = some (.int .i64 n1) ∧ w'.cell? ⟨b', off' + k * 3 + 2, none⟩ = some (.string s)) ∧ (w'.cell? ⟨g, k * 3, none⟩ = some (.int .i64 kk) ∧ w'.cell? ⟨g, k * 3 + 1, none⟩ = some (.int .i64 n1) ∧ w'.cell? ⟨g, k * 3 + 2, none⟩ = some (.string s)))) (by kernel_rfl) (by exact ⟨⟨hc0, hc1, hc2⟩, ⟨hd0, hd1, hd2⟩⟩) (fun hHeld => ?_)
      first
      | (refine wpAnyH_take (i := 0) (oi := ?o1_0) (v := undef) ?hi1_0 (by kernel_rfl) (by kernel_rfl) (by kernel_rfl) (fun _ _ _ h => h) ?hy1_0 (by assumption) ?hr1_0
         case hi1_0 => (simp only [List.getElem?_toArray, List.getElem?_cons_succ, List.getElem?_cons_zero]; rfl)
         case hy1_0 => exact Or.inr ⟨by rfl, rfl⟩)
      | (refine wpAnyH_take (i := 0) (oi := ?o1_0) (v := ?v1_0) ?hi1_0 (by kernel_rfl) (by kernel_rfl) (by kernel_rfl) (fun _ _ _ h => h) ?hy1_0 (by assumption) ?hr1_0
         case hi1_0 => (simp only [List.getElem?_toArray, List.getElem?_cons_succ, List.getElem?_cons_zero]; rfl)
         case hy1_0 => (refine Or.inl ⟨by rfl, ?_⟩; intro w hSw; (try dsimp only at hSw); go_simp <;> with_reducible rfl))
      try simp only [Act.put, List.setIfInBounds_toArray, List.set_cons_zero, List.set_cons_succ]
      first
      | (refine wpAnyH_take (i := 1) (oi := ?o1_1) (v := undef) ?hi1_1 (by kernel_rfl) (by kernel_rfl) (by kernel_rfl) (fun _ _ _ h => h) ?hy1_1 (by assumption) ?hr1_1
         case hi1_1 => (simp only [List.getElem?_toArray, List.getElem?_cons_succ, List.getElem?_cons_zero]; rfl)
         case hy1_1 => exact Or.inr ⟨by rfl, rfl⟩)
      | (refine wpAnyH_take (i := 1) (oi := ?o1_1) (v := ?v1_1) ?hi1_1 (by kernel_rfl) (by kernel_rfl) (by kernel_rfl) (fun _ _ _ h => h) ?hy1_1 (by assumption) ?hr1_1
         case hi1_1 => (simp only [List.getElem?_toArray, List.getElem?_cons_succ, List.getElem?_cons_zero]; rfl)
         case hy1_1 => (refine Or.inl ⟨by rfl, ?_⟩; intro w hSw; (try dsimp only at hSw); go_simp <;> with_reducible rfl))
      try simp only [Act.put, List.setIfInBounds_toArray, List.set_cons_zero, List.set_cons_succ]
      first
      | (refine wpAnyH_take (i := 2) (oi := ?o1_2) (v := undef) ?hi1_2 (by kernel_rfl) (by kernel_rfl) (by kernel_rfl) (fun _ _ _ h => h) ?hy1_2 (by assumption) ?hr1_2
         case hi1_2 => (simp only [List.getElem?_toArray, List.getElem?_cons_succ, List.getElem?_cons_zero]; rfl)
         case hy1_2 => exact Or.inr ⟨by rfl, rfl⟩)
      | (refine wpAnyH_take (i := 2) (oi := ?o1_2) (v := ?v1_2) ?hi1_2 (by kernel_rfl) (by kernel_rfl) (by kernel_rfl) (fun _ _ _ h => h) ?hy1_2 (by assumption) ?hr1_2
         case hi1_2 => (simp only [List.getElem?_toArray, List.getElem?_cons_succ, List.getElem?_cons_zero]; rfl)
         case hy1_2 => (refine Or.inl ⟨by rfl, ?_⟩; intro w hSw; (try dsimp only at hSw); go_simp <;> with_reducible rfl))
      try simp only [Act.put, List.setIfInBounds_toArray, List.set_cons_zero, List.set_cons_succ]
      first
      | (refine wpAnyH_take (i := 3) (oi := ?o1_3) (v := undef) ?hi1_3 (by kernel_rfl) (by kernel_rfl) (by kernel_rfl) (fun _ _ _ h => h) ?hy1_3 (by assumption) ?hr1_3
         case hi1_3 => (simp only [List.getElem?_toArray, List.getElem?_cons_succ, List.getElem?_cons_zero]; rfl)
         case hy1_3 => exact Or.inr ⟨by rfl, rfl⟩)
      | (refine wpAnyH_take (i := 3) (oi := ?o1_3) (v := ?v1_3) ?hi1_3 (by kernel_rfl) (by kernel_rfl) (by kernel_rfl) (fun _ _ _ h => h) ?hy1_3 (by assumption) ?hr1_3
         case hi1_3 => (simp only [List.getElem?_toArray, List.getElem?_cons_succ, List.getElem?_cons_zero]; rfl)
         case hy1_3 => (refine Or.inl ⟨by rfl, ?_⟩; intro w hSw; (try dsimp only at hSw); go_simp <;> with_reducible rfl))
      try simp only [Act.put, List.setIfInBounds_toArray, List.set_cons_zero, List.set_cons_succ]
      first
      | (refine wpAnyH_take (i := 4) (oi := ?o1_4) (v := undef) ?hi1_4 (by kernel_rfl) (by kernel_rfl) (by kernel_rfl) (fun _ _ _ h => h) ?hy1_4 (by assumption) ?hr1_4
         case hi1_4 => (simp only [List.getElem?_toArray, List.getElem?_cons_succ, List.getElem?_cons_zero]; rfl)
         case hy1_4 => exact Or.inr ⟨by rfl, rfl⟩)
      | (refine wpAnyH_take (i := 4) (oi := ?o1_4) (v := ?v1_4) ?hi1_4 (by kernel_rfl) (by kernel_rfl) (by kernel_rfl) (fun _ _ _ h => h) ?hy1_4 (by assumption) ?hr1_4
         case hi1_4 => (simp only [List.getElem?_toArray, List.getElem?_cons_succ, List.getElem?_cons_zero]; rfl)
         case hy1_4 => (refine Or.inl ⟨by rfl, ?_⟩; intro w hSw; (try dsimp only at hSw); go_simp <;> with_reducible rfl))
      try simp only [Act.put, List.setIfInBounds_toArray, List.set_cons_zero, List.set_cons_succ]
      first
      | (refine wpAnyH_take (i := 5) (oi := ?o1_5) (v := undef) ?hi1_5 (by kernel_rfl) (by kernel_rfl) (by kernel_rfl) (fun _ _ _ h => h) ?hy1_5 (by assumption) ?hr1_5
         case hi1_5 => (simp only [List.getElem?_toArray, List.getElem?_cons_succ, List.getElem?_cons_zero]; rfl)
         case hy1_5 => exact Or.inr ⟨by rfl, rfl⟩)
      | (refine wpAnyH_take (i := 5) (oi := ?o1_5) (v := ?v1_5) ?hi1_5 (by kernel_rfl) (by kernel_rfl) (by kernel_rfl) (fun _ _ _ h => h) ?hy1_5 (by assumption) ?hr1_5
         case hi1_5 => (simp only [List.getElem?_toArray, List.getElem?_cons_succ, List.getElem?_cons_zero]; rfl)
         case hy1_5 => (refine Or.inl ⟨by rfl, ?_⟩; intro w hSw; (try dsimp only at hSw); go_simp <;> with_reducible rfl))
      try simp only [Act.put, List.setIfInBounds_toArray, List.set_cons_zero, List.set_cons_succ]
      first
      | (refine wpAnyH_take (i := 6) (oi := ?o1_6) (v := undef) ?hi1_6 (by kernel_rfl) (by kernel_rfl) (by kernel_rfl) (fun _ _ _ h => h) ?hy1_6 (by assumption) ?hr1_6
         case hi1_6 => (simp only [List.getElem?_toArray, List.getElem?_cons_succ, List.getElem?_cons_zero]; rfl)
         case hy1_6 => exact Or.inr ⟨by rfl, rfl⟩)
      | (refine wpAnyH_take (i := 6) (oi := ?o1_6) (v := ?v1_6) ?hi1_6 (by kernel_rfl) (by kernel_rfl) (by kernel_rfl) (fun _ _ _ h => h) ?hy1_6 (by assumption) ?hr1_6
         case hi1_6 => (simp only [List.getElem?_toArray, List.getElem?_cons_succ, List.getElem?_cons_zero]; rfl)
         case hy1_6 => (refine Or.inl ⟨by rfl, ?_⟩; intro w hSw; (try dsimp only at hSw); go_simp <;> with_reducible rfl))
      try simp only [Act.put, List.setIfInBounds_toArray, List.set_cons_zero, List.set_cons_succ]
      first
      | (refine wpAnyH_take (i := 7) (oi := ?o1_7) (v := undef) ?hi1_7 (by kernel_rfl) (by kernel_rfl) (by kernel_rfl) (fun _ _ _ h => h) ?hy1_7 (by assumption) ?hr1_7
         case hi1_7 => (simp only [List.getElem?_toArray, List.getElem?_cons_succ, List.getElem?_cons_zero]; rfl)
         case hy1_7 => exact Or.inr ⟨by rfl, rfl⟩)
      | (refine wpAnyH_take (i := 7) (oi := ?o1_7) (v := ?v1_7) ?hi1_7 (by kernel_rfl) (by kernel_rfl) (by kernel_rfl) (fun _ _ _ h => h) ?hy1_7 (by assumption) ?hr1_7
         case hi1_7 => (simp only [List.getElem?_toArray, List.getElem?_cons_succ, List.getElem?_cons_zero]; rfl)
         case hy1_7 => (refine Or.inl ⟨by rfl, ?_⟩; intro w hSw; (try dsimp only at hSw); go_simp <;> with_reducible rfl))
      try simp only [Act.put, List.setIfInBounds_toArray, List.set_cons_zero, List.set_cons_succ]
      first
      | (refine wpAnyH_take (i := 8) (oi := ?o1_8) (v := undef) ?hi1_8 (by kernel_rfl) (by kernel_rfl) (by kernel_rfl) (fun _ _ _ h => h) ?hy1_8 (by assumption) ?hr1_8
         case hi1_8 => (simp only [List.getElem?_toArray, List.getElem?_cons_succ, List.getElem?_cons_zero]; rfl)
         case hy1_8 => exact Or.inr ⟨by rfl, rfl⟩)
      | (refine wpAnyH_take (i := 8) (oi := ?o1_8) (v := ?v1_8) ?hi1_8 (by kernel_rfl) (by kernel_rfl) (by kernel_rfl) (fun _ _ _ h => h) ?hy1_8 (by assumption) ?hr1_8
         case hi1_8 => (simp only [List.getElem?_toArray, List.getElem?_cons_succ, List.getElem?_cons_zero]; rfl)
         case hy1_8 => (refine Or.inl ⟨by rfl, ?_⟩; intro w hSw; (try dsimp only at hSw); go_simp <;> with_reducible rfl))
      try simp only [Act.put, List.setIfInBounds_toArray, List.set_cons_zero, List.set_cons_succ]
      first
      | (refine wpAnyH_take (i := 9) (oi := ?o1_9) (v := undef) ?hi1_9 (by kernel_rfl) (by kernel_rfl) (by kernel_rfl) (fun _ _ _ h => h) ?hy1_9 (by assumption) ?hr1_9
         case hi1_9 => (simp only [List.getElem?_toArray, List.getElem?_cons_succ, List.getElem?_cons_zero]; rfl)
         case hy1_9 => exact Or.inr ⟨by rfl, rfl⟩)
      | (refine wpAnyH_take (i := 9) (oi := ?o1_9) (v := ?v1_9) ?hi1_9 (by kernel_rfl) (by kernel_rfl) (by kernel_rfl) (fun _ _ _ h => h) ?hy1_9 (by assumption) ?hr1_9
         case hi1_9 => (simp only [List.getElem?_toArray, List.getElem?_cons_succ, List.getElem?_cons_zero]; rfl)
         case hy1_9 => (refine Or.inl ⟨by rfl, ?_⟩; intro w hSw; (try dsimp only at hSw); go_simp <;> with_reducible rfl))
      try simp only [Act.put, List.setIfInBounds_toArray, List.set_cons_zero, List.set_cons_succ]
      first
      | (refine wpAnyH_take (i := 10) (oi := ?o1_10) (v := undef) ?hi1_10 (by kernel_rfl) (by kernel_rfl) (by kernel_rfl) (fun _ _ _ h => h) ?hy1_10 (by assumption) ?hr1_10
         case hi1_10 => (simp only [List.getElem?_toArray, List.getElem?_cons_succ, List.getElem?_cons_zero]; rfl)
         case hy1_10 => exact Or.inr ⟨by rfl, rfl⟩)
      | (refine wpAnyH_take (i := 10) (oi := ?o1_10) (v := ?v1_10) ?hi1_10 (by kernel_rfl) (by kernel_rfl) (by kernel_rfl) (fun _ _ _ h => h) ?hy1_10 (by assumption) ?hr1_10
         case hi1_10 => (simp only [List.getElem?_toArray, List.getElem?_cons_succ, List.getElem?_cons_zero]; rfl)
         case hy1_10 => (refine Or.inl ⟨by rfl, ?_⟩; intro w hSw; (try dsimp only at hSw); go_simp <;> with_reducible rfl))
      try simp only [Act.put, List.setIfInBounds_toArray, List.set_cons_zero, List.set_cons_succ]
      first
      | (refine wpAnyH_take (i := 11) (oi := ?o1_11) (v := undef) ?hi1_11 (by kernel_rfl) (by kernel_rfl) (by kernel_rfl) (fun _ _ _ h => h) ?hy1_11 (by assumption) ?hr1_11
         case hi1_11 => (simp only [List.getElem?_toArray, List.getElem?_cons_succ, List.getElem?_cons_zero]; rfl)
         case hy1_11 => exact Or.inr ⟨by rfl, rfl⟩)
      | (refine wpAnyH_take (i := 11) (oi := ?o1_11) (v := ?v1_11) ?hi1_11 (by kernel_rfl) (by kernel_rfl) (by kernel_rfl) (fun _ _ _ h => h) ?hy1_11 (by assumption) ?hr1_11
         case hi1_11 => (simp only [List.getElem?_toArray, List.getElem?_cons_succ, List.getElem?_cons_zero]; rfl)
         case hy1_11 => (refine Or.inl ⟨by rfl, ?_⟩; intro w hSw; (try dsimp only at hSw); go_simp <;> with_reducible rfl))
      try simp only [Act.put, List.setIfInBounds_toArray, List.set_cons_zero, List.set_cons_succ]
      first
      | (refine wpAnyH_take (i := 12) (oi := ?o1_12) (v := undef) ?hi1_12 (by kernel_rfl) (by kernel_rfl) (by kernel_rfl) (fun _ _ _ h => h) ?hy1_12 (by assumption) ?hr1_12
         case hi1_12 => (simp only [List.getElem?_toArray, List.getElem?_cons_succ, List.getElem?_cons_zero]; rfl)
         case hy1_12 => exact Or.inr ⟨by rfl, rfl⟩)
      | (refine wpAnyH_take (i := 12) (oi := ?o1_12) (v := ?v1_12) ?hi1_12 (by kernel_rfl) (by kernel_rfl) (by kernel_rfl) (fun _ _ _ h => h) ?hy1_12 (by assumption) ?hr1_12
         case hi1_12 => (simp only [List.getElem?_toArray, List.getElem?_cons_succ, List.getElem?_cons_zero]; rfl)
         case hy1_12 => (refine Or.inl ⟨by rfl, ?_⟩; intro w hSw; (try dsimp only at hSw); go_simp <;> with_reducible rfl))
      try simp only [Act.put, List.setIfInBounds_toArray, List.set_cons_zero, List.set_cons_succ]
      refine wpAnyH_done (by kernel_rfl) ?_ _
      refine NoPanic.normal ?_
      go_wp2_with fail
      go_roundw
      case rel => exact ⟨k + 1, by omega, by go_num, rfl, HB.out⟩
      case measure => simp [intOf]; omega
    · obtain rfl : k = n := by omega
      have HB := Lib.hid hb
      clear hb
      go_wp2
      go_ret
      exact ⟨rfl, HB.out⟩
end Go.Proofs.Ytcgkolaljgpphaa
