/- value.May, trend.wrong, trend.number and quadrilleref32.fault. -/
import Derived.Test.YtcgkolaljgpphaaRows
import Derived.Test.YtcgkolaljgpphaaBound
import Derived.WalkKit
import Derived.WalkSpells
import Derived.WalkLawsBesides
import Derived.BigQuiet
import Derived.Deep.QuietTactic
import Derived.Deep.RegionHeld3
import Derived.Deep.RegionWith
import Derived.Lib.Hide
namespace Go.Proofs.Ytcgkolaljgpphaa
set_option linter.unusedVariables false
set_option linter.unusedSimpArgs false
open Go.RowKit

theorem ret_int {k : IntKind} {a b : Int} (h : a = b) : Ending.returned (.int k a) = .returned (.int k b) := by rw [h]
theorem ret_bool {a b : Bool} (h : a = b) : Ending.returned (.bool a) = .returned (.bool b) := by rw [h]
theorem cell_below {w w' : World} {p : Addr} {x : Value} (h : w.cell? p = some x) (hb : Below w.heap.size w w') : w'.cell? p = some x := (hb.cell (World.block_lt_of_cell? w p h)).trans h
theorem keep3 {w wa wb : World} {p0 p1 p2 : Addr} {a0 a1 a2 : Value} (h : (wa.cell? p0 = some a0 ∧ wa.cell? p1 = some a1 ∧ wa.cell? p2 = some a2) ∧ Below w.heap.size w wa) (hb : Below wa.heap.size wa wb) :
    (wb.cell? p0 = some a0 ∧ wb.cell? p1 = some a1 ∧ wb.cell? p2 = some a2) ∧ Below w.heap.size w wb :=
  ⟨⟨cell_below h.1.1 hb, cell_below h.1.2.1 hb, cell_below h.1.2.2 hb⟩, h.2.trans (hb.mono h.2.size)⟩
theorem box3 {w w1 : World} {a b c : Value} {t : TypeId} (h : Below (w.alloc (.cells #[a, b, c] t)).heap.size (w.alloc (.cells #[a, b, c] t)) w1) :
    (w1.cell? ⟨w.heap.size, 0, none⟩ = some a ∧ w1.cell? ⟨w.heap.size, 1, none⟩ = some b ∧ w1.cell? ⟨w.heap.size, 2, none⟩ = some c) ∧ Below w.heap.size w w1 ∧ w.heap.size < w1.heap.size := by
  have hh : w1.heap[w.heap.size]? = some (.cells #[a, b, c] t (0, 0)) := (h.block _ (by simp)).trans (heap_alloc_new w _)
  refine ⟨⟨?_, ?_, ?_⟩, ((Below.refl _ _).alloc (Nat.le_refl _) _).trans (h.mono (by simp)), ?_⟩
  · rw [cell_of_row w1 _ _ _ _ _ hh]; rfl
  · rw [cell_of_row w1 _ _ _ _ _ hh]; rfl
  · rw [cell_of_row w1 _ _ _ _ _ hh]; rfl
  · have := h.size; simp at this; omega

/-- May there be the value (kind k, number n, text s)? -/
def mayB (k n : Int) (s : ByteArray) : Bool :=
  if k = 0 then decide (n = 0) && s.toList.isEmpty
  else if k = 1 then s.toList.isEmpty
  else if k = 2 then (decide (n = 0) || decide (n = 1)) && s.toList.isEmpty
  else if k = 3 then decide (n = 0) && decide (s.size ≤ 32767)
  else if k = 4 then decide (1 ≤ n) && decide (n ≤ 6) && s.toList.isEmpty
  else false
/-- An error's code; 0 of what is none. -/
def wrongV (k n : Int) (s : ByteArray) : Int := if k = 4 ∧ 1 ≤ n ∧ n ≤ 6 ∧ s.toList.isEmpty = true then n else 0
/-- Is it a number? -/
def numB (k : Int) (s : ByteArray) : Bool := decide (k = 1) && s.toList.isEmpty

set_option maxHeartbeats 800000 in
theorem may25 (k n : Int) (s : ByteArray) (w : World) (hs : s.size ≤ maxLen) :
    Calls Try.prog 25 #[.agg #[.int .i64 k, .int .i64 n, .string s]] w fun e w' => e = .returned (.bool (mayB k n s)) ∧ Below w.heap.size w w' := by
  unfold maxLen at hs
  go_enter Try.func25, Try.ntmps25
  go_wp2
  all_goals go_ret
  all_goals refine ⟨ret_bool ?_, (Below.refl _ _).alloc (Nat.le_refl _) _⟩
  all_goals (unfold mayB; simp_all <;> omega)

set_option maxHeartbeats 800000 in
theorem fault24 (k n : Int) (s : ByteArray) (w : World) :
    Calls Try.prog 24 #[.agg #[.int .i64 k, .int .i64 n, .string s]] w fun e w' => e = .returned (.int .i64 (wrongV k n s)) ∧ Below w.heap.size w w' := by
  go_enter Try.func24, Try.ntmps24
  go_wp2
  all_goals go_ret
  all_goals refine ⟨ret_int ?_, (Below.refl _ _).alloc (Nat.le_refl _) _⟩
  all_goals (unfold wrongV; simp_all <;> omega)

theorem may_wrong (n : Int) (s : ByteArray) : mayB 4 n s = true → wrongV 4 n s = n := by
  unfold mayB wrongV
  simp
  intro h1 h2 h3 h4
  exact absurd h3 (h4 h1 h2)
theorem may_wrong' (n : Int) (s : ByteArray) : mayB 4 n s = false → wrongV 4 n s = 0 := by
  unfold mayB wrongV
  simp
  intro h1 h2 h3 h4
  exact absurd h4 (h1 h2 h3)

set_option maxHeartbeats 800000 in
theorem wrong19 (k n : Int) (s : ByteArray) (w : World) (hs : s.size ≤ maxLen) :
    Calls Try.prog 19 #[.agg #[.int .i64 k, .int .i64 n, .string s]] w fun e w' => e = .returned (.int .i64 (wrongV k n s)) ∧ Below w.heap.size w w' := by
  have HS := Lib.hid hs
  clear hs
  by_cases hk : k = 4
  · subst hk
    go_enter Try.func19, Try.ntmps19
    go_wp2_with fail
    refine (may25 4 n s _ HS.out).mono ?_
    rintro e w1 ⟨rfl, hb1⟩
    obtain ⟨⟨c0, c1, c2⟩, hb0, hsz⟩ := box3 hb1
    have HB := Lib.hid hb0
    clear hb0 hb1
    cases hm : mayB 4 n s
    · have hv := Lib.hid (may_wrong' n s hm)
      clear hm
      go_wp2_with fail
      go_ret
      exact ⟨ret_int hv.out.symm, HB.out⟩
    · have hv := Lib.hid (may_wrong n s hm)
      clear hm
      go_wp2_with fail
      go_ret
      exact ⟨ret_int hv.out.symm, HB.out⟩
  · have hv : Hid (wrongV k n s = 0) := by simp [Hid, wrongV, hk]
    go_enter Try.func19, Try.ntmps19
    go_wp2_with fail
    go_ret
    exact ⟨ret_int hv.out.symm, (Below.refl _ _).alloc (Nat.le_refl _) _⟩

theorem may_num (n : Int) (s : ByteArray) : mayB 1 n s = numB 1 s := by simp [mayB, numB]

set_option maxRecDepth 100000 in
set_option maxHeartbeats 2000000 in
theorem number20 (k n : Int) (s : ByteArray) (w : World) (hs : s.size ≤ maxLen) :
    Calls Try.prog 20 #[.agg #[.int .i64 k, .int .i64 n, .string s]] w fun e w' => e = .returned (.tuple #[.float .f64 (floatOfInt .f64 n), .bool (numB k s)]) ∧ Below w.heap.size w w' := by
  have HS := Lib.hid hs
  clear hs
  by_cases hk : k = 1
  · subst hk
    have hv := Lib.hid (may_num n s)
    go_enter Try.func20, Try.ntmps20
    go_wp2_with fail
    obtain ⟨⟨c0, c1, c2⟩, hb0, hsz⟩ := box3 (Below.refl (w.alloc (.cells #[.int .i64 1, .int .i64 n, .string s] 44)).heap.size (w.alloc (.cells #[.int .i64 1, .int .i64 n, .string s] 44)))
    obtain ⟨W, hW⟩ : ∃ W, w.alloc (.cells #[.int .i64 1, .int .i64 n, .string s] 44) = W := ⟨_, rfl⟩
    rw [hW] at c0 c1 c2 hb0 hsz ⊢
    clear hW
    have hS : (W.drew.cell? ⟨w.heap.size, 0, none⟩ = some (.int .i64 1) ∧ W.drew.cell? ⟨w.heap.size, 1, none⟩ = some (.int .i64 n) ∧ W.drew.cell? ⟨w.heap.size, 2, none⟩ = some (.string s)) ∧ Below w.heap.size w W.drew := ⟨⟨c0, c1, c2⟩, hb0.drew⟩
    clear c0 c1 c2 hb0 hsz
    refine wp_region_noPanic ?_
    refine wp_region_held_drew (S := (fun w' => (w'.cell? ⟨w.heap.size, 0, none⟩ = some (.int .i64 1) ∧ w'.cell? ⟨w.heap.size, 1, none⟩ = some (.int .i64 n) ∧ w'.cell? ⟨w.heap.size, 2, none⟩ = some (.string s)) ∧ Below w.heap.size w w')) (by kernel_rfl) (by exact hS) (fun hHeld => ?_)
    first
    | (refine wpAnyH_take (i := 0) (oi := ?o1_0) (v := undef) ?hi1_0 (by kernel_rfl) (by kernel_rfl) (by kernel_rfl) (fun _ _ _ h => h) ?hy1_0 (by assumption) ?hr1_0
       case hi1_0 => (simp only [List.getElem?_toArray, List.getElem?_cons_succ, List.getElem?_cons_zero]; rfl)
       case hy1_0 => exact Or.inr ⟨by rfl, rfl⟩)
    | (refine wpAnyH_take (i := 0) (oi := ?o1_0) (v := ?v1_0) ?hi1_0 (by kernel_rfl) (by kernel_rfl) (by kernel_rfl) (fun _ _ _ h => h) ?hy1_0 (by assumption) ?hr1_0
       case hi1_0 => (simp only [List.getElem?_toArray, List.getElem?_cons_succ, List.getElem?_cons_zero]; rfl)
       case hy1_0 => (refine Or.inl ⟨by rfl, ?_⟩; intro w hSw; (try dsimp only at hSw); go_simp <;> with_reducible rfl))
    try simp only [Act.put, List.setIfInBounds_toArray, List.set_cons_zero, List.set_cons_succ]
    first
    | (refine wpAnyH_take (i := 1) (oi := ?o1_1) (v := undef) ?hi1_1 (by kernel_rfl) (by kernel_rfl) (by kernel_rfl) (fun _ _ _ h => h) ?hy1_1 (by assumption) ?hr1_1
       case hi1_1 => (simp only [List.getElem?_toArray, List.getElem?_cons_succ, List.getElem?_cons_zero]; rfl)
       case hy1_1 => exact Or.inr ⟨by rfl, rfl⟩)
    | (refine wpAnyH_take (i := 1) (oi := ?o1_1) (v := ?v1_1) ?hi1_1 (by kernel_rfl) (by kernel_rfl) (by kernel_rfl) (fun _ _ _ h => h) ?hy1_1 (by assumption) ?hr1_1
       case hi1_1 => (simp only [List.getElem?_toArray, List.getElem?_cons_succ, List.getElem?_cons_zero]; rfl)
       case hy1_1 => (refine Or.inl ⟨by rfl, ?_⟩; intro w hSw; (try dsimp only at hSw); go_simp <;> with_reducible rfl))
    try simp only [Act.put, List.setIfInBounds_toArray, List.set_cons_zero, List.set_cons_succ]
    first
    | (refine wpAnyH_take (i := 2) (oi := ?o1_2) (v := undef) ?hi1_2 (by kernel_rfl) (by kernel_rfl) (by kernel_rfl) (fun _ _ _ h => h) ?hy1_2 (by assumption) ?hr1_2
       case hi1_2 => (simp only [List.getElem?_toArray, List.getElem?_cons_succ, List.getElem?_cons_zero]; rfl)
       case hy1_2 => exact Or.inr ⟨by rfl, rfl⟩)
    | (refine wpAnyH_take (i := 2) (oi := ?o1_2) (v := ?v1_2) ?hi1_2 (by kernel_rfl) (by kernel_rfl) (by kernel_rfl) (fun _ _ _ h => h) ?hy1_2 (by assumption) ?hr1_2
       case hi1_2 => (simp only [List.getElem?_toArray, List.getElem?_cons_succ, List.getElem?_cons_zero]; rfl)
       case hy1_2 => (refine Or.inl ⟨by rfl, ?_⟩; intro w hSw; (try dsimp only at hSw); go_simp <;> with_reducible rfl))
    try simp only [Act.put, List.setIfInBounds_toArray, List.set_cons_zero, List.set_cons_succ]
    first
    | (refine wpAnyH_take (i := 3) (oi := ?o1_3) (v := undef) ?hi1_3 (by kernel_rfl) (by kernel_rfl) (by kernel_rfl) (fun _ _ _ h => h) ?hy1_3 (by assumption) ?hr1_3
       case hi1_3 => (simp only [List.getElem?_toArray, List.getElem?_cons_succ, List.getElem?_cons_zero]; rfl)
       case hy1_3 => exact Or.inr ⟨by rfl, rfl⟩)
    | (refine wpAnyH_take (i := 3) (oi := ?o1_3) (v := ?v1_3) ?hi1_3 (by kernel_rfl) (by kernel_rfl) (by kernel_rfl) (fun _ _ _ h => h) ?hy1_3 (by assumption) ?hr1_3
       case hi1_3 => (simp only [List.getElem?_toArray, List.getElem?_cons_succ, List.getElem?_cons_zero]; rfl)
       case hy1_3 => (refine Or.inl ⟨by rfl, ?_⟩; intro w hSw; (try dsimp only at hSw); go_simp <;> with_reducible rfl))
    try simp only [Act.put, List.setIfInBounds_toArray, List.set_cons_zero, List.set_cons_succ]
    first
    | (refine wpAnyH_take (i := 4) (oi := ?o1_4) (v := undef) ?hi1_4 (by kernel_rfl) (by kernel_rfl) (by kernel_rfl) (fun _ _ _ h => h) ?hy1_4 (by assumption) ?hr1_4
       case hi1_4 => (simp only [List.getElem?_toArray, List.getElem?_cons_succ, List.getElem?_cons_zero]; rfl)
       case hy1_4 => exact Or.inr ⟨by rfl, rfl⟩)
    | (refine wpAnyH_take (i := 4) (oi := ?o1_4) (v := ?v1_4) ?hi1_4 (by kernel_rfl) (by kernel_rfl) (by kernel_rfl) (fun _ _ _ h => h) ?hy1_4 (by assumption) ?hr1_4
       case hi1_4 => (simp only [List.getElem?_toArray, List.getElem?_cons_succ, List.getElem?_cons_zero]; rfl)
       case hy1_4 => (refine Or.inl ⟨by rfl, ?_⟩; intro w hSw; (try dsimp only at hSw); go_simp <;> with_reducible rfl))
    try simp only [Act.put, List.setIfInBounds_toArray, List.set_cons_zero, List.set_cons_succ]
    first
    | (refine wpAnyH_take (i := 5) (oi := ?o1_5) (v := undef) ?hi1_5 (by kernel_rfl) (by kernel_rfl) (by kernel_rfl) (fun _ _ _ h => h) ?hy1_5 (by assumption) ?hr1_5
       case hi1_5 => (simp only [List.getElem?_toArray, List.getElem?_cons_succ, List.getElem?_cons_zero]; rfl)
       case hy1_5 => exact Or.inr ⟨by rfl, rfl⟩)
    | (refine wpAnyH_take (i := 5) (oi := ?o1_5) (v := ?v1_5) ?hi1_5 (by kernel_rfl) (by kernel_rfl) (by kernel_rfl) (fun _ _ _ h => h) ?hy1_5 (by assumption) ?hr1_5
       case hi1_5 => (simp only [List.getElem?_toArray, List.getElem?_cons_succ, List.getElem?_cons_zero]; rfl)
       case hy1_5 => (refine Or.inl ⟨by rfl, ?_⟩; intro w hSw; (try dsimp only at hSw); go_simp <;> with_reducible rfl))
    try simp only [Act.put, List.setIfInBounds_toArray, List.set_cons_zero, List.set_cons_succ]
    first
    | (refine wpAnyH_take (i := 6) (oi := ?o1_6) (v := undef) ?hi1_6 (by kernel_rfl) (by kernel_rfl) (by kernel_rfl) (fun _ _ _ h => h) ?hy1_6 (by assumption) ?hr1_6
       case hi1_6 => (simp only [List.getElem?_toArray, List.getElem?_cons_succ, List.getElem?_cons_zero]; rfl)
       case hy1_6 => exact Or.inr ⟨by rfl, rfl⟩)
    | (refine wpAnyH_take (i := 6) (oi := ?o1_6) (v := ?v1_6) ?hi1_6 (by kernel_rfl) (by kernel_rfl) (by kernel_rfl) (fun _ _ _ h => h) ?hy1_6 (by assumption) ?hr1_6
       case hi1_6 => (simp only [List.getElem?_toArray, List.getElem?_cons_succ, List.getElem?_cons_zero]; rfl)
       case hy1_6 => (refine Or.inl ⟨by rfl, ?_⟩; intro w hSw; (try dsimp only at hSw); go_simp <;> with_reducible rfl))
    try simp only [Act.put, List.setIfInBounds_toArray, List.set_cons_zero, List.set_cons_succ]
    first
    | (refine wpAnyH_take (i := 7) (oi := ?o1_7) (v := undef) ?hi1_7 (by kernel_rfl) (by kernel_rfl) (by kernel_rfl) (fun _ _ _ h => h) ?hy1_7 (by assumption) ?hr1_7
       case hi1_7 => (simp only [List.getElem?_toArray, List.getElem?_cons_succ, List.getElem?_cons_zero]; rfl)
       case hy1_7 => exact Or.inr ⟨by rfl, rfl⟩)
    | (refine wpAnyH_take (i := 7) (oi := ?o1_7) (v := ?v1_7) ?hi1_7 (by kernel_rfl) (by kernel_rfl) (by kernel_rfl) (fun _ _ _ h => h) ?hy1_7 (by assumption) ?hr1_7
       case hi1_7 => (simp only [List.getElem?_toArray, List.getElem?_cons_succ, List.getElem?_cons_zero]; rfl)
       case hy1_7 => (refine Or.inl ⟨by rfl, ?_⟩; intro w hSw; (try dsimp only at hSw); go_simp <;> with_reducible rfl))
    try simp only [Act.put, List.setIfInBounds_toArray, List.set_cons_zero, List.set_cons_succ]
    first
    | (refine wpAnyH_take (i := 8) (oi := ?o1_8) (v := undef) ?hi1_8 (by kernel_rfl) (by kernel_rfl) (by kernel_rfl) (fun _ _ _ h => h) ?hy1_8 (by assumption) ?hr1_8
       case hi1_8 => (simp only [List.getElem?_toArray, List.getElem?_cons_succ, List.getElem?_cons_zero]; rfl)
       case hy1_8 => exact Or.inr ⟨by rfl, rfl⟩)
    | (refine wpAnyH_ready (rs := [8]) (by kernel_rfl) (by simp) ?_
       refine AllReadyH.cons (o := ?o1_8) ?ho1_8 (fun K hK => ?hk1_8) AllReadyH.nil
       case ho1_8 => (simp only [List.getElem?_toArray, List.getElem?_cons_succ, List.getElem?_cons_zero]; rfl)
       go_simp
       refine (may25 1 n s _ HS.out).mono ?_; rintro e wz ⟨rfl, hb⟩
       go_wp2_with fail
       refine hK.out _ _ ?_ (fun hHeld => ?_)
       · first | exact keep3 (by assumption) hb
       clear hK K)
    try simp only [Act.put, List.setIfInBounds_toArray, List.set_cons_zero, List.set_cons_succ]
    first
    | (refine wpAnyH_take (i := 9) (oi := ?o1_9) (v := undef) ?hi1_9 (by kernel_rfl) (by kernel_rfl) (by kernel_rfl) (fun _ _ _ h => h) ?hy1_9 (by assumption) ?hr1_9
       case hi1_9 => (simp only [List.getElem?_toArray, List.getElem?_cons_succ, List.getElem?_cons_zero]; rfl)
       case hy1_9 => exact Or.inr ⟨by rfl, rfl⟩)
    | (refine wpAnyH_take (i := 9) (oi := ?o1_9) (v := ?v1_9) ?hi1_9 (by kernel_rfl) (by kernel_rfl) (by kernel_rfl) (fun _ _ _ h => h) ?hy1_9 (by assumption) ?hr1_9
       case hi1_9 => (simp only [List.getElem?_toArray, List.getElem?_cons_succ, List.getElem?_cons_zero]; rfl)
       case hy1_9 => (refine Or.inl ⟨by rfl, ?_⟩; intro w hSw; (try dsimp only at hSw); go_simp <;> with_reducible rfl))
    try simp only [Act.put, List.setIfInBounds_toArray, List.set_cons_zero, List.set_cons_succ]
    first
    | (refine wpAnyH_take (i := 10) (oi := ?o1_10) (v := undef) ?hi1_10 (by kernel_rfl) (by kernel_rfl) (by kernel_rfl) (fun _ _ _ h => h) ?hy1_10 (by assumption) ?hr1_10
       case hi1_10 => (simp only [List.getElem?_toArray, List.getElem?_cons_succ, List.getElem?_cons_zero]; rfl)
       case hy1_10 => exact Or.inr ⟨by rfl, rfl⟩)
    | (refine wpAnyH_take (i := 10) (oi := ?o1_10) (v := ?v1_10) ?hi1_10 (by kernel_rfl) (by kernel_rfl) (by kernel_rfl) (fun _ _ _ h => h) ?hy1_10 (by assumption) ?hr1_10
       case hi1_10 => (simp only [List.getElem?_toArray, List.getElem?_cons_succ, List.getElem?_cons_zero]; rfl)
       case hy1_10 => (refine Or.inl ⟨by rfl, ?_⟩; intro w hSw; (try dsimp only at hSw); go_simp <;> with_reducible rfl))
    try simp only [Act.put, List.setIfInBounds_toArray, List.set_cons_zero, List.set_cons_succ]
    first
    | (refine wpAnyH_take (i := 11) (oi := ?o1_11) (v := undef) ?hi1_11 (by kernel_rfl) (by kernel_rfl) (by kernel_rfl) (fun _ _ _ h => h) ?hy1_11 (by assumption) ?hr1_11
       case hi1_11 => (simp only [List.getElem?_toArray, List.getElem?_cons_succ, List.getElem?_cons_zero]; rfl)
       case hy1_11 => exact Or.inr ⟨by rfl, rfl⟩)
    | (refine wpAnyH_take (i := 11) (oi := ?o1_11) (v := ?v1_11) ?hi1_11 (by kernel_rfl) (by kernel_rfl) (by kernel_rfl) (fun _ _ _ h => h) ?hy1_11 (by assumption) ?hr1_11
       case hi1_11 => (simp only [List.getElem?_toArray, List.getElem?_cons_succ, List.getElem?_cons_zero]; rfl)
       case hy1_11 => (refine Or.inl ⟨by rfl, ?_⟩; intro w hSw; (try dsimp only at hSw); go_simp <;> with_reducible rfl))
    try simp only [Act.put, List.setIfInBounds_toArray, List.set_cons_zero, List.set_cons_succ]
    refine wpAnyH_done (by kernel_rfl) ?_ _
    refine NoPanic.normal ?_
    go_wp2_with fail
    exact bodyPost_ret (v := .tuple #[.float .f64 (floatOfInt .f64 n), .bool (mayB 1 n s)]) (by simp [results, Try.results20, go_sem]) rfl ⟨by rw [hv.out], hHeld.2⟩
  · have hv : Hid (numB k s = false) := by simp [Hid, numB, hk]
    have hk' : (k == 1) = false := beq_eq_false_iff_ne.2 hk
    go_enter Try.func20, Try.ntmps20
    go_wp2_with fail
    obtain ⟨⟨c0, c1, c2⟩, hb0, hsz⟩ := box3 (Below.refl (w.alloc (.cells #[.int .i64 k, .int .i64 n, .string s] 44)).heap.size (w.alloc (.cells #[.int .i64 k, .int .i64 n, .string s] 44)))
    obtain ⟨W, hW⟩ : ∃ W, w.alloc (.cells #[.int .i64 k, .int .i64 n, .string s] 44) = W := ⟨_, rfl⟩
    rw [hW] at c0 c1 c2 hb0 hsz ⊢
    clear hW
    have hS : (W.drew.cell? ⟨w.heap.size, 0, none⟩ = some (.int .i64 k) ∧ W.drew.cell? ⟨w.heap.size, 1, none⟩ = some (.int .i64 n) ∧ W.drew.cell? ⟨w.heap.size, 2, none⟩ = some (.string s)) ∧ Below w.heap.size w W.drew := ⟨⟨c0, c1, c2⟩, hb0.drew⟩
    clear c0 c1 c2 hb0 hsz
    refine wp_region_noPanic ?_
    refine wp_region_held_drew (S := (fun w' => (w'.cell? ⟨w.heap.size, 0, none⟩ = some (.int .i64 k) ∧ w'.cell? ⟨w.heap.size, 1, none⟩ = some (.int .i64 n) ∧ w'.cell? ⟨w.heap.size, 2, none⟩ = some (.string s)) ∧ Below w.heap.size w w')) (by kernel_rfl) (by exact hS) (fun hHeld => ?_)
    first
    | (refine wpAnyH_take (i := 0) (oi := ?o2_0) (v := undef) ?hi2_0 (by kernel_rfl) (by kernel_rfl) (by kernel_rfl) (fun _ _ _ h => h) ?hy2_0 (by assumption) ?hr2_0
       case hi2_0 => (simp only [List.getElem?_toArray, List.getElem?_cons_succ, List.getElem?_cons_zero]; rfl)
       case hy2_0 => exact Or.inr ⟨by rfl, rfl⟩)
    | (refine wpAnyH_take (i := 0) (oi := ?o2_0) (v := ?v2_0) ?hi2_0 (by kernel_rfl) (by kernel_rfl) (by kernel_rfl) (fun _ _ _ h => h) ?hy2_0 (by assumption) ?hr2_0
       case hi2_0 => (simp only [List.getElem?_toArray, List.getElem?_cons_succ, List.getElem?_cons_zero]; rfl)
       case hy2_0 => (refine Or.inl ⟨by rfl, ?_⟩; intro w hSw; (try dsimp only at hSw); go_simp <;> with_reducible rfl))
    try simp only [Act.put, List.setIfInBounds_toArray, List.set_cons_zero, List.set_cons_succ]
    first
    | (refine wpAnyH_take (i := 1) (oi := ?o2_1) (v := undef) ?hi2_1 (by kernel_rfl) (by kernel_rfl) (by kernel_rfl) (fun _ _ _ h => h) ?hy2_1 (by assumption) ?hr2_1
       case hi2_1 => (simp only [List.getElem?_toArray, List.getElem?_cons_succ, List.getElem?_cons_zero]; rfl)
       case hy2_1 => exact Or.inr ⟨by rfl, rfl⟩)
    | (refine wpAnyH_take (i := 1) (oi := ?o2_1) (v := ?v2_1) ?hi2_1 (by kernel_rfl) (by kernel_rfl) (by kernel_rfl) (fun _ _ _ h => h) ?hy2_1 (by assumption) ?hr2_1
       case hi2_1 => (simp only [List.getElem?_toArray, List.getElem?_cons_succ, List.getElem?_cons_zero]; rfl)
       case hy2_1 => (refine Or.inl ⟨by rfl, ?_⟩; intro w hSw; (try dsimp only at hSw); go_simp <;> with_reducible rfl))
    try simp only [Act.put, List.setIfInBounds_toArray, List.set_cons_zero, List.set_cons_succ]
    first
    | (refine wpAnyH_take (i := 2) (oi := ?o2_2) (v := undef) ?hi2_2 (by kernel_rfl) (by kernel_rfl) (by kernel_rfl) (fun _ _ _ h => h) ?hy2_2 (by assumption) ?hr2_2
       case hi2_2 => (simp only [List.getElem?_toArray, List.getElem?_cons_succ, List.getElem?_cons_zero]; rfl)
       case hy2_2 => exact Or.inr ⟨by rfl, rfl⟩)
    | (refine wpAnyH_take (i := 2) (oi := ?o2_2) (v := ?v2_2) ?hi2_2 (by kernel_rfl) (by kernel_rfl) (by kernel_rfl) (fun _ _ _ h => h) ?hy2_2 (by assumption) ?hr2_2
       case hi2_2 => (simp only [List.getElem?_toArray, List.getElem?_cons_succ, List.getElem?_cons_zero]; rfl)
       case hy2_2 => (refine Or.inl ⟨by rfl, ?_⟩; intro w hSw; (try dsimp only at hSw); go_simp <;> with_reducible rfl))
    try simp only [Act.put, List.setIfInBounds_toArray, List.set_cons_zero, List.set_cons_succ]
    first
    | (refine wpAnyH_take (i := 3) (oi := ?o2_3) (v := undef) ?hi2_3 (by kernel_rfl) (by kernel_rfl) (by kernel_rfl) (fun _ _ _ h => h) ?hy2_3 (by assumption) ?hr2_3
       case hi2_3 => (simp only [List.getElem?_toArray, List.getElem?_cons_succ, List.getElem?_cons_zero]; rfl)
       case hy2_3 => exact Or.inr ⟨by rfl, rfl⟩)
    | (refine wpAnyH_take (i := 3) (oi := ?o2_3) (v := ?v2_3) ?hi2_3 (by kernel_rfl) (by kernel_rfl) (by kernel_rfl) (fun _ _ _ h => h) ?hy2_3 (by assumption) ?hr2_3
       case hi2_3 => (simp only [List.getElem?_toArray, List.getElem?_cons_succ, List.getElem?_cons_zero]; rfl)
       case hy2_3 => (refine Or.inl ⟨by rfl, ?_⟩; intro w hSw; (try dsimp only at hSw); go_simp <;> with_reducible rfl))
    try simp only [Act.put, List.setIfInBounds_toArray, List.set_cons_zero, List.set_cons_succ]
    first
    | (refine wpAnyH_take (i := 4) (oi := ?o2_4) (v := undef) ?hi2_4 (by kernel_rfl) (by kernel_rfl) (by kernel_rfl) (fun _ _ _ h => h) ?hy2_4 (by assumption) ?hr2_4
       case hi2_4 => (simp only [List.getElem?_toArray, List.getElem?_cons_succ, List.getElem?_cons_zero]; rfl)
       case hy2_4 => exact Or.inr ⟨by rfl, rfl⟩)
    | (refine wpAnyH_take (i := 4) (oi := ?o2_4) (v := ?v2_4) ?hi2_4 (by kernel_rfl) (by kernel_rfl) (by kernel_rfl) (fun _ _ _ h => h) ?hy2_4 (by assumption) ?hr2_4
       case hi2_4 => (simp only [List.getElem?_toArray, List.getElem?_cons_succ, List.getElem?_cons_zero]; rfl)
       case hy2_4 => (refine Or.inl ⟨by rfl, ?_⟩; intro w hSw; (try dsimp only at hSw); go_simp <;> with_reducible rfl))
    try simp only [Act.put, List.setIfInBounds_toArray, List.set_cons_zero, List.set_cons_succ]
    first
    | (refine wpAnyH_take (i := 5) (oi := ?o2_5) (v := undef) ?hi2_5 (by kernel_rfl) (by kernel_rfl) (by kernel_rfl) (fun _ _ _ h => h) ?hy2_5 (by assumption) ?hr2_5
       case hi2_5 => (simp only [List.getElem?_toArray, List.getElem?_cons_succ, List.getElem?_cons_zero]; rfl)
       case hy2_5 => exact Or.inr ⟨by rfl, rfl⟩)
    | (refine wpAnyH_take (i := 5) (oi := ?o2_5) (v := ?v2_5) ?hi2_5 (by kernel_rfl) (by kernel_rfl) (by kernel_rfl) (fun _ _ _ h => h) ?hy2_5 (by assumption) ?hr2_5
       case hi2_5 => (simp only [List.getElem?_toArray, List.getElem?_cons_succ, List.getElem?_cons_zero]; rfl)
       case hy2_5 => (refine Or.inl ⟨by rfl, ?_⟩; intro w hSw; (try dsimp only at hSw); go_simp <;> with_reducible rfl))
    try simp only [Act.put, List.setIfInBounds_toArray, List.set_cons_zero, List.set_cons_succ]
    first
    | (refine wpAnyH_take (i := 6) (oi := ?o2_6) (v := undef) ?hi2_6 (by kernel_rfl) (by kernel_rfl) (by kernel_rfl) (fun _ _ _ h => h) ?hy2_6 (by assumption) ?hr2_6
       case hi2_6 => (simp only [List.getElem?_toArray, List.getElem?_cons_succ, List.getElem?_cons_zero]; rfl)
       case hy2_6 => exact Or.inr ⟨by rfl, rfl⟩)
    | (refine wpAnyH_take (i := 6) (oi := ?o2_6) (v := ?v2_6) ?hi2_6 (by kernel_rfl) (by kernel_rfl) (by kernel_rfl) (fun _ _ _ h => h) ?hy2_6 (by assumption) ?hr2_6
       case hi2_6 => (simp only [List.getElem?_toArray, List.getElem?_cons_succ, List.getElem?_cons_zero]; rfl)
       case hy2_6 => (refine Or.inl ⟨by rfl, ?_⟩; intro w hSw; (try dsimp only at hSw); go_simp <;> with_reducible rfl))
    try simp only [Act.put, List.setIfInBounds_toArray, List.set_cons_zero, List.set_cons_succ]
    first
    | (refine wpAnyH_take (i := 7) (oi := ?o2_7) (v := undef) ?hi2_7 (by kernel_rfl) (by kernel_rfl) (by kernel_rfl) (fun _ _ _ h => h) ?hy2_7 (by assumption) ?hr2_7
       case hi2_7 => (simp only [List.getElem?_toArray, List.getElem?_cons_succ, List.getElem?_cons_zero]; rfl)
       case hy2_7 => exact Or.inr ⟨by rfl, rfl⟩)
    | (refine wpAnyH_take (i := 7) (oi := ?o2_7) (v := ?v2_7) ?hi2_7 (by kernel_rfl) (by kernel_rfl) (by kernel_rfl) (fun _ _ _ h => h) ?hy2_7 (by assumption) ?hr2_7
       case hi2_7 => (simp only [List.getElem?_toArray, List.getElem?_cons_succ, List.getElem?_cons_zero]; rfl)
       case hy2_7 => (refine Or.inl ⟨by rfl, ?_⟩; intro w hSw; (try dsimp only at hSw); go_simp <;> with_reducible rfl))
    try simp only [Act.put, List.setIfInBounds_toArray, List.set_cons_zero, List.set_cons_succ]
    first
    | (refine wpAnyH_take (i := 8) (oi := ?o2_8) (v := undef) ?hi2_8 (by kernel_rfl) (by kernel_rfl) (by kernel_rfl) (fun _ _ _ h => h) ?hy2_8 (by assumption) ?hr2_8
       case hi2_8 => (simp only [List.getElem?_toArray, List.getElem?_cons_succ, List.getElem?_cons_zero]; rfl)
       case hy2_8 => exact Or.inr ⟨by rfl, rfl⟩)
    | (refine wpAnyH_ready (rs := [8]) (by kernel_rfl) (by simp) ?_
       refine AllReadyH.cons (o := ?o2_8) ?ho2_8 (fun K hK => ?hk2_8) AllReadyH.nil
       case ho2_8 => (simp only [List.getElem?_toArray, List.getElem?_cons_succ, List.getElem?_cons_zero]; rfl)
       go_simp
       fail
       go_wp2_with fail
       refine hK.out _ _ ?_ (fun hHeld => ?_)
       · first | exact keep3 (by assumption) hb
       clear hK K)
    try simp only [Act.put, List.setIfInBounds_toArray, List.set_cons_zero, List.set_cons_succ]
    first
    | (refine wpAnyH_take (i := 9) (oi := ?o2_9) (v := undef) ?hi2_9 (by kernel_rfl) (by kernel_rfl) (by kernel_rfl) (fun _ _ _ h => h) ?hy2_9 (by assumption) ?hr2_9
       case hi2_9 => (simp only [List.getElem?_toArray, List.getElem?_cons_succ, List.getElem?_cons_zero]; rfl)
       case hy2_9 => exact Or.inr ⟨by rfl, rfl⟩)
    | (refine wpAnyH_take (i := 9) (oi := ?o2_9) (v := ?v2_9) ?hi2_9 (by kernel_rfl) (by kernel_rfl) (by kernel_rfl) (fun _ _ _ h => h) ?hy2_9 (by assumption) ?hr2_9
       case hi2_9 => (simp only [List.getElem?_toArray, List.getElem?_cons_succ, List.getElem?_cons_zero]; rfl)
       case hy2_9 => (refine Or.inl ⟨by rfl, ?_⟩; intro w hSw; (try dsimp only at hSw); go_simp <;> with_reducible rfl))
    try simp only [Act.put, List.setIfInBounds_toArray, List.set_cons_zero, List.set_cons_succ]
    first
    | (refine wpAnyH_take (i := 10) (oi := ?o2_10) (v := undef) ?hi2_10 (by kernel_rfl) (by kernel_rfl) (by kernel_rfl) (fun _ _ _ h => h) ?hy2_10 (by assumption) ?hr2_10
       case hi2_10 => (simp only [List.getElem?_toArray, List.getElem?_cons_succ, List.getElem?_cons_zero]; rfl)
       case hy2_10 => exact Or.inr ⟨by rfl, rfl⟩)
    | (refine wpAnyH_take (i := 10) (oi := ?o2_10) (v := ?v2_10) ?hi2_10 (by kernel_rfl) (by kernel_rfl) (by kernel_rfl) (fun _ _ _ h => h) ?hy2_10 (by assumption) ?hr2_10
       case hi2_10 => (simp only [List.getElem?_toArray, List.getElem?_cons_succ, List.getElem?_cons_zero]; rfl)
       case hy2_10 => (refine Or.inl ⟨by rfl, ?_⟩; intro w hSw; (try dsimp only at hSw); go_simp <;> with_reducible rfl))
    try simp only [Act.put, List.setIfInBounds_toArray, List.set_cons_zero, List.set_cons_succ]
    first
    | (refine wpAnyH_take (i := 11) (oi := ?o2_11) (v := undef) ?hi2_11 (by kernel_rfl) (by kernel_rfl) (by kernel_rfl) (fun _ _ _ h => h) ?hy2_11 (by assumption) ?hr2_11
       case hi2_11 => (simp only [List.getElem?_toArray, List.getElem?_cons_succ, List.getElem?_cons_zero]; rfl)
       case hy2_11 => exact Or.inr ⟨by rfl, rfl⟩)
    | (refine wpAnyH_take (i := 11) (oi := ?o2_11) (v := ?v2_11) ?hi2_11 (by kernel_rfl) (by kernel_rfl) (by kernel_rfl) (fun _ _ _ h => h) ?hy2_11 (by assumption) ?hr2_11
       case hi2_11 => (simp only [List.getElem?_toArray, List.getElem?_cons_succ, List.getElem?_cons_zero]; rfl)
       case hy2_11 => (refine Or.inl ⟨by rfl, ?_⟩; intro w hSw; (try dsimp only at hSw); go_simp <;> with_reducible rfl))
    try simp only [Act.put, List.setIfInBounds_toArray, List.set_cons_zero, List.set_cons_succ]
    refine wpAnyH_done (by kernel_rfl) ?_ _
    refine NoPanic.normal ?_
    go_wp2_with fail
    exact bodyPost_ret (v := .tuple #[.float .f64 (floatOfInt .f64 n), .bool false]) (by simp [results, Try.results20, go_sem]) rfl ⟨by rw [hv.out], hHeld.2⟩
end Go.Proofs.Ytcgkolaljgpphaa
