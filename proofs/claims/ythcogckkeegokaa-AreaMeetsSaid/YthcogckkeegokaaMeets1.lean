/- AreaMeets: the walk, where they do not meet. -/
import Derived.Deep.RegionHeld3
import Derived.Deep.DeepMust
import Derived.Test.YthcogckkeegokaaBegun
namespace Go.Proofs.Ythcogckkeegokaa
set_option linter.unusedVariables false
set_option linter.unusedSimpArgs false
open Go.RowKit Go.Shelf

set_option maxRecDepth 100000 in
set_option maxHeartbeats 1000000 in
theorem meets_no_f_f (t l b r t' l' b' r' x y : Int) (w : World)
    (K1 : ∀ w, Calls Try.prog 14 #[.agg #[.int .i64 t, .int .i64 l, .int .i64 b, .int .i64 r], .agg #[.int .i64 t', .int .i64 l', .int .i64 b', .int .i64 r']] w fun e w' => e = .returned (.tuple #[.agg #[.int .i64 0, .int .i64 0, .int .i64 0, .int .i64 0], .bool false]) ∧ Below w.heap.size w w')
    (K2 : ∀ w, Calls Try.prog 14 #[.agg #[.int .i64 t', .int .i64 l', .int .i64 b', .int .i64 r'], .agg #[.int .i64 t, .int .i64 l, .int .i64 b, .int .i64 r]] w fun e w' => e = .returned (.tuple #[.agg #[.int .i64 0, .int .i64 0, .int .i64 0, .int .i64 0], .bool false]) ∧ Below w.heap.size w w')
    (KP : ∀ w, Calls Try.prog 15 #[.agg #[.int .i64 t, .int .i64 l, .int .i64 b, .int .i64 r], .agg #[.int .i64 x, .int .i64 y]] w fun e w' => e = .returned (.bool false) ∧ Below w.heap.size w w')
    (KR : ∀ w, Calls Try.prog 15 #[.agg #[.int .i64 0, .int .i64 0, .int .i64 0, .int .i64 0], .agg #[.int .i64 x, .int .i64 y]] w fun e w' => e = .returned (.bool false) ∧ Below w.heap.size w w') :
    Calls Try.prog 5 #[.agg #[.int .i64 t, .int .i64 l, .int .i64 b, .int .i64 r], .agg #[.int .i64 t', .int .i64 l', .int .i64 b', .int .i64 r'], .agg #[.int .i64 x, .int .i64 y]] w fun e w' => e = .returned (.bool true) ∧ Below w.heap.size w w' := by
  replace K1 := Lib.hid K1
  replace K2 := Lib.hid K2
  replace KP := Lib.hid KP
  replace KR := Lib.hid KR
  go_enter Try.func5, Try.ntmps5
  go_wp2_with fail
  refine (begun8 _).mono ?_
  rintro e w1 ⟨rfl, hb1⟩
  have r0 := hb1.row (row3a w _ _ _) (by simp <;> omega)
  have r1 := hb1.row (row3b w _ _ _) (by simp <;> omega)
  have r2 := hb1.row (row3c w _ _ _) (by simp <;> omega)
  obtain ⟨c0, c1, c2, c3⟩ := cells4 r0
  obtain ⟨d0, d1, d2, d3⟩ := cells4 r1
  obtain ⟨e0, e1⟩ := cells2 r2
  have HB := Lib.hid (three_below hb1)
  have hz : w.heap.size + 1 + 1 < w1.heap.size := by have := hb1.size; simp at this; omega
  have hz1 : w.heap.size + 1 < w1.heap.size := by omega
  have hz0 : w.heap.size < w1.heap.size := by omega
  clear hb1
  go_wp2_with fail
  refine (K1.out _).mono ?_
  rintro e w2 ⟨rfl, hb2⟩
  replace r0 := hb2.row r0 (by omega)
  replace r1 := hb2.row r1 (by omega)
  replace r2 := hb2.row r2 (by omega)
  obtain ⟨c0, c1, c2, c3⟩ := cells4 r0
  obtain ⟨d0, d1, d2, d3⟩ := cells4 r1
  obtain ⟨e0, e1⟩ := cells2 r2
  replace HB := Lib.hid (HB.out.trans (hb2.mono HB.out.size))
  replace hz := Nat.lt_of_lt_of_le hz hb2.size
  replace hz0 := Nat.lt_of_lt_of_le hz0 hb2.size
  replace hz1 := Nat.lt_of_lt_of_le hz1 hb2.size
  clear hb2
  go_wp2_with fail
  refine (K2.out _).mono ?_
  rintro e w3 ⟨rfl, hb3⟩
  have r3 := hb3.row (heap_alloc_new w2 _) (by simp)
  replace r0 := hb3.row ((Below.heap_alloc w2 _ _ (by omega)).trans r0) (by simp; omega)
  replace r1 := hb3.row ((Below.heap_alloc w2 _ _ (by omega)).trans r1) (by simp; omega)
  replace r2 := hb3.row ((Below.heap_alloc w2 _ _ (by omega)).trans r2) (by simp; omega)
  obtain ⟨c0, c1, c2, c3⟩ := cells4 r0
  obtain ⟨d0, d1, d2, d3⟩ := cells4 r1
  obtain ⟨e0, e1⟩ := cells2 r2
  obtain ⟨f0, f1, f2, f3⟩ := cells4 r3
  have hz2 : w2.heap.size < w3.heap.size := by have := hb3.size; simp at this; omega
  replace HB := Lib.hid (HB.out.trans ((one_below hb3).mono HB.out.size))
  replace hz := Nat.lt_trans hz hz2
  replace hz0 := Nat.lt_trans hz0 hz2
  replace hz1 := Nat.lt_trans hz1 hz2
  clear hb3
  go_wp2_with fail
  refine (KP.out _).mono ?_
  rintro e w4 ⟨rfl, hb4⟩
  replace r0 := hb4.row ((Below.heap_alloc w3 _ _ (by omega)).trans r0) (by simp; omega)
  replace r1 := hb4.row ((Below.heap_alloc w3 _ _ (by omega)).trans r1) (by simp; omega)
  replace r2 := hb4.row ((Below.heap_alloc w3 _ _ (by omega)).trans r2) (by simp; omega)
  replace r3 := hb4.row ((Below.heap_alloc w3 _ _ (by omega)).trans r3) (by simp; omega)
  have r4 := hb4.row (heap_alloc_new w3 _) (by simp)
  replace HB := Lib.hid (HB.out.trans ((one_below hb4).mono HB.out.size))
  clear hb4 hz hz0 hz1 hz2
  obtain ⟨c0, c1, c2, c3⟩ := cells4 r0
  obtain ⟨d0, d1, d2, d3⟩ := cells4 r1
  obtain ⟨e0, e1⟩ := cells2 r2
  obtain ⟨f0, f1, f2, f3⟩ := cells4 r3
  obtain ⟨g0, g1, g2, g3⟩ := cells4 r4
  clear r0 r1 r2 r3 r4
  go_wp2_with fail
  refine (KR.out _).mono ?_
  rintro e w5 ⟨rfl, hb5⟩
  replace c0 := cell_below c0 hb5
  replace c1 := cell_below c1 hb5
  replace c2 := cell_below c2 hb5
  replace c3 := cell_below c3 hb5
  replace d0 := cell_below d0 hb5
  replace d1 := cell_below d1 hb5
  replace d2 := cell_below d2 hb5
  replace d3 := cell_below d3 hb5
  replace e0 := cell_below e0 hb5
  replace e1 := cell_below e1 hb5
  replace f0 := cell_below f0 hb5
  replace f1 := cell_below f1 hb5
  replace f2 := cell_below f2 hb5
  replace f3 := cell_below f3 hb5
  replace g0 := cell_below g0 hb5
  replace g1 := cell_below g1 hb5
  replace g2 := cell_below g2 hb5
  replace g3 := cell_below g3 hb5
  replace HB := Lib.hid (HB.out.trans (hb5.mono HB.out.size))
  clear hb5
  go_wp2_with fail
  go_ret
  exact ⟨rfl, HB.out⟩

set_option maxRecDepth 100000 in
set_option maxHeartbeats 1000000 in
theorem meets_no_f_t (t l b r t' l' b' r' x y : Int) (w : World)
    (K1 : ∀ w, Calls Try.prog 14 #[.agg #[.int .i64 t, .int .i64 l, .int .i64 b, .int .i64 r], .agg #[.int .i64 t', .int .i64 l', .int .i64 b', .int .i64 r']] w fun e w' => e = .returned (.tuple #[.agg #[.int .i64 0, .int .i64 0, .int .i64 0, .int .i64 0], .bool false]) ∧ Below w.heap.size w w')
    (K2 : ∀ w, Calls Try.prog 14 #[.agg #[.int .i64 t', .int .i64 l', .int .i64 b', .int .i64 r'], .agg #[.int .i64 t, .int .i64 l, .int .i64 b, .int .i64 r]] w fun e w' => e = .returned (.tuple #[.agg #[.int .i64 0, .int .i64 0, .int .i64 0, .int .i64 0], .bool false]) ∧ Below w.heap.size w w')
    (KP : ∀ w, Calls Try.prog 15 #[.agg #[.int .i64 t, .int .i64 l, .int .i64 b, .int .i64 r], .agg #[.int .i64 x, .int .i64 y]] w fun e w' => e = .returned (.bool false) ∧ Below w.heap.size w w')
    (KR : ∀ w, Calls Try.prog 15 #[.agg #[.int .i64 0, .int .i64 0, .int .i64 0, .int .i64 0], .agg #[.int .i64 x, .int .i64 y]] w fun e w' => e = .returned (.bool true) ∧ Below w.heap.size w w') :
    Calls Try.prog 5 #[.agg #[.int .i64 t, .int .i64 l, .int .i64 b, .int .i64 r], .agg #[.int .i64 t', .int .i64 l', .int .i64 b', .int .i64 r'], .agg #[.int .i64 x, .int .i64 y]] w fun e w' => e = .returned (.bool true) ∧ Below w.heap.size w w' := by
  replace K1 := Lib.hid K1
  replace K2 := Lib.hid K2
  replace KP := Lib.hid KP
  replace KR := Lib.hid KR
  go_enter Try.func5, Try.ntmps5
  go_wp2_with fail
  refine (begun8 _).mono ?_
  rintro e w1 ⟨rfl, hb1⟩
  have r0 := hb1.row (row3a w _ _ _) (by simp <;> omega)
  have r1 := hb1.row (row3b w _ _ _) (by simp <;> omega)
  have r2 := hb1.row (row3c w _ _ _) (by simp <;> omega)
  obtain ⟨c0, c1, c2, c3⟩ := cells4 r0
  obtain ⟨d0, d1, d2, d3⟩ := cells4 r1
  obtain ⟨e0, e1⟩ := cells2 r2
  have HB := Lib.hid (three_below hb1)
  have hz : w.heap.size + 1 + 1 < w1.heap.size := by have := hb1.size; simp at this; omega
  have hz1 : w.heap.size + 1 < w1.heap.size := by omega
  have hz0 : w.heap.size < w1.heap.size := by omega
  clear hb1
  go_wp2_with fail
  refine (K1.out _).mono ?_
  rintro e w2 ⟨rfl, hb2⟩
  replace r0 := hb2.row r0 (by omega)
  replace r1 := hb2.row r1 (by omega)
  replace r2 := hb2.row r2 (by omega)
  obtain ⟨c0, c1, c2, c3⟩ := cells4 r0
  obtain ⟨d0, d1, d2, d3⟩ := cells4 r1
  obtain ⟨e0, e1⟩ := cells2 r2
  replace HB := Lib.hid (HB.out.trans (hb2.mono HB.out.size))
  replace hz := Nat.lt_of_lt_of_le hz hb2.size
  replace hz0 := Nat.lt_of_lt_of_le hz0 hb2.size
  replace hz1 := Nat.lt_of_lt_of_le hz1 hb2.size
  clear hb2
  go_wp2_with fail
  refine (K2.out _).mono ?_
  rintro e w3 ⟨rfl, hb3⟩
  have r3 := hb3.row (heap_alloc_new w2 _) (by simp)
  replace r0 := hb3.row ((Below.heap_alloc w2 _ _ (by omega)).trans r0) (by simp; omega)
  replace r1 := hb3.row ((Below.heap_alloc w2 _ _ (by omega)).trans r1) (by simp; omega)
  replace r2 := hb3.row ((Below.heap_alloc w2 _ _ (by omega)).trans r2) (by simp; omega)
  obtain ⟨c0, c1, c2, c3⟩ := cells4 r0
  obtain ⟨d0, d1, d2, d3⟩ := cells4 r1
  obtain ⟨e0, e1⟩ := cells2 r2
  obtain ⟨f0, f1, f2, f3⟩ := cells4 r3
  have hz2 : w2.heap.size < w3.heap.size := by have := hb3.size; simp at this; omega
  replace HB := Lib.hid (HB.out.trans ((one_below hb3).mono HB.out.size))
  replace hz := Nat.lt_trans hz hz2
  replace hz0 := Nat.lt_trans hz0 hz2
  replace hz1 := Nat.lt_trans hz1 hz2
  clear hb3
  go_wp2_with fail
  refine (KP.out _).mono ?_
  rintro e w4 ⟨rfl, hb4⟩
  replace r0 := hb4.row ((Below.heap_alloc w3 _ _ (by omega)).trans r0) (by simp; omega)
  replace r1 := hb4.row ((Below.heap_alloc w3 _ _ (by omega)).trans r1) (by simp; omega)
  replace r2 := hb4.row ((Below.heap_alloc w3 _ _ (by omega)).trans r2) (by simp; omega)
  replace r3 := hb4.row ((Below.heap_alloc w3 _ _ (by omega)).trans r3) (by simp; omega)
  have r4 := hb4.row (heap_alloc_new w3 _) (by simp)
  replace HB := Lib.hid (HB.out.trans ((one_below hb4).mono HB.out.size))
  clear hb4 hz hz0 hz1 hz2
  obtain ⟨c0, c1, c2, c3⟩ := cells4 r0
  obtain ⟨d0, d1, d2, d3⟩ := cells4 r1
  obtain ⟨e0, e1⟩ := cells2 r2
  obtain ⟨f0, f1, f2, f3⟩ := cells4 r3
  obtain ⟨g0, g1, g2, g3⟩ := cells4 r4
  clear r0 r1 r2 r3 r4
  go_wp2_with fail
  refine (KR.out _).mono ?_
  rintro e w5 ⟨rfl, hb5⟩
  replace c0 := cell_below c0 hb5
  replace c1 := cell_below c1 hb5
  replace c2 := cell_below c2 hb5
  replace c3 := cell_below c3 hb5
  replace d0 := cell_below d0 hb5
  replace d1 := cell_below d1 hb5
  replace d2 := cell_below d2 hb5
  replace d3 := cell_below d3 hb5
  replace e0 := cell_below e0 hb5
  replace e1 := cell_below e1 hb5
  replace f0 := cell_below f0 hb5
  replace f1 := cell_below f1 hb5
  replace f2 := cell_below f2 hb5
  replace f3 := cell_below f3 hb5
  replace g0 := cell_below g0 hb5
  replace g1 := cell_below g1 hb5
  replace g2 := cell_below g2 hb5
  replace g3 := cell_below g3 hb5
  replace HB := Lib.hid (HB.out.trans (hb5.mono HB.out.size))
  clear hb5
  go_wp2_with fail
  go_ret
  exact ⟨rfl, HB.out⟩

set_option maxRecDepth 100000 in
set_option maxHeartbeats 1000000 in
theorem meets_no_tf_f (t l b r t' l' b' r' x y : Int) (w : World)
    (K1 : ∀ w, Calls Try.prog 14 #[.agg #[.int .i64 t, .int .i64 l, .int .i64 b, .int .i64 r], .agg #[.int .i64 t', .int .i64 l', .int .i64 b', .int .i64 r']] w fun e w' => e = .returned (.tuple #[.agg #[.int .i64 0, .int .i64 0, .int .i64 0, .int .i64 0], .bool false]) ∧ Below w.heap.size w w')
    (K2 : ∀ w, Calls Try.prog 14 #[.agg #[.int .i64 t', .int .i64 l', .int .i64 b', .int .i64 r'], .agg #[.int .i64 t, .int .i64 l, .int .i64 b, .int .i64 r]] w fun e w' => e = .returned (.tuple #[.agg #[.int .i64 0, .int .i64 0, .int .i64 0, .int .i64 0], .bool false]) ∧ Below w.heap.size w w')
    (KP : ∀ w, Calls Try.prog 15 #[.agg #[.int .i64 t, .int .i64 l, .int .i64 b, .int .i64 r], .agg #[.int .i64 x, .int .i64 y]] w fun e w' => e = .returned (.bool true) ∧ Below w.heap.size w w')
    (KQ : ∀ w, Calls Try.prog 15 #[.agg #[.int .i64 t', .int .i64 l', .int .i64 b', .int .i64 r'], .agg #[.int .i64 x, .int .i64 y]] w fun e w' => e = .returned (.bool false) ∧ Below w.heap.size w w')
    (KR : ∀ w, Calls Try.prog 15 #[.agg #[.int .i64 0, .int .i64 0, .int .i64 0, .int .i64 0], .agg #[.int .i64 x, .int .i64 y]] w fun e w' => e = .returned (.bool false) ∧ Below w.heap.size w w') :
    Calls Try.prog 5 #[.agg #[.int .i64 t, .int .i64 l, .int .i64 b, .int .i64 r], .agg #[.int .i64 t', .int .i64 l', .int .i64 b', .int .i64 r'], .agg #[.int .i64 x, .int .i64 y]] w fun e w' => e = .returned (.bool true) ∧ Below w.heap.size w w' := by
  replace K1 := Lib.hid K1
  replace K2 := Lib.hid K2
  replace KP := Lib.hid KP
  replace KQ := Lib.hid KQ
  replace KR := Lib.hid KR
  go_enter Try.func5, Try.ntmps5
  go_wp2_with fail
  refine (begun8 _).mono ?_
  rintro e w1 ⟨rfl, hb1⟩
  have r0 := hb1.row (row3a w _ _ _) (by simp <;> omega)
  have r1 := hb1.row (row3b w _ _ _) (by simp <;> omega)
  have r2 := hb1.row (row3c w _ _ _) (by simp <;> omega)
  obtain ⟨c0, c1, c2, c3⟩ := cells4 r0
  obtain ⟨d0, d1, d2, d3⟩ := cells4 r1
  obtain ⟨e0, e1⟩ := cells2 r2
  have HB := Lib.hid (three_below hb1)
  have hz : w.heap.size + 1 + 1 < w1.heap.size := by have := hb1.size; simp at this; omega
  have hz1 : w.heap.size + 1 < w1.heap.size := by omega
  have hz0 : w.heap.size < w1.heap.size := by omega
  clear hb1
  go_wp2_with fail
  refine (K1.out _).mono ?_
  rintro e w2 ⟨rfl, hb2⟩
  replace r0 := hb2.row r0 (by omega)
  replace r1 := hb2.row r1 (by omega)
  replace r2 := hb2.row r2 (by omega)
  obtain ⟨c0, c1, c2, c3⟩ := cells4 r0
  obtain ⟨d0, d1, d2, d3⟩ := cells4 r1
  obtain ⟨e0, e1⟩ := cells2 r2
  replace HB := Lib.hid (HB.out.trans (hb2.mono HB.out.size))
  replace hz := Nat.lt_of_lt_of_le hz hb2.size
  replace hz0 := Nat.lt_of_lt_of_le hz0 hb2.size
  replace hz1 := Nat.lt_of_lt_of_le hz1 hb2.size
  clear hb2
  go_wp2_with fail
  refine (K2.out _).mono ?_
  rintro e w3 ⟨rfl, hb3⟩
  have r3 := hb3.row (heap_alloc_new w2 _) (by simp)
  replace r0 := hb3.row ((Below.heap_alloc w2 _ _ (by omega)).trans r0) (by simp; omega)
  replace r1 := hb3.row ((Below.heap_alloc w2 _ _ (by omega)).trans r1) (by simp; omega)
  replace r2 := hb3.row ((Below.heap_alloc w2 _ _ (by omega)).trans r2) (by simp; omega)
  obtain ⟨c0, c1, c2, c3⟩ := cells4 r0
  obtain ⟨d0, d1, d2, d3⟩ := cells4 r1
  obtain ⟨e0, e1⟩ := cells2 r2
  obtain ⟨f0, f1, f2, f3⟩ := cells4 r3
  have hz2 : w2.heap.size < w3.heap.size := by have := hb3.size; simp at this; omega
  replace HB := Lib.hid (HB.out.trans ((one_below hb3).mono HB.out.size))
  replace hz := Nat.lt_trans hz hz2
  replace hz0 := Nat.lt_trans hz0 hz2
  replace hz1 := Nat.lt_trans hz1 hz2
  clear hb3
  go_wp2_with fail
  refine (KP.out _).mono ?_
  rintro e w4 ⟨rfl, hb4⟩
  replace r0 := hb4.row ((Below.heap_alloc w3 _ _ (by omega)).trans r0) (by simp; omega)
  replace r1 := hb4.row ((Below.heap_alloc w3 _ _ (by omega)).trans r1) (by simp; omega)
  replace r2 := hb4.row ((Below.heap_alloc w3 _ _ (by omega)).trans r2) (by simp; omega)
  replace r3 := hb4.row ((Below.heap_alloc w3 _ _ (by omega)).trans r3) (by simp; omega)
  have r4 := hb4.row (heap_alloc_new w3 _) (by simp)
  replace HB := Lib.hid (HB.out.trans ((one_below hb4).mono HB.out.size))
  clear hb4 hz hz0 hz1 hz2
  obtain ⟨c0, c1, c2, c3⟩ := cells4 r0
  obtain ⟨d0, d1, d2, d3⟩ := cells4 r1
  obtain ⟨e0, e1⟩ := cells2 r2
  obtain ⟨f0, f1, f2, f3⟩ := cells4 r3
  obtain ⟨g0, g1, g2, g3⟩ := cells4 r4
  clear r0 r1 r2 r3 r4
  go_wp2_with fail
  refine (KQ.out _).mono ?_
  rintro e w5 ⟨rfl, hb5⟩
  replace c0 := cell_below c0 hb5
  replace c1 := cell_below c1 hb5
  replace c2 := cell_below c2 hb5
  replace c3 := cell_below c3 hb5
  replace d0 := cell_below d0 hb5
  replace d1 := cell_below d1 hb5
  replace d2 := cell_below d2 hb5
  replace d3 := cell_below d3 hb5
  replace e0 := cell_below e0 hb5
  replace e1 := cell_below e1 hb5
  replace f0 := cell_below f0 hb5
  replace f1 := cell_below f1 hb5
  replace f2 := cell_below f2 hb5
  replace f3 := cell_below f3 hb5
  replace g0 := cell_below g0 hb5
  replace g1 := cell_below g1 hb5
  replace g2 := cell_below g2 hb5
  replace g3 := cell_below g3 hb5
  replace HB := Lib.hid (HB.out.trans (hb5.mono HB.out.size))
  clear hb5
  go_wp2_with fail
  refine (KR.out _).mono ?_
  rintro e w6 ⟨rfl, hb6⟩
  replace c0 := cell_below c0 hb6
  replace c1 := cell_below c1 hb6
  replace c2 := cell_below c2 hb6
  replace c3 := cell_below c3 hb6
  replace d0 := cell_below d0 hb6
  replace d1 := cell_below d1 hb6
  replace d2 := cell_below d2 hb6
  replace d3 := cell_below d3 hb6
  replace e0 := cell_below e0 hb6
  replace e1 := cell_below e1 hb6
  replace f0 := cell_below f0 hb6
  replace f1 := cell_below f1 hb6
  replace f2 := cell_below f2 hb6
  replace f3 := cell_below f3 hb6
  replace g0 := cell_below g0 hb6
  replace g1 := cell_below g1 hb6
  replace g2 := cell_below g2 hb6
  replace g3 := cell_below g3 hb6
  replace HB := Lib.hid (HB.out.trans (hb6.mono HB.out.size))
  clear hb6
  go_wp2_with fail
  go_ret
  exact ⟨rfl, HB.out⟩

set_option maxRecDepth 100000 in
set_option maxHeartbeats 1000000 in
theorem meets_no_tf_t (t l b r t' l' b' r' x y : Int) (w : World)
    (K1 : ∀ w, Calls Try.prog 14 #[.agg #[.int .i64 t, .int .i64 l, .int .i64 b, .int .i64 r], .agg #[.int .i64 t', .int .i64 l', .int .i64 b', .int .i64 r']] w fun e w' => e = .returned (.tuple #[.agg #[.int .i64 0, .int .i64 0, .int .i64 0, .int .i64 0], .bool false]) ∧ Below w.heap.size w w')
    (K2 : ∀ w, Calls Try.prog 14 #[.agg #[.int .i64 t', .int .i64 l', .int .i64 b', .int .i64 r'], .agg #[.int .i64 t, .int .i64 l, .int .i64 b, .int .i64 r]] w fun e w' => e = .returned (.tuple #[.agg #[.int .i64 0, .int .i64 0, .int .i64 0, .int .i64 0], .bool false]) ∧ Below w.heap.size w w')
    (KP : ∀ w, Calls Try.prog 15 #[.agg #[.int .i64 t, .int .i64 l, .int .i64 b, .int .i64 r], .agg #[.int .i64 x, .int .i64 y]] w fun e w' => e = .returned (.bool true) ∧ Below w.heap.size w w')
    (KQ : ∀ w, Calls Try.prog 15 #[.agg #[.int .i64 t', .int .i64 l', .int .i64 b', .int .i64 r'], .agg #[.int .i64 x, .int .i64 y]] w fun e w' => e = .returned (.bool false) ∧ Below w.heap.size w w')
    (KR : ∀ w, Calls Try.prog 15 #[.agg #[.int .i64 0, .int .i64 0, .int .i64 0, .int .i64 0], .agg #[.int .i64 x, .int .i64 y]] w fun e w' => e = .returned (.bool true) ∧ Below w.heap.size w w') :
    Calls Try.prog 5 #[.agg #[.int .i64 t, .int .i64 l, .int .i64 b, .int .i64 r], .agg #[.int .i64 t', .int .i64 l', .int .i64 b', .int .i64 r'], .agg #[.int .i64 x, .int .i64 y]] w fun e w' => e = .returned (.bool true) ∧ Below w.heap.size w w' := by
  replace K1 := Lib.hid K1
  replace K2 := Lib.hid K2
  replace KP := Lib.hid KP
  replace KQ := Lib.hid KQ
  replace KR := Lib.hid KR
  go_enter Try.func5, Try.ntmps5
  go_wp2_with fail
  refine (begun8 _).mono ?_
  rintro e w1 ⟨rfl, hb1⟩
  have r0 := hb1.row (row3a w _ _ _) (by simp <;> omega)
  have r1 := hb1.row (row3b w _ _ _) (by simp <;> omega)
  have r2 := hb1.row (row3c w _ _ _) (by simp <;> omega)
  obtain ⟨c0, c1, c2, c3⟩ := cells4 r0
  obtain ⟨d0, d1, d2, d3⟩ := cells4 r1
  obtain ⟨e0, e1⟩ := cells2 r2
  have HB := Lib.hid (three_below hb1)
  have hz : w.heap.size + 1 + 1 < w1.heap.size := by have := hb1.size; simp at this; omega
  have hz1 : w.heap.size + 1 < w1.heap.size := by omega
  have hz0 : w.heap.size < w1.heap.size := by omega
  clear hb1
  go_wp2_with fail
  refine (K1.out _).mono ?_
  rintro e w2 ⟨rfl, hb2⟩
  replace r0 := hb2.row r0 (by omega)
  replace r1 := hb2.row r1 (by omega)
  replace r2 := hb2.row r2 (by omega)
  obtain ⟨c0, c1, c2, c3⟩ := cells4 r0
  obtain ⟨d0, d1, d2, d3⟩ := cells4 r1
  obtain ⟨e0, e1⟩ := cells2 r2
  replace HB := Lib.hid (HB.out.trans (hb2.mono HB.out.size))
  replace hz := Nat.lt_of_lt_of_le hz hb2.size
  replace hz0 := Nat.lt_of_lt_of_le hz0 hb2.size
  replace hz1 := Nat.lt_of_lt_of_le hz1 hb2.size
  clear hb2
  go_wp2_with fail
  refine (K2.out _).mono ?_
  rintro e w3 ⟨rfl, hb3⟩
  have r3 := hb3.row (heap_alloc_new w2 _) (by simp)
  replace r0 := hb3.row ((Below.heap_alloc w2 _ _ (by omega)).trans r0) (by simp; omega)
  replace r1 := hb3.row ((Below.heap_alloc w2 _ _ (by omega)).trans r1) (by simp; omega)
  replace r2 := hb3.row ((Below.heap_alloc w2 _ _ (by omega)).trans r2) (by simp; omega)
  obtain ⟨c0, c1, c2, c3⟩ := cells4 r0
  obtain ⟨d0, d1, d2, d3⟩ := cells4 r1
  obtain ⟨e0, e1⟩ := cells2 r2
  obtain ⟨f0, f1, f2, f3⟩ := cells4 r3
  have hz2 : w2.heap.size < w3.heap.size := by have := hb3.size; simp at this; omega
  replace HB := Lib.hid (HB.out.trans ((one_below hb3).mono HB.out.size))
  replace hz := Nat.lt_trans hz hz2
  replace hz0 := Nat.lt_trans hz0 hz2
  replace hz1 := Nat.lt_trans hz1 hz2
  clear hb3
  go_wp2_with fail
  refine (KP.out _).mono ?_
  rintro e w4 ⟨rfl, hb4⟩
  replace r0 := hb4.row ((Below.heap_alloc w3 _ _ (by omega)).trans r0) (by simp; omega)
  replace r1 := hb4.row ((Below.heap_alloc w3 _ _ (by omega)).trans r1) (by simp; omega)
  replace r2 := hb4.row ((Below.heap_alloc w3 _ _ (by omega)).trans r2) (by simp; omega)
  replace r3 := hb4.row ((Below.heap_alloc w3 _ _ (by omega)).trans r3) (by simp; omega)
  have r4 := hb4.row (heap_alloc_new w3 _) (by simp)
  replace HB := Lib.hid (HB.out.trans ((one_below hb4).mono HB.out.size))
  clear hb4 hz hz0 hz1 hz2
  obtain ⟨c0, c1, c2, c3⟩ := cells4 r0
  obtain ⟨d0, d1, d2, d3⟩ := cells4 r1
  obtain ⟨e0, e1⟩ := cells2 r2
  obtain ⟨f0, f1, f2, f3⟩ := cells4 r3
  obtain ⟨g0, g1, g2, g3⟩ := cells4 r4
  clear r0 r1 r2 r3 r4
  go_wp2_with fail
  refine (KQ.out _).mono ?_
  rintro e w5 ⟨rfl, hb5⟩
  replace c0 := cell_below c0 hb5
  replace c1 := cell_below c1 hb5
  replace c2 := cell_below c2 hb5
  replace c3 := cell_below c3 hb5
  replace d0 := cell_below d0 hb5
  replace d1 := cell_below d1 hb5
  replace d2 := cell_below d2 hb5
  replace d3 := cell_below d3 hb5
  replace e0 := cell_below e0 hb5
  replace e1 := cell_below e1 hb5
  replace f0 := cell_below f0 hb5
  replace f1 := cell_below f1 hb5
  replace f2 := cell_below f2 hb5
  replace f3 := cell_below f3 hb5
  replace g0 := cell_below g0 hb5
  replace g1 := cell_below g1 hb5
  replace g2 := cell_below g2 hb5
  replace g3 := cell_below g3 hb5
  replace HB := Lib.hid (HB.out.trans (hb5.mono HB.out.size))
  clear hb5
  go_wp2_with fail
  refine (KR.out _).mono ?_
  rintro e w6 ⟨rfl, hb6⟩
  replace c0 := cell_below c0 hb6
  replace c1 := cell_below c1 hb6
  replace c2 := cell_below c2 hb6
  replace c3 := cell_below c3 hb6
  replace d0 := cell_below d0 hb6
  replace d1 := cell_below d1 hb6
  replace d2 := cell_below d2 hb6
  replace d3 := cell_below d3 hb6
  replace e0 := cell_below e0 hb6
  replace e1 := cell_below e1 hb6
  replace f0 := cell_below f0 hb6
  replace f1 := cell_below f1 hb6
  replace f2 := cell_below f2 hb6
  replace f3 := cell_below f3 hb6
  replace g0 := cell_below g0 hb6
  replace g1 := cell_below g1 hb6
  replace g2 := cell_below g2 hb6
  replace g3 := cell_below g3 hb6
  replace HB := Lib.hid (HB.out.trans (hb6.mono HB.out.size))
  clear hb6
  go_wp2_with fail
  go_ret
  exact ⟨rfl, HB.out⟩

end Go.Proofs.Ythcogckkeegokaa
