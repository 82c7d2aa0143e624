/- AreaMoves: the walk. -/
import Derived.Test.YthcogckkeegokaaBegun
namespace Go.Proofs.Ythcogckkeegokaa
set_option linter.unusedVariables false
set_option linter.unusedSimpArgs false
open Go.RowKit Go.Shelf

theorem moveV_no {t l b r : Int} (dr dc : Int) (h : areaB t l b r = false) : moveV t l b r dr dc = ((0, 0, 0, 0), 11) := by simp [moveV, h]
theorem moveV_off {t l b r dr dc : Int} (h : areaB t l b r = true) (h' : areaB (t + dr) (l + dc) (b + dr) (r + dc) = false) : moveV t l b r dr dc = ((0, 0, 0, 0), 10) := by simp [moveV, h, h']
theorem moveV_yes {t l b r dr dc : Int} (h : areaB t l b r = true) (h' : areaB (t + dr) (l + dc) (b + dr) (r + dc) = true) : moveV t l b r dr dc = ((t + dr, l + dc, b + dr, r + dc), 0) := by
  have h1 := areaB_bd h
  have h2 := areaB_bd h'
  have hf : farB dr dc = false := by simp only [farB, decide_eq_false_iff_not]; omega
  simp [moveV, h, h', hf]
theorem moveV_back {t l b r dr dc : Int} (h : areaB t l b r = true) (h' : areaB (t + dr) (l + dc) (b + dr) (r + dc) = true) : moveV (t + dr) (l + dc) (b + dr) (r + dc) (-dr) (-dc) = ((t, l, b, r), 0) := by
  have e1 : t + dr + -dr = t := by omega
  have e2 : l + dc + -dc = l := by omega
  have e3 : b + dr + -dr = b := by omega
  have e4 : r + dc + -dc = r := by omega
  have := moveV_yes (dr := -dr) (dc := -dc) h' (by rw [e1, e2, e3, e4]; exact h)
  rwa [e1, e2, e3, e4] at this

set_option maxRecDepth 100000 in
set_option maxHeartbeats 1000000 in
theorem moves_no (t l b r dr dc : Int) (w : World) (h1 : -2147483648 ≤ dr ∧ dr ≤ 2147483647) (h2 : -2147483648 ≤ dc ∧ dc ≤ 2147483647) (h : areaB t l b r = false) :
    Calls Try.prog 4 #[.agg #[.int .i64 t, .int .i64 l, .int .i64 b, .int .i64 r], .int .i32 dr, .int .i32 dc] w fun e w' => e = .returned (.bool true) ∧ Below w.heap.size w w' := by
  go_enter Try.func4, Try.ntmps4
  go_wp2_with fail
  refine (begun8 _).mono ?_
  rintro e w1 ⟨rfl, hb1⟩
  have r0 := hb1.row (heap_alloc_new w _) (by simp)
  obtain ⟨c0, c1, c2, c3⟩ := cells4 r0
  have HB := Lib.hid (one_below hb1)
  have hz : w.heap.size < w1.heap.size := by have := hb1.size; simp at this; omega
  clear hb1
  go_wp2_with fail
  refine (move12 _ _ _ _ _ _ _).mono ?_
  rw [moveV_no _ _ h]
  rintro e w2 ⟨rfl, hb2⟩
  replace r0 := hb2.row r0 (by omega)
  obtain ⟨c0, c1, c2, c3⟩ := cells4 r0
  replace HB := Lib.hid (HB.out.trans (hb2.mono HB.out.size))
  replace hz := Nat.lt_of_lt_of_le hz hb2.size
  clear hb2
  go_wp2_with fail
  refine (may13 _ _ _ _ _).mono ?_
  rw [areaE_no h]
  rintro e w3 ⟨rfl, hb3⟩
  have r1 := hb3.row (heap_alloc_new w2 _) (by simp)
  obtain ⟨d0, d1, d2, d3⟩ := cells4 r1
  replace HB := Lib.hid (HB.out.trans ((one_below hb3).mono HB.out.size))
  have hz3 : w2.heap.size < w3.heap.size := by have := hb3.size; simp at this; omega
  clear hb3
  go_wp2_with fail
  go_ret
  exact ⟨rfl, HB.out⟩

set_option maxRecDepth 100000 in
set_option maxHeartbeats 1000000 in
theorem moves_off (t l b r dr dc : Int) (w : World) (h1 : -2147483648 ≤ dr ∧ dr ≤ 2147483647) (h2 : -2147483648 ≤ dc ∧ dc ≤ 2147483647) (h : areaB t l b r = true) (h' : areaB (t + dr) (l + dc) (b + dr) (r + dc) = false) :
    Calls Try.prog 4 #[.agg #[.int .i64 t, .int .i64 l, .int .i64 b, .int .i64 r], .int .i32 dr, .int .i32 dc] w fun e w' => e = .returned (.bool true) ∧ Below w.heap.size w w' := by
  have ⟨k1, k2, k3, k4, k5, k6⟩ := areaB_bd h
  go_enter Try.func4, Try.ntmps4
  go_wp2_with fail
  refine (begun8 _).mono ?_
  rintro e w1 ⟨rfl, hb1⟩
  have r0 := hb1.row (heap_alloc_new w _) (by simp)
  obtain ⟨c0, c1, c2, c3⟩ := cells4 r0
  have HB := Lib.hid (one_below hb1)
  have hz : w.heap.size < w1.heap.size := by have := hb1.size; simp at this; omega
  clear hb1
  go_wp2_with fail
  refine (move12 _ _ _ _ _ _ _).mono ?_
  rw [moveV_off h h']
  rintro e w2 ⟨rfl, hb2⟩
  replace r0 := hb2.row r0 (by omega)
  obtain ⟨c0, c1, c2, c3⟩ := cells4 r0
  replace HB := Lib.hid (HB.out.trans (hb2.mono HB.out.size))
  replace hz := Nat.lt_of_lt_of_le hz hb2.size
  clear hb2
  go_wp2_with fail
  refine (may13 _ _ _ _ _).mono ?_
  rw [areaE_yes h]
  rintro e w3 ⟨rfl, hb3⟩
  have r1 := hb3.row (heap_alloc_new w2 _) (by simp)
  replace r0 := hb3.row ((Below.heap_alloc w2 _ _ (by omega)).trans r0) (by simp; omega)
  obtain ⟨c0, c1, c2, c3⟩ := cells4 r0
  obtain ⟨d0, d1, d2, d3⟩ := cells4 r1
  replace HB := Lib.hid (HB.out.trans ((one_below hb3).mono HB.out.size))
  have hz3 : w2.heap.size < w3.heap.size := by have := hb3.size; simp at this; omega
  replace hz : w.heap.size < w3.heap.size := by omega
  clear hb3
  go_wp2_with fail
  refine (may13 _ _ _ _ _).mono ?_
  rw [areaE_no h']
  rintro e w4 ⟨rfl, hb4⟩
  replace r1 := hb4.row ((Below.heap_alloc w3 _ _ (by omega)).trans r1) (by simp; omega)
  obtain ⟨d0, d1, d2, d3⟩ := cells4 r1
  have hz4 : w2.heap.size < w4.heap.size := by have := hb4.size; simp at this; omega
  replace HB := Lib.hid (HB.out.trans ((one_below hb4).mono HB.out.size))
  clear hb4
  go_wp2_with fail
  go_ret
  exact ⟨rfl, HB.out⟩
set_option maxRecDepth 100000 in
set_option maxHeartbeats 1000000 in
theorem moves_yes (t l b r dr dc : Int) (w : World) (h1 : -2147483648 ≤ dr ∧ dr ≤ 2147483647) (h2 : -2147483648 ≤ dc ∧ dc ≤ 2147483647) (h : areaB t l b r = true) (h' : areaB (t + dr) (l + dc) (b + dr) (r + dc) = true) :
    Calls Try.prog 4 #[.agg #[.int .i64 t, .int .i64 l, .int .i64 b, .int .i64 r], .int .i32 dr, .int .i32 dc] w fun e w' => e = .returned (.bool true) ∧ Below w.heap.size w w' := by
  have ⟨k1, k2, k3, k4, k5, k6⟩ := areaB_bd h
  go_enter Try.func4, Try.ntmps4
  go_wp2_with fail
  refine (begun8 _).mono ?_
  rintro e w1 ⟨rfl, hb1⟩
  have r0 := hb1.row (heap_alloc_new w _) (by simp)
  obtain ⟨c0, c1, c2, c3⟩ := cells4 r0
  have HB := Lib.hid (one_below hb1)
  have hz : w.heap.size < w1.heap.size := by have := hb1.size; simp at this; omega
  clear hb1
  go_wp2_with fail
  refine (move12 _ _ _ _ _ _ _).mono ?_
  rw [moveV_yes h h']
  rintro e w2 ⟨rfl, hb2⟩
  replace r0 := hb2.row r0 (by omega)
  obtain ⟨c0, c1, c2, c3⟩ := cells4 r0
  replace HB := Lib.hid (HB.out.trans (hb2.mono HB.out.size))
  replace hz := Nat.lt_of_lt_of_le hz hb2.size
  clear hb2
  go_wp2_with fail
  refine (may13 _ _ _ _ _).mono ?_
  rw [areaE_yes h]
  rintro e w3 ⟨rfl, hb3⟩
  have r1 := hb3.row (heap_alloc_new w2 _) (by simp)
  replace r0 := hb3.row ((Below.heap_alloc w2 _ _ (by omega)).trans r0) (by simp; omega)
  obtain ⟨c0, c1, c2, c3⟩ := cells4 r0
  obtain ⟨d0, d1, d2, d3⟩ := cells4 r1
  replace HB := Lib.hid (HB.out.trans ((one_below hb3).mono HB.out.size))
  have hz3 : w2.heap.size < w3.heap.size := by have := hb3.size; simp at this; omega
  replace hz : w.heap.size < w3.heap.size := by omega
  clear hb3
  go_wp2_with fail
  refine (may13 _ _ _ _ _).mono ?_
  rw [areaE_yes h']
  rintro e w4 ⟨rfl, hb4⟩
  replace r1 := hb4.row ((Below.heap_alloc w3 _ _ (by omega)).trans r1) (by simp; omega)
  obtain ⟨d0, d1, d2, d3⟩ := cells4 r1
  have r2 := hb4.row (heap_alloc_new w3 _) (by simp)
  replace r0 := hb4.row ((Below.heap_alloc w3 _ _ (by omega)).trans r0) (by simp; omega)
  obtain ⟨c0, c1, c2, c3⟩ := cells4 r0
  obtain ⟨e0, e1, e2, e3⟩ := cells4 r2
  have hz4 : w3.heap.size < w4.heap.size := by have := hb4.size; simp at this; omega
  replace hz3 : w2.heap.size < w4.heap.size := by omega
  replace hz : w.heap.size < w4.heap.size := by omega
  replace HB := Lib.hid (HB.out.trans ((one_below hb4).mono HB.out.size))
  clear hb4
  go_wp2_with fail
  refine (move12 _ _ _ _ _ _ _).mono ?_
  rw [moveV_back h h']
  rintro e w5 ⟨rfl, hb5⟩
  replace r0 := hb5.row r0 (by omega)
  replace r1 := hb5.row r1 (by omega)
  replace r2 := hb5.row r2 (by omega)
  obtain ⟨c0, c1, c2, c3⟩ := cells4 r0
  obtain ⟨d0, d1, d2, d3⟩ := cells4 r1
  obtain ⟨e0, e1, e2, e3⟩ := cells4 r2
  replace hz := Nat.lt_of_lt_of_le hz hb5.size
  replace hz3 := Nat.lt_of_lt_of_le hz3 hb5.size
  replace hz4 := Nat.lt_of_lt_of_le hz4 hb5.size
  replace HB := Lib.hid (HB.out.trans (hb5.mono HB.out.size))
  clear hb5
  go_wp2_with fail
  go_ret
  exact ⟨rfl, HB.out.alloc HB.out.size _⟩

theorem moves_walk (t l b r dr dc : Int) (w : World) (h1 : -2147483648 ≤ dr ∧ dr ≤ 2147483647) (h2 : -2147483648 ≤ dc ∧ dc ≤ 2147483647) :
    Calls Try.prog 4 #[.agg #[.int .i64 t, .int .i64 l, .int .i64 b, .int .i64 r], .int .i32 dr, .int .i32 dc] w fun e w' => e = .returned (.bool true) ∧ Below w.heap.size w w' := by
  cases h : areaB t l b r
  · exact moves_no t l b r dr dc w h1 h2 h
  · cases h' : areaB (t + dr) (l + dc) (b + dr) (r + dc)
    · exact moves_off t l b r dr dc w h1 h2 h h'
    · exact moves_yes t l b r dr dc w h1 h2 h h'
end Go.Proofs.Ythcogckkeegokaa
