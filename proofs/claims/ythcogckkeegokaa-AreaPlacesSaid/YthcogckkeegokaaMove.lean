/- Size and Move of package area and of quadrilleref3, Places, At and the law's in: what each answers. -/
import Derived.Test.YthcogckkeegokaaMeet
namespace Go.Proofs.Ythcogckkeegokaa
set_option linter.unusedVariables false
set_option linter.unusedSimpArgs false
open Go.RowKit

theorem areaB_bd {t l b r : Int} (h : areaB t l b r = true) : 0 ≤ t ∧ t ≤ b ∧ b < 65536 ∧ 0 ≤ l ∧ l ≤ r ∧ r < 702 := by simpa [areaB] using h
theorem area_prod {t l b r : Int} (h : areaB t l b r = true) : 1 ≤ (b - t + 1) * (r - l + 1) ∧ (b - t + 1) * (r - l + 1) ≤ 46006272 := by
  obtain ⟨h1, h2, h3, h4, h5, h6⟩ := areaB_bd h
  have hx : 1 ≤ b - t + 1 ∧ b - t + 1 ≤ 65536 := by omega
  have hy : 1 ≤ r - l + 1 ∧ r - l + 1 ≤ 702 := by omega
  generalize b - t + 1 = x at *
  generalize r - l + 1 = y at *
  have e1 : 1 * 1 ≤ x * y := Int.mul_le_mul hx.1 hy.1 (by omega) (by omega)
  have e2 : x * y ≤ 65536 * 702 := Int.mul_le_mul hx.2 hy.2 (by omega) (by omega)
  omega

/-- Size's answer. -/
def sizeV (t l b r : Int) : Int × Int := if areaB t l b r = true then (if 4096 < (b - t + 1) * (r - l + 1) then (0, 2) else ((b - t + 1) * (r - l + 1), 0)) else (0, 11)
theorem ret_two {j k : IntKind} {a b c d : Int} (h1 : a = b) (h2 : c = d) : Ending.returned (.tuple #[.int j a, .int k c]) = .returned (.tuple #[.int j b, .int k d]) := by rw [h1, h2]

set_option maxHeartbeats 400000 in
theorem size19 (t l b r : Int) (w : World) :
    Calls Try.prog 19 #[.agg #[.int .i64 t, .int .i64 l, .int .i64 b, .int .i64 r]] w fun e w' => e = .returned (.tuple #[.int .i64 (sizeV t l b r).1, .int .i64 (sizeV t l b r).2]) ∧ Below w.heap.size w w' := by
  go_enter Try.func19, Try.ntmps19
  go_wp2_with fail
  refine (may13 _ _ _ _ _).mono ?_
  rintro e w1 ⟨rfl, hb1⟩
  obtain ⟨c0, c1, c2, c3⟩ := cells4 (hb1.row (heap_alloc_new w _) (by simp))
  have HB := Lib.hid (one_below hb1)
  clear hb1
  cases ha : areaB t l b r
  · rw [areaE_no ha]
    have hs : sizeV t l b r = (0, 11) := by simp [sizeV, ha]
    clear ha
    go_wp2_with fail
    go_ret2
    exact ⟨ret_two (by rw [hs]) (by rw [hs]), HB.out⟩
  · rw [areaE_yes ha]
    obtain ⟨p1, p2⟩ := area_prod ha
    obtain ⟨h1, h2, h3, h4, h5, h6⟩ := areaB_bd ha
    by_cases hp : 4096 < (b - t + 1) * (r - l + 1)
    · have hs : Hid (sizeV t l b r = (0, 2)) := by simp [Hid, sizeV, ha, hp]
      clear ha
      go_wp2_with fail
      go_ret2
      exact ⟨ret_two (by rw [hs.out]) (by rw [hs.out]), HB.out⟩
    · have hs : Hid (sizeV t l b r = ((b - t + 1) * (r - l + 1), 0)) := by simp [Hid, sizeV, ha, hp]
      clear ha
      go_wp2_with fail
      go_ret2
      exact ⟨ret_two (by rw [hs.out]) (by rw [hs.out]), HB.out⟩

set_option maxHeartbeats 400000 in
theorem size25 (t l b r : Int) (w : World) :
    Calls Try.prog 25 #[.agg #[.int .i64 t, .int .i64 l, .int .i64 b, .int .i64 r]] w fun e w' => e = .returned (.tuple #[.int .i64 (sizeV t l b r).1, .int .i64 (sizeV t l b r).2]) ∧ Below w.heap.size w w' := by
  go_enter Try.func25, Try.ntmps25
  go_wp2_with fail
  refine (may21 _ _ _ _ _).mono ?_
  rintro e w1 ⟨rfl, hb1⟩
  obtain ⟨c0, c1, c2, c3⟩ := cells4 (hb1.row (heap_alloc_new w _) (by simp))
  have HB := Lib.hid (one_below hb1)
  clear hb1
  cases ha : areaB t l b r
  · rw [areaE_no ha]
    have hs : sizeV t l b r = (0, 11) := by simp [sizeV, ha]
    clear ha
    go_wp2_with fail
    go_ret2
    exact ⟨ret_two (by rw [hs]) (by rw [hs]), HB.out⟩
  · rw [areaE_yes ha]
    obtain ⟨p1, p2⟩ := area_prod ha
    obtain ⟨h1, h2, h3, h4, h5, h6⟩ := areaB_bd ha
    by_cases hp : 4096 < (b - t + 1) * (r - l + 1)
    · have hs : Hid (sizeV t l b r = (0, 2)) := by simp [Hid, sizeV, ha, hp]
      clear ha
      go_wp2_with fail
      go_ret2
      exact ⟨ret_two (by rw [hs.out]) (by rw [hs.out]), HB.out⟩
    · have hs : Hid (sizeV t l b r = ((b - t + 1) * (r - l + 1), 0)) := by simp [Hid, sizeV, ha, hp]
      clear ha
      go_wp2_with fail
      go_ret2
      exact ⟨ret_two (by rw [hs.out]) (by rw [hs.out]), HB.out⟩

/-- How many places an area has. -/
def placesV (t l b r : Int) : Int := if areaB t l b r = true then (b - t + 1) * (r - l + 1) else 0

set_option maxHeartbeats 400000 in
theorem places10 (t l b r : Int) (w : World) :
    Calls Try.prog 10 #[.agg #[.int .i64 t, .int .i64 l, .int .i64 b, .int .i64 r]] w fun e w' => e = .returned (.int .i64 (placesV t l b r)) ∧ Below w.heap.size w w' := by
  go_enter Try.func10, Try.ntmps10
  go_wp2_with fail
  refine (may21 _ _ _ _ _).mono ?_
  rintro e w1 ⟨rfl, hb1⟩
  obtain ⟨c0, c1, c2, c3⟩ := cells4 (hb1.row (heap_alloc_new w _) (by simp))
  have HB := Lib.hid (one_below hb1)
  clear hb1
  cases ha : areaB t l b r
  · rw [areaE_no ha]
    have hs : Hid (placesV t l b r = 0) := by simp [Hid, placesV, ha]
    clear ha
    go_wp2_with fail
    go_ret
    exact ⟨ret_int (by rw [hs.out]), HB.out⟩
  · rw [areaE_yes ha]
    obtain ⟨p1, p2⟩ := area_prod ha
    obtain ⟨h1, h2, h3, h4, h5, h6⟩ := areaB_bd ha
    have hs : Hid (placesV t l b r = (b - t + 1) * (r - l + 1)) := by simp [Hid, placesV, ha]
    clear ha
    go_wp2_with fail
    go_ret
    exact ⟨ret_int (by rw [hs.out]), HB.out⟩

set_option maxHeartbeats 400000 in
theorem in18 (r c : Int) (w : World) :
    Calls Try.prog 18 #[.agg #[.int .i64 r, .int .i64 c]] w fun e w' => e = .returned (.bool (spotB r c)) ∧ Below w.heap.size w w' := by
  go_enter Try.func18, Try.ntmps18
  go_wp2
  all_goals go_ret
  all_goals refine ⟨ret_bool ?_, (Below.refl _ _).alloc (Nat.le_refl _) _⟩
  all_goals (unfold spotB; simp_all <;> omega)

/-- Is an area that is moved off the grid, or moved too far? -/
def farB (dr dc : Int) : Bool := decide (dr < -65536 ∨ 65536 < dr ∨ dc < -702 ∨ 702 < dc)
/-- Move's answer. -/
def moveV (t l b r dr dc : Int) : (Int × Int × Int × Int) × Int :=
  if areaB t l b r = true then (if farB dr dc = true then ((0, 0, 0, 0), 10) else if areaB (t + dr) (l + dc) (b + dr) (r + dc) = true then ((t + dr, l + dc, b + dr, r + dc), 0) else ((0, 0, 0, 0), 10)) else ((0, 0, 0, 0), 11)

theorem row2a (w : World) (o o' : Obj) : ((w.alloc o).alloc o').heap[w.heap.size]? = some o := row_old w o o'

set_option maxHeartbeats 800000 in
theorem move12_no1 (t l b r dr dc : Int) (w : World) (h : areaB t l b r = false) :
    Calls Try.prog 12 #[.agg #[.int .i64 t, .int .i64 l, .int .i64 b, .int .i64 r], .int .i64 dr, .int .i64 dc] w
      fun e w' => e = .returned (.tuple #[.agg #[.int .i64 0, .int .i64 0, .int .i64 0, .int .i64 0], .int .i64 11]) ∧ Below w.heap.size w w' := by
  go_enter Try.func12, Try.ntmps12
  go_wp2_with fail
  refine (may13 _ _ _ _ _).mono ?_
  rintro e w1 ⟨rfl, hb1⟩
  obtain ⟨c0, c1, c2, c3⟩ := cells4 (hb1.row (row_old w _ _) (by simp <;> omega))
  have q := hb1.row (row_new w _ _) (by simp <;> omega)
  obtain ⟨q0, q1, q2, q3⟩ := cells4 q
  have f0 := row_froz q 0
  have f1 := row_froz q 1
  have f2 := row_froz q 2
  have f3 := row_froz q 3
  have HB1 := Lib.hid hb1
  have HB := Lib.hid (two_below hb1)
  have hz : w.heap.size + 1 < w1.heap.size := by have := hb1.size; simp at *; omega
  rw [areaE_no h]
  clear hb1 q h
  go_wp2_with fail
  exact bodyPost_ret (v := .tuple #[.agg #[.int .i64 0, .int .i64 0, .int .i64 0, .int .i64 0], .int .i64 11]) (by simp [results, Try.results12, go_sem, q0, q1, q2, q3, f0, f1, f2, f3, hz]) rfl ⟨rfl, by repeat (first | exact HB.out | refine Below.setCell ?_ (by simp <;> omega) _ | refine Below.alloc ?_ (by simp [World.setCell] <;> omega) _)⟩

set_option maxHeartbeats 800000 in
theorem move12_far0 (t l b r dr dc : Int) (w : World) (h : areaB t l b r = true) (h2 : dr < -65536) :
    Calls Try.prog 12 #[.agg #[.int .i64 t, .int .i64 l, .int .i64 b, .int .i64 r], .int .i64 dr, .int .i64 dc] w
      fun e w' => e = .returned (.tuple #[.agg #[.int .i64 0, .int .i64 0, .int .i64 0, .int .i64 0], .int .i64 10]) ∧ Below w.heap.size w w' := by
  go_enter Try.func12, Try.ntmps12
  go_wp2_with fail
  refine (may13 _ _ _ _ _).mono ?_
  rintro e w1 ⟨rfl, hb1⟩
  obtain ⟨c0, c1, c2, c3⟩ := cells4 (hb1.row (row_old w _ _) (by simp <;> omega))
  have q := hb1.row (row_new w _ _) (by simp <;> omega)
  obtain ⟨q0, q1, q2, q3⟩ := cells4 q
  have f0 := row_froz q 0
  have f1 := row_froz q 1
  have f2 := row_froz q 2
  have f3 := row_froz q 3
  have HB1 := Lib.hid hb1
  have HB := Lib.hid (two_below hb1)
  have hz : w.heap.size + 1 < w1.heap.size := by have := hb1.size; simp at *; omega
  rw [areaE_yes h]
  clear hb1 q h
  go_wp2_with fail
  exact bodyPost_ret (v := .tuple #[.agg #[.int .i64 0, .int .i64 0, .int .i64 0, .int .i64 0], .int .i64 10]) (by simp [results, Try.results12, go_sem, q0, q1, q2, q3, f0, f1, f2, f3, hz]) rfl ⟨rfl, by repeat (first | exact HB.out | refine Below.setCell ?_ (by simp <;> omega) _ | refine Below.alloc ?_ (by simp [World.setCell] <;> omega) _)⟩

set_option maxHeartbeats 800000 in
theorem move12_far1 (t l b r dr dc : Int) (w : World) (h : areaB t l b r = true) (h2 : ¬ dr < -65536) (h3 : 65536 < dr) :
    Calls Try.prog 12 #[.agg #[.int .i64 t, .int .i64 l, .int .i64 b, .int .i64 r], .int .i64 dr, .int .i64 dc] w
      fun e w' => e = .returned (.tuple #[.agg #[.int .i64 0, .int .i64 0, .int .i64 0, .int .i64 0], .int .i64 10]) ∧ Below w.heap.size w w' := by
  go_enter Try.func12, Try.ntmps12
  go_wp2_with fail
  refine (may13 _ _ _ _ _).mono ?_
  rintro e w1 ⟨rfl, hb1⟩
  obtain ⟨c0, c1, c2, c3⟩ := cells4 (hb1.row (row_old w _ _) (by simp <;> omega))
  have q := hb1.row (row_new w _ _) (by simp <;> omega)
  obtain ⟨q0, q1, q2, q3⟩ := cells4 q
  have f0 := row_froz q 0
  have f1 := row_froz q 1
  have f2 := row_froz q 2
  have f3 := row_froz q 3
  have HB1 := Lib.hid hb1
  have HB := Lib.hid (two_below hb1)
  have hz : w.heap.size + 1 < w1.heap.size := by have := hb1.size; simp at *; omega
  rw [areaE_yes h]
  clear hb1 q h
  go_wp2_with fail
  exact bodyPost_ret (v := .tuple #[.agg #[.int .i64 0, .int .i64 0, .int .i64 0, .int .i64 0], .int .i64 10]) (by simp [results, Try.results12, go_sem, q0, q1, q2, q3, f0, f1, f2, f3, hz]) rfl ⟨rfl, by repeat (first | exact HB.out | refine Below.setCell ?_ (by simp <;> omega) _ | refine Below.alloc ?_ (by simp [World.setCell] <;> omega) _)⟩

set_option maxHeartbeats 800000 in
theorem move12_far2 (t l b r dr dc : Int) (w : World) (h : areaB t l b r = true) (h2 : ¬ dr < -65536) (h3 : ¬ 65536 < dr) (h4 : dc < -702) :
    Calls Try.prog 12 #[.agg #[.int .i64 t, .int .i64 l, .int .i64 b, .int .i64 r], .int .i64 dr, .int .i64 dc] w
      fun e w' => e = .returned (.tuple #[.agg #[.int .i64 0, .int .i64 0, .int .i64 0, .int .i64 0], .int .i64 10]) ∧ Below w.heap.size w w' := by
  go_enter Try.func12, Try.ntmps12
  go_wp2_with fail
  refine (may13 _ _ _ _ _).mono ?_
  rintro e w1 ⟨rfl, hb1⟩
  obtain ⟨c0, c1, c2, c3⟩ := cells4 (hb1.row (row_old w _ _) (by simp <;> omega))
  have q := hb1.row (row_new w _ _) (by simp <;> omega)
  obtain ⟨q0, q1, q2, q3⟩ := cells4 q
  have f0 := row_froz q 0
  have f1 := row_froz q 1
  have f2 := row_froz q 2
  have f3 := row_froz q 3
  have HB1 := Lib.hid hb1
  have HB := Lib.hid (two_below hb1)
  have hz : w.heap.size + 1 < w1.heap.size := by have := hb1.size; simp at *; omega
  rw [areaE_yes h]
  clear hb1 q h
  go_wp2_with fail
  exact bodyPost_ret (v := .tuple #[.agg #[.int .i64 0, .int .i64 0, .int .i64 0, .int .i64 0], .int .i64 10]) (by simp [results, Try.results12, go_sem, q0, q1, q2, q3, f0, f1, f2, f3, hz]) rfl ⟨rfl, by repeat (first | exact HB.out | refine Below.setCell ?_ (by simp <;> omega) _ | refine Below.alloc ?_ (by simp [World.setCell] <;> omega) _)⟩

set_option maxHeartbeats 800000 in
theorem move12_far3 (t l b r dr dc : Int) (w : World) (h : areaB t l b r = true) (h2 : ¬ dr < -65536) (h3 : ¬ 65536 < dr) (h4 : ¬ dc < -702) (h5 : 702 < dc) :
    Calls Try.prog 12 #[.agg #[.int .i64 t, .int .i64 l, .int .i64 b, .int .i64 r], .int .i64 dr, .int .i64 dc] w
      fun e w' => e = .returned (.tuple #[.agg #[.int .i64 0, .int .i64 0, .int .i64 0, .int .i64 0], .int .i64 10]) ∧ Below w.heap.size w w' := by
  go_enter Try.func12, Try.ntmps12
  go_wp2_with fail
  refine (may13 _ _ _ _ _).mono ?_
  rintro e w1 ⟨rfl, hb1⟩
  obtain ⟨c0, c1, c2, c3⟩ := cells4 (hb1.row (row_old w _ _) (by simp <;> omega))
  have q := hb1.row (row_new w _ _) (by simp <;> omega)
  obtain ⟨q0, q1, q2, q3⟩ := cells4 q
  have f0 := row_froz q 0
  have f1 := row_froz q 1
  have f2 := row_froz q 2
  have f3 := row_froz q 3
  have HB1 := Lib.hid hb1
  have HB := Lib.hid (two_below hb1)
  have hz : w.heap.size + 1 < w1.heap.size := by have := hb1.size; simp at *; omega
  rw [areaE_yes h]
  clear hb1 q h
  go_wp2_with fail
  exact bodyPost_ret (v := .tuple #[.agg #[.int .i64 0, .int .i64 0, .int .i64 0, .int .i64 0], .int .i64 10]) (by simp [results, Try.results12, go_sem, q0, q1, q2, q3, f0, f1, f2, f3, hz]) rfl ⟨rfl, by repeat (first | exact HB.out | refine Below.setCell ?_ (by simp <;> omega) _ | refine Below.alloc ?_ (by simp [World.setCell] <;> omega) _)⟩

set_option maxHeartbeats 800000 in
theorem move12_off (t l b r dr dc : Int) (w : World) (h : areaB t l b r = true) (h2 : ¬ dr < -65536) (h3 : ¬ 65536 < dr) (h4 : ¬ dc < -702) (h5 : ¬ 702 < dc) (h' : areaB (t + dr) (l + dc) (b + dr) (r + dc) = false) :
    Calls Try.prog 12 #[.agg #[.int .i64 t, .int .i64 l, .int .i64 b, .int .i64 r], .int .i64 dr, .int .i64 dc] w
      fun e w' => e = .returned (.tuple #[.agg #[.int .i64 0, .int .i64 0, .int .i64 0, .int .i64 0], .int .i64 10]) ∧ Below w.heap.size w w' := by
  go_enter Try.func12, Try.ntmps12
  go_wp2_with fail
  refine (may13 _ _ _ _ _).mono ?_
  rintro e w1 ⟨rfl, hb1⟩
  obtain ⟨c0, c1, c2, c3⟩ := cells4 (hb1.row (row_old w _ _) (by simp <;> omega))
  have q := hb1.row (row_new w _ _) (by simp <;> omega)
  obtain ⟨q0, q1, q2, q3⟩ := cells4 q
  have f0 := row_froz q 0
  have f1 := row_froz q 1
  have f2 := row_froz q 2
  have f3 := row_froz q 3
  have HB1 := Lib.hid hb1
  have HB := Lib.hid (two_below hb1)
  have hz : w.heap.size + 1 < w1.heap.size := by have := hb1.size; simp at *; omega
  rw [areaE_yes h]
  obtain ⟨b1, b2, b3, b4, b5, b6⟩ := areaB_bd h
  clear hb1 q h
  go_wp2_with fail
  refine (may13 _ _ _ _ _).mono ?_
  rintro e w2 ⟨rfl, hb2⟩
  rw [areaE_no h']
  obtain ⟨d0, d1, d2, d3⟩ := cells4 (hb2.row (heap_alloc_new _ _) (by simp))
  replace hb2 := one_below hb2
  have q := (HB1.out.trans (hb2.mono HB1.out.size)).row (row_new w _ _) (by simp <;> omega)
  obtain ⟨q0, q1, q2, q3⟩ := cells4 q
  have f0 := row_froz q 0
  have f1 := row_froz q 1
  have f2 := row_froz q 2
  have f3 := row_froz q 3
  replace HB := Lib.hid (HB.out.trans (hb2.mono HB.out.size))
  replace hz : w.heap.size + 1 < w2.heap.size := Nat.lt_of_lt_of_le hz hb2.size
  clear hb2 q h' HB1
  go_wp2_with fail
  exact bodyPost_ret (v := .tuple #[.agg #[.int .i64 0, .int .i64 0, .int .i64 0, .int .i64 0], .int .i64 10]) (by simp [results, Try.results12, go_sem, q0, q1, q2, q3, f0, f1, f2, f3, hz]) rfl ⟨rfl, by repeat (first | exact HB.out | refine Below.setCell ?_ (by simp <;> omega) _ | refine Below.alloc ?_ (by simp [World.setCell] <;> omega) _)⟩

set_option maxHeartbeats 800000 in
theorem move12_yes (t l b r dr dc : Int) (w : World) (h : areaB t l b r = true) (h2 : ¬ dr < -65536) (h3 : ¬ 65536 < dr) (h4 : ¬ dc < -702) (h5 : ¬ 702 < dc) (h' : areaB (t + dr) (l + dc) (b + dr) (r + dc) = true) :
    Calls Try.prog 12 #[.agg #[.int .i64 t, .int .i64 l, .int .i64 b, .int .i64 r], .int .i64 dr, .int .i64 dc] w
      fun e w' => e = .returned (.tuple #[.agg #[.int .i64 (t + dr), .int .i64 (l + dc), .int .i64 (b + dr), .int .i64 (r + dc)], .int .i64 0]) ∧ Below w.heap.size w w' := by
  go_enter Try.func12, Try.ntmps12
  go_wp2_with fail
  refine (may13 _ _ _ _ _).mono ?_
  rintro e w1 ⟨rfl, hb1⟩
  obtain ⟨c0, c1, c2, c3⟩ := cells4 (hb1.row (row_old w _ _) (by simp <;> omega))
  have q := hb1.row (row_new w _ _) (by simp <;> omega)
  obtain ⟨q0, q1, q2, q3⟩ := cells4 q
  have f0 := row_froz q 0
  have f1 := row_froz q 1
  have f2 := row_froz q 2
  have f3 := row_froz q 3
  have HB1 := Lib.hid hb1
  have HB := Lib.hid (two_below hb1)
  have hz : w.heap.size + 1 < w1.heap.size := by have := hb1.size; simp at *; omega
  rw [areaE_yes h]
  obtain ⟨b1, b2, b3, b4, b5, b6⟩ := areaB_bd h
  clear hb1 q h
  go_wp2_with fail
  refine (may13 _ _ _ _ _).mono ?_
  rintro e w2 ⟨rfl, hb2⟩
  rw [areaE_yes h']
  obtain ⟨d0, d1, d2, d3⟩ := cells4 (hb2.row (heap_alloc_new _ _) (by simp))
  replace hb2 := one_below hb2
  have q := (HB1.out.trans (hb2.mono HB1.out.size)).row (row_new w _ _) (by simp <;> omega)
  obtain ⟨q0, q1, q2, q3⟩ := cells4 q
  have f0 := row_froz q 0
  have f1 := row_froz q 1
  have f2 := row_froz q 2
  have f3 := row_froz q 3
  replace HB := Lib.hid (HB.out.trans (hb2.mono HB.out.size))
  replace hz : w.heap.size + 1 < w2.heap.size := Nat.lt_of_lt_of_le hz hb2.size
  clear hb2 q h' HB1
  go_wp2_with fail
  exact bodyPost_ret (v := .tuple #[.agg #[.int .i64 (t + dr), .int .i64 (l + dc), .int .i64 (b + dr), .int .i64 (r + dc)], .int .i64 0]) (by simp [results, Try.results12, go_sem, q0, q1, q2, q3, f0, f1, f2, f3, hz]) rfl ⟨rfl, by repeat (first | exact HB.out | refine Below.setCell ?_ (by simp <;> omega) _ | refine Below.alloc ?_ (by simp [World.setCell] <;> omega) _)⟩

theorem move12 (t l b r dr dc : Int) (w : World) :
    Calls Try.prog 12 #[.agg #[.int .i64 t, .int .i64 l, .int .i64 b, .int .i64 r], .int .i64 dr, .int .i64 dc] w
      fun e w' => e = .returned (.tuple #[.agg #[.int .i64 (moveV t l b r dr dc).1.1, .int .i64 (moveV t l b r dr dc).1.2.1, .int .i64 (moveV t l b r dr dc).1.2.2.1, .int .i64 (moveV t l b r dr dc).1.2.2.2], .int .i64 (moveV t l b r dr dc).2]) ∧ Below w.heap.size w w' := by
  unfold moveV
  cases h : areaB t l b r
  · exact move12_no1 t l b r dr dc w h
  · by_cases h2 : dr < -65536
    · rw [if_pos rfl, if_pos (by simp [farB]; omega)]
      exact move12_far0 t l b r dr dc w h h2
    · by_cases h3 : 65536 < dr
      · rw [if_pos rfl, if_pos (by simp [farB]; omega)]
        exact move12_far1 t l b r dr dc w h h2 h3
      · by_cases h4 : dc < -702
        · rw [if_pos rfl, if_pos (by simp [farB]; omega)]
          exact move12_far2 t l b r dr dc w h h2 h3 h4
        · by_cases h5 : 702 < dc
          · rw [if_pos rfl, if_pos (by simp [farB]; omega)]
            exact move12_far3 t l b r dr dc w h h2 h3 h4 h5
          · rw [if_pos rfl, if_neg (by simp [farB]; omega)]
            cases h' : areaB (t + dr) (l + dc) (b + dr) (r + dc)
            · exact move12_off t l b r dr dc w h h2 h3 h4 h5 h'
            · exact move12_yes t l b r dr dc w h h2 h3 h4 h5 h'

set_option maxHeartbeats 800000 in
theorem move29_no1 (t l b r dr dc : Int) (w : World) (h : areaB t l b r = false) :
    Calls Try.prog 29 #[.agg #[.int .i64 t, .int .i64 l, .int .i64 b, .int .i64 r], .int .i64 dr, .int .i64 dc] w
      fun e w' => e = .returned (.tuple #[.agg #[.int .i64 0, .int .i64 0, .int .i64 0, .int .i64 0], .int .i64 11]) ∧ Below w.heap.size w w' := by
  go_enter Try.func29, Try.ntmps29
  go_wp2_with fail
  refine (may21 _ _ _ _ _).mono ?_
  rintro e w1 ⟨rfl, hb1⟩
  obtain ⟨c0, c1, c2, c3⟩ := cells4 (hb1.row (row_old w _ _) (by simp <;> omega))
  have q := hb1.row (row_new w _ _) (by simp <;> omega)
  obtain ⟨q0, q1, q2, q3⟩ := cells4 q
  have f0 := row_froz q 0
  have f1 := row_froz q 1
  have f2 := row_froz q 2
  have f3 := row_froz q 3
  have HB1 := Lib.hid hb1
  have HB := Lib.hid (two_below hb1)
  have hz : w.heap.size + 1 < w1.heap.size := by have := hb1.size; simp at *; omega
  rw [areaE_no h]
  clear hb1 q h
  go_wp2_with fail
  exact bodyPost_ret (v := .tuple #[.agg #[.int .i64 0, .int .i64 0, .int .i64 0, .int .i64 0], .int .i64 11]) (by simp [results, Try.results29, go_sem, q0, q1, q2, q3, f0, f1, f2, f3, hz]) rfl ⟨rfl, by repeat (first | exact HB.out | refine Below.setCell ?_ (by simp <;> omega) _ | refine Below.alloc ?_ (by simp [World.setCell] <;> omega) _)⟩

set_option maxHeartbeats 800000 in
theorem move29_far0 (t l b r dr dc : Int) (w : World) (h : areaB t l b r = true) (h2 : dr < -65536) :
    Calls Try.prog 29 #[.agg #[.int .i64 t, .int .i64 l, .int .i64 b, .int .i64 r], .int .i64 dr, .int .i64 dc] w
      fun e w' => e = .returned (.tuple #[.agg #[.int .i64 0, .int .i64 0, .int .i64 0, .int .i64 0], .int .i64 10]) ∧ Below w.heap.size w w' := by
  go_enter Try.func29, Try.ntmps29
  go_wp2_with fail
  refine (may21 _ _ _ _ _).mono ?_
  rintro e w1 ⟨rfl, hb1⟩
  obtain ⟨c0, c1, c2, c3⟩ := cells4 (hb1.row (row_old w _ _) (by simp <;> omega))
  have q := hb1.row (row_new w _ _) (by simp <;> omega)
  obtain ⟨q0, q1, q2, q3⟩ := cells4 q
  have f0 := row_froz q 0
  have f1 := row_froz q 1
  have f2 := row_froz q 2
  have f3 := row_froz q 3
  have HB1 := Lib.hid hb1
  have HB := Lib.hid (two_below hb1)
  have hz : w.heap.size + 1 < w1.heap.size := by have := hb1.size; simp at *; omega
  rw [areaE_yes h]
  clear hb1 q h
  go_wp2_with fail
  exact bodyPost_ret (v := .tuple #[.agg #[.int .i64 0, .int .i64 0, .int .i64 0, .int .i64 0], .int .i64 10]) (by simp [results, Try.results29, go_sem, q0, q1, q2, q3, f0, f1, f2, f3, hz]) rfl ⟨rfl, by repeat (first | exact HB.out | refine Below.setCell ?_ (by simp <;> omega) _ | refine Below.alloc ?_ (by simp [World.setCell] <;> omega) _)⟩

set_option maxHeartbeats 800000 in
theorem move29_far1 (t l b r dr dc : Int) (w : World) (h : areaB t l b r = true) (h2 : ¬ dr < -65536) (h3 : 65536 < dr) :
    Calls Try.prog 29 #[.agg #[.int .i64 t, .int .i64 l, .int .i64 b, .int .i64 r], .int .i64 dr, .int .i64 dc] w
      fun e w' => e = .returned (.tuple #[.agg #[.int .i64 0, .int .i64 0, .int .i64 0, .int .i64 0], .int .i64 10]) ∧ Below w.heap.size w w' := by
  go_enter Try.func29, Try.ntmps29
  go_wp2_with fail
  refine (may21 _ _ _ _ _).mono ?_
  rintro e w1 ⟨rfl, hb1⟩
  obtain ⟨c0, c1, c2, c3⟩ := cells4 (hb1.row (row_old w _ _) (by simp <;> omega))
  have q := hb1.row (row_new w _ _) (by simp <;> omega)
  obtain ⟨q0, q1, q2, q3⟩ := cells4 q
  have f0 := row_froz q 0
  have f1 := row_froz q 1
  have f2 := row_froz q 2
  have f3 := row_froz q 3
  have HB1 := Lib.hid hb1
  have HB := Lib.hid (two_below hb1)
  have hz : w.heap.size + 1 < w1.heap.size := by have := hb1.size; simp at *; omega
  rw [areaE_yes h]
  clear hb1 q h
  go_wp2_with fail
  exact bodyPost_ret (v := .tuple #[.agg #[.int .i64 0, .int .i64 0, .int .i64 0, .int .i64 0], .int .i64 10]) (by simp [results, Try.results29, go_sem, q0, q1, q2, q3, f0, f1, f2, f3, hz]) rfl ⟨rfl, by repeat (first | exact HB.out | refine Below.setCell ?_ (by simp <;> omega) _ | refine Below.alloc ?_ (by simp [World.setCell] <;> omega) _)⟩

set_option maxHeartbeats 800000 in
theorem move29_far2 (t l b r dr dc : Int) (w : World) (h : areaB t l b r = true) (h2 : ¬ dr < -65536) (h3 : ¬ 65536 < dr) (h4 : dc < -702) :
    Calls Try.prog 29 #[.agg #[.int .i64 t, .int .i64 l, .int .i64 b, .int .i64 r], .int .i64 dr, .int .i64 dc] w
      fun e w' => e = .returned (.tuple #[.agg #[.int .i64 0, .int .i64 0, .int .i64 0, .int .i64 0], .int .i64 10]) ∧ Below w.heap.size w w' := by
  go_enter Try.func29, Try.ntmps29
  go_wp2_with fail
  refine (may21 _ _ _ _ _).mono ?_
  rintro e w1 ⟨rfl, hb1⟩
  obtain ⟨c0, c1, c2, c3⟩ := cells4 (hb1.row (row_old w _ _) (by simp <;> omega))
  have q := hb1.row (row_new w _ _) (by simp <;> omega)
  obtain ⟨q0, q1, q2, q3⟩ := cells4 q
  have f0 := row_froz q 0
  have f1 := row_froz q 1
  have f2 := row_froz q 2
  have f3 := row_froz q 3
  have HB1 := Lib.hid hb1
  have HB := Lib.hid (two_below hb1)
  have hz : w.heap.size + 1 < w1.heap.size := by have := hb1.size; simp at *; omega
  rw [areaE_yes h]
  clear hb1 q h
  go_wp2_with fail
  exact bodyPost_ret (v := .tuple #[.agg #[.int .i64 0, .int .i64 0, .int .i64 0, .int .i64 0], .int .i64 10]) (by simp [results, Try.results29, go_sem, q0, q1, q2, q3, f0, f1, f2, f3, hz]) rfl ⟨rfl, by repeat (first | exact HB.out | refine Below.setCell ?_ (by simp <;> omega) _ | refine Below.alloc ?_ (by simp [World.setCell] <;> omega) _)⟩

set_option maxHeartbeats 800000 in
theorem move29_far3 (t l b r dr dc : Int) (w : World) (h : areaB t l b r = true) (h2 : ¬ dr < -65536) (h3 : ¬ 65536 < dr) (h4 : ¬ dc < -702) (h5 : 702 < dc) :
    Calls Try.prog 29 #[.agg #[.int .i64 t, .int .i64 l, .int .i64 b, .int .i64 r], .int .i64 dr, .int .i64 dc] w
      fun e w' => e = .returned (.tuple #[.agg #[.int .i64 0, .int .i64 0, .int .i64 0, .int .i64 0], .int .i64 10]) ∧ Below w.heap.size w w' := by
  go_enter Try.func29, Try.ntmps29
  go_wp2_with fail
  refine (may21 _ _ _ _ _).mono ?_
  rintro e w1 ⟨rfl, hb1⟩
  obtain ⟨c0, c1, c2, c3⟩ := cells4 (hb1.row (row_old w _ _) (by simp <;> omega))
  have q := hb1.row (row_new w _ _) (by simp <;> omega)
  obtain ⟨q0, q1, q2, q3⟩ := cells4 q
  have f0 := row_froz q 0
  have f1 := row_froz q 1
  have f2 := row_froz q 2
  have f3 := row_froz q 3
  have HB1 := Lib.hid hb1
  have HB := Lib.hid (two_below hb1)
  have hz : w.heap.size + 1 < w1.heap.size := by have := hb1.size; simp at *; omega
  rw [areaE_yes h]
  clear hb1 q h
  go_wp2_with fail
  exact bodyPost_ret (v := .tuple #[.agg #[.int .i64 0, .int .i64 0, .int .i64 0, .int .i64 0], .int .i64 10]) (by simp [results, Try.results29, go_sem, q0, q1, q2, q3, f0, f1, f2, f3, hz]) rfl ⟨rfl, by repeat (first | exact HB.out | refine Below.setCell ?_ (by simp <;> omega) _ | refine Below.alloc ?_ (by simp [World.setCell] <;> omega) _)⟩

set_option maxHeartbeats 800000 in
theorem move29_off (t l b r dr dc : Int) (w : World) (h : areaB t l b r = true) (h2 : ¬ dr < -65536) (h3 : ¬ 65536 < dr) (h4 : ¬ dc < -702) (h5 : ¬ 702 < dc) (h' : areaB (t + dr) (l + dc) (b + dr) (r + dc) = false) :
    Calls Try.prog 29 #[.agg #[.int .i64 t, .int .i64 l, .int .i64 b, .int .i64 r], .int .i64 dr, .int .i64 dc] w
      fun e w' => e = .returned (.tuple #[.agg #[.int .i64 0, .int .i64 0, .int .i64 0, .int .i64 0], .int .i64 10]) ∧ Below w.heap.size w w' := by
  go_enter Try.func29, Try.ntmps29
  go_wp2_with fail
  refine (may21 _ _ _ _ _).mono ?_
  rintro e w1 ⟨rfl, hb1⟩
  obtain ⟨c0, c1, c2, c3⟩ := cells4 (hb1.row (row_old w _ _) (by simp <;> omega))
  have q := hb1.row (row_new w _ _) (by simp <;> omega)
  obtain ⟨q0, q1, q2, q3⟩ := cells4 q
  have f0 := row_froz q 0
  have f1 := row_froz q 1
  have f2 := row_froz q 2
  have f3 := row_froz q 3
  have HB1 := Lib.hid hb1
  have HB := Lib.hid (two_below hb1)
  have hz : w.heap.size + 1 < w1.heap.size := by have := hb1.size; simp at *; omega
  rw [areaE_yes h]
  obtain ⟨b1, b2, b3, b4, b5, b6⟩ := areaB_bd h
  clear hb1 q h
  go_wp2_with fail
  refine (may21 _ _ _ _ _).mono ?_
  rintro e w2 ⟨rfl, hb2⟩
  rw [areaE_no h']
  obtain ⟨d0, d1, d2, d3⟩ := cells4 (hb2.row (heap_alloc_new _ _) (by simp))
  replace hb2 := one_below hb2
  have q := (HB1.out.trans (hb2.mono HB1.out.size)).row (row_new w _ _) (by simp <;> omega)
  obtain ⟨q0, q1, q2, q3⟩ := cells4 q
  have f0 := row_froz q 0
  have f1 := row_froz q 1
  have f2 := row_froz q 2
  have f3 := row_froz q 3
  replace HB := Lib.hid (HB.out.trans (hb2.mono HB.out.size))
  replace hz : w.heap.size + 1 < w2.heap.size := Nat.lt_of_lt_of_le hz hb2.size
  clear hb2 q h' HB1
  go_wp2_with fail
  exact bodyPost_ret (v := .tuple #[.agg #[.int .i64 0, .int .i64 0, .int .i64 0, .int .i64 0], .int .i64 10]) (by simp [results, Try.results29, go_sem, q0, q1, q2, q3, f0, f1, f2, f3, hz]) rfl ⟨rfl, by repeat (first | exact HB.out | refine Below.setCell ?_ (by simp <;> omega) _ | refine Below.alloc ?_ (by simp [World.setCell] <;> omega) _)⟩

set_option maxHeartbeats 800000 in
theorem move29_yes (t l b r dr dc : Int) (w : World) (h : areaB t l b r = true) (h2 : ¬ dr < -65536) (h3 : ¬ 65536 < dr) (h4 : ¬ dc < -702) (h5 : ¬ 702 < dc) (h' : areaB (t + dr) (l + dc) (b + dr) (r + dc) = true) :
    Calls Try.prog 29 #[.agg #[.int .i64 t, .int .i64 l, .int .i64 b, .int .i64 r], .int .i64 dr, .int .i64 dc] w
      fun e w' => e = .returned (.tuple #[.agg #[.int .i64 (t + dr), .int .i64 (l + dc), .int .i64 (b + dr), .int .i64 (r + dc)], .int .i64 0]) ∧ Below w.heap.size w w' := by
  go_enter Try.func29, Try.ntmps29
  go_wp2_with fail
  refine (may21 _ _ _ _ _).mono ?_
  rintro e w1 ⟨rfl, hb1⟩
  obtain ⟨c0, c1, c2, c3⟩ := cells4 (hb1.row (row_old w _ _) (by simp <;> omega))
  have q := hb1.row (row_new w _ _) (by simp <;> omega)
  obtain ⟨q0, q1, q2, q3⟩ := cells4 q
  have f0 := row_froz q 0
  have f1 := row_froz q 1
  have f2 := row_froz q 2
  have f3 := row_froz q 3
  have HB1 := Lib.hid hb1
  have HB := Lib.hid (two_below hb1)
  have hz : w.heap.size + 1 < w1.heap.size := by have := hb1.size; simp at *; omega
  rw [areaE_yes h]
  obtain ⟨b1, b2, b3, b4, b5, b6⟩ := areaB_bd h
  clear hb1 q h
  go_wp2_with fail
  refine (may21 _ _ _ _ _).mono ?_
  rintro e w2 ⟨rfl, hb2⟩
  rw [areaE_yes h']
  obtain ⟨d0, d1, d2, d3⟩ := cells4 (hb2.row (heap_alloc_new _ _) (by simp))
  replace hb2 := one_below hb2
  have q := (HB1.out.trans (hb2.mono HB1.out.size)).row (row_new w _ _) (by simp <;> omega)
  obtain ⟨q0, q1, q2, q3⟩ := cells4 q
  have f0 := row_froz q 0
  have f1 := row_froz q 1
  have f2 := row_froz q 2
  have f3 := row_froz q 3
  replace HB := Lib.hid (HB.out.trans (hb2.mono HB.out.size))
  replace hz : w.heap.size + 1 < w2.heap.size := Nat.lt_of_lt_of_le hz hb2.size
  clear hb2 q h' HB1
  go_wp2_with fail
  exact bodyPost_ret (v := .tuple #[.agg #[.int .i64 (t + dr), .int .i64 (l + dc), .int .i64 (b + dr), .int .i64 (r + dc)], .int .i64 0]) (by simp [results, Try.results29, go_sem, q0, q1, q2, q3, f0, f1, f2, f3, hz]) rfl ⟨rfl, by repeat (first | exact HB.out | refine Below.setCell ?_ (by simp <;> omega) _ | refine Below.alloc ?_ (by simp [World.setCell] <;> omega) _)⟩

theorem move29 (t l b r dr dc : Int) (w : World) :
    Calls Try.prog 29 #[.agg #[.int .i64 t, .int .i64 l, .int .i64 b, .int .i64 r], .int .i64 dr, .int .i64 dc] w
      fun e w' => e = .returned (.tuple #[.agg #[.int .i64 (moveV t l b r dr dc).1.1, .int .i64 (moveV t l b r dr dc).1.2.1, .int .i64 (moveV t l b r dr dc).1.2.2.1, .int .i64 (moveV t l b r dr dc).1.2.2.2], .int .i64 (moveV t l b r dr dc).2]) ∧ Below w.heap.size w w' := by
  unfold moveV
  cases h : areaB t l b r
  · exact move29_no1 t l b r dr dc w h
  · by_cases h2 : dr < -65536
    · rw [if_pos rfl, if_pos (by simp [farB]; omega)]
      exact move29_far0 t l b r dr dc w h h2
    · by_cases h3 : 65536 < dr
      · rw [if_pos rfl, if_pos (by simp [farB]; omega)]
        exact move29_far1 t l b r dr dc w h h2 h3
      · by_cases h4 : dc < -702
        · rw [if_pos rfl, if_pos (by simp [farB]; omega)]
          exact move29_far2 t l b r dr dc w h h2 h3 h4
        · by_cases h5 : 702 < dc
          · rw [if_pos rfl, if_pos (by simp [farB]; omega)]
            exact move29_far3 t l b r dr dc w h h2 h3 h4 h5
          · rw [if_pos rfl, if_neg (by simp [farB]; omega)]
            cases h' : areaB (t + dr) (l + dc) (b + dr) (r + dc)
            · exact move29_off t l b r dr dc w h h2 h3 h4 h5 h'
            · exact move29_yes t l b r dr dc w h h2 h3 h4 h5 h'

end Go.Proofs.Ythcogckkeegokaa
