/- Size, Meet and Move of package area and of quadrilleref3: what each answers. -/
import Derived.Test.YthcogckkeegokaaMay
namespace Go.Proofs.Ythcogckkeegokaa
set_option linter.unusedVariables false
set_option linter.unusedSimpArgs false
open Go.RowKit

theorem row3a (w : World) (o o' o'' : Obj) : (((w.alloc o).alloc o').alloc o'').heap[w.heap.size]? = some o := (heap_alloc_old _ _ (by simp <;> omega)).trans (row_old w o o')
theorem row3b (w : World) (o o' o'' : Obj) : (((w.alloc o).alloc o').alloc o'').heap[w.heap.size + 1]? = some o' := (heap_alloc_old _ _ (by simp)).trans (row_new w o o')
theorem row3c (w : World) (o o' o'' : Obj) : (((w.alloc o).alloc o').alloc o'').heap[w.heap.size + 1 + 1]? = some o'' := by
  have := row_new (w.alloc o) o' o''
  simpa using this
theorem three_below {w w1 : World} {o o' o'' : Obj} (h : Below (((w.alloc o).alloc o').alloc o'').heap.size (((w.alloc o).alloc o').alloc o'') w1) : Below w.heap.size w w1 :=
  ((((Below.refl _ _).alloc (Nat.le_refl _) _).alloc (by simp) _).alloc (by simp <;> omega) _).trans (h.mono (by simp <;> omega))
theorem areaE_yes {t l b r : Int} (h : areaB t l b r = true) : areaE t l b r = 0 := by simp [areaE, h]
theorem areaE_no {t l b r : Int} (h : areaB t l b r = false) : areaE t l b r = 11 := by simp [areaE, h]
theorem row_froz {w : World} {g : Nat} {cs : Array Value} {t : TypeId} (h : w.heap[g]? = some (.cells cs t (0, 0))) (j : Nat) : w.frozen? ⟨g, j, none⟩ = false := by simp [World.frozen?, h]

/-- Have two areas a place in common? -/
def meetB (t l b r t' l' b' r' : Int) : Bool := areaB t l b r && areaB t' l' b' r' && decide (max t t' ≤ min b b') && decide (max l l' ≤ min r r')
def zeroAr : Value := .agg #[.int .i64 0, .int .i64 0, .int .i64 0, .int .i64 0]

set_option maxHeartbeats 800000 in
theorem meet14_no1 (t l b r t' l' b' r' : Int) (w : World) (h : areaB t l b r = false) :
    Calls Try.prog 14 #[.agg #[.int .i64 t, .int .i64 l, .int .i64 b, .int .i64 r], .agg #[.int .i64 t', .int .i64 l', .int .i64 b', .int .i64 r']] w
      fun e w' => e = .returned (.tuple #[.agg #[.int .i64 0, .int .i64 0, .int .i64 0, .int .i64 0], .bool false]) ∧ Below w.heap.size w w' := by
  go_enter Try.func14, Try.ntmps14
  go_wp2_with fail
  refine (may13 _ _ _ _ _).mono ?_
  rintro e w1 ⟨rfl, hb1⟩
  rw [areaE_no h]
  have q := hb1.row (row3c w _ _ _) (by simp <;> omega)
  obtain ⟨q0, q1, q2, q3⟩ := cells4 q
  have f0 := row_froz q 0
  have f1 := row_froz q 1
  have f2 := row_froz q 2
  have f3 := row_froz q 3
  have HB := Lib.hid (three_below hb1)
  clear hb1 q
  go_wp2_with fail
  exact bodyPost_ret (v := .tuple #[.agg #[.int .i64 0, .int .i64 0, .int .i64 0, .int .i64 0], .bool false]) (by simp [results, Try.results14, go_sem, q0, q1, q2, q3, f0, f1, f2, f3]) rfl ⟨rfl, by repeat (first | exact HB.out | refine Below.setCell ?_ (by simp <;> omega) _ | refine Below.alloc ?_ (by simp [World.setCell] <;> omega) _)⟩

set_option maxHeartbeats 800000 in
theorem meet14_no2 (t l b r t' l' b' r' : Int) (w : World) (h : areaB t l b r = true) (h' : areaB t' l' b' r' = false) :
    Calls Try.prog 14 #[.agg #[.int .i64 t, .int .i64 l, .int .i64 b, .int .i64 r], .agg #[.int .i64 t', .int .i64 l', .int .i64 b', .int .i64 r']] w
      fun e w' => e = .returned (.tuple #[.agg #[.int .i64 0, .int .i64 0, .int .i64 0, .int .i64 0], .bool false]) ∧ Below w.heap.size w w' := by
  go_enter Try.func14, Try.ntmps14
  go_wp2_with fail
  refine (may13 _ _ _ _ _).mono ?_
  rintro e w1 ⟨rfl, hb1⟩
  rw [areaE_yes h]
  obtain ⟨d0, d1, d2, d3⟩ := cells4 (hb1.row (row3b w _ _ _) (by simp <;> omega))
  go_wp2_with fail
  refine (may13 _ _ _ _ _).mono ?_
  rintro e w2 ⟨rfl, hb2⟩
  rw [areaE_no h']
  have q := (hb1.trans (hb2.mono hb1.size)).row (row3c w _ _ _) (by simp <;> omega)
  obtain ⟨q0, q1, q2, q3⟩ := cells4 q
  have f0 := row_froz q 0
  have f1 := row_froz q 1
  have f2 := row_froz q 2
  have f3 := row_froz q 3
  have HB := Lib.hid (three_below (hb1.trans (hb2.mono hb1.size)))
  clear hb1 hb2 q d0 d1 d2 d3
  go_wp2_with fail
  exact bodyPost_ret (v := .tuple #[.agg #[.int .i64 0, .int .i64 0, .int .i64 0, .int .i64 0], .bool false]) (by simp [results, Try.results14, go_sem, q0, q1, q2, q3, f0, f1, f2, f3]) rfl ⟨rfl, by repeat (first | exact HB.out | refine Below.setCell ?_ (by simp <;> omega) _ | refine Below.alloc ?_ (by simp [World.setCell] <;> omega) _)⟩

set_option maxHeartbeats 800000 in
theorem meet14_no3 (t l b r t' l' b' r' : Int) (w : World) (h : areaB t l b r = true) (h' : areaB t' l' b' r' = true) (h3 : min b b' < max t t') :
    Calls Try.prog 14 #[.agg #[.int .i64 t, .int .i64 l, .int .i64 b, .int .i64 r], .agg #[.int .i64 t', .int .i64 l', .int .i64 b', .int .i64 r']] w
      fun e w' => e = .returned (.tuple #[.agg #[.int .i64 0, .int .i64 0, .int .i64 0, .int .i64 0], .bool false]) ∧ Below w.heap.size w w' := by
  go_enter Try.func14, Try.ntmps14
  go_wp2_with fail
  refine (may13 _ _ _ _ _).mono ?_
  rintro e w1 ⟨rfl, hb1⟩
  rw [areaE_yes h]
  obtain ⟨d0, d1, d2, d3⟩ := cells4 (hb1.row (row3b w _ _ _) (by simp <;> omega))
  go_wp2_with fail
  refine (may13 _ _ _ _ _).mono ?_
  rintro e w2 ⟨rfl, hb2⟩
  rw [areaE_yes h']
  obtain ⟨c0, c1, c2, c3⟩ := cells4 ((hb1.trans (hb2.mono hb1.size)).row (row3a w _ _ _) (by simp <;> omega))
  obtain ⟨d0, d1, d2, d3⟩ := cells4 ((hb1.trans (hb2.mono hb1.size)).row (row3b w _ _ _) (by simp <;> omega))
  have q := (hb1.trans (hb2.mono hb1.size)).row (row3c w _ _ _) (by simp <;> omega)
  obtain ⟨q0, q1, q2, q3⟩ := cells4 q
  have f0 := row_froz q 0
  have f1 := row_froz q 1
  have f2 := row_froz q 2
  have f3 := row_froz q 3
  have HB := Lib.hid (three_below (hb1.trans (hb2.mono hb1.size)))
  have hz : w.heap.size + 1 + 1 < w2.heap.size := by have := hb1.size; have := hb2.size; simp at *; omega
  have hmin := if_min
  have hmax := if_max
  clear hb1 hb2 q h h'
  go_wp2_with fail
  exact bodyPost_ret (v := .tuple #[.agg #[.int .i64 0, .int .i64 0, .int .i64 0, .int .i64 0], .bool false]) (by simp [results, Try.results14, go_sem, q0, q1, q2, q3, f0, f1, f2, f3, hz]) rfl ⟨rfl, by repeat (first | exact HB.out | refine Below.setCell ?_ (by simp <;> omega) _ | refine Below.alloc ?_ (by simp [World.setCell] <;> omega) _)⟩

set_option maxHeartbeats 800000 in
theorem meet14_no4 (t l b r t' l' b' r' : Int) (w : World) (h : areaB t l b r = true) (h' : areaB t' l' b' r' = true) (h3 : ¬ min b b' < max t t') (h4 : min r r' < max l l') :
    Calls Try.prog 14 #[.agg #[.int .i64 t, .int .i64 l, .int .i64 b, .int .i64 r], .agg #[.int .i64 t', .int .i64 l', .int .i64 b', .int .i64 r']] w
      fun e w' => e = .returned (.tuple #[.agg #[.int .i64 0, .int .i64 0, .int .i64 0, .int .i64 0], .bool false]) ∧ Below w.heap.size w w' := by
  go_enter Try.func14, Try.ntmps14
  go_wp2_with fail
  refine (may13 _ _ _ _ _).mono ?_
  rintro e w1 ⟨rfl, hb1⟩
  rw [areaE_yes h]
  obtain ⟨d0, d1, d2, d3⟩ := cells4 (hb1.row (row3b w _ _ _) (by simp <;> omega))
  go_wp2_with fail
  refine (may13 _ _ _ _ _).mono ?_
  rintro e w2 ⟨rfl, hb2⟩
  rw [areaE_yes h']
  obtain ⟨c0, c1, c2, c3⟩ := cells4 ((hb1.trans (hb2.mono hb1.size)).row (row3a w _ _ _) (by simp <;> omega))
  obtain ⟨d0, d1, d2, d3⟩ := cells4 ((hb1.trans (hb2.mono hb1.size)).row (row3b w _ _ _) (by simp <;> omega))
  have q := (hb1.trans (hb2.mono hb1.size)).row (row3c w _ _ _) (by simp <;> omega)
  obtain ⟨q0, q1, q2, q3⟩ := cells4 q
  have f0 := row_froz q 0
  have f1 := row_froz q 1
  have f2 := row_froz q 2
  have f3 := row_froz q 3
  have HB := Lib.hid (three_below (hb1.trans (hb2.mono hb1.size)))
  have hz : w.heap.size + 1 + 1 < w2.heap.size := by have := hb1.size; have := hb2.size; simp at *; omega
  have hmin := if_min
  have hmax := if_max
  clear hb1 hb2 q h h'
  go_wp2_with fail
  exact bodyPost_ret (v := .tuple #[.agg #[.int .i64 0, .int .i64 0, .int .i64 0, .int .i64 0], .bool false]) (by simp [results, Try.results14, go_sem, q0, q1, q2, q3, f0, f1, f2, f3, hz]) rfl ⟨rfl, by repeat (first | exact HB.out | refine Below.setCell ?_ (by simp <;> omega) _ | refine Below.alloc ?_ (by simp [World.setCell] <;> omega) _)⟩

set_option maxHeartbeats 800000 in
theorem meet14_yes (t l b r t' l' b' r' : Int) (w : World) (h : areaB t l b r = true) (h' : areaB t' l' b' r' = true) (h3 : ¬ min b b' < max t t') (h4 : ¬ min r r' < max l l') :
    Calls Try.prog 14 #[.agg #[.int .i64 t, .int .i64 l, .int .i64 b, .int .i64 r], .agg #[.int .i64 t', .int .i64 l', .int .i64 b', .int .i64 r']] w
      fun e w' => e = .returned (.tuple #[.agg #[.int .i64 (max t t'), .int .i64 (max l l'), .int .i64 (min b b'), .int .i64 (min r r')], .bool true]) ∧ Below w.heap.size w w' := by
  go_enter Try.func14, Try.ntmps14
  go_wp2_with fail
  refine (may13 _ _ _ _ _).mono ?_
  rintro e w1 ⟨rfl, hb1⟩
  rw [areaE_yes h]
  obtain ⟨d0, d1, d2, d3⟩ := cells4 (hb1.row (row3b w _ _ _) (by simp <;> omega))
  go_wp2_with fail
  refine (may13 _ _ _ _ _).mono ?_
  rintro e w2 ⟨rfl, hb2⟩
  rw [areaE_yes h']
  obtain ⟨c0, c1, c2, c3⟩ := cells4 ((hb1.trans (hb2.mono hb1.size)).row (row3a w _ _ _) (by simp <;> omega))
  obtain ⟨d0, d1, d2, d3⟩ := cells4 ((hb1.trans (hb2.mono hb1.size)).row (row3b w _ _ _) (by simp <;> omega))
  have q := (hb1.trans (hb2.mono hb1.size)).row (row3c w _ _ _) (by simp <;> omega)
  obtain ⟨q0, q1, q2, q3⟩ := cells4 q
  have f0 := row_froz q 0
  have f1 := row_froz q 1
  have f2 := row_froz q 2
  have f3 := row_froz q 3
  have HB := Lib.hid (three_below (hb1.trans (hb2.mono hb1.size)))
  have hz : w.heap.size + 1 + 1 < w2.heap.size := by have := hb1.size; have := hb2.size; simp at *; omega
  have hmin := if_min
  have hmax := if_max
  clear hb1 hb2 q h h'
  go_wp2_with fail
  exact bodyPost_ret (v := .tuple #[.agg #[.int .i64 (max t t'), .int .i64 (max l l'), .int .i64 (min b b'), .int .i64 (min r r')], .bool true]) (by simp [results, Try.results14, go_sem, q0, q1, q2, q3, f0, f1, f2, f3, hz]) rfl ⟨rfl, by repeat (first | exact HB.out | refine Below.setCell ?_ (by simp <;> omega) _ | refine Below.alloc ?_ (by simp [World.setCell] <;> omega) _)⟩

set_option maxHeartbeats 800000 in
theorem meet28_no1 (t l b r t' l' b' r' : Int) (w : World) (h : areaB t l b r = false) :
    Calls Try.prog 28 #[.agg #[.int .i64 t, .int .i64 l, .int .i64 b, .int .i64 r], .agg #[.int .i64 t', .int .i64 l', .int .i64 b', .int .i64 r']] w
      fun e w' => e = .returned (.tuple #[.agg #[.int .i64 0, .int .i64 0, .int .i64 0, .int .i64 0], .bool false]) ∧ Below w.heap.size w w' := by
  go_enter Try.func28, Try.ntmps28
  go_wp2_with fail
  refine (may21 _ _ _ _ _).mono ?_
  rintro e w1 ⟨rfl, hb1⟩
  rw [areaE_no h]
  obtain ⟨d0, d1, d2, d3⟩ := cells4 (hb1.row (row3b w _ _ _) (by simp <;> omega))
  go_wp2_with fail
  refine (may21 _ _ _ _ _).mono ?_
  rintro e w2 ⟨rfl, hb2⟩
  generalize areaE t' l' b' r' = e2
  obtain ⟨c0, c1, c2, c3⟩ := cells4 ((hb1.trans (hb2.mono hb1.size)).row (row3a w _ _ _) (by simp <;> omega))
  obtain ⟨d0, d1, d2, d3⟩ := cells4 ((hb1.trans (hb2.mono hb1.size)).row (row3b w _ _ _) (by simp <;> omega))
  have q := (hb1.trans (hb2.mono hb1.size)).row (row3c w _ _ _) (by simp <;> omega)
  obtain ⟨q0, q1, q2, q3⟩ := cells4 q
  have f0 := row_froz q 0
  have f1 := row_froz q 1
  have f2 := row_froz q 2
  have f3 := row_froz q 3
  have HB := Lib.hid (three_below (hb1.trans (hb2.mono hb1.size)))
  have hz : w.heap.size + 1 + 1 < w2.heap.size := by have := hb1.size; have := hb2.size; simp at *; omega
  have hmin := if_min
  have hmax := if_max
  clear hb1 hb2 q h
  go_wp2_with fail
  exact bodyPost_ret (v := .tuple #[.agg #[.int .i64 0, .int .i64 0, .int .i64 0, .int .i64 0], .bool false]) (by simp [results, Try.results28, go_sem, q0, q1, q2, q3, f0, f1, f2, f3, hz]) rfl ⟨rfl, by repeat (first | exact HB.out | refine Below.setCell ?_ (by simp <;> omega) _ | refine Below.alloc ?_ (by simp [World.setCell] <;> omega) _)⟩

set_option maxHeartbeats 800000 in
theorem meet28_no2 (t l b r t' l' b' r' : Int) (w : World) (h : areaB t l b r = true) (h' : areaB t' l' b' r' = false) :
    Calls Try.prog 28 #[.agg #[.int .i64 t, .int .i64 l, .int .i64 b, .int .i64 r], .agg #[.int .i64 t', .int .i64 l', .int .i64 b', .int .i64 r']] w
      fun e w' => e = .returned (.tuple #[.agg #[.int .i64 0, .int .i64 0, .int .i64 0, .int .i64 0], .bool false]) ∧ Below w.heap.size w w' := by
  go_enter Try.func28, Try.ntmps28
  go_wp2_with fail
  refine (may21 _ _ _ _ _).mono ?_
  rintro e w1 ⟨rfl, hb1⟩
  rw [areaE_yes h]
  obtain ⟨d0, d1, d2, d3⟩ := cells4 (hb1.row (row3b w _ _ _) (by simp <;> omega))
  go_wp2_with fail
  refine (may21 _ _ _ _ _).mono ?_
  rintro e w2 ⟨rfl, hb2⟩
  rw [areaE_no h']
  obtain ⟨c0, c1, c2, c3⟩ := cells4 ((hb1.trans (hb2.mono hb1.size)).row (row3a w _ _ _) (by simp <;> omega))
  obtain ⟨d0, d1, d2, d3⟩ := cells4 ((hb1.trans (hb2.mono hb1.size)).row (row3b w _ _ _) (by simp <;> omega))
  have q := (hb1.trans (hb2.mono hb1.size)).row (row3c w _ _ _) (by simp <;> omega)
  obtain ⟨q0, q1, q2, q3⟩ := cells4 q
  have f0 := row_froz q 0
  have f1 := row_froz q 1
  have f2 := row_froz q 2
  have f3 := row_froz q 3
  have HB := Lib.hid (three_below (hb1.trans (hb2.mono hb1.size)))
  have hz : w.heap.size + 1 + 1 < w2.heap.size := by have := hb1.size; have := hb2.size; simp at *; omega
  have hmin := if_min
  have hmax := if_max
  clear hb1 hb2 q h h'
  go_wp2_with fail
  exact bodyPost_ret (v := .tuple #[.agg #[.int .i64 0, .int .i64 0, .int .i64 0, .int .i64 0], .bool false]) (by simp [results, Try.results28, go_sem, q0, q1, q2, q3, f0, f1, f2, f3, hz]) rfl ⟨rfl, by repeat (first | exact HB.out | refine Below.setCell ?_ (by simp <;> omega) _ | refine Below.alloc ?_ (by simp [World.setCell] <;> omega) _)⟩

set_option maxHeartbeats 800000 in
theorem meet28_no3 (t l b r t' l' b' r' : Int) (w : World) (h : areaB t l b r = true) (h' : areaB t' l' b' r' = true) (h3 : min b b' < max t t') :
    Calls Try.prog 28 #[.agg #[.int .i64 t, .int .i64 l, .int .i64 b, .int .i64 r], .agg #[.int .i64 t', .int .i64 l', .int .i64 b', .int .i64 r']] w
      fun e w' => e = .returned (.tuple #[.agg #[.int .i64 0, .int .i64 0, .int .i64 0, .int .i64 0], .bool false]) ∧ Below w.heap.size w w' := by
  go_enter Try.func28, Try.ntmps28
  go_wp2_with fail
  refine (may21 _ _ _ _ _).mono ?_
  rintro e w1 ⟨rfl, hb1⟩
  rw [areaE_yes h]
  obtain ⟨d0, d1, d2, d3⟩ := cells4 (hb1.row (row3b w _ _ _) (by simp <;> omega))
  go_wp2_with fail
  refine (may21 _ _ _ _ _).mono ?_
  rintro e w2 ⟨rfl, hb2⟩
  rw [areaE_yes h']
  obtain ⟨c0, c1, c2, c3⟩ := cells4 ((hb1.trans (hb2.mono hb1.size)).row (row3a w _ _ _) (by simp <;> omega))
  obtain ⟨d0, d1, d2, d3⟩ := cells4 ((hb1.trans (hb2.mono hb1.size)).row (row3b w _ _ _) (by simp <;> omega))
  have q := (hb1.trans (hb2.mono hb1.size)).row (row3c w _ _ _) (by simp <;> omega)
  obtain ⟨q0, q1, q2, q3⟩ := cells4 q
  have f0 := row_froz q 0
  have f1 := row_froz q 1
  have f2 := row_froz q 2
  have f3 := row_froz q 3
  have HB := Lib.hid (three_below (hb1.trans (hb2.mono hb1.size)))
  have hz : w.heap.size + 1 + 1 < w2.heap.size := by have := hb1.size; have := hb2.size; simp at *; omega
  have hmin := if_min
  have hmax := if_max
  clear hb1 hb2 q h h'
  go_wp2_with fail
  exact bodyPost_ret (v := .tuple #[.agg #[.int .i64 0, .int .i64 0, .int .i64 0, .int .i64 0], .bool false]) (by simp [results, Try.results28, go_sem, q0, q1, q2, q3, f0, f1, f2, f3, hz]) rfl ⟨rfl, by repeat (first | exact HB.out | refine Below.setCell ?_ (by simp <;> omega) _ | refine Below.alloc ?_ (by simp [World.setCell] <;> omega) _)⟩

set_option maxHeartbeats 800000 in
theorem meet28_no4 (t l b r t' l' b' r' : Int) (w : World) (h : areaB t l b r = true) (h' : areaB t' l' b' r' = true) (h3 : ¬ min b b' < max t t') (h4 : min r r' < max l l') :
    Calls Try.prog 28 #[.agg #[.int .i64 t, .int .i64 l, .int .i64 b, .int .i64 r], .agg #[.int .i64 t', .int .i64 l', .int .i64 b', .int .i64 r']] w
      fun e w' => e = .returned (.tuple #[.agg #[.int .i64 0, .int .i64 0, .int .i64 0, .int .i64 0], .bool false]) ∧ Below w.heap.size w w' := by
  go_enter Try.func28, Try.ntmps28
  go_wp2_with fail
  refine (may21 _ _ _ _ _).mono ?_
  rintro e w1 ⟨rfl, hb1⟩
  rw [areaE_yes h]
  obtain ⟨d0, d1, d2, d3⟩ := cells4 (hb1.row (row3b w _ _ _) (by simp <;> omega))
  go_wp2_with fail
  refine (may21 _ _ _ _ _).mono ?_
  rintro e w2 ⟨rfl, hb2⟩
  rw [areaE_yes h']
  obtain ⟨c0, c1, c2, c3⟩ := cells4 ((hb1.trans (hb2.mono hb1.size)).row (row3a w _ _ _) (by simp <;> omega))
  obtain ⟨d0, d1, d2, d3⟩ := cells4 ((hb1.trans (hb2.mono hb1.size)).row (row3b w _ _ _) (by simp <;> omega))
  have q := (hb1.trans (hb2.mono hb1.size)).row (row3c w _ _ _) (by simp <;> omega)
  obtain ⟨q0, q1, q2, q3⟩ := cells4 q
  have f0 := row_froz q 0
  have f1 := row_froz q 1
  have f2 := row_froz q 2
  have f3 := row_froz q 3
  have HB := Lib.hid (three_below (hb1.trans (hb2.mono hb1.size)))
  have hz : w.heap.size + 1 + 1 < w2.heap.size := by have := hb1.size; have := hb2.size; simp at *; omega
  have hmin := if_min
  have hmax := if_max
  clear hb1 hb2 q h h'
  go_wp2_with fail
  exact bodyPost_ret (v := .tuple #[.agg #[.int .i64 0, .int .i64 0, .int .i64 0, .int .i64 0], .bool false]) (by simp [results, Try.results28, go_sem, q0, q1, q2, q3, f0, f1, f2, f3, hz]) rfl ⟨rfl, by repeat (first | exact HB.out | refine Below.setCell ?_ (by simp <;> omega) _ | refine Below.alloc ?_ (by simp [World.setCell] <;> omega) _)⟩

set_option maxHeartbeats 800000 in
theorem meet28_yes (t l b r t' l' b' r' : Int) (w : World) (h : areaB t l b r = true) (h' : areaB t' l' b' r' = true) (h3 : ¬ min b b' < max t t') (h4 : ¬ min r r' < max l l') :
    Calls Try.prog 28 #[.agg #[.int .i64 t, .int .i64 l, .int .i64 b, .int .i64 r], .agg #[.int .i64 t', .int .i64 l', .int .i64 b', .int .i64 r']] w
      fun e w' => e = .returned (.tuple #[.agg #[.int .i64 (max t t'), .int .i64 (max l l'), .int .i64 (min b b'), .int .i64 (min r r')], .bool true]) ∧ Below w.heap.size w w' := by
  go_enter Try.func28, Try.ntmps28
  go_wp2_with fail
  refine (may21 _ _ _ _ _).mono ?_
  rintro e w1 ⟨rfl, hb1⟩
  rw [areaE_yes h]
  obtain ⟨d0, d1, d2, d3⟩ := cells4 (hb1.row (row3b w _ _ _) (by simp <;> omega))
  go_wp2_with fail
  refine (may21 _ _ _ _ _).mono ?_
  rintro e w2 ⟨rfl, hb2⟩
  rw [areaE_yes h']
  obtain ⟨c0, c1, c2, c3⟩ := cells4 ((hb1.trans (hb2.mono hb1.size)).row (row3a w _ _ _) (by simp <;> omega))
  obtain ⟨d0, d1, d2, d3⟩ := cells4 ((hb1.trans (hb2.mono hb1.size)).row (row3b w _ _ _) (by simp <;> omega))
  have q := (hb1.trans (hb2.mono hb1.size)).row (row3c w _ _ _) (by simp <;> omega)
  obtain ⟨q0, q1, q2, q3⟩ := cells4 q
  have f0 := row_froz q 0
  have f1 := row_froz q 1
  have f2 := row_froz q 2
  have f3 := row_froz q 3
  have HB := Lib.hid (three_below (hb1.trans (hb2.mono hb1.size)))
  have hz : w.heap.size + 1 + 1 < w2.heap.size := by have := hb1.size; have := hb2.size; simp at *; omega
  have hmin := if_min
  have hmax := if_max
  clear hb1 hb2 q h h'
  go_wp2_with fail
  exact bodyPost_ret (v := .tuple #[.agg #[.int .i64 (max t t'), .int .i64 (max l l'), .int .i64 (min b b'), .int .i64 (min r r')], .bool true]) (by simp [results, Try.results28, go_sem, q0, q1, q2, q3, f0, f1, f2, f3, hz]) rfl ⟨rfl, by repeat (first | exact HB.out | refine Below.setCell ?_ (by simp <;> omega) _ | refine Below.alloc ?_ (by simp [World.setCell] <;> omega) _)⟩

/-- Meet's answer: the area in common and whether there is one. -/
def meetV (t l b r t' l' b' r' : Int) : (Int × Int × Int × Int) × Bool := if meetB t l b r t' l' b' r' = true then ((max t t', max l l', min b b', min r r'), true) else ((0, 0, 0, 0), false)

theorem meet_cases (t l b r t' l' b' r' : Int) : (areaB t l b r = false ∧ meetB t l b r t' l' b' r' = false) ∨ (areaB t l b r = true ∧ areaB t' l' b' r' = false ∧ meetB t l b r t' l' b' r' = false) ∨
    (areaB t l b r = true ∧ areaB t' l' b' r' = true ∧ min b b' < max t t' ∧ meetB t l b r t' l' b' r' = false) ∨
    (areaB t l b r = true ∧ areaB t' l' b' r' = true ∧ ¬ min b b' < max t t' ∧ min r r' < max l l' ∧ meetB t l b r t' l' b' r' = false) ∨
    (areaB t l b r = true ∧ areaB t' l' b' r' = true ∧ ¬ min b b' < max t t' ∧ ¬ min r r' < max l l' ∧ meetB t l b r t' l' b' r' = true) := by
  unfold meetB
  cases areaB t l b r
  · exact .inl ⟨rfl, by simp⟩
  · cases areaB t' l' b' r'
    · exact .inr (.inl ⟨rfl, rfl, by simp⟩)
    · by_cases h3 : min b b' < max t t'
      · exact .inr (.inr (.inl ⟨rfl, rfl, h3, by rw [decide_eq_false (by omega : ¬ max t t' ≤ min b b')]; simp⟩))
      · by_cases h4 : min r r' < max l l'
        · exact .inr (.inr (.inr (.inl ⟨rfl, rfl, h3, h4, by rw [decide_eq_false (by omega : ¬ max l l' ≤ min r r')]; simp⟩)))
        · exact .inr (.inr (.inr (.inr ⟨rfl, rfl, h3, h4, by rw [decide_eq_true (by omega : max t t' ≤ min b b'), decide_eq_true (by omega : max l l' ≤ min r r')]; rfl⟩)))

theorem meet14 (t l b r t' l' b' r' : Int) (w : World) :
    Calls Try.prog 14 #[.agg #[.int .i64 t, .int .i64 l, .int .i64 b, .int .i64 r], .agg #[.int .i64 t', .int .i64 l', .int .i64 b', .int .i64 r']] w
      fun e w' => e = .returned (.tuple #[.agg #[.int .i64 (meetV t l b r t' l' b' r').1.1, .int .i64 (meetV t l b r t' l' b' r').1.2.1, .int .i64 (meetV t l b r t' l' b' r').1.2.2.1, .int .i64 (meetV t l b r t' l' b' r').1.2.2.2],
        .bool (meetV t l b r t' l' b' r').2]) ∧ Below w.heap.size w w' := by
  unfold meetV
  rcases meet_cases t l b r t' l' b' r' with ⟨h, hm⟩ | ⟨h, h', hm⟩ | ⟨h, h', h3, hm⟩ | ⟨h, h', h3, h4, hm⟩ | ⟨h, h', h3, h4, hm⟩
  · rw [hm]
    exact meet14_no1 t l b r t' l' b' r' w h
  · rw [hm]
    exact meet14_no2 t l b r t' l' b' r' w h h'
  · rw [hm]
    exact meet14_no3 t l b r t' l' b' r' w h h' h3
  · rw [hm]
    exact meet14_no4 t l b r t' l' b' r' w h h' h3 h4
  · rw [hm]
    exact meet14_yes t l b r t' l' b' r' w h h' h3 h4

theorem meet28 (t l b r t' l' b' r' : Int) (w : World) :
    Calls Try.prog 28 #[.agg #[.int .i64 t, .int .i64 l, .int .i64 b, .int .i64 r], .agg #[.int .i64 t', .int .i64 l', .int .i64 b', .int .i64 r']] w
      fun e w' => e = .returned (.tuple #[.agg #[.int .i64 (meetV t l b r t' l' b' r').1.1, .int .i64 (meetV t l b r t' l' b' r').1.2.1, .int .i64 (meetV t l b r t' l' b' r').1.2.2.1, .int .i64 (meetV t l b r t' l' b' r').1.2.2.2],
        .bool (meetV t l b r t' l' b' r').2]) ∧ Below w.heap.size w w' := by
  unfold meetV
  rcases meet_cases t l b r t' l' b' r' with ⟨h, hm⟩ | ⟨h, h', hm⟩ | ⟨h, h', h3, hm⟩ | ⟨h, h', h3, h4, hm⟩ | ⟨h, h', h3, h4, hm⟩
  · rw [hm]
    exact meet28_no1 t l b r t' l' b' r' w h
  · rw [hm]
    exact meet28_no2 t l b r t' l' b' r' w h h'
  · rw [hm]
    exact meet28_no3 t l b r t' l' b' r' w h h' h3
  · rw [hm]
    exact meet28_no4 t l b r t' l' b' r' w h h' h3 h4
  · rw [hm]
    exact meet28_yes t l b r t' l' b' r' w h h' h3 h4

end Go.Proofs.Ythcogckkeegokaa
