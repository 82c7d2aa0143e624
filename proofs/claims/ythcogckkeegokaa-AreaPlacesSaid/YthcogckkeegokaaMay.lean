/- The small functions of packages area, spot and quadrilleref3: what each answers. -/
import Derived.Test.YthcogckkeegokaaRows
import Derived.WalkKit
import Derived.WalkSpells
import Derived.WalkLawsBesides
import Derived.BigQuiet
import Derived.Deep.QuietTactic
import Derived.Lib.Hide
namespace Go.Proofs.Ythcogckkeegokaa
set_option linter.unusedVariables false
set_option linter.unusedSimpArgs false
open Go.RowKit

theorem ret_int {k : IntKind} {a b : Int} (h : a = b) : Ending.returned (.int k a) = .returned (.int k b) := by rw [h]
theorem ret_bool {a b : Bool} (h : a = b) : Ending.returned (.bool a) = .returned (.bool b) := by rw [h]

/-- Is it a place of the grid? -/
def spotB (r c : Int) : Bool := decide (0 ≤ r ∧ r < 65536 ∧ 0 ≤ c ∧ c < 702)
/-- May an area be? -/
def areaB (t l b r : Int) : Bool := decide (0 ≤ t ∧ t ≤ b ∧ b < 65536 ∧ 0 ≤ l ∧ l ≤ r ∧ r < 702)
/-- May's answer. -/
def areaE (t l b r : Int) : Int := if areaB t l b r = true then 0 else 11

set_option maxHeartbeats 400000 in
theorem spot22 (r c : Int) (w : World) :
    Calls Try.prog 22 #[.agg #[.int .i64 r, .int .i64 c]] w fun e w' => e = .returned (.bool (spotB r c)) ∧ w' = w.alloc (.cells #[.int .i64 r, .int .i64 c] 30) := by
  go_enter Try.func22, Try.ntmps22
  go_wp2
  all_goals go_ret
  all_goals refine ⟨ret_bool ?_, rfl⟩
  all_goals (unfold spotB; simp_all <;> omega)

set_option maxHeartbeats 400000 in
theorem first23 (t l b r : Int) (w : World) :
    Calls Try.prog 23 #[.agg #[.int .i64 t, .int .i64 l, .int .i64 b, .int .i64 r]] w fun e w' => e = .returned (.agg #[.int .i64 t, .int .i64 l]) ∧
      w' = (w.alloc (.cells #[.int .i64 t, .int .i64 l, .int .i64 b, .int .i64 r] 23)).alloc (.cells #[.int .i64 t, .int .i64 l] 30) := by
  go_enter Try.func23, Try.ntmps23
  go_wp2
  exact bodyPost_ret (v := .agg #[.int .i64 t, .int .i64 l]) (by simp [results, Try.results23, go_sem]) rfl ⟨rfl, rfl⟩

set_option maxHeartbeats 400000 in
theorem last24 (t l b r : Int) (w : World) :
    Calls Try.prog 24 #[.agg #[.int .i64 t, .int .i64 l, .int .i64 b, .int .i64 r]] w fun e w' => e = .returned (.agg #[.int .i64 b, .int .i64 r]) ∧
      w' = (w.alloc (.cells #[.int .i64 t, .int .i64 l, .int .i64 b, .int .i64 r] 23)).alloc (.cells #[.int .i64 b, .int .i64 r] 30) := by
  go_enter Try.func24, Try.ntmps24
  go_wp2
  exact bodyPost_ret (v := .agg #[.int .i64 b, .int .i64 r]) (by simp [results, Try.results24, go_sem]) rfl ⟨rfl, rfl⟩

set_option maxHeartbeats 400000 in
theorem may13 (t l b r : Int) (w : World) :
    Calls Try.prog 13 #[.agg #[.int .i64 t, .int .i64 l, .int .i64 b, .int .i64 r]] w fun e w' => e = .returned (.int .i64 (areaE t l b r)) ∧ Below w.heap.size w w' := by
  go_enter Try.func13, Try.ntmps13
  go_wp2_with (first | (go_at_call 23; refine (first23 _ _ _ _ _).mono ?_; rintro e w' ⟨rfl, rfl⟩) | (go_at_call 24; refine (last24 _ _ _ _ _).mono ?_; rintro e w' ⟨rfl, rfl⟩) | (go_at_call 22; refine (spot22 _ _ _).mono ?_; rintro e w' ⟨rfl, rfl⟩))
  all_goals go_ret
  all_goals refine ⟨ret_int ?_, by repeat (first | exact Below.refl _ _ | refine Below.alloc ?_ (by simp <;> omega) _)⟩
  all_goals
    simp only [areaE, areaB, spotB, decide_eq_true_eq] at *
    split <;> omega

set_option maxHeartbeats 400000 in
theorem may21 (t l b r : Int) (w : World) :
    Calls Try.prog 21 #[.agg #[.int .i64 t, .int .i64 l, .int .i64 b, .int .i64 r]] w fun e w' => e = .returned (.int .i64 (areaE t l b r)) ∧ Below w.heap.size w w' := by
  go_enter Try.func21, Try.ntmps21
  go_wp2
  all_goals go_ret
  all_goals refine ⟨ret_int ?_, by repeat (first | exact Below.refl _ _ | refine Below.alloc ?_ (by simp <;> omega) _)⟩
  all_goals
    simp only [areaE, areaB, decide_eq_true_eq] at *
    split <;> omega

/-- Is a place one of an area's? -/
def hasB (t l b r x y : Int) : Bool := decide (areaB t l b r = true ∧ t ≤ x ∧ x ≤ b ∧ l ≤ y ∧ y ≤ r)

theorem _root_.Go.RowKit.Below.row {B : Nat} {w w1 : World} {b : Nat} {o : Obj} (h : Below B w w1) (hr : w.heap[b]? = some o) (hb : b < B) : w1.heap[b]? = some o := (h.block b hb).trans hr
theorem row_old (w : World) (o o' : Obj) : ((w.alloc o).alloc o').heap[w.heap.size]? = some o := (heap_alloc_old _ _ (by simp)).trans (heap_alloc_new w _)
theorem row_new (w : World) (o o' : Obj) : ((w.alloc o).alloc o').heap[w.heap.size + 1]? = some o' := by
  have := heap_alloc_new (w.alloc o) o'
  simpa using this
theorem cells4 {w : World} {g : Nat} {a b c d : Value} {t : TypeId} {f : Nat × Nat} (h : w.heap[g]? = some (.cells #[a, b, c, d] t f)) :
    w.cell? ⟨g, 0, none⟩ = some a ∧ w.cell? ⟨g, 1, none⟩ = some b ∧ w.cell? ⟨g, 2, none⟩ = some c ∧ w.cell? ⟨g, 3, none⟩ = some d := by
  refine ⟨?_, ?_, ?_, ?_⟩ <;> (rw [cell_of_row w _ _ _ _ _ h]; rfl)
theorem cells2 {w : World} {g : Nat} {a b : Value} {t : TypeId} {f : Nat × Nat} (h : w.heap[g]? = some (.cells #[a, b] t f)) : w.cell? ⟨g, 0, none⟩ = some a ∧ w.cell? ⟨g, 1, none⟩ = some b := by
  refine ⟨?_, ?_⟩ <;> (rw [cell_of_row w _ _ _ _ _ h]; rfl)
theorem one_below {w w1 : World} {o : Obj} (h : Below (w.alloc o).heap.size (w.alloc o) w1) : Below w.heap.size w w1 := ((Below.refl _ _).alloc (Nat.le_refl _) _).trans (h.mono (by simp))
theorem two_below {w w1 : World} {o o' : Obj} (h : Below ((w.alloc o).alloc o').heap.size ((w.alloc o).alloc o') w1) : Below w.heap.size w w1 :=
  (((Below.refl _ _).alloc (Nat.le_refl _) _).alloc (by simp) _).trans (h.mono (by simp; omega))
theorem cell_below {w w' : World} {p : Addr} {x : Value} (h : w.cell? p = some x) (hb : Below w.heap.size w w') : w'.cell? p = some x := (hb.cell (World.block_lt_of_cell? w p h)).trans h

set_option maxHeartbeats 400000 in
theorem has15 (t l b r x y : Int) (w : World) :
    Calls Try.prog 15 #[.agg #[.int .i64 t, .int .i64 l, .int .i64 b, .int .i64 r], .agg #[.int .i64 x, .int .i64 y]] w fun e w' => e = .returned (.bool (hasB t l b r x y)) ∧ Below w.heap.size w w' := by
  go_enter Try.func15, Try.ntmps15
  go_wp2_with fail
  refine (may13 _ _ _ _ _).mono ?_
  rintro e w1 ⟨rfl, hb1⟩
  obtain ⟨c0, c1, c2, c3⟩ := cells4 (hb1.row (row_old w _ _) (by simp; omega))
  obtain ⟨d0, d1⟩ := cells2 (hb1.row (row_new w _ _) (by simp))
  have HB := Lib.hid (two_below hb1)
  clear hb1
  by_cases ha : areaB t l b r = true
  · have hE : areaE t l b r = 0 := by simp [areaE, ha]
    rw [hE]
    clear hE
    go_wp2_with fail
    all_goals go_ret
    all_goals refine ⟨ret_bool ?_, HB.out⟩
    all_goals (simp only [hasB, ha]; simp_all <;> omega)
  · have hE : areaE t l b r = 11 := by simp [areaE, ha]
    rw [hE]
    clear hE
    go_wp2_with fail
    all_goals go_ret
    all_goals refine ⟨ret_bool ?_, HB.out⟩
    all_goals simp [hasB, ha]

set_option maxHeartbeats 400000 in
theorem has26 (t l b r x y : Int) (w : World) :
    Calls Try.prog 26 #[.agg #[.int .i64 t, .int .i64 l, .int .i64 b, .int .i64 r], .agg #[.int .i64 x, .int .i64 y]] w fun e w' => e = .returned (.bool (hasB t l b r x y)) ∧ Below w.heap.size w w' := by
  go_enter Try.func26, Try.ntmps26
  go_wp2_with fail
  refine (may21 _ _ _ _ _).mono ?_
  rintro e w1 ⟨rfl, hb1⟩
  obtain ⟨c0, c1, c2, c3⟩ := cells4 (hb1.row (row_old w _ _) (by simp; omega))
  obtain ⟨d0, d1⟩ := cells2 (hb1.row (row_new w _ _) (by simp))
  have HB := Lib.hid (two_below hb1)
  clear hb1
  by_cases ha : areaB t l b r = true
  · have hE : areaE t l b r = 0 := by simp [areaE, ha]
    rw [hE]
    clear hE
    go_wp2_with fail
    all_goals go_ret
    all_goals refine ⟨ret_bool ?_, HB.out⟩
    all_goals (simp only [hasB, ha]; simp_all <;> omega)
  · have hE : areaE t l b r = 11 := by simp [areaE, ha]
    rw [hE]
    clear hE
    go_wp2_with fail
    all_goals go_ret
    all_goals refine ⟨ret_bool ?_, HB.out⟩
    all_goals simp [hasB, ha]

theorem if_min (x y : Int) : (if y < x then y else x) = min x y := by rw [Int.min_def]; split <;> split <;> omega
theorem if_max (x y : Int) : (if x < y then y else x) = max x y := by rw [Int.max_def]; split <;> split <;> omega

set_option maxHeartbeats 400000 in
theorem of17 (x y u v : Int) (w : World) :
    Calls Try.prog 17 #[.agg #[.int .i64 x, .int .i64 y], .agg #[.int .i64 u, .int .i64 v]] w fun e w' => e = .returned (.agg #[.int .i64 (min x u), .int .i64 (min y v), .int .i64 (max x u), .int .i64 (max y v)]) ∧ Below w.heap.size w w' := by
  have hmin := if_min
  have hmax := if_max
  go_enter Try.func17, Try.ntmps17
  go_wp2
  exact bodyPost_ret (v := .agg #[.int .i64 (min x u), .int .i64 (min y v), .int .i64 (max x u), .int .i64 (max y v)]) (by simp [results, Try.results17, go_sem]) rfl ⟨rfl, by repeat (first | exact Below.refl _ _ | refine Below.alloc ?_ (by simp <;> omega) _)⟩

set_option maxHeartbeats 400000 in
theorem of27 (x y u v : Int) (w : World) :
    Calls Try.prog 27 #[.agg #[.int .i64 x, .int .i64 y], .agg #[.int .i64 u, .int .i64 v]] w fun e w' => e = .returned (.agg #[.int .i64 (min x u), .int .i64 (min y v), .int .i64 (max x u), .int .i64 (max y v)]) ∧ Below w.heap.size w w' := by
  have hmin := if_min
  have hmax := if_max
  go_enter Try.func27, Try.ntmps27
  go_wp2
  exact bodyPost_ret (v := .agg #[.int .i64 (min x u), .int .i64 (min y v), .int .i64 (max x u), .int .i64 (max y v)]) (by simp [results, Try.results27, go_sem]) rfl ⟨rfl, by repeat (first | exact Below.refl _ _ | refine Below.alloc ?_ (by simp <;> omega) _)⟩
end Go.Proofs.Ythcogckkeegokaa
