/- AreaMeets: every way joined. -/
import Derived.Test.YthcogckkeegokaaMeets1
import Derived.Test.YthcogckkeegokaaMeets2
namespace Go.Proofs.Ythcogckkeegokaa
set_option linter.unusedVariables false
set_option linter.unusedSimpArgs false
open Go.RowKit Go.Shelf

theorem meetB_comm (t l b r t' l' b' r' : Int) : meetB t' l' b' r' t l b r = meetB t l b r t' l' b' r' := by
  unfold meetB
  rw [Int.max_comm t' t, Int.max_comm l' l, Int.min_comm b' b, Int.min_comm r' r, Bool.and_comm (areaB t' l' b' r')]
theorem meetV_comm (t l b r t' l' b' r' : Int) : meetV t' l' b' r' t l b r = meetV t l b r t' l' b' r' := by
  unfold meetV
  rw [meetB_comm, Int.max_comm t' t, Int.max_comm l' l, Int.min_comm b' b, Int.min_comm r' r]
theorem meet_no_has {t l b r t' l' b' r' : Int} (x y : Int) (h : meetB t l b r t' l' b' r' = false) (hP : hasB t l b r x y = true) : hasB t' l' b' r' x y = false := by
  simp only [meetB, hasB, areaB, decide_eq_true_eq, decide_eq_false_iff_not, Bool.and_eq_false_iff] at *
  omega
theorem meet_yes_has {t l b r t' l' b' r' : Int} (x y : Int) (h : meetB t l b r t' l' b' r' = true) :
    hasB (max t t') (max l l') (min b b') (min r r') x y = (hasB t l b r x y && hasB t' l' b' r' x y) := by
  simp only [meetB, Bool.and_eq_true, decide_eq_true_eq] at h
  rw [Bool.eq_iff_iff, Bool.and_eq_true]
  simp only [hasB, areaB, decide_eq_true_eq] at *
  omega
theorem meet_yes_may {t l b r t' l' b' r' : Int} (h : meetB t l b r t' l' b' r' = true) : areaB (max t t') (max l l') (min b b') (min r r') = true ∧
    hasB t l b r (max t t') (max l l') = true ∧ hasB t' l' b' r' (max t t') (max l l') = true ∧ hasB t l b r (min b b') (min r r') = true ∧ hasB t' l' b' r' (min b b') (min r r') = true := by
  simp only [meetB, Bool.and_eq_true, decide_eq_true_eq] at h
  simp only [hasB, areaB, decide_eq_true_eq] at *
  omega

theorem meets_walk (t l b r t' l' b' r' x y : Int) (w : World) :
    Calls Try.prog 5 #[.agg #[.int .i64 t, .int .i64 l, .int .i64 b, .int .i64 r], .agg #[.int .i64 t', .int .i64 l', .int .i64 b', .int .i64 r'], .agg #[.int .i64 x, .int .i64 y]] w
      fun e w' => e = .returned (.bool true) ∧ Below w.heap.size w w' := by
  have K1 := fun w => meet14 t l b r t' l' b' r' w
  have K2 := fun w => meet14 t' l' b' r' t l b r w
  rw [meetV_comm t l b r t' l' b' r'] at K2
  have KP := fun w => has15 t l b r x y w
  have KQ := fun w => has15 t' l' b' r' x y w
  cases hM : meetB t l b r t' l' b' r'
  · have e : meetV t l b r t' l' b' r' = ((0, 0, 0, 0), false) := by simp [meetV, hM]
    rw [e] at K1 K2
    have KR := fun w => has15 0 0 0 0 x y w
    cases hR : hasB 0 0 0 0 x y <;> rw [hR] at KR
    · cases hP : hasB t l b r x y <;> rw [hP] at KP
      · exact meets_no_f_f t l b r t' l' b' r' x y w K1 K2 KP KR
      · rw [meet_no_has x y hM hP] at KQ
        exact meets_no_tf_f t l b r t' l' b' r' x y w K1 K2 KP KQ KR
    · cases hP : hasB t l b r x y <;> rw [hP] at KP
      · exact meets_no_f_t t l b r t' l' b' r' x y w K1 K2 KP KR
      · rw [meet_no_has x y hM hP] at KQ
        exact meets_no_tf_t t l b r t' l' b' r' x y w K1 K2 KP KQ KR
  · have e : meetV t l b r t' l' b' r' = ((max t t', max l l', min b b', min r r'), true) := by simp [meetV, hM]
    rw [e] at K1 K2
    obtain ⟨y0, y1, y2, y3, y4⟩ := meet_yes_may hM
    have KR := fun w => has15 (max t t') (max l l') (min b b') (min r r') x y w
    rw [meet_yes_has x y hM] at KR
    have KY := fun w => may13 (max t t') (max l l') (min b b') (min r r') w
    rw [areaE_yes y0] at KY
    have KA := fun w => has15 t l b r (max t t') (max l l') w
    have KB := fun w => has15 t' l' b' r' (max t t') (max l l') w
    have KC := fun w => has15 t l b r (min b b') (min r r') w
    have KD := fun w => has15 t' l' b' r' (min b b') (min r r') w
    rw [y1] at KA
    rw [y2] at KB
    rw [y3] at KC
    rw [y4] at KD
    cases hP : hasB t l b r x y <;> rw [hP] at KP KR
    · exact meets_yes_f t l b r t' l' b' r' x y _ _ _ _ w K1 K2 KP KR KY KA KB KC KD
    · cases hQ : hasB t' l' b' r' x y <;> rw [hQ] at KQ KR
      · exact meets_yes_tf t l b r t' l' b' r' x y _ _ _ _ w K1 K2 KP KQ KR KY KA KB KC KD
      · exact meets_yes_tt t l b r t' l' b' r' x y _ _ _ _ w K1 K2 KP KQ KR KY KA KB KC KD
end Go.Proofs.Ythcogckkeegokaa
