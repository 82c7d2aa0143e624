/- The line through two points: what Line gives. -/
import Derived.Test.YtcgkolaljgpphaaPair
namespace Go.Proofs.Ytcgkolaljgpphaa
set_option linter.unusedVariables false
set_option linter.unusedSimpArgs false
open Ieee

theorem pair_bnd (a b : Int) (ha : a.natAbs ≤ 32768) (hb : b.natAbs ≤ 32768) : ∀ x ∈ [floatOfInt .f64 a, floatOfInt .f64 b], BndE 1137 x := by
  intro x hx
  simp at hx
  rcases hx with rfl | rfl
  · exact fint_bd a (by omega)
  · exact fint_bd b (by omega)

theorem two_same (a c d : Int) (ha : a.natAbs ≤ 32768) (hc : c.natAbs ≤ 32768) (hd : d.natAbs ≤ 32768) :
    LineIs [floatOfInt .f64 a, floatOfInt .f64 a] [floatOfInt .f64 c, floatOfInt .f64 d] (.tuple #[slopeT 0 0 0, .int .i64 5]) := by
  obtain ⟨z, hz⟩ : ∃ z : Nat, z = 1072 := ⟨_, rfl⟩
  have h := spread_two hz a a a a ha ha ha ha 0 0 (by omega) (by omega) (by simp)
  have h2 : EC z (sXX [floatOfInt .f64 a, floatOfInt .f64 a]) 0 := by
    unfold sXX
    exact h.cast (by omega)
  exact .inl ⟨order_zero h2, rfl⟩

/-- The rise, of whatever three sums. -/
theorem rise_of {z : Nat} (hz : z = 1072) {p q : Int} {X XY dx dy : Nat} (hp0 : p ≠ 0) (SX : EC z X (2 * (p * p))) (SXY : EC z XY (2 * (p * q))) (hdx : EC z dx (4 * p)) (hdy : EC z dy (4 * q)) (hpp : 0 < p * p) (BXY : BndE 1243 XY) :
    ∃ rise Q, floatBits .quo .f64 XY X = some rise ∧ floatBits .quo .f64 dy dx = some Q ∧ double.order rise Q = some .eq ∧ BndE 1245 rise := by
  obtain ⟨s, r, e1, h2, h3, hc3⟩ := SX
  obtain ⟨t, o, e2, k2, k3, kc⟩ := SXY
  obtain ⟨u, x, e3, l2, l3, lc⟩ := hdx
  obtain ⟨y, w, e4, m2, m3, mc⟩ := hdy
  have hs : s = false := by rw [sgn_of h3 (by omega)]; simp; omega
  subst hs
  have hr0 := rung_ne h3 (by omega)
  have hx0 := rung_ne l3 (by omega)
  have hF : 2 ^ (z + 1) ≤ rv r := by
    rw [abs_of h3, Nat.pow_succ, Nat.mul_comm]
    exact Nat.mul_le_mul_right _ (by omega)
  have hdiv := fdiv_e (t := false) (e := 1245) (F := z + 1) rfl BXY h2 hF (by omega) (by omega) (by omega)
  rw [e1, e3, e4]
  refine ⟨fdiv XY (double.word false r), ?_⟩
  by_cases hq0 : q = 0
  · subst hq0
    have ho := rung_zero (k3.trans (by rw [Int.mul_zero, Int.mul_zero]))
    have hw := rung_zero (m3.trans (by rw [Int.mul_zero]))
    subst ho hw
    have hy' := mc rfl
    have ht' := kc rfl
    subst hy' ht'
    refine ⟨_, hdiv.1, quo_zero l2 hx0, ?_, hdiv.2⟩
    have hz1 := quo_zero (s := false) (t := false) h2 hr0
    have hv : fdiv XY (double.word false r) = double.word false 0 := by
      unfold fdiv
      rw [e2, hz1]
      rfl
    rw [hv]
    cases u <;> decide +kernel
  · have hpq : p * q ≠ 0 := Int.mul_ne_zero hp0 hq0
    have ho0 := rung_ne k3 (by omega)
    have hw0 := rung_ne m3 (by omega)
    obtain ⟨k, g1, g2⟩ := quot_near (s := t) (t := false) (z := z + 2) (by omega) k2 h2 ho0 hr0
    obtain ⟨k', g1', g2'⟩ := quot_near (s := y) (t := u) (z := z + 2) (by omega) m2 l2 hw0 hx0
    have hkk : k = k' := by
      refine g2.unique ((Near.congr (rv_pos hx0) (rv_pos hr0) ?_).1 g2') (rv_pos hr0)
      rw [abs_of h3, abs_of k3, abs_of l3, abs_of m3]
      have a1 : (4 * q).natAbs * (2 * (p * p)).natAbs = (2 * (p * q)).natAbs * (4 * p).natAbs := by
        rw [← Int.natAbs_mul, ← Int.natAbs_mul]
        congr 1
        have : (4 : Int) = 2 * 2 := rfl
        rw [this]; ac_rfl
      have a2 : (4 * q).natAbs * 2 ^ z * 2 ^ (z + 2) * ((2 * (p * p)).natAbs * 2 ^ z) = (4 * q).natAbs * (2 * (p * p)).natAbs * (2 ^ z * 2 ^ z * 2 ^ (z + 2)) := by ac_rfl
      have a3 : (2 * (p * q)).natAbs * 2 ^ z * 2 ^ (z + 2) * ((4 * p).natAbs * 2 ^ z) = (2 * (p * q)).natAbs * (4 * p).natAbs * (2 ^ z * 2 ^ z * 2 ^ (z + 2)) := by ac_rfl
      rw [a2, a3, a1]
    have hsg : (t ^^ false) = (y ^^ u) := by
      rw [sgn_of k3 (by omega), sgn_of l3 (by omega), sgn_of m3 (by omega)]
      rcases Int.lt_or_gt_of_ne hp0 with h1 | h1
      · rcases Int.lt_or_gt_of_ne hq0 with h4 | h4
        · have := Int.mul_pos_of_neg_of_neg h1 h4
          have a1 : ¬ 2 * (p * q) < 0 := by omega
          have a2 : 4 * p < 0 := by omega
          have a3 : 4 * q < 0 := by omega
          simp [a1, a2, a3]
        · have := Int.mul_neg_of_neg_of_pos h1 h4
          have a1 : 2 * (p * q) < 0 := by omega
          have a2 : 4 * p < 0 := by omega
          have a3 : ¬ 4 * q < 0 := by omega
          simp [a1, a2, a3]
      · rcases Int.lt_or_gt_of_ne hq0 with h4 | h4
        · have := Int.mul_neg_of_pos_of_neg h1 h4
          have a1 : 2 * (p * q) < 0 := by omega
          have a2 : ¬ 4 * p < 0 := by omega
          have a3 : 4 * q < 0 := by omega
          simp [a1, a2, a3]
        · have := Int.mul_pos h1 h4
          have a1 : ¬ 2 * (p * q) < 0 := by omega
          have a2 : ¬ 4 * p < 0 := by omega
          have a3 : ¬ 4 * q < 0 := by omega
          simp [a1, a2, a3]
    rw [← hkk, ← hsg] at g1'
    have hv : fdiv XY (double.word false r) = double.word (t ^^ false) (min k double.infRung) := by
      unfold fdiv
      rw [e2, g1]
      rfl
    refine ⟨_, hdiv.1, g1', ?_, hdiv.2⟩
    have hs := Bnd.self hdiv.2
    have hs2 : double.order (fdiv XY (double.word false r)) (fdiv XY (double.word false r)) = some .eq := hs
    rw [← hv]
    exact hs2

/-- The line, of whatever two lists whose three sums are such. -/
theorem line_of {z : Nat} (hz : z = 1072) {p q : Int} {fx fy : List Nat} {dx dy : Nat} (hp0 : p ≠ 0) (SX : EC z (sXX fx) (2 * (p * p))) (SXY : EC z (sXY fx fy) (2 * (p * q))) (SY : EC z (sXX fy) (2 * (q * q))) (hdx : EC z dx (4 * p)) (hdy : EC z dy (4 * q))
    (BX : BndE 1243 (sXX fx)) (BXY : BndE 1243 (sXY fx fy)) (BY : BndE 1243 (sXX fy)) (hmx : BndE 1151 (meanV fx)) (hmy : BndE 1151 (meanV fy)) :
    ∃ base rise Q, LineIs fx fy (.tuple #[slopeT base rise 4607182418800017408, .int .i64 0]) ∧ floatBits .quo .f64 dy dx = some Q ∧ double.order rise Q = some .eq := by
  have hpp : 0 < p * p := by
    rcases Int.lt_or_gt_of_ne hp0 with h | h
    · exact Int.mul_pos_of_neg_of_neg h h
    · exact Int.mul_pos h h
  obtain ⟨rise, Q, t1, t2, t3, t4⟩ := rise_of hz hp0 SX SXY hdx hdy hpp BXY
  have q2 := fmul_e (e := 1322) (z := 1074) rfl t4 hmx (by omega) (by omega) (by omega)
  have q3 := fsub_e (e := 1323) hmy q2.2 (by omega) (by omega) (by omega) (by omega)
  have hfit : (double.order (sXX fy) 0 = some .eq ∧ (4607182418800017408 : Nat) = 4607182418800017408) ∨ (double.order (sXX fy) 0 ≠ some .eq ∧ ∃ a b, floatBits .mul .f64 (sXY fx fy) (sXY fx fy) = some a ∧ floatBits .mul .f64 (sXX fx) (sXX fy) = some b ∧ floatBits .quo .f64 a b = some 4607182418800017408) := by
    by_cases hq0 : q = 0
    · subst hq0
      exact .inl ⟨order_zero (SY.cast (by omega)), rfl⟩
    · have hqq : 0 < q * q := by
        rcases Int.lt_or_gt_of_ne hq0 with h | h
        · exact Int.mul_pos_of_neg_of_neg h h
        · exact Int.mul_pos h h
      have hpq : p * q ≠ 0 := Int.mul_ne_zero hp0 hq0
      refine .inr ⟨order_ne SY (by omega), ?_⟩
      exact fit_one hz SXY SX SY (by omega) (by omega) (by omega) (by
        have e : (2 : Int) * (p * q) * (2 * (p * q)) = 2 * (p * p) * (2 * (q * q)) := by ac_rfl
        exact e) BXY BX BY
  exact ⟨_, rise, Q, .inr ⟨order_ne SX (by omega), _, rise, _, ⟨t1, ⟨_, q2.1, q3.1⟩, hfit⟩, rfl⟩, t2, t3⟩

theorem two_line (a b c d : Int) (ha : a.natAbs ≤ 32768) (hb : b.natAbs ≤ 32768) (hc : c.natAbs ≤ 32768) (hd : d.natAbs ≤ 32768) (hab : a ≠ b) :
    ∃ base rise Q, LineIs [floatOfInt .f64 a, floatOfInt .f64 b] [floatOfInt .f64 c, floatOfInt .f64 d] (.tuple #[slopeT base rise 4607182418800017408, .int .i64 0]) ∧
      floatBits .quo .f64 (floatOfInt .f64 (d - c)) (floatOfInt .f64 (b - a)) = some Q ∧ double.order rise Q = some .eq := by
  obtain ⟨p, hp⟩ : ∃ p, b - a = p := ⟨_, rfl⟩
  obtain ⟨q, hq⟩ : ∃ q, d - c = q := ⟨_, rfl⟩
  obtain ⟨z, hz⟩ : ∃ z : Nat, z = 1072 := ⟨_, rfl⟩
  have hpb : p.natAbs ≤ 65536 := by omega
  have hqb : q.natAbs ≤ 65536 := by omega
  have hp0 : p ≠ 0 := by omega
  have bnd : ∀ x y : Int, x.natAbs ≤ 65536 → y.natAbs ≤ 65536 → (x * y).natAbs ≤ 2 ^ 40 := fun x y hx hy => by
    rw [Int.natAbs_mul]
    exact Nat.le_trans (Nat.mul_le_mul hx hy) (by decide)
  rw [hp, hq]
  have bx := pair_bnd a b ha hb
  have by' := pair_bnd c d hc hd
  have hmx := (mean_bd _ bx (by simp) (by simp)).2
  have hmy := (mean_bd _ by' (by simp) (by simp)).2
  have BX := spread_bd bx bx hmx hmx rfl (by simp)
  have BXY := spread_bd bx by' hmx hmy (by simp) (by simp)
  have BY := spread_bd by' by' hmy hmy rfl (by simp)
  have SX := spread_two hz a b a b ha hb ha hb p p hp hp (bnd p p hpb hpb)
  have SXY := spread_two hz a b c d ha hb hc hd p q hp hq (bnd p q hpb hqb)
  have SY := spread_two hz c d c d hc hd hc hd q q hq hq (bnd q q hqb hqb)
  generalize [floatOfInt .f64 a, floatOfInt .f64 b] = fx at *
  generalize [floatOfInt .f64 c, floatOfInt .f64 d] = fy at *
  refine line_of (p := p) (q := q) hz hp0 ?_ ?_ ?_ (fint_ex hz p (by omega)) (fint_ex hz q (by omega)) ?_ ?_ ?_ hmx hmy
  · unfold sXX; exact SX
  · unfold sXY; exact SXY
  · unfold sXX; exact SY
  · unfold sXX; exact BX
  · unfold sXY; exact BXY
  · unfold sXX; exact BY
end Go.Proofs.Ytcgkolaljgpphaa
