/- Of small whole numbers: the sum is exact, the least and the greatest are those of the numbers, the mean lies between. -/
import Derived.Test.YtcgkolaljgpphaaPair
namespace Go.Proofs.Ytcgkolaljgpphaa
set_option linter.unusedVariables false
set_option linter.unusedSimpArgs false
open Ieee

theorem ec_unique {z x y : Nat} {v : Int} (hx : EC z x v) (hy : EC z y v) : x = y := by
  obtain ⟨s, r, rfl, _, h3, hc⟩ := hx
  obtain ⟨t, q, rfl, _, k3, kc⟩ := hy
  obtain ⟨rfl, rfl⟩ := sv_inj hc kc (h3.trans k3.symm)
  rfl
theorem ec_order {z x y : Nat} {v w : Int} (hx : EC z x v) (hy : EC z y w) : double.order x y = some (compare v w) := by
  obtain ⟨s, r, rfl, h2, h3, _⟩ := hx
  obtain ⟨t, q, rfl, k2, k3, _⟩ := hy
  rw [order_word h2 k2, h3, k3, compare_mul _ _ _ (pow_cast z)]
def fl (n : Int) : Nat := floatOfInt .f64 n
theorem fl_ec {z : Nat} (hz : z = 1072) {n : Int} (h : n.natAbs < 2 ^ 50) : EC z (fl n) (4 * n) := fint_ex hz n h
theorem fl_order {a b : Int} (ha : a.natAbs < 2 ^ 50) (hb : b.natAbs < 2 ^ 50) : double.order (fl a) (fl b) = some (compare a b) := by
  rw [ec_order (fl_ec rfl ha) (fl_ec rfl hb), Int.mul_comm 4 a, Int.mul_comm 4 b, compare_mul _ _ _ (by omega)]
theorem fmin_fl {a b : Int} (ha : a.natAbs < 2 ^ 50) (hb : b.natAbs < 2 ^ 50) : fmin (fl a) (fl b) = fl (min a b) := by
  unfold fmin
  rw [fl_order hb ha]
  rcases Int.lt_trichotomy b a with h | h | h
  · have hc : compare b a = .lt := by rw [compare_int, if_pos h]
    rw [hc, if_pos rfl, Int.min_eq_right (by omega)]
  · have hc : compare b a = .eq := by rw [compare_int, if_neg (by omega), if_pos h]
    rw [hc, if_neg (by simp), Int.min_eq_left (by omega)]
  · have hc : compare b a = .gt := by rw [compare_int, if_neg (by omega), if_neg (by omega)]
    rw [hc, if_neg (by simp), Int.min_eq_left (by omega)]
theorem fmax_fl {a b : Int} (ha : a.natAbs < 2 ^ 50) (hb : b.natAbs < 2 ^ 50) : fmax (fl a) (fl b) = fl (max a b) := by
  unfold fmax
  rw [fl_order hb ha]
  rcases Int.lt_trichotomy b a with h | h | h
  · have hc : compare b a = .lt := by rw [compare_int, if_pos h]
    rw [hc, if_neg (by simp), Int.max_eq_left (by omega)]
  · have hc : compare b a = .eq := by rw [compare_int, if_neg (by omega), if_pos h]
    rw [hc, if_neg (by simp), Int.max_eq_left (by omega)]
  · have hc : compare b a = .gt := by rw [compare_int, if_neg (by omega), if_neg (by omega)]
    rw [hc, if_pos rfl, Int.max_eq_right (by omega)]

/-- Small numbers. -/
def Small (B : Nat) (l : List Int) : Prop := ∀ n ∈ l, n.natAbs ≤ B
theorem least_fl (l : List Int) (x0 : Int) (h0 : x0.natAbs < 2 ^ 50) (hl : Small (2 ^ 40) l) : (l.map fl).foldl fmin (fl x0) = fl (l.foldl min x0) ∧ (l.map fl).foldl fmax (fl x0) = fl (l.foldl max x0) := by
  have key : ∀ (l : List Int) (a b : Int), a.natAbs < 2 ^ 50 → b.natAbs < 2 ^ 50 → Small (2 ^ 40) l → (l.map fl).foldl fmin (fl a) = fl (l.foldl min a) ∧ (l.map fl).foldl fmax (fl b) = fl (l.foldl max b) := by
    intro l
    induction l with
    | nil => intro a b _ _ _; exact ⟨rfl, rfl⟩
    | cons x l ih =>
      intro a b ha hb hl
      have hx : x.natAbs < 2 ^ 50 := by have := hl x (by simp); omega
      simp only [List.map_cons, List.foldl_cons]
      rw [fmin_fl ha hx, fmax_fl hb hx]
      exact ih _ _ (by omega) (by omega) (fun n hn => hl n (by simp [hn]))
  exact key l x0 x0 h0 h0 hl

def sumI (l : List Int) : Int := l.foldl (· + ·) 0
theorem foldl_add (l : List Int) (a : Int) : l.foldl (· + ·) a = a + sumI l := by
  induction l generalizing a with
  | nil => simp [sumI]
  | cons x l ih => simp only [sumI, List.foldl_cons]; rw [ih, ih (0 + x)]; omega
theorem sum_le {B : Nat} {l : List Int} (h : Small B l) : (sumI l).natAbs ≤ l.length * B := by
  induction l with
  | nil => simp [sumI]
  | cons x l ih =>
    have hx := h x (by simp)
    have hl := ih (fun n hn => h n (by simp [hn]))
    have e : sumI (x :: l) = x + sumI l := by
      show (x :: l).foldl (· + ·) 0 = _
      simp only [List.foldl_cons]
      rw [foldl_add]; omega
    rw [e, List.length_cons, Nat.add_mul]
    omega
theorem sum_ec {z : Nat} (hz : z = 1072) (l : List Int) (hl : Small (2 ^ 33) l) (hn : l.length ≤ 1024) : EC z (sumV (l.map fl)) (4 * sumI l) := by
  have key : ∀ (l : List Int) (acc : Nat) (v : Int), EC z acc (4 * v) → Small (2 ^ 33) l → v.natAbs + l.length * 2 ^ 33 < 2 ^ 50 → EC z ((l.map fl).foldl fadd acc) (4 * (v + sumI l)) := by
    intro l
    induction l with
    | nil => intro acc v h _ _; exact h.cast (by simp [sumI])
    | cons x l ih =>
      intro acc v h hs hb
      have hx := hs x (by simp)
      rw [List.length_cons, Nat.add_mul] at hb
      simp only [List.map_cons, List.foldl_cons]
      have h1 := (fadd_ex hz h (fl_ec hz (n := x) (by omega)).ev (by omega)).cast (show 4 * v + 4 * x = 4 * (v + x) by omega)
      have h2 := ih _ _ h1 (fun n hn => hs n (by simp [hn])) (by omega)
      refine h2.cast ?_
      have e : sumI (x :: l) = x + sumI l := by
        show (x :: l).foldl (· + ·) 0 = _
        simp only [List.foldl_cons]
        rw [foldl_add]; omega
      rw [e]; omega
  exact (key l 0 0 (ec_zero z) hl (by omega)).cast (by omega)

/-- The mean's bits are those of the sum by how many. -/
theorem mean_fl (l : List Int) (hl : Small (2 ^ 33) l) (hn : l.length ≤ 1024) : meanV (l.map fl) = fdiv (fl (sumI l)) (fl (l.length : Int)) := by
  have h := sum_ec (z := 1072) rfl l hl hn
  have hs := sum_le hl
  have h2 := fl_ec (z := 1072) rfl (n := sumI l) (by
    have := Nat.mul_le_mul_right (2 ^ 33) hn
    omega)
  unfold meanV
  rw [ec_unique h h2, List.length_map]
  rfl

set_option maxHeartbeats 2000000 in
/-- A quotient lies between whole numbers that the true one lies between. -/
theorem quot_between {S n lo hi : Int} (hn : 1 ≤ n) (hnb : n.natAbs < 2 ^ 50) (hS : S.natAbs < 2 ^ 50) (hlo : lo.natAbs < 2 ^ 50) (hhi : hi.natAbs < 2 ^ 50) (h1 : lo * n ≤ S) (h2 : S ≤ hi * n) :
    ∃ s r, fdiv (fl S) (fl n) = double.word s r ∧ r < double.infRung ∧ (r = 0 → s = false) ∧ ∀ z : Nat, z = 1072 → (4 * lo) * ((2 ^ z : Nat) : Int) ≤ sv s r ∧ sv s r ≤ (4 * hi) * ((2 ^ z : Nat) : Int) := by
  obtain ⟨z, hz⟩ : ∃ z : Nat, z = 1072 := ⟨_, rfl⟩
  obtain ⟨s, r, e1, g2, g3, gc⟩ := fl_ec hz hS
  obtain ⟨t, q, e2, k2, k3, kc⟩ := fl_ec hz hnb
  obtain ⟨t1, q1, _, l2, l3, _⟩ := fl_ec hz hlo
  obtain ⟨t2, q2, _, m2, m3, _⟩ := fl_ec hz hhi
  have ht : t = false := by rw [sgn_of k3 (by omega)]; simp; omega
  subst ht
  have hq0 := rung_ne k3 (by omega)
  have hp := pow_cast z
  rw [e1, e2]
  by_cases hS0 : S = 0
  · subst hS0
    have hr := rung_zero (g3.trans (by rw [Int.mul_zero]))
    subst hr
    have hs := gc rfl
    subst hs
    refine ⟨false, 0, by unfold fdiv; rw [quo_zero k2 hq0]; rfl, g2, fun _ => rfl, fun y hy => ?_⟩
    have hyz : y = z := hy.trans hz.symm
    subst hyz
    have a1 : lo ≤ 0 := by
      by_cases h : lo ≤ 0
      · exact h
      · have := Int.mul_pos (show 0 < lo by omega) (show 0 < n by omega); omega
    have a2 : 0 ≤ hi := by
      by_cases h : 0 ≤ hi
      · exact h
      · have := Int.mul_neg_of_neg_of_pos (show hi < 0 by omega) (show 0 < n by omega); omega
    have b1 := Int.mul_nonneg (show 0 ≤ -(4 * lo) by omega) (Int.le_of_lt hp)
    have b2 := Int.mul_nonneg (show 0 ≤ 4 * hi by omega) (Int.le_of_lt hp)
    rw [Int.neg_mul] at b1
    have b3 : sv false 0 = 0 := by simp [sv, rv_zero]
    rw [b3]
    omega
  · have hr0 := rung_ne g3 (by omega)
    obtain ⟨k, c1, c2⟩ := quot_near (s := s) (t := false) (z := z + 2) (by omega) g2 k2 hr0 hq0
    have hs := sgn_of g3 (by omega)
    have ga := abs_of g3
    have ka := abs_of k3
    have la := abs_of l3
    have ma := abs_of m3
    -- compare |S| with |x| * n
    have cmp : ∀ (x : Int) (o : Nat), rv o = (4 * x).natAbs * 2 ^ z → (x.natAbs * n.natAbs ≤ S.natAbs → o ≤ k) ∧ (S.natAbs ≤ x.natAbs * n.natAbs → k ≤ o) := by
      intro x o ho
      have e3 : rv o * rv q = x.natAbs * n.natAbs * (16 * (2 ^ z * 2 ^ z)) := by
        rw [ho, ka, Int.natAbs_mul, Int.natAbs_mul, show (4 : Int).natAbs = 4 from rfl, show (16 : Nat) = 4 * 4 from rfl]
        ac_rfl
      have e4 : rv r * 2 ^ (z + 2) = S.natAbs * (16 * (2 ^ z * 2 ^ z)) := by
        rw [ga, Int.natAbs_mul, show (4 : Int).natAbs = 4 from rfl, Nat.pow_add 2 z 2, show (16 : Nat) = 4 * 2 ^ 2 from rfl]
        generalize 2 ^ z = Z
        ac_rfl
      refine ⟨fun h => c2.ge (rv_pos hq0) ?_, fun h => c2.le (rv_pos hq0) ?_⟩
      · rw [e3, e4]; exact Nat.mul_le_mul_right _ h
      · rw [e3, e4]; exact Nat.mul_le_mul_right _ h
    have hSn : S.natAbs ≤ S.natAbs * n.natAbs := Nat.le_mul_of_pos_right _ (by omega)
    have hkr : k ≤ r := (cmp S r ga).2 hSn
    have hki : k < double.infRung := by omega
    have hk0 : k ≠ 0 := by
      intro h0
      have h1v := c2.ge (R := 1) (rv_pos hq0) (by
        have e5 : rv 1 = 1 := by decide
        rw [e5, Nat.one_mul, ka, ga, Int.natAbs_mul, Int.natAbs_mul, Nat.pow_add 2 z 2]
        have e6 : (4 : Int).natAbs * n.natAbs * 2 ^ z ≤ 2 ^ 52 * 2 ^ z := Nat.mul_le_mul_right _ (by rw [show (4 : Int).natAbs = 4 from rfl]; omega)
        have e7 : 2 ^ 52 * 2 ^ z ≤ 2 ^ z * 2 ^ z := Nat.mul_le_mul_right _ (Nat.pow_le_pow_right (by omega) (by omega))
        have e8 : 2 ^ z * 2 ^ z ≤ (4 : Int).natAbs * S.natAbs * 2 ^ z * (2 ^ z * 2 ^ 2) := by
          have a1 : 1 ≤ (4 : Int).natAbs * S.natAbs * 4 := by rw [show (4 : Int).natAbs = 4 from rfl]; omega
          have a2 : (4 : Int).natAbs * S.natAbs * 2 ^ z * (2 ^ z * 2 ^ 2) = (4 : Int).natAbs * S.natAbs * 4 * (2 ^ z * 2 ^ z) := by
            generalize 2 ^ z = Z
            rw [show (2 : Nat) ^ 2 = 4 from rfl]
            ac_rfl
          rw [a2]
          have := Nat.mul_le_mul_right (2 ^ z * 2 ^ z) a1
          rwa [Nat.one_mul] at this
        exact Nat.le_trans e6 (Nat.le_trans e7 e8))
      omega
    refine ⟨s, k, by unfold fdiv; rw [c1, Nat.min_eq_left (Nat.le_of_lt hki), Bool.xor_false]; rfl, hki, fun h => absurd h hk0, fun y hy => ?_⟩
    have hyz : y = z := hy.trans hz.symm
    subst hyz
    have cl := cmp lo q1 la
    have ch := cmp hi q2 ma
    have svl : sv t1 q1 = 4 * lo * ((2 ^ y : Nat) : Int) := l3
    have svh : sv t2 q2 = 4 * hi * ((2 ^ y : Nat) : Int) := m3
    rw [← svl, ← svh, hs]
    have nab : ∀ x : Int, (x * n).natAbs = x.natAbs * n.natAbs := fun x => Int.natAbs_mul x n
    have lpos := fun (h : 0 < lo) => Int.mul_pos h (show 0 < n by omega)
    have lneg := fun (h : lo < 0) => Int.mul_neg_of_neg_of_pos h (show 0 < n by omega)
    have hpos := fun (h : 0 < hi) => Int.mul_pos h (show 0 < n by omega)
    have hneg := fun (h : hi < 0) => Int.mul_neg_of_neg_of_pos h (show 0 < n by omega)
    have sg1 : lo ≠ 0 → t1 = decide (4 * lo < 0) := fun h => sgn_of l3 (by omega)
    have sg2 : hi ≠ 0 → t2 = decide (4 * hi < 0) := fun h => sgn_of m3 (by omega)
    have z1 : lo = 0 → q1 = 0 := fun h => rung_zero (l3.trans (by rw [h, Int.mul_zero]))
    have z2 : hi = 0 → q2 = 0 := fun h => rung_zero (m3.trans (by rw [h, Int.mul_zero]))
    by_cases hneg0 : S < 0
    · have d1 : decide (4 * S < 0) = true := by simp; omega
      rw [d1]
      have hl0 : lo < 0 := by
        by_cases h : lo < 0
        · exact h
        · have := Int.mul_nonneg (show 0 ≤ lo by omega) (show 0 ≤ n by omega); omega
      have ht1 : t1 = true := by rw [sg1 (by omega)]; simp; omega
      subst ht1
      have c3 := cl.2 (by have := nab lo; have := lneg hl0; omega)
      have c4 := rv_le c3
      refine ⟨by simp only [sv, if_true]; omega, ?_⟩
      rcases Int.lt_trichotomy hi 0 with h | h | h
      · have ht2 : t2 = true := by rw [sg2 (by omega)]; simp; omega
        subst ht2
        have c5 := ch.1 (by have := nab hi; have := hneg h; omega)
        have c6 := rv_le c5
        simp only [sv, if_true]; omega
      · have := z2 h
        subst this
        unfold sv
        rw [rv_zero]
        cases t2 <;> simp <;> omega
      · have ht2 : t2 = false := by rw [sg2 (by omega)]; simp; omega
        subst ht2
        simp only [sv, if_true, Bool.false_eq_true, if_false]; omega
    · have d1 : decide (4 * S < 0) = false := by simp; omega
      rw [d1]
      have hh0 : 0 < hi := by
        by_cases h : 0 < hi
        · exact h
        · rcases Int.lt_trichotomy hi 0 with h' | h' | h'
          · have := hneg h'; omega
          · rw [h', Int.zero_mul] at h2; omega
          · omega
      have ht2 : t2 = false := by rw [sg2 (by omega)]; simp; omega
      subst ht2
      have c3 := ch.2 (by have := nab hi; have := hpos hh0; omega)
      have c4 := rv_le c3
      refine ⟨?_, by simp only [sv, Bool.false_eq_true, if_false]; omega⟩
      rcases Int.lt_trichotomy lo 0 with h | h | h
      · have ht1 : t1 = true := by rw [sg1 (by omega)]; simp; omega
        subst ht1
        simp only [sv, if_true, Bool.false_eq_true, if_false]; omega
      · have := z1 h
        subst this
        unfold sv
        rw [rv_zero]
        cases t1 <;> simp
      · have ht1 : t1 = false := by rw [sg1 (by omega)]; simp; omega
        subst ht1
        have c5 := cl.1 (by have := nab lo; have := lpos h; omega)
        have c6 := rv_le c5
        simp only [sv, Bool.false_eq_true, if_false]; omega
end Go.Proofs.Ytcgkolaljgpphaa
