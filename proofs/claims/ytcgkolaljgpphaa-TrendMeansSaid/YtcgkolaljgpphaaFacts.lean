/- What TrendMeans asks of the doubles, in one place. -/
import Derived.Test.YtcgkolaljgpphaaTwice
namespace Go.Proofs.Ytcgkolaljgpphaa
set_option linter.unusedVariables false
set_option linter.unusedSimpArgs false
open Ieee

theorem mean_quo (l : List Int) (hl : Small (2 ^ 33) l) (h0 : 1 ≤ l.length) (hn : l.length ≤ 1024) : floatBits .quo .f64 (floatOfInt .f64 (sumI l)) (floatOfInt .f64 (l.length : Int)) = some (meanV (l.map fl)) := by
  have h := (mean_bd (l.map fl) (small_bnd hl) (by simp; omega) (by simp; omega)).1
  have hs := sum_le hl
  have e := ec_unique (sum_ec (z := 1072) rfl l hl hn) (fl_ec (z := 1072) rfl (n := sumI l) (by
    have := Nat.mul_le_mul_right (2 ^ 33) hn
    omega))
  rw [e, List.length_map] at h
  exact h
theorem least_v (l : List Int) (hl : Small (2 ^ 40) l) (h0 : 1 ≤ l.length) : leastV (l.map fl) = floatOfInt .f64 (l.foldl min (l.getD 0 0)) ∧ mostV (l.map fl) = floatOfInt .f64 (l.foldl max (l.getD 0 0)) := by
  match l, h0, hl with
  | a :: l, _, hl =>
    have ha := hl a (by simp)
    exact least_fl (a :: l) a (by omega) hl
theorem fold_le (l : List Int) (a : Int) : l.foldl min a ≤ a ∧ (∀ x ∈ l, l.foldl min a ≤ x) ∧ a ≤ l.foldl max a ∧ (∀ x ∈ l, x ≤ l.foldl max a) := by
  have key : ∀ (l : List Int) (a b : Int), l.foldl min a ≤ a ∧ (∀ x ∈ l, l.foldl min a ≤ x) ∧ b ≤ l.foldl max b ∧ (∀ x ∈ l, x ≤ l.foldl max b) := by
    intro l
    induction l with
    | nil => intro a b; simp
    | cons x l ih =>
      intro a b
      obtain ⟨h1, h2, h3, h4⟩ := ih (min a x) (max b x)
      simp only [List.foldl_cons]
      refine ⟨by omega, fun y hy => ?_, by omega, fun y hy => ?_⟩
      · rcases List.mem_cons.1 hy with rfl | hy
        · omega
        · exact h2 y hy
      · rcases List.mem_cons.1 hy with rfl | hy
        · omega
        · exact h4 y hy
  exact key l a a
theorem sum_between (l : List Int) (a b : Int) (h : ∀ x ∈ l, a ≤ x ∧ x ≤ b) : a * l.length ≤ sumI l ∧ sumI l ≤ b * l.length := by
  induction l with
  | nil => simp [sumI]
  | cons x l ih =>
    have hx := h x (by simp)
    have hl := ih (fun y hy => h y (by simp [hy]))
    have e : sumI (x :: l) = x + sumI l := by
      show (x :: l).foldl (· + ·) 0 = _
      simp only [List.foldl_cons]
      rw [foldl_add]; omega
    rw [e, List.length_cons]
    push_cast
    rw [Int.mul_add, Int.mul_add]
    omega
theorem const2 : double.word false (1024 * 2 ^ 52) = 4611686018427387904 := by decide
theorem const4 : double.word false (1025 * 2 ^ 52) = 4616189618054758400 := by decide
theorem rung_two (y z j R : Nat) (hy : y = 1022 + j) (hz : z = 1074) (hR : R = y * 2 ^ 52 + 2 ^ 52) : rv R = 2 ^ j * 2 ^ z := by
  rw [hR, rv_add y (2 ^ 52) (.inr (Nat.le_refl _)) (by omega), ← Nat.pow_add, ← Nat.pow_add]
  congr 1
  omega
theorem twice_mul {j x y c R : Nat} (h : Sc j x y) (hj : j ≤ 2) (hR : R = (1022 + j) * 2 ^ 52 + 2 ^ 52) (hc : c = double.word false R) : floatBits .mul .f64 c x = some y := by
  obtain ⟨s, r, r', e1, e2, h1, h2, h3⟩ := h
  have hi : R < double.infRung := by rw [d_inf]; omega
  rw [hc, e2]
  obtain ⟨z, hz⟩ : ∃ z : Nat, z = 1074 := ⟨_, rfl⟩
  exact const_sc hi z hz (rung_two (1022 + j) z j R rfl hz hR) e1 h1 h2 h3
theorem var_zero (l : List Int) (hl : Small (2 ^ 33) l) (h0 : 1 ≤ l.length) (hn : l.length ≤ 1024) (h : l.foldl min (l.getD 0 0) = l.foldl max (l.getD 0 0)) : double.order (varV (l.map fl)) 0 = some .eq := by
  obtain ⟨_, h2, _, h4⟩ := fold_le l (l.getD 0 0)
  have hall : l = List.replicate l.length (l.foldl min (l.getD 0 0)) := List.eq_replicate_iff.2 ⟨rfl, fun x hx => by have := h2 x hx; have := h4 x hx; omega⟩
  have hmem : l.getD 0 0 ∈ l := getD_mem h0
  have ha : (l.foldl min (l.getD 0 0)).natAbs ≤ 2 ^ 33 := by
    have a1 := h2 _ hmem
    have a2 := h4 _ hmem
    have a3 := hl _ hmem
    omega
  have := var_same l.length _ ha h0 hn
  rwa [← hall] at this

theorem foldl_small2 {B : Int} {l : List Int} {a : Int} (ha : -B ≤ a ∧ a ≤ B) (hl : ∀ x ∈ l, -B ≤ x ∧ x ≤ B) : (-B ≤ l.foldl min a ∧ l.foldl min a ≤ B) ∧ (-B ≤ l.foldl max a ∧ l.foldl max a ≤ B) := by
  have key : ∀ (l : List Int) (a b : Int), (-B ≤ a ∧ a ≤ B) → (-B ≤ b ∧ b ≤ B) → (∀ x ∈ l, -B ≤ x ∧ x ≤ B) → (-B ≤ l.foldl min a ∧ l.foldl min a ≤ B) ∧ (-B ≤ l.foldl max b ∧ l.foldl max b ≤ B) := by
    intro l
    induction l with
    | nil => intro a b ha hb _; exact ⟨ha, hb⟩
    | cons x l ih =>
      intro a b ha hb hl
      have := hl x (by simp)
      exact ih _ _ (by omega) (by omega) (fun y hy => hl y (by simp [hy]))
  exact key l a a ha ha hl
theorem mean_between (l : List Int) (hl : Small (2 ^ 33) l) (h0 : 1 ≤ l.length) (hn : l.length ≤ 1024) :
    ((double.order (meanV (l.map fl)) (floatOfInt .f64 (l.foldl min (l.getD 0 0))) == some .gt || double.order (meanV (l.map fl)) (floatOfInt .f64 (l.foldl min (l.getD 0 0))) == some .eq) = true) ∧
    ((double.order (meanV (l.map fl)) (floatOfInt .f64 (l.foldl max (l.getD 0 0))) == some .lt || double.order (meanV (l.map fl)) (floatOfInt .f64 (l.foldl max (l.getD 0 0))) == some .eq) = true) := by
  obtain ⟨z, hz⟩ : ∃ z : Nat, z = 1072 := ⟨_, rfl⟩
  obtain ⟨_, h2, _, h4⟩ := fold_le l (l.getD 0 0)
  have hmem : l.getD 0 0 ∈ l := getD_mem h0
  have hs := sum_le hl
  have hS : (sumI l).natAbs < 2 ^ 50 := by
    have := Nat.mul_le_mul_right (2 ^ 33) hn
    omega
  have hsm : ∀ x ∈ l, -8589934592 ≤ x ∧ x ≤ 8589934592 := fun x hx => by have := hl x hx; omega
  have fs := foldl_small2 (B := 8589934592) (a := l.getD 0 0) (hsm _ hmem) hsm
  have sb := sum_between l _ _ (fun x hx => ⟨h2 x hx, h4 x hx⟩)
  rw [mean_fl l hl hn]
  generalize l.foldl min (l.getD 0 0) = LO at *
  generalize l.foldl max (l.getD 0 0) = HI at *
  obtain ⟨s, r, e1, r1, _, hb⟩ := quot_between (S := sumI l) (n := (l.length : Int)) (lo := LO) (hi := HI) (by omega) (by omega) hS (by omega) (by omega) sb.1 sb.2
  obtain ⟨b1, b2⟩ := hb z hz
  obtain ⟨t, q, f1, k2, k3, _⟩ := fl_ec hz (n := LO) (by omega)
  obtain ⟨u, o, g1, l2, l3, _⟩ := fl_ec hz (n := HI) (by omega)
  rw [← k3] at b1
  rw [← l3] at b2
  have f1' : floatOfInt .f64 LO = double.word t q := f1
  have g1' : floatOfInt .f64 HI = double.word u o := g1
  rw [e1, f1', g1', order_word r1 k2, order_word r1 l2, compare_int, compare_int]
  refine ⟨?_, ?_⟩
  · rw [if_neg (by omega)]
    split <;> rfl
  · by_cases h : sv s r < sv u o
    · rw [if_pos h]; rfl
    · rw [if_neg h, if_pos (by omega)]; rfl
end Go.Proofs.Ytcgkolaljgpphaa
