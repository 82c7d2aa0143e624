/- Sums, differences and products of small quarters are exact. -/
import Derived.Test.YtcgkolaljgpphaaQuot
namespace Go.Proofs.Ytcgkolaljgpphaa
set_option linter.unusedVariables false
set_option linter.unusedSimpArgs false
open Ieee

/-- x stands for v units of 2 ^ z. -/
def EV (z x : Nat) (v : Int) : Prop := ∃ s r, x = double.word s r ∧ r < double.infRung ∧ sv s r = v * ((2 ^ z : Nat) : Int)
/-- .. and is not -0. -/
def EC (z x : Nat) (v : Int) : Prop := ∃ s r, x = double.word s r ∧ r < double.infRung ∧ sv s r = v * ((2 ^ z : Nat) : Int) ∧ (r = 0 → s = false)
theorem EC.ev {z x : Nat} {v : Int} (h : EC z x v) : EV z x v := by obtain ⟨s, r, h1, h2, h3, _⟩ := h; exact ⟨s, r, h1, h2, h3⟩

theorem pow_cast (z : Nat) : (0 : Int) < ((2 ^ z : Nat) : Int) := Int.natCast_pos.2 (Nat.two_pow_pos z)
theorem sv_abs (s : Bool) (r : Nat) : (sv s r).natAbs = rv r := by unfold sv; cases s <;> simp
theorem sv_neg (s : Bool) (r : Nat) : sv (!s) r = -sv s r := by unfold sv; cases s <;> simp
theorem abs_of {s : Bool} {r z : Nat} {v : Int} (h : sv s r = v * ((2 ^ z : Nat) : Int)) : rv r = v.natAbs * 2 ^ z := by
  rw [← sv_abs s r, h, Int.natAbs_mul, Int.natAbs_natCast]

theorem near_exact (s : Bool) (m : Nat) (p : Int) {z N : Nat} (hz : z = 1072) (hN : N < 2 ^ 53) (h : m * 2 ^ (p + 1074).toNat = N * 2 ^ z * 2 ^ (-(p + 1074)).toNat) :
    ∃ r, double.nearest s m p = double.word s r ∧ r < double.infRung ∧ rv r = N * 2 ^ z := by
  obtain ⟨k, hk, hn⟩ := nearest_near s m p
  rw [h] at hn
  have hR : ∃ R, rv R = N * 2 ^ z ∧ R < double.infRung := by
    rcases Nat.eq_zero_or_pos N with rfl | h0
    · exact ⟨0, by rw [rv_zero, Nat.zero_mul], by rw [d_inf]; omega⟩
    · obtain ⟨R, h1, h2⟩ := rung_of (c := N) (E := z) h0 hN (by omega)
      exact ⟨R, h1, by rw [d_inf]; subst hz; omega⟩
  obtain ⟨R, h1, h2⟩ := hR
  have ha := hn.le (R := R) (Nat.two_pow_pos _) (by rw [h1]; exact Nat.le_refl _)
  have hb := hn.ge (R := R) (Nat.two_pow_pos _) (by rw [h1]; exact Nat.le_refl _)
  have hkR : k = R := Nat.le_antisymm ha hb
  subst hkR
  exact ⟨k, by rw [hk, Nat.min_eq_left (Nat.le_of_lt h2)], h2, h1⟩

theorem sv_of {z : Nat} {u : Int} {s : Bool} {r : Nat} (hr : rv r = u.natAbs * 2 ^ z) (hs : u ≠ 0 → s = decide (u < 0)) : sv s r = u * ((2 ^ z : Nat) : Int) := by
  unfold sv
  rw [hr, Int.natCast_mul]
  by_cases h0 : u = 0
  · subst h0; cases s <;> simp
  · rw [hs h0]
    by_cases h1 : u < 0
    · have : ((u.natAbs : Nat) : Int) = -u := by omega
      rw [this]; simp [h1, Int.neg_mul]
    · have : ((u.natAbs : Nat) : Int) = u := by omega
      rw [this]; simp [h1]

theorem sum_exact {z : Nat} (hz : z = 1072) {s t : Bool} {m n r q : Nat} {i j : Int} {v w : Int} (hi : -1074 ≤ i) (hj : -1074 ≤ j) (hm : m * 2 ^ (i + 1074).toNat = rv r) (hn : n * 2 ^ (j + 1074).toNat = rv q)
    (hv : sv s r = v * ((2 ^ z : Nat) : Int)) (hw : sv t q = w * ((2 ^ z : Nat) : Int)) (hN : (v + w).natAbs < 2 ^ 53) (hc : r = 0 → s = false) :
    ∃ d, Datum.sum (.number s m i) (.number t n j) = some d ∧ EC z (double.write d) (v + w) := by
  refine ⟨_, rfl, ?_⟩
  unfold Format.write
  dsimp only
  obtain ⟨tot, htot⟩ : ∃ tot, signed s m (i - min i j).toNat + signed t n (j - min i j).toNat = tot := ⟨_, rfl⟩
  rw [htot]
  have h2 : tot * ((2 ^ (min i j + 1074).toNat : Nat) : Int) = (v + w) * ((2 ^ z : Nat) : Int) := by
    rw [← htot, Int.add_mul, signed_up s m i (min i j) (by omega) (by omega), signed_up t n j (min i j) (by omega) (by omega), hm, hn, Int.add_mul, ← hv, ← hw]
    rfl
  have hab : tot.natAbs * 2 ^ (min i j + 1074).toNat = (v + w).natAbs * 2 ^ z := by
    have := congrArg Int.natAbs h2
    rwa [Int.natAbs_mul, Int.natAbs_mul, Int.natAbs_natCast, Int.natAbs_natCast] at this
  obtain ⟨k, h3, h4, h5⟩ := near_exact (if tot = 0 then s && t else decide (tot < 0)) tot.natAbs (min i j) hz hN (by
    rw [hab, show (-(min i j + 1074)).toNat = 0 by omega, Nat.pow_zero, Nat.mul_one])
  have hp1 := pow_cast (min i j + 1074).toNat
  have hp2 := pow_cast z
  have hz0 : tot = 0 ↔ v + w = 0 := by
    constructor
    · intro h
      rw [h, Int.zero_mul] at h2
      rcases Int.mul_eq_zero.1 h2.symm with h | h
      · exact h
      · omega
    · intro h
      rw [h, Int.zero_mul] at h2
      rcases Int.mul_eq_zero.1 h2 with h | h
      · exact h
      · omega
  have hlt : tot < 0 ↔ v + w < 0 := by
    constructor
    · intro h
      have h6 : tot * ((2 ^ (min i j + 1074).toNat : Nat) : Int) < 0 := Int.mul_neg_of_neg_of_pos h hp1
      rw [h2] at h6
      by_cases h7 : v + w < 0
      · exact h7
      · have := Int.mul_nonneg (show 0 ≤ v + w by omega) (Int.le_of_lt hp2); omega
    · intro h
      have h6 : (v + w) * ((2 ^ z : Nat) : Int) < 0 := Int.mul_neg_of_neg_of_pos h hp2
      rw [← h2] at h6
      by_cases h7 : tot < 0
      · exact h7
      · have := Int.mul_nonneg (show 0 ≤ tot by omega) (Int.le_of_lt hp1); omega
  refine ⟨_, k, h3, h4, sv_of h5 (fun h => ?_), fun hk => ?_⟩
  · rw [if_neg (fun h' => h (hz0.1 h'))]
    simp only [hlt]
  · have hvw : v + w = 0 := by
      rw [hk, rv_zero] at h5
      have hp := Nat.two_pow_pos z
      rcases Nat.mul_eq_zero.1 h5.symm with h | h
      · omega
      · omega
    rw [if_pos (hz0.2 hvw)]
    cases s with
    | false => rfl
    | true =>
      cases t with
      | false => rfl
      | true =>
        exfalso
        have hr : r ≠ 0 := fun h => by have := hc h; cases this
        have h8 := rv_pos hr
        have h9 : sv true r + sv true q = 0 := by rw [hv, hw, ← Int.add_mul, hvw, Int.zero_mul]
        simp only [sv, if_true] at h9
        omega

theorem fadd_ex {z : Nat} (hz : z = 1072) {x y : Nat} {v w : Int} (hx : EC z x v) (hy : EV z y w) (hN : (v + w).natAbs < 2 ^ 53) : EC z (fadd x y) (v + w) := by
  obtain ⟨s, r, rfl, h2, h3, hc⟩ := hx
  obtain ⟨t, q, rfl, k2, k3⟩ := hy
  obtain ⟨m, i, e1, e2, e3, _⟩ := read_word (s := s) h2
  obtain ⟨n, j, f1, f2, f3, _⟩ := read_word (s := t) k2
  obtain ⟨d, hd, he⟩ := sum_exact hz (s := s) (t := t) e2 f2 e3 f3 h3 k3 hN hc
  have h : floatBits .add .f64 (double.word s r) (double.word t q) = some (double.write d) := by
    show double.add _ _ = _
    unfold Format.add
    rw [e1, f1, hd]
    rfl
  unfold fadd
  rw [h]
  exact he
theorem fsub_ex {z : Nat} (hz : z = 1072) {x y : Nat} {v w : Int} (hx : EC z x v) (hy : EV z y w) (hN : (v + -w).natAbs < 2 ^ 53) : EC z (fsub x y) (v + -w) := by
  obtain ⟨s, r, rfl, h2, h3, hc⟩ := hx
  obtain ⟨t, q, rfl, k2, k3⟩ := hy
  obtain ⟨m, i, e1, e2, e3, _⟩ := read_word (s := s) h2
  obtain ⟨n, j, f1, f2, f3, _⟩ := read_word (s := t) k2
  obtain ⟨d, hd, he⟩ := sum_exact hz (s := s) (t := !t) (w := -w) e2 f2 e3 f3 h3 (by rw [sv_neg, k3, Int.neg_mul]) hN hc
  have h : floatBits .sub .f64 (double.word s r) (double.word t q) = some (double.write d) := by
    show double.sub _ _ = _
    unfold Format.sub
    rw [e1, f1]
    show (Datum.sum (.number s m i) (.number (!t) n j)).map _ = _
    rw [hd]
    rfl
  unfold fsub
  rw [h]
  exact he

theorem prod_eq {m n : Nat} {i j : Int} {K z y : Nat} (hy : y = 1074) (hi : -1074 ≤ i) (hj : -1074 ≤ j) (h0 : m * 2 ^ (i + 1074).toNat * (n * 2 ^ (j + 1074).toNat) = K * 2 ^ y) :
    m * n * 2 ^ (i + j + 1074).toNat = K * 2 ^ (-(i + j + 1074)).toNat := by
  have h1 : m * 2 ^ (i + 1074).toNat * (n * 2 ^ (j + 1074).toNat) = m * n * 2 ^ ((i + 1074).toNat + (j + 1074).toNat) := by rw [Nat.pow_add]; ac_rfl
  rw [h1] at h0
  rcases Int.le_total 0 (i + j + 1074) with h | h
  · have e1 : (i + 1074).toNat + (j + 1074).toNat = (i + j + 1074).toNat + y := by omega
    have e2 : (-(i + j + 1074)).toNat = 0 := by omega
    rw [e1, Nat.pow_add, ← Nat.mul_assoc] at h0
    rw [e2, Nat.pow_zero, Nat.mul_one]
    exact Nat.eq_of_mul_eq_mul_right (Nat.two_pow_pos y) h0
  · have e1 : (i + j + 1074).toNat = 0 := by omega
    have e3 : y = (-(i + j + 1074)).toNat + ((i + 1074).toNat + (j + 1074).toNat) := by omega
    have e4 : K * 2 ^ y = K * 2 ^ (-(i + j + 1074)).toNat * 2 ^ ((i + 1074).toNat + (j + 1074).toNat) := by
      rw [Nat.mul_assoc, ← Nat.pow_add, ← e3]
    rw [e4] at h0
    rw [e1, Nat.pow_zero, Nat.mul_one]
    exact Nat.eq_of_mul_eq_mul_right (Nat.two_pow_pos _) h0

theorem fmul_ex {z : Nat} (hz : z = 1072) {x y : Nat} {v w u : Int} (hx : EV z x v) (hy : EV z y w) (hu : v * w = 4 * u) (hN : u.natAbs < 2 ^ 53) : EV z (fmul x y) u := by
  obtain ⟨s, r, rfl, h2, h3⟩ := hx
  obtain ⟨t, q, rfl, k2, k3⟩ := hy
  obtain ⟨m, i, e1, e2, e3, _⟩ := read_word (s := s) h2
  obtain ⟨n, j, f1, f2, f3, _⟩ := read_word (s := t) k2
  have h : floatBits .mul .f64 (double.word s r) (double.word t q) = some (double.nearest (s ^^ t) (m * n) (i + j)) := by
    show double.mul _ _ = _
    unfold Format.mul
    rw [e1, f1]
    rfl
  have ha := abs_of h3
  have hb := abs_of k3
  have hab : v.natAbs * w.natAbs = 4 * u.natAbs := by
    rw [← Int.natAbs_mul, hu, Int.natAbs_mul]
    rfl
  obtain ⟨k, g1, g2, g3⟩ := near_exact (s ^^ t) (m * n) (i + j) hz hN (prod_eq (z := z) (y := z + 2) (by omega) e2 f2 (by
    rw [e3, f3, ha, hb]
    have : v.natAbs * 2 ^ z * (w.natAbs * 2 ^ z) = v.natAbs * w.natAbs * (2 ^ z * 2 ^ z) := by ac_rfl
    rw [this, hab, Nat.pow_add 2 z 2]
    generalize 2 ^ z = Z
    rw [show (2 : Nat) ^ 2 = 4 from rfl]
    ac_rfl))
  unfold fmul
  rw [h]
  refine ⟨_, k, g1, g2, sv_of g3 (fun h0 => ?_)⟩
  have hp := pow_cast z
  have sgn : ∀ {s : Bool} {r : Nat} {v : Int}, sv s r = v * ((2 ^ z : Nat) : Int) → v ≠ 0 → s = decide (v < 0) := by
    intro s r v hv hv0
    unfold sv at hv
    cases s with
    | false =>
      simp only [Bool.false_eq_true, if_false] at hv
      by_cases h1 : v < 0
      · have := Int.mul_neg_of_neg_of_pos h1 hp; omega
      · simp [h1]
    | true =>
      simp only [if_true] at hv
      by_cases h1 : v < 0
      · simp [h1]
      · have := Int.mul_pos (show 0 < v by omega) hp; omega
  have hv0 : v ≠ 0 := fun e => by rw [e, Int.zero_mul] at hu; omega
  have hw0 : w ≠ 0 := fun e => by rw [e, Int.mul_zero] at hu; omega
  rw [sgn h3 hv0, sgn k3 hw0]
  by_cases h1 : v < 0
  · by_cases h4 : w < 0
    · have := Int.mul_pos_of_neg_of_neg h1 h4
      have h5 : ¬ u < 0 := by omega
      simp [h1, h4, h5]
    · have := Int.mul_neg_of_neg_of_pos h1 (show 0 < w by omega)
      have h5 : u < 0 := by omega
      simp [h1, h4, h5]
  · by_cases h4 : w < 0
    · have := Int.mul_neg_of_pos_of_neg (show 0 < v by omega) h4
      have h5 : u < 0 := by omega
      simp [h1, h4, h5]
    · have := Int.mul_pos (show 0 < v by omega) (show 0 < w by omega)
      have h5 : ¬ u < 0 := by omega
      simp [h1, h4, h5]

/-- A small whole number, in quarters. -/
theorem fint_ex {z : Nat} (hz : z = 1072) (n : Int) (h : n.natAbs < 2 ^ 50) : EC z (floatOfInt .f64 n) (4 * n) := by
  rw [fint_word]
  obtain ⟨k, g1, g2, g3⟩ := near_exact (decide (n < 0)) n.natAbs 0 (N := 4 * n.natAbs) hz (by omega) (by
    rw [show ((0 : Int) + 1074).toNat = z + 2 by omega, show (-((0 : Int) + 1074)).toNat = 0 by omega, Nat.pow_zero, Nat.mul_one, Nat.pow_add]
    generalize 2 ^ z = Z
    rw [show (2 : Nat) ^ 2 = 4 from rfl]
    ac_rfl)
  rw [g1]
  refine ⟨_, k, rfl, g2, sv_of (by rw [g3]; congr 1; omega) (fun h0 => ?_), fun hk => ?_⟩
  · have : (4 * n < 0) ↔ n < 0 := by omega
    simp only [this]
  · rw [hk, rv_zero] at g3
    have hp := Nat.two_pow_pos z
    rcases Nat.mul_eq_zero.1 g3.symm with h1 | h1
    · simp; omega
    · omega
end Go.Proofs.Ytcgkolaljgpphaa
