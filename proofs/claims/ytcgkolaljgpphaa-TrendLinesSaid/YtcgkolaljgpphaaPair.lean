/- The line through two points. -/
import Derived.Test.YtcgkolaljgpphaaExact
import Derived.Test.YtcgkolaljgpphaaLine
namespace Go.Proofs.Ytcgkolaljgpphaa
set_option linter.unusedVariables false
set_option linter.unusedSimpArgs false
open Ieee

theorem near_eq {k R Q S : Nat} (hn : Near k Q S) (hS : 0 < S) (h : rv R * S = Q) : k = R :=
  Nat.le_antisymm (hn.le hS (by rw [h]; exact Nat.le_refl _)) (hn.ge hS (by rw [h]; exact Nat.le_refl _))

theorem quo_zero {s t : Bool} {q : Nat} (hq : q < double.infRung) (hq0 : q ≠ 0) : floatBits .quo .f64 (double.word s 0) (double.word t q) = some (double.word (s ^^ t) 0) := by
  obtain ⟨m, i, e1, e2, e3, e4⟩ := read_word (s := s) (r := 0) (by rw [d_inf]; omega)
  obtain ⟨n, j, f1, f2, f3, f4⟩ := read_word (s := t) hq
  have hm : m = 0 := e4.2 rfl
  have hn : n ≠ 0 := fun h => hq0 (f4.1 h)
  subst hm
  show double.div _ _ = _
  unfold Format.div
  rw [e1, f1]
  unfold Datum.quotient
  dsimp only
  rw [if_neg hn]
  simp [Format.write, Format.nearest]

theorem sgn_of {z r : Nat} {s : Bool} {v : Int} (hv : sv s r = v * ((2 ^ z : Nat) : Int)) (hv0 : v ≠ 0) : s = decide (v < 0) := by
  have hp := pow_cast z
  unfold sv at hv
  cases s with
  | false =>
    simp only [Bool.false_eq_true, if_false] at hv
    by_cases h1 : v < 0
    · have := Int.mul_neg_of_neg_of_pos h1 hp; omega
    · simp [h1]
  | true =>
    simp only [if_true] at hv
    by_cases h1 : v < 0
    · simp [h1]
    · have := Int.mul_pos (show 0 < v by omega) hp; omega
theorem rung_ne {z r : Nat} {s : Bool} {v : Int} (hv : sv s r = v * ((2 ^ z : Nat) : Int)) (hv0 : v ≠ 0) : r ≠ 0 := by
  intro h
  have := abs_of hv
  rw [h, rv_zero] at this
  rcases Nat.mul_eq_zero.1 this.symm with h1 | h1
  · omega
  · have := Nat.two_pow_pos z; omega
theorem rung_zero {z r : Nat} {s : Bool} (hv : sv s r = 0 * ((2 ^ z : Nat) : Int)) : r = 0 := by
  have := abs_of hv
  rw [Int.natAbs_zero, Nat.zero_mul] at this
  by_cases h : r = 0
  · exact h
  · have := rv_pos h; omega

theorem fdiv_ex {z W : Nat} (hz : z = 1072) {x y : Nat} {v u : Int} (hx : EC z x v) (hy : EC z y (W : Int)) (hW : 0 < W) (h : 4 * v = u * W) (hN : u.natAbs < 2 ^ 53) : EC z (fdiv x y) u := by
  obtain ⟨s, r, rfl, h2, h3, hc⟩ := hx
  obtain ⟨t, q, rfl, k2, k3, kc⟩ := hy
  have ht : t = false := by rw [sgn_of k3 (by omega)]; simp
  subst ht
  have hq0 := rung_ne k3 (by omega)
  by_cases hv0 : v = 0
  · subst hv0
    have hr := rung_zero h3
    subst hr
    have hs := hc rfl
    subst hs
    have hu : u = 0 := by
      rcases Int.mul_eq_zero.1 (show u * (W : Int) = 0 by omega) with h | h
      · exact h
      · omega
    subst hu
    unfold fdiv
    rw [quo_zero k2 hq0]
    exact ⟨false, 0, rfl, h2, by simp [sv, rv_zero], fun _ => rfl⟩
  · have hr0 := rung_ne h3 hv0
    obtain ⟨k, g1, g2⟩ := quot_near (s := s) (t := false) (z := z + 2) (by omega) h2 k2 hr0 hq0
    have ha := abs_of h3
    have hb := abs_of k3
    rw [Int.natAbs_natCast] at hb
    have hu0 : u ≠ 0 := fun e => by rw [e, Int.zero_mul] at h; omega
    have hab : 4 * v.natAbs = u.natAbs * W := by
      have := congrArg Int.natAbs h
      rw [Int.natAbs_mul, Int.natAbs_mul, Int.natAbs_natCast] at this
      exact this
    obtain ⟨R, hR1, hR2⟩ := rung_of (c := u.natAbs) (E := z) (by omega) hN (by omega)
    have hk : k = R := near_eq g2 (rv_pos hq0) (by
      rw [hR1, hb, ha, Nat.pow_add 2 z 2]
      have : u.natAbs * 2 ^ z * (W * 2 ^ z) = u.natAbs * W * (2 ^ z * 2 ^ z) := by ac_rfl
      rw [this, ← hab]
      generalize 2 ^ z = Z
      rw [show (2 : Nat) ^ 2 = 4 from rfl]
      ac_rfl)
    subst hk
    have hi : k < double.infRung := by rw [d_inf]; subst hz; omega
    unfold fdiv
    rw [g1, Nat.min_eq_left (Nat.le_of_lt hi)]
    refine ⟨_, k, rfl, hi, sv_of hR1 (fun _ => ?_), fun hk => ?_⟩
    · rw [Bool.xor_false, sgn_of h3 hv0]
      have : v < 0 ↔ u < 0 := by
        constructor
        · intro hv
          by_cases h1 : u < 0
          · exact h1
          · have := Int.mul_nonneg (show 0 ≤ u by omega) (show (0 : Int) ≤ W by omega); omega
        · intro hu
          have := Int.mul_neg_of_neg_of_pos hu (show (0 : Int) < W by omega); omega
      simp only [this]
    · exfalso
      rw [hk, rv_zero] at hR1
      rcases Nat.mul_eq_zero.1 hR1.symm with h1 | h1
      · omega
      · have := Nat.two_pow_pos z; omega

theorem mul_near {s t : Bool} {r q z : Nat} (hz : z = 1074) (hr : r < double.infRung) (hq : q < double.infRung) :
    ∃ k, floatBits .mul .f64 (double.word s r) (double.word t q) = some (double.word (s ^^ t) (min k double.infRung)) ∧ Near k (rv r * rv q) (2 ^ z) := by
  obtain ⟨m, i, e1, e2, e3, _⟩ := read_word (s := s) hr
  obtain ⟨n, j, f1, f2, f3, _⟩ := read_word (s := t) hq
  have h : floatBits .mul .f64 (double.word s r) (double.word t q) = some (double.nearest (s ^^ t) (m * n) (i + j)) := by
    show double.mul _ _ = _
    unfold Format.mul
    rw [e1, f1]
    rfl
  obtain ⟨k, hk, hn⟩ := nearest_near (s ^^ t) (m * n) (i + j)
  refine ⟨k, by rw [h, hk], (Near.congr (Nat.two_pow_pos _) (Nat.two_pow_pos _) ?_).1 hn⟩
  rw [← e3, ← f3]
  have a1 : m * n * 2 ^ (i + j + 1074).toNat * 2 ^ z = m * n * 2 ^ ((i + j + 1074).toNat + z) := by rw [Nat.pow_add]; ac_rfl
  have a2 : m * 2 ^ (i + 1074).toNat * (n * 2 ^ (j + 1074).toNat) * 2 ^ (-(i + j + 1074)).toNat = m * n * 2 ^ ((i + 1074).toNat + (j + 1074).toNat + (-(i + j + 1074)).toNat) := by
    rw [Nat.pow_add, Nat.pow_add]; ac_rfl
  rw [a1, a2]
  congr 2
  omega
theorem rung_one (z y : Nat) (hy : y = 1022) (hz : z = 52 + y) : rv (1023 * 2 ^ 52) = 2 ^ z := by
  have h := rv_add y (2 ^ 52) (.inr (Nat.le_refl _)) (by omega)
  have e : (1023 * 2 ^ 52 : Nat) = y * 2 ^ 52 + 2 ^ 52 := by omega
  rw [e, h, ← Nat.pow_add, hz]

theorem ec_zero (z : Nat) : EC z 0 0 := ⟨false, 0, by decide, by rw [d_inf]; omega, by simp [sv, rv_zero], fun _ => rfl⟩
theorem EC.cast {z x : Nat} {v u : Int} (h : EC z x v) (e : v = u) : EC z x u := e ▸ h

/-- What two points give, in quarters. -/
theorem mean_two {z : Nat} (hz : z = 1072) (a b : Int) (ha : a.natAbs ≤ 32768) (hb : b.natAbs ≤ 32768) : EC z (meanV [floatOfInt .f64 a, floatOfInt .f64 b]) (2 * (a + b)) := by
  have h1 := fadd_ex hz (ec_zero z) (fint_ex hz a (by omega)).ev (by omega)
  have h2 := fadd_ex hz h1 (fint_ex hz b (by omega)).ev (by omega)
  have h3 := fint_ex hz 2 (by decide)
  exact fdiv_ex (W := 8) hz h2 (h3.cast (by rfl)) (by omega) (by push_cast; omega) (by omega)
theorem spread_two {z : Nat} (hz : z = 1072) (a b c d : Int) (ha : a.natAbs ≤ 32768) (hb : b.natAbs ≤ 32768) (hc : c.natAbs ≤ 32768) (hd : d.natAbs ≤ 32768) (p q : Int) (hp : b - a = p) (hq : d - c = q) (hpq : (p * q).natAbs ≤ 2 ^ 40) :
    EC z (spreadV (meanV [floatOfInt .f64 a, floatOfInt .f64 b]) (meanV [floatOfInt .f64 c, floatOfInt .f64 d]) [floatOfInt .f64 a, floatOfInt .f64 b] [floatOfInt .f64 c, floatOfInt .f64 d]) (2 * (p * q)) := by
  have m1 := mean_two hz a b ha hb
  have m2 := mean_two hz c d hc hd
  have x1 := (fsub_ex hz (fint_ex hz a (by omega)) m1.ev (by omega)).cast (show _ = -2 * p by omega)
  have x2 := (fsub_ex hz (fint_ex hz b (by omega)) m1.ev (by omega)).cast (show _ = 2 * p by omega)
  have y1 := (fsub_ex hz (fint_ex hz c (by omega)) m2.ev (by omega)).cast (show _ = -2 * q by omega)
  have y2 := (fsub_ex hz (fint_ex hz d (by omega)) m2.ev (by omega)).cast (show _ = 2 * q by omega)
  have e1 : -2 * p * (-2 * q) = 4 * (p * q) := by rw [show (4 : Int) = -2 * -2 by rfl]; ac_rfl
  have e2 : 2 * p * (2 * q) = 4 * (p * q) := by rw [show (4 : Int) = 2 * 2 by rfl]; ac_rfl
  have p1 := fmul_ex hz x1.ev y1.ev e1 (by omega)
  have p2 := fmul_ex hz x2.ev y2.ev e2 (by omega)
  have s1 := fadd_ex hz (ec_zero z) p1 (by omega)
  have s2 := fadd_ex hz s1 p2 (by omega)
  exact s2.cast (by omega)

theorem order_zero {z x : Nat} (h : EC z x 0) : double.order x 0 = some .eq := by
  obtain ⟨s, r, rfl, h2, h3, hc⟩ := h
  have hr := rung_zero h3
  subst hr
  rw [hc rfl]
  decide +kernel
theorem order_ne {z x : Nat} {v : Int} (h : EC z x v) (hv : v ≠ 0) : double.order x 0 ≠ some .eq := by
  obtain ⟨s, r, rfl, h2, h3, hc⟩ := h
  have hr := rv_pos (rung_ne h3 hv)
  have e : (0 : Nat) = double.word false 0 := by decide
  rw [e, order_word h2 (by rw [d_inf]; omega), compare_int]
  have h0 : sv false 0 = 0 := by simp [sv, rv_zero]
  rw [h0]
  have hne : sv s r ≠ 0 := by unfold sv; cases s <;> simp <;> omega
  split
  · simp
  · simp

/-- A square over the product of two squares, of the same value: one. -/
theorem fit_one {x y w : Nat} {z : Nat} {v a b : Int} (hz : z = 1072) (hx : EC z x v) (hy : EC z y a) (hw : EC z w b) (hv : v ≠ 0) (ha : 0 < a) (hb : 0 < b) (h : v * v = a * b) (hxb : BndE 1243 x) (hyb : BndE 1243 y) (hwb : BndE 1243 w) :
    ∃ A B, floatBits .mul .f64 x x = some A ∧ floatBits .mul .f64 y w = some B ∧ floatBits .quo .f64 A B = some 4607182418800017408 := by
  have v1 := fmul_e (e := 1412) (z := 1074) rfl hxb hxb (by omega) (by omega) (by omega)
  have v2 := fmul_e (e := 1412) (z := 1074) rfl hyb hwb (by omega) (by omega) (by omega)
  obtain ⟨s, r, rfl, h2, h3, _⟩ := hx
  obtain ⟨t, q, rfl, k2, k3, _⟩ := hy
  obtain ⟨u, o, rfl, l2, l3, _⟩ := hw
  have ht : t = false := by rw [sgn_of k3 (by omega)]; simp; omega
  have hu : u = false := by rw [sgn_of l3 (by omega)]; simp; omega
  subst ht hu
  obtain ⟨k, g1, g2⟩ := mul_near (s := s) (t := s) (z := z + 2) (by omega) h2 h2
  obtain ⟨k', g1', g2'⟩ := mul_near (s := false) (t := false) (z := z + 2) (by omega) k2 l2
  have e : rv r * rv r = rv q * rv o := by
    rw [abs_of h3, abs_of k3, abs_of l3]
    have e1 : v.natAbs * v.natAbs = a.natAbs * b.natAbs := by rw [← Int.natAbs_mul, ← Int.natAbs_mul, h]
    have e2 : v.natAbs * 2 ^ z * (v.natAbs * 2 ^ z) = v.natAbs * v.natAbs * (2 ^ z * 2 ^ z) := by ac_rfl
    have e3 : a.natAbs * 2 ^ z * (b.natAbs * 2 ^ z) = a.natAbs * b.natAbs * (2 ^ z * 2 ^ z) := by ac_rfl
    rw [e2, e3, e1]
  rw [← e] at g2'
  have hkk := g2.unique g2' (Nat.two_pow_pos _)
  subst hkk
  have hss : (s ^^ s) = false := by cases s <;> rfl
  rw [hss] at g1
  -- it is finite, and no zero
  rw [v1.1] at g1
  have hA := Option.some.inj g1
  obtain ⟨s1, r1, w1, w2, _⟩ := v1.2
  have hmin : min k double.infRung < double.infRung := by
    rw [w1] at hA
    unfold Format.word at hA
    rw [d_sign, d_inf] at *
    cases s1
    · simp at hA; omega
    · simp at hA; omega
  have hk0 : k ≠ 0 := by
    intro h0
    have := g2.ge (R := 1) (Nat.two_pow_pos _) (by
      have e4 : rv 1 = 1 := by decide
      rw [e4, Nat.one_mul, abs_of h3, Nat.pow_add 2 z 2]
      have e5 : v.natAbs * 2 ^ z * (v.natAbs * 2 ^ z) = v.natAbs * v.natAbs * (2 ^ z * 2 ^ z) := by ac_rfl
      rw [e5]
      have e6 : 1 ≤ v.natAbs * v.natAbs := Nat.mul_pos (by omega) (by omega)
      have e7 : 2 ^ z * 2 ^ 2 ≤ 2 ^ z * 2 ^ z := Nat.mul_le_mul_left _ (Nat.pow_le_pow_right (by omega) (by omega))
      have e8 := Nat.mul_le_mul_right (2 ^ z * 2 ^ z) e6
      rw [Nat.one_mul] at e8
      exact Nat.le_trans e7 e8)
    omega
  have hmk : min k double.infRung = k := by omega
  rw [hmk] at hA g1' hmin
  refine ⟨_, _, v1.1, g1', ?_⟩
  rw [hA]
  obtain ⟨n, n1, n2⟩ := quot_near (s := false) (t := false) (z := z + 2) (by omega) hmin hmin hk0 hk0
  have hn := near_eq (R := 1023 * 2 ^ 52) n2 (rv_pos hk0) (by rw [rung_one (z + 2) 1022 rfl (by omega), Nat.mul_comm])
  show floatBits .quo .f64 (double.word false k) (double.word (false ^^ false) k) = _
  rw [show (false ^^ false) = false from rfl, n1, hn, d_inf]
  rfl
end Go.Proofs.Ytcgkolaljgpphaa
