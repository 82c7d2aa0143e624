/- A quotient of two finite doubles is the double nearest to the true quotient. -/
import Derived.Test.YtcgkolaljgpphaaOrder
namespace Go.Proofs.Ytcgkolaljgpphaa
set_option linter.unusedVariables false
set_option linter.unusedSimpArgs false
open Ieee

theorem Near.congr {k Q S Q' S' : Nat} (hS : 0 < S) (hS' : 0 < S') (h : Q * S' = Q' * S) : Near k Q S ↔ Near k Q' S' := by
  rw [← Near.scale S' hS', ← Near.scale (Q := Q') S hS, Nat.mul_comm S' Q, h, Nat.mul_comm S Q', Nat.mul_comm S' S]

theorem rv_mult {k e : Nat} (h : (e + 1) * 2 ^ 52 ≤ k) : ∃ z, rv k = 2 ^ e * z := by
  obtain ⟨L, c, rfl, hc, hk⟩ := rv_dec k
  have hL : e ≤ L := by omega
  rw [rv_add L c hc (by omega)]
  obtain ⟨d, rfl⟩ := Nat.exists_eq_add_of_le hL
  exact ⟨c * 2 ^ d, by rw [Nat.pow_add]; ac_rfl⟩

theorem near_sticky {k f n rem up dn : Nat} (hn : 0 < n) (hrem : rem < n) (h0 : up = 0 ∨ dn = 0) (hf : 2 ^ 53 ≤ f) (st : Nat) (hst : st = if rem = 0 then 0 else 1)
    (h : Near k ((2 * f + st) * 2 ^ up) (2 ^ dn)) : Near k (2 * (f * n + rem) * 2 ^ up) (n * 2 ^ dn) := by
  have hU : 0 < 2 ^ up := Nat.two_pow_pos up
  have hD : 0 < 2 ^ dn := Nat.two_pow_pos dn
  -- from some rung on, what a rung stands for is a whole number of the quotient's units
  have hR : ∃ R, R ≤ k ∧ (∀ q, R ≤ q → ∃ z, rv q * 2 ^ dn = 4 * 2 ^ up * z) ∧ rv R * 2 ^ dn ≤ 2 * f * 2 ^ up := by
    rcases (by omega : dn = 0 ∨ (dn = 1 ∧ up = 0) ∨ (2 ≤ dn ∧ up = 0)) with rfl | ⟨rfl, rfl⟩ | ⟨h2, rfl⟩
    · have hv : rv ((up + 2) * 2 ^ 52 + 2 ^ 52) = 2 ^ 54 * 2 ^ up := by
        rw [rv_add _ _ (.inr (Nat.le_refl _)) (by omega), Nat.pow_add 2 up 2]
        generalize 2 ^ up = U
        omega
      have hle : 2 ^ 54 * 2 ^ up ≤ 2 * f * 2 ^ up := Nat.mul_le_mul_right _ (by omega)
      refine ⟨(up + 2) * 2 ^ 52 + 2 ^ 52, h.ge hD ?_, fun q hq => ?_, ?_⟩
      · rw [hv, Nat.pow_zero, Nat.mul_one]
        exact Nat.le_trans hle (Nat.mul_le_mul_right _ (by omega))
      · obtain ⟨z, hz⟩ := rv_mult (k := q) (e := up + 2) (by rw [Nat.add_mul (up + 2) 1, Nat.one_mul]; exact hq)
        exact ⟨z, by rw [hz, Nat.pow_add 2 up 2, Nat.pow_zero, Nat.mul_one]; generalize 2 ^ up = U; rw [Nat.mul_comm U]⟩
      · rw [hv, Nat.pow_zero, Nat.mul_one]; exact hle
    · have hv : rv (2 * 2 ^ 52) = 2 ^ 53 := by
        have := rv_add 1 (2 ^ 52) (.inr (Nat.le_refl _)) (by omega)
        rw [Nat.pow_one] at this
        rw [show (2 * 2 ^ 52 : Nat) = 1 * 2 ^ 52 + 2 ^ 52 by omega, this]
      refine ⟨2 * 2 ^ 52, h.ge hD ?_, fun q hq => ?_, ?_⟩
      · rw [hv]; omega
      · obtain ⟨z, hz⟩ := rv_mult (k := q) (e := 1) (by omega)
        exact ⟨z, by rw [hz]; omega⟩
      · rw [hv]; omega
    · refine ⟨0, Nat.zero_le _, fun q _ => ?_, by rw [rv_zero, Nat.zero_mul]; exact Nat.zero_le _⟩
      obtain ⟨d, rfl⟩ := Nat.exists_eq_add_of_le h2
      exact ⟨rv q * 2 ^ d, by rw [Nat.pow_add, Nat.pow_zero]; generalize 2 ^ d = z; rw [show (2 : Nat) ^ 2 = 4 from rfl, Nat.mul_one]; ac_rfl⟩
  obtain ⟨R, hRk, hdiv, hlow⟩ := hR
  generalize 2 ^ up = U at *
  generalize 2 ^ dn = D at *
  -- the comparison, at a midpoint that is a whole number of units
  have key : ∀ M z, M * D = 4 * U * z → (2 * ((2 * f + st) * U) ≤ M * D ↔ 2 * (2 * (f * n + rem) * U) ≤ M * (n * D)) ∧ (M * D ≤ 2 * ((2 * f + st) * U) ↔ M * (n * D) ≤ 2 * (2 * (f * n + rem) * U)) ∧
      (2 * ((2 * f + st) * U) = M * D ↔ 2 * (2 * (f * n + rem) * U) = M * (n * D)) := by
    intro M z hM
    have e1 : M * (n * D) = 4 * U * (z * n) := by
      have : M * (n * D) = M * D * n := by ac_rfl
      rw [this, hM]; ac_rfl
    have e2 : 2 * (2 * (f * n + rem) * U) = 4 * U * (f * n + rem) := by
      rw [show (4 : Nat) = 2 * 2 from rfl]; ac_rfl
    have e3 : 2 * ((2 * f + st) * U) = 2 * U * (2 * f + st) := by ac_rfl
    have e4 : 4 * U * z = 2 * U * (2 * z) := by rw [show (4 : Nat) = 2 * 2 from rfl]; ac_rfl
    have hU2 : 0 < 2 * U := by omega
    have hU4 : 0 < 4 * U := by omega
    rw [hM, e1, e2, e3, e4, Nat.mul_le_mul_left_iff hU2, Nat.mul_le_mul_left_iff hU4, Nat.mul_le_mul_left_iff hU2, Nat.mul_le_mul_left_iff hU4, Nat.mul_right_inj (by omega), Nat.mul_right_inj (by omega)]
    have hlt : z < f ∨ z = f ∨ f < z := by omega
    rcases hlt with h | rfl | h
    · have : (z + 1) * n ≤ f * n := Nat.mul_le_mul_right n h
      rw [Nat.add_mul] at this
      split at hst <;> omega
    · split at hst <;> omega
    · have : (f + 1) * n ≤ z * n := Nat.mul_le_mul_right n h
      rw [Nat.add_mul] at this
      split at hst <;> omega
  obtain ⟨z1, hz1⟩ := hdiv k hRk
  obtain ⟨z2, hz2⟩ := hdiv (k + 1) (by omega)
  obtain ⟨k1, k2, k3⟩ := key (rv k + rv (k + 1)) (z1 + z2) (by rw [Nat.add_mul, hz1, hz2, Nat.mul_add])
  refine ⟨⟨k1.1 h.1.1, fun he => h.1.2 (k3.2 he)⟩, ?_⟩
  by_cases hk0 : k = 0
  · exact .inl hk0
  · right
    obtain ⟨l1, l2⟩ := h.2.resolve_left hk0
    by_cases hRk1 : R ≤ k - 1
    · obtain ⟨z0, hz0⟩ := hdiv (k - 1) hRk1
      obtain ⟨k1', k2', k3'⟩ := key (rv (k - 1) + rv k) (z0 + z1) (by rw [Nat.add_mul, hz0, hz1, Nat.mul_add])
      exact ⟨k2'.1 l1, fun he => l2 (k3'.2 he.symm).symm⟩
    · have hRk2 : R = k := by omega
      subst hRk2
      have hlt : rv (R - 1) < rv R := rv_lt (by omega)
      have h1 : (rv (R - 1) + rv R) * (n * D) < 2 * (2 * (f * n + rem) * U) := by
        have a1 : (rv (R - 1) + rv R) * (n * D) < (rv R + rv R) * (n * D) := Nat.mul_lt_mul_of_pos_right (by omega) (Nat.mul_pos hn hD)
        have a2 : (rv R + rv R) * (n * D) = 2 * n * (rv R * D) := by rw [← Nat.two_mul]; ac_rfl
        have a3 : 2 * n * (rv R * D) ≤ 2 * n * (2 * f * U) := Nat.mul_le_mul_left _ hlow
        have a4 : 2 * n * (2 * f * U) = 2 * (2 * (f * n) * U) := by ac_rfl
        have a5 : 2 * (2 * (f * n) * U) ≤ 2 * (2 * (f * n + rem) * U) := Nat.mul_le_mul_left 2 (Nat.mul_le_mul_right U (by omega))
        omega
      exact ⟨by omega, fun he => by omega⟩

/-- The quotient of two doubles: the rung nearest to the quotient of what they stand for. -/
theorem quot_near {s t : Bool} {r q z : Nat} (hz : z = 1074) (hr : r < double.infRung) (hq : q < double.infRung) (hr0 : r ≠ 0) (hq0 : q ≠ 0) :
    ∃ k, floatBits .quo .f64 (double.word s r) (double.word t q) = some (double.word (s ^^ t) (min k double.infRung)) ∧ Near k (rv r * 2 ^ z) (rv q) := by
  obtain ⟨m, i, e1, e2, e3, e4⟩ := read_word (s := s) hr
  obtain ⟨n, j, f1, f2, f3, f4⟩ := read_word (s := t) hq
  have hm : m ≠ 0 := fun h => hr0 (e4.1 h)
  have hn : n ≠ 0 := fun h => hq0 (f4.1 h)
  obtain ⟨more, hmore⟩ : ∃ more, double.fractionBits + 2 + n.log2 - m.log2 = more := ⟨_, rfl⟩
  have h : floatBits .quo .f64 (double.word s r) (double.word t q) = some (double.nearest (s ^^ t) (2 * ((m <<< more) / n) + ((m <<< more) % n != 0).toNat) (i - j - more - 1)) := by
    show double.div _ _ = _
    unfold Format.div
    rw [e1, f1]
    unfold Datum.quotient
    dsimp only
    rw [if_neg hn, hmore]
    rfl
  obtain ⟨k, hk, hnear⟩ := nearest_near (s ^^ t) (2 * ((m <<< more) / n) + ((m <<< more) % n != 0).toNat) (i - j - more - 1)
  refine ⟨k, by rw [h, hk], ?_⟩
  have hl1 : 2 ^ m.log2 ≤ m := Nat.log2_self_le hm
  have hl2 : n < 2 ^ (n.log2 + 1) := Nat.lt_log2_self
  rw [d_frac] at hmore
  rw [Nat.shiftLeft_eq] at hnear
  have hdn : 2 ^ 53 * n ≤ m * 2 ^ more := by
    have h1 : 2 ^ 53 * 2 ^ (n.log2 + 1) ≤ 2 ^ m.log2 * 2 ^ more := by rw [← Nat.pow_add, ← Nat.pow_add]; exact Nat.pow_le_pow_right (by omega) (by omega)
    have h2 := Nat.mul_le_mul_right (2 ^ more) hl1
    have h3 : 2 ^ 53 * n ≤ 2 ^ 53 * 2 ^ (n.log2 + 1) := Nat.mul_le_mul_left _ (Nat.le_of_lt hl2)
    omega
  have hf : 2 ^ 53 ≤ m * 2 ^ more / n := (Nat.le_div_iff_mul_le (by omega)).2 hdn
  have hdm : m * 2 ^ more / n * n + m * 2 ^ more % n = m * 2 ^ more := Nat.div_add_mod' _ _
  have hrem : m * 2 ^ more % n < n := Nat.mod_lt _ (by omega)
  have hst : (m * 2 ^ more % n != 0).toNat = if m * 2 ^ more % n = 0 then 0 else 1 := by split <;> rename_i h <;> simp [h]
  have hs := near_sticky (by omega) hrem (by omega) hf _ hst hnear
  rw [hdm] at hs
  refine (Near.congr ?_ ?_ ?_).1 hs
  · exact Nat.mul_pos (by omega) (Nat.two_pow_pos _)
  · exact rv_pos hq0
  · rw [← e3, ← f3]
    obtain ⟨P, hP⟩ : ∃ P, (i - j - (more : Int) - 1 + 1074).toNat = P := ⟨_, rfl⟩
    obtain ⟨Q, hQ⟩ : ∃ Q, (-(i - j - (more : Int) - 1 + 1074)).toNat = Q := ⟨_, rfl⟩
    rw [hP, hQ]
    have e5 : 2 * (m * 2 ^ more) * 2 ^ P * (n * 2 ^ (j + 1074).toNat) = m * n * 2 ^ (1 + more + P + (j + 1074).toNat) := by
      rw [Nat.pow_add 2 (1 + more + P), Nat.pow_add 2 (1 + more), Nat.pow_add 2 1, Nat.pow_one]; ac_rfl
    have e6 : m * 2 ^ (i + 1074).toNat * 2 ^ z * (n * 2 ^ Q) = m * n * 2 ^ ((i + 1074).toNat + z + Q) := by
      rw [Nat.pow_add 2 ((i + 1074).toNat + z), Nat.pow_add 2 (i + 1074).toNat]; ac_rfl
    rw [e5, e6]
    congr 2
    omega
end Go.Proofs.Ytcgkolaljgpphaa
