/- Doubles rounded to the nearest: the rung that Ieee's 'nearest' finds is the one nearest to the exact value (between two, the even one); bounds of sums, differences, products and quotients. -/
import Derived.Laws.FloatArith
namespace Go.Proofs.Ytcgkolaljgpphaa
set_option linter.unusedVariables false
set_option linter.unusedSimpArgs false
open Ieee

/-- What a rung stands for, in units of the least subnormal number. -/
def rv (r : Nat) : Nat := if r < 2 ^ 52 then r else (2 ^ 52 + r % 2 ^ 52) * 2 ^ (r / 2 ^ 52 - 1)

theorem rv_add (L k : Nat) (h : L = 0 ∨ 2 ^ 52 ≤ k) (hk : k ≤ 2 ^ 53) : rv (L * 2 ^ 52 + k) = k * 2 ^ L := by
  unfold rv
  rcases Nat.lt_or_ge k (2 ^ 52) with h1 | h1
  · have h0 : L = 0 := by omega
    subst h0
    rw [if_pos (by omega)]
    simp
  · rcases Nat.lt_or_ge k (2 ^ 53) with h2 | h2
    · rw [if_neg (by omega)]
      have e1 : (L * 2 ^ 52 + k) % 2 ^ 52 = k - 2 ^ 52 := by omega
      have e2 : (L * 2 ^ 52 + k) / 2 ^ 52 - 1 = L := by omega
      rw [e1, e2, Nat.add_sub_cancel' h1]
    · have h3 : k = 2 ^ 53 := by omega
      rw [if_neg (by omega)]
      have e1 : (L * 2 ^ 52 + k) % 2 ^ 52 = 0 := by omega
      have e2 : (L * 2 ^ 52 + k) / 2 ^ 52 - 1 = L + 1 := by omega
      rw [e1, e2, h3, Nat.pow_succ]
      omega

theorem rv_dec (r : Nat) : ∃ L k, r = L * 2 ^ 52 + k ∧ (L = 0 ∨ 2 ^ 52 ≤ k) ∧ k < 2 ^ 53 := by
  rcases Nat.lt_or_ge r (2 ^ 53) with h | h
  · exact ⟨0, r, by omega, .inl rfl, h⟩
  · exact ⟨r / 2 ^ 52 - 1, 2 ^ 52 + r % 2 ^ 52, by omega, .inr (by omega), by omega⟩

theorem rv_succ_lt (r : Nat) : rv r < rv (r + 1) := by
  obtain ⟨L, k, rfl, h, hk⟩ := rv_dec r
  rw [rv_add L k h (by omega), Nat.add_assoc, rv_add L (k + 1) (by omega) (by omega)]
  exact Nat.mul_lt_mul_of_pos_right (by omega) (Nat.two_pow_pos L)

theorem rv_lt {r r' : Nat} (h : r < r') : rv r < rv r' := by
  induction r' with
  | zero => omega
  | succ n ih =>
    rcases Nat.lt_or_ge r n with h1 | h1
    · exact Nat.lt_trans (ih h1) (rv_succ_lt n)
    · have : r = n := by omega
      subst this
      exact rv_succ_lt r
theorem rv_le {r r' : Nat} (h : r ≤ r') : rv r ≤ rv r' := by
  rcases Nat.lt_or_ge r r' with h1 | h1
  · exact Nat.le_of_lt (rv_lt h1)
  · have : r = r' := by omega
    subst this
    exact Nat.le_refl _

/-- Rung r is nearest to Q / S; between two, the even one. -/
def Near (r Q S : Nat) : Prop :=
  (2 * Q ≤ (rv r + rv (r + 1)) * S ∧ (2 * Q = (rv r + rv (r + 1)) * S → r % 2 = 0)) ∧
  (r = 0 ∨ ((rv (r - 1) + rv r) * S ≤ 2 * Q ∧ ((rv (r - 1) + rv r) * S = 2 * Q → r % 2 = 0)))

theorem Near.le_of_lt {r r' Q S : Nat} (h : Near r Q S) (h' : Near r' Q S) (hS : 0 < S) : ¬ r < r' := by
  intro hl
  have h1 := h.1
  obtain ⟨h2, h3⟩ := h'.2.resolve_left (by omega)
  have e1 : rv r ≤ rv (r' - 1) := rv_le (by omega)
  have e2 : rv (r + 1) ≤ rv r' := rv_le (by omega)
  have e3 : (rv r + rv (r + 1)) * S ≤ (rv (r' - 1) + rv r') * S := Nat.mul_le_mul_right S (by omega)
  have e4 : (rv r + rv (r + 1)) * S = (rv (r' - 1) + rv r') * S := by omega
  have e5 := Nat.eq_of_mul_eq_mul_right hS e4
  have e6 : r + 1 = r' := by
    rcases Nat.lt_or_ge (r + 1) r' with h | h
    · have := rv_lt h; omega
    · omega
  have := h1.2 (by omega)
  have := h3 (by omega)
  omega

theorem Near.unique {r r' Q S : Nat} (h : Near r Q S) (h' : Near r' Q S) (hS : 0 < S) : r = r' := by
  have := h.le_of_lt h' hS
  have := h'.le_of_lt h hS
  omega

theorem Near.scale {r Q S : Nat} (c : Nat) (hc : 0 < c) : Near r (c * Q) (c * S) ↔ Near r Q S := by
  have e : ∀ a, a * (c * S) = c * (a * S) := fun a => by rw [Nat.mul_left_comm]
  have e' : 2 * (c * Q) = c * (2 * Q) := by rw [Nat.mul_left_comm]
  unfold Near
  rw [e, e, e', Nat.mul_le_mul_left_iff hc, Nat.mul_le_mul_left_iff hc, Nat.mul_right_inj (by omega), Nat.mul_right_inj (by omega)]

theorem Near.le {r R Q S : Nat} (h : Near r Q S) (hS : 0 < S) (hR : Q ≤ rv R * S) : r ≤ R := by
  rcases Nat.lt_or_ge R r with h1 | h1
  · exfalso
    obtain ⟨h2, h3⟩ := h.2.resolve_left (by omega)
    have e1 : rv R ≤ rv (r - 1) := rv_le (by omega)
    have e2 : rv R < rv r := rv_lt h1
    have e3 : (rv R + rv R + 1) * S ≤ (rv (r - 1) + rv r) * S := Nat.mul_le_mul_right S (by omega)
    rw [Nat.add_mul, Nat.add_mul] at e3
    omega
  · exact h1
theorem Near.ge {r R Q S : Nat} (h : Near r Q S) (hS : 0 < S) (hR : rv R * S ≤ Q) : R ≤ r := by
  rcases Nat.lt_or_ge r R with h1 | h1
  · exfalso
    obtain ⟨h2, h3⟩ := h.1
    have e1 : rv (r + 1) ≤ rv R := rv_le (by omega)
    have e2 : rv r < rv R := rv_lt h1
    have e3 : (rv r + rv (r + 1) + 1) * S ≤ (rv R + rv R) * S := Nat.mul_le_mul_right S (by omega)
    rw [Nat.add_mul, Nat.add_mul (rv R)] at e3
    omega
  · exact h1

theorem cut_even (s : Bool) (n drop : Nat) : ∀ c, c = Toward.even.cut s n drop →
    (2 * n ≤ (2 * c + 1) * 2 ^ drop ∧ (2 * n = (2 * c + 1) * 2 ^ drop → c % 2 = 0)) ∧ (2 * c * 2 ^ drop ≤ 2 * n + 2 ^ drop ∧ (2 * c * 2 ^ drop = 2 * n + 2 ^ drop → c % 2 = 0)) := by
  intro c hc
  unfold Toward.cut at hc
  simp only [Nat.one_shiftLeft] at hc
  rcases Nat.lt_or_ge (n.log2 + 2) drop with h | h
  · rw [Nat.min_eq_right (by omega)] at hc
    have h1 : n < 2 ^ (n.log2 + 1) := Nat.lt_log2_self
    have h2 : 2 ^ (n.log2 + 2) = 2 * 2 ^ (n.log2 + 1) := by rw [Nat.pow_succ (m := n.log2 + 1)]; omega
    have h3 : 2 ^ (n.log2 + 2) ≤ 2 ^ drop := Nat.pow_le_pow_right (by omega) (by omega)
    have e1 : n / 2 ^ (n.log2 + 2) = 0 := Nat.div_eq_of_lt (by omega)
    have e2 : n % 2 ^ (n.log2 + 2) = n := Nat.mod_eq_of_lt (by omega)
    rw [e1, e2] at hc
    generalize 2 ^ (n.log2 + 2) = g at *
    have hc0 : c = 0 := by
      rw [hc]
      have h5 : ¬ g < 2 * n := by omega
      have h6 : ¬ g = 2 * n := by omega
      simp [h5, h6]
    subst hc0
    omega
  · rw [Nat.min_eq_left (by omega)] at hc
    have hg : 0 < 2 ^ drop := Nat.two_pow_pos _
    generalize 2 ^ drop = g at *
    have hd := Nat.div_add_mod n g
    have hm := Nat.mod_lt n hg
    generalize n / g = low at *
    generalize n % g = rest at *
    have hcc : c = low ∧ (2 * rest < g ∨ (2 * rest = g ∧ low % 2 = 0)) ∨ c = low + 1 ∧ (g < 2 * rest ∨ (2 * rest = g ∧ low % 2 = 1)) := by
      rw [hc]
      rcases Nat.lt_trichotomy g (2 * rest) with h | h | h
      · right; simp [h]
      · rcases Nat.mod_two_eq_zero_or_one low with h' | h'
        · left; simp [h, h']
        · right; simp [h, h']
      · left
        have h1 : ¬ g < 2 * rest := by omega
        have h2 : ¬ g = 2 * rest := by omega
        simp [h1, h2, h]
    have e1 : (2 * low + 1) * g = 2 * (g * low) + g := by rw [Nat.add_mul, Nat.one_mul, Nat.mul_comm g low, Nat.mul_assoc]
    have e2 : (2 * (low + 1) + 1) * g = 2 * (g * low) + 3 * g := by rw [show 2 * (low + 1) + 1 = 2 * low + 3 by omega, Nat.add_mul, Nat.mul_comm g low, Nat.mul_assoc]
    have e3 : 2 * low * g = 2 * (g * low) := by rw [Nat.mul_comm g low, Nat.mul_assoc]
    have e4 : 2 * (low + 1) * g = 2 * (g * low) + 2 * g := by rw [show 2 * (low + 1) = 2 * low + 2 by omega, Nat.add_mul, Nat.mul_comm g low, Nat.mul_assoc]
    rcases hcc with ⟨rfl, h⟩ | ⟨rfl, h⟩
    · rw [e1, e3]; omega
    · rw [e2, e4]; omega

/-- Ieee's nearest word is that of the nearest rung. The exact value is m * 2 ^ up / 2 ^ dn of the least units. -/
theorem nearest_near (s : Bool) (m : Nat) (p : Int) : ∃ r, double.nearest s m p = double.word s (min r double.infRung) ∧ Near r (m * 2 ^ (p + 1074).toNat) (2 ^ (-(p + 1074)).toNat) := by
  by_cases hm : m = 0
  · subst hm
    refine ⟨0, by simp [Format.nearest], ?_⟩
    refine ⟨⟨by simp, fun _ => rfl⟩, .inl rfl⟩
  · have hl1 : 2 ^ m.log2 ≤ m := Nat.log2_self_le hm
    have hl2 : m < 2 ^ (m.log2 + 1) := Nat.lt_log2_self
    have hlp : double.leastPlace = -1074 := by decide
    have hbi : double.binade = 2 ^ 52 := by decide
    have hfb : double.fractionBits = 52 := by decide
    unfold Format.nearest
    rw [if_neg hm, hlp, hbi, hfb]
    obtain ⟨last, hlast⟩ : ∃ last, max (p + (m.log2 : Int) - (52 : Nat)) (-1074) = last := ⟨_, rfl⟩
    dsimp only
    rw [hlast]
    have hcut := cut_even s (m <<< (p - last).toNat) (last - p).toNat _ rfl
    generalize Toward.even.cut s (m <<< (p - last).toNat) (last - p).toNat = c at *
    obtain ⟨L, hL⟩ : ∃ L : Nat, (last - -1074).toNat = L := ⟨_, rfl⟩
    rw [hL]
    refine ⟨L * 2 ^ 52 + c, rfl, ?_⟩
    rw [Nat.shiftLeft_eq] at hcut
    -- the exact value, in units of 2 ^ last, is A / B
    have hA : ∃ t, m * 2 ^ (p + 1074).toNat * 2 ^ t * 2 ^ (last - p).toNat = m * 2 ^ (p - last).toNat * 2 ^ L * 2 ^ (-(p + 1074)).toNat * 2 ^ t := by
      refine ⟨0, ?_⟩
      rw [Nat.pow_zero, Nat.mul_one, Nat.mul_one, Nat.mul_assoc, Nat.mul_assoc, Nat.mul_assoc, ← Nat.pow_add, ← Nat.pow_add, ← Nat.pow_add]
      congr 2
      omega
    obtain ⟨t, hA⟩ := hA
    have hA' : m * 2 ^ (p + 1074).toNat * 2 ^ (last - p).toNat = m * 2 ^ (p - last).toNat * 2 ^ L * 2 ^ (-(p + 1074)).toNat := by
      have : 0 < 2 ^ t := Nat.two_pow_pos t
      refine Nat.eq_of_mul_eq_mul_right this ?_
      rw [Nat.mul_right_comm]; exact hA
    clear hA t
    have hB : 0 < 2 ^ (last - p).toNat := Nat.two_pow_pos _
    have hU : 0 < 2 ^ L := Nat.two_pow_pos _
    have hS : 0 < 2 ^ (-(p + 1074)).toNat := Nat.two_pow_pos _
    -- bounds of A / B
    have hup : m * 2 ^ (p - last).toNat < 2 ^ 53 * 2 ^ (last - p).toNat := by
      refine Nat.lt_of_lt_of_le (Nat.mul_lt_mul_of_pos_right hl2 (Nat.two_pow_pos _)) ?_
      rw [← Nat.pow_add, ← Nat.pow_add]
      exact Nat.pow_le_pow_right (by omega) (by omega)
    have hdn : L = 0 ∨ 2 ^ 52 * 2 ^ (last - p).toNat ≤ m * 2 ^ (p - last).toNat := by
      rcases Nat.eq_zero_or_pos L with h | h
      · exact .inl h
      · right
        refine Nat.le_trans ?_ (Nat.mul_le_mul_right _ hl1)
        rw [← Nat.pow_add, ← Nat.pow_add]
        exact Nat.pow_le_pow_right (by omega) (by omega)
    generalize m * 2 ^ (p - last).toNat = A at *
    generalize m * 2 ^ (p + 1074).toNat = Q at *
    generalize 2 ^ (last - p).toNat = B at *
    generalize 2 ^ (-(p + 1074)).toNat = S at *
    generalize hUU : 2 ^ L = U at *
    -- Q / S = (A / B) * U
    have hck : c ≤ 2 ^ 53 := by
      rcases Nat.lt_or_ge (2 ^ 53) c with h | h
      · exfalso
        have : 2 * (2 ^ 53 + 1) * B ≤ 2 * c * B := Nat.mul_le_mul_right B (by omega)
        have e : 2 * (2 ^ 53 + 1) * B = 2 * (2 ^ 53 * B) + 2 * B := by rw [Nat.mul_assoc, Nat.add_mul, Nat.mul_add, Nat.one_mul]
        omega
      · exact h
    have hcl : L = 0 ∨ 2 ^ 52 ≤ c := by
      rcases hdn with h | h
      · exact .inl h
      · right
        rcases Nat.lt_or_ge c (2 ^ 52) with h' | h'
        · exfalso
          have h1 : (2 * c + 1) * B ≤ (2 * 2 ^ 52 - 1) * B := Nat.mul_le_mul_right B (by omega)
          have e : (2 * 2 ^ 52 - 1) * B = 2 * (2 ^ 52 * B) - B := by rw [Nat.sub_mul, Nat.mul_assoc, Nat.one_mul]
          omega
        · exact h'
    have hpar : (L * 2 ^ 52 + c) % 2 = c % 2 := by omega
    have hmul : ∀ x y : Nat, x * B ≤ y * A → x * U * S ≤ y * Q := by
      intro x y h
      refine Nat.le_of_mul_le_mul_right (c := B) ?_ hB
      have e1 : x * U * S * B = x * B * (U * S) := by ac_rfl
      have e2 : y * Q * B = y * A * (U * S) := by rw [Nat.mul_assoc, hA']; ac_rfl
      rw [e1, e2]
      exact Nat.mul_le_mul_right _ h
    have hmul' : ∀ x y : Nat, y * A ≤ x * B → y * Q ≤ x * U * S := by
      intro x y h
      refine Nat.le_of_mul_le_mul_right (c := B) ?_ hB
      have e1 : x * U * S * B = x * B * (U * S) := by ac_rfl
      have e2 : y * Q * B = y * A * (U * S) := by rw [Nat.mul_assoc, hA']; ac_rfl
      rw [e1, e2]
      exact Nat.mul_le_mul_right _ h
    have hmule : ∀ x y : Nat, y * Q = x * U * S → y * A = x * B := by
      intro x y h
      have e1 : x * U * S * B = x * B * (U * S) := by ac_rfl
      have e2 : y * Q * B = y * A * (U * S) := by rw [Nat.mul_assoc, hA']; ac_rfl
      have : y * A * (U * S) = x * B * (U * S) := by rw [← e1, ← e2, h]
      exact Nat.eq_of_mul_eq_mul_right (Nat.mul_pos hU hS) this
    have er : rv (L * 2 ^ 52 + c) = c * U := by rw [rv_add L c hcl hck, hUU]
    constructor
    · -- above
      have er1 : (c + 1) * U ≤ rv (L * 2 ^ 52 + c + 1) ∧ (c < 2 ^ 53 → rv (L * 2 ^ 52 + c + 1) = (c + 1) * U) ∧ (¬ c < 2 ^ 53 → (c + 1) * U < rv (L * 2 ^ 52 + c + 1)) := by
        rcases Nat.lt_or_ge c (2 ^ 53) with h | h
        · have := rv_add L (c + 1) (by omega) (by omega)
          rw [← Nat.add_assoc, hUU] at this
          exact ⟨by omega, fun _ => this, fun h' => absurd h h'⟩
        · have hc3 : c = 2 ^ 53 := by omega
          have := rv_add (L + 1) (2 ^ 52 + 1) (.inr (by omega)) (by omega)
          rw [show (L + 1) * 2 ^ 52 + (2 ^ 52 + 1) = L * 2 ^ 52 + c + 1 by omega, Nat.pow_succ 2 L, hUU] at this
          have e : (2 ^ 52 + 1) * (U * 2) = (c + 1) * U + U := by rw [hc3]; omega
          rw [this, e]
          exact ⟨by omega, fun h' => by omega, fun _ => by omega⟩
      have h1 := hmul' (2 * c + 1) 2 hcut.1.1
      have e2 : (2 * c + 1) * U = c * U + (c + 1) * U := by rw [← Nat.add_mul]; congr 1; omega
      rw [e2] at h1
      rw [er]
      have h3 : (c * U + (c + 1) * U) * S ≤ (c * U + rv (L * 2 ^ 52 + c + 1)) * S := Nat.mul_le_mul_right S (by omega)
      refine ⟨by omega, fun he => ?_⟩
      rw [hpar]
      have h4 : (c * U + (c + 1) * U) * S = (c * U + rv (L * 2 ^ 52 + c + 1)) * S := by omega
      refine hcut.1.2 (hmule (2 * c + 1) 2 ?_)
      rw [e2]
      omega
    · by_cases hr0 : L * 2 ^ 52 + c = 0
      · exact .inl hr0
      · right
        rw [er]
        by_cases hlow : L = 0 ∨ 2 ^ 52 < c
        · have er1 : rv (L * 2 ^ 52 + c - 1) = (c - 1) * U := by
            have hc0 : 0 < c := by omega
            rw [show L * 2 ^ 52 + c - 1 = L * 2 ^ 52 + (c - 1) by omega, rv_add L (c - 1) (by omega) (by omega), hUU]
          have hc0 : 0 < c := by omega
          rw [er1]
          have h0 : (2 * c - 1) * B ≤ 2 * A := by
            have : (2 * c - 1) * B = 2 * c * B - B := by rw [Nat.sub_mul, Nat.one_mul]
            omega
          have h1 := hmul (2 * c - 1) 2 h0
          have e2 : (2 * c - 1) * U = (c - 1) * U + c * U := by rw [← Nat.add_mul]; congr 1; omega
          rw [e2] at h1
          refine ⟨h1, fun he => ?_⟩
          rw [hpar]
          have h5 := hmule (2 * c - 1) 2 (by rw [e2]; omega)
          refine hcut.2.2 ?_
          have : (2 * c - 1) * B = 2 * c * B - B := by rw [Nat.sub_mul, Nat.one_mul]
          have h6 : 1 * B ≤ 2 * c * B := Nat.mul_le_mul_right B (by omega)
          omega
        · have hc2 : c = 2 ^ 52 := by omega
          have hL0 : L ≠ 0 := by omega
          have hAB : c * B ≤ 1 * A := by
            rcases hdn with h | h
            · exact absurd h hL0
            · rw [hc2, Nat.one_mul]; exact h
          have h1 := hmul c 1 hAB
          rw [Nat.one_mul] at h1
          have h2 : rv (L * 2 ^ 52 + c - 1) < c * U := by rw [← er]; exact rv_lt (by omega)
          have h3 : (rv (L * 2 ^ 52 + c - 1) + c * U + 1) * S ≤ (c * U + c * U) * S := Nat.mul_le_mul_right S (by omega)
          rw [Nat.add_mul, Nat.add_mul (c * U) (c * U), Nat.one_mul] at h3
          exact ⟨by omega, fun he => by omega⟩
end Go.Proofs.Ytcgkolaljgpphaa
