/- Sums, differences, products and quotients of finite doubles whose size is bounded are finite, and their size is bounded. -/
import Derived.Test.YtcgkolaljgpphaaFloat
namespace Go.Proofs.Ytcgkolaljgpphaa
set_option linter.unusedVariables false
set_option linter.unusedSimpArgs false
open Ieee

/-- x is the word of a finite number of at most B units. -/
def Bnd (B x : Nat) : Prop := ∃ s r, x = double.word s r ∧ r < double.infRung ∧ rv r ≤ B

theorem d_least : double.leastPlace = -1074 := by decide
theorem d_bin : double.binade = 2 ^ 52 := by decide
theorem d_frac : double.fractionBits = 52 := by decide
theorem d_inf : double.infRung = 2047 * 2 ^ 52 := by decide
theorem d_sign : double.signWeight = 2 ^ 63 := by decide

theorem Bnd.mono {B C x : Nat} (h : Bnd B x) (hc : B ≤ C) : Bnd C x := by
  obtain ⟨s, r, h1, h2, h3⟩ := h
  exact ⟨s, r, h1, h2, Nat.le_trans h3 hc⟩

theorem read_word {s : Bool} {r : Nat} (h : r < double.infRung) : ∃ (m : Nat) (p : Int), double.read (double.word s r) = .number s m p ∧ -1074 ≤ p ∧ m * 2 ^ (p + 1074).toNat = rv r ∧ (m = 0 ↔ r = 0) := by
  rw [d_inf] at h
  have e1 : (double.word s r / double.signWeight % 2 == 1) = s := by
    rw [d_sign]
    unfold Format.word
    rw [d_sign]
    cases s
    · have : r / 2 ^ 63 % 2 = 0 := by omega
      simp [this]
    · have : (2 ^ 63 + r) / 2 ^ 63 % 2 = 1 := by omega
      simp only [if_true]
      rw [this]
      rfl
  have e2 : double.word s r % double.signWeight = r := by
    rw [d_sign]
    unfold Format.word
    rw [d_sign]
    cases s
    · simp; omega
    · simp; omega
  unfold Format.read
  dsimp only
  rw [e1, e2, d_bin, d_inf, d_least]
  by_cases hr : r < 2 ^ 52
  · rw [if_pos hr]
    refine ⟨r, -1074, rfl, Int.le_refl _, ?_, Iff.rfl⟩
    rw [rv, if_pos hr]
    simp
  · rw [if_neg hr, if_pos h]
    refine ⟨_, _, rfl, by omega, ?_, by omega⟩
    rw [rv, if_neg hr]
    congr 2
    omega

/-- What is at most c * 2 ^ E units is rounded to what is no more. -/
theorem rung_of {c E : Nat} (hc1 : 1 ≤ c) (hc : c < 2 ^ 53) (hE : 52 ≤ E) : ∃ R, rv R = c * 2 ^ E ∧ R < (E + 2) * 2 ^ 52 := by
  have hl1 : 2 ^ c.log2 ≤ c := Nat.log2_self_le (by omega)
  have hl2 : c < 2 ^ (c.log2 + 1) := Nat.lt_log2_self
  have hl3 : c.log2 < 53 := (Nat.log2_lt (by omega)).2 hc
  obtain ⟨j, hj⟩ : ∃ j, c.log2 + j = 52 := ⟨52 - c.log2, by omega⟩
  have h1 : 2 ^ 52 ≤ c * 2 ^ j := by rw [← hj, Nat.pow_add]; exact Nat.mul_le_mul_right _ hl1
  have h2 : c * 2 ^ j < 2 ^ 53 := by
    have : 2 ^ 53 = 2 ^ (c.log2 + 1) * 2 ^ j := by rw [← Nat.pow_add]; congr 1; omega
    rw [this]
    exact Nat.mul_lt_mul_of_pos_right hl2 (Nat.two_pow_pos j)
  refine ⟨(E - j) * 2 ^ 52 + c * 2 ^ j, ?_, ?_⟩
  · rw [rv_add _ _ (.inr h1) (Nat.le_of_lt h2), Nat.mul_assoc, ← Nat.pow_add]
    congr 2
    omega
  · have : (E - j) * 2 ^ 52 ≤ E * 2 ^ 52 := Nat.mul_le_mul_right _ (by omega)
    omega

theorem nearest_bnd (s : Bool) (m : Nat) (p : Int) {c E : Nat} (hc1 : 1 ≤ c) (hc : c < 2 ^ 53) (hE : 52 ≤ E) (hE2 : E ≤ 2000)
    (h : m * 2 ^ (p + 1074).toNat ≤ c * 2 ^ E * 2 ^ (-(p + 1074)).toNat) : Bnd (c * 2 ^ E) (double.nearest s m p) := by
  obtain ⟨r, hr, hn⟩ := nearest_near s m p
  obtain ⟨R, hR, hR2⟩ := rung_of hc1 hc hE
  rw [← hR] at h
  have h1 := hn.le (Nat.two_pow_pos _) h
  have h2 : r < double.infRung := by
    rw [d_inf]
    have : (E + 2) * 2 ^ 52 ≤ 2002 * 2 ^ 52 := Nat.mul_le_mul_right _ (by omega)
    omega
  refine ⟨s, r, ?_, h2, ?_⟩
  · rw [hr, Nat.min_eq_left (Nat.le_of_lt h2)]
  · rw [← hR]
    exact rv_le h1

theorem signed_le (s : Bool) (m up : Nat) : (signed s m up).natAbs = m * 2 ^ up := by
  unfold signed
  rw [Nat.shiftLeft_eq]
  cases s
  · exact Int.natAbs_natCast _
  · exact (Int.natAbs_neg _).trans (Int.natAbs_natCast _)

theorem mul_up (m : Nat) (i base : Int) (h1 : -1074 ≤ base) (h2 : base ≤ i) : m * 2 ^ (i - base).toNat * 2 ^ (base + 1074).toNat = m * 2 ^ (i + 1074).toNat := by
  rw [Nat.mul_assoc, ← Nat.pow_add]
  congr 2
  omega

def fadd (x y : Nat) : Nat := (floatBits .add .f64 x y).getD 0
def fsub (x y : Nat) : Nat := (floatBits .sub .f64 x y).getD 0
def fmul (x y : Nat) : Nat := (floatBits .mul .f64 x y).getD 0
def fdiv (x y : Nat) : Nat := (floatBits .quo .f64 x y).getD 0

theorem getD_of {o : Option Nat} {r : Nat} (h : o = some r) : o = some (o.getD 0) := by rw [h]; rfl

theorem sum_bnd {s t : Bool} {m n : Nat} {i j : Int} {B C c E : Nat} (hi : -1074 ≤ i) (hj : -1074 ≤ j) (hx : m * 2 ^ (i + 1074).toNat ≤ B) (hy : n * 2 ^ (j + 1074).toNat ≤ C) (hc1 : 1 ≤ c) (hc : c < 2 ^ 53) (hE : 52 ≤ E) (hE2 : E ≤ 2000) (hBC : B + C ≤ c * 2 ^ E) :
    ∃ d, Datum.sum (.number s m i) (.number t n j) = some d ∧ Bnd (c * 2 ^ E) (double.write d) := by
  refine ⟨_, rfl, ?_⟩
  unfold Format.write
  dsimp only
  refine nearest_bnd _ _ _ hc1 hc hE hE2 ?_
  have h1 : (-(min i j + 1074)).toNat = 0 := by omega
  rw [h1, Nat.pow_zero, Nat.mul_one]
  have h2 : (signed s m (i - min i j).toNat + signed t n (j - min i j).toNat).natAbs ≤ m * 2 ^ (i - min i j).toNat + n * 2 ^ (j - min i j).toNat := by
    refine Nat.le_trans (Int.natAbs_add_le _ _) ?_
    rw [signed_le, signed_le]
    exact Nat.le_refl _
  refine Nat.le_trans (Nat.mul_le_mul_right _ h2) ?_
  rw [Nat.add_mul, mul_up _ _ _ (by omega) (by omega), mul_up _ _ _ (by omega) (by omega)]
  omega

theorem fadd_bnd {B C c E x y : Nat} (hx : Bnd B x) (hy : Bnd C y) (hc1 : 1 ≤ c) (hc : c < 2 ^ 53) (hE : 52 ≤ E) (hE2 : E ≤ 2000) (hBC : B + C ≤ c * 2 ^ E) : floatBits .add .f64 x y = some (fadd x y) ∧ Bnd (c * 2 ^ E) (fadd x y) := by
  obtain ⟨s, r, rfl, h2, h3⟩ := hx
  obtain ⟨t, q, rfl, k2, k3⟩ := hy
  obtain ⟨m, i, e1, e2, e3, _⟩ := read_word (s := s) h2
  obtain ⟨n, j, f1, f2, f3, _⟩ := read_word (s := t) k2
  obtain ⟨d, hd, hb⟩ := sum_bnd (s := s) (t := t) e2 f2 (by omega : m * 2 ^ (i + 1074).toNat ≤ B) (by omega : n * 2 ^ (j + 1074).toNat ≤ C) hc1 hc hE hE2 hBC
  have h : floatBits .add .f64 (double.word s r) (double.word t q) = some (double.write d) := by
    show double.add _ _ = _
    unfold Format.add
    rw [e1, f1, hd]
    rfl
  refine ⟨getD_of h, ?_⟩
  unfold fadd
  rw [h]
  exact hb

theorem fsub_bnd {B C c E x y : Nat} (hx : Bnd B x) (hy : Bnd C y) (hc1 : 1 ≤ c) (hc : c < 2 ^ 53) (hE : 52 ≤ E) (hE2 : E ≤ 2000) (hBC : B + C ≤ c * 2 ^ E) : floatBits .sub .f64 x y = some (fsub x y) ∧ Bnd (c * 2 ^ E) (fsub x y) := by
  obtain ⟨s, r, rfl, h2, h3⟩ := hx
  obtain ⟨t, q, rfl, k2, k3⟩ := hy
  obtain ⟨m, i, e1, e2, e3, _⟩ := read_word (s := s) h2
  obtain ⟨n, j, f1, f2, f3, _⟩ := read_word (s := t) k2
  obtain ⟨d, hd, hb⟩ := sum_bnd (s := s) (t := !t) e2 f2 (by omega : m * 2 ^ (i + 1074).toNat ≤ B) (by omega : n * 2 ^ (j + 1074).toNat ≤ C) hc1 hc hE hE2 hBC
  have h : floatBits .sub .f64 (double.word s r) (double.word t q) = some (double.write d) := by
    show double.sub _ _ = _
    unfold Format.sub
    rw [e1, f1]
    show (Datum.sum (.number s m i) (.number (!t) n j)).map _ = _
    rw [hd]
    rfl
  refine ⟨getD_of h, ?_⟩
  unfold fsub
  rw [h]
  exact hb

theorem prod_place {m n : Nat} {i j : Int} {B C K : Nat} (hi : -1074 ≤ i) (hj : -1074 ≤ j) (hx : m * 2 ^ (i + 1074).toNat ≤ B) (hy : n * 2 ^ (j + 1074).toNat ≤ C) (hBC : B * C ≤ K * 2 ^ 1074) :
    m * n * 2 ^ (i + j + 1074).toNat ≤ K * 2 ^ (-(i + j + 1074)).toNat := by
  have h0 : m * 2 ^ (i + 1074).toNat * (n * 2 ^ (j + 1074).toNat) ≤ K * 2 ^ 1074 := Nat.le_trans (Nat.mul_le_mul hx hy) hBC
  have h1 : m * 2 ^ (i + 1074).toNat * (n * 2 ^ (j + 1074).toNat) = m * n * 2 ^ ((i + 1074).toNat + (j + 1074).toNat) := by rw [Nat.pow_add]; ac_rfl
  rw [h1] at h0
  rcases Int.le_total 0 (i + j + 1074) with h | h
  · have e1 : (i + 1074).toNat + (j + 1074).toNat = (i + j + 1074).toNat + 1074 := by omega
    have e2 : (-(i + j + 1074)).toNat = 0 := by omega
    rw [e1, Nat.pow_add, ← Nat.mul_assoc] at h0
    rw [e2, Nat.pow_zero, Nat.mul_one]
    exact Nat.le_of_mul_le_mul_right h0 (Nat.two_pow_pos 1074)
  · have e1 : (i + j + 1074).toNat = 0 := by omega
    have e3 : (1074 : Nat) = (-(i + j + 1074)).toNat + ((i + 1074).toNat + (j + 1074).toNat) := by omega
    have e4 : K * 2 ^ 1074 = K * 2 ^ (-(i + j + 1074)).toNat * 2 ^ ((i + 1074).toNat + (j + 1074).toNat) := by
      rw [Nat.mul_assoc, ← Nat.pow_add, ← e3]
    rw [e4] at h0
    rw [e1, Nat.pow_zero, Nat.mul_one]
    exact Nat.le_of_mul_le_mul_right h0 (Nat.two_pow_pos _)

theorem fmul_bnd {B C c E x y : Nat} (hx : Bnd B x) (hy : Bnd C y) (hc1 : 1 ≤ c) (hc : c < 2 ^ 53) (hE : 52 ≤ E) (hE2 : E ≤ 2000) (hBC : B * C ≤ c * 2 ^ E * 2 ^ 1074) : floatBits .mul .f64 x y = some (fmul x y) ∧ Bnd (c * 2 ^ E) (fmul x y) := by
  obtain ⟨s, r, rfl, h2, h3⟩ := hx
  obtain ⟨t, q, rfl, k2, k3⟩ := hy
  obtain ⟨m, i, e1, e2, e3, _⟩ := read_word (s := s) h2
  obtain ⟨n, j, f1, f2, f3, _⟩ := read_word (s := t) k2
  have h : floatBits .mul .f64 (double.word s r) (double.word t q) = some (double.nearest (s ^^ t) (m * n) (i + j)) := by
    show double.mul _ _ = _
    unfold Format.mul
    rw [e1, f1]
    rfl
  refine ⟨getD_of h, ?_⟩
  unfold fmul
  rw [h]
  exact nearest_bnd _ _ _ hc1 hc hE hE2 (prod_place e2 f2 (by omega) (by omega) hBC)

/-- A quotient by what is at least one unit of 2 ^ F: crude. -/
theorem fdiv_bnd {B c E x F : Nat} {t : Bool} {q : Nat} (hx : Bnd B x) (hq : q < double.infRung) (hF : 2 ^ F ≤ rv q) (hc1 : 1 ≤ c) (hc : c < 2 ^ 53) (hE : 52 ≤ E) (hE2 : E ≤ 2000) (hBC : 2 * B * 2 ^ 1074 ≤ c * 2 ^ E * 2 ^ F) :
    floatBits .quo .f64 x (double.word t q) = some (fdiv x (double.word t q)) ∧ Bnd (c * 2 ^ E) (fdiv x (double.word t q)) := by
  obtain ⟨s, r, rfl, h2, h3⟩ := hx
  obtain ⟨m, i, e1, e2, e3, e4⟩ := read_word (s := s) h2
  obtain ⟨n, j, f1, f2, f3, f4⟩ := read_word (s := t) hq
  have hn : n ≠ 0 := by
    intro h
    have := f4.1 h
    subst this
    have h0 : rv 0 = 0 := by decide
    have := Nat.two_pow_pos F
    omega
  obtain ⟨more, hmore⟩ : ∃ more, double.fractionBits + 2 + n.log2 - m.log2 = more := ⟨_, rfl⟩
  have h : floatBits .quo .f64 (double.word s r) (double.word t q) = some (double.nearest (s ^^ t) (2 * ((m <<< more) / n) + ((m <<< more) % n != 0).toNat) (i - j - more - 1)) := by
    show double.div _ _ = _
    unfold Format.div
    rw [e1, f1]
    unfold Datum.quotient
    dsimp only
    rw [if_neg hn, hmore]
    rfl
  refine ⟨getD_of h, ?_⟩
  unfold fdiv
  rw [h]
  refine nearest_bnd _ _ _ hc1 hc hE hE2 ?_
  by_cases hm : m = 0
  · subst hm
    simp
  have hl1 : 2 ^ m.log2 ≤ m := Nat.log2_self_le hm
  have hl2 : n < 2 ^ (n.log2 + 1) := Nat.lt_log2_self
  rw [d_frac] at hmore
  have hdn : n ≤ m <<< more := by
    rw [Nat.shiftLeft_eq]
    have : 2 ^ (n.log2 + 1) ≤ 2 ^ m.log2 * 2 ^ more := by rw [← Nat.pow_add]; exact Nat.pow_le_pow_right (by omega) (by omega)
    have := Nat.mul_le_mul_right (2 ^ more) hl1
    omega
  have hf1 : 1 ≤ (m <<< more) / n := Nat.div_pos hdn (by omega)
  have hf2 : (m <<< more) / n * n ≤ m <<< more := Nat.div_mul_le_self _ _
  have hst : ((m <<< more) % n != 0).toNat ≤ 1 := Bool.toNat_le _
  rw [Nat.shiftLeft_eq] at hdn hf1 hf2 hst ⊢
  clear hdn hl1 hl2
  generalize (m * 2 ^ more % n != 0).toNat = st at *
  generalize m * 2 ^ more / n = f at *
  -- (2 f + st) * n <= 4 m 2^more
  have h4 : (2 * f + st) * n ≤ 4 * (m * 2 ^ more) := by
    have : (2 * f + st) * n ≤ (4 * f) * n := Nat.mul_le_mul_right _ (by omega)
    have e : 4 * f * n = 4 * (f * n) := Nat.mul_assoc _ _ _
    omega
  generalize 2 * f + st = g at *
  obtain ⟨K, hK⟩ : ∃ K, c * 2 ^ E = K := ⟨_, rfl⟩
  rw [hK] at hBC ⊢
  -- multiply by n * 2^(j+1074) * 2^(more+1)
  have hpos : 0 < n * 2 ^ (j + 1074).toNat * 2 ^ (more + 1) := Nat.mul_pos (Nat.mul_pos (by omega) (Nat.two_pow_pos _)) (Nat.two_pow_pos _)
  refine Nat.le_of_mul_le_mul_right (c := n * 2 ^ (j + 1074).toNat * 2 ^ (more + 1)) ?_ hpos
  obtain ⟨P, hP⟩ : ∃ P, (i - j - (more : Int) - 1 + 1074).toNat = P := ⟨_, rfl⟩
  obtain ⟨Q, hQ⟩ : ∃ Q, (-(i - j - (more : Int) - 1 + 1074)).toNat = Q := ⟨_, rfl⟩
  rw [hP, hQ]
  have hPQ : P + (j + 1074).toNat + (more + 1) = (i + 1074).toNat + 1074 + Q := by omega
  have e5 : m * 2 ^ (i + 1074).toNat = rv r := e3
  -- left: g n 2^(P + j+1074 + more+1) <= 4 m 2^more 2^(i+1074) 2^1074 2^Q
  have e1 : g * 2 ^ P * (n * 2 ^ (j + 1074).toNat * 2 ^ (more + 1)) = g * n * 2 ^ (P + (j + 1074).toNat + (more + 1)) := by
    rw [Nat.pow_add 2 (P + (j + 1074).toNat) (more + 1), Nat.pow_add 2 P]
    generalize 2 ^ (more + 1) = a
    generalize 2 ^ P = b
    generalize 2 ^ (j + 1074).toNat = d
    ac_rfl
  rw [e1, hPQ]
  have e2 : K * 2 ^ Q * (n * 2 ^ (j + 1074).toNat * 2 ^ (more + 1)) = K * (n * 2 ^ (j + 1074).toNat) * 2 ^ Q * 2 ^ more * 2 := by
    rw [Nat.pow_succ 2 more]
    generalize 2 ^ more = a
    generalize 2 ^ Q = b
    generalize 2 ^ (j + 1074).toNat = d
    ac_rfl
  rw [e2, f3]
  have e3 : g * n * 2 ^ ((i + 1074).toNat + 1074 + Q) ≤ 4 * (m * 2 ^ more) * 2 ^ ((i + 1074).toNat + 1074 + Q) := Nat.mul_le_mul_right _ h4
  refine Nat.le_trans e3 ?_
  have e4 : 4 * (m * 2 ^ more) * 2 ^ ((i + 1074).toNat + 1074 + Q) = 2 * (m * 2 ^ (i + 1074).toNat) * 2 ^ 1074 * 2 ^ Q * 2 ^ more * 2 := by
    rw [Nat.pow_add 2 ((i + 1074).toNat + 1074) Q, Nat.pow_add 2 (i + 1074).toNat 1074, show (4 : Nat) = 2 * 2 from rfl]
    generalize 2 ^ more = a
    generalize 2 ^ Q = b
    generalize 2 ^ (i + 1074).toNat = d
    generalize 2 ^ 1074 = z
    ac_rfl
  rw [e4]
  refine Nat.mul_le_mul_right 2 (Nat.mul_le_mul_right _ (Nat.mul_le_mul_right _ ?_))
  refine Nat.le_trans (Nat.mul_le_mul_right _ (Nat.mul_le_mul_left 2 (Nat.le_trans (Nat.le_of_eq e5) h3))) ?_
  exact Nat.le_trans hBC (Nat.mul_le_mul_left K hF)
end Go.Proofs.Ytcgkolaljgpphaa
