/- How two finite doubles stand to each other; the least and the greatest of doubles that are whole numbers. -/
import Derived.Test.YtcgkolaljgpphaaMean
namespace Go.Proofs.Ytcgkolaljgpphaa
set_option linter.unusedVariables false
set_option linter.unusedSimpArgs false
open Go.RowKit Ieee

/-- A finite double's value in units. -/
def sv (s : Bool) (r : Nat) : Int := if s then -(rv r : Int) else rv r

theorem compare_int (a b : Int) : compare a b = if a < b then .lt else if a = b then .eq else .gt := rfl
theorem compare_mul (a b c : Int) (hc : 0 < c) : compare (a * c) (b * c) = compare a b := by
  rw [compare_int, compare_int]
  have h1 : a * c < b * c ↔ a < b := Int.mul_lt_mul_right hc
  have h2 : a * c = b * c ↔ a = b := Int.mul_eq_mul_right_iff (by omega)
  simp only [h1, h2]
theorem signed_up (s : Bool) (m : Nat) (i base : Int) (h1 : -1074 ≤ base) (h2 : base ≤ i) : signed s m (i - base).toNat * ((2 ^ (base + 1074).toNat : Nat) : Int) = if s then -((m * 2 ^ (i + 1074).toNat : Nat) : Int) else ((m * 2 ^ (i + 1074).toNat : Nat) : Int) := by
  unfold signed
  rw [Nat.shiftLeft_eq, ← mul_up m i base h1 h2]
  cases s
  · simp only [Bool.false_eq_true, if_false, Int.natCast_mul]
  · simp only [if_true, Int.natCast_mul, Int.neg_mul]
theorem order_word {s t : Bool} {r q : Nat} (hr : r < double.infRung) (hq : q < double.infRung) : double.order (double.word s r) (double.word t q) = some (compare (sv s r) (sv t q)) := by
  obtain ⟨m, i, e1, e2, e3, _⟩ := read_word (s := s) hr
  obtain ⟨n, j, f1, f2, f3, _⟩ := read_word (s := t) hq
  unfold Format.order
  rw [e1, f1]
  unfold Datum.order
  dsimp only
  congr 1
  have hc : (0 : Int) < ((2 ^ (min i j + 1074).toNat : Nat) : Int) := Int.natCast_pos.2 (Nat.two_pow_pos _)
  rw [← compare_mul _ _ _ hc, signed_up s m i (min i j) (by omega) (by omega), signed_up t n j (min i j) (by omega) (by omega), e3, f3]
  rfl

theorem rv_zero : rv 0 = 0 := by decide
theorem rv_inj {r q : Nat} (h : rv r = rv q) : r = q := by
  rcases Nat.lt_trichotomy r q with h1 | h1 | h1
  · have := rv_lt h1; omega
  · exact h1
  · have := rv_lt h1; omega
theorem rv_pos {r : Nat} (h : r ≠ 0) : 0 < rv r := by have := rv_lt (r := 0) (r' := r) (by omega); omega

/-- A finite double that is not -0. -/
def Num (x : Nat) : Prop := ∃ s r, x = double.word s r ∧ r < double.infRung ∧ (r = 0 → s = false)

theorem sv_inj {s t : Bool} {r q : Nat} (h1 : r = 0 → s = false) (h2 : q = 0 → t = false) (h : sv s r = sv t q) : s = t ∧ r = q := by
  unfold sv at h
  cases s <;> cases t
  · simp at h; exact ⟨rfl, rv_inj (by omega)⟩
  · have : q ≠ 0 := fun e => by have := h2 e; cases this
    have := rv_pos this
    simp at h; omega
  · have : r ≠ 0 := fun e => by have := h1 e; cases this
    have := rv_pos this
    simp at h; omega
  · simp at h; exact ⟨rfl, rv_inj (by omega)⟩

theorem fint_num (n : Int) (h : -9223372036854775808 ≤ n ∧ n ≤ 9223372036854775808) : Num (floatOfInt .f64 n) := by
  obtain ⟨r, h1, h2, hn, _⟩ := fint_gen (decide (n < 0)) n.natAbs 1074 1137 rfl rfl (by omega)
  rw [fint_word]
  refine ⟨_, r, h1, h2, fun h0 => ?_⟩
  rcases Int.lt_or_le n 0 with hneg | hneg
  · exfalso
    have hz : ∀ z : Nat, z = 1074 → Near r (n.natAbs * 2 ^ z) 1 → False := by
      intro z hz hn
      obtain ⟨R1, hR1, _⟩ := rung_of (c := 1) (E := z) (by omega) (by omega) (by omega)
      rw [Nat.one_mul] at hR1
      have hge := hn.ge (R := R1) (by omega) (by
        rw [hR1, Nat.mul_one]
        have := Nat.mul_le_mul_right (2 ^ z) (show 1 ≤ n.natAbs by omega)
        rwa [Nat.one_mul] at this)
      have : R1 = 0 := by omega
      rw [this, rv_zero] at hR1
      have := Nat.two_pow_pos z
      omega
    exact hz 1074 rfl hn
  · simp; omega

/-- The lesser of two doubles; the first of two that are the same. -/
def fmin (l x : Nat) : Nat := if double.order x l = some .lt then x else l
def fmax (l x : Nat) : Nat := if double.order x l = some .gt then x else l
theorem Num.min {l x : Nat} (hl : Num l) (hx : Num x) : Num (fmin l x) := by unfold fmin; split <;> assumption
theorem Num.max {l x : Nat} (hl : Num l) (hx : Num x) : Num (fmax l x) := by unfold fmax; split <;> assumption
theorem Num.self {x : Nat} (h : Num x) : double.order x x = some .eq := by
  obtain ⟨s, r, rfl, h1, _⟩ := h
  rw [order_word h1 h1, compare_int, if_neg (by omega), if_pos rfl]
theorem Bnd.self {B x : Nat} (h : Bnd B x) : double.order x x = some .eq := by
  obtain ⟨s, r, rfl, h1, _⟩ := h
  rw [order_word h1 h1, compare_int, if_neg (by omega), if_pos rfl]
theorem fmin_self {x : Nat} (h : Num x) : fmin x x = x := by unfold fmin; split <;> rfl
theorem fmax_self {x : Nat} (h : Num x) : fmax x x = x := by unfold fmax; split <;> rfl
/-- Two such doubles: which is the lesser, and the same have the same bits. -/
theorem Num.cases {l x : Nat} (hl : Num l) (hx : Num x) : (double.order l x = some .lt ∧ double.order x l = some .gt) ∨ (double.order l x = some .gt ∧ double.order x l = some .lt) ∨ (double.order l x = some .eq ∧ double.order x l = some .eq ∧ l = x) := by
  obtain ⟨s, r, rfl, h1, h2⟩ := hl
  obtain ⟨t, q, rfl, k1, k2⟩ := hx
  rw [order_word h1 k1, order_word k1 h1, compare_int, compare_int]
  rcases Int.lt_trichotomy (sv s r) (sv t q) with h | h | h
  · left
    rw [if_pos h, if_neg (by omega), if_neg (by omega)]
    exact ⟨rfl, rfl⟩
  · right; right
    obtain ⟨rfl, rfl⟩ := sv_inj h2 k2 h
    rw [if_neg (by omega), if_pos rfl]
    exact ⟨rfl, rfl, rfl⟩
  · right; left
    rw [if_neg (by omega), if_neg (by omega), if_pos h]
    exact ⟨rfl, rfl⟩

theorem run_min {w : World} {P : Program} {ts : Array TypeId} {t : TypeId} {l x : Nat} (hl : Num l) (hx : Num x) : (Builtin.min_ ts t #[.float .f64 l, .float .f64 x]).run P w = .ok (.float .f64 (fmin l x)) w := by
  have e : FloatKind.f64.format = double := rfl
  rcases hl.cases hx with ⟨h1, h2⟩ | ⟨h1, h2⟩ | ⟨h1, h2, rfl⟩
  · simp [Builtin.min_, Builtin.min2, e, h1, h2, fmin]
  · simp [Builtin.min_, Builtin.min2, e, h1, h2, fmin]
  · simp [Builtin.min_, Builtin.min2, e, h1, h2, fmin]
theorem run_max {w : World} {P : Program} {ts : Array TypeId} {t : TypeId} {l x : Nat} (hl : Num l) (hx : Num x) : (Builtin.max_ ts t #[.float .f64 l, .float .f64 x]).run P w = .ok (.float .f64 (fmax l x)) w := by
  have e : FloatKind.f64.format = double := rfl
  rcases hl.cases hx with ⟨h1, h2⟩ | ⟨h1, h2⟩ | ⟨h1, h2, rfl⟩
  · simp [Builtin.max_, Builtin.max2, e, h1, h2, fmax]
  · simp [Builtin.max_, Builtin.max2, e, h1, h2, fmax]
  · simp [Builtin.max_, Builtin.max2, e, h1, h2, fmax]
end Go.Proofs.Ytcgkolaljgpphaa
