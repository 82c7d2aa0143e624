/- Twice the numbers: each operation's result is scaled by a power of two, bit by bit. -/
import Derived.Test.YtcgkolaljgpphaaVars
namespace Go.Proofs.Ytcgkolaljgpphaa
set_option linter.unusedVariables false
set_option linter.unusedSimpArgs false
open Ieee

theorem rv_scale {r : Nat} (h : 2 ^ 52 ≤ r) (j : Nat) : rv (r + j * 2 ^ 52) = rv r * 2 ^ j := by
  obtain ⟨L, k, rfl, hL, hk⟩ := rv_dec r
  have hk2 : 2 ^ 52 ≤ k := by
    rcases hL with h0 | h0
    · subst h0; omega
    · exact h0
  rw [show L * 2 ^ 52 + k + j * 2 ^ 52 = (L + j) * 2 ^ 52 + k by rw [Nat.add_mul]; omega, rv_add _ _ (.inr hk2) (by omega), rv_add _ _ hL (by omega), Nat.pow_add, Nat.mul_assoc]
theorem near_scale {k Q S : Nat} (j : Nat) (h : Near k Q S) (hk : 2 ^ 52 < k) : Near (k + j * 2 ^ 52) (2 ^ j * Q) S := by
  have hp : (k + j * 2 ^ 52) % 2 = k % 2 := by omega
  have e1 : rv (k + j * 2 ^ 52) = rv k * 2 ^ j := rv_scale (by omega) j
  have e2 : rv (k + j * 2 ^ 52 + 1) = rv (k + 1) * 2 ^ j := by rw [show k + j * 2 ^ 52 + 1 = k + 1 + j * 2 ^ 52 by omega]; exact rv_scale (by omega) j
  have e3 : rv (k + j * 2 ^ 52 - 1) = rv (k - 1) * 2 ^ j := by rw [show k + j * 2 ^ 52 - 1 = k - 1 + j * 2 ^ 52 by omega]; exact rv_scale (by omega) j
  have hJ : 0 < 2 ^ j := Nat.two_pow_pos j
  have f1 : ∀ a b : Nat, (a * 2 ^ j + b * 2 ^ j) * S = 2 ^ j * ((a + b) * S) := fun a b => by rw [← Nat.add_mul]; ac_rfl
  have f2 : 2 * (2 ^ j * Q) = 2 ^ j * (2 * Q) := by ac_rfl
  unfold Near
  rw [e1, e2, e3, hp, f1, f1, f2, Nat.mul_le_mul_left_iff hJ, Nat.mul_le_mul_left_iff hJ, Nat.mul_right_inj (by omega), Nat.mul_right_inj (by omega)]
  refine ⟨h.1, .inr (h.2.resolve_left (by omega))⟩

/-- Nought, or at least 2 ^ e units. -/
def Big (e r : Nat) : Prop := r = 0 ∨ 2 ^ e ≤ rv r
/-- y is x, scaled by 2 ^ j; neither is subnormal. -/
def Sc (j x y : Nat) : Prop := ∃ s r r', x = double.word s r ∧ y = double.word s r' ∧ r < double.infRung ∧ r' < double.infRung ∧ ((r = 0 ∧ r' = 0) ∨ (2 ^ 52 < r ∧ r' = r + j * 2 ^ 52))
theorem word_inj {s t : Bool} {r q : Nat} (hr : r < double.infRung) (hq : q < double.infRung) (h : double.word s r = double.word t q) : s = t ∧ r = q := by
  unfold Format.word at h
  rw [d_sign] at h
  rw [d_inf] at *
  cases s <;> cases t <;> simp at h
  · exact ⟨rfl, h⟩
  · omega
  · omega
  · exact ⟨rfl, by omega⟩
theorem Sc.unique {j x y y' : Nat} (h : Sc j x y) (h' : Sc j x y') : y = y' := by
  obtain ⟨s, r, r1, e1, e2, h1, h2, h3⟩ := h
  obtain ⟨t, q, q1, f1, f2, k1, k2, k3⟩ := h'
  obtain ⟨rfl, rfl⟩ := word_inj h1 k1 (e1.symm.trans f1)
  rw [e2, f2]
  congr 1
  omega
theorem sc_rv {j r r' : Nat} (h : (r = 0 ∧ r' = 0) ∨ (2 ^ 52 < r ∧ r' = r + j * 2 ^ 52)) : rv r' = rv r * 2 ^ j := by
  rcases h with ⟨rfl, rfl⟩ | ⟨h1, rfl⟩
  · rw [rv_zero, Nat.zero_mul]
  · exact rv_scale (by omega) j
/-- A rung that stands for much is beyond the subnormal ones. -/
theorem big_rung {k e : Nat} (he : 53 ≤ e) (h : 2 ^ e ≤ rv k) : 2 ^ 52 < k := by
  rcases Nat.lt_or_ge (2 ^ 52) k with h1 | h1
  · exact h1
  · exfalso
    have h2 := rv_le h1
    have h3 : rv (2 ^ 52) = 2 ^ 52 := by
      have := rv_add 0 (2 ^ 52) (.inl rfl) (by omega)
      rwa [Nat.zero_mul, Nat.zero_add, Nat.pow_zero, Nat.mul_one] at this
    have h4 : 2 ^ 53 ≤ 2 ^ e := Nat.pow_le_pow_right (by omega) he
    omega
/-- What is nearest to at least 2 ^ e units is at least that. -/
theorem near_big {k Q S e : Nat} (hS : 0 < S) (h : Near k Q S) (he : 52 ≤ e) (he2 : e ≤ 2000) (hQ : 2 ^ e * S ≤ Q) : 2 ^ e ≤ rv k := by
  obtain ⟨R, h1, _⟩ := rung_of (c := 1) (E := e) (by omega) (by omega) he
  rw [Nat.one_mul] at h1
  have := h.ge (R := R) hS (by rw [h1]; exact hQ)
  have := rv_le this
  omega
/-- The scaled nearest rung. -/
theorem near_sc {k k' Q S j e : Nat} (hS : 0 < S) (h : Near k Q S) (h' : Near k' (2 ^ j * Q) S) (he : 53 ≤ e) (he2 : e ≤ 2000) (hQ : Q = 0 ∨ 2 ^ e * S ≤ Q) : (k = 0 ∧ k' = 0 ∧ Q = 0) ∨ (2 ^ 52 < k ∧ k' = k + j * 2 ^ 52 ∧ 2 ^ e ≤ rv k) := by
  rcases hQ with rfl | hQ
  · left
    have a := h.le (R := 0) hS (Nat.zero_le _)
    have b := h'.le (R := 0) hS (by rw [Nat.mul_zero]; exact Nat.zero_le _)
    omega
  · right
    have hb := near_big hS h (by omega) he2 hQ
    have hk := big_rung he hb
    exact ⟨hk, h'.unique (near_scale j h hk) hS, hb⟩

/-- A sum: the rung nearest to the true sum. -/
theorem sum_near {s t : Bool} {r q m n : Nat} {i j : Int} (e2 : -1074 ≤ i) (f2 : -1074 ≤ j) (e3 : m * 2 ^ (i + 1074).toNat = rv r) (f3 : n * 2 ^ (j + 1074).toNat = rv q) :
    ∃ k, (Datum.sum (.number s m i) (.number t n j)).map double.write = some (double.word (if sv s r + sv t q = 0 then s && t else decide (sv s r + sv t q < 0)) (min k double.infRung)) ∧ Near k (sv s r + sv t q).natAbs 1 := by
  obtain ⟨tot, htot⟩ : ∃ tot, signed s m (i - min i j).toNat + signed t n (j - min i j).toNat = tot := ⟨_, rfl⟩
  have h2 : tot * ((2 ^ (min i j + 1074).toNat : Nat) : Int) = sv s r + sv t q := by
    rw [← htot, Int.add_mul, signed_up s m i (min i j) (by omega) (by omega), signed_up t n j (min i j) (by omega) (by omega), e3, f3]
    rfl
  have hp := pow_cast (min i j + 1074).toNat
  have hz0 : tot = 0 ↔ sv s r + sv t q = 0 := by
    rw [← h2]
    constructor
    · intro h; rw [h, Int.zero_mul]
    · intro h
      rcases Int.mul_eq_zero.1 h with h | h
      · exact h
      · omega
  have hlt : tot < 0 ↔ sv s r + sv t q < 0 := by
    rw [← h2]
    constructor
    · intro h; exact Int.mul_neg_of_neg_of_pos h hp
    · intro h
      by_cases h7 : tot < 0
      · exact h7
      · have := Int.mul_nonneg (show 0 ≤ tot by omega) (Int.le_of_lt hp); omega
  have hsum : Datum.sum (.number s m i) (.number t n j) = some (.number (if tot = 0 then s && t else decide (tot < 0)) tot.natAbs (min i j)) := by
    rw [← htot]; rfl
  obtain ⟨k, hk, hn⟩ := nearest_near (if tot = 0 then s && t else decide (tot < 0)) tot.natAbs (min i j)
  have hab : tot.natAbs * 2 ^ (min i j + 1074).toNat = (sv s r + sv t q).natAbs := by
    rw [← h2, Int.natAbs_mul, Int.natAbs_natCast]
  rw [hab, show (-(min i j + 1074)).toNat = 0 by omega, Nat.pow_zero] at hn
  refine ⟨k, ?_, hn⟩
  rw [hsum]
  show some (double.nearest _ _ _) = _
  rw [hk]
  simp only [hz0, hlt]
theorem add_near {s t : Bool} {r q : Nat} (hr : r < double.infRung) (hq : q < double.infRung) :
    ∃ k, floatBits .add .f64 (double.word s r) (double.word t q) = some (double.word (if sv s r + sv t q = 0 then s && t else decide (sv s r + sv t q < 0)) (min k double.infRung)) ∧ Near k (sv s r + sv t q).natAbs 1 := by
  obtain ⟨m, i, e1, e2, e3, _⟩ := read_word (s := s) hr
  obtain ⟨n, j, f1, f2, f3, _⟩ := read_word (s := t) hq
  obtain ⟨k, h1, h2⟩ := sum_near (s := s) (t := t) e2 f2 e3 f3
  refine ⟨k, ?_, h2⟩
  show double.add _ _ = _
  unfold Format.add
  rw [e1, f1]
  exact h1
theorem sub_near {s t : Bool} {r q : Nat} (hr : r < double.infRung) (hq : q < double.infRung) :
    ∃ k, floatBits .sub .f64 (double.word s r) (double.word t q) = some (double.word (if sv s r + sv (!t) q = 0 then s && !t else decide (sv s r + sv (!t) q < 0)) (min k double.infRung)) ∧ Near k (sv s r + sv (!t) q).natAbs 1 := by
  obtain ⟨m, i, e1, e2, e3, _⟩ := read_word (s := s) hr
  obtain ⟨n, j, f1, f2, f3, _⟩ := read_word (s := t) hq
  obtain ⟨k, h1, h2⟩ := sum_near (s := s) (t := !t) e2 f2 e3 f3
  refine ⟨k, ?_, h2⟩
  show double.sub _ _ = _
  unfold Format.sub
  rw [e1, f1]
  exact h1

theorem fin_k {σ : Bool} {k B : Nat} (h : Bnd B (double.word σ (min k double.infRung))) : k < double.infRung ∧ min k double.infRung = k := by
  obtain ⟨s, r, h1, h2, _⟩ := h
  have hm := Nat.min_le_right k double.infRung
  unfold Format.word at h1
  rw [d_sign, d_inf] at *
  cases σ <;> cases s <;> simp at h1 <;> omega
theorem sv_scale {s : Bool} {r r' j : Nat} (h : rv r' = rv r * 2 ^ j) : sv s r' = sv s r * ((2 ^ j : Nat) : Int) := by
  unfold sv
  rw [h, Int.natCast_mul]
  cases s
  · simp
  · simp [Int.neg_mul]
/-- A whole number of 2 ^ e units. -/
def Mult (e r : Nat) : Prop := ∃ a, rv r = 2 ^ e * a
theorem sv_mult {s : Bool} {e r : Nat} (h : Mult e r) : ∃ a : Int, sv s r = ((2 ^ e : Nat) : Int) * a := by
  obtain ⟨a, ha⟩ := h
  unfold sv
  rw [ha, Int.natCast_mul]
  cases s
  · exact ⟨a, by simp⟩
  · exact ⟨-a, by simp [Int.mul_neg]⟩

/-- What a scaled pair is, with what its rungs stand for. -/
def ScB (j e x y : Nat) : Prop := ∃ s r r', x = double.word s r ∧ y = double.word s r' ∧ r < double.infRung ∧ r' < double.infRung ∧ ((r = 0 ∧ r' = 0) ∨ (2 ^ 52 < r ∧ r' = r + j * 2 ^ 52)) ∧ Big e r
theorem ScB.sc {j e x y : Nat} (h : ScB j e x y) : Sc j x y := by obtain ⟨s, r, r', a, b, c, d, f, _⟩ := h; exact ⟨s, r, r', a, b, c, d, f⟩

theorem sub_sc {j e x y x' y' B B' : Nat} (he : 53 ≤ e) (he2 : e ≤ 2000) {s t : Bool} {r r' q q' : Nat} (hx : x = double.word s r) (hx' : x' = double.word s r') (hy : y = double.word t q) (hy' : y' = double.word t q')
    (h1 : r < double.infRung) (h1' : r' < double.infRung) (h2 : q < double.infRung) (h2' : q' < double.infRung) (hr : rv r' = rv r * 2 ^ j) (hq : rv q' = rv q * 2 ^ j) (mr : Mult e r) (mq : Mult e q) (hb : Bnd B (fsub x y)) (hb' : Bnd B' (fsub x' y')) : ScB j e (fsub x y) (fsub x' y') := by
  subst hx hx' hy hy'
  obtain ⟨k, g1, g2⟩ := sub_near (s := s) (t := t) h1 h2
  obtain ⟨k', g1', g2'⟩ := sub_near (s := s) (t := t) h1' h2'
  have e1 : sv s r' + sv (!t) q' = (sv s r + sv (!t) q) * ((2 ^ j : Nat) : Int) := by rw [sv_scale hr, sv_scale hq, Int.add_mul]
  have hJ := pow_cast j
  obtain ⟨a, ha⟩ := sv_mult (s := s) mr
  obtain ⟨b, hb0⟩ := sv_mult (s := !t) mq
  have e2 : sv s r + sv (!t) q = ((2 ^ e : Nat) : Int) * (a + b) := by rw [ha, hb0, Int.mul_add]
  generalize sv s r + sv (!t) q = T at *
  rw [e1] at g1' g2'
  rw [Int.natAbs_mul, Int.natAbs_natCast, Nat.mul_comm] at g2'
  have hQ : T.natAbs = 0 ∨ 2 ^ e * 1 ≤ T.natAbs := by
    rw [e2, Int.natAbs_mul, Int.natAbs_natCast]
    rcases Nat.eq_zero_or_pos (a + b).natAbs with h | h
    · left; rw [h, Nat.mul_zero]
    · right; exact Nat.mul_le_mul_left _ h
  have hsc := near_sc (by omega) g2 g2' he he2 hQ
  have hz : T * ((2 ^ j : Nat) : Int) = 0 ↔ T = 0 := by
    constructor
    · intro h
      rcases Int.mul_eq_zero.1 h with h | h
      · exact h
      · omega
    · intro h; rw [h, Int.zero_mul]
  have hl : T * ((2 ^ j : Nat) : Int) < 0 ↔ T < 0 := by
    constructor
    · intro h
      by_cases h7 : T < 0
      · exact h7
      · have := Int.mul_nonneg (show 0 ≤ T by omega) (Int.le_of_lt hJ); omega
    · intro h; exact Int.mul_neg_of_neg_of_pos h hJ
  simp only [hz, hl] at g1'
  unfold fsub at hb hb' ⊢
  rw [g1] at hb ⊢
  rw [g1'] at hb' ⊢
  obtain ⟨f1, f2⟩ := fin_k hb
  obtain ⟨f1', f2'⟩ := fin_k hb'
  refine ⟨_, k, k', by rw [f2]; rfl, by rw [f2']; rfl, f1, f1', ?_, ?_⟩
  · rcases hsc with ⟨u, v, _⟩ | ⟨u, v, _⟩
    · exact .inl ⟨u, v⟩
    · exact .inr ⟨u, v⟩
  · rcases hsc with ⟨u, v, _⟩ | ⟨u, v, w⟩
    · exact .inl u
    · exact .inr w

/-- A square is scaled twice. -/
theorem square_sc {j e f d d' B B' : Nat} (hef : f + 1074 = e + e) (hf : 53 ≤ f) (hf2 : f ≤ 2000) (h : ScB j e d d') (hb : Bnd B (fmul d d)) (hb' : Bnd B' (fmul d' d')) : ScB (j + j) f (fmul d d) (fmul d' d') := by
  obtain ⟨s, r, r', rfl, rfl, h1, h2, h3, h4⟩ := h
  obtain ⟨y, hy⟩ : ∃ y : Nat, y = 1074 := ⟨_, rfl⟩
  obtain ⟨k, g1, g2⟩ := mul_near (s := s) (t := s) hy h1 h1
  obtain ⟨k', g1', g2'⟩ := mul_near (s := s) (t := s) hy h2 h2
  have e1 : rv r' * rv r' = 2 ^ (j + j) * (rv r * rv r) := by rw [sc_rv h3, Nat.pow_add]; ac_rfl
  rw [e1] at g2'
  have hQ : rv r * rv r = 0 ∨ 2 ^ f * 2 ^ y ≤ rv r * rv r := by
    rcases h4 with h4 | h4
    · left; rw [h4, rv_zero]
    · right
      rw [← Nat.pow_add, hy, hef, Nat.pow_add]
      exact Nat.mul_le_mul h4 h4
  have hsc := near_sc (Nat.two_pow_pos _) g2 g2' hf hf2 hQ
  unfold fmul at hb hb' ⊢
  rw [g1] at hb ⊢
  rw [g1'] at hb' ⊢
  obtain ⟨f1, f2⟩ := fin_k hb
  obtain ⟨f1', f2'⟩ := fin_k hb'
  refine ⟨_, k, k', by rw [f2]; rfl, by rw [f2']; rfl, f1, f1', ?_, ?_⟩
  · rcases hsc with ⟨u, v, _⟩ | ⟨u, v, _⟩
    · exact .inl ⟨u, v⟩
    · exact .inr ⟨u, v⟩
  · rcases hsc with ⟨u, v, _⟩ | ⟨u, v, w⟩
    · exact .inl u
    · exact .inr w

/-- A quotient by the same positive double. -/
theorem div_sc {j e f g x x' q B B' : Nat} (hfe : f + g ≤ e + 1074) (hf : 53 ≤ f) (hf2 : f ≤ 2000) (h : ScB j e x x') (hq : q < double.infRung) (hq0 : q ≠ 0) (hqg : rv q ≤ 2 ^ g) (hb : Bnd B (fdiv x (double.word false q))) (hb' : Bnd B' (fdiv x' (double.word false q))) : ScB j f (fdiv x (double.word false q)) (fdiv x' (double.word false q)) := by
  obtain ⟨s, r, r', rfl, rfl, h1, h2, h3, h4⟩ := h
  obtain ⟨y, hy⟩ : ∃ y : Nat, y = 1074 := ⟨_, rfl⟩
  by_cases hr0 : r = 0
  · have hr0' : r' = 0 := by rcases h3 with h | h; exact h.2; omega
    subst hr0 hr0'
    unfold fdiv
    rw [quo_zero hq hq0]
    exact ⟨_, 0, 0, rfl, rfl, h1, h2, .inl ⟨rfl, rfl⟩, .inl rfl⟩
  · have hr0' : r' ≠ 0 := by rcases h3 with h | h; exact absurd h.1 hr0; omega
    obtain ⟨k, g1, g2⟩ := quot_near (s := s) (t := false) hy h1 hq hr0 hq0
    obtain ⟨k', g1', g2'⟩ := quot_near (s := s) (t := false) hy h2 hq hr0' hq0
    have e1 : rv r' * 2 ^ y = 2 ^ j * (rv r * 2 ^ y) := by rw [sc_rv h3]; ac_rfl
    rw [e1] at g2'
    have hQ : rv r * 2 ^ y = 0 ∨ 2 ^ f * rv q ≤ rv r * 2 ^ y := by
      right
      have h5 : 2 ^ e ≤ rv r := h4.resolve_left hr0
      have h6 : 2 ^ f * rv q ≤ 2 ^ f * 2 ^ g := Nat.mul_le_mul_left _ hqg
      have h7 : 2 ^ f * 2 ^ g ≤ 2 ^ e * 2 ^ y := by rw [← Nat.pow_add, ← Nat.pow_add]; exact Nat.pow_le_pow_right (by omega) (by omega)
      exact Nat.le_trans h6 (Nat.le_trans h7 (Nat.mul_le_mul_right _ h5))
    have hsc := near_sc (rv_pos hq0) g2 g2' hf hf2 hQ
    unfold fdiv at hb hb' ⊢
    rw [g1] at hb ⊢
    rw [g1'] at hb' ⊢
    obtain ⟨f1, f2⟩ := fin_k hb
    obtain ⟨f1', f2'⟩ := fin_k hb'
    refine ⟨_, k, k', by rw [f2]; rfl, by rw [f2']; rfl, f1, f1', ?_, ?_⟩
    · rcases hsc with ⟨u, v, _⟩ | ⟨u, v, _⟩
      · exact .inl ⟨u, v⟩
      · exact .inr ⟨u, v⟩
    · rcases hsc with ⟨u, v, _⟩ | ⟨u, v, w⟩
      · exact .inl u
      · exact .inr w

/-- A sum of two that bear no sign. -/
theorem add_sc {j e x x' y y' B B' : Nat} (he : 53 ≤ e) (he2 : e ≤ 2000) (hx : ScB j e x x') (hy : ScB j e y y') (nx : NN x) (ny : NN y) (hb : Bnd B (fadd x y)) (hb' : Bnd B' (fadd x' y')) : ScB j e (fadd x y) (fadd x' y') := by
  obtain ⟨s, r, r', ex, ex', h1, h2, h3, h4⟩ := hx
  obtain ⟨t, q, q', ey, ey', k1, k2, k3, k4⟩ := hy
  have hs : s = false := by
    obtain ⟨u, n1, n2⟩ := nx
    exact (word_inj h1 n2 (ex.symm.trans n1)).1
  have ht : t = false := by
    obtain ⟨u, n1, n2⟩ := ny
    exact (word_inj k1 n2 (ey.symm.trans n1)).1
  subst hs ht
  rw [ex, ey] at hb ⊢
  rw [ex', ey'] at hb' ⊢
  obtain ⟨k, g1, g2⟩ := add_near (s := false) (t := false) h1 k1
  obtain ⟨k', g1', g2'⟩ := add_near (s := false) (t := false) h2 k2
  have e0 : ∀ a b : Nat, sv false a + sv false b = ((rv a + rv b : Nat) : Int) := fun a b => by simp [sv]
  rw [e0] at g1 g2 g1' g2'
  rw [Int.natAbs_natCast] at g2 g2'
  have e1 : rv r' + rv q' = 2 ^ j * (rv r + rv q) := by rw [sc_rv h3, sc_rv k3, Nat.mul_add, Nat.mul_comm (rv r), Nat.mul_comm (rv q)]
  have sg : ∀ n : Nat, (if ((n : Nat) : Int) = 0 then (false && false) else decide (((n : Nat) : Int) < 0)) = false := fun n => by split <;> simp
  rw [sg] at g1 g1'
  rw [e1] at g2'
  have hQ : rv r + rv q = 0 ∨ 2 ^ e * 1 ≤ rv r + rv q := by
    rcases h4 with h4 | h4
    · rcases k4 with k4 | k4
      · left; rw [h4, k4, rv_zero]
      · right; omega
    · right; omega
  have hsc := near_sc (by omega) g2 g2' he he2 hQ
  unfold fadd at hb hb' ⊢
  rw [g1] at hb ⊢
  rw [g1'] at hb' ⊢
  obtain ⟨f1, f2⟩ := fin_k (σ := false) hb
  obtain ⟨f1', f2'⟩ := fin_k (σ := false) hb'
  refine ⟨false, k, k', by rw [f2]; rfl, by rw [f2']; rfl, f1, f1', ?_, ?_⟩
  · rcases hsc with ⟨u, v, _⟩ | ⟨u, v, _⟩
    · exact .inl ⟨u, v⟩
    · exact .inr ⟨u, v⟩
  · rcases hsc with ⟨u, v, _⟩ | ⟨u, v, w⟩
    · exact .inl u
    · exact .inr w

/-- A power of two times a double. -/
theorem const_sc {j c x r r' : Nat} {s : Bool} (hc : c < double.infRung) (y : Nat) (hy : y = 1074) (hcv : rv c = 2 ^ j * 2 ^ y) (hx : x = double.word s r) (h1 : r < double.infRung) (h2 : r' < double.infRung) (h3 : (r = 0 ∧ r' = 0) ∨ (2 ^ 52 < r ∧ r' = r + j * 2 ^ 52)) :
    floatBits .mul .f64 (double.word false c) x = some (double.word s r') := by
  subst hx
  obtain ⟨k, g1, g2⟩ := mul_near (s := false) (t := s) hy hc h1
  have hk := near_eq (R := r') g2 (Nat.two_pow_pos _) (by rw [hcv, sc_rv h3]; ac_rfl)
  rw [g1, hk, Nat.min_eq_left (Nat.le_of_lt h2), Bool.false_xor]
end Go.Proofs.Ytcgkolaljgpphaa
