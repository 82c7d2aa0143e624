/- The tail of Line: whatever whole numbers are given, none of its operations is invalid. -/
import Derived.Test.YtcgkolaljgpphaaLine
import Derived.Test.YtcgkolaljgpphaaTwice
namespace Go.Proofs.Ytcgkolaljgpphaa
set_option linter.unusedVariables false
set_option linter.unusedSimpArgs false
open Ieee

theorem near_mult {k a e : Nat} (he : 52 ≤ e) (he2 : e ≤ 1900) (h : Near k (2 ^ e * a) 1) : Mult e k := by
  rcases Nat.lt_or_ge a (2 ^ 53) with h1 | h1
  · rcases Nat.eq_zero_or_pos a with rfl | h0
    · have := near_eq (R := 0) h (by omega) (by rw [rv_zero]; omega)
      subst this
      exact ⟨0, by rw [rv_zero, Nat.mul_zero]⟩
    · obtain ⟨R, hR, _⟩ := rung_of h0 h1 he
      have := near_eq (R := R) h (by omega) (by rw [hR, Nat.mul_one, Nat.mul_comm])
      subst this
      exact ⟨a, by rw [hR, Nat.mul_comm]⟩
  · refine big_mult (.inr (near_big (S := 1) (by omega) h (by omega) (by omega) ?_))
    rw [Nat.mul_one, Nat.pow_add]
    exact Nat.mul_le_mul_left _ (Nat.le_trans (Nat.pow_le_pow_right (by omega) (by omega)) h1)

/-- A double that is a whole number of 2 ^ e units. -/
def Grid (e x : Nat) : Prop := ∃ s r, x = double.word s r ∧ r < double.infRung ∧ Mult e r
theorem grid_zero (e : Nat) : Grid e 0 := ⟨false, 0, by decide, by rw [d_inf]; omega, 0, by rw [rv_zero, Nat.mul_zero]⟩
theorem fint_grid {z : Nat} (hz : z = 1074) (n : Int) (h : n.natAbs ≤ 2 ^ 63) : Grid z (floatOfInt .f64 n) := by
  obtain ⟨r, h1, h2, h3, _⟩ := fint_gen (decide (n < 0)) n.natAbs z (63 + z) hz rfl h
  rw [Nat.mul_comm] at h3
  exact ⟨_, r, (fint_word n).trans h1, h2, near_mult (by omega) (by omega) h3⟩
theorem grid_add {e x y B : Nat} (he : 52 ≤ e) (he2 : e ≤ 1900) (hx : Grid e x) (hy : Grid e y) (hb : Bnd B (fadd x y)) : Grid e (fadd x y) := by
  obtain ⟨s, r, rfl, h1, m1⟩ := hx
  obtain ⟨t, q, rfl, h2, m2⟩ := hy
  obtain ⟨k, g1, g2⟩ := add_near (s := s) (t := t) h1 h2
  obtain ⟨a, ha⟩ := sv_mult (s := s) m1
  obtain ⟨b, hb0⟩ := sv_mult (s := t) m2
  have e2 : (sv s r + sv t q).natAbs = 2 ^ e * (a + b).natAbs := by rw [ha, hb0, ← Int.mul_add, Int.natAbs_mul, Int.natAbs_natCast]
  rw [e2] at g2
  unfold fadd at hb ⊢
  rw [g1] at hb ⊢
  obtain ⟨f1, f2⟩ := fin_k hb
  exact ⟨_, k, by rw [f2]; rfl, f1, near_mult he he2 g2⟩
theorem grid_sum {e E : Nat} (he : 52 ≤ e) (he2 : e ≤ 1900) (h1 : 52 ≤ E) (h2 : E ≤ 1900) (l : List Nat) (hb : ∀ x ∈ l, BndE E x) (hg : ∀ x ∈ l, Grid e x) : ∀ k, k ≤ l.length → k ≤ 8000 → Grid e (sumV (l.take k)) := by
  intro k
  induction k with
  | zero => intro _ _; rw [List.take_zero]; exact grid_zero e
  | succ k ih =>
    intro hk h8
    have s1 := (sum_bd E h1 h2 l hb (k + 1) hk h8).1
    rw [sumV_take l k (by omega)] at s1 ⊢
    refine grid_add he he2 (ih (by omega) (by omega)) (hg _ ?_) s1
    rw [show l.getD k 0 = l[k]'(by omega) by simp [List.getD, show k < l.length by omega]]
    exact List.getElem_mem _
theorem mult_big {e r : Nat} (h : Mult e r) : Big e r := by
  obtain ⟨a, ha⟩ := h
  rcases Nat.eq_zero_or_pos a with rfl | h0
  · left
    exact rv_inj (by rw [ha, Nat.mul_zero, rv_zero])
  · right
    rw [ha]
    exact Nat.le_mul_of_pos_right _ h0
theorem grid_self {e x : Nat} (he : 53 ≤ e) (h : Grid e x) : ScB 0 e x x := by
  obtain ⟨s, r, h1, h2, h3⟩ := h
  refine ⟨s, r, r, h1, h1, h2, h2, ?_, mult_big h3⟩
  rcases mult_big h3 with h4 | h4
  · exact .inl ⟨h4, h4⟩
  · exact .inr ⟨big_rung he h4, by omega⟩
theorem self_grid {e x : Nat} (h : ScB 0 (e + 52) x x) : Grid e x := by
  obtain ⟨s, r, r', h1, _, h2, _, _, h5⟩ := h
  exact ⟨s, r, h1, h2, big_mult h5⟩
theorem fint_len {z : Nat} (hz : z = 1072) (n : Nat) (h0 : 1 ≤ n) (h : n ≤ 8000) : ∃ q, floatOfInt .f64 (n : Int) = double.word false q ∧ q < double.infRung ∧ q ≠ 0 ∧ rv q ≤ 2 ^ (z + 15) := by
  obtain ⟨s, r, e1, h2, h3, hc⟩ := fl_ec hz (n := (n : Int)) (by omega)
  have hs : s = false := by rw [sgn_of h3 (by omega)]; simp; omega
  subst hs
  refine ⟨r, e1, h2, rung_ne h3 (by omega), ?_⟩
  rw [abs_of h3, Nat.pow_add, Nat.mul_comm]
  exact Nat.mul_le_mul_left _ (by omega)

/-- A mean of whole numbers is 0 or not too small. -/
theorem mean_self {xs : List Nat} (hb : ∀ x ∈ xs, BndE 1137 x) (hg : ∀ x ∈ xs, Grid 1074 x) (h0 : 1 ≤ xs.length) (h : xs.length ≤ 8000) : ScB 0 1061 (meanV xs) (meanV xs) := by
  have hs := grid_sum (e := 1074) (E := 1137) (by omega) (by omega) (by omega) (by omega) xs hb hg xs.length (Nat.le_refl _) h
  rw [List.take_length] at hs
  obtain ⟨z, hz⟩ : ∃ z : Nat, z = 1072 := ⟨_, rfl⟩
  obtain ⟨q, q1, q2, q3, q4⟩ := fint_len hz xs.length h0 h
  have M := (mean_bd xs hb h0 h).2
  unfold meanV at M ⊢
  rw [q1] at M ⊢
  exact div_sc (e := 1074) (g := z + 15) (by omega) (by omega) (by omega) (grid_self (by omega) hs) q2 q3 q4 M M
/-- A sum of squares is 0 or not too small. -/
theorem spread_self {xs : List Nat} (hb : ∀ x ∈ xs, BndE 1137 x) (hg : ∀ x ∈ xs, Grid 1074 x) (h0 : 1 ≤ xs.length) (h : xs.length ≤ 8000) : ScB 0 944 (spreadV (meanV xs) (meanV xs) xs xs) (spreadV (meanV xs) (meanV xs) xs xs) := by
  have M := (mean_bd xs hb h0 h).2
  have G := self_grid (e := 1009) (mean_self hb hg h0 h)
  obtain ⟨t, q, f1, f3, f6⟩ := G
  have P1 := prods_bd hb hb M M
  have pl1 : (prodsV (meanV xs) (meanV xs) xs xs).length = xs.length := prods_len rfl
  have sq : ∀ i (h1 : i < (prodsV (meanV xs) (meanV xs) xs xs).length), ScB 0 944 (prodsV (meanV xs) (meanV xs) xs xs)[i] (prodsV (meanV xs) (meanV xs) xs xs)[i] := by
    intro i h1
    have hi : i < xs.length := by omega
    have d1 := diff_bd (hb _ (List.getElem_mem hi)) M
    have p1 := P1 _ (List.getElem_mem h1)
    rw [prods_get hi hi h1] at p1 ⊢
    obtain ⟨s, r, e1, e3, e7⟩ := hg _ (List.getElem_mem hi)
    have hd := sub_sc (j := 0) (e := 1009) (by omega) (by omega) e1 e1 f1 f1 e3 e3 f3 f3 (by omega) (by omega) (e7.mono (by omega)) f6 d1.2 d1.2
    exact square_sc (j := 0) (e := 1009) (f := 944) (by omega) (by omega) (by omega) hd p1 p1
  have N1 : ∀ p ∈ prodsV (meanV xs) (meanV xs) xs xs, NN p := by
    intro p hp
    obtain ⟨i, hi, rfl⟩ := List.getElem_of_mem hp
    rw [prods_get (by omega) (by omega) hi]
    exact nn_square (e := 1230) (diff_bd (hb _ (List.getElem_mem (by omega : i < xs.length))) M).2 (by omega) (by omega) (by omega)
  have e0 : ∀ l : List Nat, sumV (l.take 0) = double.word false 0 := fun l => by rw [List.take_zero]; decide
  have key : ∀ k, k ≤ xs.length → ScB 0 944 (sumV ((prodsV (meanV xs) (meanV xs) xs xs).take k)) (sumV ((prodsV (meanV xs) (meanV xs) xs xs).take k)) := by
    intro k
    induction k with
    | zero => intro _; exact ⟨false, 0, 0, e0 _, e0 _, by rw [d_inf]; omega, by rw [d_inf]; omega, .inl ⟨rfl, rfl⟩, .inl rfl⟩
    | succ k ih =>
      intro hk
      have s1 := (sum_bd 1230 (by omega) (by omega) _ P1 (k + 1) (by omega) (by omega)).1
      rw [sumV_take _ k (by omega)] at s1 ⊢
      rw [show (prodsV (meanV xs) (meanV xs) xs xs).getD k 0 = (prodsV (meanV xs) (meanV xs) xs xs)[k]'(by omega) by simp [List.getD, show k < (prodsV (meanV xs) (meanV xs) xs xs).length by omega]] at s1 ⊢
      have nn := nn_sum (E := 1230) (by omega) (by omega) ((prodsV (meanV xs) (meanV xs) xs xs).take k) (by simp; omega) (fun x hx => P1 x (List.mem_of_mem_take hx)) (fun x hx => N1 x (List.mem_of_mem_take hx))
      exact add_sc (j := 0) (by omega) (by omega) (ih (by omega)) (sq k (by omega)) nn (N1 _ (List.getElem_mem _)) s1 s1
  have hsp := key xs.length (Nat.le_refl _)
  rw [List.take_of_length_le (by omega)] at hsp
  exact hsp

/-- A sum of squares that is not 0 may be divided by. -/
theorem spread_pos {xs : List Nat} (hb : ∀ x ∈ xs, BndE 1137 x) (hg : ∀ x ∈ xs, Grid 1074 x) (h0 : 1 ≤ xs.length) (h : xs.length ≤ 8000) (hz : double.order (spreadV (meanV xs) (meanV xs) xs xs) 0 ≠ some .eq) :
    ∃ F s r, F = 944 ∧ spreadV (meanV xs) (meanV xs) xs xs = double.word s r ∧ r < double.infRung ∧ 2 ^ F ≤ rv r := by
  obtain ⟨s, r, r', e1, _, h1, _, _, h4⟩ := spread_self hb hg h0 h
  have z : double.order (double.word s 0) 0 = some .eq := by cases s <;> decide
  refine ⟨944, s, r, rfl, e1, h1, h4.resolve_left fun hr => hz ?_⟩
  rw [e1, hr]
  exact z

theorem tail_ok {xs ys : List Nat} (hx : ∀ x ∈ xs, BndE 1137 x) (hy : ∀ x ∈ ys, BndE 1137 x) (gx : ∀ x ∈ xs, Grid 1074 x) (gy : ∀ x ∈ ys, Grid 1074 x) (he : ys.length = xs.length) (h0 : 1 ≤ xs.length) (h : xs.length ≤ 8000) :
    ∃ b r f c, LineIs xs ys (.tuple #[slopeT b r f, .int .i64 c]) ∧ double.order b b = some .eq ∧ double.order r r = some .eq ∧ double.order f f = some .eq := by
  have M1 := (mean_bd xs hx h0 h).2
  have M2 := (mean_bd ys hy (by omega) (by omega)).2
  have S1 := spread_bd hx hx M1 M1 rfl h
  have S2 := spread_bd hx hy M1 M2 he h
  have S3 := spread_bd hy hy M2 M2 rfl (by omega)
  have z0 : double.order 0 0 = some .eq := by decide
  by_cases hz : double.order (sXX xs) 0 = some .eq
  · exact ⟨0, 0, 0, 5, .inl ⟨hz, rfl⟩, z0, z0, z0⟩
  · obtain ⟨F, s, q, hF, e1, h1, h2⟩ := spread_pos hx gx h0 h hz
    have D1 := fdiv_e (t := s) (a := 1243) (e := 1374) (F := F) rfl S2 h1 h2 (by omega) (by omega) (by omega)
    have D2 := fmul_e (e := 1452) rfl D1.2 M1 (by omega) (by omega) (by omega)
    have D3 := fsub_e (e := 1453) M2 D2.2 (by omega) (by omega) (by omega) (by omega)
    by_cases hy0 : double.order (sXX ys) 0 = some .eq
    · refine ⟨_, _, 4607182418800017408, 0, .inr ⟨hz, _, _, _, ⟨?_, ⟨_, D2.1, D3.1⟩, .inl ⟨hy0, rfl⟩⟩, rfl⟩, D3.2.self, D1.2.self, by decide⟩
      have := D1.1
      rw [← e1] at this ⊢
      exact this
    · obtain ⟨F', s', q', hF', e2, k1, k2⟩ := spread_pos hy gy (by omega) (by omega) hy0
      have D4 := fmul_e (e := 1412) rfl S2 S2 (by omega) (by omega) (by omega)
      have D5 := fmul_e (e := 1412) rfl S1 S3 (by omega) (by omega) (by omega)
      obtain ⟨G, hG⟩ : ∃ G : Nat, G = 814 := ⟨_, rfl⟩
      obtain ⟨z, hzz⟩ : ∃ z : Nat, z = 1074 := ⟨_, rfl⟩
      obtain ⟨k, g1, g2⟩ := mul_near (s := s) (t := s') hzz h1 k1
      have hbig := near_big (e := G) (Nat.two_pow_pos _) g2 (by omega) (by omega) (by
        have := Nat.mul_le_mul h2 k2
        rw [← Nat.pow_add] at this
        rw [← Nat.pow_add]
        exact Nat.le_trans (Nat.pow_le_pow_right (by omega) (by omega)) this)
      rw [← e1, ← e2] at g1
      have D5b := D5.2
      have ev : fmul (spreadV (meanV xs) (meanV xs) xs xs) (spreadV (meanV ys) (meanV ys) ys ys) = double.word (s ^^ s') (min k double.infRung) := by
        unfold fmul
        rw [g1]
        rfl
      rw [ev] at D5b
      obtain ⟨f1, f2⟩ := fin_k D5b
      rw [f2] at ev
      have D6 := fdiv_e (t := (s ^^ s')) (a := 1412) (e := 1673) (F := G) rfl D4.2 f1 hbig (by omega) (by omega) (by omega)
      rw [← ev] at D6
      rw [← e1] at D1 D2 D3
      exact ⟨_, _, _, 0, .inr ⟨hz, _, _, _, ⟨D1.1, ⟨_, D2.1, D3.1⟩, .inr ⟨hy0, _, _, D4.1, D5.1, D6.1⟩⟩, rfl⟩, D3.2.self, D1.2.self, D6.2.self⟩
end Go.Proofs.Ytcgkolaljgpphaa
