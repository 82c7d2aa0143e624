/- Twice the numbers have twice the mean and four times the variance, bit by bit. -/
import Derived.Test.YtcgkolaljgpphaaScale
namespace Go.Proofs.Ytcgkolaljgpphaa
set_option linter.unusedVariables false
set_option linter.unusedSimpArgs false
open Ieee

theorem big_mult {e r : Nat} (h : Big (e + 52) r) : Mult e r := by
  rcases h with rfl | h
  · exact ⟨0, by rw [rv_zero, Nat.mul_zero]⟩
  · refine rv_mult ?_
    rcases Nat.lt_or_ge r ((e + 1) * 2 ^ 52) with h1 | h1
    · exfalso
      have h2 := rv_lt h1
      rw [show (e + 1) * 2 ^ 52 = e * 2 ^ 52 + 2 ^ 52 by rw [Nat.add_mul, Nat.one_mul], rv_add e (2 ^ 52) (.inr (Nat.le_refl _)) (by omega), ← Nat.pow_add, Nat.add_comm 52 e] at h2
      omega
    · exact h1
theorem Mult.mono {e f r : Nat} (h : Mult e r) (hf : f ≤ e) : Mult f r := by
  obtain ⟨a, ha⟩ := h
  obtain ⟨d, rfl⟩ := Nat.exists_eq_add_of_le hf
  exact ⟨2 ^ d * a, by rw [ha, Nat.pow_add, Nat.mul_assoc]⟩

/-- A number and its double. -/
theorem fl_sc {z : Nat} (hz : z = 1072) (n : Int) (h : n.natAbs < 2 ^ 48) : ∃ s r r', fl n = double.word s r ∧ fl (2 * n) = double.word s r' ∧ r < double.infRung ∧ r' < double.infRung ∧ ((r = 0 ∧ r' = 0) ∨ (2 ^ 52 < r ∧ r' = r + 1 * 2 ^ 52)) ∧ Big z r ∧ Mult z r := by
  obtain ⟨s, r, e1, h2, h3, hc⟩ := fl_ec hz (n := n) (by omega)
  obtain ⟨t, q, f1, k2, k3, kc⟩ := fl_ec hz (n := 2 * n) (by omega)
  have ha := abs_of h3
  have hb := abs_of k3
  have hm : Mult z r := ⟨(4 * n).natAbs, by rw [ha, Nat.mul_comm]⟩
  by_cases h0 : n = 0
  · subst h0
    have hr := rung_zero (h3.trans (by rw [Int.mul_zero]))
    have hq := rung_zero (k3.trans (by rw [Int.mul_zero, Int.mul_zero]))
    subst hr hq
    have a1 := hc rfl
    have a2 := kc rfl
    subst a1 a2
    exact ⟨_, 0, 0, e1, f1, h2, k2, .inl ⟨rfl, rfl⟩, .inl rfl, hm⟩
  · have hbig : 2 ^ z ≤ rv r := by
      rw [ha]
      have := Nat.mul_le_mul_right (2 ^ z) (show 1 ≤ (4 * n).natAbs by omega)
      rwa [Nat.one_mul] at this
    have hr := big_rung (by omega) hbig
    have hs : s = t := by
      rw [sgn_of h3 (by omega), sgn_of k3 (by omega)]
      have : 4 * n < 0 ↔ 4 * (2 * n) < 0 := by omega
      simp only [this]
    subst hs
    have hq : q = r + 1 * 2 ^ 52 := rv_inj (by
      rw [rv_scale (by omega) 1, hb, ha, Nat.pow_one]
      have e : (4 * (2 * n)).natAbs = (4 * n).natAbs * 2 := by omega
      rw [e]; ac_rfl)
    exact ⟨s, r, q, e1, f1, h2, k2, .inr ⟨hr, hq⟩, .inr hbig, hm⟩
theorem sumI_two (l : List Int) : sumI (l.map (2 * ·)) = 2 * sumI l := by
  induction l with
  | nil => rfl
  | cons x l ih =>
    have e : ∀ (x : Int) (l : List Int), sumI (x :: l) = x + sumI l := fun x l => by
      show (x :: l).foldl (· + ·) 0 = _
      simp only [List.foldl_cons]
      rw [foldl_add]; omega
    rw [List.map_cons, e, e, ih]; omega
theorem fl_len {z : Nat} (hz : z = 1072) (n : Nat) (h0 : 1 ≤ n) (h : n ≤ 1024) : ∃ q, fl (n : Int) = double.word false q ∧ q < double.infRung ∧ q ≠ 0 ∧ rv q ≤ 2 ^ (z + 12) := by
  obtain ⟨s, r, e1, h2, h3, hc⟩ := fl_ec hz (n := (n : Int)) (by omega)
  have hs : s = false := by rw [sgn_of h3 (by omega)]; simp; omega
  subst hs
  refine ⟨r, e1, h2, rung_ne h3 (by omega), ?_⟩
  rw [abs_of h3, Nat.pow_add, Nat.mul_comm]
  exact Nat.mul_le_mul_left _ (by omega)
theorem small_bnd {l : List Int} (hl : Small (2 ^ 33) l) : ∀ x ∈ l.map fl, BndE 1137 x := by
  intro x hx
  obtain ⟨n, hn, rfl⟩ := List.mem_map.1 hx
  have := hl n hn
  exact fint_bd n (by omega)

theorem mean_twice {z : Nat} (hz : z = 1072) (l : List Int) (hl : Small (2 ^ 32) l) (h0 : 1 ≤ l.length) (h : l.length ≤ 1000) : ScB 1 1062 (meanV (l.map fl)) (meanV ((l.map (2 * ·)).map fl)) := by
  have hl1 : Small (2 ^ 33) l := fun n hn => by have := hl n hn; omega
  have hl2 : Small (2 ^ 33) (l.map (2 * ·)) := fun n hn => by
    obtain ⟨m, hm, rfl⟩ := List.mem_map.1 hn
    have := hl m hm
    omega
  have hs := sum_le hl
  have hS : (sumI l).natAbs < 2 ^ 48 := by
    have := Nat.mul_le_mul_right (2 ^ 32) h
    omega
  obtain ⟨q, q1, q2, q3, q4⟩ := fl_len hz l.length h0 (by omega)
  have b1 := (mean_bd _ (small_bnd hl1) (by simp; omega) (by simp; omega)).2
  have b2 := (mean_bd _ (small_bnd hl2) (by simp; omega) (by simp; omega)).2
  rw [mean_fl _ hl1 (by omega), q1] at b1 ⊢
  rw [mean_fl _ hl2 (by simp; omega), sumI_two, List.length_map, q1] at b2 ⊢
  obtain ⟨s, r, r', e1, e2, e3, e4, e5, e6, _⟩ := fl_sc hz (sumI l) hS
  exact div_sc (e := z) (g := z + 12) (by omega) (by omega) (by omega) ⟨s, r, r', e1, e2, e3, e4, e5, e6⟩ q2 q3 q4 b1 b2

theorem var_twice {z : Nat} (hz : z = 1072) (l : List Int) (hl : Small (2 ^ 32) l) (h0 : 1 ≤ l.length) (h : l.length ≤ 1000) : ScB 2 936 (varV (l.map fl)) (varV ((l.map (2 * ·)).map fl)) := by
  have hl1 : Small (2 ^ 33) l := fun n hn => by have := hl n hn; omega
  have hl2 : Small (2 ^ 33) (l.map (2 * ·)) := fun n hn => by
    obtain ⟨m, hm, rfl⟩ := List.mem_map.1 hn
    have := hl m hm
    omega
  have B1 := small_bnd hl1
  have B2 := small_bnd hl2
  have len1 : (l.map fl).length = l.length := by simp
  have len2 : ((l.map (2 * ·)).map fl).length = l.length := by simp
  have M := mean_twice hz l hl h0 h
  have M1 := (mean_bd _ B1 (by omega) (by omega)).2
  have M2 := (mean_bd _ B2 (by omega) (by omega)).2
  have V1 := (var_bd _ B1 (by omega) (by omega)).2
  have V2 := (var_bd _ B2 (by omega) (by omega)).2
  have get1 : ∀ i (hi : i < l.length), (l.map fl)[i]? = some (fl l[i]) := fun i hi => by simp [hi]
  have get2 : ∀ i (hi : i < l.length), ((l.map (2 * ·)).map fl)[i]? = some (fl (2 * l[i])) := fun i hi => by simp [hi]
  have hn := fun i (hi : i < l.length) => hl _ (List.getElem_mem hi)
  have small : ∀ i (hi : i < l.length), (l[i]).natAbs < 2 ^ 48 := fun i hi => by have := hn i hi; omega
  generalize l.map fl = xs at *
  generalize (l.map (2 * ·)).map fl = ys at *
  -- the squares
  have P1 := prods_bd B1 B1 M1 M1
  have P2 := prods_bd B2 B2 M2 M2
  have pl1 : (prodsV (meanV xs) (meanV xs) xs xs).length = l.length := by rw [prods_len rfl, len1]
  have pl2 : (prodsV (meanV ys) (meanV ys) ys ys).length = l.length := by rw [prods_len rfl, len2]
  have sq : ∀ i (h1 : i < (prodsV (meanV xs) (meanV xs) xs xs).length) (h2 : i < (prodsV (meanV ys) (meanV ys) ys ys).length), ScB 2 946 (prodsV (meanV xs) (meanV xs) xs xs)[i] (prodsV (meanV ys) (meanV ys) ys ys)[i] := by
    intro i h1 h2
    have hi : i < l.length := by omega
    have d1 := diff_bd (B1 _ (List.getElem_mem (by omega : i < xs.length))) M1
    have d2 := diff_bd (B2 _ (List.getElem_mem (by omega : i < ys.length))) M2
    have p1 := P1 _ (List.getElem_mem h1)
    have p2 := P2 _ (List.getElem_mem h2)
    rw [prods_get (by omega) (by omega) h1] at p1 ⊢
    rw [prods_get (by omega) (by omega) h2] at p2 ⊢
    obtain ⟨s, r, r', e1, e2, e3, e4, e5, e6, e7⟩ := fl_sc hz l[i] (small i hi)
    obtain ⟨t, q, q', f1, f2, f3, f4, f5, f6⟩ := M
    have g1 := get1 i hi
    have g2 := get2 i hi
    rw [List.getElem?_eq_getElem (by omega : i < xs.length)] at g1
    rw [List.getElem?_eq_getElem (by omega : i < ys.length)] at g2
    rw [← Option.some.inj g1] at e1
    rw [← Option.some.inj g2] at e2
    have hd := sub_sc (j := 1) (e := 1010) (by omega) (by omega) e1 e2 f1 f2 e3 e4 f3 f4 (sc_rv e5) (sc_rv f5) (e7.mono (by omega)) (big_mult f6) d1.2 d2.2
    have hq := square_sc (j := 1) (e := 1010) (f := 946) (by omega) (by omega) (by omega) hd p1 p2
    rw [show (2 : Nat) = 1 + 1 from rfl]
    exact hq
  have N1 : ∀ p ∈ prodsV (meanV xs) (meanV xs) xs xs, NN p := by
    intro p hp
    obtain ⟨i, hi, rfl⟩ := List.getElem_of_mem hp
    rw [prods_get (by omega) (by omega) hi]
    exact nn_square (e := 1230) (diff_bd (B1 _ (List.getElem_mem (by omega : i < xs.length))) M1).2 (by omega) (by omega) (by omega)
  -- the sums
  have e0 : ∀ l : List Nat, sumV (l.take 0) = double.word false 0 := fun l => by rw [List.take_zero]; decide
  have key : ∀ k, k ≤ l.length → ScB 2 946 (sumV ((prodsV (meanV xs) (meanV xs) xs xs).take k)) (sumV ((prodsV (meanV ys) (meanV ys) ys ys).take k)) := by
    intro k
    induction k with
    | zero => intro _; exact ⟨false, 0, 0, e0 _, e0 _, by rw [d_inf]; omega, by rw [d_inf]; omega, .inl ⟨rfl, rfl⟩, .inl rfl⟩
    | succ k ih =>
      intro hk
      have s1 := (sum_bd 1230 (by omega) (by omega) _ P1 (k + 1) (by omega) (by omega)).1
      have s2 := (sum_bd 1230 (by omega) (by omega) _ P2 (k + 1) (by omega) (by omega)).1
      rw [sumV_take _ k (by omega)] at s1 ⊢
      rw [sumV_take _ k (by omega)] at s2 ⊢
      rw [show (prodsV (meanV xs) (meanV xs) xs xs).getD k 0 = (prodsV (meanV xs) (meanV xs) xs xs)[k]'(by omega) by simp [List.getD, show k < (prodsV (meanV xs) (meanV xs) xs xs).length by omega]] at s1 ⊢
      rw [show (prodsV (meanV ys) (meanV ys) ys ys).getD k 0 = (prodsV (meanV ys) (meanV ys) ys ys)[k]'(by omega) by simp [List.getD, show k < (prodsV (meanV ys) (meanV ys) ys ys).length by omega]] at s2 ⊢
      have nn := nn_sum (E := 1230) (by omega) (by omega) ((prodsV (meanV xs) (meanV xs) xs xs).take k) (by simp; omega) (fun x hx => P1 x (List.mem_of_mem_take hx)) (fun x hx => N1 x (List.mem_of_mem_take hx))
      exact add_sc (by omega) (by omega) (ih (by omega)) (sq k (by omega) (by omega)) nn (N1 _ (List.getElem_mem _)) s1 s2
  have hsp := key l.length (Nat.le_refl _)
  rw [List.take_of_length_le (by omega), List.take_of_length_le (by omega)] at hsp
  obtain ⟨q, q1, q2, q3, q4⟩ := fl_len hz l.length h0 (by omega)
  have ev1 : varV xs = fdiv (sumV (prodsV (meanV xs) (meanV xs) xs xs)) (double.word false q) := by
    unfold varV spreadV
    rw [len1]
    exact congrArg _ q1
  have ev2 : varV ys = fdiv (sumV (prodsV (meanV ys) (meanV ys) ys ys)) (double.word false q) := by
    unfold varV spreadV
    rw [len2]
    exact congrArg _ q1
  rw [ev1] at V1 ⊢
  rw [ev2] at V2 ⊢
  exact div_sc (e := 946) (g := z + 12) (by omega) (by omega) (by omega) hsp q2 q3 q4 V1 V2
end Go.Proofs.Ytcgkolaljgpphaa
