/- The variance is no less than nought; it is nought where all numbers are the same. -/
import Derived.Test.YtcgkolaljgpphaaMeans
import Derived.Test.YtcgkolaljgpphaaOf
namespace Go.Proofs.Ytcgkolaljgpphaa
set_option linter.unusedVariables false
set_option linter.unusedSimpArgs false
open Ieee

/-- A finite double that bears no sign. -/
def NN (x : Nat) : Prop := ∃ r, x = double.word false r ∧ r < double.infRung
theorem NN.bnd {x : Nat} (h : NN x) : ∃ B, Bnd B x := by obtain ⟨r, h1, h2⟩ := h; exact ⟨rv r, false, r, h1, h2, Nat.le_refl _⟩
theorem nn_of {B m : Nat} (hm : m ≤ double.infRung) (h : Bnd B (double.word false m)) : NN (double.word false m) := by
  obtain ⟨s, r, h1, h2, _⟩ := h
  refine ⟨m, rfl, ?_⟩
  unfold Format.word at h1
  rw [d_sign, d_inf] at *
  cases s
  · simp at h1; omega
  · simp at h1; omega
theorem nn_zero : NN 0 := ⟨0, by decide, by rw [d_inf]; omega⟩
theorem nn_square {e a d : Nat} (hd : BndE a d) (h : a + a ≤ e + 1074) (h1 : 52 ≤ e) (h2 : e ≤ 2000) : NN (fmul d d) := by
  have v := fmul_e (e := e) (z := 1074) rfl hd hd h h1 h2
  obtain ⟨s, r, rfl, k2, _⟩ := hd
  obtain ⟨k, g1, _⟩ := mul_near (s := s) (t := s) (z := 1074) rfl k2 k2
  have hss : (s ^^ s) = false := by cases s <;> rfl
  rw [hss, v.1] at g1
  have e1 := Option.some.inj g1
  have b := v.2
  rw [e1] at b ⊢
  exact nn_of (Nat.min_le_right _ _) b
theorem nn_add {a b e x y : Nat} (hx : NN x) (hy : NN y) (bx : BndE a x) (by' : BndE b y) (ha : a < e) (hb : b < e) (h1 : 52 ≤ e) (h2 : e ≤ 2000) : NN (fadd x y) := by
  have v := fadd_e bx by' ha hb h1 h2
  obtain ⟨r, ex, k2⟩ := hx
  obtain ⟨q, ey, l2⟩ := hy
  subst ex ey
  obtain ⟨m, i, e1, e2, e3, _⟩ := read_word (s := false) k2
  obtain ⟨n, j, f1, f2, f3, _⟩ := read_word (s := false) l2
  have h : ∃ mg p, floatBits .add .f64 (double.word false x) (double.word false y) = some (double.nearest false mg p) := by
    obtain ⟨tot, htot⟩ : ∃ tot, signed false m (i - min i j).toNat + signed false n (j - min i j).toNat = tot := ⟨_, rfl⟩
    have hsum : Datum.sum (.number false m i) (.number false n j) = some (.number (if tot = 0 then false && false else decide (tot < 0)) tot.natAbs (min i j)) := by
      rw [← htot]; rfl
    have ht : ¬ tot < 0 := by
      rw [← htot]
      simp only [signed, Bool.false_eq_true, if_false]
      generalize m <<< (i - min i j).toNat = A
      generalize n <<< (j - min i j).toNat = B
      omega
    have hsg : (if tot = 0 then (false && false) else decide (tot < 0)) = false := by split <;> simp <;> omega
    rw [hsg] at hsum
    refine ⟨tot.natAbs, min i j, ?_⟩
    show double.add _ _ = _
    unfold Format.add
    rw [e1, f1, hsum]
    rfl
  obtain ⟨mg, p, h⟩ := h
  obtain ⟨k, hk, _⟩ := nearest_near false mg p
  have h' : floatBits .add .f64 x y = some (double.nearest false mg p) := h
  rw [hk, v.1] at h'
  have e4 := Option.some.inj h'
  have b := v.2
  rw [e4] at b ⊢
  exact nn_of (Nat.min_le_right _ _) b
theorem nn_div {x q : Nat} (hx : NN x) (hq : q < double.infRung) (hq0 : q ≠ 0) {B : Nat} (hb : Bnd B (fdiv x (double.word false q))) : NN (fdiv x (double.word false q)) := by
  obtain ⟨r, ex, k2⟩ := hx
  subst ex
  by_cases hr : x = 0
  · subst hr
    have e : fdiv 0 (double.word false q) = double.word false 0 := by
      unfold fdiv
      rw [show floatBits .quo .f64 0 (double.word false q) = some (double.word (false ^^ false) 0) from quo_zero (s := false) (t := false) hq hq0]
      rfl
    rw [e]
    exact ⟨0, rfl, by rw [d_inf]; omega⟩
  · obtain ⟨k, g1, _⟩ := quot_near (s := false) (t := false) (z := 1074) rfl k2 hq hr hq0
    have e : fdiv x (double.word false q) = double.word false (min k double.infRung) := by
      unfold fdiv
      rw [show floatBits .quo .f64 x (double.word false q) = some (double.word (false ^^ false) (min k double.infRung)) from g1]
      rfl
    rw [e] at hb ⊢
    exact nn_of (Nat.min_le_right _ _) hb
theorem NN.order {x : Nat} (h : NN x) : double.order x 0 = some .gt ∨ double.order x 0 = some .eq := by
  obtain ⟨r, ex, h2⟩ := h
  subst ex
  have e : (0 : Nat) = double.word false 0 := by decide
  have e1 : double.order x 0 = some (compare (sv false x) (sv false 0)) := order_word (s := false) (t := false) h2 (by rw [d_inf]; omega)
  rw [e1, compare_int]
  have h0 : sv false 0 = 0 := by simp [sv, rv_zero]
  have h1 : 0 ≤ sv false x := by simp only [sv, Bool.false_eq_true, if_false]; omega
  rw [h0, if_neg (by omega)]
  split
  · exact .inr rfl
  · exact .inl rfl

theorem nn_sum {E : Nat} (h1 : 52 ≤ E) (h2 : E ≤ 1900) : ∀ (l : List Nat), l.length ≤ 8000 → (∀ x ∈ l, BndE E x) → (∀ x ∈ l, NN x) → NN (sumV l) := by
  intro l hl hb hn
  have key : ∀ k, k ≤ l.length → NN (sumV (l.take k)) := by
    intro k
    induction k with
    | zero => intro _; exact nn_zero
    | succ k ih =>
      intro hk
      have i1 := ih (by omega)
      rw [sumV_take l k (by omega)]
      have hm : l.getD k 0 ∈ l := by
        have hk' : k < l.length := by omega
        simp [List.getD, hk']
      have b1 := (sum_bd E h1 h2 l hb k (by omega) (by omega)).1
      have b2 : BndE (E + 13) (sumV (l.take k)) := b1.mono (by
        have h5 : 2 ^ (E + 13) = 2 ^ 13 * 2 ^ E := by rw [Nat.pow_add, Nat.mul_comm]
        rw [h5]
        exact Nat.mul_le_mul_right (2 ^ E) (show k + 1 ≤ 2 ^ 13 by omega))
      exact nn_add i1 (hn _ hm) b2 (hb _ hm) (e := E + 14) (by omega) (by omega) (by omega) (by omega)
  have := key l.length (Nat.le_refl _)
  rwa [List.take_length] at this

/-- The variance bears no sign. -/
theorem var_nn (xs : List Nat) (hb : ∀ x ∈ xs, BndE 1137 x) (h0 : 1 ≤ xs.length) (h : xs.length ≤ 8000) : NN (varV xs) := by
  have hm := (mean_bd xs hb h0 h).2
  have hsp : NN (spreadV (meanV xs) (meanV xs) xs xs) := by
    refine nn_sum (E := 1230) (by omega) (by omega) _ (by rw [prods_len rfl]; exact h) (prods_bd hb hb hm hm) (fun p hp => ?_)
    obtain ⟨i, hi, rfl⟩ := List.getElem_of_mem hp
    have hi' : i < xs.length := by rw [← prods_len (xs := xs) (ys := xs) (mx := meanV xs) (my := meanV xs) rfl]; exact hi
    rw [prods_get hi' hi' hi]
    exact nn_square (e := 1230) (diff_bd (hb _ (List.getElem_mem hi')) hm).2 (by omega) (by omega) (by omega)
  obtain ⟨q, hq, hq2, hq3⟩ := fint_pos xs.length _ rfl h0 (by omega)
  have hv := (var_bd xs hb h0 h).2
  unfold varV at hv ⊢
  rw [hq] at hv ⊢
  refine nn_div hsp hq2 (fun e => ?_) hv
  subst e
  rw [rv_zero] at hq3
  have := Nat.two_pow_pos 1074
  omega

/-- All numbers the same: the variance is nought. -/
theorem var_same (n : Nat) (a : Int) (ha : a.natAbs ≤ 2 ^ 33) (h0 : 1 ≤ n) (h : n ≤ 1024) : double.order (varV ((List.replicate n a).map fl)) 0 = some .eq := by
  obtain ⟨z, hz⟩ : ∃ z : Nat, z = 1072 := ⟨_, rfl⟩
  have hs : Small (2 ^ 33) (List.replicate n a) := fun x hx => by rw [List.eq_of_mem_replicate hx]; exact ha
  have hsum : ∀ n : Nat, sumI (List.replicate n a) = (n : Int) * a := by
    intro n
    induction n with
    | zero => simp [sumI]
    | succ n ih =>
      rw [List.replicate_succ]
      show (a :: List.replicate n a).foldl (· + ·) 0 = _
      simp only [List.foldl_cons]
      rw [foldl_add, ih]
      push_cast
      rw [Int.add_mul]; omega
  have hnb : ((n : Int) * a).natAbs < 2 ^ 50 := by
    rw [Int.natAbs_mul, Int.natAbs_natCast]
    have := Nat.mul_le_mul h ha
    omega
  have hmean : meanV ((List.replicate n a).map fl) = fl a := by
    rw [mean_fl _ hs (by simp; exact h), hsum, List.length_replicate]
    have hW : EC z (fl (n : Int)) ((4 * n : Nat) : Int) := (fl_ec hz (n := (n : Int)) (by omega)).cast (by push_cast; rfl)
    have h1 := fdiv_ex (W := 4 * n) (u := 4 * a) hz (fl_ec hz hnb) hW (by omega) (by
      push_cast
      have : (4 : Int) * (4 * (↑n * a)) = 4 * a * (4 * ↑n) := by ac_rfl
      exact this) (by omega)
    exact ec_unique h1 (fl_ec hz (by omega))
  have hd : EC z (fsub (fl a) (fl a)) 0 := (fsub_ex hz (fl_ec hz (n := a) (by omega)) (fl_ec hz (n := a) (by omega)).ev (by omega)).cast (by omega)
  have hp : EV z (fmul (fsub (fl a) (fl a)) (fsub (fl a) (fl a))) 0 := fmul_ex hz hd.ev hd.ev (by rfl) (by decide)
  have hall : ∀ (l : List Nat) (acc : Nat), EC z acc 0 → (∀ x ∈ l, EV z x 0) → EC z (l.foldl fadd acc) 0 := by
    intro l
    induction l with
    | nil => intro acc h _; exact h
    | cons x l ih =>
      intro acc h hl
      exact ih _ ((fadd_ex hz h (hl x (by simp)) (by decide)).cast (by rfl)) (fun y hy => hl y (by simp [hy]))
  have hsp : EC z (spreadV (fl a) (fl a) ((List.replicate n a).map fl) ((List.replicate n a).map fl)) 0 := by
    refine hall _ 0 (ec_zero z) (fun p hpm => ?_)
    obtain ⟨i, hi, rfl⟩ := List.getElem_of_mem hpm
    have hi' : i < ((List.replicate n a).map fl).length := by rw [← prods_len (xs := (List.replicate n a).map fl) (ys := (List.replicate n a).map fl) (mx := fl a) (my := fl a) rfl]; exact hi
    rw [prods_get hi' hi' hi]
    have e : ((List.replicate n a).map fl)[i] = fl a := by simp
    rw [e]
    exact hp
  have hW : EC z (floatOfInt .f64 ((((List.replicate n a).map fl).length : Nat) : Int)) ((4 * n : Nat) : Int) := by
    rw [List.length_map, List.length_replicate]
    exact (fl_ec hz (n := (n : Int)) (by omega)).cast (by push_cast; rfl)
  unfold varV
  rw [hmean]
  exact order_zero (fdiv_ex (W := 4 * n) (u := 0) hz hsp hW (by omega) (by omega) (by decide))
end Go.Proofs.Ytcgkolaljgpphaa
