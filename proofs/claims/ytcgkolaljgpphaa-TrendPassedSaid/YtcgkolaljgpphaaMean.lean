/- mean and spread: sums of finite doubles, with no operation that is invalid. -/
import Derived.Test.YtcgkolaljgpphaaMay
namespace Go.Proofs.Ytcgkolaljgpphaa
set_option linter.unusedVariables false
set_option linter.unusedSimpArgs false
open Go.RowKit

def sumV (l : List Nat) : Nat := l.foldl fadd 0
def fint (n : Int) : Nat := floatOfInt .f64 n
def meanV (l : List Nat) : Nat := fdiv (sumV l) (floatOfInt .f64 (l.length : Int))
def prodsV (mx my : Nat) (xs ys : List Nat) : List Nat := List.zipWith (fun x y => fmul (fsub x mx) (fsub y my)) xs ys
def spreadV (mx my : Nat) (xs ys : List Nat) : Nat := sumV (prodsV mx my xs ys)

theorem sumV_take (l : List Nat) (k : Nat) (hk : k < l.length) : sumV (l.take (k + 1)) = fadd (sumV (l.take k)) (l.getD k 0) := by
  have h : l.take (k + 1) = l.take k ++ [l.getD k 0] := by
    rw [List.take_add_one]
    simp [List.getD, hk]
  rw [h, sumV, sumV, List.foldl_append]
  rfl
/-- x is finite and at most 2 ^ e units. -/
def BndE (e x : Nat) : Prop := Bnd (2 ^ e) x
theorem bndE_zero (e : Nat) : BndE e 0 := ⟨false, 0, by decide, by decide, by rw [show rv 0 = 0 by decide]; exact Nat.zero_le _⟩
theorem BndE.mono {a e x : Nat} (h : BndE a x) (ha : a ≤ e) : BndE e x := Bnd.mono h (Nat.pow_le_pow_right (by omega) ha)
theorem pow_two_le {a b e : Nat} (ha : a < e) (hb : b < e) : 2 ^ a + 2 ^ b ≤ 1 * 2 ^ e := by
  obtain ⟨d, rfl⟩ := Nat.exists_eq_add_of_lt ha
  have h1 : 2 ^ a ≤ 2 ^ (a + d) := Nat.pow_le_pow_right (by omega) (by omega)
  have h2 : 2 ^ b ≤ 2 ^ (a + d) := Nat.pow_le_pow_right (by omega) (by omega)
  have h3 : 2 ^ (a + d + 1) = 2 ^ (a + d) * 2 := Nat.pow_succ 2 (a + d)
  omega
theorem fadd_e {a b e x y : Nat} (hx : BndE a x) (hy : BndE b y) (ha : a < e) (hb : b < e) (h1 : 52 ≤ e) (h2 : e ≤ 2000) : floatBits .add .f64 x y = some (fadd x y) ∧ BndE e (fadd x y) := by
  have := fadd_bnd (c := 1) (E := e) hx hy (by omega) (by omega) h1 h2 (pow_two_le ha hb)
  rwa [Nat.one_mul] at this
theorem fsub_e {a b e x y : Nat} (hx : BndE a x) (hy : BndE b y) (ha : a < e) (hb : b < e) (h1 : 52 ≤ e) (h2 : e ≤ 2000) : floatBits .sub .f64 x y = some (fsub x y) ∧ BndE e (fsub x y) := by
  have := fsub_bnd (c := 1) (E := e) hx hy (by omega) (by omega) h1 h2 (pow_two_le ha hb)
  rwa [Nat.one_mul] at this
theorem fmul_e {a b e x y z : Nat} (hz : z = 1074) (hx : BndE a x) (hy : BndE b y) (h : a + b ≤ e + z) (h1 : 52 ≤ e) (h2 : e ≤ 2000) : floatBits .mul .f64 x y = some (fmul x y) ∧ BndE e (fmul x y) := by
  have := fmul_bnd (c := 1) (E := e) hx hy (by omega) (by omega) h1 h2 (by
    rw [← hz, Nat.one_mul, ← Nat.pow_add, ← Nat.pow_add]
    exact Nat.pow_le_pow_right (by omega) h)
  rwa [Nat.one_mul] at this
theorem fdiv_e {a e F x q z : Nat} {t : Bool} (hz : z = 1074) (hx : BndE a x) (hq : q < Ieee.double.infRung) (hF : 2 ^ F ≤ rv q) (h : 1 + a + z ≤ e + F) (h1 : 52 ≤ e) (h2 : e ≤ 2000) :
    floatBits .quo .f64 x (Ieee.double.word t q) = some (fdiv x (Ieee.double.word t q)) ∧ BndE e (fdiv x (Ieee.double.word t q)) := by
  have := fdiv_bnd (t := t) (c := 1) (E := e) (F := F) hx hq hF (by omega) (by omega) h1 h2 (by
    have e1 : 2 * 2 ^ a * 2 ^ z = 2 ^ (1 + a + z) := by rw [Nat.pow_add 2 (1 + a) z, Nat.pow_add 2 1 a]
    rw [← hz, e1, Nat.one_mul, ← Nat.pow_add]
    exact Nat.pow_le_pow_right (by omega) h)
  rwa [Nat.one_mul] at this

theorem sum_bd (E : Nat) (h1 : 52 ≤ E) (h2 : E ≤ 1900) (l : List Nat) (hb : ∀ x ∈ l, BndE E x) : ∀ k, k ≤ l.length → k ≤ 8000 →
    Bnd ((k + 1) * 2 ^ E) (sumV (l.take k)) ∧ (k < l.length → floatBits .add .f64 (sumV (l.take k)) (l.getD k 0) = some (sumV (l.take (k + 1)))) := by
  intro k
  induction k with
  | zero =>
    intro _ _
    refine ⟨by rw [Nat.zero_add, Nat.one_mul]; exact bndE_zero E, fun hk => ?_⟩
    rw [sumV_take l 0 hk]
    have hx : Bnd (2 ^ E) (l.getD 0 0) := hb _ (by simp [List.getD, hk])
    exact (fadd_bnd (c := 2) (E := E) (bndE_zero E) hx (by omega) (by omega) h1 (by omega) (by omega)).1
  | succ k ih =>
    intro hk hk2
    obtain ⟨i1, i2⟩ := ih (by omega) (by omega)
    have hx : Bnd (2 ^ E) (l.getD k 0) := hb _ (by
      have hk' : k < l.length := by omega
      simp [List.getD, hk'])
    have ha := (fadd_bnd (c := k + 2) (E := E) i1 hx (by omega) (by omega) h1 (by omega) (by rw [← Nat.succ_mul]; exact Nat.le_refl _)).2
    rw [← sumV_take l k (by omega)] at ha
    refine ⟨ha, fun hk' => ?_⟩
    rw [sumV_take l (k + 1) hk']
    have hx' : Bnd (2 ^ E) (l.getD (k + 1) 0) := hb _ (by simp [List.getD, hk'])
    exact (fadd_bnd (c := k + 3) (E := E) ha hx' (by omega) (by omega) h1 (by omega) (by rw [← Nat.succ_mul]; exact Nat.le_refl _)).1
theorem sum_step {E : Nat} (h1 : 52 ≤ E) (h2 : E ≤ 1900) {l : List Nat} (hb : ∀ x ∈ l, BndE E x) {k : Nat} (hk : k < l.length) (h : l.length ≤ 8000) :
    floatBits .add .f64 (sumV (l.take k)) (l[k]) = some (sumV (l.take (k + 1))) := by
  have := (sum_bd E h1 h2 l hb k (by omega) (by omega)).2 hk
  rwa [show l.getD k 0 = l[k] by simp [hk]] at this
theorem sum_e {E : Nat} (h1 : 52 ≤ E) (h2 : E ≤ 1900) {l : List Nat} (hb : ∀ x ∈ l, BndE E x) (h : l.length ≤ 8000) : BndE (E + 13) (sumV l) := by
  have := (sum_bd E h1 h2 l hb l.length (Nat.le_refl _) h).1
  rw [List.take_length] at this
  refine this.mono ?_
  rw [Nat.pow_add, Nat.mul_comm]
  exact Nat.mul_le_mul_left _ (by omega)

theorem fint_gen (s : Bool) (m z E : Nat) (hz : z = 1074) (hE : E = 63 + z) (hm : m ≤ 2 ^ 63) : ∃ r, Ieee.double.nearest s m 0 = Ieee.double.word s r ∧ r < Ieee.double.infRung ∧ Near r (m * 2 ^ z) 1 ∧ rv r ≤ 2 ^ E := by
  subst hE
  obtain ⟨r, hr, hn⟩ := nearest_near s m 0
  have h1 : ((0 : Int) + 1074).toNat = z := by omega
  have h2 : (-((0 : Int) + 1074)).toNat = 0 := by omega
  rw [h1, h2, Nat.pow_zero] at hn
  obtain ⟨R, hR, hR2⟩ := rung_of (c := 1) (E := 63 + z) (by omega) (by omega) (by omega)
  rw [Nat.one_mul] at hR
  have hle := hn.le (R := R) (by omega) (by
    rw [hR, Nat.mul_one, Nat.pow_add]
    exact Nat.mul_le_mul_right _ hm)
  have hi : r < Ieee.double.infRung := by rw [d_inf]; omega
  refine ⟨r, ?_, hi, hn, ?_⟩
  · rw [hr, Nat.min_eq_left (Nat.le_of_lt hi)]
  · rw [← hR]; exact rv_le hle

/-- A whole number as a double. -/
theorem fint_word (n : Int) : floatOfInt .f64 n = Ieee.double.nearest (decide (n < 0)) n.natAbs 0 := rfl
theorem fint_bd (n : Int) (h : -9223372036854775808 ≤ n ∧ n ≤ 9223372036854775808) : BndE 1137 (floatOfInt .f64 n) := by
  obtain ⟨r, h1, h2, _, h3⟩ := fint_gen (decide (n < 0)) n.natAbs 1074 1137 rfl rfl (by omega)
  rw [fint_word, h1]
  exact ⟨_, r, rfl, h2, h3⟩

theorem fint_pos (n z : Nat) (hz : z = 1074) (h0 : 1 ≤ n) (h : n ≤ 9223372036854775808) : ∃ q, floatOfInt .f64 (n : Int) = Ieee.double.word false q ∧ q < Ieee.double.infRung ∧ 2 ^ z ≤ rv q := by
  have h1 : decide ((n : Int) < 0) = false := by simp
  obtain ⟨r, h2, h3, hn, _⟩ := fint_gen false n z _ hz rfl (by omega)
  obtain ⟨R1, hR1, _⟩ := rung_of (c := 1) (E := z) (by omega) (by omega) (by omega)
  rw [Nat.one_mul] at hR1
  have hge := hn.ge (R := R1) (by omega) (by
    rw [hR1, Nat.mul_one]
    have := Nat.mul_le_mul_right (2 ^ z) h0
    rwa [Nat.one_mul] at this)
  refine ⟨r, ?_, h3, ?_⟩
  · rw [fint_word, h1]; exact h2
  · rw [← hR1]; exact rv_le hge

/-- The mean of at most 8000 whole numbers. -/
theorem mean_bd (l : List Nat) (hb : ∀ x ∈ l, BndE 1137 x) (h0 : 1 ≤ l.length) (h : l.length ≤ 8000) :
    floatBits .quo .f64 (sumV l) (floatOfInt .f64 (l.length : Int)) = some (meanV l) ∧ BndE 1151 (meanV l) := by
  obtain ⟨q, hq, hq2, hq3⟩ := fint_pos l.length _ rfl h0 (by omega)
  have hd := fdiv_e (t := false) (e := 1151) rfl (sum_e (by omega) (by omega) hb h) hq2 hq3 (by omega) (by omega) (by omega)
  rw [← hq] at hd
  exact hd
theorem diff_bd {x m : Nat} (hx : BndE 1137 x) (hm : BndE 1151 m) : floatBits .sub .f64 x m = some (fsub x m) ∧ BndE 1152 (fsub x m) := fsub_e hx hm (by omega) (by omega) (by omega) (by omega)
theorem prod_bd {x y : Nat} (hx : BndE 1152 x) (hy : BndE 1152 y) : floatBits .mul .f64 x y = some (fmul x y) ∧ BndE 1230 (fmul x y) := fmul_e rfl hx hy (by omega) (by omega) (by omega)
theorem prods_bd {xs ys : List Nat} {mx my : Nat} (hx : ∀ x ∈ xs, BndE 1137 x) (hy : ∀ y ∈ ys, BndE 1137 y) (hmx : BndE 1151 mx) (hmy : BndE 1151 my) : ∀ p ∈ prodsV mx my xs ys, BndE 1230 p := by
  intro p hp
  obtain ⟨i, hi, rfl⟩ := List.getElem_of_mem hp
  have hi' : i < (List.zipWith (fun x y => fmul (fsub x mx) (fsub y my)) xs ys).length := hi
  simp only [List.length_zipWith] at hi'
  have e : (prodsV mx my xs ys)[i] = fmul (fsub (xs[i]'(by omega)) mx) (fsub (ys[i]'(by omega)) my) := List.getElem_zipWith ..
  rw [e]
  exact (prod_bd (diff_bd (hx _ (List.getElem_mem _)) hmx).2 (diff_bd (hy _ (List.getElem_mem _)) hmy).2).2
theorem prods_len {xs ys : List Nat} {mx my : Nat} (h : ys.length = xs.length) : (prodsV mx my xs ys).length = xs.length := by
  simp [prodsV, h]
theorem prods_get {xs ys : List Nat} {mx my : Nat} {i : Nat} (h1 : i < xs.length) (h2 : i < ys.length) (h : i < (prodsV mx my xs ys).length) : (prodsV mx my xs ys)[i] = fmul (fsub xs[i] mx) (fsub ys[i] my) := List.getElem_zipWith ..
theorem spread_bd {xs ys : List Nat} {mx my : Nat} (hx : ∀ x ∈ xs, BndE 1137 x) (hy : ∀ y ∈ ys, BndE 1137 y) (hmx : BndE 1151 mx) (hmy : BndE 1151 my) (he : ys.length = xs.length) (h : xs.length ≤ 8000) : BndE 1243 (spreadV mx my xs ys) :=
  sum_e (E := 1230) (by omega) (by omega) (prods_bd hx hy hmx hmy) (by rw [prods_len he]; exact h)

/-- The cells of a list of doubles. -/
def HasF (w : World) (g : Nat) (l : List Nat) : Prop := ∀ j, j < l.length → w.cell? ⟨g, j, none⟩ = some (.float .f64 (l.getD j 0))

set_option maxHeartbeats 400000 in
theorem mean21 (g c : Nat) (l : List Nat) (w : World) (hl : HasF w g l) (hb : ∀ x ∈ l, BndE 1137 x) (h0 : 1 ≤ l.length) (h : l.length ≤ 8000) :
    Calls Try.prog 21 #[.slice (some ⟨g, 0, none⟩) l.length c] w fun e w' => e = .returned (.float .f64 (meanV l)) ∧ w = w' := by
  have HS := Lib.hid hb
  have HM := Lib.hid (mean_bd l hb h0 h).1
  clear hb
  go_enter Try.func21, Try.ntmps21
  go_wp2
  go_loop [3, 8] (fun h i => ∃ k : Nat, k ≤ l.length ∧ i = .int .i64 k ∧ h = .float .f64 (sumV (l.take k))) (fun _ i => l.length - (intOf i).toNat)
  case atStart => exact ⟨0, Nat.zero_le _, rfl, rfl⟩
  case round =>
    obtain ⟨k, hk, rfl, rfl⟩ := hrel
    by_cases hlt : k < l.length
    · have hc := hl k hlt
      have q := fun (t : TypeId) (w : World) => run_float_arith (P := Try.prog) w .add t .f64 _ _ _ (sum_step (by omega) (by omega) HS.out hlt h)
      clear hl
      go_wp2
      go_round
      case rel => exact ⟨k + 1, by omega, by go_num, rfl⟩
      case measure => simp [intOf]; omega
    · obtain rfl : k = l.length := by omega
      have q := fun (t : TypeId) (w : World) => run_float_arith (P := Try.prog) w .quo t .f64 _ _ _ HM.out
      rw [List.take_length]
      clear hl
      go_wp2
      go_ret
      exact ⟨rfl, rfl⟩

set_option maxHeartbeats 400000 in
theorem mean22 (g c : Nat) (l : List Nat) (w : World) (hl : HasF w g l) (hb : ∀ x ∈ l, BndE 1137 x) (h0 : 1 ≤ l.length) (h : l.length ≤ 8000) :
    Calls Try.prog 22 #[.slice (some ⟨g, 0, none⟩) l.length c] w fun e w' => e = .returned (.float .f64 (meanV l)) ∧ w = w' := by
  have HS := Lib.hid hb
  have HM := Lib.hid (mean_bd l hb h0 h).1
  clear hb
  go_enter Try.func22, Try.ntmps22
  go_wp2
  go_loop [3, 4] (fun h i => ∃ k : Nat, k ≤ l.length ∧ i = .int .i64 k ∧ h = .float .f64 (sumV (l.take k))) (fun _ i => l.length - (intOf i).toNat)
  case atStart => exact ⟨0, Nat.zero_le _, rfl, rfl⟩
  case round =>
    obtain ⟨k, hk, rfl, rfl⟩ := hrel
    by_cases hlt : k < l.length
    · have hc := hl k hlt
      have q := fun (t : TypeId) (w : World) => run_float_arith (P := Try.prog) w .add t .f64 _ _ _ (sum_step (by omega) (by omega) HS.out hlt h)
      clear hl
      go_wp2
      go_round
      case rel => exact ⟨k + 1, by omega, by go_num, rfl⟩
      case measure => simp [intOf]; omega
    · obtain rfl : k = l.length := by omega
      have q := fun (t : TypeId) (w : World) => run_float_arith (P := Try.prog) w .quo t .f64 _ _ _ HM.out
      rw [List.take_length]
      clear hl
      go_wp2
      go_ret
      exact ⟨rfl, rfl⟩

set_option maxHeartbeats 800000 in
theorem spread23 (g c g' c' mx my n : Nat) (xs ys : List Nat) (w : World) (hn : xs.length = n) (hn' : ys.length = n) (hl : HasF w g xs) (hl' : HasF w g' ys) (hx : ∀ x ∈ xs, BndE 1137 x) (hy : ∀ y ∈ ys, BndE 1137 y) (hmx : BndE 1151 mx) (hmy : BndE 1151 my) (h : n ≤ 8000) :
    Calls Try.prog 23 #[.slice (some ⟨g, 0, none⟩) n c, .slice (some ⟨g', 0, none⟩) n c', .float .f64 mx, .float .f64 my] w fun e w' => e = .returned (.float .f64 (spreadV mx my xs ys)) ∧ Below w.heap.size w w' := by
  have HX := Lib.hid hx
  have HY := Lib.hid hy
  have HMX := Lib.hid hmx
  have HMY := Lib.hid hmy
  have HP := Lib.hid (prods_bd hx hy hmx hmy)
  have HPL := prods_len (mx := mx) (my := my) (hn'.trans hn.symm)
  clear hx hy hmx hmy
  go_enter Try.func23, Try.ntmps23
  go_wp2
  go_loopw [9, 10] (fun s i wr => ∃ k : Nat, k ≤ n ∧ i = .int .i64 k ∧ s = .float .f64 (sumV ((prodsV mx my xs ys).take k)) ∧ Below w.heap.size w wr) (fun _ i _ => n - (intOf i).toNat)
  case atStart => exact ⟨0, Nat.zero_le _, rfl, rfl, Below.refl _ _⟩
  case round =>
    obtain ⟨k, hk, rfl, rfl, hb⟩ := hrel
    by_cases hlt : k < n
    · have hkx : k < xs.length := by omega
      have hky : k < ys.length := by omega
      have hkp : k < (prodsV mx my xs ys).length := by omega
      have hc := hl k hkx
      have hc' := hl' k hky
      rw [show xs.getD k 0 = xs[k] by simp [hkx]] at hc
      rw [show ys.getD k 0 = ys[k] by simp [hky]] at hc'
      have q := fun (t : TypeId) (w : World) => run_float_arith (P := Try.prog) w .add t .f64 _ _ _ (sum_step (by omega) (by omega) HP.out hkp (by omega))
      rw [prods_get hkx hky hkp] at q
      have d1 := diff_bd (HX.out _ (List.getElem_mem hkx)) HMX.out
      have d2 := diff_bd (HY.out _ (List.getElem_mem hky)) HMY.out
      have q1 := fun (t : TypeId) (w : World) => run_float_arith (P := Try.prog) w .sub t .f64 _ _ _ d1.1
      have q2 := fun (t : TypeId) (w : World) => run_float_arith (P := Try.prog) w .sub t .f64 _ _ _ d2.1
      have q3 := fun (t : TypeId) (w : World) => run_float_arith (P := Try.prog) w .mul t .f64 _ _ _ (prod_bd d1.2 d2.2).1
      generalize xs[k] = x at *
      generalize ys[k] = y at *
      replace hc : wr.cell? ⟨g, k, none⟩ = some (.float .f64 x) := (hb.cell (World.block_lt_of_cell? w ⟨g, k, none⟩ hc)).trans hc
      replace hc' : wr.cell? ⟨g', k, none⟩ = some (.float .f64 y) := (hb.cell (World.block_lt_of_cell? w ⟨g', k, none⟩ hc')).trans hc'
      have HB := Lib.hid hb.drew
      clear hb hl hl' d1 d2 hkx hky hkp HPL hn hn'
      go_wp2_with fail
      go_region_held3 (fun w' => w'.cell? ⟨g, k, none⟩ = some (.float .f64 x) ∧ w'.cell? ⟨g', k, none⟩ = some (.float .f64 y)) (first | exact ⟨hc, hc'⟩ | go_keep) (fail)
      go_wp2_with fail
      go_roundw
      case rel => exact ⟨k + 1, by omega, by go_num, rfl, HB.out⟩
      case measure => simp [intOf]; omega
    · obtain rfl : k = n := by omega
      have e : (prodsV mx my xs ys).take k = prodsV mx my xs ys := List.take_of_length_le (by omega)
      rw [e]
      have HB := Lib.hid hb
      clear hb hl hl' e HPL hn hn'
      go_wp2
      go_ret
      exact ⟨rfl, HB.out⟩
end Go.Proofs.Ytcgkolaljgpphaa
