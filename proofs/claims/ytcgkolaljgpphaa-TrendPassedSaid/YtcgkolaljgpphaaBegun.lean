/- begun: the calls that every statement of layer 32 asks ahead answer as fixed. -/
import Derived.Test.YtcgkolaljgpphaaLine
import Derived.Test.YtcgkolaljgpphaaEval
namespace Go.Proofs.Ytcgkolaljgpphaa
set_option linter.unusedVariables false
set_option linter.unusedSimpArgs false
open Go.RowKit

attribute [local go_sem] run_store_float'

theorem run_equalIn_float {P : Program} {w : World} (d : Nat) (t : TypeId) (a b : Nat) (h : P.underlying t = some (.float .f64)) : (Op.equalIn (d + 1) t (.float .f64 a) (.float .f64 b)).run P w = .ok (FloatKind.f64.format.order a b == some .eq) w := by
  simp [Op.equalIn, run_underlying h, Op.floatEq]
@[local go_sem] theorem eq25 (a b : Nat) (w : World) : (Op.equalIn 9999 25 (.float .f64 a) (.float .f64 b)).run Try.prog w = .ok (FloatKind.f64.format.order a b == some .eq) w := run_equalIn_float 9998 25 a b Try.underlying25

theorem b_of1 : ofV bV1 = .tuple #[trendT 2 4611686018427387904 4607182418800017408 4607182418800017408 4613937818241073152, .int .i64 0] := by
  simp only [ofV, b_scan, b_nums, b_mean, b_var, b_least, b_most]
  simp
theorem b_of2 : ofV bV2 = .tuple #[trendT 0 0 0 0 0, .int .i64 5] := by
  have h1 : scan bV2 = 0 := by decide +kernel
  have h2 : numsV bV2 = [] := by decide +kernel
  simp only [ofV, h1, h2]
  simp
def bX : List Val := [⟨1, 0, ⟨#[]⟩⟩, ⟨1, 1, ⟨#[]⟩⟩, ⟨1, 2, ⟨#[]⟩⟩]
def bY : List Val := [⟨1, 1, ⟨#[]⟩⟩, ⟨1, 3, ⟨#[]⟩⟩, ⟨1, 5, ⟨#[]⟩⟩]
theorem b_line : LineIs (numsV bX) (numsV bY) (.tuple #[slopeT 4607182418800017408 4611686018427387904 4607182418800017408, .int .i64 0]) := by
  refine .inr ⟨by decide +kernel, 4607182418800017408, 4611686018427387904, 4607182418800017408, ⟨by decide +kernel, ⟨4611686018427387904, by decide +kernel, by decide +kernel⟩, .inr ⟨by decide +kernel, 4625196817309499392, 4625196817309499392, by decide +kernel, by decide +kernel, by decide +kernel⟩⟩, rfl⟩

theorem num18 (n : Int) (w : World) : Calls Try.prog 18 #[.int .i64 n] w fun e w' => e = .returned (.agg #[.int .i64 1, .int .i64 n, .string ⟨#[]⟩]) ∧ Below w.heap.size w w' := by
  go_enter Try.func18, Try.ntmps18
  go_wp2
  exact bodyPost_ret (v := .agg #[.int .i64 1, .int .i64 n, .string ⟨#[]⟩]) (by simp [results, Try.results18, go_sem]) rfl ⟨rfl, (Below.refl _ _).alloc (Nat.le_refl _) _⟩

theorem valsAt3 (w : World) (a0 a1 b0 b1 c0 c1 : Int) (a2 b2 c2 : ByteArray) : ValsAt (w.alloc (.cells #[.int .i64 a0, .int .i64 a1, .string a2, .int .i64 b0, .int .i64 b1, .string b2, .int .i64 c0, .int .i64 c1, .string c2] 44)) (some ⟨w.heap.size, 0, none⟩) [⟨a0, a1, a2⟩, ⟨b0, b1, b2⟩, ⟨c0, c1, c2⟩] := by
  intro i hi
  have hh := heap_alloc_new w (.cells #[.int .i64 a0, .int .i64 a1, .string a2, .int .i64 b0, .int .i64 b1, .string b2, .int .i64 c0, .int .i64 c1, .string c2] 44)
  refine ⟨w.heap.size, 0, rfl, by simp, ?_, ?_, ?_⟩
  all_goals
    rw [cell_of_row _ _ _ _ _ _ hh]
    simp at hi
    rcases (by omega : i = 0 ∨ i = 1 ∨ i = 2) with rfl | rfl | rfl <;> rfl
theorem valsAt1 (w : World) (a0 a1 : Int) (a2 : ByteArray) : ValsAt (w.alloc (.cells #[.int .i64 a0, .int .i64 a1, .string a2] 44)) (some ⟨w.heap.size, 0, none⟩) [⟨a0, a1, a2⟩] := by
  intro i hi
  have hh := heap_alloc_new w (.cells #[.int .i64 a0, .int .i64 a1, .string a2] 44)
  refine ⟨w.heap.size, 0, rfl, by simp, ?_, ?_, ?_⟩
  all_goals
    rw [cell_of_row _ _ _ _ _ _ hh]
    simp at hi
    obtain rfl : i = 0 := by omega
    rfl

theorem fits_of {vs : List Val} (h : vs.all (fun v => decide (-9223372036854775808 ≤ v.k ∧ v.k ≤ 9223372036854775807) && decide (-9223372036854775808 ≤ v.n ∧ v.n ≤ 9223372036854775807) && decide (v.s.size ≤ 140737488351232)) = true) : ∀ v ∈ vs, v.fits := fun v hv => by
  have := List.all_eq_true.1 h v hv
  simp only [Bool.and_eq_true, decide_eq_true_eq] at this
  exact ⟨this.1.1, this.1.2, this.2⟩
theorem of11_b1 (w : World) : Calls Try.prog 11 #[.slice (some ⟨w.heap.size, 0, none⟩) 3 3] (w.alloc (.cells #[.int .i64 1, .int .i64 1, .string ⟨#[]⟩, .int .i64 3, .int .i64 0, .string ⟨#[51]⟩, .int .i64 1, .int .i64 3, .string ⟨#[]⟩] 44))
    fun e w' => e = .returned (.tuple #[trendT 2 4611686018427387904 4607182418800017408 4607182418800017408 4613937818241073152, .int .i64 0]) ∧ Below w.heap.size w w' := by
  have h := of11 (some ⟨w.heap.size, 0, none⟩) 3 bV1 _ (valsAt3 w 1 1 3 0 1 3 ⟨#[]⟩ ⟨#[51]⟩ ⟨#[]⟩) (fits_of (by decide +kernel)) (by decide)
  rw [b_of1] at h
  exact h.mono fun e w' h' => ⟨h'.1, one_below h'.2⟩
theorem of11_b2 (w : World) : Calls Try.prog 11 #[.slice (some ⟨w.heap.size, 0, none⟩) 1 1] (w.alloc (.cells #[.int .i64 0, .int .i64 0, .string ⟨#[]⟩] 44))
    fun e w' => e = .returned (.tuple #[trendT 0 0 0 0 0, .int .i64 5]) ∧ Below w.heap.size w w' := by
  have h := of11 (some ⟨w.heap.size, 0, none⟩) 1 bV2 _ (valsAt1 w 0 0 ⟨#[]⟩) (fits_of (by decide +kernel)) (by decide)
  rw [b_of2] at h
  exact h.mono fun e w' h' => ⟨h'.1, one_below h'.2⟩
theorem line14_b (w wa : World) (p q : Nat) (hx : ValsAt w (some ⟨p, 0, none⟩) bX) (hy : ValsAt w (some ⟨q, 0, none⟩) bY) : Calls Try.prog 14 #[.slice (some ⟨p, 0, none⟩) 3 3, .slice (some ⟨q, 0, none⟩) 3 3] w
    fun e w' => e = .returned (.tuple #[slopeT 4607182418800017408 4611686018427387904 4607182418800017408, .int .i64 0]) ∧ Below w.heap.size w w' :=
  line14 _ _ 3 3 3 bX bY w hx hy (fits_of (by decide +kernel)) (fits_of (by decide +kernel)) (fun v hv => by simp [bX] at hv; rcases hv with rfl | rfl | rfl <;> exact ⟨rfl, by decide +kernel⟩) (fun v hv => by simp [bY] at hv; rcases hv with rfl | rfl | rfl <;> exact ⟨rfl, by decide +kernel⟩) rfl rfl (by decide) (by decide) _ b_line

set_option maxRecDepth 100000 in
set_option maxHeartbeats 1000000 in
theorem begun8 (w : World) : Calls Try.prog 8 #[] w fun e w' => e = .returned (.bool true) ∧ Below w.heap.size w w' := by
  go_enter Try.func8, Try.ntmps8
  go_wp2_with (first | (go_at_call_of 18 (1 : Int); refine (num18 1 _).mono ?_; rintro e wa ⟨rfl, hba⟩) | (go_at_call_of 18 (3 : Int); refine (num18 3 _).mono ?_; rintro e wb ⟨rfl, hbb⟩))
  refine (of11_b1 _).mono ?_
  rintro e w1 ⟨rfl, hb1⟩
  have HB1 := Lib.hid (hba.trans ((hbb.trans (hb1.mono hbb.size)).mono hba.size))
  clear hba hbb hb1
  simp only [trendT]
  have r1 := heap_alloc_new w1 (.cells #[.int .i64 2, .float .f64 4611686018427387904, .float .f64 4607182418800017408, .float .f64 4607182418800017408, .float .f64 4613937818241073152] 27)
  go_wp2_with fail
  obtain ⟨X1, hX1⟩ : ∃ X1, w1.alloc (.cells #[.int .i64 2, .float .f64 4611686018427387904, .float .f64 4607182418800017408, .float .f64 4607182418800017408, .float .f64 4613937818241073152] 27) = X1 := ⟨_, rfl⟩
  have hz1 : w1.heap.size + 1 = X1.heap.size := by rw [← hX1]; simp
  have HX1 := Lib.hid (HB1.out.alloc HB1.out.size (.cells #[.int .i64 2, .float .f64 4611686018427387904, .float .f64 4607182418800017408, .float .f64 4607182418800017408, .float .f64 4613937818241073152] 27))
  rw [hX1] at r1 HX1 ⊢
  rw [hz1]
  have hl1 : w1.heap.size < X1.heap.size := by omega
  clear hX1 hz1 HB1
  obtain ⟨T1, hT1⟩ : ∃ T1, w1.heap.size = T1 := ⟨_, rfl⟩
  rw [hT1] at r1 hl1 ⊢
  clear hT1
  refine (of11_b2 X1).mono ?_
  rintro e w2 ⟨rfl, hb2⟩
  replace r1 := hb2.row r1 hl1
  have HB2 := Lib.hid (HX1.out.trans (hb2.mono HX1.out.size))
  have hl2 : T1 < w2.heap.size := Nat.lt_of_lt_of_le hl1 hb2.size
  clear HX1 hb2 hl1
  simp only [trendT]
  replace r1 := (Below.heap_alloc w2 (.cells #[.int .i64 0, .float .f64 0, .float .f64 0, .float .f64 0, .float .f64 0] 27) _ hl2).trans r1
  have HB3 := Lib.hid (HB2.out.alloc HB2.out.size (.cells #[.int .i64 0, .float .f64 0, .float .f64 0, .float .f64 0, .float .f64 0] 27))
  go_wp2_with fail
  obtain ⟨X2, hX2⟩ : ∃ X2, w2.alloc (.cells #[.int .i64 0, .float .f64 0, .float .f64 0, .float .f64 0, .float .f64 0] 27) = X2 := ⟨_, rfl⟩
  have hl3 : T1 < X2.heap.size := by rw [← hX2]; simp; omega
  rw [hX2] at r1 HB3 ⊢
  clear hX2 HB2 hl2
  refine (num18 0 _).mono ?_
  rintro e y0 ⟨rfl, g0⟩
  go_wp2_with fail
  refine (num18 1 _).mono ?_
  rintro e y1 ⟨rfl, g1⟩
  go_wp2_with (go_at_call_of 18 (2 : Int); refine (num18 2 _).mono ?_; rintro e y2 ⟨rfl, g2⟩)
  have G2 := g0.trans ((g1.trans (g2.mono g1.size)).mono g0.size)
  clear g0 g1 g2
  have VX := valsAt3 y2 1 0 1 1 1 2 ⟨#[]⟩ ⟨#[]⟩ ⟨#[]⟩
  refine (num18 1 _).mono ?_
  rintro e y3 ⟨rfl, g3⟩
  replace VX := VX.below g3
  go_wp2_with (first | (go_at_call_of 18 (3 : Int); refine (num18 3 _).mono ?_; rintro e y4 ⟨rfl, g4⟩) | (go_at_call_of 18 (5 : Int); refine (num18 5 _).mono ?_; rintro e y5 ⟨rfl, g5⟩))
  have G5 := g4.trans (g5.mono g4.size)
  replace VX := VX.below G5
  have VY := valsAt3 y5 1 1 1 3 1 5 ⟨#[]⟩ ⟨#[]⟩ ⟨#[]⟩
  replace VX := VX.below ((Below.refl y5.heap.size y5).alloc (Nat.le_refl _) (.cells #[.int .i64 1, .int .i64 1, .string ⟨#[]⟩, .int .i64 1, .int .i64 3, .string ⟨#[]⟩, .int .i64 1, .int .i64 5, .string ⟨#[]⟩] 44))
  have HG := Lib.hid (G2.trans ((((one_below g3).trans (G5.mono (one_below g3).size)).mono G2.size)))
  clear G2 g3 g4 g5 G5
  refine (line14_b _ y5 _ _ VX VY).mono ?_
  rintro e w3 ⟨rfl, hb3⟩
  clear VX VY
  have hG3 := HG.out.trans ((one_below hb3).mono HG.out.size)
  replace r1 := hG3.row r1 hl3
  have HB4 := Lib.hid (HB3.out.trans (hG3.mono HB3.out.size))
  have hl4 : T1 < w3.heap.size := Nat.lt_of_lt_of_le hl3 hG3.size
  clear hb3 hG3 HB3 HG hl3
  obtain ⟨c0, c1, c2, c3, c4⟩ := cells5 r1
  clear r1
  simp only [slopeT]
  have p1 : (FloatKind.f64.format.order 4611686018427387904 4611686018427387904 == some .eq) = true := by decide +kernel
  have p2 : (FloatKind.f64.format.order 4607182418800017408 4607182418800017408 == some .eq) = true := by decide +kernel
  have p3 : (FloatKind.f64.format.order 4613937818241073152 4613937818241073152 == some .eq) = true := by decide +kernel
  go_wp2_with fail
  go_ret
  exact ⟨rfl, HB4.out.alloc HB4.out.size _⟩
end Go.Proofs.Ytcgkolaljgpphaa
