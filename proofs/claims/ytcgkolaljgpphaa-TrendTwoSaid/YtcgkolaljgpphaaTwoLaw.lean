/- quadrillelaw32.TrendTwo answers true at every input: the walk. No condition. -/
import Derived.Test.YtcgkolaljgpphaaGiven
import Derived.Test.YtcgkolaljgpphaaPairLine
namespace Go.Proofs.Ytcgkolaljgpphaa
set_option linter.unusedVariables false
set_option linter.unusedSimpArgs false
open Go.RowKit

attribute [local go_sem] run_store_float' eq25

theorem nums_two (a b : Int) : numsV (numVals [a, b]) = [floatOfInt .f64 a, floatOfInt .f64 b] := by
  rw [numsV_all (numVals_num _)]
  rfl
theorem fits_two (a b : Int) (ha : -32768 ≤ a ∧ a ≤ 32767) (hb : -32768 ≤ b ∧ b ≤ 32767) : ∀ v ∈ numVals [a, b], v.fits := by
  intro v hv
  simp [numVals] at hv
  rcases hv with rfl | rfl
  · exact ⟨⟨by show (-9223372036854775808 : Int) ≤ 1; decide, by show (1 : Int) ≤ 9223372036854775807; decide⟩, ⟨by show -9223372036854775808 ≤ a; omega, by show a ≤ 9223372036854775807; omega⟩, by show (0 : Nat) ≤ 140737488351232; omega⟩
  · exact ⟨⟨by show (-9223372036854775808 : Int) ≤ 1; decide, by show (1 : Int) ≤ 9223372036854775807; decide⟩, ⟨by show -9223372036854775808 ≤ b; omega, by show b ≤ 9223372036854775807; omega⟩, by show (0 : Nat) ≤ 140737488351232; omega⟩
theorem two_cells (w : World) (a b : Int) (t : TypeId) : (w.alloc (.cells #[.int .i64 a, .int .i64 b] t)).cell? ⟨w.heap.size, 0, none⟩ = some (.int .i64 a) ∧ (w.alloc (.cells #[.int .i64 a, .int .i64 b] t)).cell? ⟨w.heap.size, 1, none⟩ = some (.int .i64 b) := by
  refine ⟨?_, ?_⟩ <;> (rw [cell_of_row _ _ _ _ _ _ (heap_alloc_new w _)]; rfl)

/-- Line of two points, whatever it gives. -/
theorem line_two (p q C D : Nat) (a b c d : Int) (w : World) (ha : -32768 ≤ a ∧ a ≤ 32767) (hb : -32768 ≤ b ∧ b ≤ 32767) (hc : -32768 ≤ c ∧ c ≤ 32767) (hd : -32768 ≤ d ∧ d ≤ 32767) (hx : ValsAt w (some ⟨p, 0, none⟩) (numVals [a, b])) (hy : ValsAt w (some ⟨q, 0, none⟩) (numVals [c, d])) (res : Value) (h : LineIs [floatOfInt .f64 a, floatOfInt .f64 b] [floatOfInt .f64 c, floatOfInt .f64 d] res) :
    Calls Try.prog 14 #[.slice (some ⟨p, 0, none⟩) 2 C, .slice (some ⟨q, 0, none⟩) 2 D] w fun e w' => e = .returned res ∧ Below w.heap.size w w' :=
  line14 _ _ C D 2 (numVals [a, b]) (numVals [c, d]) w hx hy (fits_two a b ha hb) (fits_two c d hc hd) (numVals_num _) (numVals_num _) rfl rfl (by decide) (by decide) res (by rw [nums_two, nums_two]; exact h)

set_option maxRecDepth 100000 in
set_option maxHeartbeats 1000000 in
theorem trendTwo_walk (a b c d : Int) (w : World) (ha : -32768 ≤ a ∧ a ≤ 32767) (hb : -32768 ≤ b ∧ b ≤ 32767) (hc : -32768 ≤ c ∧ c ≤ 32767) (hd : -32768 ≤ d ∧ d ≤ 32767) :
    Calls Try.prog 6 #[.int .i16 a, .int .i16 b, .int .i16 c, .int .i16 d] w fun e w' => e = .returned (.bool true) ∧ Below w.heap.size w w' := by
  go_enter Try.func6, Try.ntmps6
  go_wp2_with (first | (go_at_call 8; refine (begun8 _).mono ?_; rintro e w1 ⟨rfl, hb1⟩))
  refine (given17_two w1.heap.size 2 a b _ (two_cells w1 a b _).1 (two_cells w1 a b _).2).mono ?_
  rintro e w2 ⟨g, cx, rfl, hx, hb2⟩
  have HB2 := Lib.hid (hb1.trans ((one_below hb2).mono hb1.size))
  clear hb1 hb2
  go_wp2_with fail
  refine (given17_two w2.heap.size 2 c d _ (two_cells w2 c d _).1 (two_cells w2 c d _).2).mono ?_
  rintro e w3 ⟨g', cy, rfl, hy, hb3⟩
  have HX := Lib.hid (hx.below (one_below hb3))
  have HY := Lib.hid hy
  have HB3 := Lib.hid (HB2.out.trans ((one_below hb3).mono HB2.out.size))
  clear hx hy hb3 HB2
  go_wp2_with fail
  by_cases hab : a = b
  · subst hab
    refine (line_two g g' cx cy a a c d w3 ha ha hc hd HX.out HY.out _ (two_same a c d (by omega) (by omega) (by omega))).mono ?_
    rintro e w4 ⟨rfl, hb4⟩
    have HB4 := Lib.hid (HB3.out.trans (hb4.mono HB3.out.size))
    clear hb4 HB3 HX HY
    simp only [slopeT]
    have p0 : (FloatKind.f64.format.order 0 0 == some .eq) = true := by decide +kernel
    go_wp2_with fail
    go_ret
    exact ⟨rfl, HB4.out.alloc HB4.out.size _⟩
  · obtain ⟨base, rise, Q, hl, hq, ho⟩ := two_line a b c d (by omega) (by omega) (by omega) (by omega) hab
    refine (line_two g g' cx cy a b c d w3 ha hb hc hd HX.out HY.out _ hl).mono ?_
    rintro e w4 ⟨rfl, hb4⟩
    have HB4 := Lib.hid (HB3.out.trans (hb4.mono HB3.out.size))
    clear hb4 HB3 HX HY hl
    simp only [slopeT]
    have p0 : (FloatKind.f64.format.order rise Q == some .eq) = true := by rw [show FloatKind.f64.format.order rise Q = some .eq from ho]; rfl
    have p1 : (FloatKind.f64.format.order 4607182418800017408 4607182418800017408 == some .eq) = true := by decide +kernel
    have q1 := fun (t : TypeId) (w : World) => run_float_arith (P := Try.prog) w .quo t .f64 _ _ _ hq
    clear hq ho
    go_wp2_with fail
    go_ret
    exact ⟨rfl, HB4.out.alloc HB4.out.size _⟩

theorem wf16 {n : Int} (h : (Lit.int .i16 n).wf = true) : -32768 ≤ n ∧ n ≤ 32767 := by
  simpa [Lit.wf, IntKind.min, IntKind.max, IntKind.signed, IntKind.bits] using h
end Go.Proofs.Ytcgkolaljgpphaa
