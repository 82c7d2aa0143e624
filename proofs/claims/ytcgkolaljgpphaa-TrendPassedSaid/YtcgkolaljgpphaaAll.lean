/- quadrillelaw32.TrendAll answers true at every input: the walk. No condition. -/
import Derived.Test.YtcgkolaljgpphaaOwn
namespace Go.Proofs.Ytcgkolaljgpphaa
set_option linter.unusedVariables false
set_option linter.unusedSimpArgs false
open Go.RowKit

attribute [local go_sem] run_store_float' eq25

/-- The same double is the same. -/
def Self (x : Nat) : Prop := (FloatKind.f64.format.order x x == some .eq) = true
theorem self_of {x : Nat} (h : Ieee.double.order x x = some .eq) : Self x := by
  unfold Self
  rw [show FloatKind.f64.format.order x x = some .eq from h]
  rfl
theorem self_zero : Self 0 := self_of (by decide +kernel)
theorem ofV_form (vs : List Val) (hf : ∀ v ∈ vs, v.fits) (hl : vs.length ≤ 8000) : ∃ c m v l h e, ofV vs = .tuple #[trendT c m v l h, .int .i64 e] ∧ Self m ∧ Self v ∧ Self l ∧ Self h := by
  unfold ofV
  split
  · exact ⟨0, 0, 0, 0, 0, _, rfl, self_zero, self_zero, self_zero, self_zero⟩
  · split
    · exact ⟨0, 0, 0, 0, 0, _, rfl, self_zero, self_zero, self_zero, self_zero⟩
    · rename_i h0
      have hb := numsV_bnd hf
      have hn := numsV_num hf
      have hlen : (numsV vs).length ≤ 8000 := Nat.le_trans (numsV_len _) hl
      have h1 : 1 ≤ (numsV vs).length := List.length_pos_iff.2 h0
      have hx : Num ((numsV vs).getD 0 0) := hn _ (getD_mem h1)
      exact ⟨_, _, _, _, _, _, rfl, self_of (mean_bd _ hb h1 hlen).2.self, self_of (var_bd _ hb h1 hlen).2.self, self_of (num_foldl hx hn).1.self, self_of (num_foldl hx hn).2.self⟩

set_option maxRecDepth 100000 in
set_option maxHeartbeats 1000000 in
theorem trendAll_walk (A : Option Addr) (C n : Nat) (vs : List Val) (w : World) (hv : ValsAt w A vs) (hf : ∀ v ∈ vs, v.fits) (hn : vs.length = n) (hc : n ≤ C) (hA : A = none → n = 0 ∧ C = 0) :
    Calls Try.prog 3 #[.slice A n C] w fun e w' => e = .returned (.bool true) ∧ Below w.heap.size w w' := by
  have hlen : (vs.take (min n 5000)).length = min n 5000 := by simp; omega
  have hv' := hv.take (min n 5000)
  have hf' : ∀ v ∈ vs.take (min n 5000), v.fits := fun v h => hf v (List.mem_of_mem_take h)
  have hA' : A = none → min n 5000 = 0 ∧ C = 0 := fun h => by have := hA h; omega
  have hm8 : min n 5000 ≤ 8000 := by omega
  generalize hvv : vs.take (min n 5000) = us at *
  have CUT := fun W => cut9 A C n W hc
  generalize min n 5000 = m at *
  clear hv hf hA hvv hn
  obtain ⟨c, mm, vv, l, h, e, hof, s1, s2, s3, s4⟩ := ofV_form us hf' (by omega)
  have HV := Lib.hid hv'
  have HF := Lib.hid hf'
  have HO := Lib.hid hof
  unfold Self at s1 s2 s3 s4
  clear hv' hf' hof hc
  go_enter Try.func3, Try.ntmps3
  go_wp2_with (first | (go_at_call 8; refine (begun8 _).mono ?_; rintro e w1 ⟨rfl, hb1⟩) | (go_at_call 9; refine (CUT _).mono ?_; rintro e w2 ⟨rfl, rfl⟩))
  refine (own10 A C m us _ (HV.out.below hb1) hlen hm8 hA').mono ?_
  rintro e' w2 ⟨g, rfl, hm, hb2⟩
  have HB2 := Lib.hid (hb1.trans (hb2.mono hb1.size))
  have HM := Lib.hid hm
  clear hb1 hb2 hm CUT
  go_wp2_with fail
  have OF1 := of11 (some ⟨g, 0, none⟩) (m + 1) us w2 (fun i hi => by
    have := HM.out i (by simp; omega)
    rwa [show (us ++ [mark]).getD i default = us.getD i default by rw [List.getD_eq_getElem?_getD, List.getD_eq_getElem?_getD, List.getElem?_append_left hi]] at this) HF.out (by omega)
  rw [hlen, HO.out] at OF1
  refine OF1.mono ?_
  rintro e' w3 ⟨rfl, hb3⟩
  have HB3 := Lib.hid (HB2.out.trans (hb3.mono HB2.out.size))
  have HM3 := Lib.hid (HM.out.below hb3)
  clear hb3 HB2 HM OF1
  simp only [trendT]
  have r1 := heap_alloc_new w3 (.cells #[.int .i64 c, .float .f64 mm, .float .f64 vv, .float .f64 l, .float .f64 h] 27)
  have HB4 := Lib.hid (HB3.out.alloc HB3.out.size (.cells #[.int .i64 c, .float .f64 mm, .float .f64 vv, .float .f64 l, .float .f64 h] 27))
  have HM4 := Lib.hid (HM3.out.below ((Below.refl w3.heap.size w3).alloc (Nat.le_refl _) (.cells #[.int .i64 c, .float .f64 mm, .float .f64 vv, .float .f64 l, .float .f64 h] 27)))
  go_wp2_with fail
  obtain ⟨X, hX⟩ : ∃ X, w3.alloc (.cells #[.int .i64 c, .float .f64 mm, .float .f64 vv, .float .f64 l, .float .f64 h] 27) = X := ⟨_, rfl⟩
  have hl1 : w3.heap.size < X.heap.size := by rw [← hX]; simp
  rw [hX] at r1 HB4 HM4 ⊢
  clear hX HB3 HM3
  have OF2 := of12 A C us X (HV.out.below HB4.out) HF.out (by omega)
  rw [hlen, HO.out] at OF2
  refine OF2.mono ?_
  rintro e' w4 ⟨rfl, hb4⟩
  replace r1 := hb4.row r1 hl1
  have HB5 := Lib.hid (HB4.out.trans (hb4.mono HB4.out.size))
  have HM5 := Lib.hid (HM4.out.below hb4)
  have hl2 : w3.heap.size < w4.heap.size := Nat.lt_of_lt_of_le hl1 hb4.size
  clear hb4 HB4 HM4 hl1 OF2
  simp only [trendT]
  obtain ⟨T, hT⟩ : ∃ T, w3.heap.size = T := ⟨_, rfl⟩
  rw [hT] at r1 hl2 ⊢
  clear hT
  have r2 := heap_alloc_new w4 (.cells #[.int .i64 c, .float .f64 mm, .float .f64 vv, .float .f64 l, .float .f64 h] 27)
  replace r1 := (Below.heap_alloc w4 (.cells #[.int .i64 c, .float .f64 mm, .float .f64 vv, .float .f64 l, .float .f64 h] 27) _ hl2).trans r1
  have HB6 := Lib.hid (HB5.out.alloc HB5.out.size (.cells #[.int .i64 c, .float .f64 mm, .float .f64 vv, .float .f64 l, .float .f64 h] 27))
  have HM6 := Lib.hid (HM5.out.below ((Below.refl w4.heap.size w4).alloc (Nat.le_refl _) (.cells #[.int .i64 c, .float .f64 mm, .float .f64 vv, .float .f64 l, .float .f64 h] 27)))
  go_wp2_with fail
  obtain ⟨Y, hY⟩ : ∃ Y, w4.alloc (.cells #[.int .i64 c, .float .f64 mm, .float .f64 vv, .float .f64 l, .float .f64 h] 27) = Y := ⟨_, rfl⟩
  have hl3 : w4.heap.size < Y.heap.size := by rw [← hY]; simp
  rw [hY] at r1 r2 HB6 HM6 ⊢
  clear hY HB5 HM5
  refine (stays13 g A C m us Y HM6.out (HV.out.below HB6.out) HF.out hlen hm8).mono ?_
  rintro e' w5 ⟨rfl, hb5⟩
  replace r1 := hb5.row r1 (by omega)
  replace r2 := hb5.row r2 hl3
  have HB7 := Lib.hid (HB6.out.trans (hb5.mono HB6.out.size))
  obtain ⟨c0, c1, c2, c3, c4⟩ := cells5 r1
  obtain ⟨d0, d1, d2, d3, d4⟩ := cells5 r2
  clear hb5 HB6 HM6 r1 r2 hl2 hl3
  go_wp2_with fail
  go_ret
  exact ⟨rfl, HB7.out⟩

open Go.ChangeShapes Go.WideShapes Go.ChangeAt Go.Deep in
theorem nil_vals {H : Type} {enc : TypeId × Value → H} {W : World} {len cap : Nat} {d : DataW H} {p : List MemPlace} (h : DataW.Trod enc Try.prog W 0 (fun _ => true) true 22 (.slice none len cap) d p) : len = 0 ∧ cap = 0 := by
  obtain ⟨fuel, hf⟩ := h
  rcases open_slice Try.underlying22 hf with ⟨hcs, hx⟩ | ⟨a, len', cap', m, n, D, Pl, hcs, _, hl, hm, hmm, hx, hel⟩
  · simp [Value.cells] at hcs
    exact hcs
  · simp [Value.cells] at hcs
end Go.Proofs.Ytcgkolaljgpphaa
