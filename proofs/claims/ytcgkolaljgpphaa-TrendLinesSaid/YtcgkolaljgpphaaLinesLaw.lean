/- quadrillelaw32.TrendLines answers true at every input: the walk. No condition. -/
import Derived.Test.YtcgkolaljgpphaaTail
import Derived.Test.YtcgkolaljgpphaaLineRef
import Derived.Test.YtcgkolaljgpphaaAll
namespace Go.Proofs.Ytcgkolaljgpphaa
set_option linter.unusedVariables false
set_option linter.unusedSimpArgs false
open Go.RowKit

theorem pairs_grid {ps : List (Val × Val)} (hf : ∀ p ∈ ps, p.1.fits ∧ p.2.fits) : (∀ x ∈ (pairsV ps).map Prod.fst, Grid 1074 x) ∧ (∀ x ∈ (pairsV ps).map Prod.snd, Grid 1074 x) := by
  constructor
  · intro x hx
    obtain ⟨p, hp, rfl⟩ := List.mem_map.1 hx
    obtain ⟨n, m, hn, hm, rfl⟩ := pairsV_mem hp hf
    exact fint_grid rfl n (by omega)
  · intro x hx
    obtain ⟨p, hp, rfl⟩ := List.mem_map.1 hx
    obtain ⟨n, m, hn, hm, rfl⟩ := pairsV_mem hp hf
    exact fint_grid rfl m (by omega)
/-- What both are told is the same, and is no fault. -/
theorem line_form {ps : List (Val × Val)} (hf : ∀ p ∈ ps, p.1.fits ∧ p.2.fits) (hl : ps.length ≤ 8000) : ∃ b r f c, LineG ps (.tuple #[slopeT b r f, .int .i64 c]) ∧ Self b ∧ Self r ∧ Self f := by
  by_cases h0 : scan2 ps = 0
  · by_cases h2 : (pairsV ps).length < 2
    · exact ⟨0, 0, 0, 5, .inr (.inl ⟨h0, h2, rfl⟩), self_zero, self_zero, self_zero⟩
    · have hp := pairsV_len ps
      obtain ⟨b, r, f, c, t, s1, s2, s3⟩ := tail_ok (pairs_bnd hf).1 (pairs_bnd hf).2 (pairs_grid hf).1 (pairs_grid hf).2 (by simp) (by simp; omega) (by simp; omega)
      exact ⟨b, r, f, c, .inr (.inr ⟨h0, by omega, t⟩), self_of s1, self_of s2, self_of s3⟩
  · exact ⟨0, 0, 0, _, .inl ⟨h0, rfl⟩, self_zero, self_zero, self_zero⟩
theorem line_both (n m : Nat) (vs us : List Val) (hf : ∀ v ∈ vs, v.fits) (hg : ∀ v ∈ us, v.fits) (hn : vs.length = n) (hm : us.length = m) (hl : n ≤ 8000) (hl' : m ≤ 8000) : ∃ b r f c, Self b ∧ Self r ∧ Self f ∧
    (∀ (A B : Option Addr) (C D : Nat) (w : World), ValsAt w A vs → ValsAt w B us → Calls Try.prog 14 #[.slice A n C, .slice B m D] w fun e w' => e = .returned (.tuple #[slopeT b r f, .int .i64 c]) ∧ Below w.heap.size w w') ∧
    (∀ (A B : Option Addr) (C D : Nat) (w : World), ValsAt w A vs → ValsAt w B us → Calls Try.prog 15 #[.slice A n C, .slice B m D] w fun e w' => e = .returned (.tuple #[slopeT b r f, .int .i64 c]) ∧ Below w.heap.size w w') := by
  by_cases e : n = m
  · subst e
    obtain ⟨b, r, f, c, h, s1, s2, s3⟩ := line_form (zip_fits hf hg) (by simp; omega)
    exact ⟨b, r, f, c, s1, s2, s3, fun A B C D w hv hu => line14_any A B C D n vs us w hv hu hf hg hn hm hl _ h, fun A B C D w hv hu => line15_any A B C D n vs us w hv hu hf hg hn hm hl _ h⟩
  · exact ⟨0, 0, 0, 4, self_zero, self_zero, self_zero, fun A B C D w _ _ => line14_uneven A B C D n m w e hl hl', fun A B C D w _ _ => line15_uneven A B C D n m w e hl hl'⟩
theorem ValsAt.drop_mark {W : World} {A : Option Addr} {us : List Val} (h : ValsAt W A (us ++ [mark])) : ValsAt W A us := fun i hi => by
  have := h i (by simp; omega)
  rwa [show (us ++ [mark]).getD i default = us.getD i default by rw [List.getD_eq_getElem?_getD, List.getD_eq_getElem?_getD, List.getElem?_append_left hi]] at this

attribute [local go_sem] run_store_float' eq25

set_option maxRecDepth 100000 in
set_option maxHeartbeats 2000000 in
theorem trendLines_walk (A B : Option Addr) (C D n m : Nat) (vs us : List Val) (w : World) (hv : ValsAt w A vs) (hu : ValsAt w B us) (hf : ∀ v ∈ vs, v.fits) (hg : ∀ v ∈ us, v.fits) (hn : vs.length = n) (hm : us.length = m) (hc : n ≤ C) (hd : m ≤ D) (hA : A = none → n = 0 ∧ C = 0) (hB : B = none → m = 0 ∧ D = 0) :
    Calls Try.prog 4 #[.slice A n C, .slice B m D] w fun e w' => e = .returned (.bool true) ∧ Below w.heap.size w w' := by
  have hlen : (vs.take (min n 5000)).length = min n 5000 := by simp; omega
  have hv' := hv.take (min n 5000)
  have hf' : ∀ v ∈ vs.take (min n 5000), v.fits := fun v h => hf v (List.mem_of_mem_take h)
  have hA' : A = none → min n 5000 = 0 ∧ C = 0 := fun h => by have := hA h; omega
  have hk8 : min n 5000 ≤ 8000 := by omega
  generalize hvv : vs.take (min n 5000) = xs at *
  have CUT := fun W => cut9 A C n W hc
  generalize min n 5000 = k at *
  have hlen' : (us.take (min m 5000)).length = min m 5000 := by simp; omega
  have hu' := hu.take (min m 5000)
  have hg' : ∀ v ∈ us.take (min m 5000), v.fits := fun v h => hg v (List.mem_of_mem_take h)
  have hB' : B = none → min m 5000 = 0 ∧ D = 0 := fun h => by have := hB h; omega
  have hj8 : min m 5000 ≤ 8000 := by omega
  generalize huu : us.take (min m 5000) = ys at *
  have CUT' := fun W => cut9 B D m W hd
  generalize min m 5000 = j at *
  clear hv hf hA hvv hn hu hg hB huu hm
  obtain ⟨b, r, f, c, s1, s2, s3, L1, L2⟩ := line_both k j xs ys hf' hg' hlen hlen' hk8 hj8
  have HV := Lib.hid hv'
  have HF := Lib.hid hf'
  have HU := Lib.hid hu'
  have HG := Lib.hid hg'
  have HL1 := Lib.hid L1
  have HL2 := Lib.hid L2
  unfold Self at s1 s2 s3
  clear hv' hf' hu' hg' L1 L2 hc hd
  go_enter Try.func4, Try.ntmps4
  go_wp2_with (first | (go_at_call 8; refine (begun8 _).mono ?_; rintro e w1 ⟨rfl, hb1⟩))
  refine (CUT _).mono ?_
  rintro e w2 ⟨rfl, rfl⟩
  go_wp2_with fail
  refine (CUT' _).mono ?_
  rintro e w2 ⟨rfl, rfl⟩
  clear CUT CUT'
  go_wp2_with fail
  refine (own10 A C k xs _ (HV.out.below hb1) hlen hk8 hA').mono ?_
  rintro e' w2 ⟨g, rfl, hm, hb2⟩
  have HB2 := Lib.hid (hb1.trans (hb2.mono hb1.size))
  have HM := Lib.hid hm
  clear hb1 hb2 hm
  go_wp2_with fail
  refine (own10 B D j ys _ (HU.out.below HB2.out) hlen' hj8 hB').mono ?_
  rintro e' w3 ⟨g', rfl, hm, hb3⟩
  have HB3 := Lib.hid (HB2.out.trans (hb3.mono HB2.out.size))
  have HM3 := Lib.hid (HM.out.below hb3)
  have HN3 := Lib.hid hm
  clear hb3 hm HB2 HM
  go_wp2_with fail
  refine (HL1.out _ _ _ _ w3 HM3.out.drop_mark HN3.out.drop_mark).mono ?_
  rintro e' w4 ⟨rfl, hb4⟩
  have HB4 := Lib.hid (HB3.out.trans (hb4.mono HB3.out.size))
  have HM4 := Lib.hid (HM3.out.below hb4)
  have HN4 := Lib.hid (HN3.out.below hb4)
  clear hb4 HB3 HM3 HN3
  simp only [slopeT]
  have r1 := heap_alloc_new w4 (.cells #[.float .f64 b, .float .f64 r, .float .f64 f] 33)
  have HBa := (Below.refl w4.heap.size w4).alloc (Nat.le_refl _) (.cells #[.float .f64 b, .float .f64 r, .float .f64 f] 33)
  have HB5 := Lib.hid (HB4.out.trans (HBa.mono HB4.out.size))
  have HM5 := Lib.hid (HM4.out.below HBa)
  have HN5 := Lib.hid (HN4.out.below HBa)
  go_wp2_with fail
  obtain ⟨X, hX⟩ : ∃ X, w4.alloc (.cells #[.float .f64 b, .float .f64 r, .float .f64 f] 33) = X := ⟨_, rfl⟩
  have hl1 : w4.heap.size < X.heap.size := by rw [← hX]; simp
  rw [hX] at r1 HB5 HM5 HN5 ⊢
  clear hX HB4 HM4 HN4 HBa
  refine (HL2.out _ _ _ _ X (HV.out.below HB5.out) (HU.out.below HB5.out)).mono ?_
  rintro e' w5 ⟨rfl, hb5⟩
  replace r1 := hb5.row r1 hl1
  have HB6 := Lib.hid (HB5.out.trans (hb5.mono HB5.out.size))
  have HM6 := Lib.hid (HM5.out.below hb5)
  have HN6 := Lib.hid (HN5.out.below hb5)
  have hl2 : w4.heap.size < w5.heap.size := Nat.lt_of_lt_of_le hl1 hb5.size
  clear hb5 HB5 HM5 HN5 hl1
  simp only [slopeT]
  obtain ⟨T, hT⟩ : ∃ T, w4.heap.size = T := ⟨_, rfl⟩
  rw [hT] at r1 hl2 ⊢
  clear hT
  have r2 := heap_alloc_new w5 (.cells #[.float .f64 b, .float .f64 r, .float .f64 f] 33)
  have HBa := (Below.refl w5.heap.size w5).alloc (Nat.le_refl _) (.cells #[.float .f64 b, .float .f64 r, .float .f64 f] 33)
  replace r1 := HBa.row r1 hl2
  have HB7 := Lib.hid (HB6.out.trans (HBa.mono HB6.out.size))
  have HM7 := Lib.hid (HM6.out.below HBa)
  have HN7 := Lib.hid (HN6.out.below HBa)
  go_wp2_with fail
  obtain ⟨Y, hY⟩ : ∃ Y, w5.alloc (.cells #[.float .f64 b, .float .f64 r, .float .f64 f] 33) = Y := ⟨_, rfl⟩
  have hl3 : w5.heap.size < Y.heap.size := by rw [← hY]; simp
  rw [hY] at r1 r2 HB7 HM7 HN7 ⊢
  clear hY HB6 HM6 HN6 HBa
  refine (stays13 g A C k xs Y HM7.out (HV.out.below HB7.out) HF.out hlen hk8).mono ?_
  rintro e' w6 ⟨rfl, hb6⟩
  replace r1 := hb6.row r1 (by omega)
  replace r2 := hb6.row r2 hl3
  have HB8 := Lib.hid (HB7.out.trans (hb6.mono HB7.out.size))
  have HN8 := Lib.hid (HN7.out.below hb6)
  have hl4 : w5.heap.size < w6.heap.size := Nat.lt_of_lt_of_le hl3 hb6.size
  clear hb6 HB7 HM7 HN7
  go_wp2_with fail
  refine (stays13 g' B D j ys w6 HN8.out (HU.out.below HB8.out) HG.out hlen' hj8).mono ?_
  rintro e' w7 ⟨rfl, hb7⟩
  replace r1 := hb7.row r1 (by omega)
  replace r2 := hb7.row r2 hl4
  have HB9 := Lib.hid (HB8.out.trans (hb7.mono HB8.out.size))
  obtain ⟨c0, c1, c2⟩ := cellsT r1
  obtain ⟨d0, d1, d2⟩ := cellsT r2
  clear hb7 HB8 r1 r2 hl2 hl3
  go_wp2_with fail
  go_ret
  exact ⟨rfl, HB9.out⟩
end Go.Proofs.Ytcgkolaljgpphaa
