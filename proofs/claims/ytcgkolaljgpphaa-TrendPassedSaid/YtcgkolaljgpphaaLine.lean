/- trend.Line of two lists of numbers. -/
import Derived.Test.YtcgkolaljgpphaaTwo
import Derived.LoopN
namespace Go.Proofs.Ytcgkolaljgpphaa
set_option linter.unusedVariables false
set_option linter.unusedSimpArgs false
open Go.RowKit

attribute [local go_sem] run_store_float'

def slopeT (b r f : Nat) : Value := .agg #[.float .f64 b, .float .f64 r, .float .f64 f]
/-- Are all of them numbers? -/
def AllNum (vs : List Val) : Prop := ∀ v ∈ vs, v.k = 1 ∧ v.s.toList.isEmpty = true
theorem numsV_all {vs : List Val} (h : AllNum vs) : numsV vs = vs.map fun v => floatOfInt .f64 v.n := by
  induction vs with
  | nil => rfl
  | cons v vs ih =>
    have hv := h v (by simp)
    simp only [numsV, List.map_cons]
    rw [if_pos (by simp [numB, hv.1, hv.2]), ih (fun u hu => h u (by simp [hu]))]
theorem wrong_num (n : Int) (s : ByteArray) : wrongV 1 n s = 0 := by simp [wrongV]

/-- Two owned rows lie apart. -/
def Apart (v u : Value) : Prop := v.ownBlock = none ∨ v.ownBlock ≠ u.ownBlock
theorem Apart.symm {v u : Value} (h : Apart v u) : Apart u v := by
  unfold Apart at *
  rcases h with h | h
  · rw [h]
    cases hu : u.ownBlock
    · exact .inl rfl
    · exact .inr (by simp)
  · exact .inr (fun e => h e.symm)
theorem apart_step {v u v1 : Value} {N : Nat} (h : Apart v u) (hu : ∀ k, u.ownBlock = some k → k < N) (hb : v1.ownBlock = v.ownBlock ∨ v1.ownBlock = some N) : Apart v1 u := by
  rcases hb with e | e
  · unfold Apart at *; rwa [e]
  · right
    rw [e]
    intro e'
    have := hu _ e'.symm
    omega
theorem drew_below {w w1 : World} {o : Obj} (h : Below (w.alloc o).drew.heap.size (w.alloc o).drew w1) : Below w.heap.size w w1 :=
  (((Below.refl _ w).alloc (Nat.le_refl _) o).drew).trans (h.mono (by show _ ≤ (w.alloc o).heap.size; simp))
theorem cellsT {w : World} {g : Nat} {a b c : Value} {t : TypeId} {f : Nat × Nat} (h : w.heap[g]? = some (.cells #[a, b, c] t f)) :
    w.cell? ⟨g, 0, none⟩ = some a ∧ w.cell? ⟨g, 1, none⟩ = some b ∧ w.cell? ⟨g, 2, none⟩ = some c := by
  refine ⟨?_, ?_, ?_⟩ <;> (rw [cell_of_row w _ _ _ _ _ h]; rfl)

/-- Three sums: of x and x, x and y, y and y. -/
def sXX (fx : List Nat) : Nat := spreadV (meanV fx) (meanV fx) fx fx
def sXY (fx fy : List Nat) : Nat := spreadV (meanV fx) (meanV fy) fx fy
/-- The line's numbers, where none of the operations is invalid. -/
def TailOk (fx fy : List Nat) (base rise fit : Nat) : Prop :=
  floatBits .quo .f64 (sXY fx fy) (sXX fx) = some rise ∧ (∃ p, floatBits .mul .f64 rise (meanV fx) = some p ∧ floatBits .sub .f64 (meanV fy) p = some base) ∧
    ((Ieee.double.order (sXX fy) 0 = some .eq ∧ fit = 4607182418800017408) ∨ (Ieee.double.order (sXX fy) 0 ≠ some .eq ∧ ∃ a b, floatBits .mul .f64 (sXY fx fy) (sXY fx fy) = some a ∧ floatBits .mul .f64 (sXX fx) (sXX fy) = some b ∧ floatBits .quo .f64 a b = some fit))
def LineIs (fx fy : List Nat) (res : Value) : Prop :=
  (Ieee.double.order (sXX fx) 0 = some .eq ∧ res = .tuple #[slopeT 0 0 0, .int .i64 5]) ∨ (Ieee.double.order (sXX fx) 0 ≠ some .eq ∧ ∃ base rise fit, TailOk fx fy base rise fit ∧ res = .tuple #[slopeT base rise fit, .int .i64 0])

set_option maxRecDepth 100000 in
set_option maxHeartbeats 2000000 in
theorem line14 (A B : Option Addr) (C D n : Nat) (vs us : List Val) (w : World) (hv : ValsAt w A vs) (hu : ValsAt w B us) (hf : ∀ v ∈ vs, v.fits) (hg : ∀ v ∈ us, v.fits) (hav : AllNum vs) (hau : AllNum us) (hn : vs.length = n) (hn' : us.length = n) (h2 : 2 ≤ n) (hl : n ≤ 8000) (res : Value) (hres : LineIs (numsV vs) (numsV us) res) :
    Calls Try.prog 14 #[.slice A n C, .slice B n D] w fun e w' => e = .returned res ∧ Below w.heap.size w w' := by
  obtain ⟨i0, hi, hz0, hz1, hz2⟩ := info_parts info25
  have HV := Lib.hid hv
  have HF := Lib.hid hf
  have HU := Lib.hid hu
  have HG := Lib.hid hg
  have HAV := Lib.hid hav
  have HAU := Lib.hid hau
  have HRES := Lib.hid hres
  clear hres
  clear hv hf hu hg hav hau
  go_enter Try.func14, Try.ntmps14
  go_wp2_with fail
  have r0 := heap_alloc_new w (.cells #[.float .f64 0, .float .f64 0, .float .f64 0] 33)
  have hB0 := (Below.refl w.heap.size w).alloc (Nat.le_refl _) (.cells #[.float .f64 0, .float .f64 0, .float .f64 0] 33)
  obtain ⟨W0, hW0⟩ : ∃ W0, w.alloc (.cells #[.float .f64 0, .float .f64 0, .float .f64 0] 33) = W0 := ⟨_, rfl⟩
  have hs0 : W0.heap.size = w.heap.size + 1 := by rw [← hW0]; simp
  rw [hW0] at r0 hB0 ⊢
  clear hW0
  have HB0 := Lib.hid hB0
  have R0 := Lib.hid r0
  clear r0 hB0
  have HNV := Lib.hid (numsV_all HAV.out)
  have HNU := Lib.hid (numsV_all HAU.out)
  go_loopw [6, 7, 31] (fun v u i wr => ∃ k : Nat, k ≤ n ∧ i = .int .i64 k ∧ wr.ownsRow (w.heap.size + 1) 25 1 v k (f64s ((numsV vs).take k)) ∧ wr.ownsRow (w.heap.size + 1) 25 1 u k (f64s ((numsV us).take k)) ∧ Apart v u ∧ Below (w.heap.size + 1) W0 wr) (fun _ _ i _ => n - (intOf i).toNat)
  case atStart => exact ⟨0, Nat.zero_le _, rfl, World.ownsRow_nil _ _ _ _, World.ownsRow_nil _ _ _ _, .inl rfl, Below.refl _ _⟩
  case round =>
    obtain ⟨k, hk, rfl, hown, hown', hap, hb⟩ := hrel
    obtain ⟨ao, cap, rfl⟩ := row_any hown
    obtain ⟨bo, cap', rfl⟩ := row_any hown'
    by_cases hlt : k < n
    · have hbw : Below w.heap.size w wr := HB0.out.trans (hb.mono (by omega))
      have hkv : k < vs.length := by omega
      have hku : k < us.length := by omega
      obtain ⟨b, off, kk, n1, s, rfl, hbl, hget, hc0, hc1, hc2, hnn, hs⟩ := (HV.out.below hbw).get HF.out hkv
      obtain ⟨b', off', kk', n2, s', rfl, hbl', hget', hd0, hd1, hd2, hnn', hs'⟩ := (HU.out.below hbw).get HG.out hku
      have hk1 := HAV.out _ (getD_mem (d := default) hkv)
      have hk2 := HAU.out _ (getD_mem (d := default) hku)
      rw [hget] at hk1
      rw [hget'] at hk2
      obtain ⟨rfl, hse⟩ : kk = 1 ∧ s.toList.isEmpty = true := hk1
      obtain ⟨rfl, hse'⟩ : kk' = 1 ∧ s'.toList.isEmpty = true := hk2
      have HS : Hid (s.size ≤ maxLen) := by simp only [Hid]; unfold maxLen; omega
      have HS' : Hid (s'.size ≤ maxLen) := by simp only [Hid]; unfold maxLen; omega
      have W1 := wrong19 1 n1 s
      have W2 := wrong19 1 n2 s'
      rw [wrong_num] at W1 W2
      have N1 := number20 1 n1 s
      have N2 := number20 1 n2 s'
      rw [show numB 1 s = true by simp [numB, hse]] at N1
      rw [show numB 1 s' = true by simp [numB, hse']] at N2
      have e1 : (numsV vs).take (k + 1) = (numsV vs).take k ++ [floatOfInt .f64 n1] := by
        rw [HNV.out, ← List.map_take, ← List.map_take, take_snoc hkv, hget, List.map_append]
        rfl
      have e2 : (numsV us).take (k + 1) = (numsV us).take k ++ [floatOfInt .f64 n2] := by
        rw [HNU.out, ← List.map_take, ← List.map_take, take_snoc hku, hget', List.map_append]
        rfl
      have HE1 := Lib.hid e1
      have HE2 := Lib.hid e2
      have HROW := Lib.hid (And.intro hown (And.intro hown' (And.intro hap hb)))
      clear hbw hget hget' hse hse' hs hs' e1 e2 hnn hnn' hown hown' hap hb
      go_wp2_with fail
      go_region_held3 (fun w' => (w'.cell? ⟨b, off + k * 3, none⟩ = some (.int .i64 1) ∧ w'.cell? ⟨b, off + k * 3 + 1, none⟩ = some (.int .i64 n1) ∧ w'.cell? ⟨b, off + k * 3 + 2, none⟩ = some (.string s)) ∧ (w'.cell? ⟨b', off' + k * 3, none⟩ = some (.int .i64 1) ∧ w'.cell? ⟨b', off' + k * 3 + 1, none⟩ = some (.int .i64 n2) ∧ w'.cell? ⟨b', off' + k * 3 + 2, none⟩ = some (.string s'))) (first | exact ⟨⟨hc0, hc1, hc2⟩, ⟨hd0, hd1, hd2⟩⟩ | go_keep) (fail)
      go_wp2_with fail
      have qi0 : ∀ (a b c d e f : Value) (w : World), (Instr.index 53 (.agg #[a, b, c, d, e, f]) (.int .i64 0)).run Try.prog w = .ok (.agg #[a, b, c]) w := fun a b c d e f w => by kernel_rfl
      have qi1 : ∀ (a b c d e f : Value) (w : World), (Instr.index 53 (.agg #[a, b, c, d, e, f]) (.int .i64 1)).run Try.prog w = .ok (.agg #[d, e, f]) w := fun a b c d e f w => by kernel_rfl
      refine wp_loop_rounds 3 ?_
      rw [rounds_succ]
      go_wp2_with (first | (go_at_call_of 19 n1; refine (W1 _ HS.out).mono ?_; rintro e w1 ⟨rfl, hb1⟩; have hb1' := Lib.hid (drew_below hb1); clear hb1))
      rw [rounds_succ]
      go_wp2_with (first | (go_at_call_of 19 n2; refine (W2 _ HS'.out).mono ?_; rintro e w2 ⟨rfl, hb2⟩; have hb2' := Lib.hid (one_below hb2); clear hb2))
      rw [rounds_succ]
      have hbA : Below wr.heap.size wr w2 := hb1'.out.trans (hb2'.out.mono hb1'.out.size)
      replace hc0 := cell_below hc0 hbA
      replace hc1 := cell_below hc1 hbA
      replace hc2 := cell_below hc2 hbA
      replace hd0 := cell_below hd0 hbA
      replace hd1 := cell_below hd1 hbA
      replace hd2 := cell_below hd2 hbA
      clear qi0 qi1
      have HBA := Lib.hid hbA
      clear hbA
      go_wp2_with (first | (go_at_call_of 20 n1; refine (N1 _ HS.out).mono ?_; rintro e w3 ⟨rfl, hb3⟩; replace hd0 := cell_below hd0 hb3; replace hd1 := cell_below hd1 hb3; replace hd2 := cell_below hd2 hb3) | (go_at_call_of 20 n2; refine (N2 _ HS'.out).mono ?_; rintro e w4 ⟨rfl, hb4⟩; have hbC := HBA.out.trans ((hb3.trans (hb4.mono hb3.size)).mono HBA.out.size); have hown4 := row_below HROW.out.1 hbC; clear hc0 hc1 hc2 hd0 hd1 hd2) | (at_builtin; refine wpList_append_one rfl _ _ 47 rfl (w.heap.size + 1) 25 i0 (.float .f64 0) 8 Try.underlying47 hi hz0 hz1 hz2 rfl _ _ _ rfl (hown4.alloc _) ⟨w4.heap.size, 0, none⟩ 1 _ rfl (cell_one_new _ _ _) ?c2 ?c3 ?c4 ?c5 ?_))
      case c2 => intro y hy; simp at hy; subst hy; rfl
      case c3 => unfold maxLen; omega
      case c4 => omega
      case c5 => have := HROW.out.2.2.2.size; have := hbC.size; simp; omega
      intro v1 wx hown1 hgrow1 hblk1
      obtain ⟨_, hownY, hap, hbb⟩ := HROW.out
      have hownY4 := (row_below hownY hbC).alloc (.cells #[.float .f64 (floatOfInt .f64 n1)] 25)
      have hownYx := hownY4.kept hgrow1 hap.symm
      have hbx : Below (w.heap.size + 1) W0 wx := ((hbb.trans (hbC.mono (by have := hbb.size; omega))).alloc (by have := hbb.size; have := hbC.size; omega) _).grown hgrow1 (by have := hbb.size; have := hbC.size; simp; omega) (fun k hk => (hown4.lt k hk).1)
      have hap1 := apart_step hap (fun k hk => by have := (hownY4.lt k hk).2; simpa using this) hblk1
      have hcv1 : ∃ a1 c1, v1 = .slice a1 (k + 1) c1 := row_any hown1
      obtain ⟨a1, c1, rfl⟩ := hcv1
      rw [f64s_snoc, ← HE1.out] at hown1
      have hszx := hbx.size
      have H1 := Lib.hid (And.intro hown1 (And.intro hap1 hbx))
      clear hown1 hap1 hbx hownY4 hownY hap hbb hgrow1 hblk1 hbC hb3 hb4 hown4
      go_wp2_with (at_builtin; refine wpList_append_one rfl _ _ 47 rfl (w.heap.size + 1) 25 i0 (.float .f64 0) 8 Try.underlying47 hi hz0 hz1 hz2 rfl _ _ _ rfl (hownYx.alloc _) ⟨wx.heap.size, 0, none⟩ 1 _ rfl (cell_one_new _ _ _) ?d2 ?d3 ?d4 ?d5 ?_)
      case d2 => intro y hy; simp at hy; subst hy; rfl
      case d3 => unfold maxLen; omega
      case d4 => omega
      case d5 => simp; omega
      intro u1 wy hown2 hgrow2 hblk2
      obtain ⟨hown1, hap1, hbx⟩ := H1.out
      have hownX := (hown1.alloc (.cells #[.float .f64 (floatOfInt .f64 n2)] 25))
      have hownX2 := hownX.kept hgrow2 hap1
      have hap2 := (apart_step hap1.symm (fun k hk => by have := (hownX.lt k hk).2; simpa using this) hblk2).symm
      have hby : Below (w.heap.size + 1) W0 wy := (hbx.alloc (by omega) _).grown hgrow2 (by simp; omega) (fun k hk => (hownYx.lt k hk).1)
      have hcu1 : ∃ a2 c2, u1 = .slice a2 (k + 1) c2 := row_any hown2
      obtain ⟨a2, c2, rfl⟩ := hcu1
      rw [f64s_snoc, ← HE2.out] at hown2
      have HF' := Lib.hid (And.intro hownX2 (And.intro hown2 (And.intro hap2 hby)))
      clear hown1 hap1 hbx hownX hownX2 hap2 hby hown2 hgrow2 hblk2 hownYx H1 hszx
      go_wp2
      go_roundw
      case rel => exact ⟨k + 1, by omega, by go_num, HF'.out.1, HF'.out.2.1, HF'.out.2.2.1, HF'.out.2.2.2⟩
      case measure => simp [intOf]; omega
    · obtain rfl : k = n := by omega
      have hlx : (numsV vs).length = k := by rw [HNV.out]; simp [hn]
      have hly : (numsV us).length = k := by rw [HNU.out]; simp [hn']
      rw [show (numsV vs).take k = numsV vs from List.take_of_length_le (by omega)] at hown
      rw [show (numsV us).take k = numsV us from List.take_of_length_le (by omega)] at hown'
      have HXB := Lib.hid (numsV_bnd HF.out)
      have HYB := Lib.hid (numsV_bnd HG.out)
      generalize numsV vs = xs at *
      generalize numsV us = ys at *
      have hown1 := hown
      have hown2 := hown'
      rw [show k = k - 1 + 1 by omega] at hown1 hown2
      obtain ⟨g, cx, hgx⟩ := slice_form hown1
      obtain ⟨g', cy, hgy⟩ := slice_form hown2
      rw [show k - 1 + 1 = k by omega] at hgx hgy
      rw [hgx] at hown ⊢
      rw [hgy] at hown' ⊢
      have hh : HasF wr g xs := HasF.of_own (by rw [hlx]; exact hown)
      have hh' : HasF wr g' ys := HasF.of_own (by rw [hly]; exact hown')
      have HH := Lib.hid hh
      have HH' := Lib.hid hh'
      have HB := Lib.hid hb
      have hkl : ¬ ((k : Int) < 2) := by omega
      clear hown hown' hown1 hown2 hgx hgy hap hb hh hh' HNV HNU
      have M1 := mean21 g cx xs
      have M2 := mean21 g' cy ys
      rw [hlx] at M1
      rw [hly] at M2
      go_wp2_with (first | (go_at_call_of 21 g; refine (M1 _ HH.out HXB.out (by omega) (by omega)).mono ?_; rintro e w1 ⟨rfl, rfl⟩) | (go_at_call_of 21 g'; refine (M2 _ HH'.out HYB.out (by omega) (by omega)).mono ?_; rintro e w2 ⟨rfl, rfl⟩))
      have hX3 := heap_alloc_new wr (.cells #[.float .f64 0, .float .f64 0, .float .f64 0] 54)
      have hgT : g < wr.heap.size := World.block_lt_of_cell? wr ⟨g, 0, none⟩ (HH.out 0 (by omega))
      have hgT' : g' < wr.heap.size := World.block_lt_of_cell? wr ⟨g', 0, none⟩ (HH'.out 0 (by omega))
      have hwT : w.heap.size + 1 ≤ wr.heap.size := by have := HB.out.size; omega
      have HXx := Lib.hid (HH.out.below ((Below.refl _ wr).alloc (Nat.le_refl _) (.cells #[.float .f64 0, .float .f64 0, .float .f64 0] 54)))
      have HXy := Lib.hid (HH'.out.below ((Below.refl _ wr).alloc (Nat.le_refl _) (.cells #[.float .f64 0, .float .f64 0, .float .f64 0] 54)))
      have HXB0 := Lib.hid (HB.out.alloc hwT (.cells #[.float .f64 0, .float .f64 0, .float .f64 0] 54))
      obtain ⟨X, hX⟩ : ∃ X, wr.alloc (.cells #[.float .f64 0, .float .f64 0, .float .f64 0] 54) = X := ⟨_, rfl⟩
      rw [hX] at hX3 HXx HXy HXB0 ⊢
      clear hX HH HH' HB
      obtain ⟨T, hT⟩ : ∃ T, wr.heap.size = T := ⟨_, rfl⟩
      rw [hT] at hX3 hgT hgT' hwT ⊢
      clear hT
      have HMX := Lib.hid (mean_bd xs HXB.out (by omega) (by omega))
      have HMY := Lib.hid (mean_bd ys HYB.out (by omega) (by omega))
      have HP1 := Lib.hid (prods_bd HXB.out HXB.out HMX.out.2 HMX.out.2)
      have HP2 := Lib.hid (prods_bd HXB.out HYB.out HMX.out.2 HMY.out.2)
      have HP3 := Lib.hid (prods_bd HYB.out HYB.out HMY.out.2 HMY.out.2)
      have hpl1 := prods_len (xs := xs) (ys := xs) (mx := meanV xs) (my := meanV xs) rfl
      have hpl2 := prods_len (xs := xs) (ys := ys) (mx := meanV xs) (my := meanV ys) (by omega)
      have hpl3 := prods_len (xs := ys) (ys := ys) (mx := meanV ys) (my := meanV ys) rfl
      have HX3 := Lib.hid hX3
      clear hX3
      go_loopw [92] (fun i W => ∃ j : Nat, j ≤ k ∧ i = .int .i64 j ∧ W.heap[T]? = some (.cells #[.float .f64 (sumV ((prodsV (meanV xs) (meanV xs) xs xs).take j)), .float .f64 (sumV ((prodsV (meanV xs) (meanV ys) xs ys).take j)), .float .f64 (sumV ((prodsV (meanV ys) (meanV ys) ys ys).take j))] 54 (0, 0)) ∧ Below T X W) (fun i _ => k - (intOf i).toNat)
      case atStart => exact ⟨0, Nat.zero_le _, rfl, HX3.out, Below.refl _ _⟩
      case round =>
        obtain ⟨j, hj, rfl, hrow, hbT⟩ := hrel
        obtain ⟨d0, d1, d2⟩ := cellsT hrow
        have f0 := row_froz hrow 0
        have f1 := row_froz hrow 1
        have f2 := row_froz hrow 2
        have sT := (Array.getElem?_eq_some_iff.1 hrow).1
        by_cases hlt : j < k
        · have hjx : j < xs.length := by omega
          have hjy : j < ys.length := by omega
          have hj1 : j < (prodsV (meanV xs) (meanV xs) xs xs).length := by omega
          have hj2 : j < (prodsV (meanV xs) (meanV ys) xs ys).length := by omega
          have hj3 : j < (prodsV (meanV ys) (meanV ys) ys ys).length := by omega
          have hc := (hbT.cell (p := ⟨g, j, none⟩) hgT).trans (HXx.out j hjx)
          rw [show xs.getD j 0 = xs[j] by simp [hjx]] at hc
          have hc' := (hbT.cell (p := ⟨g', j, none⟩) hgT').trans (HXy.out j hjy)
          rw [show ys.getD j 0 = ys[j] by simp [hjy]] at hc'
          have q1 := fun (t : TypeId) (w : World) => run_float_arith (P := Try.prog) w .add t .f64 _ _ _ (sum_step (by omega) (by omega) HP1.out hj1 (by omega))
          rw [prods_get hjx hjx hj1] at q1
          have q2 := fun (t : TypeId) (w : World) => run_float_arith (P := Try.prog) w .add t .f64 _ _ _ (sum_step (by omega) (by omega) HP2.out hj2 (by omega))
          rw [prods_get hjx hjy hj2] at q2
          have q3 := fun (t : TypeId) (w : World) => run_float_arith (P := Try.prog) w .add t .f64 _ _ _ (sum_step (by omega) (by omega) HP3.out hj3 (by omega))
          rw [prods_get hjy hjy hj3] at q3
          have dx := diff_bd (HXB.out _ (List.getElem_mem hjx)) HMX.out.2
          have dy := diff_bd (HYB.out _ (List.getElem_mem hjy)) HMY.out.2
          have q4 := fun (t : TypeId) (w : World) => run_float_arith (P := Try.prog) w .sub t .f64 _ _ _ dx.1
          have q5 := fun (t : TypeId) (w : World) => run_float_arith (P := Try.prog) w .sub t .f64 _ _ _ dy.1
          have q6 := fun (t : TypeId) (w : World) => run_float_arith (P := Try.prog) w .mul t .f64 _ _ _ (prod_bd dx.2 dx.2).1
          have q7 := fun (t : TypeId) (w : World) => run_float_arith (P := Try.prog) w .mul t .f64 _ _ _ (prod_bd dx.2 dy.2).1
          have q8 := fun (t : TypeId) (w : World) => run_float_arith (P := Try.prog) w .mul t .f64 _ _ _ (prod_bd dy.2 dy.2).1
          have hrow2 := row_set (row_set (row_set hrow 0 (.float .f64 (sumV ((prodsV (meanV xs) (meanV xs) xs xs).take (j + 1))))) 1 (.float .f64 (sumV ((prodsV (meanV xs) (meanV ys) xs ys).take (j + 1))))) 2 (.float .f64 (sumV ((prodsV (meanV ys) (meanV ys) ys ys).take (j + 1))))
          have hb2 := ((hbT.setCell (p := ⟨T, 0, none⟩) (Nat.le_refl _) (.float .f64 (sumV ((prodsV (meanV xs) (meanV xs) xs xs).take (j + 1))))).setCell (p := ⟨T, 1, none⟩) (Nat.le_refl _) (.float .f64 (sumV ((prodsV (meanV xs) (meanV ys) xs ys).take (j + 1))))).setCell (p := ⟨T, 2, none⟩) (Nat.le_refl _) (.float .f64 (sumV ((prodsV (meanV ys) (meanV ys) ys ys).take (j + 1))))
          have HR := Lib.hid (And.intro hrow2 hb2)
          clear hrow hbT hrow2 hb2 dx dy hj1 hj2 hj3
          generalize xs[j] = x at *
          generalize ys[j] = y at *
          go_wp2_with fail
          go_region_held3 (fun w' => w'.cell? ⟨g, j, none⟩ = some (.float .f64 x) ∧ w'.cell? ⟨g', j, none⟩ = some (.float .f64 y)) (first | exact ⟨hc, hc'⟩ | go_keep) (fail)
          go_wp2_with fail
          go_roundw
          case rel => exact ⟨j + 1, by omega, by go_num, HR.out.1, HR.out.2.drew⟩
          case measure => simp [intOf]; omega
        · obtain rfl : j = k := by omega
          rw [show (prodsV (meanV xs) (meanV xs) xs xs).take j = prodsV (meanV xs) (meanV xs) xs xs from List.take_of_length_le (by omega)] at d0
          rw [show (prodsV (meanV xs) (meanV ys) xs ys).take j = prodsV (meanV xs) (meanV ys) xs ys from List.take_of_length_le (by omega)] at d1
          rw [show (prodsV (meanV ys) (meanV ys) ys ys).take j = prodsV (meanV ys) (meanV ys) ys ys from List.take_of_length_le (by omega)] at d2
          replace d0 : wr.cell? ⟨T, 0, none⟩ = some (.float .f64 (sXX xs)) := d0
          replace d1 : wr.cell? ⟨T, 1, none⟩ = some (.float .f64 (sXY xs ys)) := d1
          replace d2 : wr.cell? ⟨T, 2, none⟩ = some (.float .f64 (sXX ys)) := d2
          have hbW : Below (w.heap.size + 1) W0 wr := HXB0.out.trans (hbT.mono hwT)
          have rr := hbW.row R0.out (by omega)
          obtain ⟨c0, c1, c2⟩ := cellsT rr
          have g0 := row_froz rr 0
          have g1 := row_froz rr 1
          have g2 := row_froz rr 2
          have sR := (Array.getElem?_eq_some_iff.1 rr).1
          have hne : w.heap.size ≠ T := by omega
          have HBW := Lib.hid (HB0.out.trans (hbW.mono (by omega)))
          clear rr hbW hrow hbT hpl1 hpl2 hpl3 f0 f1 f2
          rcases HRES.out with ⟨h0, rfl⟩ | ⟨h0, base, rise, fit, ⟨t1, ⟨p, t2, t3⟩, t4⟩, rfl⟩
          · have qz : (FloatKind.f64.format.order (sXX xs) 0 == some .eq) = true := by rw [show FloatKind.f64.format.order (sXX xs) 0 = some .eq from h0]; rfl
            clear h0 HRES
            go_wp2_with fail
            exact bodyPost_ret (v := .tuple #[slopeT 0 0 0, .int .i64 5]) (by simp [results, Try.results14, go_sem, slopeT, c0, c1, c2, g0, g1, g2, hne]) rfl ⟨rfl, ((HBW.out.setCell (p := ⟨w.heap.size, 0, none⟩) (Nat.le_refl _) _).setCell (p := ⟨w.heap.size, 1, none⟩) (Nat.le_refl _) _).setCell (p := ⟨w.heap.size, 2, none⟩) (Nat.le_refl _) _⟩
          · have qz : (FloatKind.f64.format.order (sXX xs) 0 == some .eq) = false := beq_eq_false_iff_ne.2 h0
            have q1 := fun (t : TypeId) (w : World) => run_float_arith (P := Try.prog) w .quo t .f64 _ _ _ t1
            have q2 := fun (t : TypeId) (w : World) => run_float_arith (P := Try.prog) w .mul t .f64 _ _ _ t2
            have q3 := fun (t : TypeId) (w : World) => run_float_arith (P := Try.prog) w .sub t .f64 _ _ _ t3
            clear h0 HRES t1 t2 t3
            rcases t4 with ⟨h1, rfl⟩ | ⟨h1, a, b, u1, u2, u3⟩
            · have qn : (FloatKind.f64.format.order (sXX ys) 0 != some .eq) = false := by rw [show FloatKind.f64.format.order (sXX ys) 0 = some .eq from h1]; rfl
              clear h1
              go_wp2_with fail
              exact bodyPost_ret (v := .tuple #[slopeT base rise 4607182418800017408, .int .i64 0]) (by simp [results, Try.results14, go_sem, slopeT, c0, c1, c2, g0, g1, g2, hne, sR]) rfl ⟨rfl, (((HBW.out.setCell (p := ⟨w.heap.size, 0, none⟩) (Nat.le_refl _) _).setCell (p := ⟨w.heap.size, 1, none⟩) (Nat.le_refl _) _).setCell (p := ⟨w.heap.size, 2, none⟩) (Nat.le_refl _) _).alloc (by have := HBW.out.size; simpa using this) _⟩
            · have qn : (FloatKind.f64.format.order (sXX ys) 0 != some .eq) = true := bne_iff_ne.2 h1
              have q4 := fun (t : TypeId) (w : World) => run_float_arith (P := Try.prog) w .mul t .f64 _ _ _ u1
              have q5 := fun (t : TypeId) (w : World) => run_float_arith (P := Try.prog) w .mul t .f64 _ _ _ u2
              have q6 := fun (t : TypeId) (w : World) => run_float_arith (P := Try.prog) w .quo t .f64 _ _ _ u3
              clear h1 u1 u2 u3
              go_wp2_with fail
              exact bodyPost_ret (v := .tuple #[slopeT base rise fit, .int .i64 0]) (by simp [results, Try.results14, go_sem, slopeT, c0, c1, c2, g0, g1, g2, hne, sR]) rfl ⟨rfl, (((HBW.out.setCell (p := ⟨w.heap.size, 0, none⟩) (Nat.le_refl _) _).setCell (p := ⟨w.heap.size, 1, none⟩) (Nat.le_refl _) _).setCell (p := ⟨w.heap.size, 2, none⟩) (Nat.le_refl _) _).alloc (by have := HBW.out.size; simpa using this) _⟩
end Go.Proofs.Ytcgkolaljgpphaa
