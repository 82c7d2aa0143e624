/- quadrillelaw32.TrendPassed answers true at every input: the walk. -/
import Derived.Test.YtcgkolaljgpphaaMore
import Derived.Deep.Cut
import Derived.Deep.CutRange
namespace Go.Proofs.Ytcgkolaljgpphaa
set_option linter.unusedVariables false
set_option linter.unusedSimpArgs false
open Go.RowKit

attribute [local go_sem] run_store_float' eq25

theorem numVals_fits {l : List Int} (h : ∀ x ∈ l, -9223372036854775808 ≤ x ∧ x ≤ 9223372036854775807) : ∀ v ∈ numVals l, v.fits := fun v hv => by
  obtain ⟨n, hn, rfl⟩ := List.mem_map.1 hv
  exact ⟨⟨by show (-9223372036854775808 : Int) ≤ 1; decide, by show (1 : Int) ≤ 9223372036854775807; decide⟩, h n hn, by show (0 : Nat) ≤ 140737488351232; omega⟩

set_option maxRecDepth 100000 in
set_option maxHeartbeats 2000000 in
theorem trendPassed_walk (A : Option Addr) (C n : Nat) (ws : List Int) (pos code : Int) (w : World) (hv : IntsAt w A ws) (hf : ∀ x ∈ ws, -2147483648 ≤ x ∧ x ≤ 2147483647) (hn : ws.length = n) (hl : n ≤ 35184372088832) (hp : 0 ≤ pos ∧ pos ≤ 255) (hcd : 0 ≤ code ∧ code ≤ 255) :
    Calls Try.prog 7 #[.slice A n C, .int .u8 pos, .int .u8 code] w fun e w' => e = .returned (.bool true) ∧ Below w.heap.size w w' := by
  obtain ⟨i0, hi, hz0, hz1, hz2⟩ := info_parts info44
  have HV := Lib.hid hv
  have HF := Lib.hid hf
  have HP := Lib.hid hp
  have HCD := Lib.hid hcd
  clear hv hf hp hcd
  go_enter Try.func7, Try.ntmps7
  go_wp2_with (first | (go_at_call 8; refine (begun8 _).mono ?_; rintro e w1 ⟨rfl, hb1⟩))
  refine (small16 A C n ws _ (HV.out.below hb1) HF.out hn hl).mono ?_
  have hl1 : ∀ x ∈ ws.take 1000, -2147483648 ≤ x ∧ x ≤ 2147483647 := fun x hx => HF.out x (List.mem_of_mem_take hx)
  have hm : (ws.take 1000).length ≤ 1000 := by simp; omega
  generalize ws.take 1000 = l at *
  obtain ⟨m, hlm⟩ : ∃ m, l.length = m := ⟨_, rfl⟩
  rw [hlm] at hm ⊢
  rintro e w2 ⟨v, rfl, hown2, hb2⟩
  have hLL : ∀ x ∈ l, -9223372036854775808 ≤ x ∧ x ≤ 9223372036854775807 := fun x hx => by have := hl1 x hx; omega
  have HLL := Lib.hid hLL
  have HB2 := Lib.hid (hb1.trans (hb2.mono hb1.size))
  have HO2 := Lib.hid hown2
  clear hb1 hb2 hown2 hl1 hLL
  obtain ⟨ao2, cap2, rfl⟩ := row_any HO2.out
  go_wp2_with fail
  refine (given17 _ m _ l _ HO2.out hlm (by omega)).mono ?_
  rintro e w3 ⟨v3, rfl, hown3, hb3⟩
  have HB3 := Lib.hid (HB2.out.trans (hb3.mono HB2.out.size))
  have hnl : (numVals l).length = m := by simp [numVals, hlm]
  obtain ⟨ao3, cap3, hv3⟩ := row_any hown3
  subst hv3
  have HO3 := Lib.hid hown3
  clear hb3 hown3 HB2 HO2
  obtain ⟨c0, mm, vv, lo, ho, e0, hof, s1, s2, s3, s4⟩ := ofV_form (numVals l) (numVals_fits HLL.out) (by omega)
  unfold Self at s1 s2 s3 s4
  have HOF := Lib.hid hof
  clear hof
  go_wp2_with fail
  refine (of_row _ m _ _ _ HO3.out hnl (by omega) (numVals_fits HLL.out)).mono ?_
  rw [HOF.out]
  rintro e w4 ⟨rfl, hb4⟩
  have HO4 := Lib.hid (row_below HO3.out hb4)
  have HB4 := Lib.hid (HB3.out.trans (hb4.mono HB3.out.size))
  clear hb4 HB3 HO3
  simp only [trendT]
  have HBa := (Below.refl w4.heap.size w4).alloc (Nat.le_refl _) (.cells #[.int .i64 c0, .float .f64 mm, .float .f64 vv, .float .f64 lo, .float .f64 ho] 27)
  have r1 := heap_alloc_new w4 (.cells #[.int .i64 c0, .float .f64 mm, .float .f64 vv, .float .f64 lo, .float .f64 ho] 27)
  have HB5 := Lib.hid (HB4.out.trans (HBa.mono HB4.out.size))
  have HO5 := Lib.hid (row_below HO4.out HBa)
  go_wp2_with fail
  obtain ⟨X, hX⟩ : ∃ X, w4.alloc (.cells #[.int .i64 c0, .float .f64 mm, .float .f64 vv, .float .f64 lo, .float .f64 ho] 27) = X := ⟨_, rfl⟩
  have hT : w4.heap.size < X.heap.size := by rw [← hX]; simp
  rw [hX] at r1 HB5 HO5 ⊢
  clear hX HB4 HO4 HBa
  obtain ⟨T, hTe⟩ : ∃ T, w4.heap.size = T := ⟨_, rfl⟩
  rw [hTe] at r1 hT ⊢
  clear hTe
  go_wp2_with fail
  obtain ⟨N, hN⟩ : ∃ N, X.heap.size = N := ⟨_, rfl⟩
  have HN := Lib.hid hN
  clear hN
  go_loopw [10, 11] (fun u i wr => ∃ k : Nat, k ≤ m ∧ i = .int .i64 k ∧ wr.ownsRow N 44 3 u (4 * k) (cellsV (moreV (l.take k))) ∧ Below N X wr) (fun _ i _ => m - (intOf i).toNat)
  case atStart => exact ⟨0, by omega, rfl, World.ownsRow_nil _ _ _ _, by rw [← HN.out]; exact Below.refl _ _⟩
  case round =>
    obtain ⟨k, hk, rfl, hown, hb⟩ := hrel
    by_cases hlt : k < m
    · obtain ⟨bo, cb, rfl⟩ := row_any hown
      have hkl : k < l.length := by omega
      obtain ⟨g, cg, hg⟩ : ∃ g cg, Value.slice ao3 m cap3 = .slice (some ⟨g, 0, none⟩) m cg := by
        have hvo := HO5.out
        rw [show m = m - 1 + 1 by omega] at hvo
        obtain ⟨g, cg, e⟩ := slice_form hvo
        rw [show m - 1 + 1 = m by omega] at e
        exact ⟨g, cg, e⟩
      cases hg
      have hA : ValsAt X (some ⟨g, 0, none⟩) (numVals l) := ValsAt.of_own HO5.out hnl
      obtain ⟨b', off', e', hbl, hc0, hc1, hc2⟩ := hA k (by omega)
      cases e'
      rw [Nat.zero_add] at hc0 hc1 hc2
      have eg : (numVals l).getD k default = ⟨1, l.getD k 0, ⟨#[]⟩⟩ := by simp [numVals, List.getD, hkl]
      rw [eg] at hc0 hc1 hc2
      have hgN : g < N := by have := HN.out; omega
      replace hc0 := (hb.cell (p := ⟨g, k * 3, none⟩) hgN).trans hc0
      replace hc1 := (hb.cell (p := ⟨g, k * 3 + 1, none⟩) hgN).trans hc1
      replace hc2 := (hb.cell (p := ⟨g, k * 3 + 2, none⟩) hgN).trans hc2
      have he := take_one hkl
      clear hA eg hbl hgN
      generalize l.getD k 0 = x at *
      have HE := Lib.hid he
      clear he
      have hNs : N ≤ wr.heap.size := by have := hb.size; have := HN.out; omega
      go_wp2_with (at_builtin; refine wpList_append_own _ rfl _ _ 22 rfl N 44 i0 _ 3 32 Try.underlying22 hi hz0 hz1 hz2 rfl (by decide) _ _ _ rfl (hown.alloc _) ⟨wr.heap.size, 0, none⟩ 4 4 (cellsV (more1 x)) rfl rfl ?c1 (cellsV_one _) ?c3 ?c4 ?c5 ?_)
      case c1 =>
        intro j u hu
        exact hu
      case c3 => unfold maxLen; omega
      case c4 => omega
      case c5 => omega
      intro v' wx hown' hgrow _
      rw [← cellsV_app, ← moreV_snoc, ← HE.out] at hown'
      have hb' : Below N X wx := (hb.alloc hNs _).grown hgrow (by simp; omega) (fun k hk => (hown.lt k hk).1)
      obtain ⟨ao', cap2', rfl⟩ : ∃ ao' cap2', v' = .slice ao' (4 * k + 4) cap2' := row_any hown'
      have HO := Lib.hid (And.intro hown' hb')
      clear hown' hown hb hgrow hb' hc0 hc1 hc2
      go_wp2
      go_roundw
      case rel => exact ⟨k + 1, by omega, by go_num, HO.out.1, HO.out.2⟩
      case measure => simp [intOf]; omega
    · obtain rfl : k = m := by omega
      rw [List.take_of_length_le (by omega)] at hown
      obtain ⟨M, hM⟩ : ∃ M, 4 * k = M := ⟨_, rfl⟩
      rw [hM] at hown
      have hml : (moreV l).length = M := by rw [moreV_len, hlm, hM]
      have hM8 : M ≤ 4000 := by omega
      have hcs := row_cases hown
      obtain ⟨bo, cb, rfl⟩ := row_any hown
      have HO6 := Lib.hid hown
      have HB6 := Lib.hid (HB5.out.trans (hb.mono (by have := HB5.out.size; have := HN.out; omega)))
      replace r1 := hb.row r1 (by have := HN.out; omega)
      have hT6 : T < wr.heap.size := (Array.getElem?_eq_some_iff.1 r1).1
      have hNs : N ≤ wr.heap.size := by have := hb.size; have := HN.out; omega
      clear hown hb HB5 HO5
      go_wp2_with fail
      refine (of_row _ M _ _ _ HO6.out hml (by omega) (more_fits HLL.out)).mono ?_
      rw [of_more, HOF.out]
      rintro e w7 ⟨rfl, hb7⟩
      have HO7 := Lib.hid (row_below HO6.out hb7)
      have HB7 := Lib.hid (HB6.out.trans (hb7.mono HB6.out.size))
      replace r1 := hb7.row r1 hT6
      have hN7 : N ≤ w7.heap.size := Nat.le_trans hNs hb7.size
      have hT7 : T < w7.heap.size := Nat.lt_of_lt_of_le hT6 hb7.size
      clear hb7 HB6 HO6 hNs hT6
      simp only [trendT]
      have HBa := (Below.refl w7.heap.size w7).alloc (Nat.le_refl _) (.cells #[.int .i64 c0, .float .f64 mm, .float .f64 vv, .float .f64 lo, .float .f64 ho] 27)
      have r2 := heap_alloc_new w7 (.cells #[.int .i64 c0, .float .f64 mm, .float .f64 vv, .float .f64 lo, .float .f64 ho] 27)
      replace r1 := HBa.row r1 hT7
      have HB8 := Lib.hid (HB7.out.trans (HBa.mono HB7.out.size))
      have HO8 := Lib.hid (row_below HO7.out HBa)
      go_wp2_with fail
      obtain ⟨Y, hY⟩ : ∃ Y, w7.alloc (.cells #[.int .i64 c0, .float .f64 mm, .float .f64 vv, .float .f64 lo, .float .f64 ho] 27) = Y := ⟨_, rfl⟩
      have hU : w7.heap.size < Y.heap.size := by rw [← hY]; simp
      rw [hY] at r1 r2 HB8 HO8 ⊢
      clear hY HB7 HO7 HBa
      obtain ⟨U, hUe⟩ : ∃ U, w7.heap.size = U := ⟨_, rfl⟩
      rw [hUe] at r2 hU hN7 hT7 ⊢
      clear hUe
      go_wp2_with fail
      have ek : ∃ K : Nat, K ≤ M ∧ (wrap64 pos).tmod ((M : Int) + 1) = (K : Int) := by
        have h1 : wrap64 pos = pos := by have := HP.out; unfold wrap64; omega
        rw [h1, Int.tmod_eq_emod_of_nonneg HP.out.1]
        have h2 := Int.emod_nonneg pos (show ((M : Int) + 1) ≠ 0 by omega)
        have h3 := Int.emod_lt_of_pos pos (show 0 < ((M : Int) + 1) by omega)
        exact ⟨(pos % ((M : Int) + 1)).toNat, by omega, by omega⟩
      obtain ⟨K, hKM, ek⟩ := ek
      have ec : ∃ c : Int, (1 ≤ c ∧ c ≤ 6) ∧ wrap64 ((wrap64 code).tmod 6 + 1) = c := by
        have h1 : wrap64 code = code := by have := HCD.out; unfold wrap64; omega
        rw [h1, Int.tmod_eq_emod_of_nonneg HCD.out.1]
        have h2 := Int.emod_nonneg code (show (6 : Int) ≠ 0 by omega)
        have h3 := Int.emod_lt_of_pos code (show (0 : Int) < 6 by omega)
        refine ⟨code % 6 + 1, by omega, ?_⟩
        unfold wrap64
        omega
      obtain ⟨c, hc, ec⟩ := ec
      rw [ek, ec]
      clear ek ec
      have hK0 : (0 : Int) ≤ (K : Int) := by omega
      have hKM' : (K : Int) ≤ (M : Int) := by omega
      have HC := Lib.hid hc
      clear hc
      go_cut [16] from 60 to 71 (fun v wc => (∃ a3 cp3, v = .slice a3 (M + 1) cp3) ∧ wc.ownsRow Y.heap.size 44 3 v (M + 1) (cellsV ((moreV l).take K ++ [errV c] ++ (moreV l).drop K)) ∧ Below Y.heap.size Y wc)
      case first =>
        rcases hcs with ⟨hcs, hM0⟩ | ⟨g, cg, hMc, hcs⟩
        · cases hcs
          have hM00 : moreV l = [] := List.length_eq_zero_iff.1 (by omega)
          obtain rfl : K = 0 := by omega
          have hl1 : (cellsV ((moreV l).take 0)).length = 0 * 3 := by rw [cellsV_len]; simp
          have hl2 : (cellsV ((moreV l).drop 0)).length = 0 * 3 := by rw [cellsV_len]; simp [hM00]
          have hS1 : ∀ W, Below Y.heap.size Y W → Src W none ((moreV l).take 0) := fun W _ => src_none W _
          have hS2 : ∀ W, Below Y.heap.size Y W → Src W none ((moreV l).drop 0) := fun W _ => src_none W _
          refine wp_region_noPanic ?_
          refine wp_region_held_drew (S := (fun _ => True)) (by kernel_rfl) (trivial) (fun hHeld => ?_)
          first
          | (refine wpAnyH_take (i := 0) (oi := ?o10_0) (v := undef) ?hi10_0 (by kernel_rfl) (by kernel_rfl) (by kernel_rfl) (fun _ _ _ h => h) ?hy10_0 (by assumption) ?hr10_0
             case hi10_0 => (simp only [List.getElem?_toArray, List.getElem?_cons_succ, List.getElem?_cons_zero]; rfl)
             case hy10_0 => exact Or.inr ⟨by rfl, rfl⟩)
          | (refine wpAnyH_take (i := 0) (oi := ?o10_0) (v := ?v10_0) ?hi10_0 (by kernel_rfl) (by kernel_rfl) (by kernel_rfl) (fun _ _ _ h => h) ?hy10_0 (by assumption) ?hr10_0
             case hi10_0 => (simp only [List.getElem?_toArray, List.getElem?_cons_succ, List.getElem?_cons_zero]; rfl)
             case hy10_0 => (refine Or.inl ⟨by rfl, ?_⟩; intro w hSw; (try dsimp only at hSw); go_simp <;> with_reducible rfl))
          try simp only [Act.put, List.setIfInBounds_toArray, List.set_cons_zero, List.set_cons_succ]
          first
          | (refine wpAnyH_take (i := 1) (oi := ?o10_1) (v := undef) ?hi10_1 (by kernel_rfl) (by kernel_rfl) (by kernel_rfl) (fun _ _ _ h => h) ?hy10_1 (by assumption) ?hr10_1
             case hi10_1 => (simp only [List.getElem?_toArray, List.getElem?_cons_succ, List.getElem?_cons_zero]; rfl)
             case hy10_1 => exact Or.inr ⟨by rfl, rfl⟩)
          | (refine wpAnyH_take (i := 1) (oi := ?o10_1) (v := ?v10_1) ?hi10_1 (by kernel_rfl) (by kernel_rfl) (by kernel_rfl) (fun _ _ _ h => h) ?hy10_1 (by assumption) ?hr10_1
             case hi10_1 => (simp only [List.getElem?_toArray, List.getElem?_cons_succ, List.getElem?_cons_zero]; rfl)
             case hy10_1 => (refine Or.inl ⟨by rfl, ?_⟩; intro w hSw; (try dsimp only at hSw); go_simp <;> with_reducible rfl))
          try simp only [Act.put, List.setIfInBounds_toArray, List.set_cons_zero, List.set_cons_succ]
          first
          | (refine wpAnyH_take (i := 2) (oi := ?o10_2) (v := undef) ?hi10_2 (by kernel_rfl) (by kernel_rfl) (by kernel_rfl) (fun _ _ _ h => h) ?hy10_2 (by assumption) ?hr10_2
             case hi10_2 => (simp only [List.getElem?_toArray, List.getElem?_cons_succ, List.getElem?_cons_zero]; rfl)
             case hy10_2 => exact Or.inr ⟨by rfl, rfl⟩)
          | (refine wpAnyH_take (i := 2) (oi := ?o10_2) (v := ?v10_2) ?hi10_2 (by kernel_rfl) (by kernel_rfl) (by kernel_rfl) (fun _ _ _ h => h) ?hy10_2 (by assumption) ?hr10_2
             case hi10_2 => (simp only [List.getElem?_toArray, List.getElem?_cons_succ, List.getElem?_cons_zero]; rfl)
             case hy10_2 => (refine Or.inl ⟨by rfl, ?_⟩; intro w hSw; (try dsimp only at hSw); go_simp <;> with_reducible rfl))
          try simp only [Act.put, List.setIfInBounds_toArray, List.set_cons_zero, List.set_cons_succ]
          first
          | (refine wpAnyH_take (i := 4) (oi := ?o10_4) (v := undef) ?hi10_4 (by kernel_rfl) (by kernel_rfl) (by kernel_rfl) (fun _ _ _ h => h) ?hy10_4 (by assumption) ?hr10_4
             case hi10_4 => (simp only [List.getElem?_toArray, List.getElem?_cons_succ, List.getElem?_cons_zero]; rfl)
             case hy10_4 => exact Or.inr ⟨by rfl, rfl⟩)
          | (refine wpAnyH_take (i := 4) (oi := ?o10_4) (v := ?v10_4) ?hi10_4 (by kernel_rfl) (by kernel_rfl) (by kernel_rfl) (fun _ _ _ h => h) ?hy10_4 (by assumption) ?hr10_4
             case hi10_4 => (simp only [List.getElem?_toArray, List.getElem?_cons_succ, List.getElem?_cons_zero]; rfl)
             case hy10_4 => (refine Or.inl ⟨by rfl, ?_⟩; intro w hSw; (try dsimp only at hSw); go_simp <;> with_reducible rfl))
          try simp only [Act.put, List.setIfInBounds_toArray, List.set_cons_zero, List.set_cons_succ]
          first
          | (refine wpAnyH_take (i := 5) (oi := ?o10_5) (v := undef) ?hi10_5 (by kernel_rfl) (by kernel_rfl) (by kernel_rfl) (fun _ _ _ h => h) ?hy10_5 (by assumption) ?hr10_5
             case hi10_5 => (simp only [List.getElem?_toArray, List.getElem?_cons_succ, List.getElem?_cons_zero]; rfl)
             case hy10_5 => exact Or.inr ⟨by rfl, rfl⟩)
          | (refine wpAnyH_take (i := 5) (oi := ?o10_5) (v := ?v10_5) ?hi10_5 (by kernel_rfl) (by kernel_rfl) (by kernel_rfl) (fun _ _ _ h => h) ?hy10_5 (by assumption) ?hr10_5
             case hi10_5 => (simp only [List.getElem?_toArray, List.getElem?_cons_succ, List.getElem?_cons_zero]; rfl)
             case hy10_5 => (refine Or.inl ⟨by rfl, ?_⟩; intro w hSw; (try dsimp only at hSw); go_simp <;> with_reducible rfl))
          try simp only [Act.put, List.setIfInBounds_toArray, List.set_cons_zero, List.set_cons_succ]
          first
          | (refine wpAnyH_take (i := 8) (oi := ?o10_8) (v := undef) ?hi10_8 (by kernel_rfl) (by kernel_rfl) (by kernel_rfl) (fun _ _ _ h => h) ?hy10_8 (by assumption) ?hr10_8
             case hi10_8 => (simp only [List.getElem?_toArray, List.getElem?_cons_succ, List.getElem?_cons_zero]; rfl)
             case hy10_8 => exact Or.inr ⟨by rfl, rfl⟩)
          | (refine wpAnyH_take (i := 8) (oi := ?o10_8) (v := ?v10_8) ?hi10_8 (by kernel_rfl) (by kernel_rfl) (by kernel_rfl) (fun _ _ _ h => h) ?hy10_8 (by assumption) ?hr10_8
             case hi10_8 => (simp only [List.getElem?_toArray, List.getElem?_cons_succ, List.getElem?_cons_zero]; rfl)
             case hy10_8 => (refine Or.inl ⟨by rfl, ?_⟩; intro w hSw; (try dsimp only at hSw); go_simp <;> with_reducible rfl))
          try simp only [Act.put, List.setIfInBounds_toArray, List.set_cons_zero, List.set_cons_succ]
          first
          | (refine wpAnyH_take (i := 9) (oi := ?o10_9) (v := undef) ?hi10_9 (by kernel_rfl) (by kernel_rfl) (by kernel_rfl) (fun _ _ _ h => h) ?hy10_9 (by assumption) ?hr10_9
             case hi10_9 => (simp only [List.getElem?_toArray, List.getElem?_cons_succ, List.getElem?_cons_zero]; rfl)
             case hy10_9 => exact Or.inr ⟨by rfl, rfl⟩)
          | (refine wpAnyH_take (i := 9) (oi := ?o10_9) (v := ?v10_9) ?hi10_9 (by kernel_rfl) (by kernel_rfl) (by kernel_rfl) (fun _ _ _ h => h) ?hy10_9 (by assumption) ?hr10_9
             case hi10_9 => (simp only [List.getElem?_toArray, List.getElem?_cons_succ, List.getElem?_cons_zero]; rfl)
             case hy10_9 => (refine Or.inl ⟨by rfl, ?_⟩; intro w hSw; (try dsimp only at hSw); go_simp <;> with_reducible rfl))
          try simp only [Act.put, List.setIfInBounds_toArray, List.set_cons_zero, List.set_cons_succ]
          first
          | (refine wpAnyH_take (i := 10) (oi := ?o10_10) (v := undef) ?hi10_10 (by kernel_rfl) (by kernel_rfl) (by kernel_rfl) (fun _ _ _ h => h) ?hy10_10 (by assumption) ?hr10_10
             case hi10_10 => (simp only [List.getElem?_toArray, List.getElem?_cons_succ, List.getElem?_cons_zero]; rfl)
             case hy10_10 => exact Or.inr ⟨by rfl, rfl⟩)
          | (refine wpAnyH_take (i := 10) (oi := ?o10_10) (v := ?v10_10) ?hi10_10 (by kernel_rfl) (by kernel_rfl) (by kernel_rfl) (fun _ _ _ h => h) ?hy10_10 (by assumption) ?hr10_10
             case hi10_10 => (simp only [List.getElem?_toArray, List.getElem?_cons_succ, List.getElem?_cons_zero]; rfl)
             case hy10_10 => (refine Or.inl ⟨by rfl, ?_⟩; intro w hSw; (try dsimp only at hSw); go_simp <;> with_reducible rfl))
          try simp only [Act.put, List.setIfInBounds_toArray, List.set_cons_zero, List.set_cons_succ]
          refine wpAnyH_ready (rs := [3, 6]) (by kernel_rfl) (by simp) ?_
          refine AllReadyH.cons (o := ?or11) ?hor11 (fun Kk hK => ?hkr11) (AllReadyH.cons (o := ?oq11) ?hoq11 (fun Kk hK => ?hkq11) AllReadyH.nil)
          case hor11 => (simp only [List.getElem?_toArray, List.getElem?_cons_succ, List.getElem?_cons_zero]; rfl)
          case hoq11 => (simp only [List.getElem?_toArray, List.getElem?_cons_succ, List.getElem?_cons_zero]; rfl)
          case hkr11 =>
            refine step_append_any (by rfl) _ _ 22 (by rfl) Y.heap.size 44 i0 _ 3 32 Try.underlying22 hi hz0 hz1 hz2 rfl (by decide) (.slice none 0 0) 0 [] (by rfl) (World.ownsRow_nil _ _ _ _) none 0 0 (cellsV ((moreV l).take 0)) (by rfl) (fun _ => ⟨rfl, rfl⟩) hl1 (hS1 _ ((Below.refl Y.heap.size Y).drew)) (cellsV_one _) (by unfold maxLen; omega) (by omega) (by first | omega | (simp <;> omega)) ?_
            intro v1 w8 hown1 hgrow1
            have hb8 : Below Y.heap.size Y w8 := ((Below.refl Y.heap.size Y).drew).grown hgrow1 (by first | exact Nat.le_refl _ | simp) (fun k hk => by cases hk)
            refine hK.out _ _ trivial (fun _ => ?_)
            clear hK Kk
            try simp only [Act.put, List.setIfInBounds_toArray, List.set_cons_zero, List.set_cons_succ]
            refine wpAnyH_ready (rs := [6]) (by kernel_rfl) (by simp) ?_
            refine AllReadyH.cons (o := ?os12) ?hos12 (fun Kk hK => ?hks12) AllReadyH.nil
            case hos12 => (simp only [List.getElem?_toArray, List.getElem?_cons_succ, List.getElem?_cons_zero]; rfl)
            go_simp
            refine hK.out _ _ trivial (fun _ => ?_)
            clear hK Kk
            try simp only [Act.put, List.setIfInBounds_toArray, List.set_cons_zero, List.set_cons_succ]
            refine wpAnyH_ready (rs := [7]) (by kernel_rfl) (by simp) ?_
            refine AllReadyH.cons (o := ?os13) ?hos13 (fun Kk hK => ?hks13) AllReadyH.nil
            case hos13 => (simp only [List.getElem?_toArray, List.getElem?_cons_succ, List.getElem?_cons_zero]; rfl)
            refine step_append_any (by rfl) _ _ 22 (by rfl) Y.heap.size 44 i0 _ 3 32 Try.underlying22 hi hz0 hz1 hz2 rfl (by decide) v1 (0 + 0) ([] ++ cellsV ((moreV l).take 0)) (by rfl) (hown1.alloc _) (some ⟨w8.heap.size, 0, none⟩) 1 1 (cellsV [errV c]) (by rfl) (fun h => by cases h) rfl (src_box (v := errV c) (heap_alloc_new _ _)) (cellsV_one _) (by unfold maxLen; omega) (by omega) (by have := hb8.size; first | omega | (simp; omega)) ?_
            intro v2 w9 hown2 hgrow2
            have hb9 : Below Y.heap.size Y w9 := (hb8.alloc hb8.size _).grown hgrow2 (by have := hb8.size; first | omega | (simp; omega)) (fun k hk => (hown1.lt k hk).1)
            refine hK.out _ _ trivial (fun _ => ?_)
            clear hK Kk
            try simp only [Act.put, List.setIfInBounds_toArray, List.set_cons_zero, List.set_cons_succ]
            refine wpAnyH_ready (rs := [11]) (by kernel_rfl) (by simp) ?_
            refine AllReadyH.cons (o := ?os14) ?hos14 (fun Kk hK => ?hks14) AllReadyH.nil
            case hos14 => (simp only [List.getElem?_toArray, List.getElem?_cons_succ, List.getElem?_cons_zero]; rfl)
            refine step_append_any (by rfl) _ _ 22 (by rfl) Y.heap.size 44 i0 _ 3 32 Try.underlying22 hi hz0 hz1 hz2 rfl (by decide) v2 (0 + 0 + 1) ([] ++ cellsV ((moreV l).take 0) ++ cellsV [errV c]) (by rfl) hown2 none 0 0 (cellsV ((moreV l).drop 0)) (by rfl) (fun _ => ⟨rfl, rfl⟩) hl2 (hS2 _ hb9) (cellsV_one _) (by unfold maxLen; omega) (by omega) (by have := hb9.size; omega) ?_
            intro v3 w10 hown3 hgrow3
            have hb10 : Below Y.heap.size Y w10 := hb9.grown hgrow3 (hb9.size) (fun k hk => (hown2.lt k hk).1)
            refine hK.out _ _ trivial (fun _ => ?_)
            clear hK Kk
            try simp only [Act.put, List.setIfInBounds_toArray, List.set_cons_zero, List.set_cons_succ]
            first
            | (refine wpAnyH_take (i := 12) (oi := ?o114_12) (v := undef) ?hi114_12 (by kernel_rfl) (by kernel_rfl) (by kernel_rfl) (fun _ _ _ h => h) ?hy114_12 (by assumption) ?hr114_12
               case hi114_12 => (simp only [List.getElem?_toArray, List.getElem?_cons_succ, List.getElem?_cons_zero]; rfl)
               case hy114_12 => exact Or.inr ⟨by rfl, rfl⟩)
            | (refine wpAnyH_take (i := 12) (oi := ?o114_12) (v := ?v114_12) ?hi114_12 (by kernel_rfl) (by kernel_rfl) (by kernel_rfl) (fun _ _ _ h => h) ?hy114_12 (by assumption) ?hr114_12
               case hi114_12 => (simp only [List.getElem?_toArray, List.getElem?_cons_succ, List.getElem?_cons_zero]; rfl)
               case hy114_12 => (refine Or.inl ⟨by rfl, ?_⟩; intro w hSw; (try dsimp only at hSw); go_simp <;> with_reducible rfl))
            try simp only [Act.put, List.setIfInBounds_toArray, List.set_cons_zero, List.set_cons_succ]
            try simp only [Act.put, List.setIfInBounds_toArray, List.set_cons_zero, List.set_cons_succ]
            refine wpAnyH_done (by kernel_rfl) ?_ _
            refine NoPanic.normal ?_
            rw [List.nil_append, ← cellsV_app, ← cellsV_app, show 0 + 0 + 1 + 0 = 0 + 1 by omega] at hown3
            have HOUT := Lib.hid (And.intro hown3 hb10)
            clear hown3 hb10 hown2 hown1 hgrow1 hgrow2 hgrow3 hb8 hb9
            go_wp2_with fail
            go_meet
            case rel => exact ⟨row_any HOUT.out.1, HOUT.out.1, HOUT.out.2⟩
          case hkq11 =>
            go_simp
            refine hK.out _ _ trivial (fun _ => ?_)
            clear hK Kk
            try simp only [Act.put, List.setIfInBounds_toArray, List.set_cons_zero, List.set_cons_succ]
            refine wpAnyH_ready (rs := [3]) (by kernel_rfl) (by simp) ?_
            refine AllReadyH.cons (o := ?os15) ?hos15 (fun Kk hK => ?hks15) AllReadyH.nil
            case hos15 => (simp only [List.getElem?_toArray, List.getElem?_cons_succ, List.getElem?_cons_zero]; rfl)
            refine step_append_any (by rfl) _ _ 22 (by rfl) Y.heap.size 44 i0 _ 3 32 Try.underlying22 hi hz0 hz1 hz2 rfl (by decide) (.slice none 0 0) 0 [] (by rfl) (World.ownsRow_nil _ _ _ _) none 0 0 (cellsV ((moreV l).take 0)) (by rfl) (fun _ => ⟨rfl, rfl⟩) hl1 (hS1 _ (((Below.refl Y.heap.size Y).alloc (Nat.le_refl _) _).drew)) (cellsV_one _) (by unfold maxLen; omega) (by omega) (by first | omega | (simp <;> omega)) ?_
            intro v1 w8 hown1 hgrow1
            have hb8 : Below Y.heap.size Y w8 := (((Below.refl Y.heap.size Y).alloc (Nat.le_refl _) _).drew).grown hgrow1 (by first | exact Nat.le_refl _ | simp) (fun k hk => by cases hk)
            have hbox := (hgrow1.block Y.heap.size (by simp) (by simp [Value.ownBlock])).trans (heap_alloc_new Y (.cells #[.int .i64 4, .int .i64 c, .string ⟨#[]⟩] 44))
            refine hK.out _ _ trivial (fun _ => ?_)
            clear hK Kk
            try simp only [Act.put, List.setIfInBounds_toArray, List.set_cons_zero, List.set_cons_succ]
            refine wpAnyH_ready (rs := [7]) (by kernel_rfl) (by simp) ?_
            refine AllReadyH.cons (o := ?os16) ?hos16 (fun Kk hK => ?hks16) AllReadyH.nil
            case hos16 => (simp only [List.getElem?_toArray, List.getElem?_cons_succ, List.getElem?_cons_zero]; rfl)
            refine step_append_any (by rfl) _ _ 22 (by rfl) Y.heap.size 44 i0 _ 3 32 Try.underlying22 hi hz0 hz1 hz2 rfl (by decide) v1 (0 + 0) ([] ++ cellsV ((moreV l).take 0)) (by rfl) hown1 (some ⟨Y.heap.size, 0, none⟩) 1 1 (cellsV [errV c]) (by rfl) (fun h => by cases h) rfl (src_box (v := errV c) hbox) (cellsV_one _) (by unfold maxLen; omega) (by omega) (by have := hb8.size; first | omega | (simp; omega)) ?_
            intro v2 w9 hown2 hgrow2
            have hb9 : Below Y.heap.size Y w9 := hb8.grown hgrow2 (by have := hb8.size; first | omega | (simp; omega)) (fun k hk => (hown1.lt k hk).1)
            refine hK.out _ _ trivial (fun _ => ?_)
            clear hK Kk
            try simp only [Act.put, List.setIfInBounds_toArray, List.set_cons_zero, List.set_cons_succ]
            refine wpAnyH_ready (rs := [11]) (by kernel_rfl) (by simp) ?_
            refine AllReadyH.cons (o := ?os17) ?hos17 (fun Kk hK => ?hks17) AllReadyH.nil
            case hos17 => (simp only [List.getElem?_toArray, List.getElem?_cons_succ, List.getElem?_cons_zero]; rfl)
            refine step_append_any (by rfl) _ _ 22 (by rfl) Y.heap.size 44 i0 _ 3 32 Try.underlying22 hi hz0 hz1 hz2 rfl (by decide) v2 (0 + 0 + 1) ([] ++ cellsV ((moreV l).take 0) ++ cellsV [errV c]) (by rfl) hown2 none 0 0 (cellsV ((moreV l).drop 0)) (by rfl) (fun _ => ⟨rfl, rfl⟩) hl2 (hS2 _ hb9) (cellsV_one _) (by unfold maxLen; omega) (by omega) (by have := hb9.size; omega) ?_
            intro v3 w10 hown3 hgrow3
            have hb10 : Below Y.heap.size Y w10 := hb9.grown hgrow3 (hb9.size) (fun k hk => (hown2.lt k hk).1)
            refine hK.out _ _ trivial (fun _ => ?_)
            clear hK Kk
            try simp only [Act.put, List.setIfInBounds_toArray, List.set_cons_zero, List.set_cons_succ]
            first
            | (refine wpAnyH_take (i := 12) (oi := ?o118_12) (v := undef) ?hi118_12 (by kernel_rfl) (by kernel_rfl) (by kernel_rfl) (fun _ _ _ h => h) ?hy118_12 (by assumption) ?hr118_12
               case hi118_12 => (simp only [List.getElem?_toArray, List.getElem?_cons_succ, List.getElem?_cons_zero]; rfl)
               case hy118_12 => exact Or.inr ⟨by rfl, rfl⟩)
            | (refine wpAnyH_take (i := 12) (oi := ?o118_12) (v := ?v118_12) ?hi118_12 (by kernel_rfl) (by kernel_rfl) (by kernel_rfl) (fun _ _ _ h => h) ?hy118_12 (by assumption) ?hr118_12
               case hi118_12 => (simp only [List.getElem?_toArray, List.getElem?_cons_succ, List.getElem?_cons_zero]; rfl)
               case hy118_12 => (refine Or.inl ⟨by rfl, ?_⟩; intro w hSw; (try dsimp only at hSw); go_simp <;> with_reducible rfl))
            try simp only [Act.put, List.setIfInBounds_toArray, List.set_cons_zero, List.set_cons_succ]
            try simp only [Act.put, List.setIfInBounds_toArray, List.set_cons_zero, List.set_cons_succ]
            refine wpAnyH_done (by kernel_rfl) ?_ _
            refine NoPanic.normal ?_
            rw [List.nil_append, ← cellsV_app, ← cellsV_app, show 0 + 0 + 1 + 0 = 0 + 1 by omega] at hown3
            have HOUT := Lib.hid (And.intro hown3 hb10)
            clear hown3 hb10 hown2 hown1 hgrow1 hgrow2 hgrow3 hb8 hb9
            go_wp2_with fail
            go_meet
            case rel => exact ⟨row_any HOUT.out.1, HOUT.out.1, HOUT.out.2⟩
        · cases hcs
          have hMc' : (M : Int) ≤ (cb : Int) := by omega
          have hKcb : K ≤ cb := by omega
          by_cases hKe : cb = K
          · subst hKe
            obtain rfl : cb = M := by omega
            have hM1 : (moreV l).drop cb = [] := List.drop_of_length_le (by omega)
            have hl1 : (cellsV ((moreV l).take cb)).length = cb * 3 := by rw [cellsV_len]; simp [hml]
            have hl2 : (cellsV ((moreV l).drop cb)).length = 0 * 3 := by rw [hM1]; rfl
            have hS1 : ∀ W, Below Y.heap.size Y W → Src W (some ⟨g, 0, none⟩) ((moreV l).take cb) := fun W h => src_take (row_below HO8.out h) cb
            have hS2 : ∀ W, Below Y.heap.size Y W → Src W (some ⟨g, 0, none⟩) ((moreV l).drop cb) := fun W h => src_nil W _ _ hM1
            refine wp_region_noPanic ?_
            refine wp_region_held_drew (S := (fun _ => True)) (by kernel_rfl) (trivial) (fun hHeld => ?_)
            first
            | (refine wpAnyH_take (i := 0) (oi := ?o217_0) (v := undef) ?hi217_0 (by kernel_rfl) (by kernel_rfl) (by kernel_rfl) (fun _ _ _ h => h) ?hy217_0 (by assumption) ?hr217_0
               case hi217_0 => (simp only [List.getElem?_toArray, List.getElem?_cons_succ, List.getElem?_cons_zero]; rfl)
               case hy217_0 => exact Or.inr ⟨by rfl, rfl⟩)
            | (refine wpAnyH_take (i := 0) (oi := ?o217_0) (v := ?v217_0) ?hi217_0 (by kernel_rfl) (by kernel_rfl) (by kernel_rfl) (fun _ _ _ h => h) ?hy217_0 (by assumption) ?hr217_0
               case hi217_0 => (simp only [List.getElem?_toArray, List.getElem?_cons_succ, List.getElem?_cons_zero]; rfl)
               case hy217_0 => (refine Or.inl ⟨by rfl, ?_⟩; intro w hSw; (try dsimp only at hSw); go_simp <;> with_reducible rfl))
            try simp only [Act.put, List.setIfInBounds_toArray, List.set_cons_zero, List.set_cons_succ]
            first
            | (refine wpAnyH_take (i := 1) (oi := ?o217_1) (v := undef) ?hi217_1 (by kernel_rfl) (by kernel_rfl) (by kernel_rfl) (fun _ _ _ h => h) ?hy217_1 (by assumption) ?hr217_1
               case hi217_1 => (simp only [List.getElem?_toArray, List.getElem?_cons_succ, List.getElem?_cons_zero]; rfl)
               case hy217_1 => exact Or.inr ⟨by rfl, rfl⟩)
            | (refine wpAnyH_take (i := 1) (oi := ?o217_1) (v := ?v217_1) ?hi217_1 (by kernel_rfl) (by kernel_rfl) (by kernel_rfl) (fun _ _ _ h => h) ?hy217_1 (by assumption) ?hr217_1
               case hi217_1 => (simp only [List.getElem?_toArray, List.getElem?_cons_succ, List.getElem?_cons_zero]; rfl)
               case hy217_1 => (refine Or.inl ⟨by rfl, ?_⟩; intro w hSw; (try dsimp only at hSw); go_simp <;> with_reducible rfl))
            try simp only [Act.put, List.setIfInBounds_toArray, List.set_cons_zero, List.set_cons_succ]
            first
            | (refine wpAnyH_take (i := 2) (oi := ?o217_2) (v := undef) ?hi217_2 (by kernel_rfl) (by kernel_rfl) (by kernel_rfl) (fun _ _ _ h => h) ?hy217_2 (by assumption) ?hr217_2
               case hi217_2 => (simp only [List.getElem?_toArray, List.getElem?_cons_succ, List.getElem?_cons_zero]; rfl)
               case hy217_2 => exact Or.inr ⟨by rfl, rfl⟩)
            | (refine wpAnyH_take (i := 2) (oi := ?o217_2) (v := ?v217_2) ?hi217_2 (by kernel_rfl) (by kernel_rfl) (by kernel_rfl) (fun _ _ _ h => h) ?hy217_2 (by assumption) ?hr217_2
               case hi217_2 => (simp only [List.getElem?_toArray, List.getElem?_cons_succ, List.getElem?_cons_zero]; rfl)
               case hy217_2 => (refine Or.inl ⟨by rfl, ?_⟩; intro w hSw; (try dsimp only at hSw); go_simp <;> with_reducible rfl))
            try simp only [Act.put, List.setIfInBounds_toArray, List.set_cons_zero, List.set_cons_succ]
            first
            | (refine wpAnyH_take (i := 4) (oi := ?o217_4) (v := undef) ?hi217_4 (by kernel_rfl) (by kernel_rfl) (by kernel_rfl) (fun _ _ _ h => h) ?hy217_4 (by assumption) ?hr217_4
               case hi217_4 => (simp only [List.getElem?_toArray, List.getElem?_cons_succ, List.getElem?_cons_zero]; rfl)
               case hy217_4 => exact Or.inr ⟨by rfl, rfl⟩)
            | (refine wpAnyH_take (i := 4) (oi := ?o217_4) (v := ?v217_4) ?hi217_4 (by kernel_rfl) (by kernel_rfl) (by kernel_rfl) (fun _ _ _ h => h) ?hy217_4 (by assumption) ?hr217_4
               case hi217_4 => (simp only [List.getElem?_toArray, List.getElem?_cons_succ, List.getElem?_cons_zero]; rfl)
               case hy217_4 => (refine Or.inl ⟨by rfl, ?_⟩; intro w hSw; (try dsimp only at hSw); go_simp <;> with_reducible rfl))
            try simp only [Act.put, List.setIfInBounds_toArray, List.set_cons_zero, List.set_cons_succ]
            first
            | (refine wpAnyH_take (i := 5) (oi := ?o217_5) (v := undef) ?hi217_5 (by kernel_rfl) (by kernel_rfl) (by kernel_rfl) (fun _ _ _ h => h) ?hy217_5 (by assumption) ?hr217_5
               case hi217_5 => (simp only [List.getElem?_toArray, List.getElem?_cons_succ, List.getElem?_cons_zero]; rfl)
               case hy217_5 => exact Or.inr ⟨by rfl, rfl⟩)
            | (refine wpAnyH_take (i := 5) (oi := ?o217_5) (v := ?v217_5) ?hi217_5 (by kernel_rfl) (by kernel_rfl) (by kernel_rfl) (fun _ _ _ h => h) ?hy217_5 (by assumption) ?hr217_5
               case hi217_5 => (simp only [List.getElem?_toArray, List.getElem?_cons_succ, List.getElem?_cons_zero]; rfl)
               case hy217_5 => (refine Or.inl ⟨by rfl, ?_⟩; intro w hSw; (try dsimp only at hSw); go_simp <;> with_reducible rfl))
            try simp only [Act.put, List.setIfInBounds_toArray, List.set_cons_zero, List.set_cons_succ]
            first
            | (refine wpAnyH_take (i := 8) (oi := ?o217_8) (v := undef) ?hi217_8 (by kernel_rfl) (by kernel_rfl) (by kernel_rfl) (fun _ _ _ h => h) ?hy217_8 (by assumption) ?hr217_8
               case hi217_8 => (simp only [List.getElem?_toArray, List.getElem?_cons_succ, List.getElem?_cons_zero]; rfl)
               case hy217_8 => exact Or.inr ⟨by rfl, rfl⟩)
            | (refine wpAnyH_take (i := 8) (oi := ?o217_8) (v := ?v217_8) ?hi217_8 (by kernel_rfl) (by kernel_rfl) (by kernel_rfl) (fun _ _ _ h => h) ?hy217_8 (by assumption) ?hr217_8
               case hi217_8 => (simp only [List.getElem?_toArray, List.getElem?_cons_succ, List.getElem?_cons_zero]; rfl)
               case hy217_8 => (refine Or.inl ⟨by rfl, ?_⟩; intro w hSw; (try dsimp only at hSw); go_simp <;> with_reducible rfl))
            try simp only [Act.put, List.setIfInBounds_toArray, List.set_cons_zero, List.set_cons_succ]
            first
            | (refine wpAnyH_take (i := 9) (oi := ?o217_9) (v := undef) ?hi217_9 (by kernel_rfl) (by kernel_rfl) (by kernel_rfl) (fun _ _ _ h => h) ?hy217_9 (by assumption) ?hr217_9
               case hi217_9 => (simp only [List.getElem?_toArray, List.getElem?_cons_succ, List.getElem?_cons_zero]; rfl)
               case hy217_9 => exact Or.inr ⟨by rfl, rfl⟩)
            | (refine wpAnyH_take (i := 9) (oi := ?o217_9) (v := ?v217_9) ?hi217_9 (by kernel_rfl) (by kernel_rfl) (by kernel_rfl) (fun _ _ _ h => h) ?hy217_9 (by assumption) ?hr217_9
               case hi217_9 => (simp only [List.getElem?_toArray, List.getElem?_cons_succ, List.getElem?_cons_zero]; rfl)
               case hy217_9 => (refine Or.inl ⟨by rfl, ?_⟩; intro w hSw; (try dsimp only at hSw); go_simp <;> with_reducible rfl))
            try simp only [Act.put, List.setIfInBounds_toArray, List.set_cons_zero, List.set_cons_succ]
            first
            | (refine wpAnyH_take (i := 10) (oi := ?o217_10) (v := undef) ?hi217_10 (by kernel_rfl) (by kernel_rfl) (by kernel_rfl) (fun _ _ _ h => h) ?hy217_10 (by assumption) ?hr217_10
               case hi217_10 => (simp only [List.getElem?_toArray, List.getElem?_cons_succ, List.getElem?_cons_zero]; rfl)
               case hy217_10 => exact Or.inr ⟨by rfl, rfl⟩)
            | (refine wpAnyH_take (i := 10) (oi := ?o217_10) (v := ?v217_10) ?hi217_10 (by kernel_rfl) (by kernel_rfl) (by kernel_rfl) (fun _ _ _ h => h) ?hy217_10 (by assumption) ?hr217_10
               case hi217_10 => (simp only [List.getElem?_toArray, List.getElem?_cons_succ, List.getElem?_cons_zero]; rfl)
               case hy217_10 => (refine Or.inl ⟨by rfl, ?_⟩; intro w hSw; (try dsimp only at hSw); go_simp <;> with_reducible rfl))
            try simp only [Act.put, List.setIfInBounds_toArray, List.set_cons_zero, List.set_cons_succ]
            refine wpAnyH_ready (rs := [3, 6]) (by kernel_rfl) (by simp) ?_
            refine AllReadyH.cons (o := ?or218) ?hor218 (fun Kk hK => ?hkr218) (AllReadyH.cons (o := ?oq218) ?hoq218 (fun Kk hK => ?hkq218) AllReadyH.nil)
            case hor218 => (simp only [List.getElem?_toArray, List.getElem?_cons_succ, List.getElem?_cons_zero]; rfl)
            case hoq218 => (simp only [List.getElem?_toArray, List.getElem?_cons_succ, List.getElem?_cons_zero]; rfl)
            case hkr218 =>
              refine step_append_any (by rfl) _ _ 22 (by rfl) Y.heap.size 44 i0 _ 3 32 Try.underlying22 hi hz0 hz1 hz2 rfl (by decide) (.slice none 0 0) 0 [] (by rfl) (World.ownsRow_nil _ _ _ _) (some ⟨g, 0, none⟩) cb cb (cellsV ((moreV l).take cb)) (by rfl) (fun h => by cases h) hl1 (hS1 _ ((Below.refl Y.heap.size Y).drew)) (cellsV_one _) (by unfold maxLen; omega) (by omega) (by first | omega | (simp <;> omega)) ?_
              intro v1 w8 hown1 hgrow1
              have hb8 : Below Y.heap.size Y w8 := ((Below.refl Y.heap.size Y).drew).grown hgrow1 (by first | exact Nat.le_refl _ | simp) (fun k hk => by cases hk)
              refine hK.out _ _ trivial (fun _ => ?_)
              clear hK Kk
              try simp only [Act.put, List.setIfInBounds_toArray, List.set_cons_zero, List.set_cons_succ]
              refine wpAnyH_ready (rs := [6]) (by kernel_rfl) (by simp) ?_
              refine AllReadyH.cons (o := ?os219) ?hos219 (fun Kk hK => ?hks219) AllReadyH.nil
              case hos219 => (simp only [List.getElem?_toArray, List.getElem?_cons_succ, List.getElem?_cons_zero]; rfl)
              go_simp
              refine hK.out _ _ trivial (fun _ => ?_)
              clear hK Kk
              try simp only [Act.put, List.setIfInBounds_toArray, List.set_cons_zero, List.set_cons_succ]
              refine wpAnyH_ready (rs := [7]) (by kernel_rfl) (by simp) ?_
              refine AllReadyH.cons (o := ?os220) ?hos220 (fun Kk hK => ?hks220) AllReadyH.nil
              case hos220 => (simp only [List.getElem?_toArray, List.getElem?_cons_succ, List.getElem?_cons_zero]; rfl)
              refine step_append_any (by rfl) _ _ 22 (by rfl) Y.heap.size 44 i0 _ 3 32 Try.underlying22 hi hz0 hz1 hz2 rfl (by decide) v1 (0 + cb) ([] ++ cellsV ((moreV l).take cb)) (by rfl) (hown1.alloc _) (some ⟨w8.heap.size, 0, none⟩) 1 1 (cellsV [errV c]) (by rfl) (fun h => by cases h) rfl (src_box (v := errV c) (heap_alloc_new _ _)) (cellsV_one _) (by unfold maxLen; omega) (by omega) (by have := hb8.size; first | omega | (simp; omega)) ?_
              intro v2 w9 hown2 hgrow2
              have hb9 : Below Y.heap.size Y w9 := (hb8.alloc hb8.size _).grown hgrow2 (by have := hb8.size; first | omega | (simp; omega)) (fun k hk => (hown1.lt k hk).1)
              refine hK.out _ _ trivial (fun _ => ?_)
              clear hK Kk
              try simp only [Act.put, List.setIfInBounds_toArray, List.set_cons_zero, List.set_cons_succ]
              refine wpAnyH_ready (rs := [11]) (by kernel_rfl) (by simp) ?_
              refine AllReadyH.cons (o := ?os221) ?hos221 (fun Kk hK => ?hks221) AllReadyH.nil
              case hos221 => (simp only [List.getElem?_toArray, List.getElem?_cons_succ, List.getElem?_cons_zero]; rfl)
              refine step_append_any (by rfl) _ _ 22 (by rfl) Y.heap.size 44 i0 _ 3 32 Try.underlying22 hi hz0 hz1 hz2 rfl (by decide) v2 (0 + cb + 1) ([] ++ cellsV ((moreV l).take cb) ++ cellsV [errV c]) (by rfl) hown2 (some ⟨g, 0, none⟩) 0 0 (cellsV ((moreV l).drop cb)) (by rfl) (fun h => by cases h) hl2 (hS2 _ hb9) (cellsV_one _) (by unfold maxLen; omega) (by omega) (by have := hb9.size; omega) ?_
              intro v3 w10 hown3 hgrow3
              have hb10 : Below Y.heap.size Y w10 := hb9.grown hgrow3 (hb9.size) (fun k hk => (hown2.lt k hk).1)
              refine hK.out _ _ trivial (fun _ => ?_)
              clear hK Kk
              try simp only [Act.put, List.setIfInBounds_toArray, List.set_cons_zero, List.set_cons_succ]
              first
              | (refine wpAnyH_take (i := 12) (oi := ?o321_12) (v := undef) ?hi321_12 (by kernel_rfl) (by kernel_rfl) (by kernel_rfl) (fun _ _ _ h => h) ?hy321_12 (by assumption) ?hr321_12
                 case hi321_12 => (simp only [List.getElem?_toArray, List.getElem?_cons_succ, List.getElem?_cons_zero]; rfl)
                 case hy321_12 => exact Or.inr ⟨by rfl, rfl⟩)
              | (refine wpAnyH_take (i := 12) (oi := ?o321_12) (v := ?v321_12) ?hi321_12 (by kernel_rfl) (by kernel_rfl) (by kernel_rfl) (fun _ _ _ h => h) ?hy321_12 (by assumption) ?hr321_12
                 case hi321_12 => (simp only [List.getElem?_toArray, List.getElem?_cons_succ, List.getElem?_cons_zero]; rfl)
                 case hy321_12 => (refine Or.inl ⟨by rfl, ?_⟩; intro w hSw; (try dsimp only at hSw); go_simp <;> with_reducible rfl))
              try simp only [Act.put, List.setIfInBounds_toArray, List.set_cons_zero, List.set_cons_succ]
              try simp only [Act.put, List.setIfInBounds_toArray, List.set_cons_zero, List.set_cons_succ]
              refine wpAnyH_done (by kernel_rfl) ?_ _
              refine NoPanic.normal ?_
              rw [List.nil_append, ← cellsV_app, ← cellsV_app, show 0 + cb + 1 + 0 = cb + 1 by omega] at hown3
              have HOUT := Lib.hid (And.intro hown3 hb10)
              clear hown3 hb10 hown2 hown1 hgrow1 hgrow2 hgrow3 hb8 hb9
              go_wp2_with fail
              go_meet
              case rel => exact ⟨row_any HOUT.out.1, HOUT.out.1, HOUT.out.2⟩
            case hkq218 =>
              go_simp
              refine hK.out _ _ trivial (fun _ => ?_)
              clear hK Kk
              try simp only [Act.put, List.setIfInBounds_toArray, List.set_cons_zero, List.set_cons_succ]
              refine wpAnyH_ready (rs := [3]) (by kernel_rfl) (by simp) ?_
              refine AllReadyH.cons (o := ?os222) ?hos222 (fun Kk hK => ?hks222) AllReadyH.nil
              case hos222 => (simp only [List.getElem?_toArray, List.getElem?_cons_succ, List.getElem?_cons_zero]; rfl)
              refine step_append_any (by rfl) _ _ 22 (by rfl) Y.heap.size 44 i0 _ 3 32 Try.underlying22 hi hz0 hz1 hz2 rfl (by decide) (.slice none 0 0) 0 [] (by rfl) (World.ownsRow_nil _ _ _ _) (some ⟨g, 0, none⟩) cb cb (cellsV ((moreV l).take cb)) (by rfl) (fun h => by cases h) hl1 (hS1 _ (((Below.refl Y.heap.size Y).alloc (Nat.le_refl _) _).drew)) (cellsV_one _) (by unfold maxLen; omega) (by omega) (by first | omega | (simp <;> omega)) ?_
              intro v1 w8 hown1 hgrow1
              have hb8 : Below Y.heap.size Y w8 := (((Below.refl Y.heap.size Y).alloc (Nat.le_refl _) _).drew).grown hgrow1 (by first | exact Nat.le_refl _ | simp) (fun k hk => by cases hk)
              have hbox := (hgrow1.block Y.heap.size (by simp) (by simp [Value.ownBlock])).trans (heap_alloc_new Y (.cells #[.int .i64 4, .int .i64 c, .string ⟨#[]⟩] 44))
              refine hK.out _ _ trivial (fun _ => ?_)
              clear hK Kk
              try simp only [Act.put, List.setIfInBounds_toArray, List.set_cons_zero, List.set_cons_succ]
              refine wpAnyH_ready (rs := [7]) (by kernel_rfl) (by simp) ?_
              refine AllReadyH.cons (o := ?os223) ?hos223 (fun Kk hK => ?hks223) AllReadyH.nil
              case hos223 => (simp only [List.getElem?_toArray, List.getElem?_cons_succ, List.getElem?_cons_zero]; rfl)
              refine step_append_any (by rfl) _ _ 22 (by rfl) Y.heap.size 44 i0 _ 3 32 Try.underlying22 hi hz0 hz1 hz2 rfl (by decide) v1 (0 + cb) ([] ++ cellsV ((moreV l).take cb)) (by rfl) hown1 (some ⟨Y.heap.size, 0, none⟩) 1 1 (cellsV [errV c]) (by rfl) (fun h => by cases h) rfl (src_box (v := errV c) hbox) (cellsV_one _) (by unfold maxLen; omega) (by omega) (by have := hb8.size; first | omega | (simp; omega)) ?_
              intro v2 w9 hown2 hgrow2
              have hb9 : Below Y.heap.size Y w9 := hb8.grown hgrow2 (by have := hb8.size; first | omega | (simp; omega)) (fun k hk => (hown1.lt k hk).1)
              refine hK.out _ _ trivial (fun _ => ?_)
              clear hK Kk
              try simp only [Act.put, List.setIfInBounds_toArray, List.set_cons_zero, List.set_cons_succ]
              refine wpAnyH_ready (rs := [11]) (by kernel_rfl) (by simp) ?_
              refine AllReadyH.cons (o := ?os224) ?hos224 (fun Kk hK => ?hks224) AllReadyH.nil
              case hos224 => (simp only [List.getElem?_toArray, List.getElem?_cons_succ, List.getElem?_cons_zero]; rfl)
              refine step_append_any (by rfl) _ _ 22 (by rfl) Y.heap.size 44 i0 _ 3 32 Try.underlying22 hi hz0 hz1 hz2 rfl (by decide) v2 (0 + cb + 1) ([] ++ cellsV ((moreV l).take cb) ++ cellsV [errV c]) (by rfl) hown2 (some ⟨g, 0, none⟩) 0 0 (cellsV ((moreV l).drop cb)) (by rfl) (fun h => by cases h) hl2 (hS2 _ hb9) (cellsV_one _) (by unfold maxLen; omega) (by omega) (by have := hb9.size; omega) ?_
              intro v3 w10 hown3 hgrow3
              have hb10 : Below Y.heap.size Y w10 := hb9.grown hgrow3 (hb9.size) (fun k hk => (hown2.lt k hk).1)
              refine hK.out _ _ trivial (fun _ => ?_)
              clear hK Kk
              try simp only [Act.put, List.setIfInBounds_toArray, List.set_cons_zero, List.set_cons_succ]
              first
              | (refine wpAnyH_take (i := 12) (oi := ?o325_12) (v := undef) ?hi325_12 (by kernel_rfl) (by kernel_rfl) (by kernel_rfl) (fun _ _ _ h => h) ?hy325_12 (by assumption) ?hr325_12
                 case hi325_12 => (simp only [List.getElem?_toArray, List.getElem?_cons_succ, List.getElem?_cons_zero]; rfl)
                 case hy325_12 => exact Or.inr ⟨by rfl, rfl⟩)
              | (refine wpAnyH_take (i := 12) (oi := ?o325_12) (v := ?v325_12) ?hi325_12 (by kernel_rfl) (by kernel_rfl) (by kernel_rfl) (fun _ _ _ h => h) ?hy325_12 (by assumption) ?hr325_12
                 case hi325_12 => (simp only [List.getElem?_toArray, List.getElem?_cons_succ, List.getElem?_cons_zero]; rfl)
                 case hy325_12 => (refine Or.inl ⟨by rfl, ?_⟩; intro w hSw; (try dsimp only at hSw); go_simp <;> with_reducible rfl))
              try simp only [Act.put, List.setIfInBounds_toArray, List.set_cons_zero, List.set_cons_succ]
              try simp only [Act.put, List.setIfInBounds_toArray, List.set_cons_zero, List.set_cons_succ]
              refine wpAnyH_done (by kernel_rfl) ?_ _
              refine NoPanic.normal ?_
              rw [List.nil_append, ← cellsV_app, ← cellsV_app, show 0 + cb + 1 + 0 = cb + 1 by omega] at hown3
              have HOUT := Lib.hid (And.intro hown3 hb10)
              clear hown3 hb10 hown2 hown1 hgrow1 hgrow2 hgrow3 hb8 hb9
              go_wp2_with fail
              go_meet
              case rel => exact ⟨row_any HOUT.out.1, HOUT.out.1, HOUT.out.2⟩
          · have hl1 : (cellsV ((moreV l).take K)).length = K * 3 := by rw [cellsV_len]; simp [hml]; omega
            have hl2 : (cellsV ((moreV l).drop K)).length = (M - K) * 3 := by rw [cellsV_len]; simp [hml]
            have hS1 : ∀ W, Below Y.heap.size Y W → Src W (some ⟨g, 0, none⟩) ((moreV l).take K) := fun W h => src_take (row_below HO8.out h) K
            have hS2 : ∀ W, Below Y.heap.size Y W → Src W (some ⟨g, K * 3, none⟩) ((moreV l).drop K) := fun W h => src_drop (row_below HO8.out h) K (by omega)
            refine wp_region_noPanic ?_
            refine wp_region_held_drew (S := (fun _ => True)) (by kernel_rfl) (trivial) (fun hHeld => ?_)
            first
            | (refine wpAnyH_take (i := 0) (oi := ?o424_0) (v := undef) ?hi424_0 (by kernel_rfl) (by kernel_rfl) (by kernel_rfl) (fun _ _ _ h => h) ?hy424_0 (by assumption) ?hr424_0
               case hi424_0 => (simp only [List.getElem?_toArray, List.getElem?_cons_succ, List.getElem?_cons_zero]; rfl)
               case hy424_0 => exact Or.inr ⟨by rfl, rfl⟩)
            | (refine wpAnyH_take (i := 0) (oi := ?o424_0) (v := ?v424_0) ?hi424_0 (by kernel_rfl) (by kernel_rfl) (by kernel_rfl) (fun _ _ _ h => h) ?hy424_0 (by assumption) ?hr424_0
               case hi424_0 => (simp only [List.getElem?_toArray, List.getElem?_cons_succ, List.getElem?_cons_zero]; rfl)
               case hy424_0 => (refine Or.inl ⟨by rfl, ?_⟩; intro w hSw; (try dsimp only at hSw); go_simp <;> with_reducible rfl))
            try simp only [Act.put, List.setIfInBounds_toArray, List.set_cons_zero, List.set_cons_succ]
            first
            | (refine wpAnyH_take (i := 1) (oi := ?o424_1) (v := undef) ?hi424_1 (by kernel_rfl) (by kernel_rfl) (by kernel_rfl) (fun _ _ _ h => h) ?hy424_1 (by assumption) ?hr424_1
               case hi424_1 => (simp only [List.getElem?_toArray, List.getElem?_cons_succ, List.getElem?_cons_zero]; rfl)
               case hy424_1 => exact Or.inr ⟨by rfl, rfl⟩)
            | (refine wpAnyH_take (i := 1) (oi := ?o424_1) (v := ?v424_1) ?hi424_1 (by kernel_rfl) (by kernel_rfl) (by kernel_rfl) (fun _ _ _ h => h) ?hy424_1 (by assumption) ?hr424_1
               case hi424_1 => (simp only [List.getElem?_toArray, List.getElem?_cons_succ, List.getElem?_cons_zero]; rfl)
               case hy424_1 => (refine Or.inl ⟨by rfl, ?_⟩; intro w hSw; (try dsimp only at hSw); go_simp <;> with_reducible rfl))
            try simp only [Act.put, List.setIfInBounds_toArray, List.set_cons_zero, List.set_cons_succ]
            first
            | (refine wpAnyH_take (i := 2) (oi := ?o424_2) (v := undef) ?hi424_2 (by kernel_rfl) (by kernel_rfl) (by kernel_rfl) (fun _ _ _ h => h) ?hy424_2 (by assumption) ?hr424_2
               case hi424_2 => (simp only [List.getElem?_toArray, List.getElem?_cons_succ, List.getElem?_cons_zero]; rfl)
               case hy424_2 => exact Or.inr ⟨by rfl, rfl⟩)
            | (refine wpAnyH_take (i := 2) (oi := ?o424_2) (v := ?v424_2) ?hi424_2 (by kernel_rfl) (by kernel_rfl) (by kernel_rfl) (fun _ _ _ h => h) ?hy424_2 (by assumption) ?hr424_2
               case hi424_2 => (simp only [List.getElem?_toArray, List.getElem?_cons_succ, List.getElem?_cons_zero]; rfl)
               case hy424_2 => (refine Or.inl ⟨by rfl, ?_⟩; intro w hSw; (try dsimp only at hSw); go_simp <;> with_reducible rfl))
            try simp only [Act.put, List.setIfInBounds_toArray, List.set_cons_zero, List.set_cons_succ]
            first
            | (refine wpAnyH_take (i := 4) (oi := ?o424_4) (v := undef) ?hi424_4 (by kernel_rfl) (by kernel_rfl) (by kernel_rfl) (fun _ _ _ h => h) ?hy424_4 (by assumption) ?hr424_4
               case hi424_4 => (simp only [List.getElem?_toArray, List.getElem?_cons_succ, List.getElem?_cons_zero]; rfl)
               case hy424_4 => exact Or.inr ⟨by rfl, rfl⟩)
            | (refine wpAnyH_take (i := 4) (oi := ?o424_4) (v := ?v424_4) ?hi424_4 (by kernel_rfl) (by kernel_rfl) (by kernel_rfl) (fun _ _ _ h => h) ?hy424_4 (by assumption) ?hr424_4
               case hi424_4 => (simp only [List.getElem?_toArray, List.getElem?_cons_succ, List.getElem?_cons_zero]; rfl)
               case hy424_4 => (refine Or.inl ⟨by rfl, ?_⟩; intro w hSw; (try dsimp only at hSw); go_simp <;> with_reducible rfl))
            try simp only [Act.put, List.setIfInBounds_toArray, List.set_cons_zero, List.set_cons_succ]
            first
            | (refine wpAnyH_take (i := 5) (oi := ?o424_5) (v := undef) ?hi424_5 (by kernel_rfl) (by kernel_rfl) (by kernel_rfl) (fun _ _ _ h => h) ?hy424_5 (by assumption) ?hr424_5
               case hi424_5 => (simp only [List.getElem?_toArray, List.getElem?_cons_succ, List.getElem?_cons_zero]; rfl)
               case hy424_5 => exact Or.inr ⟨by rfl, rfl⟩)
            | (refine wpAnyH_take (i := 5) (oi := ?o424_5) (v := ?v424_5) ?hi424_5 (by kernel_rfl) (by kernel_rfl) (by kernel_rfl) (fun _ _ _ h => h) ?hy424_5 (by assumption) ?hr424_5
               case hi424_5 => (simp only [List.getElem?_toArray, List.getElem?_cons_succ, List.getElem?_cons_zero]; rfl)
               case hy424_5 => (refine Or.inl ⟨by rfl, ?_⟩; intro w hSw; (try dsimp only at hSw); go_simp <;> with_reducible rfl))
            try simp only [Act.put, List.setIfInBounds_toArray, List.set_cons_zero, List.set_cons_succ]
            first
            | (refine wpAnyH_take (i := 8) (oi := ?o424_8) (v := undef) ?hi424_8 (by kernel_rfl) (by kernel_rfl) (by kernel_rfl) (fun _ _ _ h => h) ?hy424_8 (by assumption) ?hr424_8
               case hi424_8 => (simp only [List.getElem?_toArray, List.getElem?_cons_succ, List.getElem?_cons_zero]; rfl)
               case hy424_8 => exact Or.inr ⟨by rfl, rfl⟩)
            | (refine wpAnyH_take (i := 8) (oi := ?o424_8) (v := ?v424_8) ?hi424_8 (by kernel_rfl) (by kernel_rfl) (by kernel_rfl) (fun _ _ _ h => h) ?hy424_8 (by assumption) ?hr424_8
               case hi424_8 => (simp only [List.getElem?_toArray, List.getElem?_cons_succ, List.getElem?_cons_zero]; rfl)
               case hy424_8 => (refine Or.inl ⟨by rfl, ?_⟩; intro w hSw; (try dsimp only at hSw); go_simp <;> with_reducible rfl))
            try simp only [Act.put, List.setIfInBounds_toArray, List.set_cons_zero, List.set_cons_succ]
            first
            | (refine wpAnyH_take (i := 9) (oi := ?o424_9) (v := undef) ?hi424_9 (by kernel_rfl) (by kernel_rfl) (by kernel_rfl) (fun _ _ _ h => h) ?hy424_9 (by assumption) ?hr424_9
               case hi424_9 => (simp only [List.getElem?_toArray, List.getElem?_cons_succ, List.getElem?_cons_zero]; rfl)
               case hy424_9 => exact Or.inr ⟨by rfl, rfl⟩)
            | (refine wpAnyH_take (i := 9) (oi := ?o424_9) (v := ?v424_9) ?hi424_9 (by kernel_rfl) (by kernel_rfl) (by kernel_rfl) (fun _ _ _ h => h) ?hy424_9 (by assumption) ?hr424_9
               case hi424_9 => (simp only [List.getElem?_toArray, List.getElem?_cons_succ, List.getElem?_cons_zero]; rfl)
               case hy424_9 => (refine Or.inl ⟨by rfl, ?_⟩; intro w hSw; (try dsimp only at hSw); go_simp <;> with_reducible rfl))
            try simp only [Act.put, List.setIfInBounds_toArray, List.set_cons_zero, List.set_cons_succ]
            first
            | (refine wpAnyH_take (i := 10) (oi := ?o424_10) (v := undef) ?hi424_10 (by kernel_rfl) (by kernel_rfl) (by kernel_rfl) (fun _ _ _ h => h) ?hy424_10 (by assumption) ?hr424_10
               case hi424_10 => (simp only [List.getElem?_toArray, List.getElem?_cons_succ, List.getElem?_cons_zero]; rfl)
               case hy424_10 => exact Or.inr ⟨by rfl, rfl⟩)
            | (refine wpAnyH_take (i := 10) (oi := ?o424_10) (v := ?v424_10) ?hi424_10 (by kernel_rfl) (by kernel_rfl) (by kernel_rfl) (fun _ _ _ h => h) ?hy424_10 (by assumption) ?hr424_10
               case hi424_10 => (simp only [List.getElem?_toArray, List.getElem?_cons_succ, List.getElem?_cons_zero]; rfl)
               case hy424_10 => (refine Or.inl ⟨by rfl, ?_⟩; intro w hSw; (try dsimp only at hSw); go_simp <;> with_reducible rfl))
            try simp only [Act.put, List.setIfInBounds_toArray, List.set_cons_zero, List.set_cons_succ]
            refine wpAnyH_ready (rs := [3, 6]) (by kernel_rfl) (by simp) ?_
            refine AllReadyH.cons (o := ?or425) ?hor425 (fun Kk hK => ?hkr425) (AllReadyH.cons (o := ?oq425) ?hoq425 (fun Kk hK => ?hkq425) AllReadyH.nil)
            case hor425 => (simp only [List.getElem?_toArray, List.getElem?_cons_succ, List.getElem?_cons_zero]; rfl)
            case hoq425 => (simp only [List.getElem?_toArray, List.getElem?_cons_succ, List.getElem?_cons_zero]; rfl)
            case hkr425 =>
              refine step_append_any (by rfl) _ _ 22 (by rfl) Y.heap.size 44 i0 _ 3 32 Try.underlying22 hi hz0 hz1 hz2 rfl (by decide) (.slice none 0 0) 0 [] (by rfl) (World.ownsRow_nil _ _ _ _) (some ⟨g, 0, none⟩) K cb (cellsV ((moreV l).take K)) (by rfl) (fun h => by cases h) hl1 (hS1 _ ((Below.refl Y.heap.size Y).drew)) (cellsV_one _) (by unfold maxLen; omega) (by omega) (by first | omega | (simp <;> omega)) ?_
              intro v1 w8 hown1 hgrow1
              have hb8 : Below Y.heap.size Y w8 := ((Below.refl Y.heap.size Y).drew).grown hgrow1 (by first | exact Nat.le_refl _ | simp) (fun k hk => by cases hk)
              refine hK.out _ _ trivial (fun _ => ?_)
              clear hK Kk
              try simp only [Act.put, List.setIfInBounds_toArray, List.set_cons_zero, List.set_cons_succ]
              refine wpAnyH_ready (rs := [6]) (by kernel_rfl) (by simp) ?_
              refine AllReadyH.cons (o := ?os426) ?hos426 (fun Kk hK => ?hks426) AllReadyH.nil
              case hos426 => (simp only [List.getElem?_toArray, List.getElem?_cons_succ, List.getElem?_cons_zero]; rfl)
              go_simp
              refine hK.out _ _ trivial (fun _ => ?_)
              clear hK Kk
              try simp only [Act.put, List.setIfInBounds_toArray, List.set_cons_zero, List.set_cons_succ]
              refine wpAnyH_ready (rs := [7]) (by kernel_rfl) (by simp) ?_
              refine AllReadyH.cons (o := ?os427) ?hos427 (fun Kk hK => ?hks427) AllReadyH.nil
              case hos427 => (simp only [List.getElem?_toArray, List.getElem?_cons_succ, List.getElem?_cons_zero]; rfl)
              refine step_append_any (by rfl) _ _ 22 (by rfl) Y.heap.size 44 i0 _ 3 32 Try.underlying22 hi hz0 hz1 hz2 rfl (by decide) v1 (0 + K) ([] ++ cellsV ((moreV l).take K)) (by rfl) (hown1.alloc _) (some ⟨w8.heap.size, 0, none⟩) 1 1 (cellsV [errV c]) (by rfl) (fun h => by cases h) rfl (src_box (v := errV c) (heap_alloc_new _ _)) (cellsV_one _) (by unfold maxLen; omega) (by omega) (by have := hb8.size; first | omega | (simp; omega)) ?_
              intro v2 w9 hown2 hgrow2
              have hb9 : Below Y.heap.size Y w9 := (hb8.alloc hb8.size _).grown hgrow2 (by have := hb8.size; first | omega | (simp; omega)) (fun k hk => (hown1.lt k hk).1)
              refine hK.out _ _ trivial (fun _ => ?_)
              clear hK Kk
              try simp only [Act.put, List.setIfInBounds_toArray, List.set_cons_zero, List.set_cons_succ]
              refine wpAnyH_ready (rs := [11]) (by kernel_rfl) (by simp) ?_
              refine AllReadyH.cons (o := ?os428) ?hos428 (fun Kk hK => ?hks428) AllReadyH.nil
              case hos428 => (simp only [List.getElem?_toArray, List.getElem?_cons_succ, List.getElem?_cons_zero]; rfl)
              refine step_append_any (by rfl) _ _ 22 (by rfl) Y.heap.size 44 i0 _ 3 32 Try.underlying22 hi hz0 hz1 hz2 rfl (by decide) v2 (0 + K + 1) ([] ++ cellsV ((moreV l).take K) ++ cellsV [errV c]) (by rfl) hown2 (some ⟨g, K * 3, none⟩) (M - K) (cb - K) (cellsV ((moreV l).drop K)) (by rfl) (fun h => by cases h) hl2 (hS2 _ hb9) (cellsV_one _) (by unfold maxLen; omega) (by omega) (by have := hb9.size; omega) ?_
              intro v3 w10 hown3 hgrow3
              have hb10 : Below Y.heap.size Y w10 := hb9.grown hgrow3 (hb9.size) (fun k hk => (hown2.lt k hk).1)
              refine hK.out _ _ trivial (fun _ => ?_)
              clear hK Kk
              try simp only [Act.put, List.setIfInBounds_toArray, List.set_cons_zero, List.set_cons_succ]
              first
              | (refine wpAnyH_take (i := 12) (oi := ?o528_12) (v := undef) ?hi528_12 (by kernel_rfl) (by kernel_rfl) (by kernel_rfl) (fun _ _ _ h => h) ?hy528_12 (by assumption) ?hr528_12
                 case hi528_12 => (simp only [List.getElem?_toArray, List.getElem?_cons_succ, List.getElem?_cons_zero]; rfl)
                 case hy528_12 => exact Or.inr ⟨by rfl, rfl⟩)
              | (refine wpAnyH_take (i := 12) (oi := ?o528_12) (v := ?v528_12) ?hi528_12 (by kernel_rfl) (by kernel_rfl) (by kernel_rfl) (fun _ _ _ h => h) ?hy528_12 (by assumption) ?hr528_12
                 case hi528_12 => (simp only [List.getElem?_toArray, List.getElem?_cons_succ, List.getElem?_cons_zero]; rfl)
                 case hy528_12 => (refine Or.inl ⟨by rfl, ?_⟩; intro w hSw; (try dsimp only at hSw); go_simp <;> with_reducible rfl))
              try simp only [Act.put, List.setIfInBounds_toArray, List.set_cons_zero, List.set_cons_succ]
              try simp only [Act.put, List.setIfInBounds_toArray, List.set_cons_zero, List.set_cons_succ]
              refine wpAnyH_done (by kernel_rfl) ?_ _
              refine NoPanic.normal ?_
              rw [List.nil_append, ← cellsV_app, ← cellsV_app, show 0 + K + 1 + (M - K) = M + 1 by omega] at hown3
              have HOUT := Lib.hid (And.intro hown3 hb10)
              clear hown3 hb10 hown2 hown1 hgrow1 hgrow2 hgrow3 hb8 hb9
              go_wp2_with fail
              go_meet
              case rel => exact ⟨row_any HOUT.out.1, HOUT.out.1, HOUT.out.2⟩
            case hkq425 =>
              go_simp
              refine hK.out _ _ trivial (fun _ => ?_)
              clear hK Kk
              try simp only [Act.put, List.setIfInBounds_toArray, List.set_cons_zero, List.set_cons_succ]
              refine wpAnyH_ready (rs := [3]) (by kernel_rfl) (by simp) ?_
              refine AllReadyH.cons (o := ?os429) ?hos429 (fun Kk hK => ?hks429) AllReadyH.nil
              case hos429 => (simp only [List.getElem?_toArray, List.getElem?_cons_succ, List.getElem?_cons_zero]; rfl)
              refine step_append_any (by rfl) _ _ 22 (by rfl) Y.heap.size 44 i0 _ 3 32 Try.underlying22 hi hz0 hz1 hz2 rfl (by decide) (.slice none 0 0) 0 [] (by rfl) (World.ownsRow_nil _ _ _ _) (some ⟨g, 0, none⟩) K cb (cellsV ((moreV l).take K)) (by rfl) (fun h => by cases h) hl1 (hS1 _ (((Below.refl Y.heap.size Y).alloc (Nat.le_refl _) _).drew)) (cellsV_one _) (by unfold maxLen; omega) (by omega) (by first | omega | (simp <;> omega)) ?_
              intro v1 w8 hown1 hgrow1
              have hb8 : Below Y.heap.size Y w8 := (((Below.refl Y.heap.size Y).alloc (Nat.le_refl _) _).drew).grown hgrow1 (by first | exact Nat.le_refl _ | simp) (fun k hk => by cases hk)
              have hbox := (hgrow1.block Y.heap.size (by simp) (by simp [Value.ownBlock])).trans (heap_alloc_new Y (.cells #[.int .i64 4, .int .i64 c, .string ⟨#[]⟩] 44))
              refine hK.out _ _ trivial (fun _ => ?_)
              clear hK Kk
              try simp only [Act.put, List.setIfInBounds_toArray, List.set_cons_zero, List.set_cons_succ]
              refine wpAnyH_ready (rs := [7]) (by kernel_rfl) (by simp) ?_
              refine AllReadyH.cons (o := ?os430) ?hos430 (fun Kk hK => ?hks430) AllReadyH.nil
              case hos430 => (simp only [List.getElem?_toArray, List.getElem?_cons_succ, List.getElem?_cons_zero]; rfl)
              refine step_append_any (by rfl) _ _ 22 (by rfl) Y.heap.size 44 i0 _ 3 32 Try.underlying22 hi hz0 hz1 hz2 rfl (by decide) v1 (0 + K) ([] ++ cellsV ((moreV l).take K)) (by rfl) hown1 (some ⟨Y.heap.size, 0, none⟩) 1 1 (cellsV [errV c]) (by rfl) (fun h => by cases h) rfl (src_box (v := errV c) hbox) (cellsV_one _) (by unfold maxLen; omega) (by omega) (by have := hb8.size; first | omega | (simp; omega)) ?_
              intro v2 w9 hown2 hgrow2
              have hb9 : Below Y.heap.size Y w9 := hb8.grown hgrow2 (by have := hb8.size; first | omega | (simp; omega)) (fun k hk => (hown1.lt k hk).1)
              refine hK.out _ _ trivial (fun _ => ?_)
              clear hK Kk
              try simp only [Act.put, List.setIfInBounds_toArray, List.set_cons_zero, List.set_cons_succ]
              refine wpAnyH_ready (rs := [11]) (by kernel_rfl) (by simp) ?_
              refine AllReadyH.cons (o := ?os431) ?hos431 (fun Kk hK => ?hks431) AllReadyH.nil
              case hos431 => (simp only [List.getElem?_toArray, List.getElem?_cons_succ, List.getElem?_cons_zero]; rfl)
              refine step_append_any (by rfl) _ _ 22 (by rfl) Y.heap.size 44 i0 _ 3 32 Try.underlying22 hi hz0 hz1 hz2 rfl (by decide) v2 (0 + K + 1) ([] ++ cellsV ((moreV l).take K) ++ cellsV [errV c]) (by rfl) hown2 (some ⟨g, K * 3, none⟩) (M - K) (cb - K) (cellsV ((moreV l).drop K)) (by rfl) (fun h => by cases h) hl2 (hS2 _ hb9) (cellsV_one _) (by unfold maxLen; omega) (by omega) (by have := hb9.size; omega) ?_
              intro v3 w10 hown3 hgrow3
              have hb10 : Below Y.heap.size Y w10 := hb9.grown hgrow3 (hb9.size) (fun k hk => (hown2.lt k hk).1)
              refine hK.out _ _ trivial (fun _ => ?_)
              clear hK Kk
              try simp only [Act.put, List.setIfInBounds_toArray, List.set_cons_zero, List.set_cons_succ]
              first
              | (refine wpAnyH_take (i := 12) (oi := ?o532_12) (v := undef) ?hi532_12 (by kernel_rfl) (by kernel_rfl) (by kernel_rfl) (fun _ _ _ h => h) ?hy532_12 (by assumption) ?hr532_12
                 case hi532_12 => (simp only [List.getElem?_toArray, List.getElem?_cons_succ, List.getElem?_cons_zero]; rfl)
                 case hy532_12 => exact Or.inr ⟨by rfl, rfl⟩)
              | (refine wpAnyH_take (i := 12) (oi := ?o532_12) (v := ?v532_12) ?hi532_12 (by kernel_rfl) (by kernel_rfl) (by kernel_rfl) (fun _ _ _ h => h) ?hy532_12 (by assumption) ?hr532_12
                 case hi532_12 => (simp only [List.getElem?_toArray, List.getElem?_cons_succ, List.getElem?_cons_zero]; rfl)
                 case hy532_12 => (refine Or.inl ⟨by rfl, ?_⟩; intro w hSw; (try dsimp only at hSw); go_simp <;> with_reducible rfl))
              try simp only [Act.put, List.setIfInBounds_toArray, List.set_cons_zero, List.set_cons_succ]
              try simp only [Act.put, List.setIfInBounds_toArray, List.set_cons_zero, List.set_cons_succ]
              refine wpAnyH_done (by kernel_rfl) ?_ _
              refine NoPanic.normal ?_
              rw [List.nil_append, ← cellsV_app, ← cellsV_app, show 0 + K + 1 + (M - K) = M + 1 by omega] at hown3
              have HOUT := Lib.hid (And.intro hown3 hb10)
              clear hown3 hb10 hown2 hown1 hgrow1 hgrow2 hgrow3 hb8 hb9
              go_wp2_with fail
              go_meet
              case rel => exact ⟨row_any HOUT.out.1, HOUT.out.1, HOUT.out.2⟩
      case rest =>
        obtain ⟨⟨a3, cp3, rfl⟩, hown3, hb10⟩ := hcut
        have HB10 := Lib.hid (HB8.out.trans (hb10.mono HB8.out.size))
        replace r1 := hb10.row r1 (by omega)
        replace r2 := hb10.row r2 hU
        have hY10 : Y.heap.size ≤ wc.heap.size := hb10.size
        clear hb10
        go_wp2_with (at_builtin; refine wpList_append_own _ rfl _ _ 22 rfl Y.heap.size 44 i0 _ 3 32 Try.underlying22 hi hz0 hz1 hz2 rfl (by decide) _ _ _ rfl (hown3.alloc _) ⟨wc.heap.size, 0, none⟩ 1 1 (cellsV [errV (wrap64 (c.tmod 6 + 1))]) rfl rfl (src_box (v := errV (wrap64 (c.tmod 6 + 1))) (heap_alloc_new _ _) _ rfl) (cellsV_one _) (by unfold maxLen; omega) (by omega) (by simp; omega) ?_)
        intro v4 w11 hown4 hgrow4 _
        rw [← cellsV_app] at hown4
        replace hown4 : w11.ownsRow Y.heap.size 44 3 v4 (M + 1 + 1) (cellsV ((moreV l).take K ++ [errV c] ++ (moreV l).drop K ++ [errV (wrap64 (c.tmod 6 + 1))])) := by simpa using hown4
        have hb11 : Below Y.heap.size wc w11 := ((Below.refl _ _).alloc hY10 _).grown hgrow4 (by simp; omega) (fun k hk => (hown3.lt k hk).1)
        obtain ⟨d, hd, ed⟩ : ∃ d, (1 ≤ d ∧ d ≤ 6) ∧ wrap64 (c.tmod 6 + 1) = d := by
          have h0 := HC.out
          rw [Int.tmod_eq_emod_of_nonneg (by omega)]
          refine ⟨c % 6 + 1, by omega, ?_⟩
          unfold wrap64
          omega
        rw [ed] at hown4 ⊢
        replace r1 := hb11.row r1 (by omega)
        replace r2 := hb11.row r2 (by omega)
        have HB11 := Lib.hid (HB10.out.trans (hb11.mono (by have := HB8.out.size; omega)))
        have hU11 : U < w11.heap.size := (Array.getElem?_eq_some_iff.1 r2).1
        have hfits : ∀ v ∈ (moreV l).take K ++ [errV c] ++ (moreV l).drop K ++ [errV d], v.fits := by
          intro v hv
          rw [List.mem_append, List.mem_append, List.mem_append] at hv
          rcases hv with ((hv | hv) | hv) | hv
          · exact more_fits HLL.out v (List.mem_of_mem_take hv)
          · rw [List.mem_singleton] at hv; subst hv; exact err_fits (by have := HC.out; omega)
          · exact more_fits HLL.out v (List.mem_of_mem_drop hv)
          · rw [List.mem_singleton] at hv; subst hv; exact err_fits (by omega)
        have OFB := fun W h => of_row Y.heap.size (M + 1 + 1) v4 _ W h (by simp [hml]; omega) (by omega) hfits
        rw [of_bad l K c d HC.out] at OFB
        have HOFB := Lib.hid OFB
        have HO4 := Lib.hid hown4
        clear hgrow4 hown4 hown3 hb11 hfits OFB hd
        obtain ⟨a4, cp4, hv4⟩ := row_any HO4.out
        subst hv4
        go_wp2_with fail
        refine (HOFB.out _ HO4.out).mono ?_
        rintro e w12 ⟨rfl, hb12⟩
        have HB12 := Lib.hid (HB11.out.trans (hb12.mono HB11.out.size))
        replace r1 := hb12.row r1 (by omega)
        replace r2 := hb12.row r2 (by omega)
        have hU12 : U < w12.heap.size := Nat.lt_of_lt_of_le hU11 hb12.size
        clear hb12 HOFB
        simp only [trendT]
        have HBb := (Below.refl w12.heap.size w12).alloc (Nat.le_refl _) (.cells #[.int .i64 0, .float .f64 0, .float .f64 0, .float .f64 0, .float .f64 0] 27)
        have r3 := heap_alloc_new w12 (.cells #[.int .i64 0, .float .f64 0, .float .f64 0, .float .f64 0, .float .f64 0] 27)
        replace r1 := HBb.row r1 (by omega)
        replace r2 := HBb.row r2 hU12
        have HB13 := Lib.hid (HB12.out.trans (HBb.mono HB12.out.size))
        obtain ⟨f0, f1, f2, f3, f4⟩ := cells5 r1
        obtain ⟨g0, g1, g2, g3, g4⟩ := cells5 r2
        obtain ⟨z0, z1, z2, z3, z4⟩ := cells5 r3
        have p0 : (FloatKind.f64.format.order 0 0 == some .eq) = true := by decide +kernel
        clear r1 r2 r3 HBb
        go_wp2_with fail
        go_ret
        exact ⟨rfl, HB13.out⟩

theorem wf8 {n : Int} (h : (Lit.int .u8 n).wf = true) : 0 ≤ n ∧ n ≤ 255 := by
  simpa [Lit.wf, IntKind.min, IntKind.max, IntKind.signed, IntKind.bits] using h
end Go.Proofs.Ytcgkolaljgpphaa
