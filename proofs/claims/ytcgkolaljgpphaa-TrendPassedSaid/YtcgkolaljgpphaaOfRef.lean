/- quadrilleref32.Of answers ofV. -/
import Derived.Test.YtcgkolaljgpphaaOf
namespace Go.Proofs.Ytcgkolaljgpphaa
set_option linter.unusedVariables false
set_option linter.unusedSimpArgs false
open Go.RowKit

attribute [local go_sem] run_store_float'

theorem wrong_no {k n : Int} {s : ByteArray} (h : wrongV k n s = 0) : k ≠ 4 ∨ n < 1 ∨ 6 < n ∨ s.toList.isEmpty = false := by
  unfold wrongV at h
  split at h
  · omega
  · rename_i hc
    by_cases h1 : k = 4
    · by_cases h2 : n < 1
      · exact .inr (.inl h2)
      · by_cases h3 : 6 < n
        · exact .inr (.inr (.inl h3))
        · refine .inr (.inr (.inr ?_))
          cases he : s.toList.isEmpty
          · rfl
          · exact absurd ⟨h1, by omega, by omega, he⟩ hc
    · exact .inl h1
theorem wrong_yes {k n : Int} {s : ByteArray} (h : ¬ wrongV k n s = 0) : k = 4 ∧ 1 ≤ n ∧ n ≤ 6 ∧ s.toList.isEmpty = true ∧ wrongV k n s = n := by
  unfold wrongV at h ⊢
  split at h
  · rename_i hc
    exact ⟨hc.1, hc.2.1, hc.2.2.1, hc.2.2.2, by rw [if_pos hc]⟩
  · exact absurd rfl h

set_option maxRecDepth 100000 in
set_option maxHeartbeats 1000000 in
theorem of12 (A : Option Addr) (C : Nat) (vs : List Val) (w : World) (hv : ValsAt w A vs) (hf : ∀ v ∈ vs, v.fits) (hl : vs.length ≤ 8000) :
    Calls Try.prog 12 #[.slice A vs.length C] w fun e w' => e = .returned (ofV vs) ∧ Below w.heap.size w w' := by
  obtain ⟨i0, hi, hz0, hz1, hz2⟩ := info_parts info25
  have HV := Lib.hid hv
  have HF := Lib.hid hf
  clear hv hf
  go_enter Try.func12, Try.ntmps12
  go_wp2_with fail
  have r0 := heap_alloc_new w (.cells #[.int .i64 0, .float .f64 0, .float .f64 0, .float .f64 0, .float .f64 0] 27)
  have hB0 := (Below.refl w.heap.size w).alloc (Nat.le_refl _) (.cells #[.int .i64 0, .float .f64 0, .float .f64 0, .float .f64 0, .float .f64 0] 27)
  obtain ⟨W0, hW0⟩ : ∃ W0, w.alloc (.cells #[.int .i64 0, .float .f64 0, .float .f64 0, .float .f64 0, .float .f64 0] 27) = W0 := ⟨_, rfl⟩
  have hs0 : W0.heap.size = w.heap.size + 1 := by rw [← hW0]; simp
  rw [hW0] at r0 hB0 ⊢
  clear hW0
  have HB0 := Lib.hid hB0
  have R0 := Lib.hid r0
  clear r0 hB0
  go_loopw [4, 5] (fun v i wr => ∃ k : Nat, k ≤ vs.length ∧ i = .int .i64 k ∧ wr.ownsRow (w.heap.size + 1) 25 1 v (numsV (vs.take k)).length (f64s (numsV (vs.take k))) ∧ scan (vs.take k) = 0 ∧ Below (w.heap.size + 1) W0 wr) (fun _ i _ => vs.length - (intOf i).toNat)
  case atStart => exact ⟨0, Nat.zero_le _, rfl, World.ownsRow_nil _ _ _ _, rfl, Below.refl _ _⟩
  case round =>
    obtain ⟨k, hk, rfl, hown, hsc, hb⟩ := hrel
    obtain ⟨ao, cap, rfl⟩ := row_any hown
    have HSC := Lib.hid hsc
    clear hsc
    by_cases hlt : k < vs.length
    · have hbw : Below w.heap.size w wr := HB0.out.trans (hb.mono (by omega))
      obtain ⟨b, off, kk, n, s, rfl, hbl, hget, hc0, hc1, hc2, hn, hs⟩ := (HV.out.below hbw).get HF.out hlt
      have HS : Hid (s.size ≤ maxLen) := by simp only [Hid]; unfold maxLen; omega
      have HBW := Lib.hid hbw
      have HGET := Lib.hid hget
      have HN := Lib.hid hn
      have hsz : w.heap.size + 1 ≤ wr.heap.size := by have := hb.size; omega
      clear hbw hget hs hn
      have r1 := hb.row R0.out (by omega)
      by_cases hw : wrongV kk n s = 0
      · have hsc' : scan (vs.take (k + 1)) = 0 := by
          rw [take_snoc hlt, scan_app, HSC.out, HGET.out]
          simp [scan, hw]
        have HSC' := Lib.hid hsc'
        have hwn := wrong_no hw
        clear hsc' r1
        have e0 : numB kk s = false → numsV (vs.take (k + 1)) = numsV (vs.take k) := fun hnb => by
          rw [take_snoc hlt, numsV_app, HGET.out]
          simp [numsV, hnb]
        have e1 : numB kk s = true → numsV (vs.take (k + 1)) = numsV (vs.take k) ++ [floatOfInt .f64 n] := fun hnb => by
          rw [take_snoc hlt, numsV_app, HGET.out]
          simp [numsV, hnb]
        clear hw
        by_cases hk1 : kk = 1
        · subst hk1
          clear hwn
          cases hse : s.toList.isEmpty
          · have HE := Lib.hid (e0 (by simp [numB, hse]))
            have HREL := Lib.hid (And.intro hown hb)
            clear e0 e1 hown hb
            go_wp2_with fail
            go_roundw
            case rel => exact ⟨k + 1, by omega, by go_num, by rw [HE.out]; exact HREL.out.1, HSC'.out, HREL.out.2⟩
            case measure => simp [intOf]; omega
          · have HE := Lib.hid (e1 (by simp [numB, hse]))
            clear e0 e1
            have hcnt : (numsV (vs.take k)).length ≤ k := Nat.le_trans (numsV_len _) (by simp; omega)
            have hk8 : (numsV (vs.take k)).length + 1 ≤ 8001 := by omega
            clear hcnt
            generalize numsV (vs.take k) = xs at hown hk8 HE ⊢
            go_wp2_with (at_builtin; refine wpList_append_own _ rfl _ _ 47 rfl (w.heap.size + 1) 25 i0 (.float .f64 0) 1 8 Try.underlying47 hi hz0 hz1 hz2 rfl (by decide) _ _ _ rfl (hown.alloc _) ⟨wr.heap.size, 0, none⟩ 1 1 [_] rfl rfl (cell_one_new _ _ _) ?c2 ?c3 ?c4 ?c5 ?_)
            case c2 => intro u hu; simp at hu; subst hu; rfl
            case c3 => unfold maxLen; omega
            case c4 => omega
            case c5 => simp; omega
            intro v' wx hown' hgrow _
            rw [f64s_snoc, ← HE.out] at hown'
            have hb' : Below (w.heap.size + 1) W0 wx := (hb.alloc (by omega) _).grown hgrow (by simp; omega) (fun k hk => (hown.lt k hk).1)
            have hlen : (numsV (vs.take (k + 1))).length = xs.length + 1 := by rw [HE.out]; simp
            have HL := Lib.hid hlen
            have hv' : ∃ ao' cap', v' = .slice ao' (xs.length + 1) cap' := row_any hown'
            obtain ⟨ao', cap', rfl⟩ := hv'
            have HO := Lib.hid hown'
            have HB' := Lib.hid hb'
            clear hown' hown hb hgrow hb' hlen
            go_wp2
            go_roundw
            case rel => exact ⟨k + 1, by omega, by go_num, by rw [HL.out]; exact HO.out, HSC'.out, HB'.out⟩
            case measure => simp [intOf]; omega
        · have HE := Lib.hid (e0 (by simp [numB, hk1]))
          have HREL := Lib.hid (And.intro hown hb)
          clear e0 e1 hown hb
          by_cases hk4 : kk = 4
          · subst hk4
            clear hk1
            by_cases hn1 : n < 1
            · have hn1' : ¬ 1 ≤ n := by omega
              clear hwn
              go_wp2_with fail
              go_roundw
              case rel => exact ⟨k + 1, by omega, by go_num, by rw [HE.out]; exact HREL.out.1, HSC'.out, HREL.out.2⟩
              case measure => simp [intOf]; omega
            · have hn1' : 1 ≤ n := by omega
              by_cases hn6 : 6 < n
              · have hn6' : ¬ n ≤ 6 := by omega
                clear hwn
                go_wp2_with fail
                go_roundw
                case rel => exact ⟨k + 1, by omega, by go_num, by rw [HE.out]; exact HREL.out.1, HSC'.out, HREL.out.2⟩
                case measure => simp [intOf]; omega
              · have hn6' : n ≤ 6 := by omega
                have hse : s.toList.isEmpty = false := by
                  rcases hwn with h | h | h | h
                  · exact absurd rfl h
                  · omega
                  · omega
                  · exact h
                clear hwn
                go_wp2_with fail
                go_roundw
                case rel => exact ⟨k + 1, by omega, by go_num, by rw [HE.out]; exact HREL.out.1, HSC'.out, HREL.out.2⟩
                case measure => simp [intOf]; omega
          · clear hwn
            go_wp2_with fail
            go_roundw
            case rel => exact ⟨k + 1, by omega, by go_num, by rw [HE.out]; exact HREL.out.1, HSC'.out, HREL.out.2⟩
            case measure => simp [intOf]; omega
      · obtain ⟨rfl, h1, h6, hse, hwv⟩ := wrong_yes hw
        have HW : Hid (ofV vs = .tuple #[trendT 0 0 0 0 0, .int .i64 n]) := by
          have e : scan vs = n := by
            rw [← List.take_append_drop (k + 1) vs, scan_app, take_snoc hlt, scan_app, HSC.out, HGET.out]
            simp [scan, hwv]
            omega
          have h0 : n ≠ 0 := by omega
          simp only [Hid, ofV, e]
          rw [if_pos h0]
        obtain ⟨d0, d1, d2, d3, d4⟩ := cells5 r1
        have f0 := row_froz r1 0
        have f1 := row_froz r1 1
        have f2 := row_froz r1 2
        have f3 := row_froz r1 3
        have f4 := row_froz r1 4
        have sR := (Array.getElem?_eq_some_iff.1 r1).1
        obtain ⟨b', off', hA', hbl', _⟩ := HV.out k hlt
        simp only [Option.some.injEq, Addr.mk.injEq, and_true] at hA'
        obtain ⟨rfl, rfl⟩ := hA'
        have hbne : b ≠ w.heap.size := by omega
        have hbne' : w.heap.size ≠ b := by omega
        clear hw hwv r1 hown hb hbl hbl'
        go_wp2_with fail
        refine wp_region_noPanic ?_
        refine wp_region_held_drew (S := (fun w' => w'.cell? ⟨b, off + k * 3 + 1, none⟩ = some (.int .i64 n))) (by kernel_rfl) (by exact hc1) (fun hHeld => ?_)
        first
        | (refine wpAnyH_take (i := 0) (oi := ?o1_0) (v := undef) ?hi1_0 (by kernel_rfl) (by kernel_rfl) (by kernel_rfl) (fun _ _ _ h => h) ?hy1_0 (by assumption) ?hr1_0
           case hi1_0 => (simp only [List.getElem?_toArray, List.getElem?_cons_succ, List.getElem?_cons_zero]; rfl)
           case hy1_0 => exact Or.inr ⟨by rfl, rfl⟩)
        | (refine wpAnyH_take (i := 0) (oi := ?o1_0) (v := ?v1_0) ?hi1_0 (by kernel_rfl) (by kernel_rfl) (by kernel_rfl) (fun _ _ _ h => h) ?hy1_0 (by assumption) ?hr1_0
           case hi1_0 => (simp only [List.getElem?_toArray, List.getElem?_cons_succ, List.getElem?_cons_zero]; rfl)
           case hy1_0 => (refine Or.inl ⟨by rfl, ?_⟩; intro w hSw; (try dsimp only at hSw); go_simp <;> with_reducible rfl))
        try simp only [Act.put, List.setIfInBounds_toArray, List.set_cons_zero, List.set_cons_succ]
        first
        | (refine wpAnyH_take (i := 1) (oi := ?o1_1) (v := undef) ?hi1_1 (by kernel_rfl) (by kernel_rfl) (by kernel_rfl) (fun _ _ _ h => h) ?hy1_1 (by assumption) ?hr1_1
           case hi1_1 => (simp only [List.getElem?_toArray, List.getElem?_cons_succ, List.getElem?_cons_zero]; rfl)
           case hy1_1 => exact Or.inr ⟨by rfl, rfl⟩)
        | (refine wpAnyH_take (i := 1) (oi := ?o1_1) (v := ?v1_1) ?hi1_1 (by kernel_rfl) (by kernel_rfl) (by kernel_rfl) (fun _ _ _ h => h) ?hy1_1 (by assumption) ?hr1_1
           case hi1_1 => (simp only [List.getElem?_toArray, List.getElem?_cons_succ, List.getElem?_cons_zero]; rfl)
           case hy1_1 => (refine Or.inl ⟨by rfl, ?_⟩; intro w hSw; (try dsimp only at hSw); go_simp <;> with_reducible rfl))
        try simp only [Act.put, List.setIfInBounds_toArray, List.set_cons_zero, List.set_cons_succ]
        first
        | (refine wpAnyH_take (i := 2) (oi := ?o1_2) (v := undef) ?hi1_2 (by kernel_rfl) (by kernel_rfl) (by kernel_rfl) (fun _ _ _ h => h) ?hy1_2 (by assumption) ?hr1_2
           case hi1_2 => (simp only [List.getElem?_toArray, List.getElem?_cons_succ, List.getElem?_cons_zero]; rfl)
           case hy1_2 => exact Or.inr ⟨by rfl, rfl⟩)
        | (refine wpAnyH_take (i := 2) (oi := ?o1_2) (v := ?v1_2) ?hi1_2 (by kernel_rfl) (by kernel_rfl) (by kernel_rfl) (fun _ _ _ h => h) ?hy1_2 (by assumption) ?hr1_2
           case hi1_2 => (simp only [List.getElem?_toArray, List.getElem?_cons_succ, List.getElem?_cons_zero]; rfl)
           case hy1_2 => (refine Or.inl ⟨by rfl, ?_⟩; intro w hSw; (try dsimp only at hSw); go_simp <;> with_reducible rfl))
        try simp only [Act.put, List.setIfInBounds_toArray, List.set_cons_zero, List.set_cons_succ]
        first
        | (refine wpAnyH_take (i := 3) (oi := ?o1_3) (v := undef) ?hi1_3 (by kernel_rfl) (by kernel_rfl) (by kernel_rfl) (fun _ _ _ h => h) ?hy1_3 (by assumption) ?hr1_3
           case hi1_3 => (simp only [List.getElem?_toArray, List.getElem?_cons_succ, List.getElem?_cons_zero]; rfl)
           case hy1_3 => exact Or.inr ⟨by rfl, rfl⟩)
        | (refine wpAnyH_take (i := 3) (oi := ?o1_3) (v := ?v1_3) ?hi1_3 (by kernel_rfl) (by kernel_rfl) (by kernel_rfl) (fun _ _ _ h => h) ?hy1_3 (by assumption) ?hr1_3
           case hi1_3 => (simp only [List.getElem?_toArray, List.getElem?_cons_succ, List.getElem?_cons_zero]; rfl)
           case hy1_3 => (refine Or.inl ⟨by rfl, ?_⟩; intro w hSw; (try dsimp only at hSw); go_simp <;> with_reducible rfl))
        try simp only [Act.put, List.setIfInBounds_toArray, List.set_cons_zero, List.set_cons_succ]
        first
        | (refine wpAnyH_take (i := 4) (oi := ?o1_4) (v := undef) ?hi1_4 (by kernel_rfl) (by kernel_rfl) (by kernel_rfl) (fun _ _ _ h => h) ?hy1_4 (by assumption) ?hr1_4
           case hi1_4 => (simp only [List.getElem?_toArray, List.getElem?_cons_succ, List.getElem?_cons_zero]; rfl)
           case hy1_4 => exact Or.inr ⟨by rfl, rfl⟩)
        | (refine wpAnyH_take (i := 4) (oi := ?o1_4) (v := ?v1_4) ?hi1_4 (by kernel_rfl) (by kernel_rfl) (by kernel_rfl) (fun _ _ _ h => h) ?hy1_4 (by assumption) ?hr1_4
           case hi1_4 => (simp only [List.getElem?_toArray, List.getElem?_cons_succ, List.getElem?_cons_zero]; rfl)
           case hy1_4 => (refine Or.inl ⟨by rfl, ?_⟩; intro w hSw; (try dsimp only at hSw); go_simp <;> with_reducible rfl))
        try simp only [Act.put, List.setIfInBounds_toArray, List.set_cons_zero, List.set_cons_succ]
        first
        | (refine wpAnyH_take (i := 5) (oi := ?o1_5) (v := undef) ?hi1_5 (by kernel_rfl) (by kernel_rfl) (by kernel_rfl) (fun _ _ _ h => h) ?hy1_5 (by assumption) ?hr1_5
           case hi1_5 => (simp only [List.getElem?_toArray, List.getElem?_cons_succ, List.getElem?_cons_zero]; rfl)
           case hy1_5 => exact Or.inr ⟨by rfl, rfl⟩)
        | (refine wpAnyH_take (i := 5) (oi := ?o1_5) (v := ?v1_5) ?hi1_5 (by kernel_rfl) (by kernel_rfl) (by kernel_rfl) (fun _ _ _ h => h) ?hy1_5 (by assumption) ?hr1_5
           case hi1_5 => (simp only [List.getElem?_toArray, List.getElem?_cons_succ, List.getElem?_cons_zero]; rfl)
           case hy1_5 => (refine Or.inl ⟨by rfl, ?_⟩; intro w hSw; (try dsimp only at hSw); go_simp <;> with_reducible rfl))
        try simp only [Act.put, List.setIfInBounds_toArray, List.set_cons_zero, List.set_cons_succ]
        refine wpAnyH_ready (rs := [6]) (by kernel_rfl) (by simp) ?_
        refine AllReadyH.cons (o := ?o1_6) ?ho1_6 (fun K hK => ?hk1_6) AllReadyH.nil
        case ho1_6 => (simp only [List.getElem?_toArray, List.getElem?_cons_succ, List.getElem?_cons_zero]; rfl)
        go_simp
        refine hK.out _ _ ?_ (fun hHeld => ?_)
        · first | go_keep | (go_simp; exact hHeld)
        clear hK K
        try simp only [Act.put, List.setIfInBounds_toArray, List.set_cons_zero, List.set_cons_succ]
        first
        | (refine wpAnyH_take (i := 7) (oi := ?o1_7) (v := undef) ?hi1_7 (by kernel_rfl) (by kernel_rfl) (by kernel_rfl) (fun _ _ _ h => h) ?hy1_7 (by assumption) ?hr1_7
           case hi1_7 => (simp only [List.getElem?_toArray, List.getElem?_cons_succ, List.getElem?_cons_zero]; rfl)
           case hy1_7 => exact Or.inr ⟨by rfl, rfl⟩)
        | (refine wpAnyH_take (i := 7) (oi := ?o1_7) (v := ?v1_7) ?hi1_7 (by kernel_rfl) (by kernel_rfl) (by kernel_rfl) (fun _ _ _ h => h) ?hy1_7 (by assumption) ?hr1_7
           case hi1_7 => (simp only [List.getElem?_toArray, List.getElem?_cons_succ, List.getElem?_cons_zero]; rfl)
           case hy1_7 => (refine Or.inl ⟨by rfl, ?_⟩; intro w hSw; (try dsimp only at hSw); go_simp <;> with_reducible rfl))
        try simp only [Act.put, List.setIfInBounds_toArray, List.set_cons_zero, List.set_cons_succ]
        refine wpAnyH_done (by kernel_rfl) ?_ _
        refine NoPanic.normal ?_
        go_wp2_with fail
        exact bodyPost_ret (v := .tuple #[trendT 0 0 0 0 0, .int .i64 n]) (by simp [results, Try.results12, go_sem, trendT, d0, d1, d2, d3, d4, f0, f1, f2, f3, f4]) rfl
          ⟨by rw [HW.out], (((((HBW.out.setCell (p := ⟨w.heap.size, 0, none⟩) (Nat.le_refl _) _).setCell (p := ⟨w.heap.size, 1, none⟩) (Nat.le_refl _) _).setCell (p := ⟨w.heap.size, 2, none⟩) (Nat.le_refl _) _).setCell (p := ⟨w.heap.size, 3, none⟩) (Nat.le_refl _) _).setCell (p := ⟨w.heap.size, 4, none⟩) (Nat.le_refl _) _).drew⟩
    · obtain rfl : k = vs.length := by omega
      rw [List.take_length] at hown HSC ⊢
      have hxl : (numsV vs).length ≤ 8000 := Nat.le_trans (numsV_len _) hl
      have HXB := Lib.hid (numsV_bnd HF.out)
      have HXN := Lib.hid (numsV_num HF.out)
      have r1 := hb.row R0.out (by omega)
      have hbw : Below w.heap.size w wr := HB0.out.trans (hb.mono (by omega))
      by_cases hx0 : numsV vs = []
      · have HW : Hid (ofV vs = .tuple #[trendT 0 0 0 0 0, .int .i64 5]) := by
          simp only [Hid, ofV, HSC.out]
          simp [hx0]
        obtain ⟨d0, d1, d2, d3, d4⟩ := cells5 r1
        have f0 := row_froz r1 0
        have f1 := row_froz r1 1
        have f2 := row_froz r1 2
        have f3 := row_froz r1 3
        have f4 := row_froz r1 4
        have HBW := Lib.hid hbw
        rw [hx0]
        clear r1 hbw hown hb hx0
        go_wp2_with fail
        exact bodyPost_ret (v := .tuple #[trendT 0 0 0 0 0, .int .i64 5]) (by simp [results, Try.results12, go_sem, trendT, d0, d1, d2, d3, d4, f0, f1, f2, f3, f4]) rfl
          ⟨by rw [HW.out], ((((HBW.out.setCell (p := ⟨w.heap.size, 0, none⟩) (Nat.le_refl _) _).setCell (p := ⟨w.heap.size, 1, none⟩) (Nat.le_refl _) _).setCell (p := ⟨w.heap.size, 2, none⟩) (Nat.le_refl _) _).setCell (p := ⟨w.heap.size, 3, none⟩) (Nat.le_refl _) _).setCell (p := ⟨w.heap.size, 4, none⟩) (Nat.le_refl _) _⟩
      · have HW : Hid (ofV vs = .tuple #[trendT (numsV vs).length (meanV (numsV vs)) (varV (numsV vs)) (leastV (numsV vs)) (mostV (numsV vs)), .int .i64 0]) := by
          simp only [Hid, ofV, HSC.out]
          simp [hx0]
        generalize numsV vs = xs at *
        have hx1 : 1 ≤ xs.length := List.length_pos_iff.2 hx0
        have hown0 := hown
        rw [show xs.length = xs.length - 1 + 1 by omega] at hown
        obtain ⟨g, cap', hge⟩ := slice_form hown
        rw [show xs.length - 1 + 1 = xs.length by omega] at hge
        rw [hge] at hown0 ⊢
        clear hown hge cap ao
        have hh := HasF.of_own hown0
        have hc0 := hh 0 hx1
        have hne : ((xs.length : Int) == 0) = false := beq_eq_false_iff_ne.2 (by omega)
        have hx1' : (0 : Int) < (xs.length : Int) := by omega
        obtain ⟨x0, hx0'⟩ : ∃ x0, xs.getD 0 0 = x0 := ⟨_, rfl⟩
        rw [hx0'] at hc0
        have hS : wr.drew.cell? ⟨g, 0, none⟩ = some (.float .f64 x0) ∧ HasF wr.drew g xs ∧ Below (w.heap.size + 1) W0 wr.drew := ⟨hc0, fun j hj => hh j hj, hb.drew⟩
        have hS0 : wr.cell? ⟨g, 0, none⟩ = some (.float .f64 x0) ∧ HasF wr g xs ∧ Below (w.heap.size + 1) W0 wr := ⟨hc0, hh, hb⟩
        have R1 := Lib.hid r1
        clear hb r1 hh HSC hown0 hbw hc0
        have hx2 : 0 < xs.length := by omega
        go_wp2_with fail
        go_region_held3 (fun w' => w'.cell? ⟨g, 0, none⟩ = some (.float .f64 x0)) (first | exact hS.1 | go_keep) (fail)
        all_goals
          go_wp2_with fail
          have hSX := keepM (wb := (wr.alloc (.cells #[.int .i64 (xs.length : Int), .float .f64 0, .float .f64 0, .float .f64 x0, .float .f64 x0] 27)).drew) hS0 (((Below.refl _ _).alloc (Nat.le_refl _) _).drew) hs0
          have hTX : (wr.alloc (.cells #[.int .i64 (xs.length : Int), .float .f64 0, .float .f64 0, .float .f64 x0, .float .f64 x0] 27)).drew.heap[wr.heap.size]? = some (.cells #[.int .i64 (xs.length : Int), .float .f64 0, .float .f64 0, .float .f64 x0, .float .f64 x0] 27 (0, 0)) := heap_alloc_new wr _
          obtain ⟨X, hX⟩ : ∃ X, (wr.alloc (.cells #[.int .i64 (xs.length : Int), .float .f64 0, .float .f64 0, .float .f64 x0, .float .f64 x0] 27)).drew = X := ⟨_, rfl⟩
          rw [hX] at hSX hTX ⊢
          clear hX
          have hgT : g < wr.heap.size := World.block_lt_of_cell? wr _ hS0.1
          have hwT : w.heap.size + 1 ≤ wr.heap.size := by have := hS0.2.2.size; omega
          obtain ⟨T, hT⟩ : ∃ T, wr.heap.size = T := ⟨_, rfl⟩
          rw [hT] at hTX hgT hwT ⊢
          have HSX := Lib.hid hSX
          have HM := Lib.hid (mean_bd xs HXB.out hx1 hxl)
          have hm0 : Num x0 := HXN.out x0 (hx0' ▸ getD_mem hx1)
          have HM0 := Lib.hid hm0
          clear hm0 hSX hS hS0 hT
          refine (mean22 g cap' xs X HSX.out.2.1 HXB.out hx1 hxl).mono ?_
          rintro e w2 ⟨rfl, rfl⟩
          obtain ⟨d0, d1, d2, d3, d4⟩ := cells5 hTX
          have f1 := row_froz hTX 1
          have sT := (Array.getElem?_eq_some_iff.1 hTX).1
          have r1 := row_set hTX 1 (.float .f64 (meanV xs))
          have b1 := (Below.refl T X).setCell (p := ⟨T, 1, none⟩) (Nat.le_refl _) (.float .f64 (meanV xs))
          clear hTX
          go_wp2_with fail
          clear d0 d1 d2 d3 d4 f1
          obtain ⟨X1, hX1⟩ : ∃ X1, X.setCell ⟨T, 1, none⟩ (.float .f64 (meanV xs)) = X1 := ⟨_, rfl⟩
          rw [hX1] at r1 b1 ⊢
          have sT1 := (Array.getElem?_eq_some_iff.1 r1).1
          clear hX1 sT
          refine (spread23 g cap' g cap' (meanV xs) (meanV xs) xs.length xs xs X1 rfl rfl (fun j hj => (b1.cell (p := ⟨g, j, none⟩) hgT).trans (HSX.out.2.1 j hj)) (fun j hj => (b1.cell (p := ⟨g, j, none⟩) hgT).trans (HSX.out.2.1 j hj)) HXB.out HXB.out HM.out.2 HM.out.2 hxl).mono ?_
          rintro e w2 ⟨rfl, hb2⟩
          have r2 := hb2.row r1 sT1
          have b2 := b1.trans (hb2.mono (Nat.le_of_lt sT1))
          clear r1 b1 hb2 sT1 X1
          have q' : ∀ (t : TypeId) (w : World), (binOp .quo t (.float .f64 (spreadV (meanV xs) (meanV xs) xs xs)) (.float .f64 (floatOfInt .f64 (xs.length : Int)))).run Try.prog w = .ok (.float .f64 (varV xs)) w := fun t w => run_float_arith (P := Try.prog) w .quo t .f64 _ _ _ (var_bd xs HXB.out hx1 hxl).1
          have f2 := row_froz r2 2
          obtain ⟨d0, d1, d2, d3, d4⟩ := cells5 r2
          have sT := (Array.getElem?_eq_some_iff.1 r2).1
          have r3 := row_set r2 2 (.float .f64 (varV xs))
          have b3 := b2.setCell (p := ⟨T, 2, none⟩) (Nat.le_refl _) (.float .f64 (varV xs))
          have R3 := Lib.hid (And.intro r3 b3)
          clear r2 b2 r3 b3
          go_wp2_with fail
          clear d0 d1 d2 d3 d4 f2 sT q'
          go_loopw [7] (fun i W => ∃ k : Nat, 1 ≤ k ∧ k ≤ xs.length ∧ i = .int .i64 k ∧ W.heap[T]? = some (.cells #[.int .i64 (xs.length : Int), .float .f64 (meanV xs), .float .f64 (varV xs), .float .f64 ((xs.take k).foldl fmin x0), .float .f64 ((xs.take k).foldl fmax x0)] 27 (0, 0)) ∧ Below T X W) (fun i _ => xs.length - (intOf i).toNat)
          case atStart =>
            have e0 : xs.take 1 = [x0] := by
              match xs, hx1, hx0' with
              | a :: l, _, h => simp at h; simp [h]
            exact ⟨1, by omega, hx1, rfl, by rw [e0]; simp only [List.foldl_cons, List.foldl_nil]; rw [fmin_self HM0.out, fmax_self HM0.out]; exact R3.out.1, R3.out.2⟩
          case round =>
            obtain ⟨k, hk1, hk, rfl, hrow, hbT⟩ := hrel
            have f2 := row_froz hrow 2
            have f3 := row_froz hrow 3
            have f4 := row_froz hrow 4
            have sT := (Array.getElem?_eq_some_iff.1 hrow).1
            by_cases hlt : k < xs.length
            · have hc := (hbT.cell (p := ⟨g, k, none⟩) hgT).trans (HSX.out.2.1 k hlt)
              rw [show xs.getD k 0 = xs[k] by simp [hlt]] at hc
              have e4 := foldl_take fmin xs x0 hlt
              have e5 := foldl_take fmax xs x0 hlt
              obtain ⟨d0, d1, d2, d3, d4⟩ := cells5 hrow
              have hgne : g ≠ T := by omega
              have hgne' : T ≠ g := by omega
              clear R3
              generalize (xs.take k).foldl fmin x0 = l0 at *
              generalize (xs.take k).foldl fmax x0 = h0 at *
              generalize xs[k] = x at *
              by_cases hL : Ieee.double.order x l0 = some .lt
              · by_cases hM : Ieee.double.order x h0 = some .gt
                · have HE4 := Lib.hid (e4.trans (show fmin l0 x = x by unfold fmin; rw [if_pos hL]))
                  have HE5 := Lib.hid (e5.trans (show fmax h0 x = x by unfold fmax; rw [if_pos hM]))
                  have HR := Lib.hid (And.intro (row_set (row_set hrow 3 (.float .f64 x)) 4 (.float .f64 x)) ((hbT.setCell (p := ⟨T, 3, none⟩) (Nat.le_refl _) (.float .f64 x)).setCell (p := ⟨T, 4, none⟩) (Nat.le_refl _) (.float .f64 x)))
                  have qL : (FloatKind.f64.format.order x l0 == some .lt) = true := by rw [show FloatKind.f64.format.order x l0 = some .lt from hL]; rfl
                  have qM : (FloatKind.f64.format.order x h0 == some .gt) = true := by rw [show FloatKind.f64.format.order x h0 = some .gt from hM]; rfl
                  clear hrow hbT e4 e5 hL hM
                  go_wp2_with fail
                  go_region_held3 (fun w' => w'.cell? ⟨g, k, none⟩ = some (.float .f64 x) ∧ w'.cell? ⟨T, 3, none⟩ = some (.float .f64 l0)) (first | exact ⟨hc, d3⟩ | go_keep) (fail)
                  go_wp2_with fail
                  go_region_held3 (fun w' => w'.cell? ⟨g, k, none⟩ = some (.float .f64 x) ∧ w'.cell? ⟨T, 4, none⟩ = some (.float .f64 h0)) (first | exact ⟨by go_simp, by go_simp⟩ | go_keep) (fail)
                  go_wp2_with fail
                  go_roundw
                  case rel => exact ⟨k + 1, by omega, by omega, by go_num, by rw [HE4.out, HE5.out]; exact HR.out.1, HR.out.2.drew.drew⟩
                  case measure => simp [intOf]; omega
                · have HE4 := Lib.hid (e4.trans (show fmin l0 x = x by unfold fmin; rw [if_pos hL]))
                  have HE5 := Lib.hid (e5.trans (show fmax h0 x = h0 by unfold fmax; rw [if_neg hM]))
                  have HR := Lib.hid (And.intro (row_set hrow 3 (.float .f64 x)) (hbT.setCell (p := ⟨T, 3, none⟩) (Nat.le_refl _) (.float .f64 x)))
                  have qL : (FloatKind.f64.format.order x l0 == some .lt) = true := by rw [show FloatKind.f64.format.order x l0 = some .lt from hL]; rfl
                  have qM : (FloatKind.f64.format.order x h0 == some .gt) = false := beq_eq_false_iff_ne.2 hM
                  clear hrow hbT e4 e5 hL hM
                  go_wp2_with fail
                  go_region_held3 (fun w' => w'.cell? ⟨g, k, none⟩ = some (.float .f64 x) ∧ w'.cell? ⟨T, 3, none⟩ = some (.float .f64 l0)) (first | exact ⟨hc, d3⟩ | go_keep) (fail)
                  go_wp2_with fail
                  go_region_held3 (fun w' => w'.cell? ⟨g, k, none⟩ = some (.float .f64 x) ∧ w'.cell? ⟨T, 4, none⟩ = some (.float .f64 h0)) (first | exact ⟨by go_simp, by go_simp⟩ | go_keep) (fail)
                  go_wp2_with fail
                  go_roundw
                  case rel => exact ⟨k + 1, by omega, by omega, by go_num, by rw [HE4.out, HE5.out]; exact HR.out.1, HR.out.2.drew.drew⟩
                  case measure => simp [intOf]; omega
              · by_cases hM : Ieee.double.order x h0 = some .gt
                · have HE4 := Lib.hid (e4.trans (show fmin l0 x = l0 by unfold fmin; rw [if_neg hL]))
                  have HE5 := Lib.hid (e5.trans (show fmax h0 x = x by unfold fmax; rw [if_pos hM]))
                  have HR := Lib.hid (And.intro (row_set hrow 4 (.float .f64 x)) (hbT.setCell (p := ⟨T, 4, none⟩) (Nat.le_refl _) (.float .f64 x)))
                  have qL : (FloatKind.f64.format.order x l0 == some .lt) = false := beq_eq_false_iff_ne.2 hL
                  have qM : (FloatKind.f64.format.order x h0 == some .gt) = true := by rw [show FloatKind.f64.format.order x h0 = some .gt from hM]; rfl
                  clear hrow hbT e4 e5 hL hM
                  go_wp2_with fail
                  go_region_held3 (fun w' => w'.cell? ⟨g, k, none⟩ = some (.float .f64 x) ∧ w'.cell? ⟨T, 3, none⟩ = some (.float .f64 l0)) (first | exact ⟨hc, d3⟩ | go_keep) (fail)
                  go_wp2_with fail
                  go_region_held3 (fun w' => w'.cell? ⟨g, k, none⟩ = some (.float .f64 x) ∧ w'.cell? ⟨T, 4, none⟩ = some (.float .f64 h0)) (first | exact ⟨by go_simp, by go_simp⟩ | go_keep) (fail)
                  go_wp2_with fail
                  go_roundw
                  case rel => exact ⟨k + 1, by omega, by omega, by go_num, by rw [HE4.out, HE5.out]; exact HR.out.1, HR.out.2.drew.drew⟩
                  case measure => simp [intOf]; omega
                · have HE4 := Lib.hid (e4.trans (show fmin l0 x = l0 by unfold fmin; rw [if_neg hL]))
                  have HE5 := Lib.hid (e5.trans (show fmax h0 x = h0 by unfold fmax; rw [if_neg hM]))
                  have HR := Lib.hid (And.intro hrow hbT)
                  have qL : (FloatKind.f64.format.order x l0 == some .lt) = false := beq_eq_false_iff_ne.2 hL
                  have qM : (FloatKind.f64.format.order x h0 == some .gt) = false := beq_eq_false_iff_ne.2 hM
                  clear hrow hbT e4 e5 hL hM
                  go_wp2_with fail
                  go_region_held3 (fun w' => w'.cell? ⟨g, k, none⟩ = some (.float .f64 x) ∧ w'.cell? ⟨T, 3, none⟩ = some (.float .f64 l0)) (first | exact ⟨hc, d3⟩ | go_keep) (fail)
                  go_wp2_with fail
                  go_region_held3 (fun w' => w'.cell? ⟨g, k, none⟩ = some (.float .f64 x) ∧ w'.cell? ⟨T, 4, none⟩ = some (.float .f64 h0)) (first | exact ⟨by go_simp, by go_simp⟩ | go_keep) (fail)
                  go_wp2_with fail
                  go_roundw
                  case rel => exact ⟨k + 1, by omega, by omega, by go_num, by rw [HE4.out, HE5.out]; exact HR.out.1, HR.out.2.drew.drew⟩
                  case measure => simp [intOf]; omega
            · obtain rfl : k = xs.length := by omega
              rw [List.take_length] at hrow
              obtain ⟨d0, d1, d2, d3, d4⟩ := cells5 hrow
              have hbW : Below (w.heap.size + 1) W0 wr := HSX.out.2.2.trans (hbT.mono hwT)
              have rr := hbW.row R0.out (by omega)
              obtain ⟨c0, c1, c2, c3, c4⟩ := cells5 rr
              have g0 := row_froz rr 0
              have g1 := row_froz rr 1
              have g2 := row_froz rr 2
              have g3 := row_froz rr 3
              have g4 := row_froz rr 4
              have hne : w.heap.size ≠ T := by omega
              have sR := (Array.getElem?_eq_some_iff.1 rr).1
              have HBW := Lib.hid (HB0.out.trans (hbW.mono (by omega)))
              have hlm : leastV xs = xs.foldl fmin x0 := by rw [leastV, hx0']
              have hmm : mostV xs = xs.foldl fmax x0 := by rw [mostV, hx0']
              rw [← hlm] at d3
              rw [← hmm] at d4
              clear rr hbW hrow hbT hlm hmm R3
              go_wp2_with fail
              exact bodyPost_ret (v := .tuple #[trendT xs.length (meanV xs) (varV xs) (leastV xs) (mostV xs), .int .i64 0]) (by simp [results, Try.results12, go_sem, trendT, c0, c1, c2, c3, c4, g0, g1, g2, g3, g4, hne]) rfl
                ⟨by rw [HW.out], ((((HBW.out.setCell (p := ⟨w.heap.size, 0, none⟩) (Nat.le_refl _) _).setCell (p := ⟨w.heap.size, 1, none⟩) (Nat.le_refl _) _).setCell (p := ⟨w.heap.size, 2, none⟩) (Nat.le_refl _) _).setCell (p := ⟨w.heap.size, 3, none⟩) (Nat.le_refl _) _).setCell (p := ⟨w.heap.size, 4, none⟩) (Nat.le_refl _) _⟩
end Go.Proofs.Ytcgkolaljgpphaa
