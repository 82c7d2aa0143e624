/- quadrilleref32.Line answers what trend.Line answers. -/
import Derived.Test.YtcgkolaljgpphaaLineAny
namespace Go.Proofs.Ytcgkolaljgpphaa
set_option linter.unusedVariables false
set_option linter.unusedSimpArgs false
open Go.RowKit

attribute [local go_sem] run_store_float'

set_option maxRecDepth 100000 in
theorem line15_uneven (A B : Option Addr) (C D n m : Nat) (w : World) (hnm : n ≠ m) (hl : n ≤ 8000) (hl' : m ≤ 8000) :
    Calls Try.prog 15 #[.slice A n C, .slice B m D] w fun e w' => e = .returned (.tuple #[slopeT 0 0 0, .int .i64 4]) ∧ Below w.heap.size w w' := by
  have hne : ((n : Int) != (m : Int)) = true := bne_iff_ne.2 (by omega)
  go_enter Try.func15, Try.ntmps15
  have r0 := heap_alloc_new w (.cells #[.float .f64 0, .float .f64 0, .float .f64 0] 33)
  have hB0 := (Below.refl w.heap.size w).alloc (Nat.le_refl _) (.cells #[.float .f64 0, .float .f64 0, .float .f64 0] 33)
  obtain ⟨c0, c1, c2⟩ := cellsT r0
  have g0 := row_froz r0 0
  have g1 := row_froz r0 1
  have g2 := row_froz r0 2
  have sR := (Array.getElem?_eq_some_iff.1 r0).1
  go_wp2_with fail
  exact bodyPost_ret (v := .tuple #[slopeT 0 0 0, .int .i64 4]) (by simp [results, Try.results15, go_sem, slopeT, c0, c1, c2, g0, g1, g2]) rfl ⟨rfl, hB0⟩

set_option maxRecDepth 100000 in
set_option maxHeartbeats 4000000 in
theorem line15_any (A B : Option Addr) (C D n : Nat) (vs us : List Val) (w : World) (hv : ValsAt w A vs) (hu : ValsAt w B us) (hf : ∀ v ∈ vs, v.fits) (hg : ∀ v ∈ us, v.fits) (hn : vs.length = n) (hn' : us.length = n) (hl : n ≤ 8000) (res : Value) (hres : LineG (vs.zip us) res) :
    Calls Try.prog 15 #[.slice A n C, .slice B n D] w fun e w' => e = .returned res ∧ Below w.heap.size w w' := by
  obtain ⟨i0, hi, hz0, hz1, hz2⟩ := info_parts info25
  have HV := Lib.hid hv
  have HF := Lib.hid hf
  have HU := Lib.hid hu
  have HG := Lib.hid hg
  have HRES := Lib.hid hres
  clear hres
  clear hv hf hu hg
  go_enter Try.func15, Try.ntmps15
  go_wp2_with fail
  have r0 := heap_alloc_new w (.cells #[.float .f64 0, .float .f64 0, .float .f64 0] 33)
  have hB0 := (Below.refl w.heap.size w).alloc (Nat.le_refl _) (.cells #[.float .f64 0, .float .f64 0, .float .f64 0] 33)
  obtain ⟨W0, hW0⟩ : ∃ W0, w.alloc (.cells #[.float .f64 0, .float .f64 0, .float .f64 0] 33) = W0 := ⟨_, rfl⟩
  have hs0 : W0.heap.size = w.heap.size + 1 := by rw [← hW0]; simp
  rw [hW0] at r0 hB0 ⊢
  clear hW0
  have HB0 := Lib.hid hB0
  have R0 := Lib.hid r0
  clear r0 hB0
  go_loopw [6, 7, 8] (fun v u i wr => ∃ k : Nat, k ≤ n ∧ i = .int .i64 k ∧ wr.ownsRow (w.heap.size + 1) 25 1 v (pairsV ((vs.zip us).take k)).length (f64s ((pairsV ((vs.zip us).take k)).map Prod.fst)) ∧ wr.ownsRow (w.heap.size + 1) 25 1 u (pairsV ((vs.zip us).take k)).length (f64s ((pairsV ((vs.zip us).take k)).map Prod.snd)) ∧ scan2 ((vs.zip us).take k) = 0 ∧ Apart v u ∧ Below (w.heap.size + 1) W0 wr) (fun _ _ i _ => n - (intOf i).toNat)
  case atStart => exact ⟨0, Nat.zero_le _, rfl, World.ownsRow_nil _ _ _ _, World.ownsRow_nil _ _ _ _, rfl, .inl rfl, Below.refl _ _⟩
  case round =>
    obtain ⟨k, hk, rfl, hown, hown', hsc, hap, hb⟩ := hrel
    have HSC := Lib.hid hsc
    clear hsc
    obtain ⟨ao, cap, rfl⟩ := row_any hown
    obtain ⟨bo, cap', rfl⟩ := row_any hown'
    by_cases hlt : k < n
    · have hbw : Below w.heap.size w wr := HB0.out.trans (hb.mono (by omega))
      have hkv : k < vs.length := by omega
      have hku : k < us.length := by omega
      obtain ⟨b, off, kk, n1, s, rfl, hbl, hget, hc0, hc1, hc2, hnn, hs⟩ := HV.out.get HF.out hkv
      obtain ⟨b', off', kk', n2, s', rfl, hbl', hget', hd0, hd1, hd2, hnn', hs'⟩ := HU.out.get HG.out hku
      have HD1 := Lib.hid hd1
      replace hc0 := cell_below hc0 hbw
      replace hc1 := cell_below hc1 hbw
      replace hc2 := cell_below hc2 hbw
      replace hd0 := cell_below hd0 hbw
      replace hd1 := cell_below hd1 hbw
      replace hd2 := cell_below hd2 hbw
      have F1 := fault24 kk n1 s
      have F2 := fault24 kk' n2 s'
      have HZ := Lib.hid (zip_snoc hkv hku)
      rw [hget, hget'] at HZ
      have hbs := hb.size
      clear hbw hget hget' hs hs' hnn hnn'
      have hscd : Hid (scan2 (vs.zip us) = if wrongV kk n1 s ≠ 0 then wrongV kk n1 s else if wrongV kk' n2 s' ≠ 0 then wrongV kk' n2 s' else scan2 ((vs.zip us).drop (k + 1))) := by
        simp only [Hid]
        conv => lhs; rw [← List.take_append_drop (k + 1) (vs.zip us), scan2_app, HZ.out, scan2_app, HSC.out]
        simp only [scan2]
        by_cases e1 : wrongV kk n1 s = 0 <;> by_cases e2 : wrongV kk' n2 s' = 0 <;> simp [e1, e2]
      have hscn : Hid (wrongV kk n1 s = 0 → wrongV kk' n2 s' = 0 → scan2 ((vs.zip us).take (k + 1)) = 0) := fun e1 e2 => by
        rw [HZ.out, scan2_app, HSC.out]
        simp [scan2, e1, e2]
      by_cases hw1 : wrongV kk n1 s = 0
      · by_cases hw2 : wrongV kk' n2 s' = 0
        · have HSC' := Lib.hid (hscn.out hw1 hw2)
          rw [hw1] at F1
          rw [hw2] at F2
          clear hw1 hw2 hscd hscn HSC
          have e0 : Hid ((numB kk s && numB kk' s') = false → pairsV ((vs.zip us).take (k + 1)) = pairsV ((vs.zip us).take k)) := fun hnb => by
            rw [HZ.out, pairsV_app]
            simp [pairsV, hnb]
          have HROW := Lib.hid (And.intro hown (And.intro hown' (And.intro hap hb)))
          clear hown hown' hap hb
          by_cases hk1 : kk = 1
          · subst hk1
            cases hse : s.toList.isEmpty
            · have HE3 := Lib.hid (e0.out (by simp [numB, hse]))
              clear e0 HZ
              go_wp2_with (first | (go_at_call_of 24 n1; refine (F1 _).mono ?_; rintro e w1 ⟨rfl, hb1⟩; replace hc0 := cell_below hc0 hb1; replace hc1 := cell_below hc1 hb1; replace hc2 := cell_below hc2 hb1; replace hd0 := cell_below hd0 hb1; replace hd1 := cell_below hd1 hb1; replace hd2 := cell_below hd2 hb1) | (go_at_call_of 24 n2; refine (F2 _).mono ?_; rintro e w2 ⟨rfl, hb2⟩; have hbC := hb1.trans (hb2.mono hb1.size); have HBC := Lib.hid hbC; replace hc0 := cell_below hc0 hb2; replace hc1 := cell_below hc1 hb2; replace hc2 := cell_below hc2 hb2; replace hd0 := cell_below hd0 hb2; replace hd1 := cell_below hd1 hb2; replace hd2 := cell_below hd2 hb2))
              have HROW' := HROW.out
              clear HROW
              go_roundw
              case rel => exact ⟨k + 1, by omega, by go_num, by rw [HE3.out]; exact row_below HROW'.1 HBC.out, by rw [HE3.out]; exact row_below HROW'.2.1 HBC.out, HSC'.out, HROW'.2.2.1, HROW'.2.2.2.trans (HBC.out.mono (by have := HROW'.2.2.2.size; omega))⟩
              case measure => simp [intOf]; omega
            · by_cases hk2 : kk' = 1
              · subst hk2
                cases hse' : s'.toList.isEmpty
                · have HE3 := Lib.hid (e0.out (by simp [numB, hse, hse']))
                  clear e0 HZ
                  go_wp2_with (first | (go_at_call_of 24 n1; refine (F1 _).mono ?_; rintro e w1 ⟨rfl, hb1⟩; replace hc0 := cell_below hc0 hb1; replace hc1 := cell_below hc1 hb1; replace hc2 := cell_below hc2 hb1; replace hd0 := cell_below hd0 hb1; replace hd1 := cell_below hd1 hb1; replace hd2 := cell_below hd2 hb1) | (go_at_call_of 24 n2; refine (F2 _).mono ?_; rintro e w2 ⟨rfl, hb2⟩; have hbC := hb1.trans (hb2.mono hb1.size); have HBC := Lib.hid hbC; replace hc0 := cell_below hc0 hb2; replace hc1 := cell_below hc1 hb2; replace hc2 := cell_below hc2 hb2; replace hd0 := cell_below hd0 hb2; replace hd1 := cell_below hd1 hb2; replace hd2 := cell_below hd2 hb2))
                  have HROW' := HROW.out
                  clear HROW
                  go_roundw
                  case rel => exact ⟨k + 1, by omega, by go_num, by rw [HE3.out]; exact row_below HROW'.1 HBC.out, by rw [HE3.out]; exact row_below HROW'.2.1 HBC.out, HSC'.out, HROW'.2.2.1, HROW'.2.2.2.trans (HBC.out.mono (by have := HROW'.2.2.2.size; omega))⟩
                  case measure => simp [intOf]; omega
                · clear e0
                  have e1 : (pairsV ((vs.zip us).take (k + 1))).map Prod.fst = (pairsV ((vs.zip us).take k)).map Prod.fst ++ [floatOfInt .f64 n1] := by
                    rw [HZ.out, pairsV_app]
                    simp [pairsV, numB, hse, hse']
                  have e2 : (pairsV ((vs.zip us).take (k + 1))).map Prod.snd = (pairsV ((vs.zip us).take k)).map Prod.snd ++ [floatOfInt .f64 n2] := by
                    rw [HZ.out, pairsV_app]
                    simp [pairsV, numB, hse, hse']
                  have e3 : (pairsV ((vs.zip us).take (k + 1))).length = (pairsV ((vs.zip us).take k)).length + 1 := by
                    rw [HZ.out, pairsV_app]
                    simp [pairsV, numB, hse, hse']
                  have hpk : (pairsV ((vs.zip us).take k)).length ≤ 8000 := Nat.le_trans (pairsV_len _) (by simp; omega)
                  have HE1 := Lib.hid e1
                  have HE2 := Lib.hid e2
                  have HE3 := Lib.hid e3
                  clear HZ e1 e2 e3
                  obtain ⟨hown, hown', hap, hb⟩ := HROW.out
                  clear HROW
                  generalize pairsV ((vs.zip us).take k) = ps at *
                  obtain ⟨K, hK⟩ : ∃ K, ps.length = K := ⟨_, rfl⟩
                  rw [hK] at hown hown' hpk hap HE3 ⊢
                  have HROW := Lib.hid (And.intro hown (And.intro hown' (And.intro hap hb)))
                  clear hown hown' hap hb hK
                  go_wp2_with (first | (go_at_call_of 24 n1; refine (F1 _).mono ?_; rintro e w1 ⟨rfl, hb1⟩; replace hc0 := cell_below hc0 hb1; replace hc1 := cell_below hc1 hb1; replace hc2 := cell_below hc2 hb1; replace hd0 := cell_below hd0 hb1; replace hd1 := cell_below hd1 hb1; replace hd2 := cell_below hd2 hb1) | (go_at_call_of 24 n2; refine (F2 _).mono ?_; rintro e w2 ⟨rfl, hb2⟩; have hbC := hb1.trans (hb2.mono hb1.size); have HBC := Lib.hid hbC; replace hc0 := cell_below hc0 hb2; replace hc1 := cell_below hc1 hb2; replace hc2 := cell_below hc2 hb2; replace hd0 := cell_below hd0 hb2; replace hd1 := cell_below hd1 hb2; replace hd2 := cell_below hd2 hb2) | (have hown4 := row_below HROW.out.1 HBC.out; at_builtin; refine wpList_append_one rfl _ _ 47 rfl (w.heap.size + 1) 25 i0 (.float .f64 0) 8 Try.underlying47 hi hz0 hz1 hz2 rfl _ _ _ rfl (hown4.alloc _) ⟨w2.heap.size, 0, none⟩ 1 _ rfl (cell_one_new _ _ _) ?c2 ?c3 ?c4 ?c5 ?_))
                  case c2 => intro y hy; simp at hy; subst hy; rfl
                  case c3 => unfold maxLen; omega
                  case c4 => omega
                  case c5 => have := HROW.out.2.2.2.size; have := HBC.out.size; simp; omega
                  intro v1 wx hown1 hgrow1 hblk1
                  obtain ⟨_, hownY, hap, hbb⟩ := HROW.out
                  have hownY4 := (row_below hownY HBC.out).alloc (.cells #[.float .f64 (floatOfInt .f64 n1)] 25)
                  have hownYx := hownY4.kept hgrow1 hap.symm
                  have hbx : Below (w.heap.size + 1) W0 wx := ((hbb.trans (HBC.out.mono (by have := hbb.size; omega))).alloc (by have := hbb.size; have := HBC.out.size; omega) _).grown hgrow1 (by have := hbb.size; have := HBC.out.size; simp; omega) (fun k hk => (hown4.lt k hk).1)
                  have hap1 := apart_step hap (fun k hk => by have := (hownY4.lt k hk).2; simpa using this) hblk1
                  have hcv1 : ∃ a1 c1, v1 = .slice a1 (K + 1) c1 := row_any hown1
                  obtain ⟨a1, c1, rfl⟩ := hcv1
                  rw [f64s_snoc, ← HE1.out] at hown1
                  have hszx := hbx.size
                  clear hc0 hc1 hc2 hd0 hd1 hd2
                  have hd1 := cell_below HD1.out (HB0.out.trans (hbx.mono (by omega)))
                  have H1 := Lib.hid (And.intro hown1 (And.intro hap1 hbx))
                  clear hown1 hap1 hbx hownY4 hownY hap hbb hgrow1 hblk1 hb1 hb2 hbC hown4
                  go_wp2_with (at_builtin; refine wpList_append_one rfl _ _ 47 rfl (w.heap.size + 1) 25 i0 (.float .f64 0) 8 Try.underlying47 hi hz0 hz1 hz2 rfl _ _ _ rfl (hownYx.alloc _) ⟨wx.heap.size, 0, none⟩ 1 _ rfl (cell_one_new _ _ _) ?d2 ?d3 ?d4 ?d5 ?_)
                  case d2 => intro y hy; simp at hy; subst hy; rfl
                  case d3 => unfold maxLen; omega
                  case d4 => omega
                  case d5 => simp; omega
                  intro u1 wy hown2 hgrow2 hblk2
                  obtain ⟨hown1, hap1, hbx⟩ := H1.out
                  have hownX := (hown1.alloc (.cells #[.float .f64 (floatOfInt .f64 n2)] 25))
                  have hownX2 := hownX.kept hgrow2 hap1
                  have hap2 := (apart_step hap1.symm (fun k hk => by have := (hownX.lt k hk).2; simpa using this) hblk2).symm
                  have hby : Below (w.heap.size + 1) W0 wy := (hbx.alloc (by omega) _).grown hgrow2 (by simp; omega) (fun k hk => (hownYx.lt k hk).1)
                  have hcu1 : ∃ a2 c2, u1 = .slice a2 (K + 1) c2 := row_any hown2
                  obtain ⟨a2, c2, rfl⟩ := hcu1
                  rw [f64s_snoc, ← HE2.out] at hown2
                  have HF' := Lib.hid (And.intro hownX2 (And.intro hown2 (And.intro hap2 hby)))
                  clear hown1 hap1 hbx hownX hownX2 hap2 hby hown2 hgrow2 hblk2 hownYx H1 hszx
                  go_wp2
                  go_roundw
                  case rel => exact ⟨k + 1, by omega, by go_num, by rw [HE3.out]; exact HF'.out.1, by rw [HE3.out]; exact HF'.out.2.1, HSC'.out, HF'.out.2.2.1, HF'.out.2.2.2⟩
                  case measure => simp [intOf]; omega
              · have HE3 := Lib.hid (e0.out (by simp [numB, hk2]))
                clear e0 HZ
                go_wp2_with (first | (go_at_call_of 24 n1; refine (F1 _).mono ?_; rintro e w1 ⟨rfl, hb1⟩; replace hc0 := cell_below hc0 hb1; replace hc1 := cell_below hc1 hb1; replace hc2 := cell_below hc2 hb1; replace hd0 := cell_below hd0 hb1; replace hd1 := cell_below hd1 hb1; replace hd2 := cell_below hd2 hb1) | (go_at_call_of 24 n2; refine (F2 _).mono ?_; rintro e w2 ⟨rfl, hb2⟩; have hbC := hb1.trans (hb2.mono hb1.size); have HBC := Lib.hid hbC; replace hc0 := cell_below hc0 hb2; replace hc1 := cell_below hc1 hb2; replace hc2 := cell_below hc2 hb2; replace hd0 := cell_below hd0 hb2; replace hd1 := cell_below hd1 hb2; replace hd2 := cell_below hd2 hb2))
                have HROW' := HROW.out
                clear HROW
                go_roundw
                case rel => exact ⟨k + 1, by omega, by go_num, by rw [HE3.out]; exact row_below HROW'.1 HBC.out, by rw [HE3.out]; exact row_below HROW'.2.1 HBC.out, HSC'.out, HROW'.2.2.1, HROW'.2.2.2.trans (HBC.out.mono (by have := HROW'.2.2.2.size; omega))⟩
                case measure => simp [intOf]; omega
          · have HE3 := Lib.hid (e0.out (by simp [numB, hk1]))
            clear e0 HZ
            go_wp2_with (first | (go_at_call_of 24 n1; refine (F1 _).mono ?_; rintro e w1 ⟨rfl, hb1⟩; replace hc0 := cell_below hc0 hb1; replace hc1 := cell_below hc1 hb1; replace hc2 := cell_below hc2 hb1; replace hd0 := cell_below hd0 hb1; replace hd1 := cell_below hd1 hb1; replace hd2 := cell_below hd2 hb1) | (go_at_call_of 24 n2; refine (F2 _).mono ?_; rintro e w2 ⟨rfl, hb2⟩; have hbC := hb1.trans (hb2.mono hb1.size); have HBC := Lib.hid hbC; replace hc0 := cell_below hc0 hb2; replace hc1 := cell_below hc1 hb2; replace hc2 := cell_below hc2 hb2; replace hd0 := cell_below hd0 hb2; replace hd1 := cell_below hd1 hb2; replace hd2 := cell_below hd2 hb2))
            have HROW' := HROW.out
            clear HROW
            go_roundw
            case rel => exact ⟨k + 1, by omega, by go_num, by rw [HE3.out]; exact row_below HROW'.1 HBC.out, by rw [HE3.out]; exact row_below HROW'.2.1 HBC.out, HSC'.out, HROW'.2.2.1, HROW'.2.2.2.trans (HBC.out.mono (by have := HROW'.2.2.2.size; omega))⟩
            case measure => simp [intOf]; omega
        · have hr : res = .tuple #[slopeT 0 0 0, .int .i64 (wrongV kk' n2 s')] := HRES.out.wrong (by rw [hscd.out]; simp [hw1, hw2]) hw2
          have HR := Lib.hid hr
          rw [hw1] at F1
          clear hr hscd hscn HRES HSC HZ
          have hne1 : (wrongV kk' n2 s' != 0) = true := bne_iff_ne.2 hw2
          go_wp2_with (first | (go_at_call_of 24 n1; refine (F1 _).mono ?_; rintro e w1 ⟨rfl, hb1⟩; replace hc0 := cell_below hc0 hb1; replace hc1 := cell_below hc1 hb1; replace hc2 := cell_below hc2 hb1; replace hd0 := cell_below hd0 hb1; replace hd1 := cell_below hd1 hb1; replace hd2 := cell_below hd2 hb1) | (go_at_call_of 24 n2; refine (F2 _).mono ?_; rintro e w2 ⟨rfl, hb2⟩; have hbx := hb.trans ((hb1.trans (hb2.mono hb1.size)).mono (by omega)); clear hb1 hb2 hb hown hown'; have rr := hbx.row R0.out (by omega); obtain ⟨c0, c1, c2⟩ := cellsT rr; have g0 := row_froz rr 0; have g1 := row_froz rr 1; have g2 := row_froz rr 2; have sR := (Array.getElem?_eq_some_iff.1 rr).1; have HBW := Lib.hid (HB0.out.trans (hbx.mono (by omega))); clear rr hbx hc0 hc1 hc2 hd0 hd1 hd2))
          exact bodyPost_ret (v := .tuple #[slopeT 0 0 0, .int .i64 (wrongV kk' n2 s')]) (by simp [results, Try.results15, go_sem, slopeT, c0, c1, c2, g0, g1, g2]) rfl ⟨by rw [HR.out], ((HBW.out.setCell (p := ⟨w.heap.size, 0, none⟩) (Nat.le_refl _) _).setCell (p := ⟨w.heap.size, 1, none⟩) (Nat.le_refl _) _).setCell (p := ⟨w.heap.size, 2, none⟩) (Nat.le_refl _) _⟩
      · have hr : res = .tuple #[slopeT 0 0 0, .int .i64 (wrongV kk n1 s)] := HRES.out.wrong (by rw [hscd.out]; simp [hw1]) hw1
        have HR := Lib.hid hr
        clear hr hscd hscn HRES HSC HZ F2
        have hne1 : (wrongV kk n1 s != 0) = true := bne_iff_ne.2 hw1
        have hne2 : (wrongV kk n1 s == 0) = false := beq_eq_false_iff_ne.2 hw1
        go_wp2_with (first | (go_at_call_of 24 n1; refine (F1 _).mono ?_; rintro e w1 ⟨rfl, hb1⟩; have hbx := hb.trans (hb1.mono (by omega)); clear hb1 hb hown hown'; have rr := hbx.row R0.out (by omega); obtain ⟨c0, c1, c2⟩ := cellsT rr; have g0 := row_froz rr 0; have g1 := row_froz rr 1; have g2 := row_froz rr 2; have sR := (Array.getElem?_eq_some_iff.1 rr).1; have HBW := Lib.hid (HB0.out.trans (hbx.mono (by omega))); clear rr hbx hc0 hc1 hc2 hd0 hd1 hd2))
        exact bodyPost_ret (v := .tuple #[slopeT 0 0 0, .int .i64 (wrongV kk n1 s)]) (by simp [results, Try.results15, go_sem, slopeT, c0, c1, c2, g0, g1, g2]) rfl ⟨by rw [HR.out], ((HBW.out.setCell (p := ⟨w.heap.size, 0, none⟩) (Nat.le_refl _) _).setCell (p := ⟨w.heap.size, 1, none⟩) (Nat.le_refl _) _).setCell (p := ⟨w.heap.size, 2, none⟩) (Nat.le_refl _) _⟩
    · obtain rfl : k = n := by omega
      have ht : (vs.zip us).take k = vs.zip us := List.take_of_length_le (by simp; omega)
      rw [ht] at hown hown' HSC ⊢
      clear ht
      have hpl : (pairsV (vs.zip us)).length ≤ 8000 := Nat.le_trans (pairsV_len _) (by simp; omega)
      have hbd := pairs_bnd (zip_fits HF.out HG.out)
      have hLG := HRES.out
      unfold LineG at hLG
      rw [HSC.out] at hLG
      generalize pairsV (vs.zip us) = ps at *
      obtain ⟨K, hK⟩ : ∃ K, ps.length = K := ⟨_, rfl⟩
      have hlx : (ps.map Prod.fst).length = K := by simp [hK]
      have hly : (ps.map Prod.snd).length = K := by simp [hK]
      rw [hK] at hown hown' hpl hLG ⊢
      generalize ps.map Prod.fst = xs at *
      generalize ps.map Prod.snd = ys at *
      have HXB := Lib.hid hbd.1
      have HYB := Lib.hid hbd.2
      clear hbd
      rcases hLG with ⟨h0, _⟩ | ⟨_, hK2, hr⟩ | ⟨_, h2, hres⟩
      · exact absurd rfl h0
      · have hkl : (K : Int) < 2 := by omega
        have rr := hb.row R0.out (by omega)
        obtain ⟨c0, c1, c2⟩ := cellsT rr
        have g0 := row_froz rr 0
        have g1 := row_froz rr 1
        have g2 := row_froz rr 2
        have sR := (Array.getElem?_eq_some_iff.1 rr).1
        have HBW := Lib.hid (HB0.out.trans (hb.mono (by omega)))
        have HR := Lib.hid hr
        clear rr hb hown hown' hr HRES
        go_wp2_with fail
        exact bodyPost_ret (v := .tuple #[slopeT 0 0 0, .int .i64 5]) (by simp [results, Try.results15, go_sem, slopeT, c0, c1, c2, g0, g1, g2]) rfl ⟨by rw [HR.out], ((HBW.out.setCell (p := ⟨w.heap.size, 0, none⟩) (Nat.le_refl _) _).setCell (p := ⟨w.heap.size, 1, none⟩) (Nat.le_refl _) _).setCell (p := ⟨w.heap.size, 2, none⟩) (Nat.le_refl _) _⟩
      · replace HRES := Lib.hid hres
        clear hres
        have hl : K ≤ 8000 := hpl
        have hown1 := hown
        have hown2 := hown'
        rw [show K = K - 1 + 1 by omega] at hown1 hown2
        obtain ⟨g, cx, hgx⟩ := slice_form hown1
        obtain ⟨g', cy, hgy⟩ := slice_form hown2
        rw [show K - 1 + 1 = K by omega] at hgx hgy
        rw [hgx] at hown ⊢
        rw [hgy] at hown' ⊢
        have hh : HasF wr g xs := HasF.of_own (by rw [hlx]; exact hown)
        have hh' : HasF wr g' ys := HasF.of_own (by rw [hly]; exact hown')
        have HH := Lib.hid hh
        have HH' := Lib.hid hh'
        have HB := Lib.hid hb
        have hkl : ¬ ((K : Int) < 2) := by omega
        have hKb : K ≤ 8000 := hl
        clear hown hown' hown1 hown2 hgx hgy hap hb hh hh'
        have M1 := mean22 g cx xs
        have M2 := mean22 g' cy ys
        rw [hlx] at M1
        rw [hly] at M2
        have HMX := Lib.hid (mean_bd xs HXB.out (by omega) (by omega))
        have HMY := Lib.hid (mean_bd ys HYB.out (by omega) (by omega))
        go_wp2_with (first | (go_at_call_of 22 g; refine (M1 _ HH.out HXB.out (by omega) (by omega)).mono ?_; rintro e w1 ⟨rfl, rfl⟩) | (go_at_call_of 22 g'; refine (M2 _ HH'.out HYB.out (by omega) (by omega)).mono ?_; rintro e w2 ⟨rfl, rfl⟩))
        have HX2 := HH
        have HY2 := HH'
        refine (spread23 g cx g cx _ _ K xs xs _ hlx hlx HX2.out HX2.out HXB.out HXB.out HMX.out.2 HMX.out.2 hKb).mono ?_
        rintro e w3 ⟨rfl, hb3⟩
        have HX3 := Lib.hid (HX2.out.below hb3)
        have HY3 := Lib.hid (HY2.out.below hb3)
        go_wp2_with fail
        refine (spread23 g cx g' cy _ _ K xs ys _ hlx hly HX3.out HY3.out HXB.out HYB.out HMX.out.2 HMY.out.2 hKb).mono ?_
        rintro e w4 ⟨rfl, hb4⟩
        have HY4 := Lib.hid (HY3.out.below hb4)
        go_wp2_with fail
        refine (spread23 g' cy g' cy _ _ K ys ys _ hly hly HY4.out HY4.out HYB.out HYB.out HMY.out.2 HMY.out.2 hKb).mono ?_
        rintro e w5 ⟨rfl, hb5⟩
        have hb35 := hb3.trans ((hb4.trans (hb5.mono hb4.size)).mono hb3.size)
        have hbW : Below (w.heap.size + 1) W0 w5 := HB.out.trans ((hb35).mono (by have := HB.out.size; omega))
        have rr := hbW.row R0.out (by omega)
        obtain ⟨c0, c1, c2⟩ := cellsT rr
        have g0 := row_froz rr 0
        have g1 := row_froz rr 1
        have g2 := row_froz rr 2
        have sR := (Array.getElem?_eq_some_iff.1 rr).1
        have HBW := Lib.hid (HB0.out.trans (hbW.mono (by omega)))
        clear rr hbW hb3 hb4 hb5 hb35 M1 M2
        have eXX : spreadV (meanV xs) (meanV xs) xs xs = sXX xs := rfl
        have eXY : spreadV (meanV xs) (meanV ys) xs ys = sXY xs ys := rfl
        have eYY : spreadV (meanV ys) (meanV ys) ys ys = sXX ys := rfl
        rw [eXX, eXY, eYY]
        clear eXX eXY eYY
        rcases HRES.out with ⟨h0, rfl⟩ | ⟨h0, base, rise, fit, ⟨t1, ⟨p, t2, t3⟩, t4⟩, rfl⟩
        · have qz : (FloatKind.f64.format.order (sXX xs) 0 == some .eq) = true := by rw [show FloatKind.f64.format.order (sXX xs) 0 = some .eq from h0]; rfl
          clear h0 HRES
          go_wp2_with fail
          exact bodyPost_ret (v := .tuple #[slopeT 0 0 0, .int .i64 5]) (by simp [results, Try.results15, go_sem, slopeT, c0, c1, c2, g0, g1, g2]) rfl ⟨rfl, ((HBW.out.setCell (p := ⟨w.heap.size, 0, none⟩) (Nat.le_refl _) _).setCell (p := ⟨w.heap.size, 1, none⟩) (Nat.le_refl _) _).setCell (p := ⟨w.heap.size, 2, none⟩) (Nat.le_refl _) _⟩
        · have qz : (FloatKind.f64.format.order (sXX xs) 0 == some .eq) = false := beq_eq_false_iff_ne.2 h0
          have q1 := fun (t : TypeId) (w : World) => run_float_arith (P := Try.prog) w .quo t .f64 _ _ _ t1
          have q2 := fun (t : TypeId) (w : World) => run_float_arith (P := Try.prog) w .mul t .f64 _ _ _ t2
          have q3 := fun (t : TypeId) (w : World) => run_float_arith (P := Try.prog) w .sub t .f64 _ _ _ t3
          clear h0 HRES t1 t2 t3
          rcases t4 with ⟨h1, rfl⟩ | ⟨h1, a, b, u1, u2, u3⟩
          · have qn : (FloatKind.f64.format.order (sXX ys) 0 != some .eq) = false := by rw [show FloatKind.f64.format.order (sXX ys) 0 = some .eq from h1]; rfl
            clear h1
            go_wp2_with fail
            exact bodyPost_ret (v := .tuple #[slopeT base rise 4607182418800017408, .int .i64 0]) (by simp [results, Try.results15, go_sem, slopeT, c0, c1, c2, g0, g1, g2, sR]) rfl ⟨rfl, (((HBW.out.setCell (p := ⟨w.heap.size, 0, none⟩) (Nat.le_refl _) _).setCell (p := ⟨w.heap.size, 1, none⟩) (Nat.le_refl _) _).setCell (p := ⟨w.heap.size, 2, none⟩) (Nat.le_refl _) _).alloc (by have := HBW.out.size; simpa using this) _⟩
          · have qn : (FloatKind.f64.format.order (sXX ys) 0 != some .eq) = true := bne_iff_ne.2 h1
            have q4 := fun (t : TypeId) (w : World) => run_float_arith (P := Try.prog) w .mul t .f64 _ _ _ u1
            have q5 := fun (t : TypeId) (w : World) => run_float_arith (P := Try.prog) w .mul t .f64 _ _ _ u2
            have q6 := fun (t : TypeId) (w : World) => run_float_arith (P := Try.prog) w .quo t .f64 _ _ _ u3
            clear h1 u1 u2 u3
            go_wp2_with fail
            exact bodyPost_ret (v := .tuple #[slopeT base rise fit, .int .i64 0]) (by simp [results, Try.results15, go_sem, slopeT, c0, c1, c2, g0, g1, g2, sR]) rfl ⟨rfl, (((HBW.out.setCell (p := ⟨w.heap.size, 0, none⟩) (Nat.le_refl _) _).setCell (p := ⟨w.heap.size, 1, none⟩) (Nat.le_refl _) _).setCell (p := ⟨w.heap.size, 2, none⟩) (Nat.le_refl _) _).alloc (by have := HBW.out.size; simpa using this) _⟩
end Go.Proofs.Ytcgkolaljgpphaa
