/- quadrillelaw23.FrameFresh answers true at every input: the walk. -/
import Derived.Test.YtfbmfcipaikaoaaFreshT
import Derived.Test.YtfbmfcipaikaoaaBegun
import Derived.Test.YtfbmfcipaikaoaaFrame
import Derived.Deep.Cut
import Derived.Deep.CutRange
import Derived.Deep.CutBlock
import Derived.Deep.DeepMust
import Derived.Deep.AppendLies
namespace Go.Proofs.Ytfbmfcipaikaoaa
set_option linter.unusedVariables false
set_option linter.unusedSimpArgs false
open Go.RowKit Go.Maps

theorem room24 (a c : Int) (w : World) (ha : 0 ≤ a) (hb : a ≤ 1000000000) :
    Calls Try.prog 24 #[.int .i64 a, .int .i64 c] w fun e w' => e = .returned (.int .i64 (if c > a + 70000 then a + 70000 else c)) ∧ w = w' := by
  go_enter Try.func24, Try.ntmps24
  go_wp2_with fail
  all_goals
    go_ret
    exact ⟨rfl, rfl⟩

theorem size_two {c t : Nat} (h : c ≤ 1048576 + 421800 * (t + 1)) (ht : t ≤ 1) : c ≤ 2000000 :=
  Nat.le_trans h (Nat.le_trans (Nat.add_le_add_left (Nat.mul_le_mul_left 421800 (Nat.succ_le_succ ht)) _) (by decide))
theorem below_cellF {w w' : World} {p : Addr} {x : Value} (hb : Below w.heap.size w w') (h : w.cell? p = some x) : w'.cell? p = some x := cell_below h hb
abbrev BdH (ms : List Hd) : Prop := ∀ h ∈ ms, h.2.1 ≤ 300 ∧ h.2.1 ≤ h.2.2
abbrev BdQ (l : List Qu) : Prop := ∀ z ∈ l, z.fs.length ≤ 300
/-- What stands between the rounds. -/
def FS (W0 W : World) (Pb S S' : Nat) (p : PD) (fs : List Fr) (m : Nat) (L Qv Wv : Value) (ms : List Hd) (l : List Qu) (qs : List RoL) : Prop :=
  Fx W0 W Pb S S' p fs m fs m (lRow L ms :: lRow Qv (l.map (·.q)) :: lRow Wv (l.map (·.w)) :: louds ms) (qs ++ roz l)

set_option maxRecDepth 100000 in
set_option maxHeartbeats 4000000 in
theorem frameFresh_walk (A : Option Addr) (C n : Nat) (os : List OpV) (w : World) (ho : OpsAt w A os) (hf : ∀ o ∈ os, o.fits) (hn : os.length = n) (hl : n ≤ 35184372088832) :
    Calls Try.prog 6 #[.slice A n C] w fun e w' => e = .returned (.bool true) ∧ Below w.heap.size w w' := by
  have HO := Lib.hid ho
  have HF := Lib.hid hf
  clear ho hf
  go_enter Try.func6, Try.ntmps6
  go_wp2_with (first | (go_at_call 7; refine (begun7 _).mono ?_; rintro e w1 ⟨rfl, hb1⟩))
  refine (anew19 _).mono ?_
  rintro e w2 ⟨S, S', p0, rfl, hpr0, hb2⟩
  have HT : Hid (FS w (w2.alloc (.cells #[.pointer (some ⟨S, 0, none⟩), .pointer (some ⟨S', 0, none⟩)] 53)) w2.heap.size S S' p0 [] 0 (.slice none 0 0) (.slice none 0 0) (.slice none 0 0) [] [] []) := by
    have ha := (Below.refl w2.heap.size w2).alloc (Nat.le_refl _) (.cells #[.pointer (some ⟨S, 0, none⟩), .pointer (some ⟨S', 0, none⟩)] 53)
    have s1 := hb1.size
    have s2 := hb2.size
    have q0 := (hpr0.below ha).base s1
    have h0 : Fx w (w2.alloc (.cells #[.pointer (some ⟨S, 0, none⟩), .pointer (some ⟨S', 0, none⟩)] 53)) w2.heap.size S S' p0 [] 0 [] 0 [] [] :=
      ⟨(hb1.trans (hb2.mono s1)).trans (ha.mono (by omega)), q0.a, q0.b, q0.ne, heap_alloc_new w2 _, fun e => by have := (hpr0.px _ e).2; omega, ⟨fun r hr => (by cases hr), .nil⟩, fun r hr => (by cases hr), fun x hx => (by cases hx)⟩
    exact ((h0.nilrow 30 1).nilrow 30 1).nilrow 30 1
  clear hb1 hb2 hpr0
  obtain ⟨Pb, hPb⟩ : ∃ Pb, w2.heap.size = Pb := ⟨_, rfl⟩
  rw [hPb] at HT
  go_upto_block 0 with fail
  clear hPb
  go_cut [4, 5, 6] from 26 to 184 (fun L Qv Wv wc => ∃ (ms : List Hd) (l : List Qu) (p : PD) (fs : List Fr) (m : Nat), FS w wc Pb S S' p fs m L Qv Wv ms l [] ∧ BdH ms ∧ BdQ l ∧ ms.length ≤ 600 ∧ l.length ≤ 900 ∧ fs.length ≤ 300)
  case first =>
    go_wp2_with fail
    go_loopw [4, 5, 6, 7, 8] (fun L Qv Wv sz i wr => ∃ (k c : Nat) (ms : List Hd) (l : List Qu) (p : PD) (fs : List Fr) (m : Nat), k ≤ n ∧ k ≤ 300 ∧ i = .int .i64 k ∧ sz = .int .i64 c ∧ c ≤ 2000000 ∧ fs.length ≤ k ∧ ms.length ≤ 2 * k ∧ l.length ≤ 3 * k ∧ BdH ms ∧ BdQ l ∧ FS w wr Pb S S' p fs m L Qv Wv ms l []) (fun _ _ _ _ i _ => n - (intOf i).toNat)
    case atStart => exact ⟨0, 0, [], [], p0, [], 0, by omega, by omega, rfl, rfl, by omega, by simp, by simp, by simp, fun h hh => (by cases hh), fun z hz => (by cases hz), HT.out⟩
    case round =>
      obtain ⟨k, c, ms, l, p, fs, m, hk, hk3, rfl, rfl, hc, hfl, hml, hll, hbm, hbl, hfx⟩ := hrel
      have HX := Lib.hid hfx
      have HBD := Lib.hid (And.intro hbm hbl)
      clear hbm hbl hfx
      by_cases hlt : k < n
      · by_cases h300 : k < 300
        · have hki : (k : Int) < 300 := by omega
          obtain ⟨b, off, o, rfl, hbl, hfit, a0, a1, a2, a3, a4⟩ := HO.out.get HF.out (i := k) (by omega)
          obtain ⟨ok, ob, pr, pc, pn⟩ := o
          simp only at a0 a1 a2 a3 a4
          have HA : Hid (∀ wx, Below w.heap.size w wx → wx.cell? ⟨b, off + k * 5, none⟩ = some (.int .i64 ok) ∧ wx.cell? ⟨b, off + k * 5 + 1, none⟩ = some (.bool ob) ∧ wx.cell? ⟨b, off + k * 5 + 2, none⟩ = some (.int .i64 pr) ∧ wx.cell? ⟨b, off + k * 5 + 3, none⟩ = some (.int .i64 pc) ∧ wx.cell? ⟨b, off + k * 5 + 4, none⟩ = some (.int .i64 pn)) :=
            fun wx hx => ⟨cell_below a0 hx, cell_below a1 hx, cell_below a2 hx, cell_below a3 hx, cell_below a4 hx⟩
          have HFT := Lib.hid hfit
          clear a0 a1 a2 a3 a4 hbl hfit
          obtain ⟨a0, a1, a2, a3, a4⟩ := HA.out _ HX.out.bl
          obtain ⟨z0, z1⟩ := cells2' HX.out.rz
          by_cases h7 : ok < 7
          · as_aux_lemma =>
              have HPL := Lib.hid (plays21 (HX.out.pr.below (Below.refl _ _).drew) ok ob pr pc pn HFT.out.2.1 HFT.out.2.2.1 HFT.out.2.2.2 (by omega))
              go_wp2_with fail
              go_region_held3 (fun w' => (w'.cell? ⟨Pb, 0, none⟩ = some (.pointer (some ⟨S, 0, none⟩)) ∧ w'.cell? ⟨Pb, 1, none⟩ = some (.pointer (some ⟨S', 0, none⟩))) ∧ (w'.cell? ⟨b, off + k * 5, none⟩ = some (.int .i64 ok) ∧ w'.cell? ⟨b, off + k * 5 + 1, none⟩ = some (.bool ob) ∧ w'.cell? ⟨b, off + k * 5 + 2, none⟩ = some (.int .i64 pr) ∧ w'.cell? ⟨b, off + k * 5 + 3, none⟩ = some (.int .i64 pc) ∧ w'.cell? ⟨b, off + k * 5 + 4, none⟩ = some (.int .i64 pn))) (first | exact ⟨⟨z0, z1⟩, a0, a1, a2, a3, a4⟩ | exact ⟨hz9, ha9⟩ | go_keep) (first | (go_at_call 21; refine HPL.out.mono ?_; rintro e w9 ⟨rfl, p9, fs9, m9, hp9, ht9, hl9⟩; have hx9 := Fx.play (HX.out.below (Below.refl _ _).drew) ht9 hp9; have hz9 := cells2' hx9.rz; have ha9 := HA.out _ hx9.bl))
              all_goals
                have HX9 := Lib.hid hx9
                clear hx9 ht9 hp9 hz9 ha9 z0 z1 a0 a1 a2 a3 a4 HPL
                go_wp2_with fail
                go_roundw
                case rel => exact ⟨k + 1, c, ms, l, p9, fs9, m9, by omega, by omega, by go_num, rfl, hc, by omega, by omega, by omega, HBD.out.1, HBD.out.2, HX9.out⟩
                case measure => simp [intOf]; omega
          · --LISTS
            go_wp2_with fail
            refine (allR22 HX.out.b).mono ?_
            rintro e w4 ⟨vw, rfl, hown, hb4⟩
            obtain ⟨aW, cW, hvw⟩ := row_any hown
            subst hvw
            have hcW : fs.length ≤ cW := (own_capF hown).1
            have HX4 : Hid (FS w w4 Pb S S' p fs m u4 u5 u6 ms l [((aW, fs.length, cW), fs)]) := Fx.toro (Fx.cons (r := fRow (.slice aW fs.length cW) fs) HX.out hb4 hown) rfl
            clear hown hb4 z0 z1 a0 a1 a2 a3 a4
            go_upto_if 59 with fail
            by_cases hbig : (1048576 : Int) < (c : Int) + 20 + 6 * (fs.length : Int)
            · go_wp2_with fail
              go_meet
              case rel => exact ⟨ms, l, p, fs, m, Fx.rosub HX4.out (fun x hx => List.mem_cons_of_mem _ hx), HBD.out.1, HBD.out.2, by omega, by omega, by omega⟩
            · obtain ⟨c2, hc2⟩ : ∃ c2 : Nat, c + 20 + 6 * fs.length = c2 := ⟨_, rfl⟩
              have hc3 : c2 ≤ 1048576 := by omega
              go_upto_block 2 with fail
              rw [show (c : Int) + 20 + 6 * (fs.length : Int) = (c2 : Int) by omega]
              clear hbig hc2
              go_wp2_with fail
              go_loopw [4, 5, 6, 7, 11] (fun L Qv Wv sz kk wr => ∃ (q c : Nat) (ms : List Hd) (l : List Qu) (p : PD) (fs1 : List Fr) (m : Nat), q ≤ 2 ∧ kk = .int .i64 q ∧ sz = .int .i64 c ∧ (q = 0 → c ≤ 1048576) ∧ c ≤ 2000000 ∧ (q ≤ 1 → fs1 = fs) ∧ fs1.length ≤ k ∧ (q = 0 → ms.length ≤ 2 * k) ∧ ms.length ≤ 2 * k + 2 ∧ (q ≤ 1 → l.length ≤ 3 * k) ∧ l.length ≤ 3 * k + 3 ∧ BdH ms ∧ BdQ l ∧ Fx w wr Pb S S' p fs1 m fs1 m (bas L Qv Wv ms l) (((aW, fs.length, cW), fs) :: roz l)) (fun _ _ _ _ kk _ => 2 - (intOf kk).toNat)
              case atStart => exact ⟨0, c2, ms, l, p, fs, m, by omega, rfl, rfl, fun _ => hc3, by omega, fun _ => rfl, hfl, fun _ => hml, by omega, fun _ => hll, by omega, HBD.out.1, HBD.out.2, HX4.out⟩
              case round =>
                clear hc3 hc hml hll HX HBD HX4
                obtain ⟨q, c, ms, l, p, fs1, m, hq, rfl, rfl, hc0, hc, hf1, hfl1, hm0, hml, hl0, hll, hbm, hbl, hfx⟩ := hrel
                by_cases hq2 : q < 2
                · have hqi : (q : Int) < 2 := by omega
                  have ef : fs = fs1 := (hf1 (by omega)).symm
                  subst ef
                  have hl0 := hl0 (by omega)
                  clear hf1 hfl1
                  have HBD := Lib.hid (And.intro hbm hbl)
                  have HX := Lib.hid hfx
                  have HN := Lib.hid (And.intro hc0 (And.intro hm0 (And.intro hml (And.intro hll (And.intro hl0 hc)))))
                  clear hc0 hm0 hml hll hl0 hc hbm hbl hfx
                  obtain ⟨z0, z1⟩ := cells2' HX.out.rz
                  go_wp2_with fail
                  refine (all9 HX.out.a).mono ?_
                  rintro e w5 ⟨v5, rfl, hown, hb5⟩
                  obtain ⟨aA, cA, hv⟩ := row_any hown
                  subst hv
                  have HX5 := Lib.hid (Fx.cons (r := fRow (.slice aA fs.length cA) fs) HX.out hb5 hown)
                  clear hown hb5 z0 z1 HX
                  go_upto_if 71 with fail
                  obtain ⟨X, hX⟩ : ∃ X, w5.alloc (.cells #[.slice aA fs.length cA] 30) = X := ⟨_, rfl⟩
                  obtain ⟨g0, hg0⟩ : ∃ g, w5.heap.size = g := ⟨_, rfl⟩
                  have HX6 : Hid (Fx w X Pb S S' p fs m fs m (lRow (.slice (some ⟨g0, 0, none⟩) 1 1) [(aA, fs.length, cA)] :: fRow (.slice aA fs.length cA) fs :: bas u4 u5 u6 ms l) (((aW, fs.length, cW), fs) :: roz l)) := by
                    rw [← hX, ← hg0]
                    exact Fx.cons (r := lRow (.slice (some ⟨w5.heap.size, 0, none⟩) 1 1) [(aA, fs.length, cA)]) HX5.out ((Below.refl _ _).alloc (Nat.le_refl _) _) (World.ownsRow_lit w5 #[.slice aA fs.length cA] 1 (Nat.le_refl _) (by unfold maxLen; omega) rfl)
                  rw [hX, hg0]
                  clear HX5 hX hg0
                  go_cut [12] from 61 to 184 (fun v wc => ∃ (us : List (Hd × List Fr)) (gG cG : Nat), us.length ≤ 2 ∧ 1 ≤ us.length ∧ (us.length = 1 → fs = []) ∧ Told fs us ∧ v = .slice (some ⟨gG, 0, none⟩) us.length cG ∧ Fx w wc Pb S S' p fs m fs m (lRow (.slice (some ⟨gG, 0, none⟩) us.length cG) (us.map (·.1)) :: (us.map unm ++ bas u4 u5 u6 ms l)) (((aW, fs.length, cW), fs) :: roz l))
                  case first =>
                    as_aux_lemma =>
                      by_cases hP0 : fs = []
                      · have hz0 : ¬ ((0 : Int) < (fs.length : Int)) := by rw [hP0]; decide
                        have HP0 := Lib.hid hP0
                        clear hP0
                        go_wp2_with fail
                        go_meet
                        case rel =>
                          refine ⟨[((aA, fs.length, cA), fs)], g0, 1, by simp, by simp, fun _ => HP0.out, fun j u hu => ?_, rfl, HX6.out⟩
                          cases j with
                          | zero => cases hu; exact ⟨rfl, (wantJ_ne fs (by omega)).symm⟩
                          | succ j => cases hu
                      · have hp0 : 0 < fs.length := List.length_pos_iff.2 hP0
                        have hpi : (0 : Int) < (fs.length : Int) := by omega
                        have hqh : fs.length / 2 < fs.length := by omega
                        have hPq : fs[fs.length / 2]? = some fs[fs.length / 2] := List.getElem?_eq_getElem hqh
                        obtain ⟨f, hf⟩ : ∃ f, fs[fs.length / 2] = f := ⟨_, rfl⟩
                        rw [hf] at hPq
                        have hposf := pos_uq HX6.out.a.uq hPq
                        have hftf := HX6.out.a.ft f (List.mem_of_getElem? hPq)
                        obtain ⟨bW, oW, eW, _, u0, u1, _, _⟩ := (HX6.out.ro _ List.mem_cons_self).1.at_ _ f hPq
                        have eW' : aW = some ⟨bW, oW, none⟩ := eW
                        subst eW'
                        obtain ⟨z0, z1⟩ := cells2' HX6.out.rz
                        have HF2 := Lib.hid (And.intro hposf hftf)
                        clear hposf hftf hPq hf eW
                        obtain ⟨h2, hh2⟩ : ∃ h2, fs.length / 2 = h2 := ⟨_, rfl⟩
                        rw [hh2] at u0 u1 hqh HF2
                        have htd : Int.tdiv (fs.length : Int) 2 = (h2 : Int) := by rw [Int.tdiv_eq_ediv_of_nonneg (by omega)]; omega
                        have hwr : IntKind.i64.wrap (h2 : Int) = (h2 : Int) := by simp [IntKind.wrap, IntKind.signed, IntKind.bits]; omega
                        have hb0 : (0 : Int) ≤ (h2 : Int) := by omega
                        have hb1 : (h2 : Int) < (fs.length : Int) := by omega
                        clear hP0
                        go_wp2_with fail
                        go_region_held3 (fun w' => (w'.cell? ⟨Pb, 0, none⟩ = some (.pointer (some ⟨S, 0, none⟩)) ∧ w'.cell? ⟨Pb, 1, none⟩ = some (.pointer (some ⟨S', 0, none⟩))) ∧ (w'.cell? ⟨bW, oW + h2 * 4, none⟩ = some (.int .i64 f.r) ∧ w'.cell? ⟨bW, oW + h2 * 4 + 1, none⟩ = some (.int .i64 f.c))) (first | exact ⟨⟨z0, z1⟩, u0, u1⟩ | exact ⟨⟨below_cellF hb10 z0, below_cellF hb10 z1⟩, below_cellF hb10 u0, below_cellF hb10 u1⟩ | go_keep) (first | (go_at_call 17; refine (from17_some (HX6.out.a.below (Below.refl _ _).drew) f.r f.c HF2.out.2.1.1 HF2.out.2.1.2 h2 HF2.out.1).mono ?_; rintro e w10 ⟨v15, rfl, hown15, hb10⟩; obtain ⟨a15, c15, hv15⟩ := row_any hown15; subst hv15))
                        all_goals
                          have hlD : (fs.drop h2).length = fs.length - h2 := List.length_drop
                          have HX10 : Hid (Fx w w10 Pb S S' p fs m fs m (fRow (.slice a15 (fs.length - h2) c15) (fs.drop h2) :: lRow (.slice (some ⟨g0, 0, none⟩) 1 1) [(aA, fs.length, cA)] :: fRow (.slice aA fs.length cA) fs :: bas u4 u5 u6 ms l) (((some ⟨bW, oW, none⟩, fs.length, cW), fs) :: roz l)) :=
                            Fx.cons (r := fRow (.slice a15 (fs.length - h2) c15) (fs.drop h2)) (HX6.out.below (Below.refl _ _).drew) hb10 (by rw [← hlD] at hown15 ⊢; exact hown15)
                          have HX11 := Lib.hid (HX10.out.perm (List.Perm.swap _ _ _))
                          have HX12 := Lib.hid (HX11.out.below ((Below.refl _ w10).alloc (Nat.le_refl _) (.cells #[.slice a15 (fs.length - h2) c15] 30)))
                          have hX := cell_new0F w10 (.slice a15 (fs.length - h2) c15) 30
                          have HH2 := Lib.hid (And.intro hh2 hlD)
                          clear hown15 hb10 HX6 z0 z1 u0 u1 HX10 hh2 hlD htd hwr
                          go_wp2_with (at_builtin; go_loud (refine wpList_appF rfl _ _ rfl HX12.out rfl w10.heap.size (a15, fs.length - h2, c15) rfl hX (by simp) ?_))
                          intro g cap w12 hs12
                          have HX13 := Lib.hid hs12
                          clear hs12 HX11 HX12 hX
                          go_wp2_with fail
                          go_meet
                          case rel =>
                            refine ⟨[((aA, fs.length, cA), fs), ((a15, fs.length - h2, c15), fs.drop h2)], g, cap, by simp, by simp, by simp, fun j u hu => ?_, rfl, HX13.out.perm ((List.Perm.swap _ _ _).cons _)⟩
                            match j, hu with
                            | 0, hu => cases hu; exact ⟨rfl, (wantJ_ne fs (by omega)).symm⟩
                            | 1, hu => cases hu; exact ⟨HH2.out.2.symm, by rw [wantJ_one, HH2.out.1]⟩
                            | j + 2, hu => cases hu
                  case rest =>
                    obtain ⟨us, gG, cG, hu2, hu1, hue, hT, rfl, hst⟩ := hcut
                    obtain ⟨pM, pF, pM', pF'⟩ := p
                    obtain ⟨aF, cF, hF⟩ := row_any hst.a.row
                    have hF' : pF = .slice aF fs.length cF := hF
                    subst hF'
                    have HX8 := Lib.hid hst
                    have HU := Lib.hid (And.intro hu2 (And.intro hu1 (And.intro hue hT)))
                    obtain ⟨z0, z1⟩ := cells2' hst.rz
                    obtain ⟨a0, _, _, _, _⟩ := HA.out _ hst.bl
                    clear hst hue hT hF HX6
                    go_upto_region 23 with fail
                    go_cut [98] from 61 to 184 (fun v wx => wc = wx ∧ v = .bool (clB ok q))
                    case first =>
                      rcases clB_cases ok q with ⟨hb1, hb2, hb3⟩ | ⟨hb1, hb2, hb3⟩ | ⟨hb1, hb3⟩
                      all_goals
                        have HB3 := Lib.hid hb3
                        clear hb3
                        go_wp2_with fail
                        go_meet
                        case rel => exact ⟨rfl, by rw [HB3.out]⟩
                    case rest =>
                      obtain ⟨rfl, rfl⟩ := hcut
                      go_upto_if 98 with fail
                      go_cut [12] from 61 to 184 (fun v wc => ∃ (us : List (Hd × List Fr)) (gG cG : Nat) (p : PD) (fs1 : List Fr), us.length ≤ 3 ∧ (q = 0 → us.length ≤ 2 ∧ fs1 = fs) ∧ fs1.length ≤ k ∧ Told fs us ∧ v = .slice (some ⟨gG, 0, none⟩) us.length cG ∧ Fx w wc Pb S S' p fs1 m fs1 m (lRow (.slice (some ⟨gG, 0, none⟩) us.length cG) (us.map (·.1)) :: (us.map unm ++ bas u4 u5 u6 ms l)) (((aW, fs.length, cW), fs) :: roz l))
                      case first =>
                        as_aux_lemma =>
                          rcases hcl : clB ok q with _ | _
                          · clear hcl
                            go_wp2_with fail
                            go_meet
                            case rel => exact ⟨us, gG, cG, _, fs, by omega, fun _ => ⟨hu2, rfl⟩, hfl, HU.out.2.2.2, rfl, HX8.out⟩
                          · have HQ1 := Lib.hid (clB_true hcl).2
                            clear hcl
                            go_wp2_with fail
                            refine (clear14 HX8.out.a).mono ?_
                            rintro e w14 ⟨rfl, hst14, hap14, hrow14⟩
                            have HX14 := Lib.hid (Fx.clearA HX8.out (A := aF) (n := fs.length) (cap := cF) rfl hst14 hap14 hrow14).1
                            obtain ⟨z0, z1⟩ := cells2' HX14.out.rz
                            clear hst14 hap14 hrow14
                            go_wp2_with fail
                            refine (clear23 HX14.out.b).mono ?_
                            rintro e w15 ⟨v15, M1, rfl, _, st15, hM15, _, ha15⟩
                            have HX15 := Lib.hid ((Fx.clearB HX14.out st15 ha15 hM15).perm (List.Perm.swap _ _ _))
                            have HX16 := Lib.hid (HX15.out.below ((Below.refl _ w15).alloc (Nat.le_refl _) (.cells #[.slice aF fs.length cF] 30)))
                            have hX := cell_new0F w15 (.slice aF fs.length cF) 30
                            have hul : (us.map (·.1)).length = us.length := by simp
                            have HUL := Lib.hid hul
                            clear st15 hM15 ha15 HX14 HX8 z0 z1 hul
                            go_wp2_with (at_builtin; go_loud (refine wpList_appF (v := .slice (some ⟨gG, 0, none⟩) us.length cG) rfl _ _ rfl HX16.out rfl w15.heap.size (aF, fs.length, cF) rfl hX (by rw [HUL.out]; omega) ?_))
                            intro g cap w17 hs17
                            have HX17 := Lib.hid hs17
                            clear hs17 HX15 HX16 hX
                            go_wp2_with fail
                            go_meet
                            case rel =>
                              refine ⟨us ++ [((aF, fs.length, cF), fs)], g, cap, ⟨pM, .slice none 0 0, M1, .slice none 0 0⟩, [], by simp; omega, fun e => by have := HQ1.out; omega, by simp, fun j u hu => ?_, by simp, ?_⟩
                              · by_cases hj : j < us.length
                                · rw [List.getElem?_append_left hj] at hu
                                  exact HU.out.2.2.2 j u hu
                                · rw [List.getElem?_append_right (by omega)] at hu
                                  have hj2 : j = us.length := by
                                    have := (List.getElem?_eq_some_iff.1 hu).1
                                    simp at this; omega
                                  subst hj2
                                  simp at hu
                                  subst hu
                                  refine ⟨rfl, ?_⟩
                                  by_cases h1 : us.length = 1
                                  · rw [h1, wantJ_one, HU.out.2.2.1 h1]; rfl
                                  · exact (wantJ_ne fs h1).symm
                              · have := HX17.out
                                rw [List.map_append, List.map_append, List.length_append]
                                refine this.perm (List.Perm.cons _ ?_)
                                rw [List.append_assoc]
                                exact (List.perm_middle (l₁ := us.map unm)).symm
                      case rest =>
                        as_aux_lemma =>
                          obtain ⟨us, gG, cG, p, fs1, hu3, huq, hf1, hT, rfl, hst⟩ := hcut
                          have HXJ := Lib.hid hst
                          have HTU := Lib.hid hT
                          clear hst hT HX8 HU z0 z1 a0
                          go_wp2_with fail
                          go_loopw [4, 5, 6, 7, 16] (fun L Qv Wv sz jv wr => ∃ (t c : Nat) (ms : List Hd) (l : List Qu), t ≤ us.length ∧ jv = .int .i64 t ∧ sz = .int .i64 c ∧ (q = 0 → c ≤ 1048576 + 421800 * t) ∧ c ≤ 2000000 ∧ (q = 0 → ms.length ≤ 2 * k + t) ∧ ms.length ≤ 2 * k + 2 ∧ (q = 0 → l.length ≤ 3 * k) ∧ l.length ≤ 3 * k + t ∧ BdH ms ∧ BdQ l ∧ Fx w wr Pb S S' p fs1 m fs1 m (lRow (.slice (some ⟨gG, 0, none⟩) us.length cG) (us.map (·.1)) :: ((us.drop t).map unm ++ bas L Qv Wv ms l)) (((aW, fs.length, cW), fs) :: roz l)) (fun _ _ _ _ jv _ => us.length - (intOf jv).toNat)
                          case atStart => exact ⟨0, c, ms, l, by omega, rfl, rfl, fun e => HN.out.1 e, HN.out.2.2.2.2.2, fun e => HN.out.2.1 e, HN.out.2.2.1, fun _ => HN.out.2.2.2.2.1, HN.out.2.2.2.2.1, HBD.out.1, HBD.out.2, HXJ.out⟩
                          case round =>
                            clear HXJ HN HBD
                            obtain ⟨t, c, ms, l, ht, rfl, rfl, hc0, hc, hm0, hml, hl0, hll, hbm, hbl, hfx⟩ := hrel
                            have HBD := Lib.hid (And.intro hbm hbl)
                            have HN := Lib.hid (And.intro hc0 (And.intro hm0 (And.intro hml (And.intro hll (And.intro hl0 hc)))))
                            clear hc0 hm0 hml hll hl0 hc hbm hbl
                            by_cases htu : t < us.length
                            · obtain ⟨⟨hd, gs⟩, hu⟩ : ∃ u, us[t]? = some u := ⟨_, List.getElem?_eq_getElem htu⟩
                              obtain ⟨aH, nH, cH⟩ := hd
                              obtain ⟨hn1, hgs⟩ := HTU.out t _ hu
                              simp only at hn1 hgs
                              subst hn1
                              have hgl : gs.length ≤ 300 := by have := wantJ_len fs t; rw [← hgs] at this; omega
                              have hcell : wr.cell? ⟨gG, t, none⟩ = some (.slice aH gs.length cH) := by
                                have ho := hfx.mem (r := lRow (.slice (some ⟨gG, 0, none⟩) us.length cG) (us.map (·.1))) (by simp)
                                have ho' : wr.ownsRow w.heap.size 30 1 (.slice (some ⟨gG, 0, none⟩) us.length cG) us.length ((us.map (·.1)).map hdV) := by simpa [lRow] using ho
                                rw [ho'.cellAt t (by omega)]
                                simp [hu, hdV]
                              have hd : us.drop t = ((aH, gs.length, cH), gs) :: us.drop (t + 1) := by
                                rw [← List.getElem_cons_drop htu]
                                have : us[t] = ((aH, gs.length, cH), gs) := by simpa [List.getElem?_eq_getElem htu] using hu
                                rw [this]
                              rw [hd, List.map_cons, List.cons_append] at hfx
                              obtain ⟨X', hX'⟩ : ∃ X', (us.drop (t + 1)).map unm = X' := ⟨_, rfl⟩
                              obtain ⟨G, hG⟩ : ∃ G, us.map (·.1) = G := ⟨_, rfl⟩
                              have hGn : us.length = G.length := by rw [← hG]; simp
                              have hGt : (G.map hdV)[t]? = some (.slice aH gs.length cH) := by rw [← hG]; simp [hu, hdV]
                              rw [hX', hG] at hfx
                              have HXR := Lib.hid hfx
                              have HEQ := Lib.hid (And.intro hX' (And.intro hG (And.intro hGn hGt)))
                              have HGS := Lib.hid hgs
                              have hti : (t : Int) < (us.length : Int) := by omega
                              clear hfx hX' hG hGn hGt hgs hd hu
                              go_upto_if 117 with fail
                              go_cut [10] from 109 to 184 (fun v wx => wr = wx ∧ ∃ aJ cJ, v = .slice aJ gs.length cJ ∧ Fx w wr Pb S S' p fs1 m fs1 m (lRow (.slice (some ⟨gG, 0, none⟩) us.length cG) G :: unm ((aH, gs.length, cH), gs) :: (X' ++ bas u4 u5 u6 ms l)) (((aJ, gs.length, cJ), gs) :: ((aW, fs.length, cW), fs) :: roz l))
                              case first =>
                                by_cases ht1 : t = 1
                                · have hb : ((t : Int) == 1) = true := by rw [ht1]; rfl
                                  have hgs2 : gs = fs.drop (fs.length / 2) := by rw [HGS.out, ht1, wantJ_one]
                                  have hgl2 : gs.length = fs.length - fs.length / 2 := by rw [hgs2]; simp
                                  obtain ⟨aJ, haJ⟩ : ∃ aJ, (if cW = fs.length / 2 then aW else aW.map (·.add (fs.length / 2 * 4))) = aJ := ⟨_, rfl⟩
                                  have hro := HXR.out.robeh List.mem_cons_self (fs.length / 2) (by omega) hcW
                                  rw [haJ, ← hgl2, ← hgs2] at hro
                                  have hsl : ∀ w, (Instr.slice 30 (.slice aW fs.length cW) (some (.int .i64 ((fs.length : Int) / 2))) none none).run Try.prog w = .ok (.slice aJ gs.length (cW - fs.length / 2)) w := fun w => by
                                    have := slice_lo aW fs.length cW (fs.length / 2) ((fs.length : Int) / 2) (by omega) (by omega) w
                                    rw [haJ, ← hgl2] at this
                                    exact this
                                  have HRO := Lib.hid hro
                                  clear hro hgs2 hgl2 haJ ht1
                                  go_wp2_with fail
                                  go_meet
                                  case rel => exact ⟨rfl, aJ, _, rfl, HRO.out⟩
                                · have hb : ((t : Int) == 1) = false := beq_eq_false_iff_ne.2 (by omega)
                                  have e : gs = fs := by rw [HGS.out, wantJ_ne fs ht1]
                                  have HE := Lib.hid e
                                  clear e
                                  go_wp2_with fail
                                  go_meet
                                  case rel => exact ⟨rfl, aW, cW, by rw [HE.out], HXR.out.rosub (fun x hx => by
                                    rcases List.mem_cons.1 hx with rfl | hx
                                    · rw [HE.out]; exact List.mem_cons_self
                                    · exact hx)⟩
                              case rest =>
                                obtain ⟨rfl, aJ, cJ, rfl, hfx⟩ := hcut
                                have HX20 := Lib.hid hfx
                                clear hfx HXR
                                go_wp2_with fail
                                refine (eq11 aH aJ cH cJ gs.length gs _ (frs_own (HX20.out.mem (r := unm ((aH, gs.length, cH), gs)) (by simp))) (HX20.out.ro _ List.mem_cons_self).1.at_ rfl (by omega)).mono ?_
                                rintro e w21 ⟨rfl, hb21⟩
                                have hcell2 := below_cellF hb21 hcell
                                have HX21 := Lib.hid (HX20.out.below hb21)
                                clear hb21 HX20 hcell
                                by_cases hq0 : q = 0
                                · as_aux_lemma =>
                                    have hqz : ¬ ((0 : Int) < (q : Int)) := by omega
                                    have HQ0 := Lib.hid hq0
                                    obtain ⟨huq2, e1⟩ := huq hq0
                                    have e1' := e1.symm
                                    subst e1'
                                    have hcH : gs.length ≤ cH := (own_capF (n := gs.length) (cap := cH) (A := aH) (HX21.out.mem (r := unm ((aH, gs.length, cH), gs)) (by simp))).1
                                    obtain ⟨R, hR⟩ : ∃ R : Int, (if (cH : Int) > (gs.length : Int) + 70000 then (gs.length : Int) + 70000 else (cH : Int)) = R := ⟨_, rfl⟩
                                    have hR0 : 0 ≤ R := by rw [← hR]; split <;> omega
                                    have hR1 : R ≤ 70300 := by rw [← hR]; split <;> omega
                                    have HRM : Hid (∀ w, Calls Try.prog 24 #[.int .i64 gs.length, .int .i64 cH] w fun e w' => e = .returned (.int .i64 R) ∧ w = w') := fun w => by
                                      have := room24 gs.length cH w (by omega) (by omega)
                                      rwa [hR] at this
                                    have hcb : c ≤ 1048576 + 421800 * t := HN.out.1 hq0
                                    have htb : t ≤ 1 := by omega
                                    clear hq0 huq e1
                                    have hw1 : IntKind.i64.wrap (6 * R) = 6 * R := by simp [IntKind.wrap, IntKind.signed, IntKind.bits]; omega
                                    have hw2 : IntKind.i64.wrap ((c : Int) + 6 * R) = (c : Int) + 6 * R := by simp [IntKind.wrap, IntKind.signed, IntKind.bits]; omega
                                    clear hR
                                    go_wp2_with fail
                                    go_region_held3 (fun w' => w'.cell? ⟨gG, t, none⟩ = some (.slice aH gs.length cH)) (first | exact hcell2 | assumption | go_keep) (first | (go_at_call 24; refine (HRM.out _).mono ?_; rintro e w22 ⟨rfl, rfl⟩))
                                    all_goals
                                      obtain ⟨c', hc'⟩ : ∃ c' : Nat, (c : Int) + 6 * R = (c' : Int) := ⟨((c : Int) + 6 * R).toNat, by omega⟩
                                      have hcb' : c' ≤ 1048576 + 421800 * (t + 1) := by omega
                                      have hcb3 : c' ≤ 2000000 := size_two hcb' htb
                                      have hng : ¬ ((4194304 : Int) < (c : Int) + 6 * R) := by omega
                                      have HX22 := Lib.hid ((HX21.out.below (Below.refl _ _).drew).perm (permL _ _ (unm ((aH, gs.length, cH), gs) :: X') _))
                                      have HX23 := Lib.hid (HX22.out.below ((Below.refl _ _).alloc (Nat.le_refl _) (.cells #[.slice aH gs.length cH] 30)))
                                      have hX := cell_new0F (w21.drew) (.slice aH gs.length cH) 30
                                      have HC := Lib.hid (And.intro hc' (And.intro hcb' hcb3))
                                      clear hw1 hw2 hcb hcb' hcb3 hc' HX21
                                      go_wp2_with (at_builtin; go_loud (refine wpList_appF (ms := ms) rfl _ _ rfl HX23.out rfl w21.drew.heap.size (aH, gs.length, cH) rfl hX (by have := HN.out.2.2.1; omega) ?_))
                                      intro g24 cap24 w24 hs24
                                      have HX24 := Lib.hid (hs24.perm (List.perm_middle (l₁ := [lRow (.slice (some ⟨g24, 0, none⟩) (ms.length + 1) cap24) (ms ++ [(aH, gs.length, cH)]), lRow (.slice (some ⟨gG, 0, none⟩) us.length cG) G])))
                                      clear hs24 hX HX22 HX23 hcell2
                                      go_wp2_with fail
                                      go_loopw [17] (fun xv wr => ∃ y : Nat, y ≤ gs.length ∧ xv = .int .i64 y ∧ Fx w wr Pb S S' p fs m fs m (⟨36, 4, .slice aH gs.length cH, gs.length, cellsF (zs y (-((ms.length : Int) + 1)) ++ gs.drop y)⟩ :: lRow (.slice (some ⟨g24, 0, none⟩) (ms.length + 1) cap24) (ms ++ [(aH, gs.length, cH)]) :: lRow (.slice (some ⟨gG, 0, none⟩) us.length cG) G :: (X' ++ lRow u5 (l.map (·.q)) :: lRow u6 (l.map (·.w)) :: louds ms)) (((aJ, gs.length, cJ), gs) :: ((aW, fs.length, cW), fs) :: roz l)) (fun xv _ => gs.length - (intOf xv).toNat)
                                      case atStart => exact ⟨0, by omega, rfl, by rw [List.drop_zero]; exact HX24.out⟩
                                      case round =>
                                        obtain ⟨y, hy, rfl, hfx⟩ := hrel
                                        have hcell : wr.cell? ⟨gG, t, none⟩ = some (.slice aH gs.length cH) := by
                                          have ho := hfx.mem (r := lRow (.slice (some ⟨gG, 0, none⟩) us.length cG) G) (by simp)
                                          have ho' : wr.ownsRow w.heap.size 30 1 (.slice (some ⟨gG, 0, none⟩) us.length cG) us.length (G.map hdV) := by rw [HEQ.out.2.2.1]; rw [HEQ.out.2.2.1] at ho; exact ho
                                          rw [ho'.cellAt t (by omega)]
                                          exact HEQ.out.2.2.2
                                        by_cases hyl : y < gs.length
                                        · as_aux_lemma =>
                                            have hrow : wr.ownsRow w.heap.size 36 4 (.slice aH gs.length cH) gs.length (cellsF (zs y (-((ms.length : Int) + 1)) ++ gs.drop y)) := hfx.mem (r := ⟨36, 4, .slice aH gs.length cH, gs.length, cellsF (zs y (-((ms.length : Int) + 1)) ++ gs.drop y)⟩) (by simp)
                                            obtain ⟨gH, eA⟩ : ∃ gH, aH = some ⟨gH, 0, none⟩ := by
                                              rcases row_cases hrow with ⟨_, e⟩ | ⟨g, c, _, e⟩
                                              · omega
                                              · cases e; exact ⟨g, rfl⟩
                                            subst eA
                                            obtain ⟨f, hdj⟩ : ∃ f, gs.drop y = f :: gs.drop (y + 1) := ⟨gs[y], (List.getElem_cons_drop hyl).symm⟩
                                            rw [hdj] at hrow
                                            obtain ⟨z, hz⟩ : ∃ z, wrap64 (-((ms.length : Int) + 1)) = z := ⟨_, rfl⟩
                                            have hput := own_put hrow ⟨0, 0, z, 0⟩ y (zs_len y _)
                                            obtain ⟨⟨v0, c0⟩, f0, ⟨v1, c1⟩, f1, ⟨v2, c2⟩, f2, ⟨v3, c3⟩, f3⟩ := own_put_facts hrow ⟨0, 0, z, 0⟩ y hyl
                                            simp only at c0 c1 c2 c3 f0 f1 f2 f3 hput
                                            have HP := Lib.hid hput
                                            have HZ := Lib.hid hz
                                            have HG := Lib.hid hfx
                                            have hyi : (y : Int) < (gs.length : Int) := by omega
                                            clear hrow hfx hput hdj
                                            go_wp2_with fail
                                            go_roundw
                                            case rel =>
                                              refine ⟨y + 1, by omega, by go_num, ?_⟩
                                              refine HG.out.grow (r' := ⟨36, 4, .slice (some ⟨gH, 0, none⟩) gs.length cH, gs.length, cellsF (zs (y + 1) (-((ms.length : Int) + 1)) ++ gs.drop (y + 1))⟩) HP.out.2 ?_ (.inl rfl)
                                              have h1 := HP.out.1
                                              have ez := HZ.out.symm.trans (neg_wrapF ms.length (by have := HN.out.2.2.1; omega))
                                              rw [← ez] at h1 ⊢
                                              rw [← zs_snoc, List.append_assoc]
                                              exact h1
                                            case measure => simp [intOf]; omega
                                        · as_aux_lemma =>
                                            obtain rfl : y = gs.length := by omega
                                            rw [List.drop_length, List.append_nil] at hfx
                                            have HXY : Hid (Fx w wr Pb S S' p fs m fs m (lRow (.slice (some ⟨gG, 0, none⟩) us.length cG) G :: (X' ++ bas (.slice (some ⟨g24, 0, none⟩) (ms.length + 1) cap24) u5 u6 (ms ++ [(aH, gs.length, cH)]) l)) (((aW, fs.length, cW), fs) :: roz l)) := by
                                              have h1 : Fx w wr Pb S S' p fs m fs m (mkL ms.length (aH, gs.length, cH) :: lRow (.slice (some ⟨g24, 0, none⟩) (ms.length + 1) cap24) (ms ++ [(aH, gs.length, cH)]) :: lRow (.slice (some ⟨gG, 0, none⟩) us.length cG) G :: (X' ++ lRow u5 (l.map (·.q)) :: lRow u6 (l.map (·.w)) :: louds ms)) (((aJ, gs.length, cJ), gs) :: ((aW, fs.length, cW), fs) :: roz l) := by
                                                have : mkL ms.length (aH, gs.length, cH) = ⟨36, 4, .slice aH gs.length cH, gs.length, cellsF (zs gs.length (-((ms.length : Int) + 1)))⟩ := by simp [mkL, fRow, hdV, zs_len]
                                                rw [this]
                                                exact hfx
                                              have h2 := h1.perm (perm_markF _ _ _ _ _ (lRow u6 (l.map (·.w)) :: louds ms))
                                              rw [bas, louds_snoc]
                                              exact h2.rosub (fun x hx => List.mem_cons_of_mem _ hx)
                                            clear hfx HX24
                                            go_wp2_with fail
                                            go_roundw
                                            case rel =>
                                              obtain ⟨hc0, hm0, hml, hll, hl0, hc⟩ := HN.out
                                              refine ⟨t + 1, c', ms ++ [(aH, gs.length, cH)], l, by omega, by go_num, by rw [HC.out.1], fun _ => HC.out.2.1, HC.out.2.2, fun e => by have := hm0 e; rw [List.length_append, List.length_singleton]; omega, by have := hm0 HQ0.out; rw [List.length_append, List.length_singleton]; omega, hl0, by omega, fun h hh => ?_, HBD.out.2, ?_⟩
                                              · rcases List.mem_append.1 hh with hh | hh
                                                · exact HBD.out.1 h hh
                                                · simp at hh; subst hh; exact ⟨hgl, hcH⟩
                                              · rw [HEQ.out.1, HEQ.out.2.1]
                                                exact HXY.out
                                            case measure => simp [intOf]; omega
                                · as_aux_lemma =>
                                    have hqp : (0 : Int) < (q : Int) := by omega
                                    have HX22 := Lib.hid ((Fx.toro (HX21.out.perm (List.Perm.swap _ _ _)) rfl).perm (permQ _ _ _ _ _))
                                    have HX23 := Lib.hid (HX22.out.below ((Below.refl _ w21).alloc (Nat.le_refl _) (.cells #[.slice aH gs.length cH] 30)))
                                    have hX := cell_new0F w21 (.slice aH gs.length cH) 30
                                    clear HX21
                                    go_wp2_with (at_builtin; go_loud (refine wpList_appF (ms := l.map (·.q)) rfl _ _ rfl HX23.out rfl w21.heap.size (aH, gs.length, cH) rfl hX (by have := HN.out.2.2.2.1; simp; omega) ?_))
                                    intro g24 cap24 w24 hs24
                                    have HX24 := Lib.hid (hs24.perm ((permQ _ _ _ _ _).symm.trans (permW _ _ _ _ _ _)))
                                    have HX25 := Lib.hid (HX24.out.below ((Below.refl _ w24).alloc (Nat.le_refl _) (.cells #[.slice aJ gs.length cJ] 30)))
                                    have hX2 := cell_new0F w24 (.slice aJ gs.length cJ) 30
                                    clear hs24 hX HX22 HX23 hcell2
                                    go_wp2_with (at_builtin; go_loud (refine wpList_appF (ms := l.map (·.w)) rfl _ _ rfl HX25.out rfl w24.heap.size (aJ, gs.length, cJ) rfl hX2 (by have := HN.out.2.2.2.1; simp; omega) ?_))
                                    intro g26 cap26 w26 hs26
                                    have HX26 := Lib.hid (hs26.perm (permW _ _ _ _ _ _).symm)
                                    clear hs26 hX2 HX24 HX25
                                    go_wp2_with fail
                                    go_roundw
                                    case rel =>
                                      obtain ⟨hc0, hm0, hml, hll, hl0, hc⟩ := HN.out
                                      refine ⟨t + 1, c, ms, l ++ [⟨(aH, gs.length, cH), (aJ, gs.length, cJ), gs⟩], by omega, by go_num, rfl, fun e => absurd e hq0, hc, fun e => absurd e hq0, hml, fun e => absurd e hq0, by simp; omega, HBD.out.1, fun z hz => ?_, ?_⟩
                                      · rcases List.mem_append.1 hz with hz | hz
                                        · exact HBD.out.2 z hz
                                        · simp at hz; subst hz; exact hgl
                                      · rw [HEQ.out.1, HEQ.out.2.1]
                                        refine Fx.rosub ?_ (qs := ((aH, gs.length, cH), gs) :: ((aJ, gs.length, cJ), gs) :: ((aW, fs.length, cW), fs) :: roz l) ?_
                                        · have := HX26.out
                                          simpa [bas] using this
                                        · intro x hx
                                          rcases List.mem_cons.1 hx with rfl | hx
                                          · exact List.mem_cons_of_mem _ (List.mem_cons_of_mem _ List.mem_cons_self)
                                          · rcases List.mem_cons.1 (roz_snoc _ _ x hx) with rfl | hx
                                            · exact List.mem_cons_self
                                            · rcases List.mem_cons.1 hx with rfl | hx
                                              · exact List.mem_cons_of_mem _ List.mem_cons_self
                                              · exact List.mem_cons_of_mem _ (List.mem_cons_of_mem _ (List.mem_cons_of_mem _ hx))
                                    case measure => simp [intOf]; omega
                            · obtain rfl : t = us.length := by omega
                              rw [List.drop_length, List.map_nil, List.nil_append] at hfx
                              have HXE := Lib.hid hfx.tail
                              clear hfx
                              go_wp2_with fail
                              go_roundw
                              case rel =>
                                obtain ⟨hc0, hm0, hml, hll, hl0, hc⟩ := HN.out
                                exact ⟨q + 1, c, ms, l, p, fs1, m, by omega, by go_num, rfl, fun e => by omega, hc, fun e => (huq (by omega)).2, hf1, fun e => by omega, hml, fun e => hl0 (by omega), by omega, HBD.out.1, HBD.out.2, HXE.out⟩
                              case measure => simp [intOf]; omega
                · --Q2
                  obtain rfl : q = 2 := by omega
                  have HBD := Lib.hid (And.intro hbm hbl)
                  have HX := Lib.hid hfx
                  clear hc0 hm0 hl0 hf1 hbm hbl hfx
                  go_wp2_with fail
                  go_roundw
                  case rel => exact ⟨k + 1, c, ms, l, p, fs1, m, by omega, by omega, by go_num, rfl, hc, by omega, by omega, by omega, HBD.out.1, HBD.out.2, Fx.rosub HX.out (fun x hx => List.mem_cons_of_mem _ hx)⟩
                  case measure => simp [intOf]; omega
        · --300
          go_wp2_with fail
          go_meet
          case rel => exact ⟨ms, l, p, fs, m, HX.out, HBD.out.1, HBD.out.2, by omega, by omega, by omega⟩
      · --END
        go_wp2_with fail
        go_meet
        case rel => exact ⟨ms, l, p, fs, m, HX.out, HBD.out.1, HBD.out.2, by omega, by omega, by omega⟩
  case rest =>
    obtain ⟨ms, l, p, fs, m, hfx, hbm, hbl, hml, hll, hfl⟩ := hcut
    have hfx0 : Fx w wc Pb S S' p fs m fs m (bas u4 u5 u6 ms l) (roz l) := hfx
    clear HT
    obtain ⟨aL, cL, eL⟩ := row_any (hfx0.mem (r := lRow u4 ms) (by simp))
    obtain ⟨aQ, cQ, eQ⟩ := row_any (hfx0.lst (v := u5) (M := l.map (·.q)) (by simp) (List.length_map _))
    obtain ⟨aW, cW, eW⟩ := row_any (hfx0.lst (v := u6) (M := l.map (·.w)) (by simp) (List.length_map _))
    have eL' : u4 = .slice aL ms.length cL := eL
    subst eL' eQ eW
    have HX0 := Lib.hid hfx0
    have HBD := Lib.hid (And.intro hbm hbl)
    clear hfx hfx0 hbm hbl eL
    obtain ⟨i0, hi, hz0, hz1, hz2⟩ := info_parts info36
    go_wp2_with fail
    go_loopw [18] (fun iv wr => ∃ t : Nat, t ≤ ms.length ∧ iv = .int .i64 t ∧ Fx w wr Pb S S' p fs m fs m (bas (.slice aL ms.length cL) (.slice aQ l.length cQ) (.slice aW l.length cW) (grs t ms) l) (roz l)) (fun iv _ => ms.length - (intOf iv).toNat)
    case atStart => exact ⟨0, by omega, rfl, by rw [grs_zero]; exact HX0.out⟩
    case round =>
      clear HX0
      obtain ⟨t, ht, rfl, hfx⟩ := hrel
      by_cases htm : t < ms.length
      · as_aux_lemma =>
          obtain ⟨⟨A0, n0, c0⟩, hm⟩ : ∃ h, ms[t]? = some h := ⟨_, List.getElem?_eq_getElem htm⟩
          obtain ⟨hb1, hb2⟩ := HBD.out.1 _ (List.mem_of_getElem? hm)
          simp only at hb1 hb2
          have hgt := grs_get hm
          have hgs := grs_set hm
          obtain ⟨M, hM⟩ : ∃ M, grs t ms = M := ⟨_, rfl⟩
          have hMl : M.length = ms.length := by rw [← hM]; exact grs_len t ms
          rw [hM] at hfx hgt hgs
          obtain ⟨K, hK⟩ := louds_at (M := M) (t := t) (by omega)
          have hK0 := hK (A0, n0, c0)
          rw [set_selfF hgt] at hK0
          have hfx1 : Fx w wr Pb S S' p fs m fs m (lRow (.slice aL ms.length cL) M :: mkL t (A0, n0, c0) :: lRow (.slice aQ l.length cQ) (l.map (·.q)) :: lRow (.slice aW l.length cW) (l.map (·.w)) :: K) (roz l) :=
            hfx.perm (List.Perm.cons _ (permX _ _ hK0))
          obtain ⟨gL, eL, hcell⟩ := hfx1.lcell (M := M) List.mem_cons_self hMl hgt
          subst eL
          have hcell' : wr.cell? ⟨gL, t, none⟩ = some (.slice A0 n0 c0) := hcell
          have hR := rm_bd hb2
          have hrm := rm_int n0 c0
          have hg1 : gr1 (A0, n0, c0) = (A0, rm n0 c0, c0) := rfl
          rw [hg1] at hgs
          obtain ⟨R, hRe⟩ : ∃ R, rm n0 c0 = R := ⟨_, rfl⟩
          rw [hRe] at hR hrm hgs
          have HRM : Hid (∀ w, Calls Try.prog 24 #[.int .i64 n0, .int .i64 c0] w fun e w' => e = .returned (.int .i64 R) ∧ w = w') := fun w => by
            have := room24 n0 c0 w (by omega) (by omega)
            rwa [hrm] at this
          have hS0 : wr.drew.cell? ⟨gL, t, none⟩ = some (.slice A0 n0 c0) := hcell'
          have HX1 := Lib.hid (hfx1.below (Below.refl _ _).drew)
          have HK := Lib.hid hK
          have HG := Lib.hid (And.intro hgt hgs)
          clear hfx hfx1 hK hK0 hgt hgs hM hm hcell hRe hrm hg1
          have hti : (t : Int) < (ms.length : Int) := by omega
          go_wp2_with fail
          go_region_held3 (fun w' => w'.cell? ⟨gL, t, none⟩ = some (.slice A0 n0 c0)) (first | exact hS0 | exact hcell' | go_keep) (first | (go_at_call 24; refine (HRM.out _).mono ?_; rintro e w9 ⟨rfl, rfl⟩))
          go_wp2_with fail
          obtain ⟨wo2, rfl⟩ : ∃ wo2 : World, wo2 = wr := ⟨_, rfl⟩
          go_loopw [] (fun wr => ∃ y : Nat, n0 ≤ y ∧ y ≤ R ∧ Fx w wr Pb S S' p fs m fs m (lRow (.slice (some ⟨gL, 0, none⟩) ms.length cL) (M.set t (A0, y, c0)) :: mkL t (A0, y, c0) :: lRow (.slice aQ l.length cQ) (l.map (·.q)) :: lRow (.slice aW l.length cW) (l.map (·.w)) :: K) (roz l)) (fun wr => R - lenAtF wr ⟨gL, t, none⟩)
          case atStart => exact ⟨n0, Nat.le_refl _, hR.1, by rw [set_selfF HG.out.1]; exact HX1.out⟩
          case round =>
            clear hS0 hcell' HX1
            obtain ⟨y, hy1, hy2, hfx⟩ := hrel
            have hMs : (M.set t (A0, y, c0)).length = ms.length := by rw [List.length_set]; exact hMl
            have hMt : ∀ h : Hd, (M.set t h)[t]? = some h := fun h => List.getElem?_set_self (by omega)
            obtain ⟨g', eg, hcell⟩ := hfx.lcell (M := M.set t (A0, y, c0)) List.mem_cons_self hMs (hMt _)
            cases eg
            have hcell' : wr.cell? ⟨gL, t, none⟩ = some (.slice A0 y c0) := hcell
            have hlen := lenAtF_eq hcell'
            by_cases hyR : y < R
            · have hfr := hfx.loud (t := t) (A := A0) (n := y) (c := c0) (by simp)
              obtain ⟨gA, eA⟩ : ∃ gA, A0 = some ⟨gA, 0, none⟩ := by
                rcases row_cases hfr with ⟨e, _⟩ | ⟨g, c, _, e⟩
                · cases e; omega
                · cases e; exact ⟨g, rfl⟩
              subst eA
              have hyi : (y : Int) < (R : Int) := by omega
              have hal := hfr.alloc (.cells #[.int .i64 0, .int .i64 0, .int .i64 (-((t : Int) + 1)), .int .i64 0] 36)
              have hng : -1 - (t : Int) = -((t : Int) + 1) := by omega
              have HX2 := Lib.hid hfx
              clear hfx hfr hcell
              go_wp2_with (at_builtin; go_loud (refine wpList_append_fits _ rfl _ _ 30 rfl w.heap.size 36 i0 4 Try.underlying30 hi hz1 gA y c0 _ rfl hal ⟨wr.heap.size, 0, none⟩ 1 1 (cellsF [zF (-((t : Int) + 1))]) rfl rfl (World.news_of_block (heap_alloc_new wr (.cells #[.int .i64 0, .int .i64 0, .int .i64 (-((t : Int) + 1)), .int .i64 0] 36))) (cellsF_one _) (by omega) ?_))
              intro w11 hown11 hgrow11
              have hO := (((HX2.out.below ((Below.refl _ wr).alloc (Nat.le_refl _) (.cells #[.int .i64 0, .int .i64 0, .int .i64 (-((t : Int) + 1)), .int .i64 0] 36))).perm (List.Perm.swap _ _ _)).grow (r' := mkL t (some ⟨gA, 0, none⟩, y + 1, c0)) hgrow11 (by rw [← cellsF_app, zs_snoc] at hown11; simpa [mkL, fRow, hdV, zs_len] using hown11) (.inl rfl)).perm (List.Perm.swap _ _ _)
              have hrw := hO.lst (M := M.set t (some ⟨gA, 0, none⟩, y, c0)) List.mem_cons_self hMs
              have hfz := hrw.frozenAt t
              obtain ⟨g', eg, hc11⟩ := hO.lcell (M := M.set t (some ⟨gA, 0, none⟩, y, c0)) List.mem_cons_self hMs (hMt _)
              cases eg
              have hc11' : w11.cell? ⟨gL, t, none⟩ = some (.slice (some ⟨gA, 0, none⟩) y c0) := hc11
              have hO2 := hO.lput (t := t) (some ⟨gA, 0, none⟩, y + 1, c0) hMs
              rw [List.set_set] at hO2
              obtain ⟨g', eg, hc12⟩ := hO2.lcell (M := M.set t (some ⟨gA, 0, none⟩, y + 1, c0)) List.mem_cons_self (by rw [List.length_set]; exact hMl) (hMt _)
              cases eg
              have hlen2 := lenAtF_eq hc12
              have HX3 := Lib.hid hO2
              have HLN := Lib.hid (And.intro hlen hlen2)
              clear hO hrw hc11 hO2 hc12 hlen hlen2 HX2 hown11 hgrow11 hal hcell'
              go_wp2_with fail
              go_roundw
              case rel => exact ⟨y + 1, by omega, by omega, HX3.out⟩
              case measure => have h1 := HLN.out.1; have h2 := HLN.out.2; rw [h1]; first | rw [h2]; omega | (simp only [hdV] at h2; rw [h2]; omega)
            · obtain rfl : y = R := by omega
              have HX2 : Hid (Fx w wr Pb S S' p fs m fs m (bas (.slice (some ⟨gL, 0, none⟩) ms.length cL) (.slice aQ l.length cQ) (.slice aW l.length cW) (grs (t + 1) ms) l) (roz l)) := by
                rw [HG.out.2] at hfx
                have h1 := permX (lRow (.slice aQ l.length cQ) (l.map (·.q))) (lRow (.slice aW l.length cW) (l.map (·.w))) (HK.out (A0, y, c0))
                rw [HG.out.2] at h1
                exact hfx.perm (List.Perm.cons _ h1.symm)
              clear hfx hcell
              go_wp2_with fail
              go_roundw
              case rel => exact ⟨t + 1, by omega, by go_num, HX2.out⟩
              case measure => simp [intOf]; omega
      · as_aux_lemma =>
          obtain rfl : t = ms.length := by omega
          obtain ⟨N, hN⟩ : ∃ N, grs ms.length ms = N := ⟨_, rfl⟩
          have hNl : N.length = ms.length := by rw [← hN]; exact grs_len _ ms
          have hNb : ∀ x ∈ N, x.2.1 ≤ 70300 := by rw [← hN]; exact grs_bd HBD.out.1
          have HNB := Lib.hid hNb
          rw [hN] at hfx
          have HX2 := Lib.hid hfx
          clear hfx hN hNb
          go_wp2_with fail
          go_loopw [20] (fun iv wr => ∃ t : Nat, t ≤ l.length ∧ iv = .int .i64 t ∧ Fx w wr Pb S S' p fs m fs m (bas (.slice aL ms.length cL) (.slice aQ l.length cQ) (.slice aW l.length cW) N l) (roz l)) (fun iv _ => l.length - (intOf iv).toNat)
          case atStart => exact ⟨0, by omega, rfl, HX2.out⟩
          case round =>
            clear HX2
            obtain ⟨t, ht, rfl, hfx⟩ := hrel
            by_cases htl : t < l.length
            · as_aux_lemma =>
                obtain ⟨z, hz⟩ : ∃ z, l[t]? = some z := ⟨_, List.getElem?_eq_getElem htl⟩
                have hzm := List.mem_of_getElem? hz
                obtain ⟨⟨aq, nq, cq⟩, ⟨aw, nw, cw⟩, gs⟩ := z
                obtain ⟨h1, h2, _⟩ := (hfx.ro _ (roz_q hzm)).1
                obtain ⟨h3, h4, _⟩ := (hfx.ro _ (roz_w hzm)).1
                simp only at h1 h2 h3 h4
                have hgl : gs.length ≤ 300 := HBD.out.2 _ hzm
                subst h2 h4
                obtain ⟨gQ, eQ, hcQ⟩ := hfx.lcell (A := aQ) (c := cQ) (M := l.map (·.q)) (n := l.length) (t := t) (x := (aq, gs.length, cq)) (by simp) (List.length_map _) (by simp [hz])
                obtain ⟨gW, eW, hcW⟩ := hfx.lcell (A := aW) (c := cW) (M := l.map (·.w)) (n := l.length) (t := t) (x := (aw, gs.length, cw)) (by simp) (List.length_map _) (by simp [hz])
                subst eQ eW
                have hS0 : wr.drew.cell? ⟨gQ, t, none⟩ = some (.slice aq gs.length cq) ∧ wr.drew.cell? ⟨gW, t, none⟩ = some (.slice aw gs.length cw) := ⟨hcQ, hcW⟩
                have hX := hfx.below (Below.refl _ _).drew
                obtain ⟨k1, _, _⟩ := (hX.ro _ (roz_q hzm)).1
                obtain ⟨k3, _, _⟩ := (hX.ro _ (roz_w hzm)).1
                have HE := Lib.hid (eq11 aq aw cq cw gs.length gs _ k1 k3 rfl (by omega))
                have HX3 := Lib.hid hX
                have hti : (t : Int) < (l.length : Int) := by omega
                clear hfx hX h1 h3 k1 k3 hz hzm hcQ hcW
                go_wp2_with fail
                go_region_held3 (fun w' => w'.cell? ⟨gQ, t, none⟩ = some (.slice aq gs.length cq) ∧ w'.cell? ⟨gW, t, none⟩ = some (.slice aw gs.length cw)) (first | exact hS0 | exact hS9 | go_keep) (first | (go_at_call 11; refine HE.out.mono ?_; rintro e w9 ⟨rfl, hb9⟩; have hS9 := And.intro (below_cellF hb9 hS0.1) (below_cellF hb9 hS0.2)))
                all_goals
                  have HX4 := Lib.hid (HX3.out.below hb9)
                  clear hb9 HX3 HE hS0 hS9
                  go_wp2_with fail
                  go_roundw
                  case rel => exact ⟨t + 1, by omega, by go_num, HX4.out⟩
                  case measure => simp [intOf]; omega
            · as_aux_lemma =>
                obtain rfl : t = l.length := by omega
                have HX2 := Lib.hid hfx
                clear hfx
                go_wp2_with fail
                go_loopw [21] (fun iv wr => ∃ t : Nat, t ≤ ms.length ∧ iv = .int .i64 t ∧ Fx w wr Pb S S' p fs m fs m (bas (.slice aL ms.length cL) (.slice aQ l.length cQ) (.slice aW l.length cW) N l) (roz l)) (fun iv _ => ms.length - (intOf iv).toNat)
                case atStart => exact ⟨0, by omega, rfl, HX2.out⟩
                case round =>
                  clear HX2
                  obtain ⟨t, ht, rfl, hfx⟩ := hrel
                  by_cases htm : t < ms.length
                  · obtain ⟨⟨A0, n0, c0⟩, hm⟩ : ∃ h, N[t]? = some h := ⟨_, List.getElem?_eq_getElem (by omega)⟩
                    obtain ⟨gL, eL, _⟩ := hfx.lcell (A := aL) (c := cL) (M := N) (n := ms.length) (by simp) hNl hm
                    subst eL
                    have HX3 := Lib.hid hfx
                    have HM := Lib.hid hm
                    have hnb : n0 ≤ 70300 := HNB.out _ (List.mem_of_getElem? hm)
                    have hti : (t : Int) < (ms.length : Int) := by omega
                    clear hfx hm
                    go_wp2_with fail
                    go_loopw [22] (fun iv wr => ∃ y : Nat, y ≤ n0 ∧ iv = .int .i64 y ∧ Fx w wr Pb S S' p fs m fs m (bas (.slice (some ⟨gL, 0, none⟩) ms.length cL) (.slice aQ l.length cQ) (.slice aW l.length cW) N l) (roz l)) (fun iv _ => n0 - (intOf iv).toNat)
                    case atStart => exact ⟨0, by omega, rfl, HX3.out⟩
                    case round =>
                      clear HX3
                      obtain ⟨y, hy, rfl, hfx⟩ := hrel
                      obtain ⟨g', eg, hc⟩ := hfx.lcell (A := some ⟨gL, 0, none⟩) (c := cL) (M := N) (n := ms.length) (by simp) hNl HM.out
                      cases eg
                      have hc' : wr.cell? ⟨gL, t, none⟩ = some (.slice A0 n0 c0) := hc
                      by_cases hyn : y < n0
                      · have hfr := hfx.loud (t := t) (A := A0) (n := n0) (c := c0) (by
                          have : mkL t (A0, n0, c0) ∈ louds N := by
                            unfold louds
                            rw [List.mem_mapIdx]
                            obtain ⟨hl, e⟩ := List.getElem?_eq_some_iff.1 HM.out
                            exact ⟨t, hl, by rw [e]⟩
                          simp [this])
                        obtain ⟨gA, eA, _, _, hcz, _⟩ := own_framesF hfr (i := y) (f := zF (-((t : Int) + 1))) (by simp [zs, hyn])
                        subst eA
                        have hcz' : wr.cell? ⟨gA, y * 4 + 2, none⟩ = some (.int .i64 (-1 - (t : Int))) := by rw [hcz, show -1 - (t : Int) = -((t : Int) + 1) by omega]; rfl
                        have HX4 := Lib.hid hfx
                        have hyi : (y : Int) < (n0 : Int) := by omega
                        clear hfx hfr hcz hc
                        go_wp2_with fail
                        go_roundw
                        case rel => exact ⟨y + 1, by omega, by go_num, HX4.out⟩
                        case measure => simp [intOf]; omega
                      · obtain rfl : y = n0 := by omega
                        have HX4 := Lib.hid hfx
                        clear hfx hc
                        go_wp2_with fail
                        go_roundw
                        case rel => exact ⟨t + 1, by omega, by go_num, HX4.out⟩
                        case measure => simp [intOf]; omega
                  · have hq0 := hfx.below (Below.refl _ _).drew
                    have hc0 := cells2' hq0.rz
                    clear hfx
                    go_wp2_with fail
                    go_region_held3 (fun w' => w'.cell? ⟨Pb, 0, none⟩ = some (.pointer (some ⟨S, 0, none⟩)) ∧ w'.cell? ⟨Pb, 1, none⟩ = some (.pointer (some ⟨S', 0, none⟩))) (first | exact hc0 | exact hcE | exact hcA | exact hcB | go_keep) (first
                      | (go_at_call 9; refine (Fx.allL (by assumption)).mono ?_; rintro e wA ⟨A1, lA, CA, rfl, hLA, hqA, hbA⟩; have hcA := cells2' hqA.rz; try have hLB' := hLB.tr (Tr.below hbA))
                      | (go_at_call 22; refine (Fx.allR (by assumption)).mono ?_; rintro e wB ⟨B1, lB, CB, rfl, hLB, hqB, hbB⟩; have hcB := cells2' hqB.rz; try have hLA' := hLA.tr (Tr.below hbB))
                      | (go_at_call 11; refine (eqL (gs := fs) (by assumption) (by assumption) (by omega)).mono ?_; rintro e wE ⟨rfl, hbE⟩; have hqE := Fx.below (by assumption) hbE; have hcE := cells2' hqE.rz))
                    all_goals
                      go_wp2_with fail
                      go_ret
                      exact ⟨rfl, hqE.bl⟩
end Go.Proofs.Ytfbmfcipaikaoaa
