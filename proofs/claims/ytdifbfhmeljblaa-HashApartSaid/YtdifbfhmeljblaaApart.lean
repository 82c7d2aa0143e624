/- quadrillelaw6.HashApart answers true at every input: the walk. No condition. -/
import Derived.Test.YtdifbfhmeljblaaAll
namespace Go.Proofs.Ytdifbfhmeljblaa
set_option linter.unusedVariables false
set_option linter.unusedSimpArgs false
open Go.RowKit

theorem keepS6 {B : Nat} {W w1 w2 : World} {a b c a' b' c' : Addr} {x y z x' y' z' : Value} (h : ((w1.cell? a = some x ∧ w1.cell? b = some y ∧ w1.cell? c = some z) ∧ (w1.cell? a' = some x' ∧ w1.cell? b' = some y' ∧ w1.cell? c' = some z')) ∧ Below B W w1) (hB : B ≤ w1.heap.size) (hb : Below w1.heap.size w1 w2) :
    ((w2.cell? a = some x ∧ w2.cell? b = some y ∧ w2.cell? c = some z) ∧ (w2.cell? a' = some x' ∧ w2.cell? b' = some y' ∧ w2.cell? c' = some z')) ∧ Below B W w2 :=
  ⟨⟨⟨cell_below h.1.1.1 hb, cell_below h.1.1.2.1 hb, cell_below h.1.1.2.2 hb⟩, ⟨cell_below h.1.2.1 hb, cell_below h.1.2.2.1 hb, cell_below h.1.2.2.2 hb⟩⟩, h.2.trans (hb.mono hB)⟩

def SixCells (W : World) (b1 b2 : Nat) (k1 n1 : Int) (s1 : ByteArray) (k2 n2 : Int) (s2 : ByteArray) : Prop :=
  (W.cell? ⟨b1, 0, none⟩ = some (.int .i64 k1) ∧ W.cell? ⟨b1, 1, none⟩ = some (.int .i64 n1) ∧ W.cell? ⟨b1, 2, none⟩ = some (.string s1)) ∧
    (W.cell? ⟨b2, 0, none⟩ = some (.int .i64 k2) ∧ W.cell? ⟨b2, 1, none⟩ = some (.int .i64 n2) ∧ W.cell? ⟨b2, 2, none⟩ = some (.string s2))
theorem six_of {w W : World} {b1 b2 : Nat} {k1 n1 : Int} {s1 : ByteArray} {k2 n2 : Int} {s2 : ByteArray} (h : ((W.cell? ⟨b1, 0, none⟩ = some (.int .i64 k1) ∧ W.cell? ⟨b1, 1, none⟩ = some (.int .i64 n1) ∧ W.cell? ⟨b1, 2, none⟩ = some (.string s1)) ∧
    (W.cell? ⟨b2, 0, none⟩ = some (.int .i64 k2) ∧ W.cell? ⟨b2, 1, none⟩ = some (.int .i64 n2) ∧ W.cell? ⟨b2, 2, none⟩ = some (.string s2))) ∧ Below w.heap.size w W) : SixCells W b1 b2 k1 n1 s1 k2 n2 s2 := h.1

theorem be8_inj {m n : Int} (hm : -9223372036854775808 ≤ m ∧ m ≤ 9223372036854775807) (hn : -9223372036854775808 ≤ n ∧ n ≤ 9223372036854775807) (h : be8 m = be8 n) : m = n := by
  simp only [be8, List.cons.injEq, and_true] at h
  obtain ⟨h0, h1, h2, h3, h4, h5, h6, h7⟩ := h
  omega
theorem str_inj {s t : ByteArray} (h : strInts s = strInts t) : s = t := by
  have : s.data.toList = t.data.toList := by
    simp only [strInts] at h
    refine List.map_inj_right (fun a b hab => ?_) |>.1 h
    have h2 : a.toNat = b.toNat := by exact_mod_cast hab
    exact UInt8.toNat_inj.1 h2
  cases s
  cases t
  simp only [ByteArray.mk.injEq]
  exact Array.toList_inj.1 this
theorem nil_str {s : ByteArray} (h : s.toList = []) : s = ByteArray.empty := by
  rw [ByteArray.toList_eq] at h
  cases s
  simp only [ByteArray.empty, ByteArray.emptyWithCapacity, ByteArray.mk.injEq]
  exact Array.toList_eq_nil_iff.1 h
theorem toList_ne {s t : ByteArray} (h : ¬ s = t) : ¬ s.toList = t.toList := fun e => h (by
  rw [ByteArray.toList_eq, ByteArray.toList_eq] at e
  cases s
  cases t
  simp only [ByteArray.mk.injEq]
  exact Array.toList_inj.1 e)
/-- Values that may be and have the same bytes are the same. -/
theorem apart (k1 n1 : Int) (s1 : ByteArray) (k2 n2 : Int) (s2 : ByteArray) (h1 : -9223372036854775808 ≤ n1 ∧ n1 ≤ 9223372036854775807) (h2 : -9223372036854775808 ≤ n2 ∧ n2 ≤ 9223372036854775807)
    (m1 : mayB k1 n1 s1 = true) (m2 : mayB k2 n2 s2 = true) (h : bytesV k1 n1 s1 = bytesV k2 n2 s2) : k1 = k2 ∧ n1 = n2 ∧ s1 = s2 := by
  rw [bytesV, if_pos m1, bytesV, if_pos m2] at h
  simp only [List.cons.injEq] at h
  obtain ⟨rfl, ht⟩ := h
  refine ⟨rfl, ?_⟩
  rcases may_cases m1 with ⟨rfl, rfl, _⟩ | rfl | ⟨rfl, _⟩ | ⟨rfl, rfl, _⟩ | ⟨rfl, _⟩
  · simp [mayB] at m1 m2
    exact ⟨m2.1.symm, by rw [nil_str m1, nil_str m2.2]⟩
  · simp [mayB] at m1 m2
    simp [tailV] at ht
    exact ⟨be8_inj h1 h2 ht, by rw [nil_str m1, nil_str m2]⟩
  · simp [mayB] at m1 m2
    simp [tailV] at ht
    exact ⟨ht, by rw [nil_str m1.2, nil_str m2.2]⟩
  · simp [mayB] at m1 m2
    simp [tailV] at ht
    exact ⟨m2.1.symm, str_inj ht⟩
  · simp [mayB] at m1 m2
    simp [tailV] at ht
    exact ⟨ht, by rw [nil_str m1.2, nil_str m2.2]⟩

/-- Two values in variables of their own. -/
def TwoVals (w W : World) (k1 n1 : Int) (s1 : ByteArray) (k2 n2 : Int) (s2 : ByteArray) (p q : Value) : Prop :=
  ∃ b1 b2 : Nat, p = .pointer (some ⟨b1, 0, none⟩) ∧ q = .pointer (some ⟨b2, 0, none⟩) ∧
    (W.cell? ⟨b1, 0, none⟩ = some (.int .i64 k1) ∧ W.cell? ⟨b1, 1, none⟩ = some (.int .i64 n1) ∧ W.cell? ⟨b1, 2, none⟩ = some (.string s1)) ∧
    (W.cell? ⟨b2, 0, none⟩ = some (.int .i64 k2) ∧ W.cell? ⟨b2, 1, none⟩ = some (.int .i64 n2) ∧ W.cell? ⟨b2, 2, none⟩ = some (.string s2)) ∧ Below w.heap.size w W

set_option maxRecDepth 100000 in
set_option maxHeartbeats 2000000 in
theorem hashApart_walk (A : Option Addr) (C : Nat) (vs : List Val) (w : World) (hv : ValsAt w A vs) (hf : ∀ v ∈ vs, v.fits) (hl : vs.length * 32 ≤ 140737488351232) :
    Calls Try.prog 6 #[.slice A vs.length C] w fun e w' => e = .returned (.bool true) ∧ Below w.heap.size w w' := by
  have HV := Lib.hid hv
  have HF := Lib.hid hf
  clear hv hf
  go_enter Try.func6, Try.ntmps6
  go_wp2_with (go_at_call 9; refine (begun9 _).mono ?_; rintro e w1 ⟨rfl, hb1⟩)
  have HB1 := Lib.hid hb1
  clear hb1
  go_loopw [3] (fun i wr => ∃ t : Nat, t ≤ vs.length ∧ i = .int .i64 t ∧ Below w.heap.size w wr) (fun n _ => vs.length - (intOf n).toNat)
  case atStart => exact ⟨0, by omega, rfl, HB1.out⟩
  case round =>
    obtain ⟨t, ht, rfl, hb⟩ := hrel
    have HB := Lib.hid hb
    clear hb HB1
    by_cases hlt : t < vs.length
    · by_cases h60 : t < 60
      · have h60d : decide ((t : Int) < 60) = true := by simp; omega
        go_wp2_with fail
        obtain ⟨wo, rfl⟩ : ∃ wo : World, wo = wr := ⟨_, rfl⟩
        go_loopw [4] (fun i wr => ∃ j : Nat, j ≤ t ∧ i = .int .i64 j ∧ Below w.heap.size w wr) (fun n _ => t - (intOf n).toNat)
        case atStart => exact ⟨0, by omega, rfl, HB.out⟩
        case round =>
          obtain ⟨j, hj, rfl, hb⟩ := hrel
          have HB := Lib.hid hb
          clear hb
          by_cases hlt2 : j < t
          · have hjl : j < vs.length := by omega
            obtain ⟨b, off, k1, n1, s1, rfl, hbl, hg1, hc0, hc1, hc2, hn1, hs1⟩ := (HV.out.below HB.out).get HF.out hlt
            obtain ⟨b', off', k2, n2, s2, hA, hbl', hg2, hd0, hd1, hd2, hn2, hs2⟩ := (HV.out.below HB.out).get HF.out hjl
            simp only [Option.some.injEq, Addr.mk.injEq, and_true] at hA
            obtain ⟨rfl, rfl⟩ := hA
            clear hg1 hg2
            go_wp2_with fail
            have hne : wr.heap.size ≠ b := by omega
            go_cut [5, 6] from 20 to 50 (fun p q wc => TwoVals w wc k1 n1 s1 k2 n2 s2 p q)
            case first =>
              go_region_held3 (fun w' => (w'.cell? ⟨b, off + t * 3, none⟩ = some (.int .i64 k1) ∧ w'.cell? ⟨b, off + t * 3 + 1, none⟩ = some (.int .i64 n1) ∧ w'.cell? ⟨b, off + t * 3 + 2, none⟩ = some (.string s1)) ∧ (w'.cell? ⟨b, off + j * 3, none⟩ = some (.int .i64 k2) ∧ w'.cell? ⟨b, off + j * 3 + 1, none⟩ = some (.int .i64 n2) ∧ w'.cell? ⟨b, off + j * 3 + 2, none⟩ = some (.string s2))) (go_keep) (fail)
              all_goals
                go_wp2_with fail
                go_meet
                case rel =>
                  refine ⟨_, _, rfl, rfl, ⟨by go_simp, by go_simp, by go_simp⟩, ⟨by go_simp, by go_simp, by go_simp⟩, ?_⟩
                  exact ((HB.out.alloc HB.out.size _).alloc (Nat.le_trans HB.out.size (by simp)) _).drew
            case rest =>
              obtain ⟨b1, b2, rfl, rfl, ⟨e0, e1, e2⟩, ⟨f0, f1, f2⟩, hb⟩ := hcut
              have hm1 : s1.size ≤ maxLen := by unfold maxLen; omega
              have hm2 : s2.size ≤ maxLen := by unfold maxLen; omega
              have HS1 := Lib.hid hm1
              have HS2 := Lib.hid hm2
              have HN1 := Lib.hid hn1
              have HN2 := Lib.hid hn2
              have hap := apart k1 n1 s1 k2 n2 s2 hn1 hn2
              clear hc0 hc1 hc2 hd0 hd1 hd2 hn1 hn2 hm1 hm2 hs1 hs2 HB hbl hbl' hne
              go_wp2_with fail
              have hS : (((wc.drew.cell? ⟨b1, 0, none⟩ = some (.int .i64 k1) ∧ wc.drew.cell? ⟨b1, 1, none⟩ = some (.int .i64 n1) ∧ wc.drew.cell? ⟨b1, 2, none⟩ = some (.string s1)) ∧ (wc.drew.cell? ⟨b2, 0, none⟩ = some (.int .i64 k2) ∧ wc.drew.cell? ⟨b2, 1, none⟩ = some (.int .i64 n2) ∧ wc.drew.cell? ⟨b2, 2, none⟩ = some (.string s2))) ∧ Below w.heap.size w wc.drew) := ⟨⟨⟨e0, e1, e2⟩, ⟨f0, f1, f2⟩⟩, hb.drew⟩
              clear e0 e1 e2 f0 f1 f2 hb
              have HAP := Lib.hid hap
              clear hap
              go_cut [7] from 20 to 50 (fun r wc => r = .bool (decide (bytesV k1 n1 s1 = bytesV k2 n2 s2)) ∧ SixCells wc b1 b2 k1 n1 s1 k2 n2 s2 ∧ Below w.heap.size w wc)
              case first =>
                go_region_held3 (fun w' => ((w'.cell? ⟨b1, 0, none⟩ = some (.int .i64 k1) ∧ w'.cell? ⟨b1, 1, none⟩ = some (.int .i64 n1) ∧ w'.cell? ⟨b1, 2, none⟩ = some (.string s1)) ∧ (w'.cell? ⟨b2, 0, none⟩ = some (.int .i64 k2) ∧ w'.cell? ⟨b2, 1, none⟩ = some (.int .i64 n2) ∧ w'.cell? ⟨b2, 2, none⟩ = some (.string s2))) ∧ Below w.heap.size w w') (first | exact hS | assumption | exact keepS6 (by assumption) (by have := (by assumption : _ ∧ Below _ _ _).2.size; assumption) (by assumption)) (first | (go_at_call_of 11 k1; refine (bytes11 k1 n1 s1 _ HN1.out HS1.out).mono ?_; rintro e w2 ⟨g1, cap1, rfl, hown1, hb1⟩; have hh1 := Has.of_own hown1; clear hown1; (try replace hh2 := hh2.below hb1)) | (go_at_call_of 11 k2; refine (bytes11 k2 n2 s2 _ HN2.out HS2.out).mono ?_; rintro e w3 ⟨g2, cap2, rfl, hown2, hb2⟩; have hh2 := Has.of_own hown2; clear hown2; (try replace hh1 := hh1.below hb2)) | (go_at_call 10; refine (eq10 g1 g2 cap1 cap2 _ _ _ _ _ rfl rfl hh1 hh2 (byt_bytes k1 n1 s1) (byt_bytes k2 n2 s2)).mono ?_; rintro e w4 ⟨rfl, rfl⟩))
                all_goals
                  go_wp2_with fail
                  go_meet
                  case rel => exact ⟨rfl, six_of (by assumption : _ ∧ Below w.heap.size w _), (by assumption : _ ∧ Below w.heap.size w _).2⟩
              case rest =>
                obtain ⟨rfl, hsix, hb⟩ := hcut
                clear hS
                obtain ⟨⟨e0, e1, e2⟩, ⟨f0, f1, f2⟩⟩ := hsix
                by_cases hB : bytesV k1 n1 s1 = bytesV k2 n2 s2
                · by_cases hk : k1 = k2
                  · subst hk
                    by_cases hnn : n1 = n2
                    · subst hnn
                      by_cases hss : s1 = s2
                      · subst hss
                        have HB3 := Lib.hid hb
                        clear hb HAP
                        go_wp2_with fail
                        go_roundw
                        case rel => exact ⟨j + 1, by omega, by go_num, HB3.out⟩
                        case measure => simp [intOf]; omega
                      · have hsl := toList_ne hss
                        cases hm1 : mayB k1 n1 s1
                        · clear HAP
                          go_wp2_with fail
                          refine (may15 _ _ _ _ HS1.out).mono ?_
                          rintro e w5 ⟨rfl, hb5⟩
                          have HB3 := Lib.hid (hb.trans (hb5.mono hb.size))
                          clear hb hb5
                          go_wp2_with fail
                          go_roundw
                          case rel => exact ⟨j + 1, by omega, by go_num, HB3.out⟩
                          case measure => simp [intOf]; omega
                        · have hm2 : mayB k1 n1 s2 = false := by
                            cases hm2 : mayB k1 n1 s2
                            · rfl
                            · exact absurd (HAP.out hm1 hm2 hB) (fun h => hss h.2.2)
                          clear HAP
                          go_wp2_with fail
                          refine (may15 _ _ _ _ HS1.out).mono ?_
                          rintro e w5 ⟨rfl, hb5⟩
                          replace f0 := cell_below f0 hb5
                          replace f1 := cell_below f1 hb5
                          replace f2 := cell_below f2 hb5
                          have hb6 := hb.trans (hb5.mono hb.size)
                          clear hb hb5 e0 e1 e2
                          go_wp2_with fail
                          refine (may15 _ _ _ _ HS2.out).mono ?_
                          rintro e w6 ⟨rfl, hb7⟩
                          have HB3 := Lib.hid (hb6.trans (hb7.mono hb6.size))
                          clear hb6 hb7
                          go_wp2_with fail
                          go_roundw
                          case rel => exact ⟨j + 1, by omega, by go_num, HB3.out⟩
                          case measure => simp [intOf]; omega
                    · cases hm1 : mayB k1 n1 s1
                      · clear HAP
                        go_wp2_with fail
                        refine (may15 _ _ _ _ HS1.out).mono ?_
                        rintro e w5 ⟨rfl, hb5⟩
                        have HB3 := Lib.hid (hb.trans (hb5.mono hb.size))
                        clear hb hb5
                        go_wp2_with fail
                        go_roundw
                        case rel => exact ⟨j + 1, by omega, by go_num, HB3.out⟩
                        case measure => simp [intOf]; omega
                      · have hm2 : mayB k1 n2 s2 = false := by
                          cases hm2 : mayB k1 n2 s2
                          · rfl
                          · exact absurd (HAP.out hm1 hm2 hB) (fun h => hnn h.2.1)
                        clear HAP
                        go_wp2_with fail
                        refine (may15 _ _ _ _ HS1.out).mono ?_
                        rintro e w5 ⟨rfl, hb5⟩
                        replace f0 := cell_below f0 hb5
                        replace f1 := cell_below f1 hb5
                        replace f2 := cell_below f2 hb5
                        have hb6 := hb.trans (hb5.mono hb.size)
                        clear hb hb5 e0 e1 e2
                        go_wp2_with fail
                        refine (may15 _ _ _ _ HS2.out).mono ?_
                        rintro e w6 ⟨rfl, hb7⟩
                        have HB3 := Lib.hid (hb6.trans (hb7.mono hb6.size))
                        clear hb6 hb7
                        go_wp2_with fail
                        go_roundw
                        case rel => exact ⟨j + 1, by omega, by go_num, HB3.out⟩
                        case measure => simp [intOf]; omega
                  · cases hm1 : mayB k1 n1 s1
                    · clear HAP
                      go_wp2_with fail
                      refine (may15 _ _ _ _ HS1.out).mono ?_
                      rintro e w5 ⟨rfl, hb5⟩
                      have HB3 := Lib.hid (hb.trans (hb5.mono hb.size))
                      clear hb hb5
                      go_wp2_with fail
                      go_roundw
                      case rel => exact ⟨j + 1, by omega, by go_num, HB3.out⟩
                      case measure => simp [intOf]; omega
                    · have hm2 : mayB k2 n2 s2 = false := by
                        cases hm2 : mayB k2 n2 s2
                        · rfl
                        · exact absurd (HAP.out hm1 hm2 hB) (fun h => hk h.1)
                      clear HAP
                      go_wp2_with fail
                      refine (may15 _ _ _ _ HS1.out).mono ?_
                      rintro e w5 ⟨rfl, hb5⟩
                      replace f0 := cell_below f0 hb5
                      replace f1 := cell_below f1 hb5
                      replace f2 := cell_below f2 hb5
                      have hb6 := hb.trans (hb5.mono hb.size)
                      clear hb hb5 e0 e1 e2
                      go_wp2_with fail
                      refine (may15 _ _ _ _ HS2.out).mono ?_
                      rintro e w6 ⟨rfl, hb7⟩
                      have HB3 := Lib.hid (hb6.trans (hb7.mono hb6.size))
                      clear hb6 hb7
                      go_wp2_with fail
                      go_roundw
                      case rel => exact ⟨j + 1, by omega, by go_num, HB3.out⟩
                      case measure => simp [intOf]; omega
                · by_cases hk : k1 = k2
                  · subst hk
                    by_cases hnn : n1 = n2
                    · subst hnn
                      by_cases hss : s1 = s2
                      · subst hss
                        exact absurd rfl hB
                      · have hsl := toList_ne hss
                        have HB3 := Lib.hid hb
                        clear hb HAP
                        go_wp2_with fail
                        go_roundw
                        case rel => exact ⟨j + 1, by omega, by go_num, HB3.out⟩
                        case measure => simp [intOf]; omega
                    · have HB3 := Lib.hid hb
                      clear hb HAP
                      go_wp2_with fail
                      go_roundw
                      case rel => exact ⟨j + 1, by omega, by go_num, HB3.out⟩
                      case measure => simp [intOf]; omega
                  · have HB3 := Lib.hid hb
                    clear hb HAP
                    go_wp2_with fail
                    go_roundw
                    case rel => exact ⟨j + 1, by omega, by go_num, HB3.out⟩
                    case measure => simp [intOf]; omega
          · obtain rfl : j = t := by omega
            go_wp2_with fail
            go_roundw
            case rel => exact ⟨j + 1, by omega, by go_num, HB.out⟩
            case measure => simp [intOf]; omega
      · go_wp2_with fail
        go_ret
        exact ⟨rfl, HB.out⟩
    · obtain rfl : t = vs.length := by omega
      go_wp2_with fail
      go_ret
      exact ⟨rfl, HB.out⟩
end Go.Proofs.Ytdifbfhmeljblaa
