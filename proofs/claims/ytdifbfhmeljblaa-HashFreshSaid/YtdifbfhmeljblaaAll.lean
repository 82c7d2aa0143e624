/- quadrillelaw6.HashAll answers true at every input. No condition. -/
import Derived.Test.YtdifbfhmeljblaaFrame
import Derived.Test.YtdifbfhmeljblaaBegun
import Derived.Deep.RegionHeld3
import Derived.Deep.Cut
import Derived.Deep.CutRange
namespace Go.Proofs.Ytdifbfhmeljblaa
set_option linter.unusedVariables false
set_option linter.unusedSimpArgs false
open Go.RowKit

theorem ValsAt.below {W W' : World} {A : Option Addr} {vs : List Val} (h : ValsAt W A vs) (hb : Below W.heap.size W W') : ValsAt W' A vs := fun i hi => by
  obtain ⟨b, off, e, hlt, h0, h1, h2⟩ := h i hi
  exact ⟨b, off, e, Nat.lt_of_lt_of_le hlt hb.size, (hb.cell (p := ⟨b, _, none⟩) hlt).trans h0, (hb.cell (p := ⟨b, _, none⟩) hlt).trans h1, (hb.cell (p := ⟨b, _, none⟩) hlt).trans h2⟩
theorem IntsAt.below {W W' : World} {A : Option Addr} {ws : List Int} (h : IntsAt W A ws) (hb : Below W.heap.size W W') : IntsAt W' A ws := fun i hi => by
  obtain ⟨b, off, e, hlt, h0⟩ := h i hi
  exact ⟨b, off, e, Nat.lt_of_lt_of_le hlt hb.size, (hb.cell (p := ⟨b, _, none⟩) hlt).trans h0⟩
/-- The i-th value, by name. -/
theorem ValsAt.get {W : World} {A : Option Addr} {vs : List Val} (h : ValsAt W A vs) (hf : ∀ v ∈ vs, v.fits) {i : Nat} (hi : i < vs.length) :
    ∃ b off k n s, A = some ⟨b, off, none⟩ ∧ b < W.heap.size ∧ vs.getD i default = ⟨k, n, s⟩ ∧ W.cell? ⟨b, off + i * 3, none⟩ = some (.int .i64 k) ∧ W.cell? ⟨b, off + i * 3 + 1, none⟩ = some (.int .i64 n) ∧
      W.cell? ⟨b, off + i * 3 + 2, none⟩ = some (.string s) ∧ (-9223372036854775808 ≤ n ∧ n ≤ 9223372036854775807) ∧ s.size ≤ 140737488351232 := by
  obtain ⟨b, off, e, hlt, h0, h1, h2⟩ := h i hi
  have hm : vs.getD i default ∈ vs := by simp [List.getD, hi]
  exact ⟨b, off, _, _, _, e, hlt, rfl, h0, h1, h2, (hf _ hm).2.1, (hf _ hm).2.2⟩

theorem Has.below {w w' : World} {g : Nat} {l : List Int} (h : Has w g l) (hb : Below w.heap.size w w') : Has w' g l := fun j hj =>
  (hb.cell (p := ⟨g, j, none⟩) (World.block_lt_of_cell? w ⟨g, j, none⟩ (h j hj))).trans (h j hj)
theorem cell_below {w w' : World} {p : Addr} {x : Value} (h : w.cell? p = some x) (hb : Below w.heap.size w w') : w'.cell? p = some x := (hb.cell (World.block_lt_of_cell? w p h)).trans h
theorem keepS3 {B : Nat} {W w1 w2 : World} {a b c : Addr} {x y z : Value} (h : (w1.cell? a = some x ∧ w1.cell? b = some y ∧ w1.cell? c = some z) ∧ Below B W w1) (hB : B ≤ w1.heap.size) (hb : Below w1.heap.size w1 w2) :
    (w2.cell? a = some x ∧ w2.cell? b = some y ∧ w2.cell? c = some z) ∧ Below B W w2 :=
  ⟨⟨cell_below h.1.1 hb, cell_below h.1.2.1 hb, cell_below h.1.2.2 hb⟩, h.2.trans (hb.mono hB)⟩

theorem keepS4 {B : Nat} {W w1 w2 : World} {a b c d : Addr} {x y z u : Value} (h : (w1.cell? a = some x ∧ w1.cell? b = some y ∧ w1.cell? c = some z ∧ w1.cell? d = some u) ∧ Below B W w1) (hB : B ≤ w1.heap.size) (hb : Below w1.heap.size w1 w2) :
    (w2.cell? a = some x ∧ w2.cell? b = some y ∧ w2.cell? c = some z ∧ w2.cell? d = some u) ∧ Below B W w2 :=
  ⟨⟨cell_below h.1.1 hb, cell_below h.1.2.1 hb, cell_below h.1.2.2.1 hb, cell_below h.1.2.2.2 hb⟩, h.2.trans (hb.mono hB)⟩

set_option maxRecDepth 100000 in
set_option maxHeartbeats 2000000 in
theorem hashAll_walk (A A2 : Option Addr) (C C2 : Nat) (vs : List Val) (ws : List Int) (w : World) (hv : ValsAt w A vs) (hf : ∀ v ∈ vs, v.fits) (hl : vs.length * 32 ≤ 140737488351232)
    (hw : IntsAt w A2 ws) (hl2 : ws.length * 8 ≤ 140737488351232) :
    Calls Try.prog 4 #[.slice A vs.length C, .slice A2 ws.length C2] w fun e w' => e = .returned (.bool true) ∧ Below w.heap.size w w' := by
  have HV := Lib.hid hv
  have HF := Lib.hid hf
  have HW := Lib.hid hw
  clear hv hf hw
  go_enter Try.func4, Try.ntmps4
  go_wp2_with (go_at_call 9; refine (begun9 _).mono ?_; rintro e w1 ⟨rfl, hb1⟩)
  have HB1 := Lib.hid hb1
  clear hb1
  go_loopw [5, 6] (fun wk n wr => ∃ (j : Nat) (a : Int), j ≤ 2 ∧ 0 ≤ a ∧ a ≤ 281474976710656 ∧ wk = .int .i64 a ∧ n = .int .i64 j ∧ Below w.heap.size w wr) (fun _ n _ => 2 - (intOf n).toNat)
  case atStart => exact ⟨0, 0, by omega, by omega, by omega, rfl, rfl, HB1.out⟩
  case round =>
    obtain ⟨j, a, hj, ha0, ha1, rfl, rfl, hb⟩ := hrel
    have HB := Lib.hid hb
    clear hb HB1
    by_cases hlt : j < 2
    · have hjd : decide ((j : Int) < 2) = true := by simp; omega
      go_wp2_with fail
      obtain ⟨wo, rfl⟩ : ∃ wo : World, wo = wr := ⟨_, rfl⟩
      go_loopw [5, 7] (fun wk i wr => ∃ (t : Nat) (a : Int), t ≤ vs.length ∧ 0 ≤ a ∧ a ≤ 281474976710656 ∧ wk = .int .i64 a ∧ i = .int .i64 t ∧ Below w.heap.size w wr) (fun _ n _ => vs.length - (intOf n).toNat)
      case atStart => exact ⟨0, a, by omega, by omega, by omega, rfl, rfl, HB.out⟩
      case round =>
        obtain ⟨t, a, ht, ha0, ha1, rfl, rfl, hb⟩ := hrel
        have HB := Lib.hid hb
        clear hb
        by_cases hlt2 : t < vs.length
        · by_cases hwk : a < 16777216
          · obtain ⟨b, off, k, n, s, rfl, hbl, hg, hc0, hc1, hc2, hn, hs⟩ := (HV.out.below HB.out).get HF.out hlt2
            clear hg
            go_wp2_with fail
            go_cut [49] from 19 to 100 (fun r wc => r = .bool false ∧ Below w.heap.size w wc)
            case first =>
              have hsm : s.size ≤ maxLen := by unfold maxLen; omega
              have HS := Lib.hid hsm
              have HN := Lib.hid hn
              have hS : ((wr.drew.cell? ⟨b, off + t * 3, none⟩ = some (.int .i64 k) ∧ wr.drew.cell? ⟨b, off + t * 3 + 1, none⟩ = some (.int .i64 n) ∧ wr.drew.cell? ⟨b, off + t * 3 + 2, none⟩ = some (.string s)) ∧ Below w.heap.size w wr.drew) := ⟨⟨hc0, hc1, hc2⟩, HB.out.drew⟩
              clear hsm hn hc0 hc1 hc2
              go_region_held3 (fun w' => (w'.cell? ⟨b, off + t * 3, none⟩ = some (.int .i64 k) ∧ w'.cell? ⟨b, off + t * 3 + 1, none⟩ = some (.int .i64 n) ∧ w'.cell? ⟨b, off + t * 3 + 2, none⟩ = some (.string s)) ∧ Below w.heap.size w w') (first | exact hS | assumption | exact keepS3 (by assumption) (by have := (by assumption : _ ∧ Below _ _ _).2.size; assumption) (by assumption)) (first | (go_at_call 11; refine (bytes11 k n s _ HN.out HS.out).mono ?_; rintro e w2 ⟨g1, cap1, rfl, hown1, hb1⟩; have hh1 := Has.of_own hown1; clear hown1; (try replace hh2 := hh2.below hb1)) | (go_at_call 12; refine (bytes12 k n s _ HN.out HS.out).mono ?_; rintro e w3 ⟨g2, cap2, rfl, hown2, hb2⟩; have hh2 := Has.of_own hown2; clear hown2; (try replace hh1 := hh1.below hb2)) | (go_at_call 10; refine (eq10 g1 g2 cap1 cap2 _ _ _ _ _ rfl rfl hh1 hh2 (byt_bytes k n s) (byt_bytes k n s)).mono ?_; rintro e w4 ⟨rfl, rfl⟩))
              all_goals
                go_wp2_with fail
                go_meet
                case rel => exact ⟨by simp, (by assumption : _ ∧ Below w.heap.size w _).2⟩
            case rest =>
              obtain ⟨rfl, hb⟩ := hcut
              have HB2 := Lib.hid hb
              clear hb HB hc0 hc1 hc2
              go_wp2_with fail
              obtain ⟨wp, rfl⟩ : ∃ wp : World, wp = wr := ⟨_, rfl⟩
              go_loopw [5, 8] (fun wk i wr => ∃ (q : Nat) (a : Int), q ≤ ws.length ∧ 0 ≤ a ∧ a ≤ 281474976710656 ∧ wk = .int .i64 a ∧ i = .int .i64 q ∧ Below w.heap.size w wr) (fun _ n _ => ws.length - (intOf n).toNat)
              case atStart => exact ⟨0, _, by omega, by omega, by omega, rfl, rfl, HB2.out⟩
              case round =>
                obtain ⟨q, a2, hq, ha0, ha1, rfl, rfl, hb⟩ := hrel
                have HB := Lib.hid hb
                clear hb HB2
                by_cases hlt3 : q < ws.length
                · by_cases hwk2 : a2 < 16777216
                  · obtain ⟨b2, off2, rfl, hbl2, hc3⟩ := (HW.out.below HB.out) q hlt3
                    have HV' := (HV.out.below HB.out).get HF.out hlt2
                    obtain ⟨b', off', k, n, s, hA, hbl, hg, hc0, hc1, hc2, hn, hs⟩ := HV'
                    simp only [Option.some.injEq, Addr.mk.injEq, and_true] at hA
                    obtain ⟨rfl, rfl⟩ := hA
                    generalize ws.getD q 0 = wd at hc3
                    clear hg
                    go_wp2_with fail
                    have hsm : s.size ≤ maxLen := by unfold maxLen; omega
                    have HS := Lib.hid hsm
                    have HN := Lib.hid hn
                    have hS : ((wr.drew.cell? ⟨b, off + t * 3, none⟩ = some (.int .i64 k) ∧ wr.drew.cell? ⟨b, off + t * 3 + 1, none⟩ = some (.int .i64 n) ∧ wr.drew.cell? ⟨b, off + t * 3 + 2, none⟩ = some (.string s) ∧ wr.drew.cell? ⟨b2, off2 + q, none⟩ = some (.int .i64 wd)) ∧ Below w.heap.size w wr.drew) := ⟨⟨hc0, hc1, hc2, hc3⟩, HB.out.drew⟩
                    clear hsm hn hc0 hc1 hc2 hc3
                    go_region_held3 (fun w' => (w'.cell? ⟨b, off + t * 3, none⟩ = some (.int .i64 k) ∧ w'.cell? ⟨b, off + t * 3 + 1, none⟩ = some (.int .i64 n) ∧ w'.cell? ⟨b, off + t * 3 + 2, none⟩ = some (.string s) ∧ w'.cell? ⟨b2, off2 + q, none⟩ = some (.int .i64 wd)) ∧ Below w.heap.size w w') (first | exact hS | assumption | exact keepS4 (by assumption) (by have := (by assumption : _ ∧ Below _ _ _).2.size; assumption) (by assumption)) (first | (go_at_call 13; refine (sum13_any k n s wd _ HN.out HS.out).mono ?_; rintro e w2 ⟨rfl, hb1⟩))
                    have hS2 := keepS4 hS HB.out.size hb1
                    clear hS hb1
                    go_wp2_with fail
                    have hS : ((w2.drew.cell? ⟨b, off + t * 3, none⟩ = some (.int .i64 k) ∧ w2.drew.cell? ⟨b, off + t * 3 + 1, none⟩ = some (.int .i64 n) ∧ w2.drew.cell? ⟨b, off + t * 3 + 2, none⟩ = some (.string s) ∧ w2.drew.cell? ⟨b2, off2 + q, none⟩ = some (.int .i64 wd)) ∧ Below w.heap.size w w2.drew) := ⟨hS2.1, hS2.2.drew⟩
                    clear hS2
                    go_region_held3 (fun w' => (w'.cell? ⟨b, off + t * 3, none⟩ = some (.int .i64 k) ∧ w'.cell? ⟨b, off + t * 3 + 1, none⟩ = some (.int .i64 n) ∧ w'.cell? ⟨b, off + t * 3 + 2, none⟩ = some (.string s) ∧ w'.cell? ⟨b2, off2 + q, none⟩ = some (.int .i64 wd)) ∧ Below w.heap.size w w') (first | exact hS | assumption | exact keepS4 (by assumption) (by have := (by assumption : _ ∧ Below _ _ _).2.size; assumption) (by assumption)) (first | (go_at_call 14; refine (sum14_any k n s wd _ HN.out HS.out).mono ?_; rintro e w3 ⟨rfl, hb1⟩))
                    have hS3 := Lib.hid (keepS4 hS hS.2.size hb1).2
                    clear hS hb1
                    go_wp2_with fail
                    go_roundw
                    case rel => exact ⟨q + 1, _, by omega, by omega, by omega, rfl, by go_num, hS3.out⟩
                    case measure => simp [intOf]; omega
                  · go_wp2_with fail
                    go_roundw
                    case rel => exact ⟨t + 1, _, by omega, ha0, ha1, rfl, by go_num, HB.out⟩
                    case measure => simp [intOf]; omega
                · obtain rfl : q = ws.length := by omega
                  go_wp2_with fail
                  go_roundw
                  case rel => exact ⟨t + 1, _, by omega, ha0, ha1, rfl, by go_num, HB.out⟩
                  case measure => simp [intOf]; omega
          · go_wp2_with fail
            go_roundw
            case rel => exact ⟨j + 1, _, by omega, ha0, ha1, rfl, by go_num, HB.out⟩
            case measure => simp [intOf]; omega
        · obtain rfl : t = vs.length := by omega
          go_wp2_with fail
          go_roundw
          case rel => exact ⟨j + 1, _, by omega, ha0, ha1, rfl, by go_num, HB.out⟩
          case measure => simp [intOf]; omega
    · go_wp2_with fail
      go_ret
      exact ⟨rfl, HB.out⟩
end Go.Proofs.Ytdifbfhmeljblaa
