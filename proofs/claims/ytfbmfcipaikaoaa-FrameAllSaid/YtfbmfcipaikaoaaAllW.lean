/- quadrillelaw23.FrameAll answers true at every input: the walk. -/
import Derived.Test.YtfbmfcipaikaoaaTwoP
import Derived.Test.YtfbmfcipaikaoaaBegun
import Derived.Test.YtfbmfcipaikaoaaFrame
import Derived.Deep.Cut
import Derived.Deep.CutRange
import Derived.Deep.CutBlock
import Derived.Deep.DeepMust
namespace Go.Proofs.Ytfbmfcipaikaoaa
set_option linter.unusedVariables false
set_option linter.unusedSimpArgs false
open Go.RowKit Go.Maps

theorem costV_bd (fs : List Fr) (k : Int) : 10 ≤ costV fs k ∧ costV fs k ≤ 10 + fs.length := by unfold costV; split <;> omega
theorem wrap_ok {x : Int} (h0 : -9223372036854775808 ≤ x) (h1 : x ≤ 9223372036854775807) : IntKind.i64.wrap x = x := by
  simp [IntKind.wrap, IntKind.signed, IntKind.bits]; omega
theorem below_cell {w w' : World} {p : Addr} {x : Value} (hb : Below w.heap.size w w') (h : w.cell? p = some x) : w'.cell? p = some x := cell_below h hb
set_option maxRecDepth 100000 in
set_option maxHeartbeats 4000000 in
theorem frameAll_walk (A : Option Addr) (C n : Nat) (os : List OpV) (w : World) (ho : OpsAt w A os) (hf : ∀ o ∈ os, o.fits) (hn : os.length = n) (hl : n ≤ 35184372088832) :
    Calls Try.prog 5 #[.slice A n C] w fun e w' => e = .returned (.bool true) ∧ Below w.heap.size w w' := by
  have HO := Lib.hid ho
  have HF := Lib.hid hf
  clear ho hf
  go_enter Try.func5, Try.ntmps5
  go_wp2_with (first | (go_at_call 7; refine (begun7 _).mono ?_; rintro e w1 ⟨rfl, hb1⟩))
  refine (anew19 _).mono ?_
  rintro e w2 ⟨S0, S0', p0, rfl, hpr0, hb2⟩
  go_wp2_with fail
  refine (anew19 _).mono ?_
  rintro e w3 ⟨S1, S1', p1, rfl, hpr1, hb3⟩
  have HT : Hid (T2 (w3.alloc (.cells #[.pointer (some ⟨S0, 0, none⟩), .pointer (some ⟨S0', 0, none⟩), .pointer (some ⟨S1, 0, none⟩), .pointer (some ⟨S1', 0, none⟩)] 55)) w.heap.size w3.heap.size (fun i => if i = 0 then ⟨S0, S0', p0, [], 0⟩ else ⟨S1, S1', p1, [], 0⟩) ∧ Below w.heap.size w (w3.alloc (.cells #[.pointer (some ⟨S0, 0, none⟩), .pointer (some ⟨S0', 0, none⟩), .pointer (some ⟨S1, 0, none⟩), .pointer (some ⟨S1', 0, none⟩)] 55))) := by
    have ha := (Below.refl w3.heap.size w3).alloc (Nat.le_refl _) (.cells #[.pointer (some ⟨S0, 0, none⟩), .pointer (some ⟨S0', 0, none⟩), .pointer (some ⟨S1, 0, none⟩), .pointer (some ⟨S1', 0, none⟩)] 55)
    have s1 := hb1.size
    have s2 := hb2.size
    have s3 := hb3.size
    have q0 := (hpr0.below hb3).below ha
    have q1 := hpr1.below ha
    have x0 := hpr0.px
    have x1 := hpr1.px
    refine ⟨⟨fun i hi => ?_, fun i j hi hj hij k hk hk' => ?_, heap_alloc_new w3 _, fun i hi e => ?_, by omega⟩, ((hb1.trans (hb2.mono s1)).trans (hb3.mono (by omega))).trans (ha.mono (by omega))⟩
    · have : i = 0 ∨ i = 1 := by omega
      rcases this with rfl | rfl
      · exact q0.base s1
      · exact q1.base (by omega)
    · have : (i = 0 ∧ j = 1) ∨ (i = 1 ∧ j = 0) := by omega
      rcases this with ⟨rfl, rfl⟩ | ⟨rfl, rfl⟩
      · have := x0 k hk; have := x1 k hk'; omega
      · have := x1 k hk; have := x0 k hk'; omega
    · have : i = 0 ∨ i = 1 := by omega
      rcases this with rfl | rfl
      · have := (x0 _ e).2; omega
      · have := (x1 _ e).2; omega
  clear hb1 hb2 hb3 hpr0 hpr1
  obtain ⟨Z, hZ⟩ : ∃ Z, w3.heap.size = Z := ⟨_, rfl⟩
  rw [hZ] at HT
  go_wp2_with fail
  clear hZ
  go_loopw [4, 5] (fun N i wr => ∃ (k c : Nat) (P : Nat → Pk), k ≤ n ∧ i = .int .i64 k ∧ N = .int .i64 c ∧ 10 * k ≤ c ∧ c ≤ 4194304 ∧ (∀ q, q < 2 → (P q).fs.length ≤ k) ∧ T2 wr w.heap.size Z P ∧ Below w.heap.size w wr) (fun _ i _ => n - (intOf i).toNat)
  case atStart => exact ⟨0, 0, _, by omega, rfl, rfl, by omega, by omega, fun q hq => by by_cases e : q = 0 <;> simp [e], HT.out.1, HT.out.2⟩
  case round =>
    obtain ⟨k, c, P, hk, rfl, rfl, hck, hc4, hP, ht, hb⟩ := hrel
    by_cases hlt : k < n
    · obtain ⟨b, off, o, rfl, hbl, hfit, a0, a1, a2, a3, a4⟩ := HO.out.get HF.out (i := k) (by omega)
      obtain ⟨ok, ob, pr, pc, pn⟩ := o
      simp only at a0 a1 a2 a3 a4
      have HA : Hid (∀ wx, Below w.heap.size w wx → wx.cell? ⟨b, off + k * 5, none⟩ = some (.int .i64 ok) ∧ wx.cell? ⟨b, off + k * 5 + 1, none⟩ = some (.bool ob) ∧ wx.cell? ⟨b, off + k * 5 + 2, none⟩ = some (.int .i64 pr) ∧ wx.cell? ⟨b, off + k * 5 + 3, none⟩ = some (.int .i64 pc) ∧ wx.cell? ⟨b, off + k * 5 + 4, none⟩ = some (.int .i64 pn)) :=
        fun wx hx => ⟨cell_below a0 hx, cell_below a1 hx, cell_below a2 hx, cell_below a3 hx, cell_below a4 hx⟩
      clear a0 a1 a2 a3 a4 hbl
      obtain ⟨a0, a1, a2, a3, a4⟩ := HA.out _ hb
      obtain ⟨q, hq2, hq⟩ : ∃ q : Nat, q < 2 ∧ (if ob then 1 else 0) = q := ⟨_, by split <;> omega, rfl⟩
      have HFT := Lib.hid hfit
      have HTB := Lib.hid (And.intro ht hb)
      have hPq := hP q hq2
      have HP := Lib.hid hP
      obtain ⟨z0, z1⟩ := ht.cells hq2
      clear hfit ht hb hP
      go_upto_if 22 with fail
      go_cut [6] from 18 to 22 (fun v wc => wc = wr ∧ v = .int .i64 (q : Int))
      case first =>
        cases ob
        · go_wp2_with fail
          go_meet
          case rel => exact ⟨rfl, by rw [← hq]; rfl⟩
        · go_wp2_with fail
          go_meet
          case rel => exact ⟨rfl, by rw [← hq]; rfl⟩
      case rest =>
        obtain ⟨rfl, rfl⟩ := hcut
        clear hq
        have hq0 : (0 : Int) ≤ (q : Int) := by omega
        have hq1 : (q : Int) < 2 := by omega
        have hcd := costV_bd (P q).fs ok
        have HCO := Lib.hid (cost20 ((HTB.out.1.pr q hq2).below (Below.refl _ _).drew) ok ob pr pc pn)
        obtain ⟨cv, hcv⟩ : ∃ cv, costV (P q).fs ok = cv := ⟨_, rfl⟩
        rw [hcv] at hcd HCO
        clear hcv
        have hcs : (c : Int) + (cv : Int) ≤ 4194304 + 10 + 419430 := by omega
        have hws : IntKind.i64.wrap ((c : Int) + (cv : Int)) = (c : Int) + (cv : Int) := wrap_ok (by omega) (by omega)
        go_wp2_with fail
        go_region_held3 (fun w' => (w'.cell? ⟨Z, q * 2, none⟩ = some (.pointer (some ⟨(P q).S, 0, none⟩)) ∧ w'.cell? ⟨Z, q * 2 + 1, none⟩ = some (.pointer (some ⟨(P q).S', 0, none⟩))) ∧ (w'.cell? ⟨b, off + k * 5, none⟩ = some (.int .i64 ok) ∧ w'.cell? ⟨b, off + k * 5 + 1, none⟩ = some (.bool ob) ∧ w'.cell? ⟨b, off + k * 5 + 2, none⟩ = some (.int .i64 pr) ∧ w'.cell? ⟨b, off + k * 5 + 3, none⟩ = some (.int .i64 pc) ∧ w'.cell? ⟨b, off + k * 5 + 4, none⟩ = some (.int .i64 pn))) (first | exact ⟨⟨z0, z1⟩, a0, a1, a2, a3, a4⟩ | exact ⟨⟨below_cell hb5 z0, below_cell hb5 z1⟩, below_cell hb5 a0, below_cell hb5 a1, below_cell hb5 a2, below_cell hb5 a3, below_cell hb5 a4⟩ | go_keep) (first | (go_at_call 20; refine HCO.out.mono ?_; rintro e w5 ⟨rfl, hb5⟩))
        all_goals
          have ht5 := (HTB.out.1.below (Below.refl _ _).drew).below hb5
          have hbb5 := HTB.out.2.drew.trans (hb5.mono HTB.out.2.size)
          obtain ⟨⟨z0, z1⟩, a0, a1, a2, a3, a4⟩ : (w5.cell? ⟨Z, q * 2, none⟩ = some (.pointer (some ⟨(P q).S, 0, none⟩)) ∧ w5.cell? ⟨Z, q * 2 + 1, none⟩ = some (.pointer (some ⟨(P q).S', 0, none⟩))) ∧ (w5.cell? ⟨b, off + k * 5, none⟩ = some (.int .i64 ok) ∧ w5.cell? ⟨b, off + k * 5 + 1, none⟩ = some (.bool ob) ∧ w5.cell? ⟨b, off + k * 5 + 2, none⟩ = some (.int .i64 pr) ∧ w5.cell? ⟨b, off + k * 5 + 3, none⟩ = some (.int .i64 pc) ∧ w5.cell? ⟨b, off + k * 5 + 4, none⟩ = some (.int .i64 pn)) := by assumption
          have HT5 := Lib.hid (And.intro ht5 hbb5)
          clear ht5 hbb5 HCO hws
          by_cases hgt : (4194304 : Int) < (c : Int) + (cv : Int)
          · go_wp2_with fail
            go_ret
            exact ⟨rfl, HT5.out.2⟩
          · go_upto_if 40 with fail
            go_cut [] from 35 to 43 (fun wcc => ∃ P' : Nat → Pk, (∀ i, i < 2 → (P' i).fs.length ≤ k) ∧ T2 wcc w.heap.size Z P' ∧ Below w.heap.size w wcc)
            case first =>
              by_cases h11 : ok = 11
              · subst h11
                go_wp2_with fail
                refine (anew19 _).mono ?_
                rintro e w6 ⟨S, S', p, rfl, hpr, hb6⟩
                have htt := HT5.out.1.anew hq2 hpr hb6 HT5.out.2.size
                have hbt := HT5.out.2.trans (hb6.mono HT5.out.2.size)
                have hrz := (HT5.out.1.below hb6).rz
                have y0 := below_cell hb6 z0
                have y1 := below_cell hb6 z1
                have f0 := row_froz hrz (q * 2)
                have f1 := row_froz hrz (q * 2 + 1)
                have HX := Lib.hid (And.intro htt hbt)
                clear htt hbt hrz hpr hb6
                go_wp2_with fail
                go_meet
                case rel => exact ⟨_, fun i hi => by by_cases e : i = q <;> simp [upd, e, HP.out i hi], HX.out.1, (HX.out.2.setCell (p := ⟨Z, q * 2, none⟩) HT5.out.1.bz _).setCell (p := ⟨Z, q * 2 + 1, none⟩) HT5.out.1.bz _⟩
              · have h11' : (ok == 11) = false := beq_eq_false_iff_ne.2 h11
                clear h11
                go_wp2_with fail
                go_meet
                case rel => exact ⟨P, HP.out, HT5.out.1, HT5.out.2⟩
            case rest =>
              obtain ⟨P', hP', ht', hb'⟩ := hcut
              clear z0 z1 a0 a1 a2 a3 a4
              obtain ⟨a0, a1, a2, a3, a4⟩ := HA.out _ hb'
              obtain ⟨z0, z1⟩ := ht'.cells hq2
              have hPq' := hP' q hq2
              have HPL := Lib.hid (plays21 ((ht'.pr q hq2).below (Below.refl _ _).drew) ok ob pr pc pn HFT.out.2.1 HFT.out.2.2.1 HFT.out.2.2.2 (by omega))
              have HT' := Lib.hid (And.intro ht' (And.intro hb' hP'))
              clear ht' hb' hP' HT5
              go_wp2_with fail
              refine wp_region_noPanic ?_
              refine wp_region_held_drew (S := (fun w' => (w'.cell? ⟨Z, q * 2, none⟩ = some (.pointer (some ⟨(P' q).S, 0, none⟩)) ∧ w'.cell? ⟨Z, q * 2 + 1, none⟩ = some (.pointer (some ⟨(P' q).S', 0, none⟩))) ∧ (w'.cell? ⟨b, off + k * 5, none⟩ = some (.int .i64 ok) ∧ w'.cell? ⟨b, off + k * 5 + 1, none⟩ = some (.bool ob) ∧ w'.cell? ⟨b, off + k * 5 + 2, none⟩ = some (.int .i64 pr) ∧ w'.cell? ⟨b, off + k * 5 + 3, none⟩ = some (.int .i64 pc) ∧ w'.cell? ⟨b, off + k * 5 + 4, none⟩ = some (.int .i64 pn)))) (by kernel_rfl) (by exact ⟨⟨z0, z1⟩, a0, a1, a2, a3, a4⟩) (fun hHeld => ?_)
              first
              | (refine wpAnyH_take (i := 0) (oi := ?o1_0) (v := undef) ?hi1_0 (by kernel_rfl) (by kernel_rfl) (by kernel_rfl) (fun _ _ _ h => h) ?hy1_0 (by assumption) ?hr1_0
                 case hi1_0 => (simp only [List.getElem?_toArray, List.getElem?_cons_succ, List.getElem?_cons_zero]; rfl)
                 case hy1_0 => exact Or.inr ⟨by rfl, rfl⟩)
              | (refine wpAnyH_take (i := 0) (oi := ?o1_0) (v := ?v1_0) ?hi1_0 (by kernel_rfl) (by kernel_rfl) (by kernel_rfl) (fun _ _ _ h => h) ?hy1_0 (by assumption) ?hr1_0
                 case hi1_0 => (simp only [List.getElem?_toArray, List.getElem?_cons_succ, List.getElem?_cons_zero]; rfl)
                 case hy1_0 => (refine Or.inl ⟨by rfl, ?_⟩; intro w hSw; (try dsimp only at hSw); go_simp <;> with_reducible rfl))
              try simp only [Act.put, List.setIfInBounds_toArray, List.set_cons_zero, List.set_cons_succ]
              first
              | (refine wpAnyH_take (i := 1) (oi := ?o1_1) (v := undef) ?hi1_1 (by kernel_rfl) (by kernel_rfl) (by kernel_rfl) (fun _ _ _ h => h) ?hy1_1 (by assumption) ?hr1_1
                 case hi1_1 => (simp only [List.getElem?_toArray, List.getElem?_cons_succ, List.getElem?_cons_zero]; rfl)
                 case hy1_1 => exact Or.inr ⟨by rfl, rfl⟩)
              | (refine wpAnyH_take (i := 1) (oi := ?o1_1) (v := ?v1_1) ?hi1_1 (by kernel_rfl) (by kernel_rfl) (by kernel_rfl) (fun _ _ _ h => h) ?hy1_1 (by assumption) ?hr1_1
                 case hi1_1 => (simp only [List.getElem?_toArray, List.getElem?_cons_succ, List.getElem?_cons_zero]; rfl)
                 case hy1_1 => (refine Or.inl ⟨by rfl, ?_⟩; intro w hSw; (try dsimp only at hSw); go_simp <;> with_reducible rfl))
              try simp only [Act.put, List.setIfInBounds_toArray, List.set_cons_zero, List.set_cons_succ]
              first
              | (refine wpAnyH_take (i := 2) (oi := ?o1_2) (v := undef) ?hi1_2 (by kernel_rfl) (by kernel_rfl) (by kernel_rfl) (fun _ _ _ h => h) ?hy1_2 (by assumption) ?hr1_2
                 case hi1_2 => (simp only [List.getElem?_toArray, List.getElem?_cons_succ, List.getElem?_cons_zero]; rfl)
                 case hy1_2 => exact Or.inr ⟨by rfl, rfl⟩)
              | (refine wpAnyH_take (i := 2) (oi := ?o1_2) (v := ?v1_2) ?hi1_2 (by kernel_rfl) (by kernel_rfl) (by kernel_rfl) (fun _ _ _ h => h) ?hy1_2 (by assumption) ?hr1_2
                 case hi1_2 => (simp only [List.getElem?_toArray, List.getElem?_cons_succ, List.getElem?_cons_zero]; rfl)
                 case hy1_2 => (refine Or.inl ⟨by rfl, ?_⟩; intro w hSw; (try dsimp only at hSw); go_simp <;> with_reducible rfl))
              try simp only [Act.put, List.setIfInBounds_toArray, List.set_cons_zero, List.set_cons_succ]
              first
              | (refine wpAnyH_take (i := 3) (oi := ?o1_3) (v := undef) ?hi1_3 (by kernel_rfl) (by kernel_rfl) (by kernel_rfl) (fun _ _ _ h => h) ?hy1_3 (by assumption) ?hr1_3
                 case hi1_3 => (simp only [List.getElem?_toArray, List.getElem?_cons_succ, List.getElem?_cons_zero]; rfl)
                 case hy1_3 => exact Or.inr ⟨by rfl, rfl⟩)
              | (refine wpAnyH_take (i := 3) (oi := ?o1_3) (v := ?v1_3) ?hi1_3 (by kernel_rfl) (by kernel_rfl) (by kernel_rfl) (fun _ _ _ h => h) ?hy1_3 (by assumption) ?hr1_3
                 case hi1_3 => (simp only [List.getElem?_toArray, List.getElem?_cons_succ, List.getElem?_cons_zero]; rfl)
                 case hy1_3 => (refine Or.inl ⟨by rfl, ?_⟩; intro w hSw; (try dsimp only at hSw); go_simp <;> with_reducible rfl))
              try simp only [Act.put, List.setIfInBounds_toArray, List.set_cons_zero, List.set_cons_succ]
              first
              | (refine wpAnyH_take (i := 4) (oi := ?o1_4) (v := undef) ?hi1_4 (by kernel_rfl) (by kernel_rfl) (by kernel_rfl) (fun _ _ _ h => h) ?hy1_4 (by assumption) ?hr1_4
                 case hi1_4 => (simp only [List.getElem?_toArray, List.getElem?_cons_succ, List.getElem?_cons_zero]; rfl)
                 case hy1_4 => exact Or.inr ⟨by rfl, rfl⟩)
              | (refine wpAnyH_take (i := 4) (oi := ?o1_4) (v := ?v1_4) ?hi1_4 (by kernel_rfl) (by kernel_rfl) (by kernel_rfl) (fun _ _ _ h => h) ?hy1_4 (by assumption) ?hr1_4
                 case hi1_4 => (simp only [List.getElem?_toArray, List.getElem?_cons_succ, List.getElem?_cons_zero]; rfl)
                 case hy1_4 => (refine Or.inl ⟨by rfl, ?_⟩; intro w hSw; (try dsimp only at hSw); go_simp <;> with_reducible rfl))
              try simp only [Act.put, List.setIfInBounds_toArray, List.set_cons_zero, List.set_cons_succ]
              first
              | (refine wpAnyH_take (i := 5) (oi := ?o1_5) (v := undef) ?hi1_5 (by kernel_rfl) (by kernel_rfl) (by kernel_rfl) (fun _ _ _ h => h) ?hy1_5 (by assumption) ?hr1_5
                 case hi1_5 => (simp only [List.getElem?_toArray, List.getElem?_cons_succ, List.getElem?_cons_zero]; rfl)
                 case hy1_5 => exact Or.inr ⟨by rfl, rfl⟩)
              | (refine wpAnyH_take (i := 5) (oi := ?o1_5) (v := ?v1_5) ?hi1_5 (by kernel_rfl) (by kernel_rfl) (by kernel_rfl) (fun _ _ _ h => h) ?hy1_5 (by assumption) ?hr1_5
                 case hi1_5 => (simp only [List.getElem?_toArray, List.getElem?_cons_succ, List.getElem?_cons_zero]; rfl)
                 case hy1_5 => (refine Or.inl ⟨by rfl, ?_⟩; intro w hSw; (try dsimp only at hSw); go_simp <;> with_reducible rfl))
              try simp only [Act.put, List.setIfInBounds_toArray, List.set_cons_zero, List.set_cons_succ]
              first
              | (refine wpAnyH_take (i := 6) (oi := ?o1_6) (v := undef) ?hi1_6 (by kernel_rfl) (by kernel_rfl) (by kernel_rfl) (fun _ _ _ h => h) ?hy1_6 (by assumption) ?hr1_6
                 case hi1_6 => (simp only [List.getElem?_toArray, List.getElem?_cons_succ, List.getElem?_cons_zero]; rfl)
                 case hy1_6 => exact Or.inr ⟨by rfl, rfl⟩)
              | (refine wpAnyH_take (i := 6) (oi := ?o1_6) (v := ?v1_6) ?hi1_6 (by kernel_rfl) (by kernel_rfl) (by kernel_rfl) (fun _ _ _ h => h) ?hy1_6 (by assumption) ?hr1_6
                 case hi1_6 => (simp only [List.getElem?_toArray, List.getElem?_cons_succ, List.getElem?_cons_zero]; rfl)
                 case hy1_6 => (refine Or.inl ⟨by rfl, ?_⟩; intro w hSw; (try dsimp only at hSw); go_simp <;> with_reducible rfl))
              try simp only [Act.put, List.setIfInBounds_toArray, List.set_cons_zero, List.set_cons_succ]
              first
              | (refine wpAnyH_take (i := 7) (oi := ?o1_7) (v := undef) ?hi1_7 (by kernel_rfl) (by kernel_rfl) (by kernel_rfl) (fun _ _ _ h => h) ?hy1_7 (by assumption) ?hr1_7
                 case hi1_7 => (simp only [List.getElem?_toArray, List.getElem?_cons_succ, List.getElem?_cons_zero]; rfl)
                 case hy1_7 => exact Or.inr ⟨by rfl, rfl⟩)
              | (refine wpAnyH_take (i := 7) (oi := ?o1_7) (v := ?v1_7) ?hi1_7 (by kernel_rfl) (by kernel_rfl) (by kernel_rfl) (fun _ _ _ h => h) ?hy1_7 (by assumption) ?hr1_7
                 case hi1_7 => (simp only [List.getElem?_toArray, List.getElem?_cons_succ, List.getElem?_cons_zero]; rfl)
                 case hy1_7 => (refine Or.inl ⟨by rfl, ?_⟩; intro w hSw; (try dsimp only at hSw); go_simp <;> with_reducible rfl))
              try simp only [Act.put, List.setIfInBounds_toArray, List.set_cons_zero, List.set_cons_succ]
              first
              | (refine wpAnyH_take (i := 8) (oi := ?o1_8) (v := undef) ?hi1_8 (by kernel_rfl) (by kernel_rfl) (by kernel_rfl) (fun _ _ _ h => h) ?hy1_8 (by assumption) ?hr1_8
                 case hi1_8 => (simp only [List.getElem?_toArray, List.getElem?_cons_succ, List.getElem?_cons_zero]; rfl)
                 case hy1_8 => exact Or.inr ⟨by rfl, rfl⟩)
              | (refine wpAnyH_take (i := 8) (oi := ?o1_8) (v := ?v1_8) ?hi1_8 (by kernel_rfl) (by kernel_rfl) (by kernel_rfl) (fun _ _ _ h => h) ?hy1_8 (by assumption) ?hr1_8
                 case hi1_8 => (simp only [List.getElem?_toArray, List.getElem?_cons_succ, List.getElem?_cons_zero]; rfl)
                 case hy1_8 => (refine Or.inl ⟨by rfl, ?_⟩; intro w hSw; (try dsimp only at hSw); go_simp <;> with_reducible rfl))
              try simp only [Act.put, List.setIfInBounds_toArray, List.set_cons_zero, List.set_cons_succ]
              first
              | (refine wpAnyH_take (i := 9) (oi := ?o1_9) (v := undef) ?hi1_9 (by kernel_rfl) (by kernel_rfl) (by kernel_rfl) (fun _ _ _ h => h) ?hy1_9 (by assumption) ?hr1_9
                 case hi1_9 => (simp only [List.getElem?_toArray, List.getElem?_cons_succ, List.getElem?_cons_zero]; rfl)
                 case hy1_9 => exact Or.inr ⟨by rfl, rfl⟩)
              | (refine wpAnyH_take (i := 9) (oi := ?o1_9) (v := ?v1_9) ?hi1_9 (by kernel_rfl) (by kernel_rfl) (by kernel_rfl) (fun _ _ _ h => h) ?hy1_9 (by assumption) ?hr1_9
                 case hi1_9 => (simp only [List.getElem?_toArray, List.getElem?_cons_succ, List.getElem?_cons_zero]; rfl)
                 case hy1_9 => (refine Or.inl ⟨by rfl, ?_⟩; intro w hSw; (try dsimp only at hSw); go_simp <;> with_reducible rfl))
              try simp only [Act.put, List.setIfInBounds_toArray, List.set_cons_zero, List.set_cons_succ]
              first
              | (refine wpAnyH_take (i := 10) (oi := ?o1_10) (v := undef) ?hi1_10 (by kernel_rfl) (by kernel_rfl) (by kernel_rfl) (fun _ _ _ h => h) ?hy1_10 (by assumption) ?hr1_10
                 case hi1_10 => (simp only [List.getElem?_toArray, List.getElem?_cons_succ, List.getElem?_cons_zero]; rfl)
                 case hy1_10 => exact Or.inr ⟨by rfl, rfl⟩)
              | (refine wpAnyH_take (i := 10) (oi := ?o1_10) (v := ?v1_10) ?hi1_10 (by kernel_rfl) (by kernel_rfl) (by kernel_rfl) (fun _ _ _ h => h) ?hy1_10 (by assumption) ?hr1_10
                 case hi1_10 => (simp only [List.getElem?_toArray, List.getElem?_cons_succ, List.getElem?_cons_zero]; rfl)
                 case hy1_10 => (refine Or.inl ⟨by rfl, ?_⟩; intro w hSw; (try dsimp only at hSw); go_simp <;> with_reducible rfl))
              try simp only [Act.put, List.setIfInBounds_toArray, List.set_cons_zero, List.set_cons_succ]
              first
              | (refine wpAnyH_take (i := 11) (oi := ?o1_11) (v := undef) ?hi1_11 (by kernel_rfl) (by kernel_rfl) (by kernel_rfl) (fun _ _ _ h => h) ?hy1_11 (by assumption) ?hr1_11
                 case hi1_11 => (simp only [List.getElem?_toArray, List.getElem?_cons_succ, List.getElem?_cons_zero]; rfl)
                 case hy1_11 => exact Or.inr ⟨by rfl, rfl⟩)
              | (refine wpAnyH_take (i := 11) (oi := ?o1_11) (v := ?v1_11) ?hi1_11 (by kernel_rfl) (by kernel_rfl) (by kernel_rfl) (fun _ _ _ h => h) ?hy1_11 (by assumption) ?hr1_11
                 case hi1_11 => (simp only [List.getElem?_toArray, List.getElem?_cons_succ, List.getElem?_cons_zero]; rfl)
                 case hy1_11 => (refine Or.inl ⟨by rfl, ?_⟩; intro w hSw; (try dsimp only at hSw); go_simp <;> with_reducible rfl))
              try simp only [Act.put, List.setIfInBounds_toArray, List.set_cons_zero, List.set_cons_succ]
              first
              | (refine wpAnyH_take (i := 12) (oi := ?o1_12) (v := undef) ?hi1_12 (by kernel_rfl) (by kernel_rfl) (by kernel_rfl) (fun _ _ _ h => h) ?hy1_12 (by assumption) ?hr1_12
                 case hi1_12 => (simp only [List.getElem?_toArray, List.getElem?_cons_succ, List.getElem?_cons_zero]; rfl)
                 case hy1_12 => exact Or.inr ⟨by rfl, rfl⟩)
              | (refine wpAnyH_take (i := 12) (oi := ?o1_12) (v := ?v1_12) ?hi1_12 (by kernel_rfl) (by kernel_rfl) (by kernel_rfl) (fun _ _ _ h => h) ?hy1_12 (by assumption) ?hr1_12
                 case hi1_12 => (simp only [List.getElem?_toArray, List.getElem?_cons_succ, List.getElem?_cons_zero]; rfl)
                 case hy1_12 => (refine Or.inl ⟨by rfl, ?_⟩; intro w hSw; (try dsimp only at hSw); go_simp <;> with_reducible rfl))
              try simp only [Act.put, List.setIfInBounds_toArray, List.set_cons_zero, List.set_cons_succ]
              first
              | (refine wpAnyH_take (i := 13) (oi := ?o1_13) (v := undef) ?hi1_13 (by kernel_rfl) (by kernel_rfl) (by kernel_rfl) (fun _ _ _ h => h) ?hy1_13 (by assumption) ?hr1_13
                 case hi1_13 => (simp only [List.getElem?_toArray, List.getElem?_cons_succ, List.getElem?_cons_zero]; rfl)
                 case hy1_13 => exact Or.inr ⟨by rfl, rfl⟩)
              | (refine wpAnyH_ready (rs := [13]) (by kernel_rfl) (by simp) ?_
                 refine AllReadyH.cons (o := ?o1_13) ?ho1_13 (fun K hK => ?hk1_13) AllReadyH.nil
                 case ho1_13 => (simp only [List.getElem?_toArray, List.getElem?_cons_succ, List.getElem?_cons_zero]; rfl)
                 go_simp
                 go_wp2_with (go_at_call 21; refine HPL.out.mono ?_; rintro e w9 ⟨rfl, p9, fs9, m9, hp9, ht9, hl9⟩; have hb9 := Tr.belowB HT'.out.2.1.drew ht9 (fun k hk => ((HT'.out.1.pr q hq2).px k hk).1) HT'.out.2.1.size; have hz9 := (HT'.out.1.below (Below.refl _ _).drew).cells_play hq2 ht9; have ha9 := HA.out _ hb9)
                 go_wp2_with fail
                 refine hK.out _ _ ?_ (fun hHeld => ?_)
                 · first | exact ⟨hz9, ha9⟩
                 clear hK K)
              try simp only [Act.put, List.setIfInBounds_toArray, List.set_cons_zero, List.set_cons_succ]
              first
              | (refine wpAnyH_take (i := 14) (oi := ?o1_14) (v := undef) ?hi1_14 (by kernel_rfl) (by kernel_rfl) (by kernel_rfl) (fun _ _ _ h => h) ?hy1_14 (by assumption) ?hr1_14
                 case hi1_14 => (simp only [List.getElem?_toArray, List.getElem?_cons_succ, List.getElem?_cons_zero]; rfl)
                 case hy1_14 => exact Or.inr ⟨by rfl, rfl⟩)
              | (refine wpAnyH_take (i := 14) (oi := ?o1_14) (v := ?v1_14) ?hi1_14 (by kernel_rfl) (by kernel_rfl) (by kernel_rfl) (fun _ _ _ h => h) ?hy1_14 (by assumption) ?hr1_14
                 case hi1_14 => (simp only [List.getElem?_toArray, List.getElem?_cons_succ, List.getElem?_cons_zero]; rfl)
                 case hy1_14 => (refine Or.inl ⟨by rfl, ?_⟩; intro w hSw; (try dsimp only at hSw); go_simp <;> with_reducible rfl))
              try simp only [Act.put, List.setIfInBounds_toArray, List.set_cons_zero, List.set_cons_succ]
              first
              | (refine wpAnyH_take (i := 15) (oi := ?o1_15) (v := undef) ?hi1_15 (by kernel_rfl) (by kernel_rfl) (by kernel_rfl) (fun _ _ _ h => h) ?hy1_15 (by assumption) ?hr1_15
                 case hi1_15 => (simp only [List.getElem?_toArray, List.getElem?_cons_succ, List.getElem?_cons_zero]; rfl)
                 case hy1_15 => exact Or.inr ⟨by rfl, rfl⟩)
              | (refine wpAnyH_take (i := 15) (oi := ?o1_15) (v := ?v1_15) ?hi1_15 (by kernel_rfl) (by kernel_rfl) (by kernel_rfl) (fun _ _ _ h => h) ?hy1_15 (by assumption) ?hr1_15
                 case hi1_15 => (simp only [List.getElem?_toArray, List.getElem?_cons_succ, List.getElem?_cons_zero]; rfl)
                 case hy1_15 => (refine Or.inl ⟨by rfl, ?_⟩; intro w hSw; (try dsimp only at hSw); go_simp <;> with_reducible rfl))
              try simp only [Act.put, List.setIfInBounds_toArray, List.set_cons_zero, List.set_cons_succ]
              refine wpAnyH_done (by kernel_rfl) ?_ _
              refine NoPanic.normal ?_
              have HX := Lib.hid (And.intro ((HT'.out.1.below (Below.refl _ _).drew).play hq2 hp9 ht9) hb9)
              have HL : Hid (∀ i, i < 2 → (upd P' q ⟨(P' q).S, (P' q).S', p9, fs9, m9⟩ i).fs.length ≤ k + 1) := fun i hi => by
                by_cases e : i = q
                · subst e; rw [upd_same]; show fs9.length ≤ k + 1; omega
                · rw [upd_other _ _ e]; exact Nat.le_succ_of_le (HT'.out.2.2 i hi)
              clear hp9 ht9 hb9 hz9 ha9 HT' HPL z0 z1 a0 a1 a2 a3 a4
              go_wp2_with fail
              go_roundw
              case rel => exact ⟨k + 1, c + cv, _, by omega, by go_num, by go_num, by omega, by omega, HL.out, HX.out.1, HX.out.2⟩
              case measure => simp [intOf]; omega
    · have HB := Lib.hid hb
      clear ht hb hP
      go_wp2_with fail
      go_ret
      exact ⟨rfl, HB.out⟩
end Go.Proofs.Ytfbmfcipaikaoaa
