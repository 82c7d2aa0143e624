/- quadrillelaw32.TrendMeans answers true at every input: the walk. -/
import Derived.Test.YtcgkolaljgpphaaSmall
import Derived.Test.YtcgkolaljgpphaaFacts
import Derived.Test.YtcgkolaljgpphaaAll
namespace Go.Proofs.Ytcgkolaljgpphaa
set_option linter.unusedVariables false
set_option linter.unusedSimpArgs false
open Go.RowKit

attribute [local go_sem] run_store_float' eq25

theorem nums_vals (l : List Int) : numsV (numVals l) = l.map fl := by
  rw [numsV_all (numVals_num _), numVals, List.map_map]
  rfl
theorem scan_vals (l : List Int) : scan (numVals l) = 0 := by
  induction l with
  | nil => rfl
  | cons x l ih =>
    show scan (⟨1, x, ⟨#[]⟩⟩ :: numVals l) = 0
    simp only [scan, wrong_num]
    simpa using ih
theorem ofV_vals (l : List Int) (h : l ≠ []) : ofV (numVals l) = .tuple #[trendT l.length (meanV (l.map fl)) (varV (l.map fl)) (leastV (l.map fl)) (mostV (l.map fl)), .int .i64 0] := by
  have h2 : l.map fl ≠ [] := by simpa using h
  simp only [ofV, scan_vals, nums_vals]
  simp [h]
theorem ofV_none : ofV (numVals []) = .tuple #[trendT 0 0 0 0 0, .int .i64 5] := by
  simp only [ofV, scan_vals, nums_vals]
  simp
theorem fits_vals {l : List Int} (h : ∀ x ∈ l, -9223372036854775808 ≤ x ∧ x ≤ 9223372036854775807) : ∀ v ∈ numVals l, v.fits := fun v hv => by
  obtain ⟨n, hn, rfl⟩ := List.mem_map.1 hv
  exact ⟨⟨by show (-9223372036854775808 : Int) ≤ 1; decide, by show (1 : Int) ≤ 9223372036854775807; decide⟩, h n hn, by show (0 : Nat) ≤ 140737488351232; omega⟩
/-- Of, of numbers in a list of the call's own. -/
theorem of_vals (B n : Nat) (v : Value) (l : List Int) (w : World) (hv : w.ownsRow B 44 3 v n (cellsV (numVals l))) (hn : l.length = n) (hl : n ≤ 8000) (hf : ∀ x ∈ l, -9223372036854775808 ≤ x ∧ x ≤ 9223372036854775807) :
    Calls Try.prog 11 #[v] w fun e w' => e = .returned (ofV (numVals l)) ∧ Below w.heap.size w w' := by
  obtain ⟨ao, cap, rfl⟩ := row_any hv
  have hlen : (numVals l).length = n := by simp [numVals, hn]
  have hA : ValsAt w ao (numVals l) := by
    by_cases h0 : n = 0
    · intro i hi; omega
    · rw [show n = n - 1 + 1 by omega] at hv
      obtain ⟨g, c, e⟩ := slice_form hv
      rw [show n - 1 + 1 = n by omega] at hv e
      cases e
      exact ValsAt.of_own hv hlen
  have := of11 ao cap (numVals l) w hA (fits_vals hf) (by omega)
  rwa [hlen] at this

theorem ret_ints {a b : Int} (h : a = b) : Value.int .i64 a = .int .i64 b := by rw [h]
theorem foldl_take' (f : Int → Int → Int) (l : List Int) (a : Int) {k : Nat} (hk : k < l.length) : (l.take (k + 1)).foldl f a = f ((l.take k).foldl f a) (l.getD k 0) := by
  rw [take_one hk, List.foldl_append]
  rfl
theorem sumI_take (l : List Int) {k : Nat} (hk : k < l.length) : sumI (l.take (k + 1)) = sumI (l.take k) + l.getD k 0 := foldl_take' (· + ·) l 0 hk
theorem foldl_small {B : Int} {l : List Int} {a : Int} (ha : -B ≤ a ∧ a ≤ B) (hl : ∀ x ∈ l, -B ≤ x ∧ x ≤ B) : (-B ≤ l.foldl min a ∧ l.foldl min a ≤ B) ∧ (-B ≤ l.foldl max a ∧ l.foldl max a ≤ B) := by
  have key : ∀ (l : List Int) (a b : Int), (-B ≤ a ∧ a ≤ B) → (-B ≤ b ∧ b ≤ B) → (∀ x ∈ l, -B ≤ x ∧ x ≤ B) → (-B ≤ l.foldl min a ∧ l.foldl min a ≤ B) ∧ (-B ≤ l.foldl max b ∧ l.foldl max b ≤ B) := by
    intro l
    induction l with
    | nil => intro a b ha hb _; exact ⟨ha, hb⟩
    | cons x l ih =>
      intro a b ha hb hl
      have := hl x (by simp)
      exact ih _ _ (by omega) (by omega) (fun y hy => hl y (by simp [hy]))
  exact key l a a ha ha hl

theorem foldl_two (l : List Int) (a b : Int) : (l.map (2 * ·)).foldl min (2 * a) = 2 * l.foldl min a ∧ (l.map (2 * ·)).foldl max (2 * b) = 2 * l.foldl max b := by
  induction l generalizing a b with
  | nil => exact ⟨rfl, rfl⟩
  | cons x l ih =>
    simp only [List.map_cons, List.foldl_cons]
    rw [show min (2 * a) (2 * x) = 2 * min a x by omega, show max (2 * b) (2 * x) = 2 * max b x by omega]
    exact ih _ _
theorem fl_twice (n : Int) (h : n.natAbs < 2 ^ 48) : floatBits .mul .f64 4611686018427387904 (floatOfInt .f64 n) = some (floatOfInt .f64 (2 * n)) := by
  obtain ⟨s, r, r', e1, e2, e3, e4, e5, _⟩ := fl_sc (z := 1072) rfl n h
  exact twice_mul (j := 1) (R := 1024 * 2 ^ 52) ⟨s, r, r', e1, e2, e3, e4, e5⟩ (by omega) (by omega) const2.symm

set_option maxRecDepth 100000 in
set_option maxHeartbeats 4000000 in
theorem trendMeans_walk (A : Option Addr) (C n : Nat) (ws : List Int) (w : World) (hv : IntsAt w A ws) (hf : ∀ x ∈ ws, -2147483648 ≤ x ∧ x ≤ 2147483647) (hn : ws.length = n) (hl : n ≤ 35184372088832) :
    Calls Try.prog 5 #[.slice A n C] w fun e w' => e = .returned (.bool true) ∧ Below w.heap.size w w' := by
  obtain ⟨i0, hi, hz0, hz1, hz2⟩ := info_parts info2
  have HV := Lib.hid hv
  have HF := Lib.hid hf
  clear hv hf
  go_enter Try.func5, Try.ntmps5
  go_wp2_with (first | (go_at_call 8; refine (begun8 _).mono ?_; rintro e w1 ⟨rfl, hb1⟩))
  refine (small16 A C n ws _ (HV.out.below hb1) HF.out hn hl).mono ?_
  have hl1 : ∀ x ∈ ws.take 1000, -2147483648 ≤ x ∧ x ≤ 2147483647 := fun x hx => HF.out x (List.mem_of_mem_take hx)
  have hm : (ws.take 1000).length ≤ 1000 := by simp; omega
  generalize ws.take 1000 = l at *
  obtain ⟨m, hlm⟩ : ∃ m, l.length = m := ⟨_, rfl⟩
  rw [hlm] at hm ⊢
  rintro e w2 ⟨v, rfl, hown2, hb2⟩
  have HL := Lib.hid hl1
  have HB2 := Lib.hid (hb1.trans (hb2.mono hb1.size))
  have hLL : ∀ x ∈ l, -9223372036854775808 ≤ x ∧ x ≤ 9223372036854775807 := fun x hx => by have := hl1 x hx; omega
  have HLL := Lib.hid hLL
  obtain ⟨ao, cap, rfl⟩ := row_any hown2
  have HO2 := Lib.hid hown2
  have hsb := hb1.size
  clear hb1 hb2 hown2 hl1 hLL
  go_wp2_with (first | (go_at_call 17; refine (given17 _ m _ l _ HO2.out hlm (by omega)).mono ?_; rintro e w3 ⟨v3, rfl, hown3, hb3⟩; obtain ⟨ao3, cap3, rfl⟩ := row_any hown3))
  refine (of_vals _ m _ l _ hown3 hlm (by omega) HLL.out).mono ?_
  rintro e w4 ⟨rfl, hb4⟩
  have HO4 := Lib.hid (row_below (row_below HO2.out hb3) hb4)
  have HB4 := Lib.hid (HB2.out.trans ((hb3.trans (hb4.mono hb3.size)).mono HB2.out.size))
  clear hb3 hb4 hown3 HO2 HB2
  by_cases hl0 : l = []
  · subst hl0
    have hm0 : m = 0 := by simpa using hlm.symm
    subst hm0
    rw [ofV_none]
    simp only [trendT]
    have p0 : (FloatKind.f64.format.order 0 0 == some .eq) = true := by decide +kernel
    go_wp2_with fail
    go_ret
    exact ⟨rfl, HB4.out.alloc HB4.out.size _⟩
  · rw [ofV_vals l hl0]
    simp only [trendT]
    have hm1 : 1 ≤ m := by rw [← hlm]; exact List.length_pos_iff.2 hl0
    have hs31 : Small (2 ^ 31) l := fun x hx => by have := HL.out x hx; omega
    have hmean : ∀ k, k ≤ m → (sumI (l.take k)).natAbs ≤ 2 ^ 42 := fun k hk => by
      have h1 := sum_le (B := 2 ^ 31) (l := l.take k) (fun x hx => hs31 x (List.mem_of_mem_take hx))
      have h2 : (l.take k).length ≤ 1000 := by simp; omega
      have h3 := Nat.mul_le_mul_right (2 ^ 31) h2
      omega
    have HSUM := Lib.hid hmean
    have hown4 := HO4.out
    rw [show m = m - 1 + 1 by omega] at hown4
    obtain ⟨g, cg, hg⟩ := slice_form hown4
    rw [show m - 1 + 1 = m by omega] at hg
    cases hg
    have hcell : ∀ i, i < m → w4.cell? ⟨g, i, none⟩ = some (.int .i64 (l.getD i 0)) := fun i hi => by
      rw [HO4.out.cellAt i (by omega)]
      simp [i64s, show i < l.length by omega]
    have HC := Lib.hid hcell
    have hc0 := hcell 0 (by omega)
    obtain ⟨l0, hl0'⟩ : ∃ l0, l.getD 0 0 = l0 := ⟨_, rfl⟩
    rw [hl0'] at hc0
    obtain ⟨mm, hmm⟩ : ∃ mm, meanV (l.map fl) = mm := ⟨_, rfl⟩
    obtain ⟨vv, hvv⟩ : ∃ vv, varV (l.map fl) = vv := ⟨_, rfl⟩
    obtain ⟨lo, hlo⟩ : ∃ lo, leastV (l.map fl) = lo := ⟨_, rfl⟩
    obtain ⟨ho, hho⟩ : ∃ ho, mostV (l.map fl) = ho := ⟨_, rfl⟩
    rw [hmm, hvv, hlo, hho, hlm]
    have HVAL := Lib.hid (And.intro hmm (And.intro hvv (And.intro hlo hho)))
    have r1 := heap_alloc_new w4 (.cells #[.int .i64 (m : Int), .float .f64 mm, .float .f64 vv, .float .f64 lo, .float .f64 ho] 27)
    have HB5 := Lib.hid (HB4.out.alloc HB4.out.size (.cells #[.int .i64 (m : Int), .float .f64 mm, .float .f64 vv, .float .f64 lo, .float .f64 ho] 27))
    have hc0' := cell_below hc0 ((Below.refl w4.heap.size w4).alloc (Nat.le_refl _) (.cells #[.int .i64 (m : Int), .float .f64 mm, .float .f64 vv, .float .f64 lo, .float .f64 ho] 27))
    have hgl := World.block_lt_of_cell? w4 _ hc0
    have hmne : ((m : Int) == 0) = false := beq_eq_false_iff_ne.2 (by omega)
    have hm0 : (0 : Int) < (m : Int) := by omega
    have hm0' : 0 < m := by omega
    clear hmm hvv hlo hho hs31 hmean hown4 hcell hc0
    go_wp2_with fail
    have HB4' := Lib.hid (((Below.refl w4.heap.size w4).alloc (Nat.le_refl _) (.cells #[.int .i64 (m : Int), .float .f64 mm, .float .f64 vv, .float .f64 lo, .float .f64 ho] 27)))
    obtain ⟨X, hX⟩ : ∃ X, w4.alloc (.cells #[.int .i64 (m : Int), .float .f64 mm, .float .f64 vv, .float .f64 lo, .float .f64 ho] 27) = X := ⟨_, rfl⟩
    have hXs : X.heap.size = w4.heap.size + 1 := by rw [← hX]; simp
    rw [hX] at r1 HB5 hc0' HB4' ⊢
    clear hX
    obtain ⟨T, hT⟩ : ∃ T, w4.heap.size = T := ⟨_, rfl⟩
    have hTX : T < X.heap.size := by omega
    rw [hT] at r1 hgl ⊢
    have hgX : g < X.heap.size := by omega
    clear hT hXs
    go_region_held3 (fun w' => w'.cell? ⟨g, 0, none⟩ = some (.int .i64 l0)) (first | exact hc0' | go_keep) (fail)
    go_wp2_with fail
    obtain ⟨N, hN⟩ : ∃ N, X.heap.size = N := ⟨_, rfl⟩
    have HN := Lib.hid hN
    clear hN
    go_loopw [6, 7, 8, 9, 10] (fun su a b v i wr => ∃ k : Nat, k ≤ m ∧ i = .int .i64 k ∧ su = .int .i64 (sumI (l.take k)) ∧ a = .int .i64 ((l.take k).foldl min l0) ∧ b = .int .i64 ((l.take k).foldl max l0) ∧ wr.ownsRow N 2 1 v k (i64s ((l.map (2 * ·)).take k)) ∧ Below N X wr) (fun _ _ _ _ i _ => m - (intOf i).toNat)
    case atStart => exact ⟨0, by omega, rfl, rfl, rfl, rfl, World.ownsRow_nil _ _ _ _, (Below.refl _ _).drew⟩
    case round =>
      obtain ⟨k, hk, rfl, rfl, rfl, rfl, hown, hb⟩ := hrel
      obtain ⟨bo, cb, rfl⟩ := row_any hown
      have hNX := HN.out
      by_cases hlt : k < m
      · have hkl : k < l.length := by omega
        have hc1 := HC.out k hlt
        have hc2 := (cell_below hc1 HB4'.out)
        have hc := (hb.cell (p := ⟨g, k, none⟩) (by show g < N; omega)).trans hc2
        have hx := HL.out _ (getD_mem (d := (0 : Int)) hkl)
        have hS := HSUM.out k hk
        have es := sumI_take l hkl
        have ea := foldl_take' min l l0 hkl
        have eb := foldl_take' max l l0 hkl
        have et := take_one hkl
        generalize l.getD k 0 = x at *
        generalize hS0 : sumI (l.take k) = S at *
        generalize (l.take k).foldl min l0 = a at *
        generalize (l.take k).foldl max l0 = b at *
        have hSb : -4398046511104 ≤ S ∧ S ≤ 4398046511104 := by omega
        have HE := Lib.hid (And.intro es (And.intro ea (And.intro eb et)))
        have hbs := hb.size
        clear hc1 hc2 es ea eb et hS hS0
        rcases Int.lt_or_le x a with hx1 | hx1 <;> rcases Int.lt_or_le b x with hx2 | hx2
        all_goals
          go_wp2_with fail
          go_region_held3 (fun w' => w'.cell? ⟨g, k, none⟩ = some (.int .i64 x)) (first | exact hc | go_keep) (fail)
          all_goals
            have hown1 : wr.drew.ownsRow N 2 1 (.slice bo k cb) k (i64s ((l.map (2 * ·)).take k)) := hown.drew
            go_wp2_with (at_builtin; refine wpList_append_own _ rfl _ _ 37 rfl N 2 i0 (.int .i64 0) 1 8 Try.underlying37 hi hz0 hz1 hz2 rfl (by decide) _ _ _ rfl (hown1.alloc _) ⟨wr.heap.size, 0, none⟩ 1 1 [_] rfl rfl (cell_one_new _ _ _) ?c2 ?c3 ?c4 ?c5 ?_)
            case c2 => intro u hu; simp at hu; subst hu; rfl
            case c3 => unfold maxLen; omega
            case c4 => omega
            case c5 => show N ≤ (wr.drew.alloc _).heap.size; simp; omega
            intro v' wx hown' hgrow _
            have e2 : i64s ((l.map (2 * ·)).take k) ++ [Value.int .i64 (2 * x)] = i64s ((l.map (2 * ·)).take (k + 1)) := by
              rw [i64s_snoc, ← List.map_take, ← List.map_take, HE.out.2.2.2, List.map_append]
              rfl
            rw [e2] at hown'
            have hb' : Below N X wx := ((hb.drew).alloc (by show N ≤ wr.heap.size; omega) _).grown hgrow (by show N ≤ (wr.drew.alloc _).heap.size; simp; omega) (fun k hk => (hown1.lt k hk).1)
            obtain ⟨ao', cap', rfl⟩ : ∃ ao' cap', v' = .slice ao' (k + 1) cap' := row_any hown'
            have HO := Lib.hid (And.intro hown' hb')
            clear hown' hown hown1 hb hgrow hb' e2 hc
            go_wp2
            go_roundw
            case rel => exact ⟨k + 1, by omega, by go_num, by rw [HE.out.1], by rw [HE.out.2.1]; refine ret_ints ?_; rw [Int.min_def]; first | (split <;> split <;> omega) | (split <;> omega) | omega, by rw [HE.out.2.2.1]; refine ret_ints ?_; rw [Int.max_def]; first | (split <;> split <;> omega) | (split <;> omega) | omega, HO.out.1, HO.out.2⟩
            case measure => simp [intOf]; omega
      · obtain rfl : k = m := by omega
        have ht : l.take k = l := List.take_of_length_le (by omega)
        have ht2 : (l.map (2 * ·)).take k = l.map (2 * ·) := List.take_of_length_le (by simp; omega)
        rw [ht2] at hown
        rw [ht]
        have hrow := hb.row r1 (by omega)
        have HB6 := Lib.hid (HB5.out.trans (hb.mono (by have := HB5.out.size; omega)))
        have HOW := Lib.hid hown
        have hl2 : (l.map (2 * ·)).length = k := by simp [hlm]
        have hf2 : ∀ x ∈ l.map (2 * ·), -9223372036854775808 ≤ x ∧ x ≤ 9223372036854775807 := fun x hx => by
          obtain ⟨y, hy, rfl⟩ := List.mem_map.1 hx
          have := HL.out y hy
          show -9223372036854775808 ≤ 2 * y ∧ 2 * y ≤ 9223372036854775807
          omega
        have HF2 := Lib.hid hf2
        have hTw : T < wr.heap.size := (Array.getElem?_eq_some_iff.1 hrow).1
        clear hb hown hf2 ht hc0'
        go_wp2_with (first | (go_at_call 17; refine (given17 _ k _ _ _ HOW.out hl2 (by omega)).mono ?_; rintro e w5 ⟨v5, rfl, hown5, hb5⟩; obtain ⟨ao5, cap5, rfl⟩ := row_any hown5))
        refine (of_vals _ k _ _ _ hown5 hl2 (by omega) HF2.out).mono ?_
        rintro e w6 ⟨rfl, hb6⟩
        have hb56 := hb5.trans (hb6.mono hb5.size)
        replace hrow := hb56.row hrow hTw
        have HB7 := Lib.hid (HB6.out.trans (hb56.mono HB6.out.size))
        have hT6 := Nat.lt_of_lt_of_le hTw hb56.size
        clear hb5 hb6 hb56 hown5 HB6 hTw
        have hne2 : l.map (2 * ·) ≠ [] := by simpa using hl0
        rw [ofV_vals _ hne2, hl2]
        clear hne2
        simp only [trendT]
        obtain ⟨mm2, hmm2⟩ : ∃ z, meanV ((l.map (2 * ·)).map fl) = z := ⟨_, rfl⟩
        obtain ⟨vv2, hvv2⟩ : ∃ z, varV ((l.map (2 * ·)).map fl) = z := ⟨_, rfl⟩
        obtain ⟨lo2, hlo2⟩ : ∃ z, leastV ((l.map (2 * ·)).map fl) = z := ⟨_, rfl⟩
        obtain ⟨ho2, hho2⟩ : ∃ z, mostV ((l.map (2 * ·)).map fl) = z := ⟨_, rfl⟩
        rw [hmm2, hvv2, hlo2, hho2]
        have HVAL2 := Lib.hid (And.intro hmm2 (And.intro hvv2 (And.intro hlo2 hho2)))
        clear hmm2 hvv2 hlo2 hho2
        have s1 := heap_alloc_new w6 (.cells #[.int .i64 (k : Int), .float .f64 mm2, .float .f64 vv2, .float .f64 lo2, .float .f64 ho2] 27)
        replace hrow := (Below.heap_alloc w6 (.cells #[.int .i64 (k : Int), .float .f64 mm2, .float .f64 vv2, .float .f64 lo2, .float .f64 ho2] 27) _ hT6).trans hrow
        obtain ⟨c0, c1, c2, c3, c4⟩ := cells5 hrow
        obtain ⟨d0, d1, d2, d3, d4⟩ := cells5 s1
        clear hrow s1
        obtain ⟨hmm, hvv, hlo, hho⟩ := HVAL.out
        obtain ⟨hmm2, hvv2, hlo2, hho2⟩ := HVAL2.out
        have S31 : ∀ x ∈ l, -2147483648 ≤ x ∧ x ≤ 2147483647 := HL.out
        have S33 : Small (2 ^ 33) l := fun x hx => by have := S31 x hx; omega
        have S32 : Small (2 ^ 32) l := fun x hx => by have := S31 x hx; omega
        have S40 : Small (2 ^ 40) l := fun x hx => by have := S31 x hx; omega
        have T33 : Small (2 ^ 33) (l.map (2 * ·)) := fun x hx => by
          obtain ⟨y, hy, rfl⟩ := List.mem_map.1 hx
          have := S31 y hy
          show (2 * y).natAbs ≤ 2 ^ 33
          omega
        have T40 : Small (2 ^ 40) (l.map (2 * ·)) := fun x hx => by have := T33 x hx; omega
        have k1 : 1 ≤ l.length := by omega
        have k2 : l.length ≤ 1024 := by omega
        have FS := foldl_small (B := 2147483648) (a := l.getD 0 0) (l := l) (by have := S31 _ (getD_mem (d := (0 : Int)) k1); omega) (fun x hx => by have := S31 x hx; omega)
        have LV := least_v l S40 k1
        have LV2 := least_v (l.map (2 * ·)) T40 (by simp; omega)
        have ge : (l.map (2 * ·)).getD 0 0 = 2 * l.getD 0 0 := by
          match l, k1 with
          | a :: l, _ => rfl
        rw [ge, (foldl_two l _ (l.getD 0 0)).1, (foldl_two l (l.getD 0 0) _).2] at LV2
        have MB := mean_between l S33 k1 k2
        have VZ := var_zero l S33 k1 k2
        rw [hl0'] at LV LV2 MB VZ FS
        rw [hlo, hho] at LV
        rw [hlo2, hho2] at LV2
        rw [hmm] at MB
        rw [hvv] at VZ
        have Q1 := mean_quo l S33 k1 k2
        rw [hlm, hmm] at Q1
        have lenx : (l.map fl).length = l.length := by simp
        have leny : ((l.map (2 * ·)).map fl).length = l.length := by simp
        have M1 := (mean_bd _ (small_bnd S33) (by omega) (by omega)).2
        have M2 := (mean_bd _ (small_bnd T33) (by omega) (by omega)).2
        have V1 := (var_bd _ (small_bnd S33) (by omega) (by omega)).2
        have V2 := (var_bd _ (small_bnd T33) (by omega) (by omega)).2
        have VN := (var_nn _ (small_bnd S33) (by omega) (by omega)).order
        have MT := twice_mul (R := 1024 * 2 ^ 52) (mean_twice (z := 1072) rfl l S32 k1 (by omega)).sc (by omega) (by omega) const2.symm
        have VT := twice_mul (R := 1025 * 2 ^ 52) (var_twice (z := 1072) rfl l S32 k1 (by omega)).sc (by omega) (by omega) const4.symm
        rw [hmm] at M1 MT
        rw [hmm2] at M2 MT
        rw [hvv] at V1 VN VT
        rw [hvv2] at V2 VT
        have LT := fl_twice (l.foldl min l0) (by omega)
        have HT := fl_twice (l.foldl max l0) (by omega)
        rw [← LV.1, ← LV2.1] at LT
        rw [← LV.2, ← LV2.2] at HT
        have s1 : Self mm := self_of (Bnd.self M1)
        have s2 : Self mm2 := self_of (Bnd.self M2)
        have s3 : Self vv2 := self_of (Bnd.self V2)
        have s4 : Self lo := by rw [LV.1]; exact self_of (fint_num _ (by omega)).self
        have s5 : Self ho := by rw [LV.2]; exact self_of (fint_num _ (by omega)).self
        have s6 : Self lo2 := by rw [LV2.1]; exact self_of (fint_num _ (by omega)).self
        have s7 : Self ho2 := by rw [LV2.2]; exact self_of (fint_num _ (by omega)).self
        unfold Self at s1 s2 s3 s4 s5 s6 s7
        rw [← LV.1, ← LV.2] at MB
        have p5 : (FloatKind.f64.format.order mm lo == some .gt || FloatKind.f64.format.order mm lo == some .eq) = true := MB.1
        have p6 : (FloatKind.f64.format.order mm ho == some .lt || FloatKind.f64.format.order mm ho == some .eq) = true := MB.2
        have p7 : (FloatKind.f64.format.order vv 0 == some .gt || FloatKind.f64.format.order vv 0 == some .eq) = true := by
          rcases VN with h | h
          · rw [show FloatKind.f64.format.order vv 0 = some .gt from h]; rfl
          · rw [show FloatKind.f64.format.order vv 0 = some .eq from h]; rfl
        have q1 := fun (t : TypeId) (w : World) => run_float_arith (P := Try.prog) w .quo t .f64 _ _ _ Q1
        have q2 := fun (t : TypeId) (w : World) => run_float_arith (P := Try.prog) w .mul t .f64 _ _ _ MT
        have q3 := fun (t : TypeId) (w : World) => run_float_arith (P := Try.prog) w .mul t .f64 _ _ _ VT
        have q4 := fun (t : TypeId) (w : World) => run_float_arith (P := Try.prog) w .mul t .f64 _ _ _ LT
        have q5 := fun (t : TypeId) (w : World) => run_float_arith (P := Try.prog) w .mul t .f64 _ _ _ HT
        have e1 : floatOfInt .f64 (l.foldl min l0) = lo := LV.1.symm
        have e2 : floatOfInt .f64 (l.foldl max l0) = ho := LV.2.symm
        clear MB M1 M2 V1 V2 VN MT VT LT HT LV LV2 Q1 hmm hvv hlo hho hmm2 hvv2 hlo2 hho2 S31 S33 S32 S40 T33 T40 FS ge lenx leny k1 k2
        generalize l.foldl min l0 = LO at *
        generalize l.foldl max l0 = HI at *
        generalize sumI l = SS at *
        by_cases hsame : LO = HI
        · have p8 : (FloatKind.f64.format.order vv 0 == some .eq) = true := by rw [show FloatKind.f64.format.order vv 0 = some .eq from VZ hsame]; rfl
          have p9 : (LO != HI) = false := by rw [hsame]; simp
          clear VZ hsame
          go_wp2_with fail
          go_ret
          exact ⟨rfl, HB7.out.alloc HB7.out.size _⟩
        · have p9 : (LO != HI) = true := bne_iff_ne.2 hsame
          clear VZ hsame
          go_wp2_with fail
          go_ret
          exact ⟨rfl, HB7.out.alloc HB7.out.size _⟩
end Go.Proofs.Ytcgkolaljgpphaa
