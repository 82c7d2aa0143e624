/- AreaOf: the walk. -/
import Derived.Deep.RegionHeld3
import Derived.Deep.RegionWith
import Derived.Deep.DeepMust
import Derived.Test.YthcogckkeegokaaBegun
namespace Go.Proofs.Ythcogckkeegokaa
set_option linter.unusedVariables false
set_option linter.unusedSimpArgs false
open Go.RowKit Go.Shelf

theorem of17_swap (x y u v : Int) (w : World) :
    Calls Try.prog 17 #[.agg #[.int .i64 u, .int .i64 v], .agg #[.int .i64 x, .int .i64 y]] w fun e w' => e = .returned (.agg #[.int .i64 (min x u), .int .i64 (min y v), .int .i64 (max x u), .int .i64 (max y v)]) ∧ Below w.heap.size w w' := by
  have h := of17 u v x y w
  rwa [Int.min_comm u x, Int.min_comm v y, Int.max_comm u x, Int.max_comm v y] at h
theorem of17_own (x y u v : Int) (w : World) :
    Calls Try.prog 17 #[.agg #[.int .i64 (min x u), .int .i64 (max y v)], .agg #[.int .i64 (max x u), .int .i64 (min y v)]] w
      fun e w' => e = .returned (.agg #[.int .i64 (min x u), .int .i64 (min y v), .int .i64 (max x u), .int .i64 (max y v)]) ∧ Below w.heap.size w w' := by
  have h := of17 (min x u) (max y v) (max x u) (min y v) w
  have e1 : min (min x u) (max x u) = min x u := by omega
  have e2 : min (max y v) (min y v) = min y v := by omega
  have e3 : max (min x u) (max x u) = max x u := by omega
  have e4 : max (max y v) (min y v) = max y v := by omega
  rwa [e1, e2, e3, e4] at h
/-- The cells that AreaOf reads. -/
theorem keepOf {w wa wb : World} {p0 p1 q0 q1 r0 r1 r2 r3 : Addr} {a0 a1 b0 b1 c0 c1 c2 c3 : Value}
    (h : (wa.cell? p0 = some a0 ∧ wa.cell? p1 = some a1 ∧ wa.cell? q0 = some b0 ∧ wa.cell? q1 = some b1 ∧ wa.cell? r0 = some c0 ∧ wa.cell? r1 = some c1 ∧ wa.cell? r2 = some c2 ∧ wa.cell? r3 = some c3) ∧ Below w.heap.size w wa) (hb : Below wa.heap.size wa wb) :
    (wb.cell? p0 = some a0 ∧ wb.cell? p1 = some a1 ∧ wb.cell? q0 = some b0 ∧ wb.cell? q1 = some b1 ∧ wb.cell? r0 = some c0 ∧ wb.cell? r1 = some c1 ∧ wb.cell? r2 = some c2 ∧ wb.cell? r3 = some c3) ∧ Below w.heap.size w wb := by
  obtain ⟨⟨h0, h1, h2, h3, h4, h5, h6, h7⟩, h8⟩ := h
  exact ⟨⟨cell_below h0 hb, cell_below h1 hb, cell_below h2 hb, cell_below h3 hb, cell_below h4 hb, cell_below h5 hb, cell_below h6 hb, cell_below h7 hb⟩, h8.trans (hb.mono h8.size)⟩

set_option maxRecDepth 100000 in
set_option maxHeartbeats 8000000 in
theorem of_walk (x y u v : Int) (w : World) :
    Calls Try.prog 7 #[.agg #[.int .i64 x, .int .i64 y], .agg #[.int .i64 u, .int .i64 v]] w fun e w' => e = .returned (.bool true) ∧ Below w.heap.size w w' := by
  go_enter Try.func7, Try.ntmps7
  go_wp2_with fail
  refine (begun8 _).mono ?_
  rintro e w1 ⟨rfl, hb1⟩
  have r0 := hb1.row (row_old w _ _) (by simp <;> omega)
  have r1 := hb1.row (row_new w _ _) (by simp <;> omega)
  obtain ⟨c0, c1⟩ := cells2 r0
  obtain ⟨d0, d1⟩ := cells2 r1
  have HB := Lib.hid (two_below hb1)
  have hz : w.heap.size + 1 < w1.heap.size := by have := hb1.size; simp at this; omega
  have hz0 : w.heap.size < w1.heap.size := by omega
  clear hb1
  go_wp2_with fail
  refine (of17 _ _ _ _ _).mono ?_
  rintro e w2 ⟨rfl, hb2⟩
  replace r0 := hb2.row r0 (by omega)
  replace r1 := hb2.row r1 (by omega)
  obtain ⟨c0, c1⟩ := cells2 r0
  obtain ⟨d0, d1⟩ := cells2 r1
  replace HB := Lib.hid (HB.out.trans (hb2.mono HB.out.size))
  replace hz := Nat.lt_of_lt_of_le hz hb2.size
  replace hz0 := Nat.lt_of_lt_of_le hz0 hb2.size
  clear hb2
  go_wp2_with fail
  --REG
  have K1 := fun w => of17_swap x y u v w
  have K2 := fun w => of17_own x y u v w
  have HA : spotB x y = true → spotB u v = true → areaB (min x u) (min y v) (max x u) (max y v) = true ∧ hasB (min x u) (min y v) (max x u) (max y v) x y = true ∧ hasB (min x u) (min y v) (max x u) (max y v) u v = true := by
    simp only [spotB, areaB, hasB, decide_eq_true_eq]
    intro k1 k2
    omega
  have HN : (spotB x y && spotB u v) = false → areaB (min x u) (min y v) (max x u) (max y v) = false := by
    simp only [spotB, areaB, Bool.and_eq_false_iff, decide_eq_false_iff_not]
    omega
  generalize min x u = p1 at *
  generalize min y v = p2 at *
  generalize max x u = p3 at *
  generalize max y v = p4 at *
  replace K1 := Lib.hid K1
  replace K2 := Lib.hid K2
  replace HA := Lib.hid HA
  replace HN := Lib.hid HN
  have r2 := heap_alloc_new w2 (.cells #[.int .i64 p1, .int .i64 p2, .int .i64 p3, .int .i64 p4] 23)
  replace r0 := (Below.heap_alloc w2 (.cells #[.int .i64 p1, .int .i64 p2, .int .i64 p3, .int .i64 p4] 23) _ (by omega)).trans r0
  replace r1 := (Below.heap_alloc w2 (.cells #[.int .i64 p1, .int .i64 p2, .int .i64 p3, .int .i64 p4] 23) _ (by omega)).trans r1
  have hB0 := HB.out.alloc HB.out.size (.cells #[.int .i64 p1, .int .i64 p2, .int .i64 p3, .int .i64 p4] 23)
  obtain ⟨W0, hW0⟩ : ∃ W0, w2.alloc (.cells #[.int .i64 p1, .int .i64 p2, .int .i64 p3, .int .i64 p4] 23) = W0 := ⟨_, rfl⟩
  rw [hW0] at r0 r1 r2 hB0 ⊢
  clear hW0 c0 c1 d0 d1 HB hz hz0
  obtain ⟨c0, c1⟩ := cells2 r0
  obtain ⟨d0, d1⟩ := cells2 r1
  obtain ⟨e0, e1, e2, e3⟩ := cells4 r2
  clear r0 r1 r2
  have hS : (W0.cell? ⟨w.heap.size, 0, none⟩ = some (.int .i64 x) ∧ W0.cell? ⟨w.heap.size, 1, none⟩ = some (.int .i64 y) ∧ W0.cell? ⟨w.heap.size + 1, 0, none⟩ = some (.int .i64 u) ∧ W0.cell? ⟨w.heap.size + 1, 1, none⟩ = some (.int .i64 v) ∧ W0.cell? ⟨w2.heap.size, 0, none⟩ = some (.int .i64 p1) ∧ W0.cell? ⟨w2.heap.size, 1, none⟩ = some (.int .i64 p2) ∧ W0.cell? ⟨w2.heap.size, 2, none⟩ = some (.int .i64 p3) ∧ W0.cell? ⟨w2.heap.size, 3, none⟩ = some (.int .i64 p4)) ∧ Below w.heap.size w W0 := ⟨⟨c0, c1, d0, d1, e0, e1, e2, e3⟩, hB0⟩
  have hS' : (W0.drew.cell? ⟨w.heap.size, 0, none⟩ = some (.int .i64 x) ∧ W0.drew.cell? ⟨w.heap.size, 1, none⟩ = some (.int .i64 y) ∧ W0.drew.cell? ⟨w.heap.size + 1, 0, none⟩ = some (.int .i64 u) ∧ W0.drew.cell? ⟨w.heap.size + 1, 1, none⟩ = some (.int .i64 v) ∧ W0.drew.cell? ⟨w2.heap.size, 0, none⟩ = some (.int .i64 p1) ∧ W0.drew.cell? ⟨w2.heap.size, 1, none⟩ = some (.int .i64 p2) ∧ W0.drew.cell? ⟨w2.heap.size, 2, none⟩ = some (.int .i64 p3) ∧ W0.drew.cell? ⟨w2.heap.size, 3, none⟩ = some (.int .i64 p4)) ∧ Below w.heap.size w W0.drew := ⟨⟨c0, c1, d0, d1, e0, e1, e2, e3⟩, hB0.drew⟩
  clear c0 c1 d0 d1 e0 e1 e2 e3 hB0
  go_region_held3 (fun w' => (w'.cell? ⟨w.heap.size, 0, none⟩ = some (.int .i64 x) ∧ w'.cell? ⟨w.heap.size, 1, none⟩ = some (.int .i64 y) ∧ w'.cell? ⟨w.heap.size + 1, 0, none⟩ = some (.int .i64 u) ∧ w'.cell? ⟨w.heap.size + 1, 1, none⟩ = some (.int .i64 v) ∧ w'.cell? ⟨w2.heap.size, 0, none⟩ = some (.int .i64 p1) ∧ w'.cell? ⟨w2.heap.size, 1, none⟩ = some (.int .i64 p2) ∧ w'.cell? ⟨w2.heap.size, 2, none⟩ = some (.int .i64 p3) ∧ w'.cell? ⟨w2.heap.size, 3, none⟩ = some (.int .i64 p4)) ∧ Below w.heap.size w w') (first | exact hS | exact hS' | assumption | exact keepOf (by assumption) (by assumption)) (first | (go_at_call_of 17 u; refine (K1.out _).mono ?_; rintro e w3 ⟨rfl, hb3⟩) | (go_at_call_of 17 p1; refine (K2.out _).mono ?_; rintro e w4 ⟨rfl, hb4⟩))
  have hS4 : (w4.cell? ⟨w.heap.size, 0, none⟩ = some (.int .i64 x) ∧ w4.cell? ⟨w.heap.size, 1, none⟩ = some (.int .i64 y) ∧ w4.cell? ⟨w.heap.size + 1, 0, none⟩ = some (.int .i64 u) ∧ w4.cell? ⟨w.heap.size + 1, 1, none⟩ = some (.int .i64 v) ∧ w4.cell? ⟨w2.heap.size, 0, none⟩ = some (.int .i64 p1) ∧ w4.cell? ⟨w2.heap.size, 1, none⟩ = some (.int .i64 p2) ∧ w4.cell? ⟨w2.heap.size, 2, none⟩ = some (.int .i64 p3) ∧ w4.cell? ⟨w2.heap.size, 3, none⟩ = some (.int .i64 p4)) ∧ Below w.heap.size w w4 := by assumption
  clear hb3 hb4 hS hS'
  go_wp2_with fail
  have hS5 : (w4.drew.cell? ⟨w.heap.size, 0, none⟩ = some (.int .i64 x) ∧ w4.drew.cell? ⟨w.heap.size, 1, none⟩ = some (.int .i64 y) ∧ w4.drew.cell? ⟨w.heap.size + 1, 0, none⟩ = some (.int .i64 u) ∧ w4.drew.cell? ⟨w.heap.size + 1, 1, none⟩ = some (.int .i64 v) ∧ w4.drew.cell? ⟨w2.heap.size, 0, none⟩ = some (.int .i64 p1) ∧ w4.drew.cell? ⟨w2.heap.size, 1, none⟩ = some (.int .i64 p2) ∧ w4.drew.cell? ⟨w2.heap.size, 2, none⟩ = some (.int .i64 p3) ∧ w4.drew.cell? ⟨w2.heap.size, 3, none⟩ = some (.int .i64 p4)) ∧ Below w.heap.size w w4.drew := ⟨hS4.1, hS4.2.drew⟩
  clear K1 K2
  clear hS4
  cases h1 : spotB x y
  · have hn := HN.out (by rw [h1]; rfl)
    clear HA HN
    cases h2 : spotB u v
    · refine wp_region_noPanic ?_
      refine wp_region_held_drew (S := (fun w' => (w'.cell? ⟨w.heap.size, 0, none⟩ = some (.int .i64 x) ∧ w'.cell? ⟨w.heap.size, 1, none⟩ = some (.int .i64 y) ∧ w'.cell? ⟨w.heap.size + 1, 0, none⟩ = some (.int .i64 u) ∧ w'.cell? ⟨w.heap.size + 1, 1, none⟩ = some (.int .i64 v) ∧ w'.cell? ⟨w2.heap.size, 0, none⟩ = some (.int .i64 p1) ∧ w'.cell? ⟨w2.heap.size, 1, none⟩ = some (.int .i64 p2) ∧ w'.cell? ⟨w2.heap.size, 2, none⟩ = some (.int .i64 p3) ∧ w'.cell? ⟨w2.heap.size, 3, none⟩ = some (.int .i64 p4)) ∧ Below w.heap.size w w')) (by kernel_rfl) (by exact hS5) (fun hHeld => ?_)
      first
      | (refine wpAnyH_take (i := 0) (oi := ?o1_0) (v := undef) ?hi1_0 (by kernel_rfl) (by kernel_rfl) (by kernel_rfl) (fun _ _ _ h => h) ?hy1_0 (by assumption) ?hr1_0
         case hi1_0 => (simp only [List.getElem?_toArray, List.getElem?_cons_succ, List.getElem?_cons_zero]; rfl)
         case hy1_0 => exact Or.inr ⟨by rfl, rfl⟩)
      | (refine wpAnyH_take (i := 0) (oi := ?o1_0) (v := ?v1_0) ?hi1_0 (by kernel_rfl) (by kernel_rfl) (by kernel_rfl) (fun _ _ _ h => h) ?hy1_0 (by assumption) ?hr1_0
         case hi1_0 => (simp only [List.getElem?_toArray, List.getElem?_cons_succ, List.getElem?_cons_zero]; rfl)
         case hy1_0 => (refine Or.inl ⟨by rfl, ?_⟩; intro w hSw; (try dsimp only at hSw); go_simp <;> with_reducible rfl))
      try simp only [Act.put, List.setIfInBounds_toArray, List.set_cons_zero, List.set_cons_succ]
      first
      | (refine wpAnyH_take (i := 3) (oi := ?o1_3) (v := undef) ?hi1_3 (by kernel_rfl) (by kernel_rfl) (by kernel_rfl) (fun _ _ _ h => h) ?hy1_3 (by assumption) ?hr1_3
         case hi1_3 => (simp only [List.getElem?_toArray, List.getElem?_cons_succ, List.getElem?_cons_zero]; rfl)
         case hy1_3 => exact Or.inr ⟨by rfl, rfl⟩)
      | (refine wpAnyH_take (i := 3) (oi := ?o1_3) (v := ?v1_3) ?hi1_3 (by kernel_rfl) (by kernel_rfl) (by kernel_rfl) (fun _ _ _ h => h) ?hy1_3 (by assumption) ?hr1_3
         case hi1_3 => (simp only [List.getElem?_toArray, List.getElem?_cons_succ, List.getElem?_cons_zero]; rfl)
         case hy1_3 => (refine Or.inl ⟨by rfl, ?_⟩; intro w hSw; (try dsimp only at hSw); go_simp <;> with_reducible rfl))
      try simp only [Act.put, List.setIfInBounds_toArray, List.set_cons_zero, List.set_cons_succ]
      first
      | (refine wpAnyH_take (i := 1) (oi := ?o1_1) (v := undef) ?hi1_1 (by kernel_rfl) (by kernel_rfl) (by kernel_rfl) (fun _ _ _ h => h) ?hy1_1 (by assumption) ?hr1_1
         case hi1_1 => (simp only [List.getElem?_toArray, List.getElem?_cons_succ, List.getElem?_cons_zero]; rfl)
         case hy1_1 => exact Or.inr ⟨by rfl, rfl⟩)
      | (refine wpAnyH_ready (rs := [1]) (by kernel_rfl) (by simp) ?_
         refine AllReadyH.cons (o := ?o1_1) ?ho1_1 (fun K hK => ?hk1_1) AllReadyH.nil
         case ho1_1 => (simp only [List.getElem?_toArray, List.getElem?_cons_succ, List.getElem?_cons_zero]; rfl)
         go_simp
         refine (may13 p1 p2 p3 p4 _).mono ?_; rw [areaE_no hn]; rintro e wz ⟨rfl, hb⟩
         go_wp2_with fail
         refine hK.out _ _ ?_ (fun hHeld => ?_)
         · first | exact keepOf (by assumption) hb
         clear hK K)
      try simp only [Act.put, List.setIfInBounds_toArray, List.set_cons_zero, List.set_cons_succ]
      first
      | (refine wpAnyH_take (i := 2) (oi := ?o1_2) (v := undef) ?hi1_2 (by kernel_rfl) (by kernel_rfl) (by kernel_rfl) (fun _ _ _ h => h) ?hy1_2 (by assumption) ?hr1_2
         case hi1_2 => (simp only [List.getElem?_toArray, List.getElem?_cons_succ, List.getElem?_cons_zero]; rfl)
         case hy1_2 => exact Or.inr ⟨by rfl, rfl⟩)
      | (refine wpAnyH_take (i := 2) (oi := ?o1_2) (v := ?v1_2) ?hi1_2 (by kernel_rfl) (by kernel_rfl) (by kernel_rfl) (fun _ _ _ h => h) ?hy1_2 (by assumption) ?hr1_2
         case hi1_2 => (simp only [List.getElem?_toArray, List.getElem?_cons_succ, List.getElem?_cons_zero]; rfl)
         case hy1_2 => (refine Or.inl ⟨by rfl, ?_⟩; intro w hSw; (try dsimp only at hSw); go_simp <;> with_reducible rfl))
      try simp only [Act.put, List.setIfInBounds_toArray, List.set_cons_zero, List.set_cons_succ]
      first
      | (refine wpAnyH_take (i := 4) (oi := ?o1_4) (v := undef) ?hi1_4 (by kernel_rfl) (by kernel_rfl) (by kernel_rfl) (fun _ _ _ h => h) ?hy1_4 (by assumption) ?hr1_4
         case hi1_4 => (simp only [List.getElem?_toArray, List.getElem?_cons_succ, List.getElem?_cons_zero]; rfl)
         case hy1_4 => exact Or.inr ⟨by rfl, rfl⟩)
      | (refine wpAnyH_ready (rs := [4]) (by kernel_rfl) (by simp) ?_
         refine AllReadyH.cons (o := ?o1_4) ?ho1_4 (fun K hK => ?hk1_4) AllReadyH.nil
         case ho1_4 => (simp only [List.getElem?_toArray, List.getElem?_cons_succ, List.getElem?_cons_zero]; rfl)
         go_simp
         refine (in18 x y _).mono ?_; rw [h1]; rintro e wz ⟨rfl, hb⟩
         go_wp2_with fail
         refine hK.out _ _ ?_ (fun hHeld => ?_)
         · first | exact keepOf (by assumption) hb
         clear hK K)
      try simp only [Act.put, List.setIfInBounds_toArray, List.set_cons_zero, List.set_cons_succ]
      first
      | (refine wpAnyH_take (i := 5) (oi := ?o1_5) (v := undef) ?hi1_5 (by kernel_rfl) (by kernel_rfl) (by kernel_rfl) (fun _ _ _ h => h) ?hy1_5 (by assumption) ?hr1_5
         case hi1_5 => (simp only [List.getElem?_toArray, List.getElem?_cons_succ, List.getElem?_cons_zero]; rfl)
         case hy1_5 => exact Or.inr ⟨by rfl, rfl⟩)
      | (refine wpAnyH_take (i := 5) (oi := ?o1_5) (v := ?v1_5) ?hi1_5 (by kernel_rfl) (by kernel_rfl) (by kernel_rfl) (fun _ _ _ h => h) ?hy1_5 (by assumption) ?hr1_5
         case hi1_5 => (simp only [List.getElem?_toArray, List.getElem?_cons_succ, List.getElem?_cons_zero]; rfl)
         case hy1_5 => (refine Or.inl ⟨by rfl, ?_⟩; intro w hSw; (try dsimp only at hSw); go_simp <;> with_reducible rfl))
      try simp only [Act.put, List.setIfInBounds_toArray, List.set_cons_zero, List.set_cons_succ]
      first
      | (refine wpAnyH_take (i := 6) (oi := ?o1_6) (v := undef) ?hi1_6 (by kernel_rfl) (by kernel_rfl) (by kernel_rfl) (fun _ _ _ h => h) ?hy1_6 (by assumption) ?hr1_6
         case hi1_6 => (simp only [List.getElem?_toArray, List.getElem?_cons_succ, List.getElem?_cons_zero]; rfl)
         case hy1_6 => exact Or.inr ⟨by rfl, rfl⟩)
      | (refine wpAnyH_take (i := 6) (oi := ?o1_6) (v := ?v1_6) ?hi1_6 (by kernel_rfl) (by kernel_rfl) (by kernel_rfl) (fun _ _ _ h => h) ?hy1_6 (by assumption) ?hr1_6
         case hi1_6 => (simp only [List.getElem?_toArray, List.getElem?_cons_succ, List.getElem?_cons_zero]; rfl)
         case hy1_6 => (refine Or.inl ⟨by rfl, ?_⟩; intro w hSw; (try dsimp only at hSw); go_simp <;> with_reducible rfl))
      try simp only [Act.put, List.setIfInBounds_toArray, List.set_cons_zero, List.set_cons_succ]
      first
      | (refine wpAnyH_take (i := 7) (oi := ?o1_7) (v := undef) ?hi1_7 (by kernel_rfl) (by kernel_rfl) (by kernel_rfl) (fun _ _ _ h => h) ?hy1_7 (by assumption) ?hr1_7
         case hi1_7 => (simp only [List.getElem?_toArray, List.getElem?_cons_succ, List.getElem?_cons_zero]; rfl)
         case hy1_7 => exact Or.inr ⟨by rfl, rfl⟩)
      | (refine wpAnyH_ready (rs := [7]) (by kernel_rfl) (by simp) ?_
         refine AllReadyH.cons (o := ?o1_7) ?ho1_7 (fun K hK => ?hk1_7) AllReadyH.nil
         case ho1_7 => (simp only [List.getElem?_toArray, List.getElem?_cons_succ, List.getElem?_cons_zero]; rfl)
         go_simp
         refine (in18 u v _).mono ?_; rw [h2]; rintro e wz ⟨rfl, hb⟩
         go_wp2_with fail
         refine hK.out _ _ ?_ (fun hHeld => ?_)
         · first | exact keepOf (by assumption) hb
         clear hK K)
      try simp only [Act.put, List.setIfInBounds_toArray, List.set_cons_zero, List.set_cons_succ]
      first
      | (refine wpAnyH_take (i := 8) (oi := ?o1_8) (v := undef) ?hi1_8 (by kernel_rfl) (by kernel_rfl) (by kernel_rfl) (fun _ _ _ h => h) ?hy1_8 (by assumption) ?hr1_8
         case hi1_8 => (simp only [List.getElem?_toArray, List.getElem?_cons_succ, List.getElem?_cons_zero]; rfl)
         case hy1_8 => exact Or.inr ⟨by rfl, rfl⟩)
      | (refine wpAnyH_take (i := 8) (oi := ?o1_8) (v := ?v1_8) ?hi1_8 (by kernel_rfl) (by kernel_rfl) (by kernel_rfl) (fun _ _ _ h => h) ?hy1_8 (by assumption) ?hr1_8
         case hi1_8 => (simp only [List.getElem?_toArray, List.getElem?_cons_succ, List.getElem?_cons_zero]; rfl)
         case hy1_8 => (refine Or.inl ⟨by rfl, ?_⟩; intro w hSw; (try dsimp only at hSw); go_simp <;> with_reducible rfl))
      try simp only [Act.put, List.setIfInBounds_toArray, List.set_cons_zero, List.set_cons_succ]
      first
      | (refine wpAnyH_take (i := 9) (oi := ?o1_9) (v := undef) ?hi1_9 (by kernel_rfl) (by kernel_rfl) (by kernel_rfl) (fun _ _ _ h => h) ?hy1_9 (by assumption) ?hr1_9
         case hi1_9 => (simp only [List.getElem?_toArray, List.getElem?_cons_succ, List.getElem?_cons_zero]; rfl)
         case hy1_9 => exact Or.inr ⟨by rfl, rfl⟩)
      | (refine wpAnyH_take (i := 9) (oi := ?o1_9) (v := ?v1_9) ?hi1_9 (by kernel_rfl) (by kernel_rfl) (by kernel_rfl) (fun _ _ _ h => h) ?hy1_9 (by assumption) ?hr1_9
         case hi1_9 => (simp only [List.getElem?_toArray, List.getElem?_cons_succ, List.getElem?_cons_zero]; rfl)
         case hy1_9 => (refine Or.inl ⟨by rfl, ?_⟩; intro w hSw; (try dsimp only at hSw); go_simp <;> with_reducible rfl))
      try simp only [Act.put, List.setIfInBounds_toArray, List.set_cons_zero, List.set_cons_succ]
      first
      | (refine wpAnyH_take (i := 10) (oi := ?o1_10) (v := undef) ?hi1_10 (by kernel_rfl) (by kernel_rfl) (by kernel_rfl) (fun _ _ _ h => h) ?hy1_10 (by assumption) ?hr1_10
         case hi1_10 => (simp only [List.getElem?_toArray, List.getElem?_cons_succ, List.getElem?_cons_zero]; rfl)
         case hy1_10 => exact Or.inr ⟨by rfl, rfl⟩)
      | (refine wpAnyH_take (i := 10) (oi := ?o1_10) (v := ?v1_10) ?hi1_10 (by kernel_rfl) (by kernel_rfl) (by kernel_rfl) (fun _ _ _ h => h) ?hy1_10 (by assumption) ?hr1_10
         case hi1_10 => (simp only [List.getElem?_toArray, List.getElem?_cons_succ, List.getElem?_cons_zero]; rfl)
         case hy1_10 => (refine Or.inl ⟨by rfl, ?_⟩; intro w hSw; (try dsimp only at hSw); go_simp <;> with_reducible rfl))
      try simp only [Act.put, List.setIfInBounds_toArray, List.set_cons_zero, List.set_cons_succ]
      first
      | (refine wpAnyH_take (i := 11) (oi := ?o1_11) (v := undef) ?hi1_11 (by kernel_rfl) (by kernel_rfl) (by kernel_rfl) (fun _ _ _ h => h) ?hy1_11 (by assumption) ?hr1_11
         case hi1_11 => (simp only [List.getElem?_toArray, List.getElem?_cons_succ, List.getElem?_cons_zero]; rfl)
         case hy1_11 => exact Or.inr ⟨by rfl, rfl⟩)
      | (refine wpAnyH_take (i := 11) (oi := ?o1_11) (v := ?v1_11) ?hi1_11 (by kernel_rfl) (by kernel_rfl) (by kernel_rfl) (fun _ _ _ h => h) ?hy1_11 (by assumption) ?hr1_11
         case hi1_11 => (simp only [List.getElem?_toArray, List.getElem?_cons_succ, List.getElem?_cons_zero]; rfl)
         case hy1_11 => (refine Or.inl ⟨by rfl, ?_⟩; intro w hSw; (try dsimp only at hSw); go_simp <;> with_reducible rfl))
      try simp only [Act.put, List.setIfInBounds_toArray, List.set_cons_zero, List.set_cons_succ]
      first
      | (refine wpAnyH_take (i := 12) (oi := ?o1_12) (v := undef) ?hi1_12 (by kernel_rfl) (by kernel_rfl) (by kernel_rfl) (fun _ _ _ h => h) ?hy1_12 (by assumption) ?hr1_12
         case hi1_12 => (simp only [List.getElem?_toArray, List.getElem?_cons_succ, List.getElem?_cons_zero]; rfl)
         case hy1_12 => exact Or.inr ⟨by rfl, rfl⟩)
      | (refine wpAnyH_ready (rs := [12]) (by kernel_rfl) (by simp) ?_
         refine AllReadyH.cons (o := ?o1_12) ?ho1_12 (fun K hK => ?hk1_12) AllReadyH.nil
         case ho1_12 => (simp only [List.getElem?_toArray, List.getElem?_cons_succ, List.getElem?_cons_zero]; rfl)
         go_simp
         refine (in18 x y _).mono ?_; rw [h1]; rintro e wz ⟨rfl, hb⟩
         go_wp2_with fail
         refine hK.out _ _ ?_ (fun hHeld => ?_)
         · first | exact keepOf (by assumption) hb
         clear hK K)
      try simp only [Act.put, List.setIfInBounds_toArray, List.set_cons_zero, List.set_cons_succ]
      first
      | (refine wpAnyH_take (i := 13) (oi := ?o1_13) (v := undef) ?hi1_13 (by kernel_rfl) (by kernel_rfl) (by kernel_rfl) (fun _ _ _ h => h) ?hy1_13 (by assumption) ?hr1_13
         case hi1_13 => (simp only [List.getElem?_toArray, List.getElem?_cons_succ, List.getElem?_cons_zero]; rfl)
         case hy1_13 => exact Or.inr ⟨by rfl, rfl⟩)
      | (refine wpAnyH_take (i := 13) (oi := ?o1_13) (v := ?v1_13) ?hi1_13 (by kernel_rfl) (by kernel_rfl) (by kernel_rfl) (fun _ _ _ h => h) ?hy1_13 (by assumption) ?hr1_13
         case hi1_13 => (simp only [List.getElem?_toArray, List.getElem?_cons_succ, List.getElem?_cons_zero]; rfl)
         case hy1_13 => (refine Or.inl ⟨by rfl, ?_⟩; intro w hSw; (try dsimp only at hSw); go_simp <;> with_reducible rfl))
      try simp only [Act.put, List.setIfInBounds_toArray, List.set_cons_zero, List.set_cons_succ]
      first
      | (refine wpAnyH_take (i := 14) (oi := ?o1_14) (v := undef) ?hi1_14 (by kernel_rfl) (by kernel_rfl) (by kernel_rfl) (fun _ _ _ h => h) ?hy1_14 (by assumption) ?hr1_14
         case hi1_14 => (simp only [List.getElem?_toArray, List.getElem?_cons_succ, List.getElem?_cons_zero]; rfl)
         case hy1_14 => exact Or.inr ⟨by rfl, rfl⟩)
      | (refine wpAnyH_take (i := 14) (oi := ?o1_14) (v := ?v1_14) ?hi1_14 (by kernel_rfl) (by kernel_rfl) (by kernel_rfl) (fun _ _ _ h => h) ?hy1_14 (by assumption) ?hr1_14
         case hi1_14 => (simp only [List.getElem?_toArray, List.getElem?_cons_succ, List.getElem?_cons_zero]; rfl)
         case hy1_14 => (refine Or.inl ⟨by rfl, ?_⟩; intro w hSw; (try dsimp only at hSw); go_simp <;> with_reducible rfl))
      try simp only [Act.put, List.setIfInBounds_toArray, List.set_cons_zero, List.set_cons_succ]
      first
      | (refine wpAnyH_take (i := 15) (oi := ?o1_15) (v := undef) ?hi1_15 (by kernel_rfl) (by kernel_rfl) (by kernel_rfl) (fun _ _ _ h => h) ?hy1_15 (by assumption) ?hr1_15
         case hi1_15 => (simp only [List.getElem?_toArray, List.getElem?_cons_succ, List.getElem?_cons_zero]; rfl)
         case hy1_15 => exact Or.inr ⟨by rfl, rfl⟩)
      | (refine wpAnyH_take (i := 15) (oi := ?o1_15) (v := ?v1_15) ?hi1_15 (by kernel_rfl) (by kernel_rfl) (by kernel_rfl) (fun _ _ _ h => h) ?hy1_15 (by assumption) ?hr1_15
         case hi1_15 => (simp only [List.getElem?_toArray, List.getElem?_cons_succ, List.getElem?_cons_zero]; rfl)
         case hy1_15 => (refine Or.inl ⟨by rfl, ?_⟩; intro w hSw; (try dsimp only at hSw); go_simp <;> with_reducible rfl))
      try simp only [Act.put, List.setIfInBounds_toArray, List.set_cons_zero, List.set_cons_succ]
      first
      | (refine wpAnyH_take (i := 16) (oi := ?o1_16) (v := undef) ?hi1_16 (by kernel_rfl) (by kernel_rfl) (by kernel_rfl) (fun _ _ _ h => h) ?hy1_16 (by assumption) ?hr1_16
         case hi1_16 => (simp only [List.getElem?_toArray, List.getElem?_cons_succ, List.getElem?_cons_zero]; rfl)
         case hy1_16 => exact Or.inr ⟨by rfl, rfl⟩)
      | (refine wpAnyH_ready (rs := [16]) (by kernel_rfl) (by simp) ?_
         refine AllReadyH.cons (o := ?o1_16) ?ho1_16 (fun K hK => ?hk1_16) AllReadyH.nil
         case ho1_16 => (simp only [List.getElem?_toArray, List.getElem?_cons_succ, List.getElem?_cons_zero]; rfl)
         go_simp
         refine (in18 u v _).mono ?_; rw [h2]; rintro e wz ⟨rfl, hb⟩
         go_wp2_with fail
         refine hK.out _ _ ?_ (fun hHeld => ?_)
         · first | exact keepOf (by assumption) hb
         clear hK K)
      try simp only [Act.put, List.setIfInBounds_toArray, List.set_cons_zero, List.set_cons_succ]
      first
      | (refine wpAnyH_take (i := 17) (oi := ?o1_17) (v := undef) ?hi1_17 (by kernel_rfl) (by kernel_rfl) (by kernel_rfl) (fun _ _ _ h => h) ?hy1_17 (by assumption) ?hr1_17
         case hi1_17 => (simp only [List.getElem?_toArray, List.getElem?_cons_succ, List.getElem?_cons_zero]; rfl)
         case hy1_17 => exact Or.inr ⟨by rfl, rfl⟩)
      | (refine wpAnyH_take (i := 17) (oi := ?o1_17) (v := ?v1_17) ?hi1_17 (by kernel_rfl) (by kernel_rfl) (by kernel_rfl) (fun _ _ _ h => h) ?hy1_17 (by assumption) ?hr1_17
         case hi1_17 => (simp only [List.getElem?_toArray, List.getElem?_cons_succ, List.getElem?_cons_zero]; rfl)
         case hy1_17 => (refine Or.inl ⟨by rfl, ?_⟩; intro w hSw; (try dsimp only at hSw); go_simp <;> with_reducible rfl))
      try simp only [Act.put, List.setIfInBounds_toArray, List.set_cons_zero, List.set_cons_succ]
      first
      | (refine wpAnyH_take (i := 18) (oi := ?o1_18) (v := undef) ?hi1_18 (by kernel_rfl) (by kernel_rfl) (by kernel_rfl) (fun _ _ _ h => h) ?hy1_18 (by assumption) ?hr1_18
         case hi1_18 => (simp only [List.getElem?_toArray, List.getElem?_cons_succ, List.getElem?_cons_zero]; rfl)
         case hy1_18 => exact Or.inr ⟨by rfl, rfl⟩)
      | (refine wpAnyH_take (i := 18) (oi := ?o1_18) (v := ?v1_18) ?hi1_18 (by kernel_rfl) (by kernel_rfl) (by kernel_rfl) (fun _ _ _ h => h) ?hy1_18 (by assumption) ?hr1_18
         case hi1_18 => (simp only [List.getElem?_toArray, List.getElem?_cons_succ, List.getElem?_cons_zero]; rfl)
         case hy1_18 => (refine Or.inl ⟨by rfl, ?_⟩; intro w hSw; (try dsimp only at hSw); go_simp <;> with_reducible rfl))
      try simp only [Act.put, List.setIfInBounds_toArray, List.set_cons_zero, List.set_cons_succ]
      first
      | (refine wpAnyH_take (i := 19) (oi := ?o1_19) (v := undef) ?hi1_19 (by kernel_rfl) (by kernel_rfl) (by kernel_rfl) (fun _ _ _ h => h) ?hy1_19 (by assumption) ?hr1_19
         case hi1_19 => (simp only [List.getElem?_toArray, List.getElem?_cons_succ, List.getElem?_cons_zero]; rfl)
         case hy1_19 => exact Or.inr ⟨by rfl, rfl⟩)
      | (refine wpAnyH_take (i := 19) (oi := ?o1_19) (v := ?v1_19) ?hi1_19 (by kernel_rfl) (by kernel_rfl) (by kernel_rfl) (fun _ _ _ h => h) ?hy1_19 (by assumption) ?hr1_19
         case hi1_19 => (simp only [List.getElem?_toArray, List.getElem?_cons_succ, List.getElem?_cons_zero]; rfl)
         case hy1_19 => (refine Or.inl ⟨by rfl, ?_⟩; intro w hSw; (try dsimp only at hSw); go_simp <;> with_reducible rfl))
      try simp only [Act.put, List.setIfInBounds_toArray, List.set_cons_zero, List.set_cons_succ]
      first
      | (refine wpAnyH_take (i := 20) (oi := ?o1_20) (v := undef) ?hi1_20 (by kernel_rfl) (by kernel_rfl) (by kernel_rfl) (fun _ _ _ h => h) ?hy1_20 (by assumption) ?hr1_20
         case hi1_20 => (simp only [List.getElem?_toArray, List.getElem?_cons_succ, List.getElem?_cons_zero]; rfl)
         case hy1_20 => exact Or.inr ⟨by rfl, rfl⟩)
      | (refine wpAnyH_take (i := 20) (oi := ?o1_20) (v := ?v1_20) ?hi1_20 (by kernel_rfl) (by kernel_rfl) (by kernel_rfl) (fun _ _ _ h => h) ?hy1_20 (by assumption) ?hr1_20
         case hi1_20 => (simp only [List.getElem?_toArray, List.getElem?_cons_succ, List.getElem?_cons_zero]; rfl)
         case hy1_20 => (refine Or.inl ⟨by rfl, ?_⟩; intro w hSw; (try dsimp only at hSw); go_simp <;> with_reducible rfl))
      try simp only [Act.put, List.setIfInBounds_toArray, List.set_cons_zero, List.set_cons_succ]
      first
      | (refine wpAnyH_take (i := 21) (oi := ?o1_21) (v := undef) ?hi1_21 (by kernel_rfl) (by kernel_rfl) (by kernel_rfl) (fun _ _ _ h => h) ?hy1_21 (by assumption) ?hr1_21
         case hi1_21 => (simp only [List.getElem?_toArray, List.getElem?_cons_succ, List.getElem?_cons_zero]; rfl)
         case hy1_21 => exact Or.inr ⟨by rfl, rfl⟩)
      | (refine wpAnyH_take (i := 21) (oi := ?o1_21) (v := ?v1_21) ?hi1_21 (by kernel_rfl) (by kernel_rfl) (by kernel_rfl) (fun _ _ _ h => h) ?hy1_21 (by assumption) ?hr1_21
         case hi1_21 => (simp only [List.getElem?_toArray, List.getElem?_cons_succ, List.getElem?_cons_zero]; rfl)
         case hy1_21 => (refine Or.inl ⟨by rfl, ?_⟩; intro w hSw; (try dsimp only at hSw); go_simp <;> with_reducible rfl))
      try simp only [Act.put, List.setIfInBounds_toArray, List.set_cons_zero, List.set_cons_succ]
      first
      | (refine wpAnyH_take (i := 22) (oi := ?o1_22) (v := undef) ?hi1_22 (by kernel_rfl) (by kernel_rfl) (by kernel_rfl) (fun _ _ _ h => h) ?hy1_22 (by assumption) ?hr1_22
         case hi1_22 => (simp only [List.getElem?_toArray, List.getElem?_cons_succ, List.getElem?_cons_zero]; rfl)
         case hy1_22 => exact Or.inr ⟨by rfl, rfl⟩)
      | (refine wpAnyH_ready (rs := [22]) (by kernel_rfl) (by simp) ?_
         refine AllReadyH.cons (o := ?o1_22) ?ho1_22 (fun K hK => ?hk1_22) AllReadyH.nil
         case ho1_22 => (simp only [List.getElem?_toArray, List.getElem?_cons_succ, List.getElem?_cons_zero]; rfl)
         go_simp
         fail
         go_wp2_with fail
         refine hK.out _ _ ?_ (fun hHeld => ?_)
         · first | exact keepOf (by assumption) hb
         clear hK K)
      try simp only [Act.put, List.setIfInBounds_toArray, List.set_cons_zero, List.set_cons_succ]
      first
      | (refine wpAnyH_take (i := 23) (oi := ?o1_23) (v := undef) ?hi1_23 (by kernel_rfl) (by kernel_rfl) (by kernel_rfl) (fun _ _ _ h => h) ?hy1_23 (by assumption) ?hr1_23
         case hi1_23 => (simp only [List.getElem?_toArray, List.getElem?_cons_succ, List.getElem?_cons_zero]; rfl)
         case hy1_23 => exact Or.inr ⟨by rfl, rfl⟩)
      | (refine wpAnyH_take (i := 23) (oi := ?o1_23) (v := ?v1_23) ?hi1_23 (by kernel_rfl) (by kernel_rfl) (by kernel_rfl) (fun _ _ _ h => h) ?hy1_23 (by assumption) ?hr1_23
         case hi1_23 => (simp only [List.getElem?_toArray, List.getElem?_cons_succ, List.getElem?_cons_zero]; rfl)
         case hy1_23 => (refine Or.inl ⟨by rfl, ?_⟩; intro w hSw; (try dsimp only at hSw); go_simp <;> with_reducible rfl))
      try simp only [Act.put, List.setIfInBounds_toArray, List.set_cons_zero, List.set_cons_succ]
      first
      | (refine wpAnyH_take (i := 24) (oi := ?o1_24) (v := undef) ?hi1_24 (by kernel_rfl) (by kernel_rfl) (by kernel_rfl) (fun _ _ _ h => h) ?hy1_24 (by assumption) ?hr1_24
         case hi1_24 => (simp only [List.getElem?_toArray, List.getElem?_cons_succ, List.getElem?_cons_zero]; rfl)
         case hy1_24 => exact Or.inr ⟨by rfl, rfl⟩)
      | (refine wpAnyH_take (i := 24) (oi := ?o1_24) (v := ?v1_24) ?hi1_24 (by kernel_rfl) (by kernel_rfl) (by kernel_rfl) (fun _ _ _ h => h) ?hy1_24 (by assumption) ?hr1_24
         case hi1_24 => (simp only [List.getElem?_toArray, List.getElem?_cons_succ, List.getElem?_cons_zero]; rfl)
         case hy1_24 => (refine Or.inl ⟨by rfl, ?_⟩; intro w hSw; (try dsimp only at hSw); go_simp <;> with_reducible rfl))
      try simp only [Act.put, List.setIfInBounds_toArray, List.set_cons_zero, List.set_cons_succ]
      first
      | (refine wpAnyH_take (i := 25) (oi := ?o1_25) (v := undef) ?hi1_25 (by kernel_rfl) (by kernel_rfl) (by kernel_rfl) (fun _ _ _ h => h) ?hy1_25 (by assumption) ?hr1_25
         case hi1_25 => (simp only [List.getElem?_toArray, List.getElem?_cons_succ, List.getElem?_cons_zero]; rfl)
         case hy1_25 => exact Or.inr ⟨by rfl, rfl⟩)
      | (refine wpAnyH_take (i := 25) (oi := ?o1_25) (v := ?v1_25) ?hi1_25 (by kernel_rfl) (by kernel_rfl) (by kernel_rfl) (fun _ _ _ h => h) ?hy1_25 (by assumption) ?hr1_25
         case hi1_25 => (simp only [List.getElem?_toArray, List.getElem?_cons_succ, List.getElem?_cons_zero]; rfl)
         case hy1_25 => (refine Or.inl ⟨by rfl, ?_⟩; intro w hSw; (try dsimp only at hSw); go_simp <;> with_reducible rfl))
      try simp only [Act.put, List.setIfInBounds_toArray, List.set_cons_zero, List.set_cons_succ]
      first
      | (refine wpAnyH_take (i := 26) (oi := ?o1_26) (v := undef) ?hi1_26 (by kernel_rfl) (by kernel_rfl) (by kernel_rfl) (fun _ _ _ h => h) ?hy1_26 (by assumption) ?hr1_26
         case hi1_26 => (simp only [List.getElem?_toArray, List.getElem?_cons_succ, List.getElem?_cons_zero]; rfl)
         case hy1_26 => exact Or.inr ⟨by rfl, rfl⟩)
      | (refine wpAnyH_ready (rs := [26]) (by kernel_rfl) (by simp) ?_
         refine AllReadyH.cons (o := ?o1_26) ?ho1_26 (fun K hK => ?hk1_26) AllReadyH.nil
         case ho1_26 => (simp only [List.getElem?_toArray, List.getElem?_cons_succ, List.getElem?_cons_zero]; rfl)
         go_simp
         fail
         go_wp2_with fail
         refine hK.out _ _ ?_ (fun hHeld => ?_)
         · first | exact keepOf (by assumption) hb
         clear hK K)
      try simp only [Act.put, List.setIfInBounds_toArray, List.set_cons_zero, List.set_cons_succ]
      first
      | (refine wpAnyH_take (i := 27) (oi := ?o1_27) (v := undef) ?hi1_27 (by kernel_rfl) (by kernel_rfl) (by kernel_rfl) (fun _ _ _ h => h) ?hy1_27 (by assumption) ?hr1_27
         case hi1_27 => (simp only [List.getElem?_toArray, List.getElem?_cons_succ, List.getElem?_cons_zero]; rfl)
         case hy1_27 => exact Or.inr ⟨by rfl, rfl⟩)
      | (refine wpAnyH_take (i := 27) (oi := ?o1_27) (v := ?v1_27) ?hi1_27 (by kernel_rfl) (by kernel_rfl) (by kernel_rfl) (fun _ _ _ h => h) ?hy1_27 (by assumption) ?hr1_27
         case hi1_27 => (simp only [List.getElem?_toArray, List.getElem?_cons_succ, List.getElem?_cons_zero]; rfl)
         case hy1_27 => (refine Or.inl ⟨by rfl, ?_⟩; intro w hSw; (try dsimp only at hSw); go_simp <;> with_reducible rfl))
      try simp only [Act.put, List.setIfInBounds_toArray, List.set_cons_zero, List.set_cons_succ]
      first
      | (refine wpAnyH_take (i := 28) (oi := ?o1_28) (v := undef) ?hi1_28 (by kernel_rfl) (by kernel_rfl) (by kernel_rfl) (fun _ _ _ h => h) ?hy1_28 (by assumption) ?hr1_28
         case hi1_28 => (simp only [List.getElem?_toArray, List.getElem?_cons_succ, List.getElem?_cons_zero]; rfl)
         case hy1_28 => exact Or.inr ⟨by rfl, rfl⟩)
      | (refine wpAnyH_take (i := 28) (oi := ?o1_28) (v := ?v1_28) ?hi1_28 (by kernel_rfl) (by kernel_rfl) (by kernel_rfl) (fun _ _ _ h => h) ?hy1_28 (by assumption) ?hr1_28
         case hi1_28 => (simp only [List.getElem?_toArray, List.getElem?_cons_succ, List.getElem?_cons_zero]; rfl)
         case hy1_28 => (refine Or.inl ⟨by rfl, ?_⟩; intro w hSw; (try dsimp only at hSw); go_simp <;> with_reducible rfl))
      try simp only [Act.put, List.setIfInBounds_toArray, List.set_cons_zero, List.set_cons_succ]
      first
      | (refine wpAnyH_take (i := 29) (oi := ?o1_29) (v := undef) ?hi1_29 (by kernel_rfl) (by kernel_rfl) (by kernel_rfl) (fun _ _ _ h => h) ?hy1_29 (by assumption) ?hr1_29
         case hi1_29 => (simp only [List.getElem?_toArray, List.getElem?_cons_succ, List.getElem?_cons_zero]; rfl)
         case hy1_29 => exact Or.inr ⟨by rfl, rfl⟩)
      | (refine wpAnyH_take (i := 29) (oi := ?o1_29) (v := ?v1_29) ?hi1_29 (by kernel_rfl) (by kernel_rfl) (by kernel_rfl) (fun _ _ _ h => h) ?hy1_29 (by assumption) ?hr1_29
         case hi1_29 => (simp only [List.getElem?_toArray, List.getElem?_cons_succ, List.getElem?_cons_zero]; rfl)
         case hy1_29 => (refine Or.inl ⟨by rfl, ?_⟩; intro w hSw; (try dsimp only at hSw); go_simp <;> with_reducible rfl))
      try simp only [Act.put, List.setIfInBounds_toArray, List.set_cons_zero, List.set_cons_succ]
      first
      | (refine wpAnyH_take (i := 30) (oi := ?o1_30) (v := undef) ?hi1_30 (by kernel_rfl) (by kernel_rfl) (by kernel_rfl) (fun _ _ _ h => h) ?hy1_30 (by assumption) ?hr1_30
         case hi1_30 => (simp only [List.getElem?_toArray, List.getElem?_cons_succ, List.getElem?_cons_zero]; rfl)
         case hy1_30 => exact Or.inr ⟨by rfl, rfl⟩)
      | (refine wpAnyH_take (i := 30) (oi := ?o1_30) (v := ?v1_30) ?hi1_30 (by kernel_rfl) (by kernel_rfl) (by kernel_rfl) (fun _ _ _ h => h) ?hy1_30 (by assumption) ?hr1_30
         case hi1_30 => (simp only [List.getElem?_toArray, List.getElem?_cons_succ, List.getElem?_cons_zero]; rfl)
         case hy1_30 => (refine Or.inl ⟨by rfl, ?_⟩; intro w hSw; (try dsimp only at hSw); go_simp <;> with_reducible rfl))
      try simp only [Act.put, List.setIfInBounds_toArray, List.set_cons_zero, List.set_cons_succ]
      refine wpAnyH_done (by kernel_rfl) ?_ _
      refine NoPanic.normal ?_
      go_wp2_with fail
      go_ret
      exact ⟨rfl, hHeld.2⟩
    · refine wp_region_noPanic ?_
      refine wp_region_held_drew (S := (fun w' => (w'.cell? ⟨w.heap.size, 0, none⟩ = some (.int .i64 x) ∧ w'.cell? ⟨w.heap.size, 1, none⟩ = some (.int .i64 y) ∧ w'.cell? ⟨w.heap.size + 1, 0, none⟩ = some (.int .i64 u) ∧ w'.cell? ⟨w.heap.size + 1, 1, none⟩ = some (.int .i64 v) ∧ w'.cell? ⟨w2.heap.size, 0, none⟩ = some (.int .i64 p1) ∧ w'.cell? ⟨w2.heap.size, 1, none⟩ = some (.int .i64 p2) ∧ w'.cell? ⟨w2.heap.size, 2, none⟩ = some (.int .i64 p3) ∧ w'.cell? ⟨w2.heap.size, 3, none⟩ = some (.int .i64 p4)) ∧ Below w.heap.size w w')) (by kernel_rfl) (by exact hS5) (fun hHeld => ?_)
      first
      | (refine wpAnyH_take (i := 0) (oi := ?o2_0) (v := undef) ?hi2_0 (by kernel_rfl) (by kernel_rfl) (by kernel_rfl) (fun _ _ _ h => h) ?hy2_0 (by assumption) ?hr2_0
         case hi2_0 => (simp only [List.getElem?_toArray, List.getElem?_cons_succ, List.getElem?_cons_zero]; rfl)
         case hy2_0 => exact Or.inr ⟨by rfl, rfl⟩)
      | (refine wpAnyH_take (i := 0) (oi := ?o2_0) (v := ?v2_0) ?hi2_0 (by kernel_rfl) (by kernel_rfl) (by kernel_rfl) (fun _ _ _ h => h) ?hy2_0 (by assumption) ?hr2_0
         case hi2_0 => (simp only [List.getElem?_toArray, List.getElem?_cons_succ, List.getElem?_cons_zero]; rfl)
         case hy2_0 => (refine Or.inl ⟨by rfl, ?_⟩; intro w hSw; (try dsimp only at hSw); go_simp <;> with_reducible rfl))
      try simp only [Act.put, List.setIfInBounds_toArray, List.set_cons_zero, List.set_cons_succ]
      first
      | (refine wpAnyH_take (i := 3) (oi := ?o2_3) (v := undef) ?hi2_3 (by kernel_rfl) (by kernel_rfl) (by kernel_rfl) (fun _ _ _ h => h) ?hy2_3 (by assumption) ?hr2_3
         case hi2_3 => (simp only [List.getElem?_toArray, List.getElem?_cons_succ, List.getElem?_cons_zero]; rfl)
         case hy2_3 => exact Or.inr ⟨by rfl, rfl⟩)
      | (refine wpAnyH_take (i := 3) (oi := ?o2_3) (v := ?v2_3) ?hi2_3 (by kernel_rfl) (by kernel_rfl) (by kernel_rfl) (fun _ _ _ h => h) ?hy2_3 (by assumption) ?hr2_3
         case hi2_3 => (simp only [List.getElem?_toArray, List.getElem?_cons_succ, List.getElem?_cons_zero]; rfl)
         case hy2_3 => (refine Or.inl ⟨by rfl, ?_⟩; intro w hSw; (try dsimp only at hSw); go_simp <;> with_reducible rfl))
      try simp only [Act.put, List.setIfInBounds_toArray, List.set_cons_zero, List.set_cons_succ]
      first
      | (refine wpAnyH_take (i := 1) (oi := ?o2_1) (v := undef) ?hi2_1 (by kernel_rfl) (by kernel_rfl) (by kernel_rfl) (fun _ _ _ h => h) ?hy2_1 (by assumption) ?hr2_1
         case hi2_1 => (simp only [List.getElem?_toArray, List.getElem?_cons_succ, List.getElem?_cons_zero]; rfl)
         case hy2_1 => exact Or.inr ⟨by rfl, rfl⟩)
      | (refine wpAnyH_ready (rs := [1]) (by kernel_rfl) (by simp) ?_
         refine AllReadyH.cons (o := ?o2_1) ?ho2_1 (fun K hK => ?hk2_1) AllReadyH.nil
         case ho2_1 => (simp only [List.getElem?_toArray, List.getElem?_cons_succ, List.getElem?_cons_zero]; rfl)
         go_simp
         refine (may13 p1 p2 p3 p4 _).mono ?_; rw [areaE_no hn]; rintro e wz ⟨rfl, hb⟩
         go_wp2_with fail
         refine hK.out _ _ ?_ (fun hHeld => ?_)
         · first | exact keepOf (by assumption) hb
         clear hK K)
      try simp only [Act.put, List.setIfInBounds_toArray, List.set_cons_zero, List.set_cons_succ]
      first
      | (refine wpAnyH_take (i := 2) (oi := ?o2_2) (v := undef) ?hi2_2 (by kernel_rfl) (by kernel_rfl) (by kernel_rfl) (fun _ _ _ h => h) ?hy2_2 (by assumption) ?hr2_2
         case hi2_2 => (simp only [List.getElem?_toArray, List.getElem?_cons_succ, List.getElem?_cons_zero]; rfl)
         case hy2_2 => exact Or.inr ⟨by rfl, rfl⟩)
      | (refine wpAnyH_take (i := 2) (oi := ?o2_2) (v := ?v2_2) ?hi2_2 (by kernel_rfl) (by kernel_rfl) (by kernel_rfl) (fun _ _ _ h => h) ?hy2_2 (by assumption) ?hr2_2
         case hi2_2 => (simp only [List.getElem?_toArray, List.getElem?_cons_succ, List.getElem?_cons_zero]; rfl)
         case hy2_2 => (refine Or.inl ⟨by rfl, ?_⟩; intro w hSw; (try dsimp only at hSw); go_simp <;> with_reducible rfl))
      try simp only [Act.put, List.setIfInBounds_toArray, List.set_cons_zero, List.set_cons_succ]
      first
      | (refine wpAnyH_take (i := 4) (oi := ?o2_4) (v := undef) ?hi2_4 (by kernel_rfl) (by kernel_rfl) (by kernel_rfl) (fun _ _ _ h => h) ?hy2_4 (by assumption) ?hr2_4
         case hi2_4 => (simp only [List.getElem?_toArray, List.getElem?_cons_succ, List.getElem?_cons_zero]; rfl)
         case hy2_4 => exact Or.inr ⟨by rfl, rfl⟩)
      | (refine wpAnyH_ready (rs := [4]) (by kernel_rfl) (by simp) ?_
         refine AllReadyH.cons (o := ?o2_4) ?ho2_4 (fun K hK => ?hk2_4) AllReadyH.nil
         case ho2_4 => (simp only [List.getElem?_toArray, List.getElem?_cons_succ, List.getElem?_cons_zero]; rfl)
         go_simp
         refine (in18 x y _).mono ?_; rw [h1]; rintro e wz ⟨rfl, hb⟩
         go_wp2_with fail
         refine hK.out _ _ ?_ (fun hHeld => ?_)
         · first | exact keepOf (by assumption) hb
         clear hK K)
      try simp only [Act.put, List.setIfInBounds_toArray, List.set_cons_zero, List.set_cons_succ]
      first
      | (refine wpAnyH_take (i := 5) (oi := ?o2_5) (v := undef) ?hi2_5 (by kernel_rfl) (by kernel_rfl) (by kernel_rfl) (fun _ _ _ h => h) ?hy2_5 (by assumption) ?hr2_5
         case hi2_5 => (simp only [List.getElem?_toArray, List.getElem?_cons_succ, List.getElem?_cons_zero]; rfl)
         case hy2_5 => exact Or.inr ⟨by rfl, rfl⟩)
      | (refine wpAnyH_take (i := 5) (oi := ?o2_5) (v := ?v2_5) ?hi2_5 (by kernel_rfl) (by kernel_rfl) (by kernel_rfl) (fun _ _ _ h => h) ?hy2_5 (by assumption) ?hr2_5
         case hi2_5 => (simp only [List.getElem?_toArray, List.getElem?_cons_succ, List.getElem?_cons_zero]; rfl)
         case hy2_5 => (refine Or.inl ⟨by rfl, ?_⟩; intro w hSw; (try dsimp only at hSw); go_simp <;> with_reducible rfl))
      try simp only [Act.put, List.setIfInBounds_toArray, List.set_cons_zero, List.set_cons_succ]
      first
      | (refine wpAnyH_take (i := 6) (oi := ?o2_6) (v := undef) ?hi2_6 (by kernel_rfl) (by kernel_rfl) (by kernel_rfl) (fun _ _ _ h => h) ?hy2_6 (by assumption) ?hr2_6
         case hi2_6 => (simp only [List.getElem?_toArray, List.getElem?_cons_succ, List.getElem?_cons_zero]; rfl)
         case hy2_6 => exact Or.inr ⟨by rfl, rfl⟩)
      | (refine wpAnyH_take (i := 6) (oi := ?o2_6) (v := ?v2_6) ?hi2_6 (by kernel_rfl) (by kernel_rfl) (by kernel_rfl) (fun _ _ _ h => h) ?hy2_6 (by assumption) ?hr2_6
         case hi2_6 => (simp only [List.getElem?_toArray, List.getElem?_cons_succ, List.getElem?_cons_zero]; rfl)
         case hy2_6 => (refine Or.inl ⟨by rfl, ?_⟩; intro w hSw; (try dsimp only at hSw); go_simp <;> with_reducible rfl))
      try simp only [Act.put, List.setIfInBounds_toArray, List.set_cons_zero, List.set_cons_succ]
      first
      | (refine wpAnyH_take (i := 7) (oi := ?o2_7) (v := undef) ?hi2_7 (by kernel_rfl) (by kernel_rfl) (by kernel_rfl) (fun _ _ _ h => h) ?hy2_7 (by assumption) ?hr2_7
         case hi2_7 => (simp only [List.getElem?_toArray, List.getElem?_cons_succ, List.getElem?_cons_zero]; rfl)
         case hy2_7 => exact Or.inr ⟨by rfl, rfl⟩)
      | (refine wpAnyH_ready (rs := [7]) (by kernel_rfl) (by simp) ?_
         refine AllReadyH.cons (o := ?o2_7) ?ho2_7 (fun K hK => ?hk2_7) AllReadyH.nil
         case ho2_7 => (simp only [List.getElem?_toArray, List.getElem?_cons_succ, List.getElem?_cons_zero]; rfl)
         go_simp
         refine (in18 u v _).mono ?_; rw [h2]; rintro e wz ⟨rfl, hb⟩
         go_wp2_with fail
         refine hK.out _ _ ?_ (fun hHeld => ?_)
         · first | exact keepOf (by assumption) hb
         clear hK K)
      try simp only [Act.put, List.setIfInBounds_toArray, List.set_cons_zero, List.set_cons_succ]
      first
      | (refine wpAnyH_take (i := 8) (oi := ?o2_8) (v := undef) ?hi2_8 (by kernel_rfl) (by kernel_rfl) (by kernel_rfl) (fun _ _ _ h => h) ?hy2_8 (by assumption) ?hr2_8
         case hi2_8 => (simp only [List.getElem?_toArray, List.getElem?_cons_succ, List.getElem?_cons_zero]; rfl)
         case hy2_8 => exact Or.inr ⟨by rfl, rfl⟩)
      | (refine wpAnyH_take (i := 8) (oi := ?o2_8) (v := ?v2_8) ?hi2_8 (by kernel_rfl) (by kernel_rfl) (by kernel_rfl) (fun _ _ _ h => h) ?hy2_8 (by assumption) ?hr2_8
         case hi2_8 => (simp only [List.getElem?_toArray, List.getElem?_cons_succ, List.getElem?_cons_zero]; rfl)
         case hy2_8 => (refine Or.inl ⟨by rfl, ?_⟩; intro w hSw; (try dsimp only at hSw); go_simp <;> with_reducible rfl))
      try simp only [Act.put, List.setIfInBounds_toArray, List.set_cons_zero, List.set_cons_succ]
      first
      | (refine wpAnyH_take (i := 9) (oi := ?o2_9) (v := undef) ?hi2_9 (by kernel_rfl) (by kernel_rfl) (by kernel_rfl) (fun _ _ _ h => h) ?hy2_9 (by assumption) ?hr2_9
         case hi2_9 => (simp only [List.getElem?_toArray, List.getElem?_cons_succ, List.getElem?_cons_zero]; rfl)
         case hy2_9 => exact Or.inr ⟨by rfl, rfl⟩)
      | (refine wpAnyH_take (i := 9) (oi := ?o2_9) (v := ?v2_9) ?hi2_9 (by kernel_rfl) (by kernel_rfl) (by kernel_rfl) (fun _ _ _ h => h) ?hy2_9 (by assumption) ?hr2_9
         case hi2_9 => (simp only [List.getElem?_toArray, List.getElem?_cons_succ, List.getElem?_cons_zero]; rfl)
         case hy2_9 => (refine Or.inl ⟨by rfl, ?_⟩; intro w hSw; (try dsimp only at hSw); go_simp <;> with_reducible rfl))
      try simp only [Act.put, List.setIfInBounds_toArray, List.set_cons_zero, List.set_cons_succ]
      first
      | (refine wpAnyH_take (i := 10) (oi := ?o2_10) (v := undef) ?hi2_10 (by kernel_rfl) (by kernel_rfl) (by kernel_rfl) (fun _ _ _ h => h) ?hy2_10 (by assumption) ?hr2_10
         case hi2_10 => (simp only [List.getElem?_toArray, List.getElem?_cons_succ, List.getElem?_cons_zero]; rfl)
         case hy2_10 => exact Or.inr ⟨by rfl, rfl⟩)
      | (refine wpAnyH_take (i := 10) (oi := ?o2_10) (v := ?v2_10) ?hi2_10 (by kernel_rfl) (by kernel_rfl) (by kernel_rfl) (fun _ _ _ h => h) ?hy2_10 (by assumption) ?hr2_10
         case hi2_10 => (simp only [List.getElem?_toArray, List.getElem?_cons_succ, List.getElem?_cons_zero]; rfl)
         case hy2_10 => (refine Or.inl ⟨by rfl, ?_⟩; intro w hSw; (try dsimp only at hSw); go_simp <;> with_reducible rfl))
      try simp only [Act.put, List.setIfInBounds_toArray, List.set_cons_zero, List.set_cons_succ]
      first
      | (refine wpAnyH_take (i := 11) (oi := ?o2_11) (v := undef) ?hi2_11 (by kernel_rfl) (by kernel_rfl) (by kernel_rfl) (fun _ _ _ h => h) ?hy2_11 (by assumption) ?hr2_11
         case hi2_11 => (simp only [List.getElem?_toArray, List.getElem?_cons_succ, List.getElem?_cons_zero]; rfl)
         case hy2_11 => exact Or.inr ⟨by rfl, rfl⟩)
      | (refine wpAnyH_take (i := 11) (oi := ?o2_11) (v := ?v2_11) ?hi2_11 (by kernel_rfl) (by kernel_rfl) (by kernel_rfl) (fun _ _ _ h => h) ?hy2_11 (by assumption) ?hr2_11
         case hi2_11 => (simp only [List.getElem?_toArray, List.getElem?_cons_succ, List.getElem?_cons_zero]; rfl)
         case hy2_11 => (refine Or.inl ⟨by rfl, ?_⟩; intro w hSw; (try dsimp only at hSw); go_simp <;> with_reducible rfl))
      try simp only [Act.put, List.setIfInBounds_toArray, List.set_cons_zero, List.set_cons_succ]
      first
      | (refine wpAnyH_take (i := 12) (oi := ?o2_12) (v := undef) ?hi2_12 (by kernel_rfl) (by kernel_rfl) (by kernel_rfl) (fun _ _ _ h => h) ?hy2_12 (by assumption) ?hr2_12
         case hi2_12 => (simp only [List.getElem?_toArray, List.getElem?_cons_succ, List.getElem?_cons_zero]; rfl)
         case hy2_12 => exact Or.inr ⟨by rfl, rfl⟩)
      | (refine wpAnyH_ready (rs := [12]) (by kernel_rfl) (by simp) ?_
         refine AllReadyH.cons (o := ?o2_12) ?ho2_12 (fun K hK => ?hk2_12) AllReadyH.nil
         case ho2_12 => (simp only [List.getElem?_toArray, List.getElem?_cons_succ, List.getElem?_cons_zero]; rfl)
         go_simp
         refine (in18 x y _).mono ?_; rw [h1]; rintro e wz ⟨rfl, hb⟩
         go_wp2_with fail
         refine hK.out _ _ ?_ (fun hHeld => ?_)
         · first | exact keepOf (by assumption) hb
         clear hK K)
      try simp only [Act.put, List.setIfInBounds_toArray, List.set_cons_zero, List.set_cons_succ]
      first
      | (refine wpAnyH_take (i := 13) (oi := ?o2_13) (v := undef) ?hi2_13 (by kernel_rfl) (by kernel_rfl) (by kernel_rfl) (fun _ _ _ h => h) ?hy2_13 (by assumption) ?hr2_13
         case hi2_13 => (simp only [List.getElem?_toArray, List.getElem?_cons_succ, List.getElem?_cons_zero]; rfl)
         case hy2_13 => exact Or.inr ⟨by rfl, rfl⟩)
      | (refine wpAnyH_take (i := 13) (oi := ?o2_13) (v := ?v2_13) ?hi2_13 (by kernel_rfl) (by kernel_rfl) (by kernel_rfl) (fun _ _ _ h => h) ?hy2_13 (by assumption) ?hr2_13
         case hi2_13 => (simp only [List.getElem?_toArray, List.getElem?_cons_succ, List.getElem?_cons_zero]; rfl)
         case hy2_13 => (refine Or.inl ⟨by rfl, ?_⟩; intro w hSw; (try dsimp only at hSw); go_simp <;> with_reducible rfl))
      try simp only [Act.put, List.setIfInBounds_toArray, List.set_cons_zero, List.set_cons_succ]
      first
      | (refine wpAnyH_take (i := 14) (oi := ?o2_14) (v := undef) ?hi2_14 (by kernel_rfl) (by kernel_rfl) (by kernel_rfl) (fun _ _ _ h => h) ?hy2_14 (by assumption) ?hr2_14
         case hi2_14 => (simp only [List.getElem?_toArray, List.getElem?_cons_succ, List.getElem?_cons_zero]; rfl)
         case hy2_14 => exact Or.inr ⟨by rfl, rfl⟩)
      | (refine wpAnyH_take (i := 14) (oi := ?o2_14) (v := ?v2_14) ?hi2_14 (by kernel_rfl) (by kernel_rfl) (by kernel_rfl) (fun _ _ _ h => h) ?hy2_14 (by assumption) ?hr2_14
         case hi2_14 => (simp only [List.getElem?_toArray, List.getElem?_cons_succ, List.getElem?_cons_zero]; rfl)
         case hy2_14 => (refine Or.inl ⟨by rfl, ?_⟩; intro w hSw; (try dsimp only at hSw); go_simp <;> with_reducible rfl))
      try simp only [Act.put, List.setIfInBounds_toArray, List.set_cons_zero, List.set_cons_succ]
      first
      | (refine wpAnyH_take (i := 15) (oi := ?o2_15) (v := undef) ?hi2_15 (by kernel_rfl) (by kernel_rfl) (by kernel_rfl) (fun _ _ _ h => h) ?hy2_15 (by assumption) ?hr2_15
         case hi2_15 => (simp only [List.getElem?_toArray, List.getElem?_cons_succ, List.getElem?_cons_zero]; rfl)
         case hy2_15 => exact Or.inr ⟨by rfl, rfl⟩)
      | (refine wpAnyH_take (i := 15) (oi := ?o2_15) (v := ?v2_15) ?hi2_15 (by kernel_rfl) (by kernel_rfl) (by kernel_rfl) (fun _ _ _ h => h) ?hy2_15 (by assumption) ?hr2_15
         case hi2_15 => (simp only [List.getElem?_toArray, List.getElem?_cons_succ, List.getElem?_cons_zero]; rfl)
         case hy2_15 => (refine Or.inl ⟨by rfl, ?_⟩; intro w hSw; (try dsimp only at hSw); go_simp <;> with_reducible rfl))
      try simp only [Act.put, List.setIfInBounds_toArray, List.set_cons_zero, List.set_cons_succ]
      first
      | (refine wpAnyH_take (i := 16) (oi := ?o2_16) (v := undef) ?hi2_16 (by kernel_rfl) (by kernel_rfl) (by kernel_rfl) (fun _ _ _ h => h) ?hy2_16 (by assumption) ?hr2_16
         case hi2_16 => (simp only [List.getElem?_toArray, List.getElem?_cons_succ, List.getElem?_cons_zero]; rfl)
         case hy2_16 => exact Or.inr ⟨by rfl, rfl⟩)
      | (refine wpAnyH_ready (rs := [16]) (by kernel_rfl) (by simp) ?_
         refine AllReadyH.cons (o := ?o2_16) ?ho2_16 (fun K hK => ?hk2_16) AllReadyH.nil
         case ho2_16 => (simp only [List.getElem?_toArray, List.getElem?_cons_succ, List.getElem?_cons_zero]; rfl)
         go_simp
         refine (in18 u v _).mono ?_; rw [h2]; rintro e wz ⟨rfl, hb⟩
         go_wp2_with fail
         refine hK.out _ _ ?_ (fun hHeld => ?_)
         · first | exact keepOf (by assumption) hb
         clear hK K)
      try simp only [Act.put, List.setIfInBounds_toArray, List.set_cons_zero, List.set_cons_succ]
      first
      | (refine wpAnyH_take (i := 17) (oi := ?o2_17) (v := undef) ?hi2_17 (by kernel_rfl) (by kernel_rfl) (by kernel_rfl) (fun _ _ _ h => h) ?hy2_17 (by assumption) ?hr2_17
         case hi2_17 => (simp only [List.getElem?_toArray, List.getElem?_cons_succ, List.getElem?_cons_zero]; rfl)
         case hy2_17 => exact Or.inr ⟨by rfl, rfl⟩)
      | (refine wpAnyH_take (i := 17) (oi := ?o2_17) (v := ?v2_17) ?hi2_17 (by kernel_rfl) (by kernel_rfl) (by kernel_rfl) (fun _ _ _ h => h) ?hy2_17 (by assumption) ?hr2_17
         case hi2_17 => (simp only [List.getElem?_toArray, List.getElem?_cons_succ, List.getElem?_cons_zero]; rfl)
         case hy2_17 => (refine Or.inl ⟨by rfl, ?_⟩; intro w hSw; (try dsimp only at hSw); go_simp <;> with_reducible rfl))
      try simp only [Act.put, List.setIfInBounds_toArray, List.set_cons_zero, List.set_cons_succ]
      first
      | (refine wpAnyH_take (i := 18) (oi := ?o2_18) (v := undef) ?hi2_18 (by kernel_rfl) (by kernel_rfl) (by kernel_rfl) (fun _ _ _ h => h) ?hy2_18 (by assumption) ?hr2_18
         case hi2_18 => (simp only [List.getElem?_toArray, List.getElem?_cons_succ, List.getElem?_cons_zero]; rfl)
         case hy2_18 => exact Or.inr ⟨by rfl, rfl⟩)
      | (refine wpAnyH_take (i := 18) (oi := ?o2_18) (v := ?v2_18) ?hi2_18 (by kernel_rfl) (by kernel_rfl) (by kernel_rfl) (fun _ _ _ h => h) ?hy2_18 (by assumption) ?hr2_18
         case hi2_18 => (simp only [List.getElem?_toArray, List.getElem?_cons_succ, List.getElem?_cons_zero]; rfl)
         case hy2_18 => (refine Or.inl ⟨by rfl, ?_⟩; intro w hSw; (try dsimp only at hSw); go_simp <;> with_reducible rfl))
      try simp only [Act.put, List.setIfInBounds_toArray, List.set_cons_zero, List.set_cons_succ]
      first
      | (refine wpAnyH_take (i := 19) (oi := ?o2_19) (v := undef) ?hi2_19 (by kernel_rfl) (by kernel_rfl) (by kernel_rfl) (fun _ _ _ h => h) ?hy2_19 (by assumption) ?hr2_19
         case hi2_19 => (simp only [List.getElem?_toArray, List.getElem?_cons_succ, List.getElem?_cons_zero]; rfl)
         case hy2_19 => exact Or.inr ⟨by rfl, rfl⟩)
      | (refine wpAnyH_take (i := 19) (oi := ?o2_19) (v := ?v2_19) ?hi2_19 (by kernel_rfl) (by kernel_rfl) (by kernel_rfl) (fun _ _ _ h => h) ?hy2_19 (by assumption) ?hr2_19
         case hi2_19 => (simp only [List.getElem?_toArray, List.getElem?_cons_succ, List.getElem?_cons_zero]; rfl)
         case hy2_19 => (refine Or.inl ⟨by rfl, ?_⟩; intro w hSw; (try dsimp only at hSw); go_simp <;> with_reducible rfl))
      try simp only [Act.put, List.setIfInBounds_toArray, List.set_cons_zero, List.set_cons_succ]
      first
      | (refine wpAnyH_take (i := 20) (oi := ?o2_20) (v := undef) ?hi2_20 (by kernel_rfl) (by kernel_rfl) (by kernel_rfl) (fun _ _ _ h => h) ?hy2_20 (by assumption) ?hr2_20
         case hi2_20 => (simp only [List.getElem?_toArray, List.getElem?_cons_succ, List.getElem?_cons_zero]; rfl)
         case hy2_20 => exact Or.inr ⟨by rfl, rfl⟩)
      | (refine wpAnyH_take (i := 20) (oi := ?o2_20) (v := ?v2_20) ?hi2_20 (by kernel_rfl) (by kernel_rfl) (by kernel_rfl) (fun _ _ _ h => h) ?hy2_20 (by assumption) ?hr2_20
         case hi2_20 => (simp only [List.getElem?_toArray, List.getElem?_cons_succ, List.getElem?_cons_zero]; rfl)
         case hy2_20 => (refine Or.inl ⟨by rfl, ?_⟩; intro w hSw; (try dsimp only at hSw); go_simp <;> with_reducible rfl))
      try simp only [Act.put, List.setIfInBounds_toArray, List.set_cons_zero, List.set_cons_succ]
      first
      | (refine wpAnyH_take (i := 21) (oi := ?o2_21) (v := undef) ?hi2_21 (by kernel_rfl) (by kernel_rfl) (by kernel_rfl) (fun _ _ _ h => h) ?hy2_21 (by assumption) ?hr2_21
         case hi2_21 => (simp only [List.getElem?_toArray, List.getElem?_cons_succ, List.getElem?_cons_zero]; rfl)
         case hy2_21 => exact Or.inr ⟨by rfl, rfl⟩)
      | (refine wpAnyH_take (i := 21) (oi := ?o2_21) (v := ?v2_21) ?hi2_21 (by kernel_rfl) (by kernel_rfl) (by kernel_rfl) (fun _ _ _ h => h) ?hy2_21 (by assumption) ?hr2_21
         case hi2_21 => (simp only [List.getElem?_toArray, List.getElem?_cons_succ, List.getElem?_cons_zero]; rfl)
         case hy2_21 => (refine Or.inl ⟨by rfl, ?_⟩; intro w hSw; (try dsimp only at hSw); go_simp <;> with_reducible rfl))
      try simp only [Act.put, List.setIfInBounds_toArray, List.set_cons_zero, List.set_cons_succ]
      first
      | (refine wpAnyH_take (i := 22) (oi := ?o2_22) (v := undef) ?hi2_22 (by kernel_rfl) (by kernel_rfl) (by kernel_rfl) (fun _ _ _ h => h) ?hy2_22 (by assumption) ?hr2_22
         case hi2_22 => (simp only [List.getElem?_toArray, List.getElem?_cons_succ, List.getElem?_cons_zero]; rfl)
         case hy2_22 => exact Or.inr ⟨by rfl, rfl⟩)
      | (refine wpAnyH_ready (rs := [22]) (by kernel_rfl) (by simp) ?_
         refine AllReadyH.cons (o := ?o2_22) ?ho2_22 (fun K hK => ?hk2_22) AllReadyH.nil
         case ho2_22 => (simp only [List.getElem?_toArray, List.getElem?_cons_succ, List.getElem?_cons_zero]; rfl)
         go_simp
         fail
         go_wp2_with fail
         refine hK.out _ _ ?_ (fun hHeld => ?_)
         · first | exact keepOf (by assumption) hb
         clear hK K)
      try simp only [Act.put, List.setIfInBounds_toArray, List.set_cons_zero, List.set_cons_succ]
      first
      | (refine wpAnyH_take (i := 23) (oi := ?o2_23) (v := undef) ?hi2_23 (by kernel_rfl) (by kernel_rfl) (by kernel_rfl) (fun _ _ _ h => h) ?hy2_23 (by assumption) ?hr2_23
         case hi2_23 => (simp only [List.getElem?_toArray, List.getElem?_cons_succ, List.getElem?_cons_zero]; rfl)
         case hy2_23 => exact Or.inr ⟨by rfl, rfl⟩)
      | (refine wpAnyH_take (i := 23) (oi := ?o2_23) (v := ?v2_23) ?hi2_23 (by kernel_rfl) (by kernel_rfl) (by kernel_rfl) (fun _ _ _ h => h) ?hy2_23 (by assumption) ?hr2_23
         case hi2_23 => (simp only [List.getElem?_toArray, List.getElem?_cons_succ, List.getElem?_cons_zero]; rfl)
         case hy2_23 => (refine Or.inl ⟨by rfl, ?_⟩; intro w hSw; (try dsimp only at hSw); go_simp <;> with_reducible rfl))
      try simp only [Act.put, List.setIfInBounds_toArray, List.set_cons_zero, List.set_cons_succ]
      first
      | (refine wpAnyH_take (i := 24) (oi := ?o2_24) (v := undef) ?hi2_24 (by kernel_rfl) (by kernel_rfl) (by kernel_rfl) (fun _ _ _ h => h) ?hy2_24 (by assumption) ?hr2_24
         case hi2_24 => (simp only [List.getElem?_toArray, List.getElem?_cons_succ, List.getElem?_cons_zero]; rfl)
         case hy2_24 => exact Or.inr ⟨by rfl, rfl⟩)
      | (refine wpAnyH_take (i := 24) (oi := ?o2_24) (v := ?v2_24) ?hi2_24 (by kernel_rfl) (by kernel_rfl) (by kernel_rfl) (fun _ _ _ h => h) ?hy2_24 (by assumption) ?hr2_24
         case hi2_24 => (simp only [List.getElem?_toArray, List.getElem?_cons_succ, List.getElem?_cons_zero]; rfl)
         case hy2_24 => (refine Or.inl ⟨by rfl, ?_⟩; intro w hSw; (try dsimp only at hSw); go_simp <;> with_reducible rfl))
      try simp only [Act.put, List.setIfInBounds_toArray, List.set_cons_zero, List.set_cons_succ]
      first
      | (refine wpAnyH_take (i := 25) (oi := ?o2_25) (v := undef) ?hi2_25 (by kernel_rfl) (by kernel_rfl) (by kernel_rfl) (fun _ _ _ h => h) ?hy2_25 (by assumption) ?hr2_25
         case hi2_25 => (simp only [List.getElem?_toArray, List.getElem?_cons_succ, List.getElem?_cons_zero]; rfl)
         case hy2_25 => exact Or.inr ⟨by rfl, rfl⟩)
      | (refine wpAnyH_take (i := 25) (oi := ?o2_25) (v := ?v2_25) ?hi2_25 (by kernel_rfl) (by kernel_rfl) (by kernel_rfl) (fun _ _ _ h => h) ?hy2_25 (by assumption) ?hr2_25
         case hi2_25 => (simp only [List.getElem?_toArray, List.getElem?_cons_succ, List.getElem?_cons_zero]; rfl)
         case hy2_25 => (refine Or.inl ⟨by rfl, ?_⟩; intro w hSw; (try dsimp only at hSw); go_simp <;> with_reducible rfl))
      try simp only [Act.put, List.setIfInBounds_toArray, List.set_cons_zero, List.set_cons_succ]
      first
      | (refine wpAnyH_take (i := 26) (oi := ?o2_26) (v := undef) ?hi2_26 (by kernel_rfl) (by kernel_rfl) (by kernel_rfl) (fun _ _ _ h => h) ?hy2_26 (by assumption) ?hr2_26
         case hi2_26 => (simp only [List.getElem?_toArray, List.getElem?_cons_succ, List.getElem?_cons_zero]; rfl)
         case hy2_26 => exact Or.inr ⟨by rfl, rfl⟩)
      | (refine wpAnyH_ready (rs := [26]) (by kernel_rfl) (by simp) ?_
         refine AllReadyH.cons (o := ?o2_26) ?ho2_26 (fun K hK => ?hk2_26) AllReadyH.nil
         case ho2_26 => (simp only [List.getElem?_toArray, List.getElem?_cons_succ, List.getElem?_cons_zero]; rfl)
         go_simp
         fail
         go_wp2_with fail
         refine hK.out _ _ ?_ (fun hHeld => ?_)
         · first | exact keepOf (by assumption) hb
         clear hK K)
      try simp only [Act.put, List.setIfInBounds_toArray, List.set_cons_zero, List.set_cons_succ]
      first
      | (refine wpAnyH_take (i := 27) (oi := ?o2_27) (v := undef) ?hi2_27 (by kernel_rfl) (by kernel_rfl) (by kernel_rfl) (fun _ _ _ h => h) ?hy2_27 (by assumption) ?hr2_27
         case hi2_27 => (simp only [List.getElem?_toArray, List.getElem?_cons_succ, List.getElem?_cons_zero]; rfl)
         case hy2_27 => exact Or.inr ⟨by rfl, rfl⟩)
      | (refine wpAnyH_take (i := 27) (oi := ?o2_27) (v := ?v2_27) ?hi2_27 (by kernel_rfl) (by kernel_rfl) (by kernel_rfl) (fun _ _ _ h => h) ?hy2_27 (by assumption) ?hr2_27
         case hi2_27 => (simp only [List.getElem?_toArray, List.getElem?_cons_succ, List.getElem?_cons_zero]; rfl)
         case hy2_27 => (refine Or.inl ⟨by rfl, ?_⟩; intro w hSw; (try dsimp only at hSw); go_simp <;> with_reducible rfl))
      try simp only [Act.put, List.setIfInBounds_toArray, List.set_cons_zero, List.set_cons_succ]
      first
      | (refine wpAnyH_take (i := 28) (oi := ?o2_28) (v := undef) ?hi2_28 (by kernel_rfl) (by kernel_rfl) (by kernel_rfl) (fun _ _ _ h => h) ?hy2_28 (by assumption) ?hr2_28
         case hi2_28 => (simp only [List.getElem?_toArray, List.getElem?_cons_succ, List.getElem?_cons_zero]; rfl)
         case hy2_28 => exact Or.inr ⟨by rfl, rfl⟩)
      | (refine wpAnyH_take (i := 28) (oi := ?o2_28) (v := ?v2_28) ?hi2_28 (by kernel_rfl) (by kernel_rfl) (by kernel_rfl) (fun _ _ _ h => h) ?hy2_28 (by assumption) ?hr2_28
         case hi2_28 => (simp only [List.getElem?_toArray, List.getElem?_cons_succ, List.getElem?_cons_zero]; rfl)
         case hy2_28 => (refine Or.inl ⟨by rfl, ?_⟩; intro w hSw; (try dsimp only at hSw); go_simp <;> with_reducible rfl))
      try simp only [Act.put, List.setIfInBounds_toArray, List.set_cons_zero, List.set_cons_succ]
      first
      | (refine wpAnyH_take (i := 29) (oi := ?o2_29) (v := undef) ?hi2_29 (by kernel_rfl) (by kernel_rfl) (by kernel_rfl) (fun _ _ _ h => h) ?hy2_29 (by assumption) ?hr2_29
         case hi2_29 => (simp only [List.getElem?_toArray, List.getElem?_cons_succ, List.getElem?_cons_zero]; rfl)
         case hy2_29 => exact Or.inr ⟨by rfl, rfl⟩)
      | (refine wpAnyH_take (i := 29) (oi := ?o2_29) (v := ?v2_29) ?hi2_29 (by kernel_rfl) (by kernel_rfl) (by kernel_rfl) (fun _ _ _ h => h) ?hy2_29 (by assumption) ?hr2_29
         case hi2_29 => (simp only [List.getElem?_toArray, List.getElem?_cons_succ, List.getElem?_cons_zero]; rfl)
         case hy2_29 => (refine Or.inl ⟨by rfl, ?_⟩; intro w hSw; (try dsimp only at hSw); go_simp <;> with_reducible rfl))
      try simp only [Act.put, List.setIfInBounds_toArray, List.set_cons_zero, List.set_cons_succ]
      first
      | (refine wpAnyH_take (i := 30) (oi := ?o2_30) (v := undef) ?hi2_30 (by kernel_rfl) (by kernel_rfl) (by kernel_rfl) (fun _ _ _ h => h) ?hy2_30 (by assumption) ?hr2_30
         case hi2_30 => (simp only [List.getElem?_toArray, List.getElem?_cons_succ, List.getElem?_cons_zero]; rfl)
         case hy2_30 => exact Or.inr ⟨by rfl, rfl⟩)
      | (refine wpAnyH_take (i := 30) (oi := ?o2_30) (v := ?v2_30) ?hi2_30 (by kernel_rfl) (by kernel_rfl) (by kernel_rfl) (fun _ _ _ h => h) ?hy2_30 (by assumption) ?hr2_30
         case hi2_30 => (simp only [List.getElem?_toArray, List.getElem?_cons_succ, List.getElem?_cons_zero]; rfl)
         case hy2_30 => (refine Or.inl ⟨by rfl, ?_⟩; intro w hSw; (try dsimp only at hSw); go_simp <;> with_reducible rfl))
      try simp only [Act.put, List.setIfInBounds_toArray, List.set_cons_zero, List.set_cons_succ]
      refine wpAnyH_done (by kernel_rfl) ?_ _
      refine NoPanic.normal ?_
      go_wp2_with fail
      go_ret
      exact ⟨rfl, hHeld.2⟩
  · cases h2 : spotB u v
    · have hn := HN.out (by rw [h1, h2]; rfl)
      clear HA HN
      refine wp_region_noPanic ?_
      refine wp_region_held_drew (S := (fun w' => (w'.cell? ⟨w.heap.size, 0, none⟩ = some (.int .i64 x) ∧ w'.cell? ⟨w.heap.size, 1, none⟩ = some (.int .i64 y) ∧ w'.cell? ⟨w.heap.size + 1, 0, none⟩ = some (.int .i64 u) ∧ w'.cell? ⟨w.heap.size + 1, 1, none⟩ = some (.int .i64 v) ∧ w'.cell? ⟨w2.heap.size, 0, none⟩ = some (.int .i64 p1) ∧ w'.cell? ⟨w2.heap.size, 1, none⟩ = some (.int .i64 p2) ∧ w'.cell? ⟨w2.heap.size, 2, none⟩ = some (.int .i64 p3) ∧ w'.cell? ⟨w2.heap.size, 3, none⟩ = some (.int .i64 p4)) ∧ Below w.heap.size w w')) (by kernel_rfl) (by exact hS5) (fun hHeld => ?_)
      first
      | (refine wpAnyH_take (i := 0) (oi := ?o3_0) (v := undef) ?hi3_0 (by kernel_rfl) (by kernel_rfl) (by kernel_rfl) (fun _ _ _ h => h) ?hy3_0 (by assumption) ?hr3_0
         case hi3_0 => (simp only [List.getElem?_toArray, List.getElem?_cons_succ, List.getElem?_cons_zero]; rfl)
         case hy3_0 => exact Or.inr ⟨by rfl, rfl⟩)
      | (refine wpAnyH_take (i := 0) (oi := ?o3_0) (v := ?v3_0) ?hi3_0 (by kernel_rfl) (by kernel_rfl) (by kernel_rfl) (fun _ _ _ h => h) ?hy3_0 (by assumption) ?hr3_0
         case hi3_0 => (simp only [List.getElem?_toArray, List.getElem?_cons_succ, List.getElem?_cons_zero]; rfl)
         case hy3_0 => (refine Or.inl ⟨by rfl, ?_⟩; intro w hSw; (try dsimp only at hSw); go_simp <;> with_reducible rfl))
      try simp only [Act.put, List.setIfInBounds_toArray, List.set_cons_zero, List.set_cons_succ]
      first
      | (refine wpAnyH_take (i := 3) (oi := ?o3_3) (v := undef) ?hi3_3 (by kernel_rfl) (by kernel_rfl) (by kernel_rfl) (fun _ _ _ h => h) ?hy3_3 (by assumption) ?hr3_3
         case hi3_3 => (simp only [List.getElem?_toArray, List.getElem?_cons_succ, List.getElem?_cons_zero]; rfl)
         case hy3_3 => exact Or.inr ⟨by rfl, rfl⟩)
      | (refine wpAnyH_take (i := 3) (oi := ?o3_3) (v := ?v3_3) ?hi3_3 (by kernel_rfl) (by kernel_rfl) (by kernel_rfl) (fun _ _ _ h => h) ?hy3_3 (by assumption) ?hr3_3
         case hi3_3 => (simp only [List.getElem?_toArray, List.getElem?_cons_succ, List.getElem?_cons_zero]; rfl)
         case hy3_3 => (refine Or.inl ⟨by rfl, ?_⟩; intro w hSw; (try dsimp only at hSw); go_simp <;> with_reducible rfl))
      try simp only [Act.put, List.setIfInBounds_toArray, List.set_cons_zero, List.set_cons_succ]
      first
      | (refine wpAnyH_take (i := 1) (oi := ?o3_1) (v := undef) ?hi3_1 (by kernel_rfl) (by kernel_rfl) (by kernel_rfl) (fun _ _ _ h => h) ?hy3_1 (by assumption) ?hr3_1
         case hi3_1 => (simp only [List.getElem?_toArray, List.getElem?_cons_succ, List.getElem?_cons_zero]; rfl)
         case hy3_1 => exact Or.inr ⟨by rfl, rfl⟩)
      | (refine wpAnyH_ready (rs := [1]) (by kernel_rfl) (by simp) ?_
         refine AllReadyH.cons (o := ?o3_1) ?ho3_1 (fun K hK => ?hk3_1) AllReadyH.nil
         case ho3_1 => (simp only [List.getElem?_toArray, List.getElem?_cons_succ, List.getElem?_cons_zero]; rfl)
         go_simp
         refine (may13 p1 p2 p3 p4 _).mono ?_; rw [areaE_no hn]; rintro e wz ⟨rfl, hb⟩
         go_wp2_with fail
         refine hK.out _ _ ?_ (fun hHeld => ?_)
         · first | exact keepOf (by assumption) hb
         clear hK K)
      try simp only [Act.put, List.setIfInBounds_toArray, List.set_cons_zero, List.set_cons_succ]
      first
      | (refine wpAnyH_take (i := 2) (oi := ?o3_2) (v := undef) ?hi3_2 (by kernel_rfl) (by kernel_rfl) (by kernel_rfl) (fun _ _ _ h => h) ?hy3_2 (by assumption) ?hr3_2
         case hi3_2 => (simp only [List.getElem?_toArray, List.getElem?_cons_succ, List.getElem?_cons_zero]; rfl)
         case hy3_2 => exact Or.inr ⟨by rfl, rfl⟩)
      | (refine wpAnyH_take (i := 2) (oi := ?o3_2) (v := ?v3_2) ?hi3_2 (by kernel_rfl) (by kernel_rfl) (by kernel_rfl) (fun _ _ _ h => h) ?hy3_2 (by assumption) ?hr3_2
         case hi3_2 => (simp only [List.getElem?_toArray, List.getElem?_cons_succ, List.getElem?_cons_zero]; rfl)
         case hy3_2 => (refine Or.inl ⟨by rfl, ?_⟩; intro w hSw; (try dsimp only at hSw); go_simp <;> with_reducible rfl))
      try simp only [Act.put, List.setIfInBounds_toArray, List.set_cons_zero, List.set_cons_succ]
      first
      | (refine wpAnyH_take (i := 4) (oi := ?o3_4) (v := undef) ?hi3_4 (by kernel_rfl) (by kernel_rfl) (by kernel_rfl) (fun _ _ _ h => h) ?hy3_4 (by assumption) ?hr3_4
         case hi3_4 => (simp only [List.getElem?_toArray, List.getElem?_cons_succ, List.getElem?_cons_zero]; rfl)
         case hy3_4 => exact Or.inr ⟨by rfl, rfl⟩)
      | (refine wpAnyH_ready (rs := [4]) (by kernel_rfl) (by simp) ?_
         refine AllReadyH.cons (o := ?o3_4) ?ho3_4 (fun K hK => ?hk3_4) AllReadyH.nil
         case ho3_4 => (simp only [List.getElem?_toArray, List.getElem?_cons_succ, List.getElem?_cons_zero]; rfl)
         go_simp
         refine (in18 x y _).mono ?_; rw [h1]; rintro e wz ⟨rfl, hb⟩
         go_wp2_with fail
         refine hK.out _ _ ?_ (fun hHeld => ?_)
         · first | exact keepOf (by assumption) hb
         clear hK K)
      try simp only [Act.put, List.setIfInBounds_toArray, List.set_cons_zero, List.set_cons_succ]
      first
      | (refine wpAnyH_take (i := 5) (oi := ?o3_5) (v := undef) ?hi3_5 (by kernel_rfl) (by kernel_rfl) (by kernel_rfl) (fun _ _ _ h => h) ?hy3_5 (by assumption) ?hr3_5
         case hi3_5 => (simp only [List.getElem?_toArray, List.getElem?_cons_succ, List.getElem?_cons_zero]; rfl)
         case hy3_5 => exact Or.inr ⟨by rfl, rfl⟩)
      | (refine wpAnyH_take (i := 5) (oi := ?o3_5) (v := ?v3_5) ?hi3_5 (by kernel_rfl) (by kernel_rfl) (by kernel_rfl) (fun _ _ _ h => h) ?hy3_5 (by assumption) ?hr3_5
         case hi3_5 => (simp only [List.getElem?_toArray, List.getElem?_cons_succ, List.getElem?_cons_zero]; rfl)
         case hy3_5 => (refine Or.inl ⟨by rfl, ?_⟩; intro w hSw; (try dsimp only at hSw); go_simp <;> with_reducible rfl))
      try simp only [Act.put, List.setIfInBounds_toArray, List.set_cons_zero, List.set_cons_succ]
      first
      | (refine wpAnyH_take (i := 6) (oi := ?o3_6) (v := undef) ?hi3_6 (by kernel_rfl) (by kernel_rfl) (by kernel_rfl) (fun _ _ _ h => h) ?hy3_6 (by assumption) ?hr3_6
         case hi3_6 => (simp only [List.getElem?_toArray, List.getElem?_cons_succ, List.getElem?_cons_zero]; rfl)
         case hy3_6 => exact Or.inr ⟨by rfl, rfl⟩)
      | (refine wpAnyH_take (i := 6) (oi := ?o3_6) (v := ?v3_6) ?hi3_6 (by kernel_rfl) (by kernel_rfl) (by kernel_rfl) (fun _ _ _ h => h) ?hy3_6 (by assumption) ?hr3_6
         case hi3_6 => (simp only [List.getElem?_toArray, List.getElem?_cons_succ, List.getElem?_cons_zero]; rfl)
         case hy3_6 => (refine Or.inl ⟨by rfl, ?_⟩; intro w hSw; (try dsimp only at hSw); go_simp <;> with_reducible rfl))
      try simp only [Act.put, List.setIfInBounds_toArray, List.set_cons_zero, List.set_cons_succ]
      first
      | (refine wpAnyH_take (i := 7) (oi := ?o3_7) (v := undef) ?hi3_7 (by kernel_rfl) (by kernel_rfl) (by kernel_rfl) (fun _ _ _ h => h) ?hy3_7 (by assumption) ?hr3_7
         case hi3_7 => (simp only [List.getElem?_toArray, List.getElem?_cons_succ, List.getElem?_cons_zero]; rfl)
         case hy3_7 => exact Or.inr ⟨by rfl, rfl⟩)
      | (refine wpAnyH_ready (rs := [7]) (by kernel_rfl) (by simp) ?_
         refine AllReadyH.cons (o := ?o3_7) ?ho3_7 (fun K hK => ?hk3_7) AllReadyH.nil
         case ho3_7 => (simp only [List.getElem?_toArray, List.getElem?_cons_succ, List.getElem?_cons_zero]; rfl)
         go_simp
         refine (in18 u v _).mono ?_; rw [h2]; rintro e wz ⟨rfl, hb⟩
         go_wp2_with fail
         refine hK.out _ _ ?_ (fun hHeld => ?_)
         · first | exact keepOf (by assumption) hb
         clear hK K)
      try simp only [Act.put, List.setIfInBounds_toArray, List.set_cons_zero, List.set_cons_succ]
      first
      | (refine wpAnyH_take (i := 8) (oi := ?o3_8) (v := undef) ?hi3_8 (by kernel_rfl) (by kernel_rfl) (by kernel_rfl) (fun _ _ _ h => h) ?hy3_8 (by assumption) ?hr3_8
         case hi3_8 => (simp only [List.getElem?_toArray, List.getElem?_cons_succ, List.getElem?_cons_zero]; rfl)
         case hy3_8 => exact Or.inr ⟨by rfl, rfl⟩)
      | (refine wpAnyH_take (i := 8) (oi := ?o3_8) (v := ?v3_8) ?hi3_8 (by kernel_rfl) (by kernel_rfl) (by kernel_rfl) (fun _ _ _ h => h) ?hy3_8 (by assumption) ?hr3_8
         case hi3_8 => (simp only [List.getElem?_toArray, List.getElem?_cons_succ, List.getElem?_cons_zero]; rfl)
         case hy3_8 => (refine Or.inl ⟨by rfl, ?_⟩; intro w hSw; (try dsimp only at hSw); go_simp <;> with_reducible rfl))
      try simp only [Act.put, List.setIfInBounds_toArray, List.set_cons_zero, List.set_cons_succ]
      first
      | (refine wpAnyH_take (i := 9) (oi := ?o3_9) (v := undef) ?hi3_9 (by kernel_rfl) (by kernel_rfl) (by kernel_rfl) (fun _ _ _ h => h) ?hy3_9 (by assumption) ?hr3_9
         case hi3_9 => (simp only [List.getElem?_toArray, List.getElem?_cons_succ, List.getElem?_cons_zero]; rfl)
         case hy3_9 => exact Or.inr ⟨by rfl, rfl⟩)
      | (refine wpAnyH_take (i := 9) (oi := ?o3_9) (v := ?v3_9) ?hi3_9 (by kernel_rfl) (by kernel_rfl) (by kernel_rfl) (fun _ _ _ h => h) ?hy3_9 (by assumption) ?hr3_9
         case hi3_9 => (simp only [List.getElem?_toArray, List.getElem?_cons_succ, List.getElem?_cons_zero]; rfl)
         case hy3_9 => (refine Or.inl ⟨by rfl, ?_⟩; intro w hSw; (try dsimp only at hSw); go_simp <;> with_reducible rfl))
      try simp only [Act.put, List.setIfInBounds_toArray, List.set_cons_zero, List.set_cons_succ]
      first
      | (refine wpAnyH_take (i := 10) (oi := ?o3_10) (v := undef) ?hi3_10 (by kernel_rfl) (by kernel_rfl) (by kernel_rfl) (fun _ _ _ h => h) ?hy3_10 (by assumption) ?hr3_10
         case hi3_10 => (simp only [List.getElem?_toArray, List.getElem?_cons_succ, List.getElem?_cons_zero]; rfl)
         case hy3_10 => exact Or.inr ⟨by rfl, rfl⟩)
      | (refine wpAnyH_take (i := 10) (oi := ?o3_10) (v := ?v3_10) ?hi3_10 (by kernel_rfl) (by kernel_rfl) (by kernel_rfl) (fun _ _ _ h => h) ?hy3_10 (by assumption) ?hr3_10
         case hi3_10 => (simp only [List.getElem?_toArray, List.getElem?_cons_succ, List.getElem?_cons_zero]; rfl)
         case hy3_10 => (refine Or.inl ⟨by rfl, ?_⟩; intro w hSw; (try dsimp only at hSw); go_simp <;> with_reducible rfl))
      try simp only [Act.put, List.setIfInBounds_toArray, List.set_cons_zero, List.set_cons_succ]
      first
      | (refine wpAnyH_take (i := 11) (oi := ?o3_11) (v := undef) ?hi3_11 (by kernel_rfl) (by kernel_rfl) (by kernel_rfl) (fun _ _ _ h => h) ?hy3_11 (by assumption) ?hr3_11
         case hi3_11 => (simp only [List.getElem?_toArray, List.getElem?_cons_succ, List.getElem?_cons_zero]; rfl)
         case hy3_11 => exact Or.inr ⟨by rfl, rfl⟩)
      | (refine wpAnyH_take (i := 11) (oi := ?o3_11) (v := ?v3_11) ?hi3_11 (by kernel_rfl) (by kernel_rfl) (by kernel_rfl) (fun _ _ _ h => h) ?hy3_11 (by assumption) ?hr3_11
         case hi3_11 => (simp only [List.getElem?_toArray, List.getElem?_cons_succ, List.getElem?_cons_zero]; rfl)
         case hy3_11 => (refine Or.inl ⟨by rfl, ?_⟩; intro w hSw; (try dsimp only at hSw); go_simp <;> with_reducible rfl))
      try simp only [Act.put, List.setIfInBounds_toArray, List.set_cons_zero, List.set_cons_succ]
      first
      | (refine wpAnyH_take (i := 12) (oi := ?o3_12) (v := undef) ?hi3_12 (by kernel_rfl) (by kernel_rfl) (by kernel_rfl) (fun _ _ _ h => h) ?hy3_12 (by assumption) ?hr3_12
         case hi3_12 => (simp only [List.getElem?_toArray, List.getElem?_cons_succ, List.getElem?_cons_zero]; rfl)
         case hy3_12 => exact Or.inr ⟨by rfl, rfl⟩)
      | (refine wpAnyH_ready (rs := [12]) (by kernel_rfl) (by simp) ?_
         refine AllReadyH.cons (o := ?o3_12) ?ho3_12 (fun K hK => ?hk3_12) AllReadyH.nil
         case ho3_12 => (simp only [List.getElem?_toArray, List.getElem?_cons_succ, List.getElem?_cons_zero]; rfl)
         go_simp
         refine (in18 x y _).mono ?_; rw [h1]; rintro e wz ⟨rfl, hb⟩
         go_wp2_with fail
         refine hK.out _ _ ?_ (fun hHeld => ?_)
         · first | exact keepOf (by assumption) hb
         clear hK K)
      try simp only [Act.put, List.setIfInBounds_toArray, List.set_cons_zero, List.set_cons_succ]
      first
      | (refine wpAnyH_take (i := 13) (oi := ?o3_13) (v := undef) ?hi3_13 (by kernel_rfl) (by kernel_rfl) (by kernel_rfl) (fun _ _ _ h => h) ?hy3_13 (by assumption) ?hr3_13
         case hi3_13 => (simp only [List.getElem?_toArray, List.getElem?_cons_succ, List.getElem?_cons_zero]; rfl)
         case hy3_13 => exact Or.inr ⟨by rfl, rfl⟩)
      | (refine wpAnyH_take (i := 13) (oi := ?o3_13) (v := ?v3_13) ?hi3_13 (by kernel_rfl) (by kernel_rfl) (by kernel_rfl) (fun _ _ _ h => h) ?hy3_13 (by assumption) ?hr3_13
         case hi3_13 => (simp only [List.getElem?_toArray, List.getElem?_cons_succ, List.getElem?_cons_zero]; rfl)
         case hy3_13 => (refine Or.inl ⟨by rfl, ?_⟩; intro w hSw; (try dsimp only at hSw); go_simp <;> with_reducible rfl))
      try simp only [Act.put, List.setIfInBounds_toArray, List.set_cons_zero, List.set_cons_succ]
      first
      | (refine wpAnyH_take (i := 14) (oi := ?o3_14) (v := undef) ?hi3_14 (by kernel_rfl) (by kernel_rfl) (by kernel_rfl) (fun _ _ _ h => h) ?hy3_14 (by assumption) ?hr3_14
         case hi3_14 => (simp only [List.getElem?_toArray, List.getElem?_cons_succ, List.getElem?_cons_zero]; rfl)
         case hy3_14 => exact Or.inr ⟨by rfl, rfl⟩)
      | (refine wpAnyH_take (i := 14) (oi := ?o3_14) (v := ?v3_14) ?hi3_14 (by kernel_rfl) (by kernel_rfl) (by kernel_rfl) (fun _ _ _ h => h) ?hy3_14 (by assumption) ?hr3_14
         case hi3_14 => (simp only [List.getElem?_toArray, List.getElem?_cons_succ, List.getElem?_cons_zero]; rfl)
         case hy3_14 => (refine Or.inl ⟨by rfl, ?_⟩; intro w hSw; (try dsimp only at hSw); go_simp <;> with_reducible rfl))
      try simp only [Act.put, List.setIfInBounds_toArray, List.set_cons_zero, List.set_cons_succ]
      first
      | (refine wpAnyH_take (i := 15) (oi := ?o3_15) (v := undef) ?hi3_15 (by kernel_rfl) (by kernel_rfl) (by kernel_rfl) (fun _ _ _ h => h) ?hy3_15 (by assumption) ?hr3_15
         case hi3_15 => (simp only [List.getElem?_toArray, List.getElem?_cons_succ, List.getElem?_cons_zero]; rfl)
         case hy3_15 => exact Or.inr ⟨by rfl, rfl⟩)
      | (refine wpAnyH_take (i := 15) (oi := ?o3_15) (v := ?v3_15) ?hi3_15 (by kernel_rfl) (by kernel_rfl) (by kernel_rfl) (fun _ _ _ h => h) ?hy3_15 (by assumption) ?hr3_15
         case hi3_15 => (simp only [List.getElem?_toArray, List.getElem?_cons_succ, List.getElem?_cons_zero]; rfl)
         case hy3_15 => (refine Or.inl ⟨by rfl, ?_⟩; intro w hSw; (try dsimp only at hSw); go_simp <;> with_reducible rfl))
      try simp only [Act.put, List.setIfInBounds_toArray, List.set_cons_zero, List.set_cons_succ]
      first
      | (refine wpAnyH_take (i := 16) (oi := ?o3_16) (v := undef) ?hi3_16 (by kernel_rfl) (by kernel_rfl) (by kernel_rfl) (fun _ _ _ h => h) ?hy3_16 (by assumption) ?hr3_16
         case hi3_16 => (simp only [List.getElem?_toArray, List.getElem?_cons_succ, List.getElem?_cons_zero]; rfl)
         case hy3_16 => exact Or.inr ⟨by rfl, rfl⟩)
      | (refine wpAnyH_ready (rs := [16]) (by kernel_rfl) (by simp) ?_
         refine AllReadyH.cons (o := ?o3_16) ?ho3_16 (fun K hK => ?hk3_16) AllReadyH.nil
         case ho3_16 => (simp only [List.getElem?_toArray, List.getElem?_cons_succ, List.getElem?_cons_zero]; rfl)
         go_simp
         refine (in18 u v _).mono ?_; rw [h2]; rintro e wz ⟨rfl, hb⟩
         go_wp2_with fail
         refine hK.out _ _ ?_ (fun hHeld => ?_)
         · first | exact keepOf (by assumption) hb
         clear hK K)
      try simp only [Act.put, List.setIfInBounds_toArray, List.set_cons_zero, List.set_cons_succ]
      first
      | (refine wpAnyH_take (i := 17) (oi := ?o3_17) (v := undef) ?hi3_17 (by kernel_rfl) (by kernel_rfl) (by kernel_rfl) (fun _ _ _ h => h) ?hy3_17 (by assumption) ?hr3_17
         case hi3_17 => (simp only [List.getElem?_toArray, List.getElem?_cons_succ, List.getElem?_cons_zero]; rfl)
         case hy3_17 => exact Or.inr ⟨by rfl, rfl⟩)
      | (refine wpAnyH_take (i := 17) (oi := ?o3_17) (v := ?v3_17) ?hi3_17 (by kernel_rfl) (by kernel_rfl) (by kernel_rfl) (fun _ _ _ h => h) ?hy3_17 (by assumption) ?hr3_17
         case hi3_17 => (simp only [List.getElem?_toArray, List.getElem?_cons_succ, List.getElem?_cons_zero]; rfl)
         case hy3_17 => (refine Or.inl ⟨by rfl, ?_⟩; intro w hSw; (try dsimp only at hSw); go_simp <;> with_reducible rfl))
      try simp only [Act.put, List.setIfInBounds_toArray, List.set_cons_zero, List.set_cons_succ]
      first
      | (refine wpAnyH_take (i := 18) (oi := ?o3_18) (v := undef) ?hi3_18 (by kernel_rfl) (by kernel_rfl) (by kernel_rfl) (fun _ _ _ h => h) ?hy3_18 (by assumption) ?hr3_18
         case hi3_18 => (simp only [List.getElem?_toArray, List.getElem?_cons_succ, List.getElem?_cons_zero]; rfl)
         case hy3_18 => exact Or.inr ⟨by rfl, rfl⟩)
      | (refine wpAnyH_take (i := 18) (oi := ?o3_18) (v := ?v3_18) ?hi3_18 (by kernel_rfl) (by kernel_rfl) (by kernel_rfl) (fun _ _ _ h => h) ?hy3_18 (by assumption) ?hr3_18
         case hi3_18 => (simp only [List.getElem?_toArray, List.getElem?_cons_succ, List.getElem?_cons_zero]; rfl)
         case hy3_18 => (refine Or.inl ⟨by rfl, ?_⟩; intro w hSw; (try dsimp only at hSw); go_simp <;> with_reducible rfl))
      try simp only [Act.put, List.setIfInBounds_toArray, List.set_cons_zero, List.set_cons_succ]
      first
      | (refine wpAnyH_take (i := 19) (oi := ?o3_19) (v := undef) ?hi3_19 (by kernel_rfl) (by kernel_rfl) (by kernel_rfl) (fun _ _ _ h => h) ?hy3_19 (by assumption) ?hr3_19
         case hi3_19 => (simp only [List.getElem?_toArray, List.getElem?_cons_succ, List.getElem?_cons_zero]; rfl)
         case hy3_19 => exact Or.inr ⟨by rfl, rfl⟩)
      | (refine wpAnyH_take (i := 19) (oi := ?o3_19) (v := ?v3_19) ?hi3_19 (by kernel_rfl) (by kernel_rfl) (by kernel_rfl) (fun _ _ _ h => h) ?hy3_19 (by assumption) ?hr3_19
         case hi3_19 => (simp only [List.getElem?_toArray, List.getElem?_cons_succ, List.getElem?_cons_zero]; rfl)
         case hy3_19 => (refine Or.inl ⟨by rfl, ?_⟩; intro w hSw; (try dsimp only at hSw); go_simp <;> with_reducible rfl))
      try simp only [Act.put, List.setIfInBounds_toArray, List.set_cons_zero, List.set_cons_succ]
      first
      | (refine wpAnyH_take (i := 20) (oi := ?o3_20) (v := undef) ?hi3_20 (by kernel_rfl) (by kernel_rfl) (by kernel_rfl) (fun _ _ _ h => h) ?hy3_20 (by assumption) ?hr3_20
         case hi3_20 => (simp only [List.getElem?_toArray, List.getElem?_cons_succ, List.getElem?_cons_zero]; rfl)
         case hy3_20 => exact Or.inr ⟨by rfl, rfl⟩)
      | (refine wpAnyH_take (i := 20) (oi := ?o3_20) (v := ?v3_20) ?hi3_20 (by kernel_rfl) (by kernel_rfl) (by kernel_rfl) (fun _ _ _ h => h) ?hy3_20 (by assumption) ?hr3_20
         case hi3_20 => (simp only [List.getElem?_toArray, List.getElem?_cons_succ, List.getElem?_cons_zero]; rfl)
         case hy3_20 => (refine Or.inl ⟨by rfl, ?_⟩; intro w hSw; (try dsimp only at hSw); go_simp <;> with_reducible rfl))
      try simp only [Act.put, List.setIfInBounds_toArray, List.set_cons_zero, List.set_cons_succ]
      first
      | (refine wpAnyH_take (i := 21) (oi := ?o3_21) (v := undef) ?hi3_21 (by kernel_rfl) (by kernel_rfl) (by kernel_rfl) (fun _ _ _ h => h) ?hy3_21 (by assumption) ?hr3_21
         case hi3_21 => (simp only [List.getElem?_toArray, List.getElem?_cons_succ, List.getElem?_cons_zero]; rfl)
         case hy3_21 => exact Or.inr ⟨by rfl, rfl⟩)
      | (refine wpAnyH_take (i := 21) (oi := ?o3_21) (v := ?v3_21) ?hi3_21 (by kernel_rfl) (by kernel_rfl) (by kernel_rfl) (fun _ _ _ h => h) ?hy3_21 (by assumption) ?hr3_21
         case hi3_21 => (simp only [List.getElem?_toArray, List.getElem?_cons_succ, List.getElem?_cons_zero]; rfl)
         case hy3_21 => (refine Or.inl ⟨by rfl, ?_⟩; intro w hSw; (try dsimp only at hSw); go_simp <;> with_reducible rfl))
      try simp only [Act.put, List.setIfInBounds_toArray, List.set_cons_zero, List.set_cons_succ]
      first
      | (refine wpAnyH_take (i := 22) (oi := ?o3_22) (v := undef) ?hi3_22 (by kernel_rfl) (by kernel_rfl) (by kernel_rfl) (fun _ _ _ h => h) ?hy3_22 (by assumption) ?hr3_22
         case hi3_22 => (simp only [List.getElem?_toArray, List.getElem?_cons_succ, List.getElem?_cons_zero]; rfl)
         case hy3_22 => exact Or.inr ⟨by rfl, rfl⟩)
      | (refine wpAnyH_ready (rs := [22]) (by kernel_rfl) (by simp) ?_
         refine AllReadyH.cons (o := ?o3_22) ?ho3_22 (fun K hK => ?hk3_22) AllReadyH.nil
         case ho3_22 => (simp only [List.getElem?_toArray, List.getElem?_cons_succ, List.getElem?_cons_zero]; rfl)
         go_simp
         fail
         go_wp2_with fail
         refine hK.out _ _ ?_ (fun hHeld => ?_)
         · first | exact keepOf (by assumption) hb
         clear hK K)
      try simp only [Act.put, List.setIfInBounds_toArray, List.set_cons_zero, List.set_cons_succ]
      first
      | (refine wpAnyH_take (i := 23) (oi := ?o3_23) (v := undef) ?hi3_23 (by kernel_rfl) (by kernel_rfl) (by kernel_rfl) (fun _ _ _ h => h) ?hy3_23 (by assumption) ?hr3_23
         case hi3_23 => (simp only [List.getElem?_toArray, List.getElem?_cons_succ, List.getElem?_cons_zero]; rfl)
         case hy3_23 => exact Or.inr ⟨by rfl, rfl⟩)
      | (refine wpAnyH_take (i := 23) (oi := ?o3_23) (v := ?v3_23) ?hi3_23 (by kernel_rfl) (by kernel_rfl) (by kernel_rfl) (fun _ _ _ h => h) ?hy3_23 (by assumption) ?hr3_23
         case hi3_23 => (simp only [List.getElem?_toArray, List.getElem?_cons_succ, List.getElem?_cons_zero]; rfl)
         case hy3_23 => (refine Or.inl ⟨by rfl, ?_⟩; intro w hSw; (try dsimp only at hSw); go_simp <;> with_reducible rfl))
      try simp only [Act.put, List.setIfInBounds_toArray, List.set_cons_zero, List.set_cons_succ]
      first
      | (refine wpAnyH_take (i := 24) (oi := ?o3_24) (v := undef) ?hi3_24 (by kernel_rfl) (by kernel_rfl) (by kernel_rfl) (fun _ _ _ h => h) ?hy3_24 (by assumption) ?hr3_24
         case hi3_24 => (simp only [List.getElem?_toArray, List.getElem?_cons_succ, List.getElem?_cons_zero]; rfl)
         case hy3_24 => exact Or.inr ⟨by rfl, rfl⟩)
      | (refine wpAnyH_take (i := 24) (oi := ?o3_24) (v := ?v3_24) ?hi3_24 (by kernel_rfl) (by kernel_rfl) (by kernel_rfl) (fun _ _ _ h => h) ?hy3_24 (by assumption) ?hr3_24
         case hi3_24 => (simp only [List.getElem?_toArray, List.getElem?_cons_succ, List.getElem?_cons_zero]; rfl)
         case hy3_24 => (refine Or.inl ⟨by rfl, ?_⟩; intro w hSw; (try dsimp only at hSw); go_simp <;> with_reducible rfl))
      try simp only [Act.put, List.setIfInBounds_toArray, List.set_cons_zero, List.set_cons_succ]
      first
      | (refine wpAnyH_take (i := 25) (oi := ?o3_25) (v := undef) ?hi3_25 (by kernel_rfl) (by kernel_rfl) (by kernel_rfl) (fun _ _ _ h => h) ?hy3_25 (by assumption) ?hr3_25
         case hi3_25 => (simp only [List.getElem?_toArray, List.getElem?_cons_succ, List.getElem?_cons_zero]; rfl)
         case hy3_25 => exact Or.inr ⟨by rfl, rfl⟩)
      | (refine wpAnyH_take (i := 25) (oi := ?o3_25) (v := ?v3_25) ?hi3_25 (by kernel_rfl) (by kernel_rfl) (by kernel_rfl) (fun _ _ _ h => h) ?hy3_25 (by assumption) ?hr3_25
         case hi3_25 => (simp only [List.getElem?_toArray, List.getElem?_cons_succ, List.getElem?_cons_zero]; rfl)
         case hy3_25 => (refine Or.inl ⟨by rfl, ?_⟩; intro w hSw; (try dsimp only at hSw); go_simp <;> with_reducible rfl))
      try simp only [Act.put, List.setIfInBounds_toArray, List.set_cons_zero, List.set_cons_succ]
      first
      | (refine wpAnyH_take (i := 26) (oi := ?o3_26) (v := undef) ?hi3_26 (by kernel_rfl) (by kernel_rfl) (by kernel_rfl) (fun _ _ _ h => h) ?hy3_26 (by assumption) ?hr3_26
         case hi3_26 => (simp only [List.getElem?_toArray, List.getElem?_cons_succ, List.getElem?_cons_zero]; rfl)
         case hy3_26 => exact Or.inr ⟨by rfl, rfl⟩)
      | (refine wpAnyH_ready (rs := [26]) (by kernel_rfl) (by simp) ?_
         refine AllReadyH.cons (o := ?o3_26) ?ho3_26 (fun K hK => ?hk3_26) AllReadyH.nil
         case ho3_26 => (simp only [List.getElem?_toArray, List.getElem?_cons_succ, List.getElem?_cons_zero]; rfl)
         go_simp
         fail
         go_wp2_with fail
         refine hK.out _ _ ?_ (fun hHeld => ?_)
         · first | exact keepOf (by assumption) hb
         clear hK K)
      try simp only [Act.put, List.setIfInBounds_toArray, List.set_cons_zero, List.set_cons_succ]
      first
      | (refine wpAnyH_take (i := 27) (oi := ?o3_27) (v := undef) ?hi3_27 (by kernel_rfl) (by kernel_rfl) (by kernel_rfl) (fun _ _ _ h => h) ?hy3_27 (by assumption) ?hr3_27
         case hi3_27 => (simp only [List.getElem?_toArray, List.getElem?_cons_succ, List.getElem?_cons_zero]; rfl)
         case hy3_27 => exact Or.inr ⟨by rfl, rfl⟩)
      | (refine wpAnyH_take (i := 27) (oi := ?o3_27) (v := ?v3_27) ?hi3_27 (by kernel_rfl) (by kernel_rfl) (by kernel_rfl) (fun _ _ _ h => h) ?hy3_27 (by assumption) ?hr3_27
         case hi3_27 => (simp only [List.getElem?_toArray, List.getElem?_cons_succ, List.getElem?_cons_zero]; rfl)
         case hy3_27 => (refine Or.inl ⟨by rfl, ?_⟩; intro w hSw; (try dsimp only at hSw); go_simp <;> with_reducible rfl))
      try simp only [Act.put, List.setIfInBounds_toArray, List.set_cons_zero, List.set_cons_succ]
      first
      | (refine wpAnyH_take (i := 28) (oi := ?o3_28) (v := undef) ?hi3_28 (by kernel_rfl) (by kernel_rfl) (by kernel_rfl) (fun _ _ _ h => h) ?hy3_28 (by assumption) ?hr3_28
         case hi3_28 => (simp only [List.getElem?_toArray, List.getElem?_cons_succ, List.getElem?_cons_zero]; rfl)
         case hy3_28 => exact Or.inr ⟨by rfl, rfl⟩)
      | (refine wpAnyH_take (i := 28) (oi := ?o3_28) (v := ?v3_28) ?hi3_28 (by kernel_rfl) (by kernel_rfl) (by kernel_rfl) (fun _ _ _ h => h) ?hy3_28 (by assumption) ?hr3_28
         case hi3_28 => (simp only [List.getElem?_toArray, List.getElem?_cons_succ, List.getElem?_cons_zero]; rfl)
         case hy3_28 => (refine Or.inl ⟨by rfl, ?_⟩; intro w hSw; (try dsimp only at hSw); go_simp <;> with_reducible rfl))
      try simp only [Act.put, List.setIfInBounds_toArray, List.set_cons_zero, List.set_cons_succ]
      first
      | (refine wpAnyH_take (i := 29) (oi := ?o3_29) (v := undef) ?hi3_29 (by kernel_rfl) (by kernel_rfl) (by kernel_rfl) (fun _ _ _ h => h) ?hy3_29 (by assumption) ?hr3_29
         case hi3_29 => (simp only [List.getElem?_toArray, List.getElem?_cons_succ, List.getElem?_cons_zero]; rfl)
         case hy3_29 => exact Or.inr ⟨by rfl, rfl⟩)
      | (refine wpAnyH_take (i := 29) (oi := ?o3_29) (v := ?v3_29) ?hi3_29 (by kernel_rfl) (by kernel_rfl) (by kernel_rfl) (fun _ _ _ h => h) ?hy3_29 (by assumption) ?hr3_29
         case hi3_29 => (simp only [List.getElem?_toArray, List.getElem?_cons_succ, List.getElem?_cons_zero]; rfl)
         case hy3_29 => (refine Or.inl ⟨by rfl, ?_⟩; intro w hSw; (try dsimp only at hSw); go_simp <;> with_reducible rfl))
      try simp only [Act.put, List.setIfInBounds_toArray, List.set_cons_zero, List.set_cons_succ]
      first
      | (refine wpAnyH_take (i := 30) (oi := ?o3_30) (v := undef) ?hi3_30 (by kernel_rfl) (by kernel_rfl) (by kernel_rfl) (fun _ _ _ h => h) ?hy3_30 (by assumption) ?hr3_30
         case hi3_30 => (simp only [List.getElem?_toArray, List.getElem?_cons_succ, List.getElem?_cons_zero]; rfl)
         case hy3_30 => exact Or.inr ⟨by rfl, rfl⟩)
      | (refine wpAnyH_take (i := 30) (oi := ?o3_30) (v := ?v3_30) ?hi3_30 (by kernel_rfl) (by kernel_rfl) (by kernel_rfl) (fun _ _ _ h => h) ?hy3_30 (by assumption) ?hr3_30
         case hi3_30 => (simp only [List.getElem?_toArray, List.getElem?_cons_succ, List.getElem?_cons_zero]; rfl)
         case hy3_30 => (refine Or.inl ⟨by rfl, ?_⟩; intro w hSw; (try dsimp only at hSw); go_simp <;> with_reducible rfl))
      try simp only [Act.put, List.setIfInBounds_toArray, List.set_cons_zero, List.set_cons_succ]
      refine wpAnyH_done (by kernel_rfl) ?_ _
      refine NoPanic.normal ?_
      go_wp2_with fail
      go_ret
      exact ⟨rfl, hHeld.2⟩
    · obtain ⟨hn, hh1, hh2⟩ := HA.out h1 h2
      clear HA HN
      refine wp_region_noPanic ?_
      refine wp_region_held_drew (S := (fun w' => (w'.cell? ⟨w.heap.size, 0, none⟩ = some (.int .i64 x) ∧ w'.cell? ⟨w.heap.size, 1, none⟩ = some (.int .i64 y) ∧ w'.cell? ⟨w.heap.size + 1, 0, none⟩ = some (.int .i64 u) ∧ w'.cell? ⟨w.heap.size + 1, 1, none⟩ = some (.int .i64 v) ∧ w'.cell? ⟨w2.heap.size, 0, none⟩ = some (.int .i64 p1) ∧ w'.cell? ⟨w2.heap.size, 1, none⟩ = some (.int .i64 p2) ∧ w'.cell? ⟨w2.heap.size, 2, none⟩ = some (.int .i64 p3) ∧ w'.cell? ⟨w2.heap.size, 3, none⟩ = some (.int .i64 p4)) ∧ Below w.heap.size w w')) (by kernel_rfl) (by exact hS5) (fun hHeld => ?_)
      first
      | (refine wpAnyH_take (i := 0) (oi := ?o4_0) (v := undef) ?hi4_0 (by kernel_rfl) (by kernel_rfl) (by kernel_rfl) (fun _ _ _ h => h) ?hy4_0 (by assumption) ?hr4_0
         case hi4_0 => (simp only [List.getElem?_toArray, List.getElem?_cons_succ, List.getElem?_cons_zero]; rfl)
         case hy4_0 => exact Or.inr ⟨by rfl, rfl⟩)
      | (refine wpAnyH_take (i := 0) (oi := ?o4_0) (v := ?v4_0) ?hi4_0 (by kernel_rfl) (by kernel_rfl) (by kernel_rfl) (fun _ _ _ h => h) ?hy4_0 (by assumption) ?hr4_0
         case hi4_0 => (simp only [List.getElem?_toArray, List.getElem?_cons_succ, List.getElem?_cons_zero]; rfl)
         case hy4_0 => (refine Or.inl ⟨by rfl, ?_⟩; intro w hSw; (try dsimp only at hSw); go_simp <;> with_reducible rfl))
      try simp only [Act.put, List.setIfInBounds_toArray, List.set_cons_zero, List.set_cons_succ]
      first
      | (refine wpAnyH_take (i := 3) (oi := ?o4_3) (v := undef) ?hi4_3 (by kernel_rfl) (by kernel_rfl) (by kernel_rfl) (fun _ _ _ h => h) ?hy4_3 (by assumption) ?hr4_3
         case hi4_3 => (simp only [List.getElem?_toArray, List.getElem?_cons_succ, List.getElem?_cons_zero]; rfl)
         case hy4_3 => exact Or.inr ⟨by rfl, rfl⟩)
      | (refine wpAnyH_take (i := 3) (oi := ?o4_3) (v := ?v4_3) ?hi4_3 (by kernel_rfl) (by kernel_rfl) (by kernel_rfl) (fun _ _ _ h => h) ?hy4_3 (by assumption) ?hr4_3
         case hi4_3 => (simp only [List.getElem?_toArray, List.getElem?_cons_succ, List.getElem?_cons_zero]; rfl)
         case hy4_3 => (refine Or.inl ⟨by rfl, ?_⟩; intro w hSw; (try dsimp only at hSw); go_simp <;> with_reducible rfl))
      try simp only [Act.put, List.setIfInBounds_toArray, List.set_cons_zero, List.set_cons_succ]
      first
      | (refine wpAnyH_take (i := 1) (oi := ?o4_1) (v := undef) ?hi4_1 (by kernel_rfl) (by kernel_rfl) (by kernel_rfl) (fun _ _ _ h => h) ?hy4_1 (by assumption) ?hr4_1
         case hi4_1 => (simp only [List.getElem?_toArray, List.getElem?_cons_succ, List.getElem?_cons_zero]; rfl)
         case hy4_1 => exact Or.inr ⟨by rfl, rfl⟩)
      | (refine wpAnyH_ready (rs := [1]) (by kernel_rfl) (by simp) ?_
         refine AllReadyH.cons (o := ?o4_1) ?ho4_1 (fun K hK => ?hk4_1) AllReadyH.nil
         case ho4_1 => (simp only [List.getElem?_toArray, List.getElem?_cons_succ, List.getElem?_cons_zero]; rfl)
         go_simp
         refine (may13 p1 p2 p3 p4 _).mono ?_; rw [areaE_yes hn]; rintro e wz ⟨rfl, hb⟩
         go_wp2_with fail
         refine hK.out _ _ ?_ (fun hHeld => ?_)
         · first | exact keepOf (by assumption) hb
         clear hK K)
      try simp only [Act.put, List.setIfInBounds_toArray, List.set_cons_zero, List.set_cons_succ]
      first
      | (refine wpAnyH_take (i := 2) (oi := ?o4_2) (v := undef) ?hi4_2 (by kernel_rfl) (by kernel_rfl) (by kernel_rfl) (fun _ _ _ h => h) ?hy4_2 (by assumption) ?hr4_2
         case hi4_2 => (simp only [List.getElem?_toArray, List.getElem?_cons_succ, List.getElem?_cons_zero]; rfl)
         case hy4_2 => exact Or.inr ⟨by rfl, rfl⟩)
      | (refine wpAnyH_take (i := 2) (oi := ?o4_2) (v := ?v4_2) ?hi4_2 (by kernel_rfl) (by kernel_rfl) (by kernel_rfl) (fun _ _ _ h => h) ?hy4_2 (by assumption) ?hr4_2
         case hi4_2 => (simp only [List.getElem?_toArray, List.getElem?_cons_succ, List.getElem?_cons_zero]; rfl)
         case hy4_2 => (refine Or.inl ⟨by rfl, ?_⟩; intro w hSw; (try dsimp only at hSw); go_simp <;> with_reducible rfl))
      try simp only [Act.put, List.setIfInBounds_toArray, List.set_cons_zero, List.set_cons_succ]
      first
      | (refine wpAnyH_take (i := 4) (oi := ?o4_4) (v := undef) ?hi4_4 (by kernel_rfl) (by kernel_rfl) (by kernel_rfl) (fun _ _ _ h => h) ?hy4_4 (by assumption) ?hr4_4
         case hi4_4 => (simp only [List.getElem?_toArray, List.getElem?_cons_succ, List.getElem?_cons_zero]; rfl)
         case hy4_4 => exact Or.inr ⟨by rfl, rfl⟩)
      | (refine wpAnyH_ready (rs := [4]) (by kernel_rfl) (by simp) ?_
         refine AllReadyH.cons (o := ?o4_4) ?ho4_4 (fun K hK => ?hk4_4) AllReadyH.nil
         case ho4_4 => (simp only [List.getElem?_toArray, List.getElem?_cons_succ, List.getElem?_cons_zero]; rfl)
         go_simp
         refine (in18 x y _).mono ?_; rw [h1]; rintro e wz ⟨rfl, hb⟩
         go_wp2_with fail
         refine hK.out _ _ ?_ (fun hHeld => ?_)
         · first | exact keepOf (by assumption) hb
         clear hK K)
      try simp only [Act.put, List.setIfInBounds_toArray, List.set_cons_zero, List.set_cons_succ]
      first
      | (refine wpAnyH_take (i := 5) (oi := ?o4_5) (v := undef) ?hi4_5 (by kernel_rfl) (by kernel_rfl) (by kernel_rfl) (fun _ _ _ h => h) ?hy4_5 (by assumption) ?hr4_5
         case hi4_5 => (simp only [List.getElem?_toArray, List.getElem?_cons_succ, List.getElem?_cons_zero]; rfl)
         case hy4_5 => exact Or.inr ⟨by rfl, rfl⟩)
      | (refine wpAnyH_take (i := 5) (oi := ?o4_5) (v := ?v4_5) ?hi4_5 (by kernel_rfl) (by kernel_rfl) (by kernel_rfl) (fun _ _ _ h => h) ?hy4_5 (by assumption) ?hr4_5
         case hi4_5 => (simp only [List.getElem?_toArray, List.getElem?_cons_succ, List.getElem?_cons_zero]; rfl)
         case hy4_5 => (refine Or.inl ⟨by rfl, ?_⟩; intro w hSw; (try dsimp only at hSw); go_simp <;> with_reducible rfl))
      try simp only [Act.put, List.setIfInBounds_toArray, List.set_cons_zero, List.set_cons_succ]
      first
      | (refine wpAnyH_take (i := 6) (oi := ?o4_6) (v := undef) ?hi4_6 (by kernel_rfl) (by kernel_rfl) (by kernel_rfl) (fun _ _ _ h => h) ?hy4_6 (by assumption) ?hr4_6
         case hi4_6 => (simp only [List.getElem?_toArray, List.getElem?_cons_succ, List.getElem?_cons_zero]; rfl)
         case hy4_6 => exact Or.inr ⟨by rfl, rfl⟩)
      | (refine wpAnyH_take (i := 6) (oi := ?o4_6) (v := ?v4_6) ?hi4_6 (by kernel_rfl) (by kernel_rfl) (by kernel_rfl) (fun _ _ _ h => h) ?hy4_6 (by assumption) ?hr4_6
         case hi4_6 => (simp only [List.getElem?_toArray, List.getElem?_cons_succ, List.getElem?_cons_zero]; rfl)
         case hy4_6 => (refine Or.inl ⟨by rfl, ?_⟩; intro w hSw; (try dsimp only at hSw); go_simp <;> with_reducible rfl))
      try simp only [Act.put, List.setIfInBounds_toArray, List.set_cons_zero, List.set_cons_succ]
      first
      | (refine wpAnyH_take (i := 7) (oi := ?o4_7) (v := undef) ?hi4_7 (by kernel_rfl) (by kernel_rfl) (by kernel_rfl) (fun _ _ _ h => h) ?hy4_7 (by assumption) ?hr4_7
         case hi4_7 => (simp only [List.getElem?_toArray, List.getElem?_cons_succ, List.getElem?_cons_zero]; rfl)
         case hy4_7 => exact Or.inr ⟨by rfl, rfl⟩)
      | (refine wpAnyH_ready (rs := [7]) (by kernel_rfl) (by simp) ?_
         refine AllReadyH.cons (o := ?o4_7) ?ho4_7 (fun K hK => ?hk4_7) AllReadyH.nil
         case ho4_7 => (simp only [List.getElem?_toArray, List.getElem?_cons_succ, List.getElem?_cons_zero]; rfl)
         go_simp
         refine (in18 u v _).mono ?_; rw [h2]; rintro e wz ⟨rfl, hb⟩
         go_wp2_with fail
         refine hK.out _ _ ?_ (fun hHeld => ?_)
         · first | exact keepOf (by assumption) hb
         clear hK K)
      try simp only [Act.put, List.setIfInBounds_toArray, List.set_cons_zero, List.set_cons_succ]
      first
      | (refine wpAnyH_take (i := 8) (oi := ?o4_8) (v := undef) ?hi4_8 (by kernel_rfl) (by kernel_rfl) (by kernel_rfl) (fun _ _ _ h => h) ?hy4_8 (by assumption) ?hr4_8
         case hi4_8 => (simp only [List.getElem?_toArray, List.getElem?_cons_succ, List.getElem?_cons_zero]; rfl)
         case hy4_8 => exact Or.inr ⟨by rfl, rfl⟩)
      | (refine wpAnyH_take (i := 8) (oi := ?o4_8) (v := ?v4_8) ?hi4_8 (by kernel_rfl) (by kernel_rfl) (by kernel_rfl) (fun _ _ _ h => h) ?hy4_8 (by assumption) ?hr4_8
         case hi4_8 => (simp only [List.getElem?_toArray, List.getElem?_cons_succ, List.getElem?_cons_zero]; rfl)
         case hy4_8 => (refine Or.inl ⟨by rfl, ?_⟩; intro w hSw; (try dsimp only at hSw); go_simp <;> with_reducible rfl))
      try simp only [Act.put, List.setIfInBounds_toArray, List.set_cons_zero, List.set_cons_succ]
      first
      | (refine wpAnyH_take (i := 9) (oi := ?o4_9) (v := undef) ?hi4_9 (by kernel_rfl) (by kernel_rfl) (by kernel_rfl) (fun _ _ _ h => h) ?hy4_9 (by assumption) ?hr4_9
         case hi4_9 => (simp only [List.getElem?_toArray, List.getElem?_cons_succ, List.getElem?_cons_zero]; rfl)
         case hy4_9 => exact Or.inr ⟨by rfl, rfl⟩)
      | (refine wpAnyH_take (i := 9) (oi := ?o4_9) (v := ?v4_9) ?hi4_9 (by kernel_rfl) (by kernel_rfl) (by kernel_rfl) (fun _ _ _ h => h) ?hy4_9 (by assumption) ?hr4_9
         case hi4_9 => (simp only [List.getElem?_toArray, List.getElem?_cons_succ, List.getElem?_cons_zero]; rfl)
         case hy4_9 => (refine Or.inl ⟨by rfl, ?_⟩; intro w hSw; (try dsimp only at hSw); go_simp <;> with_reducible rfl))
      try simp only [Act.put, List.setIfInBounds_toArray, List.set_cons_zero, List.set_cons_succ]
      first
      | (refine wpAnyH_take (i := 10) (oi := ?o4_10) (v := undef) ?hi4_10 (by kernel_rfl) (by kernel_rfl) (by kernel_rfl) (fun _ _ _ h => h) ?hy4_10 (by assumption) ?hr4_10
         case hi4_10 => (simp only [List.getElem?_toArray, List.getElem?_cons_succ, List.getElem?_cons_zero]; rfl)
         case hy4_10 => exact Or.inr ⟨by rfl, rfl⟩)
      | (refine wpAnyH_take (i := 10) (oi := ?o4_10) (v := ?v4_10) ?hi4_10 (by kernel_rfl) (by kernel_rfl) (by kernel_rfl) (fun _ _ _ h => h) ?hy4_10 (by assumption) ?hr4_10
         case hi4_10 => (simp only [List.getElem?_toArray, List.getElem?_cons_succ, List.getElem?_cons_zero]; rfl)
         case hy4_10 => (refine Or.inl ⟨by rfl, ?_⟩; intro w hSw; (try dsimp only at hSw); go_simp <;> with_reducible rfl))
      try simp only [Act.put, List.setIfInBounds_toArray, List.set_cons_zero, List.set_cons_succ]
      first
      | (refine wpAnyH_take (i := 11) (oi := ?o4_11) (v := undef) ?hi4_11 (by kernel_rfl) (by kernel_rfl) (by kernel_rfl) (fun _ _ _ h => h) ?hy4_11 (by assumption) ?hr4_11
         case hi4_11 => (simp only [List.getElem?_toArray, List.getElem?_cons_succ, List.getElem?_cons_zero]; rfl)
         case hy4_11 => exact Or.inr ⟨by rfl, rfl⟩)
      | (refine wpAnyH_take (i := 11) (oi := ?o4_11) (v := ?v4_11) ?hi4_11 (by kernel_rfl) (by kernel_rfl) (by kernel_rfl) (fun _ _ _ h => h) ?hy4_11 (by assumption) ?hr4_11
         case hi4_11 => (simp only [List.getElem?_toArray, List.getElem?_cons_succ, List.getElem?_cons_zero]; rfl)
         case hy4_11 => (refine Or.inl ⟨by rfl, ?_⟩; intro w hSw; (try dsimp only at hSw); go_simp <;> with_reducible rfl))
      try simp only [Act.put, List.setIfInBounds_toArray, List.set_cons_zero, List.set_cons_succ]
      first
      | (refine wpAnyH_take (i := 12) (oi := ?o4_12) (v := undef) ?hi4_12 (by kernel_rfl) (by kernel_rfl) (by kernel_rfl) (fun _ _ _ h => h) ?hy4_12 (by assumption) ?hr4_12
         case hi4_12 => (simp only [List.getElem?_toArray, List.getElem?_cons_succ, List.getElem?_cons_zero]; rfl)
         case hy4_12 => exact Or.inr ⟨by rfl, rfl⟩)
      | (refine wpAnyH_ready (rs := [12]) (by kernel_rfl) (by simp) ?_
         refine AllReadyH.cons (o := ?o4_12) ?ho4_12 (fun K hK => ?hk4_12) AllReadyH.nil
         case ho4_12 => (simp only [List.getElem?_toArray, List.getElem?_cons_succ, List.getElem?_cons_zero]; rfl)
         go_simp
         refine (in18 x y _).mono ?_; rw [h1]; rintro e wz ⟨rfl, hb⟩
         go_wp2_with fail
         refine hK.out _ _ ?_ (fun hHeld => ?_)
         · first | exact keepOf (by assumption) hb
         clear hK K)
      try simp only [Act.put, List.setIfInBounds_toArray, List.set_cons_zero, List.set_cons_succ]
      first
      | (refine wpAnyH_take (i := 13) (oi := ?o4_13) (v := undef) ?hi4_13 (by kernel_rfl) (by kernel_rfl) (by kernel_rfl) (fun _ _ _ h => h) ?hy4_13 (by assumption) ?hr4_13
         case hi4_13 => (simp only [List.getElem?_toArray, List.getElem?_cons_succ, List.getElem?_cons_zero]; rfl)
         case hy4_13 => exact Or.inr ⟨by rfl, rfl⟩)
      | (refine wpAnyH_take (i := 13) (oi := ?o4_13) (v := ?v4_13) ?hi4_13 (by kernel_rfl) (by kernel_rfl) (by kernel_rfl) (fun _ _ _ h => h) ?hy4_13 (by assumption) ?hr4_13
         case hi4_13 => (simp only [List.getElem?_toArray, List.getElem?_cons_succ, List.getElem?_cons_zero]; rfl)
         case hy4_13 => (refine Or.inl ⟨by rfl, ?_⟩; intro w hSw; (try dsimp only at hSw); go_simp <;> with_reducible rfl))
      try simp only [Act.put, List.setIfInBounds_toArray, List.set_cons_zero, List.set_cons_succ]
      first
      | (refine wpAnyH_take (i := 14) (oi := ?o4_14) (v := undef) ?hi4_14 (by kernel_rfl) (by kernel_rfl) (by kernel_rfl) (fun _ _ _ h => h) ?hy4_14 (by assumption) ?hr4_14
         case hi4_14 => (simp only [List.getElem?_toArray, List.getElem?_cons_succ, List.getElem?_cons_zero]; rfl)
         case hy4_14 => exact Or.inr ⟨by rfl, rfl⟩)
      | (refine wpAnyH_take (i := 14) (oi := ?o4_14) (v := ?v4_14) ?hi4_14 (by kernel_rfl) (by kernel_rfl) (by kernel_rfl) (fun _ _ _ h => h) ?hy4_14 (by assumption) ?hr4_14
         case hi4_14 => (simp only [List.getElem?_toArray, List.getElem?_cons_succ, List.getElem?_cons_zero]; rfl)
         case hy4_14 => (refine Or.inl ⟨by rfl, ?_⟩; intro w hSw; (try dsimp only at hSw); go_simp <;> with_reducible rfl))
      try simp only [Act.put, List.setIfInBounds_toArray, List.set_cons_zero, List.set_cons_succ]
      first
      | (refine wpAnyH_take (i := 15) (oi := ?o4_15) (v := undef) ?hi4_15 (by kernel_rfl) (by kernel_rfl) (by kernel_rfl) (fun _ _ _ h => h) ?hy4_15 (by assumption) ?hr4_15
         case hi4_15 => (simp only [List.getElem?_toArray, List.getElem?_cons_succ, List.getElem?_cons_zero]; rfl)
         case hy4_15 => exact Or.inr ⟨by rfl, rfl⟩)
      | (refine wpAnyH_take (i := 15) (oi := ?o4_15) (v := ?v4_15) ?hi4_15 (by kernel_rfl) (by kernel_rfl) (by kernel_rfl) (fun _ _ _ h => h) ?hy4_15 (by assumption) ?hr4_15
         case hi4_15 => (simp only [List.getElem?_toArray, List.getElem?_cons_succ, List.getElem?_cons_zero]; rfl)
         case hy4_15 => (refine Or.inl ⟨by rfl, ?_⟩; intro w hSw; (try dsimp only at hSw); go_simp <;> with_reducible rfl))
      try simp only [Act.put, List.setIfInBounds_toArray, List.set_cons_zero, List.set_cons_succ]
      first
      | (refine wpAnyH_take (i := 16) (oi := ?o4_16) (v := undef) ?hi4_16 (by kernel_rfl) (by kernel_rfl) (by kernel_rfl) (fun _ _ _ h => h) ?hy4_16 (by assumption) ?hr4_16
         case hi4_16 => (simp only [List.getElem?_toArray, List.getElem?_cons_succ, List.getElem?_cons_zero]; rfl)
         case hy4_16 => exact Or.inr ⟨by rfl, rfl⟩)
      | (refine wpAnyH_ready (rs := [16]) (by kernel_rfl) (by simp) ?_
         refine AllReadyH.cons (o := ?o4_16) ?ho4_16 (fun K hK => ?hk4_16) AllReadyH.nil
         case ho4_16 => (simp only [List.getElem?_toArray, List.getElem?_cons_succ, List.getElem?_cons_zero]; rfl)
         go_simp
         refine (in18 u v _).mono ?_; rw [h2]; rintro e wz ⟨rfl, hb⟩
         go_wp2_with fail
         refine hK.out _ _ ?_ (fun hHeld => ?_)
         · first | exact keepOf (by assumption) hb
         clear hK K)
      try simp only [Act.put, List.setIfInBounds_toArray, List.set_cons_zero, List.set_cons_succ]
      first
      | (refine wpAnyH_take (i := 17) (oi := ?o4_17) (v := undef) ?hi4_17 (by kernel_rfl) (by kernel_rfl) (by kernel_rfl) (fun _ _ _ h => h) ?hy4_17 (by assumption) ?hr4_17
         case hi4_17 => (simp only [List.getElem?_toArray, List.getElem?_cons_succ, List.getElem?_cons_zero]; rfl)
         case hy4_17 => exact Or.inr ⟨by rfl, rfl⟩)
      | (refine wpAnyH_take (i := 17) (oi := ?o4_17) (v := ?v4_17) ?hi4_17 (by kernel_rfl) (by kernel_rfl) (by kernel_rfl) (fun _ _ _ h => h) ?hy4_17 (by assumption) ?hr4_17
         case hi4_17 => (simp only [List.getElem?_toArray, List.getElem?_cons_succ, List.getElem?_cons_zero]; rfl)
         case hy4_17 => (refine Or.inl ⟨by rfl, ?_⟩; intro w hSw; (try dsimp only at hSw); go_simp <;> with_reducible rfl))
      try simp only [Act.put, List.setIfInBounds_toArray, List.set_cons_zero, List.set_cons_succ]
      first
      | (refine wpAnyH_take (i := 18) (oi := ?o4_18) (v := undef) ?hi4_18 (by kernel_rfl) (by kernel_rfl) (by kernel_rfl) (fun _ _ _ h => h) ?hy4_18 (by assumption) ?hr4_18
         case hi4_18 => (simp only [List.getElem?_toArray, List.getElem?_cons_succ, List.getElem?_cons_zero]; rfl)
         case hy4_18 => exact Or.inr ⟨by rfl, rfl⟩)
      | (refine wpAnyH_take (i := 18) (oi := ?o4_18) (v := ?v4_18) ?hi4_18 (by kernel_rfl) (by kernel_rfl) (by kernel_rfl) (fun _ _ _ h => h) ?hy4_18 (by assumption) ?hr4_18
         case hi4_18 => (simp only [List.getElem?_toArray, List.getElem?_cons_succ, List.getElem?_cons_zero]; rfl)
         case hy4_18 => (refine Or.inl ⟨by rfl, ?_⟩; intro w hSw; (try dsimp only at hSw); go_simp <;> with_reducible rfl))
      try simp only [Act.put, List.setIfInBounds_toArray, List.set_cons_zero, List.set_cons_succ]
      first
      | (refine wpAnyH_take (i := 19) (oi := ?o4_19) (v := undef) ?hi4_19 (by kernel_rfl) (by kernel_rfl) (by kernel_rfl) (fun _ _ _ h => h) ?hy4_19 (by assumption) ?hr4_19
         case hi4_19 => (simp only [List.getElem?_toArray, List.getElem?_cons_succ, List.getElem?_cons_zero]; rfl)
         case hy4_19 => exact Or.inr ⟨by rfl, rfl⟩)
      | (refine wpAnyH_take (i := 19) (oi := ?o4_19) (v := ?v4_19) ?hi4_19 (by kernel_rfl) (by kernel_rfl) (by kernel_rfl) (fun _ _ _ h => h) ?hy4_19 (by assumption) ?hr4_19
         case hi4_19 => (simp only [List.getElem?_toArray, List.getElem?_cons_succ, List.getElem?_cons_zero]; rfl)
         case hy4_19 => (refine Or.inl ⟨by rfl, ?_⟩; intro w hSw; (try dsimp only at hSw); go_simp <;> with_reducible rfl))
      try simp only [Act.put, List.setIfInBounds_toArray, List.set_cons_zero, List.set_cons_succ]
      first
      | (refine wpAnyH_take (i := 20) (oi := ?o4_20) (v := undef) ?hi4_20 (by kernel_rfl) (by kernel_rfl) (by kernel_rfl) (fun _ _ _ h => h) ?hy4_20 (by assumption) ?hr4_20
         case hi4_20 => (simp only [List.getElem?_toArray, List.getElem?_cons_succ, List.getElem?_cons_zero]; rfl)
         case hy4_20 => exact Or.inr ⟨by rfl, rfl⟩)
      | (refine wpAnyH_take (i := 20) (oi := ?o4_20) (v := ?v4_20) ?hi4_20 (by kernel_rfl) (by kernel_rfl) (by kernel_rfl) (fun _ _ _ h => h) ?hy4_20 (by assumption) ?hr4_20
         case hi4_20 => (simp only [List.getElem?_toArray, List.getElem?_cons_succ, List.getElem?_cons_zero]; rfl)
         case hy4_20 => (refine Or.inl ⟨by rfl, ?_⟩; intro w hSw; (try dsimp only at hSw); go_simp <;> with_reducible rfl))
      try simp only [Act.put, List.setIfInBounds_toArray, List.set_cons_zero, List.set_cons_succ]
      first
      | (refine wpAnyH_take (i := 21) (oi := ?o4_21) (v := undef) ?hi4_21 (by kernel_rfl) (by kernel_rfl) (by kernel_rfl) (fun _ _ _ h => h) ?hy4_21 (by assumption) ?hr4_21
         case hi4_21 => (simp only [List.getElem?_toArray, List.getElem?_cons_succ, List.getElem?_cons_zero]; rfl)
         case hy4_21 => exact Or.inr ⟨by rfl, rfl⟩)
      | (refine wpAnyH_take (i := 21) (oi := ?o4_21) (v := ?v4_21) ?hi4_21 (by kernel_rfl) (by kernel_rfl) (by kernel_rfl) (fun _ _ _ h => h) ?hy4_21 (by assumption) ?hr4_21
         case hi4_21 => (simp only [List.getElem?_toArray, List.getElem?_cons_succ, List.getElem?_cons_zero]; rfl)
         case hy4_21 => (refine Or.inl ⟨by rfl, ?_⟩; intro w hSw; (try dsimp only at hSw); go_simp <;> with_reducible rfl))
      try simp only [Act.put, List.setIfInBounds_toArray, List.set_cons_zero, List.set_cons_succ]
      first
      | (refine wpAnyH_take (i := 22) (oi := ?o4_22) (v := undef) ?hi4_22 (by kernel_rfl) (by kernel_rfl) (by kernel_rfl) (fun _ _ _ h => h) ?hy4_22 (by assumption) ?hr4_22
         case hi4_22 => (simp only [List.getElem?_toArray, List.getElem?_cons_succ, List.getElem?_cons_zero]; rfl)
         case hy4_22 => exact Or.inr ⟨by rfl, rfl⟩)
      | (refine wpAnyH_ready (rs := [22]) (by kernel_rfl) (by simp) ?_
         refine AllReadyH.cons (o := ?o4_22) ?ho4_22 (fun K hK => ?hk4_22) AllReadyH.nil
         case ho4_22 => (simp only [List.getElem?_toArray, List.getElem?_cons_succ, List.getElem?_cons_zero]; rfl)
         go_simp
         refine (has15 p1 p2 p3 p4 x y _).mono ?_; rw [hh1]; rintro e wz ⟨rfl, hb⟩
         go_wp2_with fail
         refine hK.out _ _ ?_ (fun hHeld => ?_)
         · first | exact keepOf (by assumption) hb
         clear hK K)
      try simp only [Act.put, List.setIfInBounds_toArray, List.set_cons_zero, List.set_cons_succ]
      first
      | (refine wpAnyH_take (i := 23) (oi := ?o4_23) (v := undef) ?hi4_23 (by kernel_rfl) (by kernel_rfl) (by kernel_rfl) (fun _ _ _ h => h) ?hy4_23 (by assumption) ?hr4_23
         case hi4_23 => (simp only [List.getElem?_toArray, List.getElem?_cons_succ, List.getElem?_cons_zero]; rfl)
         case hy4_23 => exact Or.inr ⟨by rfl, rfl⟩)
      | (refine wpAnyH_take (i := 23) (oi := ?o4_23) (v := ?v4_23) ?hi4_23 (by kernel_rfl) (by kernel_rfl) (by kernel_rfl) (fun _ _ _ h => h) ?hy4_23 (by assumption) ?hr4_23
         case hi4_23 => (simp only [List.getElem?_toArray, List.getElem?_cons_succ, List.getElem?_cons_zero]; rfl)
         case hy4_23 => (refine Or.inl ⟨by rfl, ?_⟩; intro w hSw; (try dsimp only at hSw); go_simp <;> with_reducible rfl))
      try simp only [Act.put, List.setIfInBounds_toArray, List.set_cons_zero, List.set_cons_succ]
      first
      | (refine wpAnyH_take (i := 24) (oi := ?o4_24) (v := undef) ?hi4_24 (by kernel_rfl) (by kernel_rfl) (by kernel_rfl) (fun _ _ _ h => h) ?hy4_24 (by assumption) ?hr4_24
         case hi4_24 => (simp only [List.getElem?_toArray, List.getElem?_cons_succ, List.getElem?_cons_zero]; rfl)
         case hy4_24 => exact Or.inr ⟨by rfl, rfl⟩)
      | (refine wpAnyH_take (i := 24) (oi := ?o4_24) (v := ?v4_24) ?hi4_24 (by kernel_rfl) (by kernel_rfl) (by kernel_rfl) (fun _ _ _ h => h) ?hy4_24 (by assumption) ?hr4_24
         case hi4_24 => (simp only [List.getElem?_toArray, List.getElem?_cons_succ, List.getElem?_cons_zero]; rfl)
         case hy4_24 => (refine Or.inl ⟨by rfl, ?_⟩; intro w hSw; (try dsimp only at hSw); go_simp <;> with_reducible rfl))
      try simp only [Act.put, List.setIfInBounds_toArray, List.set_cons_zero, List.set_cons_succ]
      first
      | (refine wpAnyH_take (i := 25) (oi := ?o4_25) (v := undef) ?hi4_25 (by kernel_rfl) (by kernel_rfl) (by kernel_rfl) (fun _ _ _ h => h) ?hy4_25 (by assumption) ?hr4_25
         case hi4_25 => (simp only [List.getElem?_toArray, List.getElem?_cons_succ, List.getElem?_cons_zero]; rfl)
         case hy4_25 => exact Or.inr ⟨by rfl, rfl⟩)
      | (refine wpAnyH_take (i := 25) (oi := ?o4_25) (v := ?v4_25) ?hi4_25 (by kernel_rfl) (by kernel_rfl) (by kernel_rfl) (fun _ _ _ h => h) ?hy4_25 (by assumption) ?hr4_25
         case hi4_25 => (simp only [List.getElem?_toArray, List.getElem?_cons_succ, List.getElem?_cons_zero]; rfl)
         case hy4_25 => (refine Or.inl ⟨by rfl, ?_⟩; intro w hSw; (try dsimp only at hSw); go_simp <;> with_reducible rfl))
      try simp only [Act.put, List.setIfInBounds_toArray, List.set_cons_zero, List.set_cons_succ]
      first
      | (refine wpAnyH_take (i := 26) (oi := ?o4_26) (v := undef) ?hi4_26 (by kernel_rfl) (by kernel_rfl) (by kernel_rfl) (fun _ _ _ h => h) ?hy4_26 (by assumption) ?hr4_26
         case hi4_26 => (simp only [List.getElem?_toArray, List.getElem?_cons_succ, List.getElem?_cons_zero]; rfl)
         case hy4_26 => exact Or.inr ⟨by rfl, rfl⟩)
      | (refine wpAnyH_ready (rs := [26]) (by kernel_rfl) (by simp) ?_
         refine AllReadyH.cons (o := ?o4_26) ?ho4_26 (fun K hK => ?hk4_26) AllReadyH.nil
         case ho4_26 => (simp only [List.getElem?_toArray, List.getElem?_cons_succ, List.getElem?_cons_zero]; rfl)
         go_simp
         refine (has15 p1 p2 p3 p4 u v _).mono ?_; rw [hh2]; rintro e wz ⟨rfl, hb⟩
         go_wp2_with fail
         refine hK.out _ _ ?_ (fun hHeld => ?_)
         · first | exact keepOf (by assumption) hb
         clear hK K)
      try simp only [Act.put, List.setIfInBounds_toArray, List.set_cons_zero, List.set_cons_succ]
      first
      | (refine wpAnyH_take (i := 27) (oi := ?o4_27) (v := undef) ?hi4_27 (by kernel_rfl) (by kernel_rfl) (by kernel_rfl) (fun _ _ _ h => h) ?hy4_27 (by assumption) ?hr4_27
         case hi4_27 => (simp only [List.getElem?_toArray, List.getElem?_cons_succ, List.getElem?_cons_zero]; rfl)
         case hy4_27 => exact Or.inr ⟨by rfl, rfl⟩)
      | (refine wpAnyH_take (i := 27) (oi := ?o4_27) (v := ?v4_27) ?hi4_27 (by kernel_rfl) (by kernel_rfl) (by kernel_rfl) (fun _ _ _ h => h) ?hy4_27 (by assumption) ?hr4_27
         case hi4_27 => (simp only [List.getElem?_toArray, List.getElem?_cons_succ, List.getElem?_cons_zero]; rfl)
         case hy4_27 => (refine Or.inl ⟨by rfl, ?_⟩; intro w hSw; (try dsimp only at hSw); go_simp <;> with_reducible rfl))
      try simp only [Act.put, List.setIfInBounds_toArray, List.set_cons_zero, List.set_cons_succ]
      first
      | (refine wpAnyH_take (i := 28) (oi := ?o4_28) (v := undef) ?hi4_28 (by kernel_rfl) (by kernel_rfl) (by kernel_rfl) (fun _ _ _ h => h) ?hy4_28 (by assumption) ?hr4_28
         case hi4_28 => (simp only [List.getElem?_toArray, List.getElem?_cons_succ, List.getElem?_cons_zero]; rfl)
         case hy4_28 => exact Or.inr ⟨by rfl, rfl⟩)
      | (refine wpAnyH_take (i := 28) (oi := ?o4_28) (v := ?v4_28) ?hi4_28 (by kernel_rfl) (by kernel_rfl) (by kernel_rfl) (fun _ _ _ h => h) ?hy4_28 (by assumption) ?hr4_28
         case hi4_28 => (simp only [List.getElem?_toArray, List.getElem?_cons_succ, List.getElem?_cons_zero]; rfl)
         case hy4_28 => (refine Or.inl ⟨by rfl, ?_⟩; intro w hSw; (try dsimp only at hSw); go_simp <;> with_reducible rfl))
      try simp only [Act.put, List.setIfInBounds_toArray, List.set_cons_zero, List.set_cons_succ]
      first
      | (refine wpAnyH_take (i := 29) (oi := ?o4_29) (v := undef) ?hi4_29 (by kernel_rfl) (by kernel_rfl) (by kernel_rfl) (fun _ _ _ h => h) ?hy4_29 (by assumption) ?hr4_29
         case hi4_29 => (simp only [List.getElem?_toArray, List.getElem?_cons_succ, List.getElem?_cons_zero]; rfl)
         case hy4_29 => exact Or.inr ⟨by rfl, rfl⟩)
      | (refine wpAnyH_take (i := 29) (oi := ?o4_29) (v := ?v4_29) ?hi4_29 (by kernel_rfl) (by kernel_rfl) (by kernel_rfl) (fun _ _ _ h => h) ?hy4_29 (by assumption) ?hr4_29
         case hi4_29 => (simp only [List.getElem?_toArray, List.getElem?_cons_succ, List.getElem?_cons_zero]; rfl)
         case hy4_29 => (refine Or.inl ⟨by rfl, ?_⟩; intro w hSw; (try dsimp only at hSw); go_simp <;> with_reducible rfl))
      try simp only [Act.put, List.setIfInBounds_toArray, List.set_cons_zero, List.set_cons_succ]
      first
      | (refine wpAnyH_take (i := 30) (oi := ?o4_30) (v := undef) ?hi4_30 (by kernel_rfl) (by kernel_rfl) (by kernel_rfl) (fun _ _ _ h => h) ?hy4_30 (by assumption) ?hr4_30
         case hi4_30 => (simp only [List.getElem?_toArray, List.getElem?_cons_succ, List.getElem?_cons_zero]; rfl)
         case hy4_30 => exact Or.inr ⟨by rfl, rfl⟩)
      | (refine wpAnyH_take (i := 30) (oi := ?o4_30) (v := ?v4_30) ?hi4_30 (by kernel_rfl) (by kernel_rfl) (by kernel_rfl) (fun _ _ _ h => h) ?hy4_30 (by assumption) ?hr4_30
         case hi4_30 => (simp only [List.getElem?_toArray, List.getElem?_cons_succ, List.getElem?_cons_zero]; rfl)
         case hy4_30 => (refine Or.inl ⟨by rfl, ?_⟩; intro w hSw; (try dsimp only at hSw); go_simp <;> with_reducible rfl))
      try simp only [Act.put, List.setIfInBounds_toArray, List.set_cons_zero, List.set_cons_succ]
      refine wpAnyH_done (by kernel_rfl) ?_ _
      refine NoPanic.normal ?_
      go_wp2_with fail
      go_ret
      exact ⟨rfl, hHeld.2⟩
end Go.Proofs.Ythcogckkeegokaa
