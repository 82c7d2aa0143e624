/- plays: each call of the program answers as the document's. -/
import Derived.Deep.RegionHeld3
import Derived.Deep.DeepMust
import Derived.Test.YthcogckkeegokaaBegun
namespace Go.Proofs.Ythcogckkeegokaa
set_option linter.unusedVariables false
set_option linter.unusedSimpArgs false
open Go.RowKit Go.Shelf

theorem keepOp {w wa wb : World} {p0 p1 p2 p3 p4 p5 p6 p7 p8 p9 p10 p11 p12 p13 p14 : Addr} {v0 v1 v2 v3 v4 v5 v6 v7 v8 v9 v10 v11 v12 v13 v14 : Value}
    (h : (wa.cell? p0 = some v0 ∧ wa.cell? p1 = some v1 ∧ wa.cell? p2 = some v2 ∧ wa.cell? p3 = some v3 ∧ wa.cell? p4 = some v4 ∧ wa.cell? p5 = some v5 ∧ wa.cell? p6 = some v6 ∧ wa.cell? p7 = some v7 ∧ wa.cell? p8 = some v8 ∧ wa.cell? p9 = some v9 ∧ wa.cell? p10 = some v10 ∧ wa.cell? p11 = some v11 ∧ wa.cell? p12 = some v12 ∧ wa.cell? p13 = some v13 ∧ wa.cell? p14 = some v14) ∧ Below w.heap.size w wa) (hb : Below wa.heap.size wa wb) :
    (wb.cell? p0 = some v0 ∧ wb.cell? p1 = some v1 ∧ wb.cell? p2 = some v2 ∧ wb.cell? p3 = some v3 ∧ wb.cell? p4 = some v4 ∧ wb.cell? p5 = some v5 ∧ wb.cell? p6 = some v6 ∧ wb.cell? p7 = some v7 ∧ wb.cell? p8 = some v8 ∧ wb.cell? p9 = some v9 ∧ wb.cell? p10 = some v10 ∧ wb.cell? p11 = some v11 ∧ wb.cell? p12 = some v12 ∧ wb.cell? p13 = some v13 ∧ wb.cell? p14 = some v14) ∧ Below w.heap.size w wb := by
  obtain ⟨⟨h0, h1, h2, h3, h4, h5, h6, h7, h8, h9, h10, h11, h12, h13, h14⟩, hz⟩ := h
  exact ⟨⟨cell_below h0 hb, cell_below h1 hb, cell_below h2 hb, cell_below h3 hb, cell_below h4 hb, cell_below h5 hb, cell_below h6 hb, cell_below h7 hb, cell_below h8 hb, cell_below h9 hb, cell_below h10 hb, cell_below h11 hb, cell_below h12 hb, cell_below h13 hb, cell_below h14 hb⟩, hz.trans (hb.mono hz.size)⟩
theorem cells15 {w : World} {g : Nat} {v0 v1 v2 v3 v4 v5 v6 v7 v8 v9 v10 v11 v12 v13 v14 : Value} {t : TypeId} {f : Nat × Nat} (h : w.heap[g]? = some (.cells #[v0, v1, v2, v3, v4, v5, v6, v7, v8, v9, v10, v11, v12, v13, v14] t f)) :
    w.cell? ⟨g, 0, none⟩ = some v0 ∧ w.cell? ⟨g, 1, none⟩ = some v1 ∧ w.cell? ⟨g, 2, none⟩ = some v2 ∧ w.cell? ⟨g, 3, none⟩ = some v3 ∧ w.cell? ⟨g, 4, none⟩ = some v4 ∧ w.cell? ⟨g, 5, none⟩ = some v5 ∧ w.cell? ⟨g, 6, none⟩ = some v6 ∧ w.cell? ⟨g, 7, none⟩ = some v7 ∧ w.cell? ⟨g, 8, none⟩ = some v8 ∧ w.cell? ⟨g, 9, none⟩ = some v9 ∧ w.cell? ⟨g, 10, none⟩ = some v10 ∧ w.cell? ⟨g, 11, none⟩ = some v11 ∧ w.cell? ⟨g, 12, none⟩ = some v12 ∧ w.cell? ⟨g, 13, none⟩ = some v13 ∧ w.cell? ⟨g, 14, none⟩ = some v14 := by
  refine ⟨?_, ?_, ?_, ?_, ?_, ?_, ?_, ?_, ?_, ?_, ?_, ?_, ?_, ?_, ?_⟩ <;> (rw [cell_of_row w _ _ _ _ _ h]; rfl)

set_option maxRecDepth 100000 in
set_option maxHeartbeats 1000000 in
theorem plays16 (k t l b r t' l' b' r' x y u v dr dc : Int) (w : World) :
    Calls Try.prog 16 #[.agg #[.int .i64 k, .int .i64 t, .int .i64 l, .int .i64 b, .int .i64 r, .int .i64 t', .int .i64 l', .int .i64 b', .int .i64 r', .int .i64 x, .int .i64 y, .int .i64 u, .int .i64 v, .int .i64 dr, .int .i64 dc]] w
      fun e w' => e = .returned (.bool true) ∧ Below w.heap.size w w' := by
  have hrow := heap_alloc_new w (.cells #[.int .i64 k, .int .i64 t, .int .i64 l, .int .i64 b, .int .i64 r, .int .i64 t', .int .i64 l', .int .i64 b', .int .i64 r', .int .i64 x, .int .i64 y, .int .i64 u, .int .i64 v, .int .i64 dr, .int .i64 dc] 45)
  obtain ⟨c0, c1, c2, c3, c4, c5, c6, c7, c8, c9, c10, c11, c12, c13, c14⟩ := cells15 hrow
  clear hrow
  have hB := (Below.refl w.heap.size w).alloc (Nat.le_refl _) (.cells #[.int .i64 k, .int .i64 t, .int .i64 l, .int .i64 b, .int .i64 r, .int .i64 t', .int .i64 l', .int .i64 b', .int .i64 r', .int .i64 x, .int .i64 y, .int .i64 u, .int .i64 v, .int .i64 dr, .int .i64 dc] 45)
  go_enter Try.func16, Try.ntmps16
  go_wp2_with fail
  · obtain ⟨W0, hW0⟩ : ∃ W0, w.alloc (.cells #[.int .i64 k, .int .i64 t, .int .i64 l, .int .i64 b, .int .i64 r, .int .i64 t', .int .i64 l', .int .i64 b', .int .i64 r', .int .i64 x, .int .i64 y, .int .i64 u, .int .i64 v, .int .i64 dr, .int .i64 dc] 45) = W0 := ⟨_, rfl⟩
    rw [hW0] at c0 c1 c2 c3 c4 c5 c6 c7 c8 c9 c10 c11 c12 c13 c14 hB ⊢
    clear hW0
    have hS : (W0.drew.cell? ⟨w.heap.size, 0, none⟩ = some (.int .i64 k) ∧ W0.drew.cell? ⟨w.heap.size, 1, none⟩ = some (.int .i64 t) ∧ W0.drew.cell? ⟨w.heap.size, 2, none⟩ = some (.int .i64 l) ∧ W0.drew.cell? ⟨w.heap.size, 3, none⟩ = some (.int .i64 b) ∧ W0.drew.cell? ⟨w.heap.size, 4, none⟩ = some (.int .i64 r) ∧ W0.drew.cell? ⟨w.heap.size, 5, none⟩ = some (.int .i64 t') ∧ W0.drew.cell? ⟨w.heap.size, 6, none⟩ = some (.int .i64 l') ∧ W0.drew.cell? ⟨w.heap.size, 7, none⟩ = some (.int .i64 b') ∧ W0.drew.cell? ⟨w.heap.size, 8, none⟩ = some (.int .i64 r') ∧ W0.drew.cell? ⟨w.heap.size, 9, none⟩ = some (.int .i64 x) ∧ W0.drew.cell? ⟨w.heap.size, 10, none⟩ = some (.int .i64 y) ∧ W0.drew.cell? ⟨w.heap.size, 11, none⟩ = some (.int .i64 u) ∧ W0.drew.cell? ⟨w.heap.size, 12, none⟩ = some (.int .i64 v) ∧ W0.drew.cell? ⟨w.heap.size, 13, none⟩ = some (.int .i64 dr) ∧ W0.drew.cell? ⟨w.heap.size, 14, none⟩ = some (.int .i64 dc)) ∧ Below w.heap.size w W0.drew := ⟨⟨c0, c1, c2, c3, c4, c5, c6, c7, c8, c9, c10, c11, c12, c13, c14⟩, hB.drew⟩
    clear c0 c1 c2 c3 c4 c5 c6 c7 c8 c9 c10 c11 c12 c13 c14 hB
    refine wp_region_noPanic ?_
    refine wp_region_held_drew (S := (fun w' => (w'.cell? ⟨w.heap.size, 0, none⟩ = some (.int .i64 k) ∧ w'.cell? ⟨w.heap.size, 1, none⟩ = some (.int .i64 t) ∧ w'.cell? ⟨w.heap.size, 2, none⟩ = some (.int .i64 l) ∧ w'.cell? ⟨w.heap.size, 3, none⟩ = some (.int .i64 b) ∧ w'.cell? ⟨w.heap.size, 4, none⟩ = some (.int .i64 r) ∧ w'.cell? ⟨w.heap.size, 5, none⟩ = some (.int .i64 t') ∧ w'.cell? ⟨w.heap.size, 6, none⟩ = some (.int .i64 l') ∧ w'.cell? ⟨w.heap.size, 7, none⟩ = some (.int .i64 b') ∧ w'.cell? ⟨w.heap.size, 8, none⟩ = some (.int .i64 r') ∧ w'.cell? ⟨w.heap.size, 9, none⟩ = some (.int .i64 x) ∧ w'.cell? ⟨w.heap.size, 10, none⟩ = some (.int .i64 y) ∧ w'.cell? ⟨w.heap.size, 11, none⟩ = some (.int .i64 u) ∧ w'.cell? ⟨w.heap.size, 12, none⟩ = some (.int .i64 v) ∧ w'.cell? ⟨w.heap.size, 13, none⟩ = some (.int .i64 dr) ∧ w'.cell? ⟨w.heap.size, 14, none⟩ = some (.int .i64 dc)) ∧ Below w.heap.size w w')) (by kernel_rfl) (by exact hS) (fun hHeld => ?_)
    first
    | (refine wpAnyH_take (i := 0) (oi := ?o1_0) (v := undef) ?hi1_0 (by kernel_rfl) (by kernel_rfl) (by kernel_rfl) (fun _ _ _ h => h) ?hy1_0 (by assumption) ?hr1_0
       case hi1_0 => (simp only [List.getElem?_toArray, List.getElem?_cons_succ, List.getElem?_cons_zero]; rfl)
       case hy1_0 => exact Or.inr ⟨by rfl, rfl⟩)
    | (refine wpAnyH_take (i := 0) (oi := ?o1_0) (v := ?v1_0) ?hi1_0 (by kernel_rfl) (by kernel_rfl) (by kernel_rfl) (fun _ _ _ h => h) ?hy1_0 (by assumption) ?hr1_0
       case hi1_0 => (simp only [List.getElem?_toArray, List.getElem?_cons_succ, List.getElem?_cons_zero]; rfl)
       case hy1_0 => (refine Or.inl ⟨by rfl, ?_⟩; intro w hSw; (try dsimp only at hSw); go_simp <;> with_reducible rfl))
    try simp only [Act.put, List.setIfInBounds_toArray, List.set_cons_zero, List.set_cons_succ]
    first
    | (refine wpAnyH_take (i := 1) (oi := ?o1_1) (v := undef) ?hi1_1 (by kernel_rfl) (by kernel_rfl) (by kernel_rfl) (fun _ _ _ h => h) ?hy1_1 (by assumption) ?hr1_1
       case hi1_1 => (simp only [List.getElem?_toArray, List.getElem?_cons_succ, List.getElem?_cons_zero]; rfl)
       case hy1_1 => exact Or.inr ⟨by rfl, rfl⟩)
    | (refine wpAnyH_take (i := 1) (oi := ?o1_1) (v := ?v1_1) ?hi1_1 (by kernel_rfl) (by kernel_rfl) (by kernel_rfl) (fun _ _ _ h => h) ?hy1_1 (by assumption) ?hr1_1
       case hi1_1 => (simp only [List.getElem?_toArray, List.getElem?_cons_succ, List.getElem?_cons_zero]; rfl)
       case hy1_1 => (refine Or.inl ⟨by rfl, ?_⟩; intro w hSw; (try dsimp only at hSw); go_simp <;> with_reducible rfl))
    try simp only [Act.put, List.setIfInBounds_toArray, List.set_cons_zero, List.set_cons_succ]
    first
    | (refine wpAnyH_take (i := 3) (oi := ?o1_3) (v := undef) ?hi1_3 (by kernel_rfl) (by kernel_rfl) (by kernel_rfl) (fun _ _ _ h => h) ?hy1_3 (by assumption) ?hr1_3
       case hi1_3 => (simp only [List.getElem?_toArray, List.getElem?_cons_succ, List.getElem?_cons_zero]; rfl)
       case hy1_3 => exact Or.inr ⟨by rfl, rfl⟩)
    | (refine wpAnyH_take (i := 3) (oi := ?o1_3) (v := ?v1_3) ?hi1_3 (by kernel_rfl) (by kernel_rfl) (by kernel_rfl) (fun _ _ _ h => h) ?hy1_3 (by assumption) ?hr1_3
       case hi1_3 => (simp only [List.getElem?_toArray, List.getElem?_cons_succ, List.getElem?_cons_zero]; rfl)
       case hy1_3 => (refine Or.inl ⟨by rfl, ?_⟩; intro w hSw; (try dsimp only at hSw); go_simp <;> with_reducible rfl))
    try simp only [Act.put, List.setIfInBounds_toArray, List.set_cons_zero, List.set_cons_succ]
    first
    | (refine wpAnyH_take (i := 4) (oi := ?o1_4) (v := undef) ?hi1_4 (by kernel_rfl) (by kernel_rfl) (by kernel_rfl) (fun _ _ _ h => h) ?hy1_4 (by assumption) ?hr1_4
       case hi1_4 => (simp only [List.getElem?_toArray, List.getElem?_cons_succ, List.getElem?_cons_zero]; rfl)
       case hy1_4 => exact Or.inr ⟨by rfl, rfl⟩)
    | (refine wpAnyH_take (i := 4) (oi := ?o1_4) (v := ?v1_4) ?hi1_4 (by kernel_rfl) (by kernel_rfl) (by kernel_rfl) (fun _ _ _ h => h) ?hy1_4 (by assumption) ?hr1_4
       case hi1_4 => (simp only [List.getElem?_toArray, List.getElem?_cons_succ, List.getElem?_cons_zero]; rfl)
       case hy1_4 => (refine Or.inl ⟨by rfl, ?_⟩; intro w hSw; (try dsimp only at hSw); go_simp <;> with_reducible rfl))
    try simp only [Act.put, List.setIfInBounds_toArray, List.set_cons_zero, List.set_cons_succ]
    first
    | (refine wpAnyH_take (i := 2) (oi := ?o1_2) (v := undef) ?hi1_2 (by kernel_rfl) (by kernel_rfl) (by kernel_rfl) (fun _ _ _ h => h) ?hy1_2 (by assumption) ?hr1_2
       case hi1_2 => (simp only [List.getElem?_toArray, List.getElem?_cons_succ, List.getElem?_cons_zero]; rfl)
       case hy1_2 => exact Or.inr ⟨by rfl, rfl⟩)
    | (refine wpAnyH_ready (rs := [2]) (by kernel_rfl) (by simp) ?_
       refine AllReadyH.cons (o := ?o1_2) ?ho1_2 (fun K hK => ?hk1_2) AllReadyH.nil
       case ho1_2 => (simp only [List.getElem?_toArray, List.getElem?_cons_succ, List.getElem?_cons_zero]; rfl)
       go_simp
       refine (may13 t l b r _).mono ?_; rintro e wz ⟨rfl, hb⟩
       go_wp2_with fail
       refine hK.out _ _ ?_ (fun hHeld => ?_)
       · first | exact keepOp (by assumption) hb
       clear hK K)
    try simp only [Act.put, List.setIfInBounds_toArray, List.set_cons_zero, List.set_cons_succ]
    first
    | (refine wpAnyH_take (i := 5) (oi := ?o1_5) (v := undef) ?hi1_5 (by kernel_rfl) (by kernel_rfl) (by kernel_rfl) (fun _ _ _ h => h) ?hy1_5 (by assumption) ?hr1_5
       case hi1_5 => (simp only [List.getElem?_toArray, List.getElem?_cons_succ, List.getElem?_cons_zero]; rfl)
       case hy1_5 => exact Or.inr ⟨by rfl, rfl⟩)
    | (refine wpAnyH_ready (rs := [5]) (by kernel_rfl) (by simp) ?_
       refine AllReadyH.cons (o := ?o1_5) ?ho1_5 (fun K hK => ?hk1_5) AllReadyH.nil
       case ho1_5 => (simp only [List.getElem?_toArray, List.getElem?_cons_succ, List.getElem?_cons_zero]; rfl)
       go_simp
       refine (may21 t l b r _).mono ?_; rintro e wz ⟨rfl, hb⟩
       go_wp2_with fail
       refine hK.out _ _ ?_ (fun hHeld => ?_)
       · first | exact keepOp (by assumption) hb
       clear hK K)
    try simp only [Act.put, List.setIfInBounds_toArray, List.set_cons_zero, List.set_cons_succ]
    first
    | (refine wpAnyH_take (i := 6) (oi := ?o1_6) (v := undef) ?hi1_6 (by kernel_rfl) (by kernel_rfl) (by kernel_rfl) (fun _ _ _ h => h) ?hy1_6 (by assumption) ?hr1_6
       case hi1_6 => (simp only [List.getElem?_toArray, List.getElem?_cons_succ, List.getElem?_cons_zero]; rfl)
       case hy1_6 => exact Or.inr ⟨by rfl, rfl⟩)
    | (refine wpAnyH_take (i := 6) (oi := ?o1_6) (v := ?v1_6) ?hi1_6 (by kernel_rfl) (by kernel_rfl) (by kernel_rfl) (fun _ _ _ h => h) ?hy1_6 (by assumption) ?hr1_6
       case hi1_6 => (simp only [List.getElem?_toArray, List.getElem?_cons_succ, List.getElem?_cons_zero]; rfl)
       case hy1_6 => (refine Or.inl ⟨by rfl, ?_⟩; intro w hSw; (try dsimp only at hSw); go_simp <;> with_reducible rfl))
    try simp only [Act.put, List.setIfInBounds_toArray, List.set_cons_zero, List.set_cons_succ]
    first
    | (refine wpAnyH_take (i := 7) (oi := ?o1_7) (v := undef) ?hi1_7 (by kernel_rfl) (by kernel_rfl) (by kernel_rfl) (fun _ _ _ h => h) ?hy1_7 (by assumption) ?hr1_7
       case hi1_7 => (simp only [List.getElem?_toArray, List.getElem?_cons_succ, List.getElem?_cons_zero]; rfl)
       case hy1_7 => exact Or.inr ⟨by rfl, rfl⟩)
    | (refine wpAnyH_take (i := 7) (oi := ?o1_7) (v := ?v1_7) ?hi1_7 (by kernel_rfl) (by kernel_rfl) (by kernel_rfl) (fun _ _ _ h => h) ?hy1_7 (by assumption) ?hr1_7
       case hi1_7 => (simp only [List.getElem?_toArray, List.getElem?_cons_succ, List.getElem?_cons_zero]; rfl)
       case hy1_7 => (refine Or.inl ⟨by rfl, ?_⟩; intro w hSw; (try dsimp only at hSw); go_simp <;> with_reducible rfl))
    try simp only [Act.put, List.setIfInBounds_toArray, List.set_cons_zero, List.set_cons_succ]
    refine wpAnyH_done (by kernel_rfl) ?_ _
    refine NoPanic.normal ?_
    clear hS
    go_wp2_with fail
    go_ret
    exact ⟨by simp, hHeld.2⟩
  · obtain ⟨W0, hW0⟩ : ∃ W0, w.alloc (.cells #[.int .i64 k, .int .i64 t, .int .i64 l, .int .i64 b, .int .i64 r, .int .i64 t', .int .i64 l', .int .i64 b', .int .i64 r', .int .i64 x, .int .i64 y, .int .i64 u, .int .i64 v, .int .i64 dr, .int .i64 dc] 45) = W0 := ⟨_, rfl⟩
    rw [hW0] at c0 c1 c2 c3 c4 c5 c6 c7 c8 c9 c10 c11 c12 c13 c14 hB ⊢
    clear hW0
    have HB := Lib.hid hB
    clear hB
    refine (size19 t l b r _).mono ?_
    rintro e w1 ⟨rfl, hb1⟩
    replace c0 := cell_below c0 hb1
    replace c1 := cell_below c1 hb1
    replace c2 := cell_below c2 hb1
    replace c3 := cell_below c3 hb1
    replace c4 := cell_below c4 hb1
    replace c5 := cell_below c5 hb1
    replace c6 := cell_below c6 hb1
    replace c7 := cell_below c7 hb1
    replace c8 := cell_below c8 hb1
    replace c9 := cell_below c9 hb1
    replace c10 := cell_below c10 hb1
    replace c11 := cell_below c11 hb1
    replace c12 := cell_below c12 hb1
    replace c13 := cell_below c13 hb1
    replace c14 := cell_below c14 hb1
    replace HB := Lib.hid (HB.out.trans (hb1.mono HB.out.size))
    clear hb1
    go_wp2_with fail
    refine (size25 t l b r _).mono ?_
    rintro e w2 ⟨rfl, hb2⟩
    replace c0 := cell_below c0 hb2
    replace c1 := cell_below c1 hb2
    replace c2 := cell_below c2 hb2
    replace c3 := cell_below c3 hb2
    replace c4 := cell_below c4 hb2
    replace c5 := cell_below c5 hb2
    replace c6 := cell_below c6 hb2
    replace c7 := cell_below c7 hb2
    replace c8 := cell_below c8 hb2
    replace c9 := cell_below c9 hb2
    replace c10 := cell_below c10 hb2
    replace c11 := cell_below c11 hb2
    replace c12 := cell_below c12 hb2
    replace c13 := cell_below c13 hb2
    replace c14 := cell_below c14 hb2
    replace HB := Lib.hid (HB.out.trans (hb2.mono HB.out.size))
    clear hb2
    go_wp2_with fail
    all_goals go_ret
    all_goals exact ⟨by simp, HB.out⟩
  · obtain ⟨W0, hW0⟩ : ∃ W0, w.alloc (.cells #[.int .i64 k, .int .i64 t, .int .i64 l, .int .i64 b, .int .i64 r, .int .i64 t', .int .i64 l', .int .i64 b', .int .i64 r', .int .i64 x, .int .i64 y, .int .i64 u, .int .i64 v, .int .i64 dr, .int .i64 dc] 45) = W0 := ⟨_, rfl⟩
    rw [hW0] at c0 c1 c2 c3 c4 c5 c6 c7 c8 c9 c10 c11 c12 c13 c14 hB ⊢
    clear hW0
    have hS : (W0.drew.cell? ⟨w.heap.size, 0, none⟩ = some (.int .i64 k) ∧ W0.drew.cell? ⟨w.heap.size, 1, none⟩ = some (.int .i64 t) ∧ W0.drew.cell? ⟨w.heap.size, 2, none⟩ = some (.int .i64 l) ∧ W0.drew.cell? ⟨w.heap.size, 3, none⟩ = some (.int .i64 b) ∧ W0.drew.cell? ⟨w.heap.size, 4, none⟩ = some (.int .i64 r) ∧ W0.drew.cell? ⟨w.heap.size, 5, none⟩ = some (.int .i64 t') ∧ W0.drew.cell? ⟨w.heap.size, 6, none⟩ = some (.int .i64 l') ∧ W0.drew.cell? ⟨w.heap.size, 7, none⟩ = some (.int .i64 b') ∧ W0.drew.cell? ⟨w.heap.size, 8, none⟩ = some (.int .i64 r') ∧ W0.drew.cell? ⟨w.heap.size, 9, none⟩ = some (.int .i64 x) ∧ W0.drew.cell? ⟨w.heap.size, 10, none⟩ = some (.int .i64 y) ∧ W0.drew.cell? ⟨w.heap.size, 11, none⟩ = some (.int .i64 u) ∧ W0.drew.cell? ⟨w.heap.size, 12, none⟩ = some (.int .i64 v) ∧ W0.drew.cell? ⟨w.heap.size, 13, none⟩ = some (.int .i64 dr) ∧ W0.drew.cell? ⟨w.heap.size, 14, none⟩ = some (.int .i64 dc)) ∧ Below w.heap.size w W0.drew := ⟨⟨c0, c1, c2, c3, c4, c5, c6, c7, c8, c9, c10, c11, c12, c13, c14⟩, hB.drew⟩
    clear c0 c1 c2 c3 c4 c5 c6 c7 c8 c9 c10 c11 c12 c13 c14 hB
    refine wp_region_noPanic ?_
    refine wp_region_held_drew (S := (fun w' => (w'.cell? ⟨w.heap.size, 0, none⟩ = some (.int .i64 k) ∧ w'.cell? ⟨w.heap.size, 1, none⟩ = some (.int .i64 t) ∧ w'.cell? ⟨w.heap.size, 2, none⟩ = some (.int .i64 l) ∧ w'.cell? ⟨w.heap.size, 3, none⟩ = some (.int .i64 b) ∧ w'.cell? ⟨w.heap.size, 4, none⟩ = some (.int .i64 r) ∧ w'.cell? ⟨w.heap.size, 5, none⟩ = some (.int .i64 t') ∧ w'.cell? ⟨w.heap.size, 6, none⟩ = some (.int .i64 l') ∧ w'.cell? ⟨w.heap.size, 7, none⟩ = some (.int .i64 b') ∧ w'.cell? ⟨w.heap.size, 8, none⟩ = some (.int .i64 r') ∧ w'.cell? ⟨w.heap.size, 9, none⟩ = some (.int .i64 x) ∧ w'.cell? ⟨w.heap.size, 10, none⟩ = some (.int .i64 y) ∧ w'.cell? ⟨w.heap.size, 11, none⟩ = some (.int .i64 u) ∧ w'.cell? ⟨w.heap.size, 12, none⟩ = some (.int .i64 v) ∧ w'.cell? ⟨w.heap.size, 13, none⟩ = some (.int .i64 dr) ∧ w'.cell? ⟨w.heap.size, 14, none⟩ = some (.int .i64 dc)) ∧ Below w.heap.size w w')) (by kernel_rfl) (by exact hS) (fun hHeld => ?_)
    first
    | (refine wpAnyH_take (i := 0) (oi := ?o2_0) (v := undef) ?hi2_0 (by kernel_rfl) (by kernel_rfl) (by kernel_rfl) (fun _ _ _ h => h) ?hy2_0 (by assumption) ?hr2_0
       case hi2_0 => (simp only [List.getElem?_toArray, List.getElem?_cons_succ, List.getElem?_cons_zero]; rfl)
       case hy2_0 => exact Or.inr ⟨by rfl, rfl⟩)
    | (refine wpAnyH_take (i := 0) (oi := ?o2_0) (v := ?v2_0) ?hi2_0 (by kernel_rfl) (by kernel_rfl) (by kernel_rfl) (fun _ _ _ h => h) ?hy2_0 (by assumption) ?hr2_0
       case hi2_0 => (simp only [List.getElem?_toArray, List.getElem?_cons_succ, List.getElem?_cons_zero]; rfl)
       case hy2_0 => (refine Or.inl ⟨by rfl, ?_⟩; intro w hSw; (try dsimp only at hSw); go_simp <;> with_reducible rfl))
    try simp only [Act.put, List.setIfInBounds_toArray, List.set_cons_zero, List.set_cons_succ]
    first
    | (refine wpAnyH_take (i := 1) (oi := ?o2_1) (v := undef) ?hi2_1 (by kernel_rfl) (by kernel_rfl) (by kernel_rfl) (fun _ _ _ h => h) ?hy2_1 (by assumption) ?hr2_1
       case hi2_1 => (simp only [List.getElem?_toArray, List.getElem?_cons_succ, List.getElem?_cons_zero]; rfl)
       case hy2_1 => exact Or.inr ⟨by rfl, rfl⟩)
    | (refine wpAnyH_take (i := 1) (oi := ?o2_1) (v := ?v2_1) ?hi2_1 (by kernel_rfl) (by kernel_rfl) (by kernel_rfl) (fun _ _ _ h => h) ?hy2_1 (by assumption) ?hr2_1
       case hi2_1 => (simp only [List.getElem?_toArray, List.getElem?_cons_succ, List.getElem?_cons_zero]; rfl)
       case hy2_1 => (refine Or.inl ⟨by rfl, ?_⟩; intro w hSw; (try dsimp only at hSw); go_simp <;> with_reducible rfl))
    try simp only [Act.put, List.setIfInBounds_toArray, List.set_cons_zero, List.set_cons_succ]
    first
    | (refine wpAnyH_take (i := 2) (oi := ?o2_2) (v := undef) ?hi2_2 (by kernel_rfl) (by kernel_rfl) (by kernel_rfl) (fun _ _ _ h => h) ?hy2_2 (by assumption) ?hr2_2
       case hi2_2 => (simp only [List.getElem?_toArray, List.getElem?_cons_succ, List.getElem?_cons_zero]; rfl)
       case hy2_2 => exact Or.inr ⟨by rfl, rfl⟩)
    | (refine wpAnyH_take (i := 2) (oi := ?o2_2) (v := ?v2_2) ?hi2_2 (by kernel_rfl) (by kernel_rfl) (by kernel_rfl) (fun _ _ _ h => h) ?hy2_2 (by assumption) ?hr2_2
       case hi2_2 => (simp only [List.getElem?_toArray, List.getElem?_cons_succ, List.getElem?_cons_zero]; rfl)
       case hy2_2 => (refine Or.inl ⟨by rfl, ?_⟩; intro w hSw; (try dsimp only at hSw); go_simp <;> with_reducible rfl))
    try simp only [Act.put, List.setIfInBounds_toArray, List.set_cons_zero, List.set_cons_succ]
    first
    | (refine wpAnyH_take (i := 3) (oi := ?o2_3) (v := undef) ?hi2_3 (by kernel_rfl) (by kernel_rfl) (by kernel_rfl) (fun _ _ _ h => h) ?hy2_3 (by assumption) ?hr2_3
       case hi2_3 => (simp only [List.getElem?_toArray, List.getElem?_cons_succ, List.getElem?_cons_zero]; rfl)
       case hy2_3 => exact Or.inr ⟨by rfl, rfl⟩)
    | (refine wpAnyH_take (i := 3) (oi := ?o2_3) (v := ?v2_3) ?hi2_3 (by kernel_rfl) (by kernel_rfl) (by kernel_rfl) (fun _ _ _ h => h) ?hy2_3 (by assumption) ?hr2_3
       case hi2_3 => (simp only [List.getElem?_toArray, List.getElem?_cons_succ, List.getElem?_cons_zero]; rfl)
       case hy2_3 => (refine Or.inl ⟨by rfl, ?_⟩; intro w hSw; (try dsimp only at hSw); go_simp <;> with_reducible rfl))
    try simp only [Act.put, List.setIfInBounds_toArray, List.set_cons_zero, List.set_cons_succ]
    first
    | (refine wpAnyH_take (i := 5) (oi := ?o2_5) (v := undef) ?hi2_5 (by kernel_rfl) (by kernel_rfl) (by kernel_rfl) (fun _ _ _ h => h) ?hy2_5 (by assumption) ?hr2_5
       case hi2_5 => (simp only [List.getElem?_toArray, List.getElem?_cons_succ, List.getElem?_cons_zero]; rfl)
       case hy2_5 => exact Or.inr ⟨by rfl, rfl⟩)
    | (refine wpAnyH_take (i := 5) (oi := ?o2_5) (v := ?v2_5) ?hi2_5 (by kernel_rfl) (by kernel_rfl) (by kernel_rfl) (fun _ _ _ h => h) ?hy2_5 (by assumption) ?hr2_5
       case hi2_5 => (simp only [List.getElem?_toArray, List.getElem?_cons_succ, List.getElem?_cons_zero]; rfl)
       case hy2_5 => (refine Or.inl ⟨by rfl, ?_⟩; intro w hSw; (try dsimp only at hSw); go_simp <;> with_reducible rfl))
    try simp only [Act.put, List.setIfInBounds_toArray, List.set_cons_zero, List.set_cons_succ]
    first
    | (refine wpAnyH_take (i := 6) (oi := ?o2_6) (v := undef) ?hi2_6 (by kernel_rfl) (by kernel_rfl) (by kernel_rfl) (fun _ _ _ h => h) ?hy2_6 (by assumption) ?hr2_6
       case hi2_6 => (simp only [List.getElem?_toArray, List.getElem?_cons_succ, List.getElem?_cons_zero]; rfl)
       case hy2_6 => exact Or.inr ⟨by rfl, rfl⟩)
    | (refine wpAnyH_take (i := 6) (oi := ?o2_6) (v := ?v2_6) ?hi2_6 (by kernel_rfl) (by kernel_rfl) (by kernel_rfl) (fun _ _ _ h => h) ?hy2_6 (by assumption) ?hr2_6
       case hi2_6 => (simp only [List.getElem?_toArray, List.getElem?_cons_succ, List.getElem?_cons_zero]; rfl)
       case hy2_6 => (refine Or.inl ⟨by rfl, ?_⟩; intro w hSw; (try dsimp only at hSw); go_simp <;> with_reducible rfl))
    try simp only [Act.put, List.setIfInBounds_toArray, List.set_cons_zero, List.set_cons_succ]
    first
    | (refine wpAnyH_take (i := 7) (oi := ?o2_7) (v := undef) ?hi2_7 (by kernel_rfl) (by kernel_rfl) (by kernel_rfl) (fun _ _ _ h => h) ?hy2_7 (by assumption) ?hr2_7
       case hi2_7 => (simp only [List.getElem?_toArray, List.getElem?_cons_succ, List.getElem?_cons_zero]; rfl)
       case hy2_7 => exact Or.inr ⟨by rfl, rfl⟩)
    | (refine wpAnyH_take (i := 7) (oi := ?o2_7) (v := ?v2_7) ?hi2_7 (by kernel_rfl) (by kernel_rfl) (by kernel_rfl) (fun _ _ _ h => h) ?hy2_7 (by assumption) ?hr2_7
       case hi2_7 => (simp only [List.getElem?_toArray, List.getElem?_cons_succ, List.getElem?_cons_zero]; rfl)
       case hy2_7 => (refine Or.inl ⟨by rfl, ?_⟩; intro w hSw; (try dsimp only at hSw); go_simp <;> with_reducible rfl))
    try simp only [Act.put, List.setIfInBounds_toArray, List.set_cons_zero, List.set_cons_succ]
    first
    | (refine wpAnyH_take (i := 8) (oi := ?o2_8) (v := undef) ?hi2_8 (by kernel_rfl) (by kernel_rfl) (by kernel_rfl) (fun _ _ _ h => h) ?hy2_8 (by assumption) ?hr2_8
       case hi2_8 => (simp only [List.getElem?_toArray, List.getElem?_cons_succ, List.getElem?_cons_zero]; rfl)
       case hy2_8 => exact Or.inr ⟨by rfl, rfl⟩)
    | (refine wpAnyH_take (i := 8) (oi := ?o2_8) (v := ?v2_8) ?hi2_8 (by kernel_rfl) (by kernel_rfl) (by kernel_rfl) (fun _ _ _ h => h) ?hy2_8 (by assumption) ?hr2_8
       case hi2_8 => (simp only [List.getElem?_toArray, List.getElem?_cons_succ, List.getElem?_cons_zero]; rfl)
       case hy2_8 => (refine Or.inl ⟨by rfl, ?_⟩; intro w hSw; (try dsimp only at hSw); go_simp <;> with_reducible rfl))
    try simp only [Act.put, List.setIfInBounds_toArray, List.set_cons_zero, List.set_cons_succ]
    first
    | (refine wpAnyH_take (i := 4) (oi := ?o2_4) (v := undef) ?hi2_4 (by kernel_rfl) (by kernel_rfl) (by kernel_rfl) (fun _ _ _ h => h) ?hy2_4 (by assumption) ?hr2_4
       case hi2_4 => (simp only [List.getElem?_toArray, List.getElem?_cons_succ, List.getElem?_cons_zero]; rfl)
       case hy2_4 => exact Or.inr ⟨by rfl, rfl⟩)
    | (refine wpAnyH_ready (rs := [4]) (by kernel_rfl) (by simp) ?_
       refine AllReadyH.cons (o := ?o2_4) ?ho2_4 (fun K hK => ?hk2_4) AllReadyH.nil
       case ho2_4 => (simp only [List.getElem?_toArray, List.getElem?_cons_succ, List.getElem?_cons_zero]; rfl)
       go_simp
       refine (has15 t l b r x y _).mono ?_; rintro e wz ⟨rfl, hb⟩
       go_wp2_with fail
       refine hK.out _ _ ?_ (fun hHeld => ?_)
       · first | exact keepOp (by assumption) hb
       clear hK K)
    try simp only [Act.put, List.setIfInBounds_toArray, List.set_cons_zero, List.set_cons_succ]
    first
    | (refine wpAnyH_take (i := 9) (oi := ?o2_9) (v := undef) ?hi2_9 (by kernel_rfl) (by kernel_rfl) (by kernel_rfl) (fun _ _ _ h => h) ?hy2_9 (by assumption) ?hr2_9
       case hi2_9 => (simp only [List.getElem?_toArray, List.getElem?_cons_succ, List.getElem?_cons_zero]; rfl)
       case hy2_9 => exact Or.inr ⟨by rfl, rfl⟩)
    | (refine wpAnyH_ready (rs := [9]) (by kernel_rfl) (by simp) ?_
       refine AllReadyH.cons (o := ?o2_9) ?ho2_9 (fun K hK => ?hk2_9) AllReadyH.nil
       case ho2_9 => (simp only [List.getElem?_toArray, List.getElem?_cons_succ, List.getElem?_cons_zero]; rfl)
       go_simp
       refine (has26 t l b r x y _).mono ?_; rintro e wz ⟨rfl, hb⟩
       go_wp2_with fail
       refine hK.out _ _ ?_ (fun hHeld => ?_)
       · first | exact keepOp (by assumption) hb
       clear hK K)
    try simp only [Act.put, List.setIfInBounds_toArray, List.set_cons_zero, List.set_cons_succ]
    first
    | (refine wpAnyH_take (i := 10) (oi := ?o2_10) (v := undef) ?hi2_10 (by kernel_rfl) (by kernel_rfl) (by kernel_rfl) (fun _ _ _ h => h) ?hy2_10 (by assumption) ?hr2_10
       case hi2_10 => (simp only [List.getElem?_toArray, List.getElem?_cons_succ, List.getElem?_cons_zero]; rfl)
       case hy2_10 => exact Or.inr ⟨by rfl, rfl⟩)
    | (refine wpAnyH_take (i := 10) (oi := ?o2_10) (v := ?v2_10) ?hi2_10 (by kernel_rfl) (by kernel_rfl) (by kernel_rfl) (fun _ _ _ h => h) ?hy2_10 (by assumption) ?hr2_10
       case hi2_10 => (simp only [List.getElem?_toArray, List.getElem?_cons_succ, List.getElem?_cons_zero]; rfl)
       case hy2_10 => (refine Or.inl ⟨by rfl, ?_⟩; intro w hSw; (try dsimp only at hSw); go_simp <;> with_reducible rfl))
    try simp only [Act.put, List.setIfInBounds_toArray, List.set_cons_zero, List.set_cons_succ]
    first
    | (refine wpAnyH_take (i := 11) (oi := ?o2_11) (v := undef) ?hi2_11 (by kernel_rfl) (by kernel_rfl) (by kernel_rfl) (fun _ _ _ h => h) ?hy2_11 (by assumption) ?hr2_11
       case hi2_11 => (simp only [List.getElem?_toArray, List.getElem?_cons_succ, List.getElem?_cons_zero]; rfl)
       case hy2_11 => exact Or.inr ⟨by rfl, rfl⟩)
    | (refine wpAnyH_take (i := 11) (oi := ?o2_11) (v := ?v2_11) ?hi2_11 (by kernel_rfl) (by kernel_rfl) (by kernel_rfl) (fun _ _ _ h => h) ?hy2_11 (by assumption) ?hr2_11
       case hi2_11 => (simp only [List.getElem?_toArray, List.getElem?_cons_succ, List.getElem?_cons_zero]; rfl)
       case hy2_11 => (refine Or.inl ⟨by rfl, ?_⟩; intro w hSw; (try dsimp only at hSw); go_simp <;> with_reducible rfl))
    try simp only [Act.put, List.setIfInBounds_toArray, List.set_cons_zero, List.set_cons_succ]
    refine wpAnyH_done (by kernel_rfl) ?_ _
    refine NoPanic.normal ?_
    clear hS
    go_wp2_with fail
    go_ret
    exact ⟨by simp, hHeld.2⟩
  · obtain ⟨W0, hW0⟩ : ∃ W0, w.alloc (.cells #[.int .i64 k, .int .i64 t, .int .i64 l, .int .i64 b, .int .i64 r, .int .i64 t', .int .i64 l', .int .i64 b', .int .i64 r', .int .i64 x, .int .i64 y, .int .i64 u, .int .i64 v, .int .i64 dr, .int .i64 dc] 45) = W0 := ⟨_, rfl⟩
    rw [hW0] at c0 c1 c2 c3 c4 c5 c6 c7 c8 c9 c10 c11 c12 c13 c14 hB ⊢
    clear hW0
    have hS : (W0.drew.cell? ⟨w.heap.size, 0, none⟩ = some (.int .i64 k) ∧ W0.drew.cell? ⟨w.heap.size, 1, none⟩ = some (.int .i64 t) ∧ W0.drew.cell? ⟨w.heap.size, 2, none⟩ = some (.int .i64 l) ∧ W0.drew.cell? ⟨w.heap.size, 3, none⟩ = some (.int .i64 b) ∧ W0.drew.cell? ⟨w.heap.size, 4, none⟩ = some (.int .i64 r) ∧ W0.drew.cell? ⟨w.heap.size, 5, none⟩ = some (.int .i64 t') ∧ W0.drew.cell? ⟨w.heap.size, 6, none⟩ = some (.int .i64 l') ∧ W0.drew.cell? ⟨w.heap.size, 7, none⟩ = some (.int .i64 b') ∧ W0.drew.cell? ⟨w.heap.size, 8, none⟩ = some (.int .i64 r') ∧ W0.drew.cell? ⟨w.heap.size, 9, none⟩ = some (.int .i64 x) ∧ W0.drew.cell? ⟨w.heap.size, 10, none⟩ = some (.int .i64 y) ∧ W0.drew.cell? ⟨w.heap.size, 11, none⟩ = some (.int .i64 u) ∧ W0.drew.cell? ⟨w.heap.size, 12, none⟩ = some (.int .i64 v) ∧ W0.drew.cell? ⟨w.heap.size, 13, none⟩ = some (.int .i64 dr) ∧ W0.drew.cell? ⟨w.heap.size, 14, none⟩ = some (.int .i64 dc)) ∧ Below w.heap.size w W0.drew := ⟨⟨c0, c1, c2, c3, c4, c5, c6, c7, c8, c9, c10, c11, c12, c13, c14⟩, hB.drew⟩
    clear c0 c1 c2 c3 c4 c5 c6 c7 c8 c9 c10 c11 c12 c13 c14 hB
    refine wp_region_noPanic ?_
    refine wp_region_held_drew (S := (fun w' => (w'.cell? ⟨w.heap.size, 0, none⟩ = some (.int .i64 k) ∧ w'.cell? ⟨w.heap.size, 1, none⟩ = some (.int .i64 t) ∧ w'.cell? ⟨w.heap.size, 2, none⟩ = some (.int .i64 l) ∧ w'.cell? ⟨w.heap.size, 3, none⟩ = some (.int .i64 b) ∧ w'.cell? ⟨w.heap.size, 4, none⟩ = some (.int .i64 r) ∧ w'.cell? ⟨w.heap.size, 5, none⟩ = some (.int .i64 t') ∧ w'.cell? ⟨w.heap.size, 6, none⟩ = some (.int .i64 l') ∧ w'.cell? ⟨w.heap.size, 7, none⟩ = some (.int .i64 b') ∧ w'.cell? ⟨w.heap.size, 8, none⟩ = some (.int .i64 r') ∧ w'.cell? ⟨w.heap.size, 9, none⟩ = some (.int .i64 x) ∧ w'.cell? ⟨w.heap.size, 10, none⟩ = some (.int .i64 y) ∧ w'.cell? ⟨w.heap.size, 11, none⟩ = some (.int .i64 u) ∧ w'.cell? ⟨w.heap.size, 12, none⟩ = some (.int .i64 v) ∧ w'.cell? ⟨w.heap.size, 13, none⟩ = some (.int .i64 dr) ∧ w'.cell? ⟨w.heap.size, 14, none⟩ = some (.int .i64 dc)) ∧ Below w.heap.size w w')) (by kernel_rfl) (by exact hS) (fun hHeld => ?_)
    first
    | (refine wpAnyH_take (i := 0) (oi := ?o3_0) (v := undef) ?hi3_0 (by kernel_rfl) (by kernel_rfl) (by kernel_rfl) (fun _ _ _ h => h) ?hy3_0 (by assumption) ?hr3_0
       case hi3_0 => (simp only [List.getElem?_toArray, List.getElem?_cons_succ, List.getElem?_cons_zero]; rfl)
       case hy3_0 => exact Or.inr ⟨by rfl, rfl⟩)
    | (refine wpAnyH_take (i := 0) (oi := ?o3_0) (v := ?v3_0) ?hi3_0 (by kernel_rfl) (by kernel_rfl) (by kernel_rfl) (fun _ _ _ h => h) ?hy3_0 (by assumption) ?hr3_0
       case hi3_0 => (simp only [List.getElem?_toArray, List.getElem?_cons_succ, List.getElem?_cons_zero]; rfl)
       case hy3_0 => (refine Or.inl ⟨by rfl, ?_⟩; intro w hSw; (try dsimp only at hSw); go_simp <;> with_reducible rfl))
    try simp only [Act.put, List.setIfInBounds_toArray, List.set_cons_zero, List.set_cons_succ]
    first
    | (refine wpAnyH_take (i := 1) (oi := ?o3_1) (v := undef) ?hi3_1 (by kernel_rfl) (by kernel_rfl) (by kernel_rfl) (fun _ _ _ h => h) ?hy3_1 (by assumption) ?hr3_1
       case hi3_1 => (simp only [List.getElem?_toArray, List.getElem?_cons_succ, List.getElem?_cons_zero]; rfl)
       case hy3_1 => exact Or.inr ⟨by rfl, rfl⟩)
    | (refine wpAnyH_take (i := 1) (oi := ?o3_1) (v := ?v3_1) ?hi3_1 (by kernel_rfl) (by kernel_rfl) (by kernel_rfl) (fun _ _ _ h => h) ?hy3_1 (by assumption) ?hr3_1
       case hi3_1 => (simp only [List.getElem?_toArray, List.getElem?_cons_succ, List.getElem?_cons_zero]; rfl)
       case hy3_1 => (refine Or.inl ⟨by rfl, ?_⟩; intro w hSw; (try dsimp only at hSw); go_simp <;> with_reducible rfl))
    try simp only [Act.put, List.setIfInBounds_toArray, List.set_cons_zero, List.set_cons_succ]
    first
    | (refine wpAnyH_take (i := 2) (oi := ?o3_2) (v := undef) ?hi3_2 (by kernel_rfl) (by kernel_rfl) (by kernel_rfl) (fun _ _ _ h => h) ?hy3_2 (by assumption) ?hr3_2
       case hi3_2 => (simp only [List.getElem?_toArray, List.getElem?_cons_succ, List.getElem?_cons_zero]; rfl)
       case hy3_2 => exact Or.inr ⟨by rfl, rfl⟩)
    | (refine wpAnyH_take (i := 2) (oi := ?o3_2) (v := ?v3_2) ?hi3_2 (by kernel_rfl) (by kernel_rfl) (by kernel_rfl) (fun _ _ _ h => h) ?hy3_2 (by assumption) ?hr3_2
       case hi3_2 => (simp only [List.getElem?_toArray, List.getElem?_cons_succ, List.getElem?_cons_zero]; rfl)
       case hy3_2 => (refine Or.inl ⟨by rfl, ?_⟩; intro w hSw; (try dsimp only at hSw); go_simp <;> with_reducible rfl))
    try simp only [Act.put, List.setIfInBounds_toArray, List.set_cons_zero, List.set_cons_succ]
    first
    | (refine wpAnyH_take (i := 3) (oi := ?o3_3) (v := undef) ?hi3_3 (by kernel_rfl) (by kernel_rfl) (by kernel_rfl) (fun _ _ _ h => h) ?hy3_3 (by assumption) ?hr3_3
       case hi3_3 => (simp only [List.getElem?_toArray, List.getElem?_cons_succ, List.getElem?_cons_zero]; rfl)
       case hy3_3 => exact Or.inr ⟨by rfl, rfl⟩)
    | (refine wpAnyH_take (i := 3) (oi := ?o3_3) (v := ?v3_3) ?hi3_3 (by kernel_rfl) (by kernel_rfl) (by kernel_rfl) (fun _ _ _ h => h) ?hy3_3 (by assumption) ?hr3_3
       case hi3_3 => (simp only [List.getElem?_toArray, List.getElem?_cons_succ, List.getElem?_cons_zero]; rfl)
       case hy3_3 => (refine Or.inl ⟨by rfl, ?_⟩; intro w hSw; (try dsimp only at hSw); go_simp <;> with_reducible rfl))
    try simp only [Act.put, List.setIfInBounds_toArray, List.set_cons_zero, List.set_cons_succ]
    first
    | (refine wpAnyH_take (i := 5) (oi := ?o3_5) (v := undef) ?hi3_5 (by kernel_rfl) (by kernel_rfl) (by kernel_rfl) (fun _ _ _ h => h) ?hy3_5 (by assumption) ?hr3_5
       case hi3_5 => (simp only [List.getElem?_toArray, List.getElem?_cons_succ, List.getElem?_cons_zero]; rfl)
       case hy3_5 => exact Or.inr ⟨by rfl, rfl⟩)
    | (refine wpAnyH_take (i := 5) (oi := ?o3_5) (v := ?v3_5) ?hi3_5 (by kernel_rfl) (by kernel_rfl) (by kernel_rfl) (fun _ _ _ h => h) ?hy3_5 (by assumption) ?hr3_5
       case hi3_5 => (simp only [List.getElem?_toArray, List.getElem?_cons_succ, List.getElem?_cons_zero]; rfl)
       case hy3_5 => (refine Or.inl ⟨by rfl, ?_⟩; intro w hSw; (try dsimp only at hSw); go_simp <;> with_reducible rfl))
    try simp only [Act.put, List.setIfInBounds_toArray, List.set_cons_zero, List.set_cons_succ]
    first
    | (refine wpAnyH_take (i := 6) (oi := ?o3_6) (v := undef) ?hi3_6 (by kernel_rfl) (by kernel_rfl) (by kernel_rfl) (fun _ _ _ h => h) ?hy3_6 (by assumption) ?hr3_6
       case hi3_6 => (simp only [List.getElem?_toArray, List.getElem?_cons_succ, List.getElem?_cons_zero]; rfl)
       case hy3_6 => exact Or.inr ⟨by rfl, rfl⟩)
    | (refine wpAnyH_take (i := 6) (oi := ?o3_6) (v := ?v3_6) ?hi3_6 (by kernel_rfl) (by kernel_rfl) (by kernel_rfl) (fun _ _ _ h => h) ?hy3_6 (by assumption) ?hr3_6
       case hi3_6 => (simp only [List.getElem?_toArray, List.getElem?_cons_succ, List.getElem?_cons_zero]; rfl)
       case hy3_6 => (refine Or.inl ⟨by rfl, ?_⟩; intro w hSw; (try dsimp only at hSw); go_simp <;> with_reducible rfl))
    try simp only [Act.put, List.setIfInBounds_toArray, List.set_cons_zero, List.set_cons_succ]
    first
    | (refine wpAnyH_take (i := 7) (oi := ?o3_7) (v := undef) ?hi3_7 (by kernel_rfl) (by kernel_rfl) (by kernel_rfl) (fun _ _ _ h => h) ?hy3_7 (by assumption) ?hr3_7
       case hi3_7 => (simp only [List.getElem?_toArray, List.getElem?_cons_succ, List.getElem?_cons_zero]; rfl)
       case hy3_7 => exact Or.inr ⟨by rfl, rfl⟩)
    | (refine wpAnyH_take (i := 7) (oi := ?o3_7) (v := ?v3_7) ?hi3_7 (by kernel_rfl) (by kernel_rfl) (by kernel_rfl) (fun _ _ _ h => h) ?hy3_7 (by assumption) ?hr3_7
       case hi3_7 => (simp only [List.getElem?_toArray, List.getElem?_cons_succ, List.getElem?_cons_zero]; rfl)
       case hy3_7 => (refine Or.inl ⟨by rfl, ?_⟩; intro w hSw; (try dsimp only at hSw); go_simp <;> with_reducible rfl))
    try simp only [Act.put, List.setIfInBounds_toArray, List.set_cons_zero, List.set_cons_succ]
    first
    | (refine wpAnyH_take (i := 8) (oi := ?o3_8) (v := undef) ?hi3_8 (by kernel_rfl) (by kernel_rfl) (by kernel_rfl) (fun _ _ _ h => h) ?hy3_8 (by assumption) ?hr3_8
       case hi3_8 => (simp only [List.getElem?_toArray, List.getElem?_cons_succ, List.getElem?_cons_zero]; rfl)
       case hy3_8 => exact Or.inr ⟨by rfl, rfl⟩)
    | (refine wpAnyH_take (i := 8) (oi := ?o3_8) (v := ?v3_8) ?hi3_8 (by kernel_rfl) (by kernel_rfl) (by kernel_rfl) (fun _ _ _ h => h) ?hy3_8 (by assumption) ?hr3_8
       case hi3_8 => (simp only [List.getElem?_toArray, List.getElem?_cons_succ, List.getElem?_cons_zero]; rfl)
       case hy3_8 => (refine Or.inl ⟨by rfl, ?_⟩; intro w hSw; (try dsimp only at hSw); go_simp <;> with_reducible rfl))
    try simp only [Act.put, List.setIfInBounds_toArray, List.set_cons_zero, List.set_cons_succ]
    first
    | (refine wpAnyH_take (i := 4) (oi := ?o3_4) (v := undef) ?hi3_4 (by kernel_rfl) (by kernel_rfl) (by kernel_rfl) (fun _ _ _ h => h) ?hy3_4 (by assumption) ?hr3_4
       case hi3_4 => (simp only [List.getElem?_toArray, List.getElem?_cons_succ, List.getElem?_cons_zero]; rfl)
       case hy3_4 => exact Or.inr ⟨by rfl, rfl⟩)
    | (refine wpAnyH_ready (rs := [4]) (by kernel_rfl) (by simp) ?_
       refine AllReadyH.cons (o := ?o3_4) ?ho3_4 (fun K hK => ?hk3_4) AllReadyH.nil
       case ho3_4 => (simp only [List.getElem?_toArray, List.getElem?_cons_succ, List.getElem?_cons_zero]; rfl)
       go_simp
       refine (of17 x y u v _).mono ?_; rintro e wz ⟨rfl, hb⟩
       go_wp2_with fail
       refine hK.out _ _ ?_ (fun hHeld => ?_)
       · first | exact keepOp (by assumption) hb
       clear hK K)
    try simp only [Act.put, List.setIfInBounds_toArray, List.set_cons_zero, List.set_cons_succ]
    first
    | (refine wpAnyH_take (i := 9) (oi := ?o3_9) (v := undef) ?hi3_9 (by kernel_rfl) (by kernel_rfl) (by kernel_rfl) (fun _ _ _ h => h) ?hy3_9 (by assumption) ?hr3_9
       case hi3_9 => (simp only [List.getElem?_toArray, List.getElem?_cons_succ, List.getElem?_cons_zero]; rfl)
       case hy3_9 => exact Or.inr ⟨by rfl, rfl⟩)
    | (refine wpAnyH_ready (rs := [9]) (by kernel_rfl) (by simp) ?_
       refine AllReadyH.cons (o := ?o3_9) ?ho3_9 (fun K hK => ?hk3_9) AllReadyH.nil
       case ho3_9 => (simp only [List.getElem?_toArray, List.getElem?_cons_succ, List.getElem?_cons_zero]; rfl)
       go_simp
       refine (of27 x y u v _).mono ?_; rintro e wz ⟨rfl, hb⟩
       go_wp2_with fail
       refine hK.out _ _ ?_ (fun hHeld => ?_)
       · first | exact keepOp (by assumption) hb
       clear hK K)
    try simp only [Act.put, List.setIfInBounds_toArray, List.set_cons_zero, List.set_cons_succ]
    first
    | (refine wpAnyH_take (i := 10) (oi := ?o3_10) (v := undef) ?hi3_10 (by kernel_rfl) (by kernel_rfl) (by kernel_rfl) (fun _ _ _ h => h) ?hy3_10 (by assumption) ?hr3_10
       case hi3_10 => (simp only [List.getElem?_toArray, List.getElem?_cons_succ, List.getElem?_cons_zero]; rfl)
       case hy3_10 => exact Or.inr ⟨by rfl, rfl⟩)
    | (refine wpAnyH_take (i := 10) (oi := ?o3_10) (v := ?v3_10) ?hi3_10 (by kernel_rfl) (by kernel_rfl) (by kernel_rfl) (fun _ _ _ h => h) ?hy3_10 (by assumption) ?hr3_10
       case hi3_10 => (simp only [List.getElem?_toArray, List.getElem?_cons_succ, List.getElem?_cons_zero]; rfl)
       case hy3_10 => (refine Or.inl ⟨by rfl, ?_⟩; intro w hSw; (try dsimp only at hSw); go_simp <;> with_reducible rfl))
    try simp only [Act.put, List.setIfInBounds_toArray, List.set_cons_zero, List.set_cons_succ]
    first
    | (refine wpAnyH_take (i := 11) (oi := ?o3_11) (v := undef) ?hi3_11 (by kernel_rfl) (by kernel_rfl) (by kernel_rfl) (fun _ _ _ h => h) ?hy3_11 (by assumption) ?hr3_11
       case hi3_11 => (simp only [List.getElem?_toArray, List.getElem?_cons_succ, List.getElem?_cons_zero]; rfl)
       case hy3_11 => exact Or.inr ⟨by rfl, rfl⟩)
    | (refine wpAnyH_take (i := 11) (oi := ?o3_11) (v := ?v3_11) ?hi3_11 (by kernel_rfl) (by kernel_rfl) (by kernel_rfl) (fun _ _ _ h => h) ?hy3_11 (by assumption) ?hr3_11
       case hi3_11 => (simp only [List.getElem?_toArray, List.getElem?_cons_succ, List.getElem?_cons_zero]; rfl)
       case hy3_11 => (refine Or.inl ⟨by rfl, ?_⟩; intro w hSw; (try dsimp only at hSw); go_simp <;> with_reducible rfl))
    try simp only [Act.put, List.setIfInBounds_toArray, List.set_cons_zero, List.set_cons_succ]
    refine wpAnyH_done (by kernel_rfl) ?_ _
    refine NoPanic.normal ?_
    clear hS
    go_wp2_with fail
    go_ret
    exact ⟨by simp, hHeld.2⟩
  · obtain ⟨W0, hW0⟩ : ∃ W0, w.alloc (.cells #[.int .i64 k, .int .i64 t, .int .i64 l, .int .i64 b, .int .i64 r, .int .i64 t', .int .i64 l', .int .i64 b', .int .i64 r', .int .i64 x, .int .i64 y, .int .i64 u, .int .i64 v, .int .i64 dr, .int .i64 dc] 45) = W0 := ⟨_, rfl⟩
    rw [hW0] at c0 c1 c2 c3 c4 c5 c6 c7 c8 c9 c10 c11 c12 c13 c14 hB ⊢
    clear hW0
    have HB := Lib.hid hB
    clear hB
    refine (meet14 t l b r t' l' b' r' _).mono ?_
    rintro e w1 ⟨rfl, hb1⟩
    replace c0 := cell_below c0 hb1
    replace c1 := cell_below c1 hb1
    replace c2 := cell_below c2 hb1
    replace c3 := cell_below c3 hb1
    replace c4 := cell_below c4 hb1
    replace c5 := cell_below c5 hb1
    replace c6 := cell_below c6 hb1
    replace c7 := cell_below c7 hb1
    replace c8 := cell_below c8 hb1
    replace c9 := cell_below c9 hb1
    replace c10 := cell_below c10 hb1
    replace c11 := cell_below c11 hb1
    replace c12 := cell_below c12 hb1
    replace c13 := cell_below c13 hb1
    replace c14 := cell_below c14 hb1
    replace HB := Lib.hid (HB.out.trans (hb1.mono HB.out.size))
    have hz : w.heap.size < w1.heap.size := World.block_lt_of_cell? w1 _ c0
    clear hb1
    go_wp2_with fail
    refine (meet28 t l b r t' l' b' r' _).mono ?_
    rintro e w2 ⟨rfl, hb2⟩
    have r1 := hb2.row (heap_alloc_new w1 _) (by simp)
    obtain ⟨g0, g1, g2, g3⟩ := cells4 r1
    have hz1 : w1.heap.size < w2.heap.size := by have := hb2.size; simp at this; omega
    replace HB := Lib.hid (HB.out.trans ((one_below hb2).mono HB.out.size))
    clear hb2 r1 c0 c1 c2 c3 c4 c5 c6 c7 c8 c9 c10 c11 c12 c13 c14
    go_wp2_with fail
    all_goals go_ret
    all_goals exact ⟨by simp, HB.out.alloc HB.out.size _⟩
  · obtain ⟨W0, hW0⟩ : ∃ W0, w.alloc (.cells #[.int .i64 k, .int .i64 t, .int .i64 l, .int .i64 b, .int .i64 r, .int .i64 t', .int .i64 l', .int .i64 b', .int .i64 r', .int .i64 x, .int .i64 y, .int .i64 u, .int .i64 v, .int .i64 dr, .int .i64 dc] 45) = W0 := ⟨_, rfl⟩
    rw [hW0] at c0 c1 c2 c3 c4 c5 c6 c7 c8 c9 c10 c11 c12 c13 c14 hB ⊢
    clear hW0
    have HB := Lib.hid hB
    clear hB
    refine (move12 t l b r dr dc _).mono ?_
    rintro e w1 ⟨rfl, hb1⟩
    replace c0 := cell_below c0 hb1
    replace c1 := cell_below c1 hb1
    replace c2 := cell_below c2 hb1
    replace c3 := cell_below c3 hb1
    replace c4 := cell_below c4 hb1
    replace c5 := cell_below c5 hb1
    replace c6 := cell_below c6 hb1
    replace c7 := cell_below c7 hb1
    replace c8 := cell_below c8 hb1
    replace c9 := cell_below c9 hb1
    replace c10 := cell_below c10 hb1
    replace c11 := cell_below c11 hb1
    replace c12 := cell_below c12 hb1
    replace c13 := cell_below c13 hb1
    replace c14 := cell_below c14 hb1
    replace HB := Lib.hid (HB.out.trans (hb1.mono HB.out.size))
    have hz : w.heap.size < w1.heap.size := World.block_lt_of_cell? w1 _ c0
    clear hb1
    go_wp2_with fail
    refine (move29 t l b r dr dc _).mono ?_
    rintro e w2 ⟨rfl, hb2⟩
    have r1 := hb2.row (heap_alloc_new w1 _) (by simp)
    obtain ⟨g0, g1, g2, g3⟩ := cells4 r1
    have hz1 : w1.heap.size < w2.heap.size := by have := hb2.size; simp at this; omega
    replace HB := Lib.hid (HB.out.trans ((one_below hb2).mono HB.out.size))
    clear hb2 r1 c0 c1 c2 c3 c4 c5 c6 c7 c8 c9 c10 c11 c12 c13 c14
    go_wp2_with fail
    all_goals go_ret
    all_goals exact ⟨by simp, HB.out.alloc HB.out.size _⟩
  · go_ret
    exact ⟨rfl, hB⟩
end Go.Proofs.Ythcogckkeegokaa
