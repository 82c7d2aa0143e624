/- begun: the calls that every statement of layer 3 asks ahead answer as fixed. -/
import Derived.Test.YthcogckkeegokaaIter
import Derived.Deep.DeepMust
namespace Go.Proofs.Ythcogckkeegokaa
set_option linter.unusedVariables false
set_option linter.unusedSimpArgs false
open Go.RowKit Go.Shelf

attribute [local go_sem] Oper.semAt_some

theorem size_v : sizeV 0 0 1 1 = (4, 0) := by decide
theorem meet_v : meetV 0 0 1 1 1 1 5 9 = ((1, 1, 1, 1), true) := by decide
theorem move_v : moveV 0 0 1 1 (-1) 0 = ((0, 0, 0, 0), 10) := by decide
theorem area_v : areaE 1 0 0 0 = 11 := by decide
theorem places_v : placesL 0 0 1 1 = upto 0 0 2 4 := by decide
theorem count_v : count 0 0 1 1 = 4 := by decide

/-- Block B holds these cells. -/
def RowAt (W : World) (B : Nat) (cs : Array Value) (t : TypeId) : Prop := W.heap[B]? = some (.cells cs t (0, 0))
theorem RowAt.lt {W : World} {B : Nat} {cs : Array Value} {t : TypeId} (h : RowAt W B cs t) : B < W.heap.size := (Array.getElem?_eq_some_iff.1 h).1
theorem RowAt.kept {W W' : World} {row : Option Nat} {B : Nat} {cs : Array Value} {t : TypeId} (h : RowAt W B cs t) (hg : W.grownBy W' row) (hne : some B ≠ row) : RowAt W' B cs t := (hg.block B h.lt hne).trans h
theorem RowAt.alloc {W : World} {B : Nat} {cs : Array Value} {t : TypeId} (h : RowAt W B cs t) (o : Obj) : RowAt (W.alloc o) B cs t := h.kept (World.grownBy_alloc W o none) (by simp)
theorem RowAt.other {W : World} {B B' : Nat} {cs : Array Value} {t : TypeId} (h : RowAt W B cs t) (hne : B ≠ B') (u : Value) : RowAt (W.setCell ⟨B', 0, none⟩ u) B cs t := h.kept (grownBy_setCell' W B' u) (fun e => hne (by cases e; rfl))
theorem rowAt_own {β : Type} (B : Nat) (f : β → Array Value) (t : TypeId) : Own (fun s W => RowAt W B (f s) t) := fun s X Y row hs hg hrow =>
  hs.kept hg (fun e' => by obtain ⟨o, ho, hc⟩ := hrow B e'.symm; rw [show X.heap[B]? = _ from hs] at ho; cases ho; cases hc)
theorem prefix_upto {t l : Int} {m n : Nat} {pre : List (Int × Int)} (h : pre <+: upto t l m n) : pre = upto t l m pre.length := by
  have h1 := h.length_le
  rw [upto_length] at h1
  have h2 := List.prefix_iff_eq_take.1 h
  rw [upto, ← List.map_take, List.take_range, Nat.min_eq_left h1] at h2
  exact h2

theorem upto_step (pre : List (Int × Int)) (x : Int × Int) : pre ++ [x] = upto 0 0 2 (pre ++ [x]).length ↔ pre = upto 0 0 2 pre.length ∧ x = ((pre.length : Int) / 2, (pre.length : Int) % 2) := by
  have e : placeAt 0 0 2 pre.length = ((pre.length : Int) / 2, (pre.length : Int) % 2) := by simp [placeAt]
  rw [List.length_append, List.length_singleton, upto_succ, e]
  constructor
  · intro h
    have h2 := List.append_inj' h rfl
    exact ⟨h2.1, by simpa using h2.2⟩
  · rintro ⟨h, h'⟩
    rw [← h, h']
theorem keepBlock_set {W : World} {B : Nat} (C : Nat) (h : B ≠ C) (v : Value) : KeepBlock B W (W.setCell ⟨C, 0, none⟩ v) := by
  by_cases hB : B < W.heap.size
  · exact (grownBy_setCell' W C v).block B hB (fun e => h (by cases e; rfl))
  · have h1 : (W.setCell ⟨C, 0, none⟩ v).heap.size = W.heap.size := by simp
    rw [KeepBlock, Array.getElem?_eq_none (by omega), Array.getElem?_eq_none (by omega)]

set_option maxRecDepth 100000 in
set_option maxHeartbeats 2000000 in
theorem begun8 (w : World) : Calls Try.prog 8 #[] w fun e w' => e = .returned (.bool true) ∧ Below w.heap.size w w' := by
  refine (callsIn_wide (n := 8)).1 ?_
  refine callsIn_of_wp_marks Try.func8 rfl trivial ?_ rfl
  simp only [Try.ntmps8, List.size_toArray, List.length_cons, List.length_nil, Nat.reduceAdd, Nat.reduceSub, Array.replicate_succ, Array.replicate_zero, List.push_toArray, List.append_toArray, List.nil_append, List.cons_append]
  gi_wp2_with fail
  refine ⟨trivial, ?_⟩
  refine (callsIn_wide.2 (size19 0 0 1 1 _)).mono ?_
  rw [size_v]
  rintro e w1 ⟨rfl, hb1⟩
  have r0 := hb1.row (row_old w _ _) (by simp <;> omega)
  have r1 := hb1.row (row_new w _ _) (by simp <;> omega)
  obtain ⟨c0, c1, c2, c3⟩ := cells4 r1
  have HB := Lib.hid (two_below hb1)
  have hz : w.heap.size + 1 < w1.heap.size := by have := hb1.size; simp at this; omega
  clear hb1
  gi_wp2_with fail
  refine ⟨trivial, ?_⟩
  refine (callsIn_wide.2 (meet14 0 0 1 1 1 1 5 9 _)).mono ?_
  rw [meet_v]
  rintro e w2 ⟨rfl, hb2⟩
  replace r0 := hb2.row r0 (by omega)
  replace r1 := hb2.row r1 (by omega)
  obtain ⟨c0, c1, c2, c3⟩ := cells4 r1
  replace HB := Lib.hid (HB.out.trans (hb2.mono HB.out.size))
  replace hz := Nat.lt_of_lt_of_le hz hb2.size
  clear hb2
  gi_wp2_with fail
  refine ⟨trivial, ?_⟩
  refine (callsIn_wide.2 (move12 0 0 1 1 (-1) 0 _)).mono ?_
  rw [move_v]
  rintro e w3 ⟨rfl, hb3⟩
  have r4 := hb3.row (heap_alloc_new w2 _) (by simp)
  replace r0 := hb3.row ((Below.heap_alloc w2 _ _ (by omega)).trans r0) (by simp; omega)
  replace r1 := hb3.row ((Below.heap_alloc w2 _ _ (by omega)).trans r1) (by simp; omega)
  obtain ⟨c0, c1, c2, c3⟩ := cells4 r1
  replace HB := Lib.hid (HB.out.trans ((one_below hb3).mono HB.out.size))
  have h23 : w2.heap.size < w3.heap.size := by have := hb3.size; simp at this; omega
  replace hz := Nat.lt_trans hz h23
  have hz0 : w.heap.size < w3.heap.size := by omega
  clear hb3
  have q26 : ∀ (w : World) (f : Fn) (a b : Array Value), (binOp .eql 26 (.func f a b) .nilFunc).run Try.prog w = .ok (.bool false) w := fun w f a b => by kernel_rfl
  gi_wp2_with (refine ⟨trivial, ?_⟩; gi_at_call 9; refine (callsIn_wide.2 (all9 0 0 1 1 _)).mono ?_; rintro e w' ⟨rfl, rfl⟩)
  obtain ⟨W0, hW0⟩ : ∃ W0, ((w3.alloc (.cells #[.int .i64 0, .int .i64 0, .int .i64 0, .int .i64 0] 23)).alloc (.cells #[.int .i64 0] 3)).alloc (.cells #[.int .i64 0, .int .i64 0, .int .i64 1, .int .i64 1] 23) = W0 := ⟨_, rfl⟩
  have hsz : W0.heap.size = w3.heap.size + 3 := by rw [← hW0]; simp
  have hB0 : Below w.heap.size w W0 := by
    rw [← hW0]
    exact ((HB.out.alloc (by omega) _).alloc (by simp; omega) _).alloc (by simp; omega) _
  have hin : ∀ (k : Nat) (o : Obj), w3.heap[k]? = some o → W0.heap[k]? = some o := by
    intro k o h
    have hk := (Array.getElem?_eq_some_iff.1 h).1
    rw [← hW0, Below.heap_alloc _ _ _ (by simp; omega), Below.heap_alloc _ _ _ (by simp; omega), Below.heap_alloc _ _ _ (by omega)]
    exact h
  have bR : Boxed W0 w.heap.size 4 (.bool false) := hin _ _ r0
  have bA : RowAt W0 w2.heap.size #[.int .i64 1, .int .i64 1, .int .i64 1, .int .i64 1] 23 := hin _ _ r4
  have bK : Boxed W0 (w3.heap.size + 1) 3 (.int .i64 0) := by
    have := row_new w3 (.cells #[.int .i64 0, .int .i64 0, .int .i64 0, .int .i64 0] 23) (.cells #[.int .i64 0] 3)
    rw [← hW0]
    exact (Below.heap_alloc _ _ _ (by simp)).trans this
  have bI : RowAt W0 (w3.heap.size + 1 + 1) #[.int .i64 0, .int .i64 0, .int .i64 1, .int .i64 1] 23 := by
    have := heap_alloc_new ((w3.alloc (.cells #[.int .i64 0, .int .i64 0, .int .i64 0, .int .i64 0] 23)).alloc (.cells #[.int .i64 0] 3)) (.cells #[.int .i64 0, .int .i64 0, .int .i64 1, .int .i64 1] 23)
    rw [← hW0]
    simpa [RowAt] using this
  rw [hW0]
  have AI : AreaAt W0 (w3.heap.size + 1 + 1) 0 0 1 1 := by obtain ⟨a, b, c, d⟩ := cells4 bI; exact ⟨a, b, c, d⟩
  clear hW0 r0 r1 r4 c0 c1 c2 c3 hin HB
  refine wpIn_rangeFunc_ownH rfl (by decide) (gf := 20) (lb := #[.pointer (some ⟨w3.heap.size + 1 + 1, 0, none⟩)]) rfl trivial (enters_of Try.func20 (by kernel_rfl) rfl)
    (all_stops 7 (by decide) (w3.heap.size + 1 + 1) 0 0 1 1 W0 (by omega) AI) KeepBlock.trans (keepBlock_put (by omega)) (Below.refl _ _) (fun _ => rfl)
    (fun pre W => (((((pre = upto 0 0 2 pre.length) ∧ Boxed W (w3.heap.size + 1) 3 (.int .i64 pre.length)) ∧ Boxed W w.heap.size 4 (.bool false)) ∧ RowAt W w2.heap.size #[.int .i64 1, .int .i64 1, .int .i64 1, .int .i64 1] 23) ∧ RowAt W (w3.heap.size + 1 + 1) #[.int .i64 0, .int .i64 0, .int .i64 1, .int .i64 1] 23) ∧ Below w.heap.size w W)
    (fun c pre W => pre ≠ upto 0 0 2 pre.length)
    (OwnFrom.and (OwnFrom.and (OwnFrom.and (OwnFrom.and (OwnFrom.and (ownFrom_pure _ _) (Own.from (boxed_own _ _ _) _)) (Own.from (boxed_own _ _ _) _)) (Own.from (rowAt_own _ _ _) _)) (Own.from (rowAt_own _ _ _) _)) (ownFrom_below (Nat.le_refl _) (by omega)))
    (fun c => ownFrom_pure _ _)
    ⟨⟨⟨⟨⟨rfl, bK⟩, bR⟩, bA⟩, bI⟩, hB0⟩
    (fun x a' W => ∃ Bx, w3.heap.size + 1 < Bx ∧ RowAt W Bx #[.int .i64 x.1, .int .i64 x.2] 30 ∧ a' = { tmps := #[.pointer (some ⟨w.heap.size, 0, none⟩), .pointer (some ⟨w.heap.size + 1, 0, none⟩), .int .i64 4, .int .i64 0, .pointer (some ⟨w2.heap.size, 0, none⟩), .bool true, .pointer (some ⟨w3.heap.size, 0, none⟩), .int .i64 10, .pointer (some ⟨w3.heap.size + 1, 0, none⟩), .func (.func 20) #[] #[.pointer (some ⟨w3.heap.size + 1 + 1, 0, none⟩)], .pointer (some ⟨Bx, 0, none⟩),
      .agg #[.int .i64 0, .int .i64 0, .int .i64 1, .int .i64 1], .tuple #[.int .i64 4, .int .i64 0], .agg #[.int .i64 0, .int .i64 0, .int .i64 1, .int .i64 1], .tuple #[.int .i64 4, .int .i64 0], .int .i64 4, .int .i64 0,
      .tuple #[.agg #[.int .i64 1, .int .i64 1, .int .i64 1, .int .i64 1], .bool true], .agg #[.int .i64 0, .int .i64 0, .int .i64 1, .int .i64 1], .agg #[.int .i64 1, .int .i64 1, .int .i64 5, .int .i64 9], .tuple #[.agg #[.int .i64 1, .int .i64 1, .int .i64 1, .int .i64 1], .bool true], .agg #[.int .i64 1, .int .i64 1, .int .i64 1, .int .i64 1], .bool true,
      .tuple #[.agg #[.int .i64 0, .int .i64 0, .int .i64 0, .int .i64 0], .int .i64 10], .agg #[.int .i64 0, .int .i64 0, .int .i64 1, .int .i64 1], .tuple #[.agg #[.int .i64 0, .int .i64 0, .int .i64 0, .int .i64 0], .int .i64 10], .agg #[.int .i64 0, .int .i64 0, .int .i64 0, .int .i64 0], .int .i64 10, .agg #[.int .i64 0, .int .i64 0, .int .i64 1, .int .i64 1],
      .func (.func 20) #[] #[.pointer (some ⟨w3.heap.size + 1 + 1, 0, none⟩)], .func (.func 20) #[] #[.pointer (some ⟨w3.heap.size + 1 + 1, 0, none⟩)], .bool false, .func (.func 20) #[] #[.pointer (some ⟨w3.heap.size + 1 + 1, 0, none⟩)], .agg #[.int .i64 x.1, .int .i64 x.2], undef, undef, undef, undef, undef, undef, undef, undef, undef, undef, undef, undef, undef, undef, undef, undef, undef, undef, undef, undef, undef, undef, undef, undef, undef, undef, undef, undef, undef, undef, undef, undef, undef, undef, undef, undef], defers := [] })
    (fun x a' _ X Y row hs hg hr => by obtain ⟨Bx, e1, e2, e3⟩ := hs; exact ⟨Bx, e1, rowAt_own Bx (fun (_ : Unit) => #[.int .i64 x.1, .int .i64 x.2]) 30 () X Y row e2 hg (fun r e => (hr r e).2), e3⟩)
    ?assign ?body ?done ?stop
  case assign =>
    rintro l pre x W K ⟨⟨⟨⟨⟨hp, bK1⟩, bR1⟩, bA1⟩, bI1⟩, hB1⟩ hK
    gi_wp2
    have hs := hB1.size
    exact hK _ _ ((KeepsOthers.alloc _ _).from _) (Below.heap_alloc W _ _ bI1.lt) ⟨⟨⟨⟨⟨hp, bK1.alloc _⟩, bR1.alloc _⟩, bA1.alloc _⟩, bI1.alloc _⟩, hB1.alloc hB1.size _⟩ ⟨W.heap.size, bK1.lt, World.alloc_heap_new W _, rfl⟩
  case body =>
    rintro l pre x a' W hl ⟨r, hr⟩ ⟨⟨⟨⟨⟨hp, bK1⟩, bR1⟩, bA1⟩, bI1⟩, hB1⟩ ⟨Bx, hBx, bX, rfl⟩ hlt
    obtain ⟨cx0, cx1⟩ := cells2 bX
    have cK := bK1.cell
    have fK := bK1.frozen
    have cR := bR1.cell
    have fR := bR1.frozen
    rw [count_v] at hlt
    have HP := Lib.hid hp
    clear hp
    have hm := keepBlock_set (W := W) (B := w3.heap.size + 1 + 1) (w3.heap.size + 1) (by omega) (.int .i64 ((pre.length : Int) + 1))
    have hbk := bK1.set (.int .i64 ((pre.length : Int) + 1))
    have ha := bA1.other (B' := w3.heap.size + 1) (by omega) (.int .i64 ((pre.length : Int) + 1))
    have hi := bI1.other (B' := w3.heap.size + 1) (by omega) (.int .i64 ((pre.length : Int) + 1))
    have hrr := bR1.other (B' := w3.heap.size + 1) (by omega) (.int .i64 ((pre.length : Int) + 1))
    have hbb := hB1.setCell (p := ⟨w3.heap.size + 1, 0, none⟩) (by simp; omega) (.int .i64 ((pre.length : Int) + 1))
    have HM := Lib.hid (And.intro hm (And.intro hbk (And.intro ha (And.intro hi (And.intro hrr hbb)))))
    clear hm hbk ha hi hrr hbb bK1 bA1 bI1 hB1
    obtain ⟨x1, x2⟩ := x
    by_cases e1 : x1 = (pre.length : Int) / 2
    · subst e1
      by_cases e2 : x2 = (pre.length : Int) % 2
      · subst e2
        gi_wp2
        obtain ⟨hm, hbk, ha, hi, hrr, hbb⟩ := HM.out
        exact ⟨(KeepsOthers.setCell _ _ _).from _, hm, ⟨⟨⟨⟨(upto_step _ _).2 ⟨HP.out, rfl⟩, by simpa using hbk⟩, hrr⟩, ha⟩, hi⟩, hbb⟩
      · have hE := Lib.hid e2
        gi_wp2
        exact ⟨(KeepsOthers.setCell _ _ _).from _, fun h => hE.out (congrArg Prod.snd ((upto_step _ _).1 h).2)⟩
    · have hE := Lib.hid e1
      gi_wp2
      exact ⟨(KeepsOthers.setCell _ _ _).from _, fun h => hE.out (congrArg Prod.fst ((upto_step _ _).1 h).2)⟩
  case done =>
    rintro D xs W hD rfl ⟨⟨⟨⟨⟨hp, bK1⟩, bR1⟩, bA1⟩, bI1⟩, hB1⟩ hK
    rw [places_v, upto_length] at bK1
    obtain ⟨c0, c1, c2, c3⟩ := cells4 bA1
    have cK := bK1.cell
    have cR := bR1.cell
    have fR := bR1.frozen
    have HS := Lib.hid (And.intro hB1 (And.intro bR1 hK))
    have hlt := bR1.lt
    clear hp bI1 hK hB1
    gi_wp2_with fail
    refine ⟨trivial, ?_⟩
    refine (callsIn_wide.2 (may13 1 0 0 0 _)).mono ?_
    rw [area_v]
    rintro e w4 ⟨rfl, hb4⟩
    have cR4 := (hb4.cell (p := ⟨w.heap.size, 0, none⟩) hlt).trans cR
    have bR4 : Boxed w4 w.heap.size 4 (.bool false) := hb4.row bR1 hlt
    have fR4 := bR4.frozen
    have H4 := Lib.hid hb4
    clear hb4 bR1
    gi_wp2
    obtain ⟨hB1, bR1, hK⟩ := HS.out
    have hb4 := H4.out
    have hD4 : w4.heap[D]? = some (.deferred (some [])) := hb4.row hK (Array.getElem?_eq_some_iff.1 hK).1
    have hK' := (KeepsOthers.setCell w4 ⟨w.heap.size, 0, none⟩ (.bool true)).same D _ hD4 rfl
    refine ⟨by simp, .inl ⟨_, _, rfl, run_takeDeferred hK', ?_⟩⟩
    have hc5 := cell_kept (bR4.set (.bool true)).cell (grownBy_putObj' _ D (.deferred none)) (fun r e => by cases e; exact ⟨_, hK', rfl⟩)
    refine ⟨.bool true, ?_, rfl, ((hB1.trans (hb4.mono hB1.size)).setCell (p := ⟨w.heap.size, 0, none⟩) (by simp) _).trans (belowK_b (w := w) (Nat.le_refl _) _ D _ _ (by omega) hK' rfl rfl)⟩
    simp [results, Try.results8, go_sem, hc5]
  case stop =>
    intro D c pre W hD hpre hne
    exact absurd (prefix_upto (places_v ▸ hpre)) hne
end Go.Proofs.Ythcogckkeegokaa
