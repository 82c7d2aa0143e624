/- The document's own stack in memory: what it is, and what reads it. -/
import Derived.Test.YtfbmfcipaikaoaaEq
import Derived.Deep.DeepMust
namespace Go.Proofs.Ytfbmfcipaikaoaa
set_option linter.unusedVariables false
set_option linter.unusedSimpArgs false
open Go.RowKit Go.Maps

/-- Where a place's frame lies, and 1. -/
def posR (fs : List Fr) (r c : Int) : Option Int := (pos fs r c).map (· + 1)
theorem posR_put (fs : List Fr) (f : Fr) (h : pos fs f.r f.c = none) : putF (posR fs) f.r f.c ((fs.length : Int) + 1) = posR (fs ++ [f]) := by
  funext a b
  unfold posR
  rw [← pos_put fs f h]
  unfold putF
  split
  · rfl
  · rfl
theorem posR_del (fs : List Fr) (f : Fr) (h : pos fs f.r f.c = none) : delF (posR (fs ++ [f])) f.r f.c = posR fs := by
  funext a b
  rw [show posR fs a b = (delF (pos (fs ++ [f])) f.r f.c a b).map (· + 1) by rw [pos_del fs f h]; rfl]
  unfold delF posR
  split
  · rfl
  · rfl
theorem posR_same (fs : List Fr) (f g : Fr) (h1 : f.r = g.r) (h2 : f.c = g.c) : posR (fs ++ [f]) = posR (fs ++ [g]) := by
  funext a b
  unfold posR
  rw [pos_same fs f g h1 h2]
theorem MapAt.look1 {W : World} {M sz : Nat} {f : Int → Int → Option Int} (h : MapAt W M sz f) {r c : Int} (hr : I64 r) (hc : I64 c) :
    (Instr.lookup 60 (.map (some M)) (.agg #[.int .i64 r, .int .i64 c]) false).run Try.prog W = .ok (.int .i64 ((f r c).getD 0)) W := by
  obtain ⟨D, h1, h2, h3⟩ := h
  obtain ⟨v, ps, e1, e2⟩ := h1.lookup law27 Try.underlying60 (zero3 W) elem3_zero (kl_is hr hc)
  obtain ⟨a, b⟩ := h3 r c hr hc
  rw [b] at e2
  obtain ⟨x, rfl, hz, _⟩ := plainElem_int_inv Try.underlying3 e2
  simp only [li, Prod.mk.injEq, DataW.lit.injEq, Lit.int.injEq, true_and] at hz
  rw [e1, hz.1]

/-- The document's stack in memory from block B on. -/
structure StkR (W : World) (B S M : Nat) (F : Value) (fs : List Fr) (most : Nat) : Prop where
  blk : W.heap[S]? = some (.cells #[F, .int .i64 most, .map (some M)] 67 (0, 0))
  row : W.ownsRow B 36 4 F fs.length (cellsF fs)
  map : MapAt W M fs.length (posR fs)
  sm : S ≠ M
  fS : F.ownBlock ≠ some S
  fM : F.ownBlock ≠ some M
  bS : B ≤ S
  bM : B ≤ M
  uq : Uq fs
  ft : ∀ f ∈ fs, FitF f
  mo : fs.length ≤ most ∧ most ≤ 1000000000
theorem StkR.apt {X : Nat → Prop} {W W' : World} {B S M : Nat} {F : Value} {fs : List Fr} {most : Nat} (h : StkR W B S M F fs most) (ha : Apt X W W') (hx : ∀ k, SX S M F k → ¬ X k) : StkR W' B S M F fs most :=
  ⟨(ha.block S (Array.getElem?_eq_some_iff.1 h.blk).1 (hx S (.inl rfl))).trans h.blk, ha.row h.row (fun k hk => hx k (.inr (.inr hk))), ha.map h.map (hx M (.inr (.inl rfl))), h.sm, h.fS, h.fM, h.bS, h.bM, h.uq, h.ft, h.mo⟩
theorem StkR.below {W W' : World} {B S M : Nat} {F : Value} {fs : List Fr} {most : Nat} (h : StkR W B S M F fs most) (hb : Below W.heap.size W W') : StkR W' B S M F fs most :=
  h.apt (X := fun _ => False) (apt_below hb) (fun _ _ h => h)
theorem StkR.lt {W : World} {B S M : Nat} {F : Value} {fs : List Fr} {most : Nat} (h : StkR W B S M F fs most) : S < W.heap.size ∧ M < W.heap.size := ⟨(Array.getElem?_eq_some_iff.1 h.blk).1, h.map.lt⟩
theorem StkR.sx {W : World} {B S M : Nat} {F : Value} {fs : List Fr} {most : Nat} (h : StkR W B S M F fs most) : ∀ k, SX S M F k → B ≤ k ∧ k < W.heap.size := by
  rintro k (rfl | rfl | hk)
  · exact ⟨h.bS, h.lt.1⟩
  · exact ⟨h.bM, h.lt.2⟩
  · exact h.row.lt k hk

set_option maxHeartbeats 800000 in
theorem may38 (r c : Int) (w : World) :
    Calls Try.prog 38 #[.agg #[.int .i64 r, .int .i64 c]] w fun e w' => e = .returned (.bool (mayS r c)) ∧ Below w.heap.size w w' := by
  go_enter Try.func38, Try.ntmps38
  go_wp2
  all_goals go_ret
  all_goals refine ⟨ret_bool ?_, (Below.refl _ _).alloc (Nat.le_refl _) _⟩
  all_goals (unfold mayS; simp_all <;> omega)
def kindS (k : Int) : Bool := decide (k = 1 ∨ k = 2)
theorem kind39 (k : Int) (w : World) :
    Calls Try.prog 39 #[.int .i64 k] w fun e w' => e = .returned (.bool (kindS k)) ∧ w = w' := by
  go_enter Try.func39, Try.ntmps39
  go_wp2
  all_goals go_ret
  all_goals refine ⟨ret_bool ?_, rfl⟩
  all_goals (unfold kindS; by_cases h1 : k = 1 <;> by_cases h2 : k = 2 <;> simp_all)
theorem pos_le {fs : List Fr} {r c i : Int} (h : pos fs r c = some i) : 0 ≤ i ∧ i < fs.length := by
  obtain ⟨j, f, rfl, hj, _⟩ := pos_at h
  have := (List.getElem?_eq_some_iff.1 hj).1
  omega
set_option maxHeartbeats 800000 in
theorem find40 {W : World} {B S M : Nat} {F : Value} {fs : List Fr} {most : Nat} (h : StkR W B S M F fs most) (r c : Int) (hr : I64 r) (hc : I64 c) :
    Calls Try.prog 40 #[.pointer (some ⟨S, 0, none⟩), .agg #[.int .i64 r, .int .i64 c]] W fun e W' => e = .returned (.int .i64 ((pos fs r c).getD (-1))) ∧ Below W.heap.size W W' := by
  have hb1 := ((Below.refl W.heap.size W).alloc (Nat.le_refl _) (.cells #[.int .i64 r, .int .i64 c] 27))
  have hst := h.below hb1.drew
  obtain ⟨_, _, d1⟩ := cellsT hst.blk
  have hlk := hst.map.look1 hr hc
  have hr0 := heap_alloc_new W (.cells #[.int .i64 r, .int .i64 c] 27)
  have hc0 : (W.alloc (.cells #[.int .i64 r, .int .i64 c] 27)).drew.cell? ⟨W.heap.size, 0, none⟩ = some (.int .i64 r) := by
    show (W.alloc (.cells #[.int .i64 r, .int .i64 c] 27)).cell? ⟨W.heap.size, 0, none⟩ = _
    rw [cell_of_row _ _ _ _ _ _ hr0]; rfl
  have hc1 : (W.alloc (.cells #[.int .i64 r, .int .i64 c] 27)).drew.cell? ⟨W.heap.size, 1, none⟩ = some (.int .i64 c) := by
    show (W.alloc (.cells #[.int .i64 r, .int .i64 c] 27)).cell? ⟨W.heap.size, 1, none⟩ = _
    rw [cell_of_row _ _ _ _ _ _ hr0]; rfl
  obtain ⟨i, hi, hi2, hw⟩ : ∃ i : Int, (posR fs r c).getD 0 = i ∧ i - 1 = (pos fs r c).getD (-1) ∧ IntKind.i64.wrap (i - 1) = i - 1 := by
    unfold posR
    cases e : pos fs r c with
    | none => exact ⟨0, rfl, rfl, by decide⟩
    | some j =>
      have := pos_le e
      have := h.mo
      refine ⟨j + 1, rfl, by simp, ?_⟩
      simp [IntKind.wrap, IntKind.signed, IntKind.bits]; omega
  rw [hi] at hlk
  rw [← hi2]
  have HB := Lib.hid hb1.drew
  clear hst hr0 hb1 h hr hc hi hi2
  go_enter Try.func40, Try.ntmps40
  go_wp2_with fail
  go_region_held3 (fun w' => w'.cell? ⟨S, 2, none⟩ = some (.map (some M)) ∧ (w'.cell? ⟨W.heap.size, 0, none⟩ = some (.int .i64 r) ∧ w'.cell? ⟨W.heap.size, 1, none⟩ = some (.int .i64 c)) ∧ (Instr.lookup 60 (.map (some M)) (.agg #[.int .i64 r, .int .i64 c]) false).run Try.prog w' = .ok (.int .i64 i) w') (first | exact ⟨d1, ⟨hc0, hc1⟩, hlk⟩ | assumption | go_keep) (fail)
  all_goals
    go_wp2_with fail
    go_ret
    exact ⟨rfl, HB.out⟩
theorem has36 {W : World} {B S M : Nat} {F : Value} {fs : List Fr} {most : Nat} (h : StkR W B S M F fs most) (r c : Int) (hr : I64 r) (hc : I64 c) :
    Calls Try.prog 36 #[.pointer (some ⟨S, 0, none⟩), .agg #[.int .i64 r, .int .i64 c]] W fun e W' => e = .returned (.bool (pos fs r c).isSome) ∧ Below W.heap.size W W' := by
  have hb1 := ((Below.refl W.heap.size W).alloc (Nat.le_refl _) (.cells #[.int .i64 r, .int .i64 c] 27))
  have hst := h.below hb1
  have hr0 := heap_alloc_new W (.cells #[.int .i64 r, .int .i64 c] 27)
  have hc0 : (W.alloc (.cells #[.int .i64 r, .int .i64 c] 27)).cell? ⟨W.heap.size, 0, none⟩ = some (.int .i64 r) := by rw [cell_of_row _ _ _ _ _ _ hr0]; rfl
  have hc1 : (W.alloc (.cells #[.int .i64 r, .int .i64 c] 27)).cell? ⟨W.heap.size, 1, none⟩ = some (.int .i64 c) := by rw [cell_of_row _ _ _ _ _ _ hr0]; rfl
  have HF := Lib.hid (find40 hst r c hr hc)
  have HB := Lib.hid hb1
  have hi : (decide ((pos fs r c).getD (-1) ≥ 0)) = (pos fs r c).isSome := by
    cases e : pos fs r c with
    | none => rfl
    | some j => have := pos_le e; simp; omega
  have HI := Lib.hid hi
  clear hst hr0 hb1 h hi
  go_enter Try.func36, Try.ntmps36
  go_wp2_with fail
  refine HF.out.mono ?_
  rintro e w1 ⟨rfl, hb2⟩
  have HB2 := Lib.hid (HB.out.trans (hb2.mono HB.out.size))
  clear hb2
  go_wp2_with fail
  go_ret
  exact ⟨ret_bool HI.out, HB2.out⟩
theorem heightR29 {W : World} {B S M : Nat} {F : Value} {fs : List Fr} {most : Nat} (h : StkR W B S M F fs most) :
    Calls Try.prog 29 #[.pointer (some ⟨S, 0, none⟩)] W fun e W' => e = .returned (.tuple #[.int .i64 fs.length, .int .i64 most]) ∧ Below W.heap.size W W' := by
  obtain ⟨d0, d2, d1⟩ := cellsT h.blk
  obtain ⟨ao, cap, rfl⟩ := row_any h.row
  go_enter Try.func29, Try.ntmps29
  go_wp2_with fail
  go_region_held3 (fun w' => w'.cell? ⟨S, 0, none⟩ = some (.slice ao fs.length cap) ∧ w'.cell? ⟨S, 1, none⟩ = some (.int .i64 most)) (first | exact ⟨d0, d2⟩ | go_keep) (fail)
  all_goals
    go_wp2_with fail
    go_ret2
    exact ⟨rfl, (Below.refl _ _).drew⟩
theorem allR22 {W : World} {B S M : Nat} {F : Value} {fs : List Fr} {most : Nat} (h : StkR W B S M F fs most) :
    Calls Try.prog 22 #[.pointer (some ⟨S, 0, none⟩)] W fun e W' => ∃ v', e = .returned v' ∧ W'.ownsRow W.heap.size 36 4 v' fs.length (cellsF fs) ∧ Below W.heap.size W W' := by
  obtain ⟨i0, hi, hz0, hz1, hz2⟩ := info_parts info36
  obtain ⟨d0, d1, d2⟩ := cellsT h.blk
  obtain ⟨ao, cap, rfl⟩ := row_any h.row
  have hs := src_all h.row
  have hl : fs.length ≤ 1000000000 := by have := h.mo; omega
  have HS := Lib.hid hs
  clear hs h
  go_enter Try.func22, Try.ntmps22
  go_wp2_with (at_builtin; refine wpList_append_any rfl _ _ 30 rfl W.heap.size 36 i0 _ 4 32 Try.underlying30 hi hz0 hz1 hz2 rfl (by decide) (.slice none 0 0) 0 [] rfl (World.ownsRow_nil _ _ _ _) ao fs.length cap (cellsF fs) rfl HS.out.2 (by rw [cellsF_len]) HS.out.1 (cellsF_one fs) (by unfold maxLen; omega) (by omega) (Nat.le_refl _) ?_)
  intro v' w' hown hgrow
  try simp only [Nat.zero_add, List.nil_append] at hown
  have hb : Below W.heap.size W w' := (Below.refl _ W).grown hgrow (Nat.le_refl _) (fun k hk => by cases hk)
  have HO := Lib.hid (And.intro hown hb)
  clear hown hgrow hb
  go_wp2_with fail
  go_ret
  exact ⟨_, rfl, HO.out.1, HO.out.2⟩
end Go.Proofs.Ytfbmfcipaikaoaa
