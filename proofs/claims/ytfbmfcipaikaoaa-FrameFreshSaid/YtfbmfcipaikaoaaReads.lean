/- spot.May, and what a stack tells: Has, Height, Top, All, From; slices.Clone. -/
import Derived.Test.YtfbmfcipaikaoaaAny
import Derived.Deep.DeepMust
namespace Go.Proofs.Ytfbmfcipaikaoaa
set_option linter.unusedVariables false
set_option linter.unusedSimpArgs false
open Go.RowKit Go.Maps

def mayS (r c : Int) : Bool := decide (0 ≤ r ∧ r < 65536 ∧ 0 ≤ c ∧ c < 702)
theorem ret_bool {a b : Bool} (h : a = b) : Ending.returned (.bool a) = .returned (.bool b) := by rw [h]
set_option maxHeartbeats 800000 in
theorem may27 (r c : Int) (w : World) :
    Calls Try.prog 27 #[.agg #[.int .i64 r, .int .i64 c]] w fun e w' => e = .returned (.bool (mayS r c)) ∧ Below w.heap.size w w' := by
  go_enter Try.func27, Try.ntmps27
  go_wp2
  all_goals go_ret
  all_goals refine ⟨ret_bool ?_, (Below.refl _ _).alloc (Nat.le_refl _) _⟩
  all_goals (unfold mayS; simp_all <;> omega)

set_option maxHeartbeats 800000 in
theorem has12 {W : World} {B S M : Nat} {F : Value} {fs : List Fr} {most : Nat} (h : Stk W B S M F fs most) (r c : Int) (hr : I64 r) (hc : I64 c) :
    Calls Try.prog 12 #[.pointer (some ⟨S, 0, none⟩), .agg #[.int .i64 r, .int .i64 c]] W fun e W' => e = .returned (.bool (pos fs r c).isSome) ∧ Below W.heap.size W W' := by
  have hb1 := ((Below.refl W.heap.size W).alloc (Nat.le_refl _) (.cells #[.int .i64 r, .int .i64 c] 27))
  have hst := h.below hb1.drew
  obtain ⟨_, d1, _⟩ := cellsT hst.blk
  have hlk := hst.map.look hr hc
  have hr0 := heap_alloc_new W (.cells #[.int .i64 r, .int .i64 c] 27)
  have hc0 : (W.alloc (.cells #[.int .i64 r, .int .i64 c] 27)).drew.cell? ⟨W.heap.size, 0, none⟩ = some (.int .i64 r) := by
    show (W.alloc (.cells #[.int .i64 r, .int .i64 c] 27)).cell? ⟨W.heap.size, 0, none⟩ = _
    rw [cell_of_row _ _ _ _ _ _ hr0]; rfl
  have hc1 : (W.alloc (.cells #[.int .i64 r, .int .i64 c] 27)).drew.cell? ⟨W.heap.size, 1, none⟩ = some (.int .i64 c) := by
    show (W.alloc (.cells #[.int .i64 r, .int .i64 c] 27)).cell? ⟨W.heap.size, 1, none⟩ = _
    rw [cell_of_row _ _ _ _ _ _ hr0]; rfl
  have HB := Lib.hid hb1.drew
  clear hst hr0 hb1 h hr hc
  go_enter Try.func12, Try.ntmps12
  go_wp2_with fail
  go_region_held3 (fun w' => w'.cell? ⟨S, 1, none⟩ = some (.map (some M)) ∧ (w'.cell? ⟨W.heap.size, 0, none⟩ = some (.int .i64 r) ∧ w'.cell? ⟨W.heap.size, 1, none⟩ = some (.int .i64 c)) ∧ (Instr.lookup 60 (.map (some M)) (.agg #[.int .i64 r, .int .i64 c]) true).run Try.prog w' = .ok (.tuple #[.int .i64 ((pos fs r c).getD 0), .bool (pos fs r c).isSome]) w') (first | exact ⟨d1, ⟨hc0, hc1⟩, hlk⟩ | assumption | go_keep) (fail)
  all_goals
    go_wp2_with fail
    go_ret
    exact ⟨rfl, HB.out⟩

set_option maxHeartbeats 800000 in
theorem height15 {W : World} {B S M : Nat} {F : Value} {fs : List Fr} {most : Nat} (h : Stk W B S M F fs most) :
    Calls Try.prog 15 #[.pointer (some ⟨S, 0, none⟩)] W fun e W' => e = .returned (.tuple #[.int .i64 fs.length, .int .i64 most]) ∧ Below W.heap.size W W' := by
  obtain ⟨d0, d1, d2⟩ := cellsT h.blk
  obtain ⟨ao, cap, rfl⟩ := row_any h.row
  go_enter Try.func15, Try.ntmps15
  go_wp2_with fail
  go_region_held3 (fun w' => w'.cell? ⟨S, 0, none⟩ = some (.slice ao fs.length cap) ∧ w'.cell? ⟨S, 2, none⟩ = some (.int .i64 most)) (first | exact ⟨d0, d2⟩ | go_keep) (fail)
  all_goals
    go_wp2_with fail
    go_ret2
    exact ⟨rfl, (Below.refl _ _).drew⟩

def zeroF : Fr := ⟨0, 0, 0, 0⟩
def topF (fs : List Fr) : Fr × Bool := match fs.getLast? with
  | some f => (f, true)
  | none => (zeroF, false)
theorem topF_nil : topF [] = (zeroF, false) := rfl
theorem topF_snoc (fs : List Fr) (f : Fr) : topF (fs ++ [f]) = (f, true) := by simp [topF]
theorem list_cases (fs : List Fr) : fs = [] ∨ ∃ gs f, fs = gs ++ [f] := by
  rcases List.eq_nil_or_concat fs with h | ⟨gs, f, h⟩
  · exact .inl h
  · exact .inr ⟨gs, f, by simpa using h⟩
theorem slice_form {w : World} {base : Nat} {e : TypeId} {size n : Nat} {v : Value} {xs : List Value} (h : w.ownsRow base e size v (n + 1) xs) : ∃ g cap, v = .slice (some ⟨g, 0, none⟩) (n + 1) cap := by
  rcases h.2 with ⟨_, h0⟩ | ⟨g, cap, _, rfl, _⟩
  · omega
  · exact ⟨g, cap, rfl⟩
theorem cells4 {w : World} {g : Nat} {a b c d : Value} {t : TypeId} {f : Nat × Nat} (h : w.heap[g]? = some (.cells #[a, b, c, d] t f)) :
    w.cell? ⟨g, 0, none⟩ = some a ∧ w.cell? ⟨g, 1, none⟩ = some b ∧ w.cell? ⟨g, 2, none⟩ = some c ∧ w.cell? ⟨g, 3, none⟩ = some d := by
  refine ⟨?_, ?_, ?_, ?_⟩ <;> (rw [cell_of_row w _ _ _ _ _ h]; rfl)
/-- The cells of the i-th frame. -/
theorem own_frame {w : World} {B g cap n : Nat} {fs : List Fr} (h : w.ownsRow B 36 4 (.slice (some ⟨g, 0, none⟩) n cap) n (cellsF fs)) {i : Nat} {f : Fr} (hi : fs[i]? = some f) :
    w.cell? ⟨g, i * 4, none⟩ = some (.int .i64 f.r) ∧ w.cell? ⟨g, i * 4 + 1, none⟩ = some (.int .i64 f.c) ∧ w.cell? ⟨g, i * 4 + 2, none⟩ = some (.int .i64 f.k) ∧ w.cell? ⟨g, i * 4 + 3, none⟩ = some (.int .i64 f.x) := by
  obtain ⟨h0, h1, h2, h3⟩ := cellsF_get fs i hi
  have hl : (cellsF fs).length = n * 4 := h.1
  have hlt := (List.getElem?_eq_some_iff.1 h0).1
  have hlt3 := (List.getElem?_eq_some_iff.1 h3).1
  refine ⟨?_, ?_, ?_, ?_⟩
  · rw [h.cellAt (i * 4) (by omega)]; exact h0
  · rw [h.cellAt (i * 4 + 1) (by omega)]; exact h1
  · rw [h.cellAt (i * 4 + 2) (by omega)]; exact h2
  · rw [h.cellAt (i * 4 + 3) (by omega)]; exact h3

set_option maxHeartbeats 800000 in
theorem top16 {W : World} {B S M : Nat} {F : Value} {fs : List Fr} {most : Nat} (h : Stk W B S M F fs most) :
    Calls Try.prog 16 #[.pointer (some ⟨S, 0, none⟩)] W fun e W' => e = .returned (.tuple #[frV (topF fs).1, .bool (topF fs).2]) ∧ Below W.heap.size W W' := by
  have hb1 := ((Below.refl W.heap.size W).alloc (Nat.le_refl _) (.cells #[.int .i64 0, .int .i64 0, .int .i64 0, .int .i64 0] 36))
  have r0 := heap_alloc_new W (.cells #[.int .i64 0, .int .i64 0, .int .i64 0, .int .i64 0] 36)
  have sR := (Array.getElem?_eq_some_iff.1 r0).1
  obtain ⟨z0, z1, z2, z3⟩ := cells4 r0
  have f0 := row_froz r0 0
  have f1 := row_froz r0 1
  have f2 := row_froz r0 2
  have f3 := row_froz r0 3
  have hst := h.below hb1
  have hSl := h.lt.1
  have hrow := h.row
  rcases list_cases fs with rfl | ⟨gs, f, rfl⟩
  · obtain ⟨ao, cap, rfl⟩ := row_any hst.row
    obtain ⟨d0, d1, d2⟩ := cellsT hst.blk
    have HB := Lib.hid hb1
    clear hst hrow h r0 hb1
    rw [topF_nil]
    go_enter Try.func16, Try.ntmps16
    go_wp2_with fail
    exact bodyPost_ret (v := .tuple #[frV zeroF, .bool false]) (by simp [results, Try.results16, go_sem, frV, zeroF, z0, z1, z2, z3, f0, f1, f2, f3]) rfl ⟨rfl, by simpa using HB.out⟩
  · rw [List.length_append, List.length_singleton] at hrow
    obtain ⟨g, cap, rfl⟩ := slice_form hrow
    obtain ⟨d0, d1, d2⟩ := cellsT hst.blk
    have hf := own_frame (fs := gs ++ [f]) (i := gs.length) (f := f) (by have := hst.row; simpa using this) (by simp)
    have hf2 := own_frame (fs := gs ++ [f]) (i := gs.length) (f := f) (by have := h.row; simpa using this) (by simp)
    have e0 := (cellsT h.blk).1
    have hK : ∀ o, ((W.alloc o).drew.cell? ⟨S, 0, none⟩ = some (.slice (some ⟨g, 0, none⟩) (gs.length + 1) cap) ∧ ((W.alloc o).drew.cell? ⟨g, gs.length * 4, none⟩ = some (.int .i64 f.r) ∧ (W.alloc o).drew.cell? ⟨g, gs.length * 4 + 1, none⟩ = some (.int .i64 f.c) ∧ (W.alloc o).drew.cell? ⟨g, gs.length * 4 + 2, none⟩ = some (.int .i64 f.k) ∧ (W.alloc o).drew.cell? ⟨g, gs.length * 4 + 3, none⟩ = some (.int .i64 f.x))) := fun o => by
      have hb := ((Below.refl W.heap.size W).alloc (Nat.le_refl _) o).drew
      exact ⟨cell_below e0 hb, cell_below hf2.1 hb, cell_below hf2.2.1 hb, cell_below hf2.2.2.1 hb, cell_below hf2.2.2.2 hb⟩
    clear hf hf2 e0 d1 d2
    have hgW : g < W.heap.size := (hrow.lt g rfl).2
    rw [topF_snoc]
    have HB := Lib.hid hb1
    have hmx : gs.length < 1000000000 := by have := h.mo; simp at this; omega
    clear hst hrow h hb1
    generalize gs.length = n at *
    have hn1 : (n : Int) + 1 - 1 = (n : Int) := by omega
    have hn2 : IntKind.i64.wrap (n : Int) = (n : Int) := by simp [IntKind.wrap, IntKind.signed, IntKind.bits]; omega
    have hn3 : (0 : Int) ≤ (n : Int) := by omega
    have hn4 : (n : Int) < (n : Int) + 1 := by omega
    have hgz : g ≠ W.heap.size := by omega
    have hSz : S ≠ W.heap.size := by omega
    go_enter Try.func16, Try.ntmps16
    go_wp2_with fail
    go_region_held3 (fun w' => w'.cell? ⟨S, 0, none⟩ = some (.slice (some ⟨g, 0, none⟩) (n + 1) cap) ∧ (w'.cell? ⟨g, n * 4, none⟩ = some (.int .i64 f.r) ∧ w'.cell? ⟨g, n * 4 + 1, none⟩ = some (.int .i64 f.c) ∧ w'.cell? ⟨g, n * 4 + 2, none⟩ = some (.int .i64 f.k) ∧ w'.cell? ⟨g, n * 4 + 3, none⟩ = some (.int .i64 f.x))) (first | exact hK _ | go_keep) (fail)
    all_goals
      go_wp2_with fail
      obtain ⟨y0, y1, y2, y3⟩ := cells4 (heap_alloc_new W (.cells #[.int .i64 f.r, .int .i64 f.c, .int .i64 f.k, .int .i64 f.x] 36))
      exact bodyPost_ret (v := .tuple #[frV f, .bool true]) (by simp [results, Try.results16, go_sem, frV, y0, y1, y2, y3]) rfl ⟨rfl, ((Below.refl W.heap.size W).alloc (Nat.le_refl _) _).drew⟩

theorem own_base {w : World} {base base' : Nat} {e : TypeId} {size n : Nat} {v : Value} {xs : List Value} (h : w.ownsRow base e size v n xs) (hb : base' ≤ base) : w.ownsRow base' e size v n xs := by
  refine ⟨h.1, ?_⟩
  rcases h.2 with h0 | ⟨g, cap, cur, hv, hg, rest⟩
  · exact .inl h0
  · exact .inr ⟨g, cap, cur, hv, by omega, rest⟩
/-- What an append finds at a slice. -/
def Src (W : World) (A : Option Addr) (fs : List Fr) : Prop := ∀ ad, A = some ad → ∀ j u, (cellsF fs)[j]? = some u → W.cell? (ad.add j) = some u
theorem Src.below {W W' : World} {A : Option Addr} {fs : List Fr} (h : Src W A fs) (hb : Below W.heap.size W W') : Src W' A fs := fun ad e j u hu => cell_below (h ad e j u hu) hb
theorem own_cells {w : World} {B g cap n : Nat} {xs : List Value} {e : TypeId} {size : Nat} (h : w.ownsRow B e size (.slice (some ⟨g, 0, none⟩) n cap) n xs) : ∀ j u, xs[j]? = some u → w.cell? ⟨g, j, none⟩ = some u := fun j u hu => by
  have hj := (List.getElem?_eq_some_iff.1 hu).1
  rw [h.cellAt j (by have := h.1; omega), hu]
theorem cellsF_drop (fs : List Fr) (k : Nat) (hk : k ≤ fs.length) (j : Nat) (u : Value) (h : (cellsF (fs.drop k))[j]? = some u) : (cellsF fs)[k * 4 + j]? = some u := by
  have e : cellsF fs = cellsF (fs.take k) ++ cellsF (fs.drop k) := by rw [← cellsF_app, List.take_append_drop]
  rw [e, List.getElem?_append_right (by rw [cellsF_len]; simp; omega), cellsF_len, List.length_take, Nat.min_eq_left hk]
  rw [show k * 4 + j - k * 4 = j by omega]
  exact h
theorem src_all {W : World} {B n : Nat} {A : Option Addr} {cap : Nat} {fs : List Fr} (h : W.ownsRow B 36 4 (.slice A n cap) n (cellsF fs)) : Src W A fs ∧ (A = none → n = 0 ∧ cap = 0) := by
  rcases h.2 with ⟨e, h0⟩ | ⟨g, c, cur, e, _⟩
  · cases e
    exact ⟨fun ad h => (by cases h), fun _ => ⟨h0, rfl⟩⟩
  · obtain ⟨rfl, rfl⟩ : A = some ⟨g, 0, none⟩ ∧ cap = c := by simpa using e
    refine ⟨?_, fun h => by cases h⟩
    rintro ad had j u hu
    cases had
    rw [Addr.add_lit, Nat.zero_add]
    exact own_cells h j u hu
theorem src_drop {W : World} {B g cap n : Nat} {fs : List Fr} (h : W.ownsRow B 36 4 (.slice (some ⟨g, 0, none⟩) n cap) n (cellsF fs)) (k : Nat) (hk : k ≤ fs.length) : Src W (some ⟨g, k * 4, none⟩) (fs.drop k) := by
  rintro ad had j u hu
  cases had
  rw [Addr.add_lit]
  exact own_cells h _ u (cellsF_drop fs k hk j u hu)

theorem info36 : (Try.prog.info? 36).map (fun i => (i.zero, i.size, i.bytes)) = some (some (.agg #[.int .i64 0, .int .i64 0, .int .i64 0, .int .i64 0]), 4, 32) := by kernel_rfl

set_option maxHeartbeats 800000 in
theorem clone26 (W : World) (A : Option Addr) (n C : Nat) (fs : List Fr) (hs : Src W A fs) (hA : A = none → n = 0 ∧ C = 0) (hn : fs.length = n) (hl : n ≤ 1000000000) :
    Calls Try.prog 26 #[.slice A n C] W fun e W' => ∃ v', e = .returned v' ∧ W'.ownsRow W.heap.size 36 4 v' n (cellsF fs) ∧ Below W.heap.size W W' := by
  obtain ⟨i0, hi, hz0, hz1, hz2⟩ := info_parts info36
  have qe : ∀ (a : Option Addr) (l c : Nat) (w : World), (binOp .eql 30 (.slice a l c) (.slice none 0 0)).run Try.prog w = .ok (.bool a.isNone) w := fun a l c w => by
    simp only [binOp]
    simp [run_equal_slice_nil w 30 36 a l c Try.underlying30]
  cases A with
  | none =>
    obtain ⟨rfl, rfl⟩ := hA rfl
    have hf : fs = [] := List.length_eq_zero_iff.1 hn
    subst hf
    go_enter Try.func26, Try.ntmps26
    go_wp2_with fail
    go_ret
    exact ⟨_, rfl, World.ownsRow_nil _ _ _ _, Below.refl _ _⟩
  | some ad =>
    have HS := Lib.hid hs
    clear hs hA
    go_enter Try.func26, Try.ntmps26
    go_wp2_with (at_builtin; refine wpList_append_any rfl _ _ 30 rfl W.heap.size 36 i0 _ 4 32 Try.underlying30 hi hz0 hz1 hz2 rfl (by decide) (.slice (some ⟨W.heap.size, 0, none⟩) 0 0) 0 [] rfl (World.ownsRow_made W #[] 0 (Nat.le_refl _) (by unfold maxLen; omega) rfl) (some ad) n C (cellsF fs) rfl (fun h => by cases h) (by rw [cellsF_len, hn]) (HS.out.below ((Below.refl _ W).alloc (Nat.le_refl _) _)) (cellsF_one fs) (by unfold maxLen; omega) (by omega) (by simp) ?_)
    intro v' w' hown hgrow
    have hb : Below W.heap.size W w' := ((Below.refl _ W).alloc (Nat.le_refl _) _).grown hgrow (by simp) (fun k hk => by cases hk; exact Nat.le_refl _)
    try simp only [Nat.zero_add, List.nil_append] at hown
    have HO := Lib.hid (And.intro hown hb)
    clear hown hgrow hb
    go_wp2_with fail
    go_ret
    exact ⟨_, rfl, HO.out.1, HO.out.2⟩

theorem all9 {W : World} {B S M : Nat} {F : Value} {fs : List Fr} {most : Nat} (h : Stk W B S M F fs most) :
    Calls Try.prog 9 #[.pointer (some ⟨S, 0, none⟩)] W fun e W' => ∃ v', e = .returned v' ∧ W'.ownsRow W.heap.size 36 4 v' fs.length (cellsF fs) ∧ Below W.heap.size W W' := by
  obtain ⟨d0, d1, d2⟩ := cellsT h.blk
  obtain ⟨ao, cap, rfl⟩ := row_any h.row
  have hs := src_all h.row
  have hl : fs.length ≤ 1000000000 := by have := h.mo; omega
  have HS := Lib.hid hs
  clear hs h
  go_enter Try.func9, Try.ntmps9
  go_wp2_with fail
  refine (clone26 W ao fs.length cap fs HS.out.1 HS.out.2 rfl hl).mono ?_
  rintro e w1 ⟨v', rfl, hown, hb⟩
  have HO := Lib.hid (And.intro hown hb)
  clear hown hb
  go_wp2_with fail
  go_ret
  exact ⟨_, rfl, HO.out.1, HO.out.2⟩

set_option maxHeartbeats 800000 in
theorem from17_none {W : World} {B S M : Nat} {F : Value} {fs : List Fr} {most : Nat} (h : Stk W B S M F fs most) (r c : Int) (hr : I64 r) (hc : I64 c) (hp : pos fs r c = none) :
    Calls Try.prog 17 #[.pointer (some ⟨S, 0, none⟩), .agg #[.int .i64 r, .int .i64 c]] W fun e W' => e = .returned (.tuple #[.slice none 0 0, .int .i64 3]) ∧ Below W.heap.size W W' := by
  have hb1 := ((Below.refl W.heap.size W).alloc (Nat.le_refl _) (.cells #[.int .i64 r, .int .i64 c] 27))
  have hst := h.below hb1.drew
  obtain ⟨_, d1, _⟩ := cellsT hst.blk
  have hlk := hst.map.look hr hc
  rw [hp] at hlk
  have hr0 := heap_alloc_new W (.cells #[.int .i64 r, .int .i64 c] 27)
  have hc0 : (W.alloc (.cells #[.int .i64 r, .int .i64 c] 27)).drew.cell? ⟨W.heap.size, 0, none⟩ = some (.int .i64 r) := by
    show (W.alloc (.cells #[.int .i64 r, .int .i64 c] 27)).cell? ⟨W.heap.size, 0, none⟩ = _
    rw [cell_of_row _ _ _ _ _ _ hr0]; rfl
  have hc1 : (W.alloc (.cells #[.int .i64 r, .int .i64 c] 27)).drew.cell? ⟨W.heap.size, 1, none⟩ = some (.int .i64 c) := by
    show (W.alloc (.cells #[.int .i64 r, .int .i64 c] 27)).cell? ⟨W.heap.size, 1, none⟩ = _
    rw [cell_of_row _ _ _ _ _ _ hr0]; rfl
  have HB := Lib.hid hb1.drew
  clear hst hr0 hb1 h hr hc hp
  go_enter Try.func17, Try.ntmps17
  go_wp2_with fail
  go_region_held3 (fun w' => w'.cell? ⟨S, 1, none⟩ = some (.map (some M)) ∧ (w'.cell? ⟨W.heap.size, 0, none⟩ = some (.int .i64 r) ∧ w'.cell? ⟨W.heap.size, 1, none⟩ = some (.int .i64 c)) ∧ (Instr.lookup 60 (.map (some M)) (.agg #[.int .i64 r, .int .i64 c]) true).run Try.prog w' = .ok (.tuple #[.int .i64 ((none : Option Int).getD 0), .bool (none : Option Int).isSome]) w') (first | exact ⟨d1, ⟨hc0, hc1⟩, hlk⟩ | assumption | go_keep) (fail)
  all_goals
    go_wp2_with fail
    go_ret2
    exact ⟨rfl, HB.out⟩

set_option maxHeartbeats 800000 in
theorem from17_some {W : World} {B S M : Nat} {F : Value} {fs : List Fr} {most : Nat} (h : Stk W B S M F fs most) (r c : Int) (hr : I64 r) (hc : I64 c) (j : Nat) (hp : pos fs r c = some (j : Int)) :
    Calls Try.prog 17 #[.pointer (some ⟨S, 0, none⟩), .agg #[.int .i64 r, .int .i64 c]] W fun e W' => ∃ v', e = .returned (.tuple #[v', .int .i64 0]) ∧ W'.ownsRow W.heap.size 36 4 v' (fs.length - j) (cellsF (fs.drop j)) ∧ Below W.heap.size W W' := by
  have hb1 := ((Below.refl W.heap.size W).alloc (Nat.le_refl _) (.cells #[.int .i64 r, .int .i64 c] 27))
  have hst := h.below hb1.drew
  obtain ⟨d0, d1, _⟩ := cellsT hst.blk
  have hlk := hst.map.look hr hc
  rw [hp] at hlk
  have hlk' : (Instr.lookup 60 (.map (some M)) (.agg #[.int .i64 r, .int .i64 c]) true).run Try.prog (W.alloc (.cells #[.int .i64 r, .int .i64 c] 27)).drew = .ok (.tuple #[.int .i64 (j : Int), .bool true]) (W.alloc (.cells #[.int .i64 r, .int .i64 c] 27)).drew := hlk
  have hr0 := heap_alloc_new W (.cells #[.int .i64 r, .int .i64 c] 27)
  have hc0 : (W.alloc (.cells #[.int .i64 r, .int .i64 c] 27)).drew.cell? ⟨W.heap.size, 0, none⟩ = some (.int .i64 r) := by
    show (W.alloc (.cells #[.int .i64 r, .int .i64 c] 27)).cell? ⟨W.heap.size, 0, none⟩ = _
    rw [cell_of_row _ _ _ _ _ _ hr0]; rfl
  have hc1 : (W.alloc (.cells #[.int .i64 r, .int .i64 c] 27)).drew.cell? ⟨W.heap.size, 1, none⟩ = some (.int .i64 c) := by
    show (W.alloc (.cells #[.int .i64 r, .int .i64 c] 27)).cell? ⟨W.heap.size, 1, none⟩ = _
    rw [cell_of_row _ _ _ _ _ _ hr0]; rfl
  obtain ⟨j', f, ej, hjf, _⟩ := pos_at hp
  have ej' : j = j' := by omega
  subst ej'
  have hjl := (List.getElem?_eq_some_iff.1 hjf).1
  have hrow := hst.row
  obtain ⟨g, cap, hnc, hF⟩ := (row_cases hrow).resolve_left (fun e => by have := e.2; omega)
  subst hF
  have hl : fs.length ≤ 1000000000 := by have := h.mo; omega
  have HS := Lib.hid (src_drop hrow j (by omega))
  have HB := Lib.hid hb1.drew
  have hne : ¬ cap = j := by omega
  have hj0 : (0 : Int) ≤ (j : Int) := by omega
  have hj1 : (j : Int) ≤ (fs.length : Int) := by omega
  have hj2 : (fs.length : Int) ≤ (cap : Int) := by omega
  have hj3 : j ≤ fs.length := by omega
  have hj4 : fs.length ≤ cap := hnc
  have HCL := Lib.hid (fun v W2 => clone26 W2 v (fs.length - j) (cap - j) (fs.drop j))
  have hdl : (fs.drop j).length = fs.length - j := by simp
  clear hst hr0 hb1 h hr hc hp hrow hlk hjf ej hnc
  go_enter Try.func17, Try.ntmps17
  go_wp2_with fail
  go_region_held3 (fun w' => w'.cell? ⟨S, 1, none⟩ = some (.map (some M)) ∧ (w'.cell? ⟨W.heap.size, 0, none⟩ = some (.int .i64 r) ∧ w'.cell? ⟨W.heap.size, 1, none⟩ = some (.int .i64 c)) ∧ (Instr.lookup 60 (.map (some M)) (.agg #[.int .i64 r, .int .i64 c]) true).run Try.prog w' = .ok (.tuple #[.int .i64 (j : Int), .bool true]) w') (first | exact ⟨d1, ⟨hc0, hc1⟩, hlk'⟩ | assumption | go_keep) (fail)
  all_goals
    go_wp2_with fail
    refine (HCL.out _ _ HS.out (fun e => by cases e) hdl (by omega)).mono ?_
    rintro e w1 ⟨v', rfl, hown, hb⟩
    have HO := Lib.hid (And.intro (own_base hown (by simp : W.heap.size ≤ (W.alloc (.cells #[.int .i64 r, .int .i64 c] 27)).drew.heap.size)) (HB.out.trans (hb.mono HB.out.size)))
    clear hown hb
    go_wp2_with fail
    go_ret2
    exact ⟨_, rfl, HO.out.1, HO.out.2⟩
end Go.Proofs.Ytfbmfcipaikaoaa
