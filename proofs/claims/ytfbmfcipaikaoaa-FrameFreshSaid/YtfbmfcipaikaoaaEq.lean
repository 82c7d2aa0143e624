/- Eq of two lists of the same frames; Next. -/
import Derived.Test.YtfbmfcipaikaoaaWrites2
namespace Go.Proofs.Ytfbmfcipaikaoaa
set_option linter.unusedVariables false
set_option linter.unusedSimpArgs false
open Go.RowKit Go.Maps

/-- A slice holds frames. -/
def FrsAt (W : World) (A : Option Addr) (fs : List Fr) : Prop := ∀ i f, fs[i]? = some f → ∃ b off, A = some ⟨b, off, none⟩ ∧ b < W.heap.size ∧ W.cell? ⟨b, off + i * 4, none⟩ = some (.int .i64 f.r) ∧ W.cell? ⟨b, off + i * 4 + 1, none⟩ = some (.int .i64 f.c) ∧ W.cell? ⟨b, off + i * 4 + 2, none⟩ = some (.int .i64 f.k) ∧ W.cell? ⟨b, off + i * 4 + 3, none⟩ = some (.int .i64 f.x)
theorem FrsAt.below {W W' : World} {A : Option Addr} {fs : List Fr} (h : FrsAt W A fs) (hb : Below W.heap.size W W') : FrsAt W' A fs := fun i f hi => by
  obtain ⟨b, off, e, hl, h0, h1, h2, h3⟩ := h i f hi
  exact ⟨b, off, e, Nat.lt_of_lt_of_le hl hb.size, cell_below h0 hb, cell_below h1 hb, cell_below h2 hb, cell_below h3 hb⟩
theorem frs_own {W : World} {B n : Nat} {A : Option Addr} {cap : Nat} {fs : List Fr} (h : W.ownsRow B 36 4 (.slice A n cap) n (cellsF fs)) : FrsAt W A fs := fun i f hi => by
  rcases h.2 with ⟨e, h0⟩ | ⟨g, c, cur, e, _, hg, _⟩
  · have := h.1
    rw [h0, cellsF_len] at this
    have h1 := (List.getElem?_eq_some_iff.1 hi).1
    omega
  · obtain ⟨rfl, rfl⟩ : A = some ⟨g, 0, none⟩ ∧ cap = c := by simpa using e
    obtain ⟨a0, a1, a2, a3⟩ := own_frame h hi
    exact ⟨g, 0, rfl, (Array.getElem?_eq_some_iff.1 hg).1, by rw [Nat.zero_add]; exact a0, by rw [Nat.zero_add]; exact a1, by rw [Nat.zero_add]; exact a2, by rw [Nat.zero_add]; exact a3⟩
theorem FrsAt.take {W : World} {A : Option Addr} {fs : List Fr} (h : FrsAt W A fs) (k : Nat) : FrsAt W A (fs.take k) := fun i f hi => h i f (by
  rw [List.getElem?_take] at hi
  split at hi
  · exact hi
  · cases hi)
theorem FrsAt.drop {W : World} {b off : Nat} {fs : List Fr} (h : FrsAt W (some ⟨b, off, none⟩) fs) (k : Nat) : FrsAt W (some ⟨b, off + k * 4, none⟩) (fs.drop k) := fun i f hi => by
  rw [List.getElem?_drop] at hi
  obtain ⟨b', off', e, hl, h0, h1, h2, h3⟩ := h (k + i) f hi
  cases e
  refine ⟨b, off + k * 4, rfl, hl, ?_, ?_, ?_, ?_⟩
  · rw [show off + k * 4 + i * 4 = off + (k + i) * 4 by omega]; exact h0
  · rw [show off + k * 4 + i * 4 + 1 = off + (k + i) * 4 + 1 by omega]; exact h1
  · rw [show off + k * 4 + i * 4 + 2 = off + (k + i) * 4 + 2 by omega]; exact h2
  · rw [show off + k * 4 + i * 4 + 3 = off + (k + i) * 4 + 3 by omega]; exact h3

set_option maxRecDepth 100000 in
set_option maxHeartbeats 1000000 in
theorem eq11 (A B : Option Addr) (C D n : Nat) (fs : List Fr) (W : World) (ha : FrsAt W A fs) (hb : FrsAt W B fs) (hn : fs.length = n) (hl : n ≤ 1000000000) :
    Calls Try.prog 11 #[.slice A n C, .slice B n D] W fun e W' => e = .returned (.bool true) ∧ Below W.heap.size W W' := by
  have HA := Lib.hid ha
  have HB := Lib.hid hb
  clear ha hb
  go_enter Try.func11, Try.ntmps11
  go_wp2_with fail
  go_loopw [5] (fun i wr => ∃ k : Nat, k ≤ n ∧ i = .int .i64 k ∧ Below W.heap.size W wr) (fun i _ => n - (intOf i).toNat)
  case atStart => exact ⟨0, by omega, rfl, Below.refl _ _⟩
  case round =>
    obtain ⟨k, hk, rfl, hw⟩ := hrel
    by_cases hlt : k < n
    · obtain ⟨f, hf⟩ : ∃ f, fs[k]? = some f := ⟨_, List.getElem?_eq_getElem (by omega)⟩
      obtain ⟨b, off, rfl, _, a0, a1, a2, a3⟩ := (HA.out.below hw) k f hf
      obtain ⟨b', off', rfl, _, c0, c1, c2, c3⟩ := (HB.out.below hw) k f hf
      have HW := Lib.hid hw.drew
      clear hw hf
      go_wp2_with fail
      go_region_held3 (fun w' => (w'.cell? ⟨b, off + k * 4, none⟩ = some (.int .i64 f.r) ∧ w'.cell? ⟨b, off + k * 4 + 1, none⟩ = some (.int .i64 f.c) ∧ w'.cell? ⟨b, off + k * 4 + 2, none⟩ = some (.int .i64 f.k) ∧ w'.cell? ⟨b, off + k * 4 + 3, none⟩ = some (.int .i64 f.x)) ∧ (w'.cell? ⟨b', off' + k * 4, none⟩ = some (.int .i64 f.r) ∧ w'.cell? ⟨b', off' + k * 4 + 1, none⟩ = some (.int .i64 f.c) ∧ w'.cell? ⟨b', off' + k * 4 + 2, none⟩ = some (.int .i64 f.k) ∧ w'.cell? ⟨b', off' + k * 4 + 3, none⟩ = some (.int .i64 f.x))) (first | exact ⟨⟨a0, a1, a2, a3⟩, ⟨c0, c1, c2, c3⟩⟩ | go_keep) (fail)
      go_wp2_with fail
      go_roundw
      case rel => exact ⟨k + 1, by omega, by go_num, HW.out⟩
      case measure => simp [intOf]; omega
    · obtain rfl : k = n := by omega
      have HW := Lib.hid hw
      clear hw
      go_wp2_with fail
      go_ret
      exact ⟨rfl, HW.out⟩

theorem set_cells (gs : List Fr) (f : Fr) (i : Int) : (cellsF (gs ++ [f])).set (gs.length * 4 + 3) (.int .i64 i) = cellsF (gs ++ [{ f with x := i }]) := by
  rw [cellsF_app, cellsF_app, List.set_append_right _ _ (by rw [cellsF_len]; omega), cellsF_len, show gs.length * 4 + 3 - gs.length * 4 = 3 by omega]
  rfl
set_option maxHeartbeats 1000000 in
theorem next25_some {W : World} {B S M : Nat} {F : Value} {fs : List Fr} {f : Fr} {most : Nat} (h : Stk W B S M F (fs ++ [f]) most) (i : Int) (h0 : 0 ≤ i) (h1 : i ≤ 9223372036854775807) :
    Calls Try.prog 25 #[.pointer (some ⟨S, 0, none⟩), .int .i64 i] W fun e W' => e = .returned (.int .i64 0) ∧ Stk W' B S M F (fs ++ [{ f with x := i }]) most ∧ Apt (SX S M F) W W' := by
  obtain ⟨n, hn⟩ : ∃ n, fs.length = n := ⟨_, rfl⟩
  have hlen : (fs ++ [f]).length = n + 1 := by simp [hn]
  have hrow := h.row
  rw [hlen] at hrow
  obtain ⟨g, cap, hF⟩ := slice_form hrow
  subst hF
  obtain ⟨d0, d1, d2⟩ := cellsT h.blk
  obtain ⟨c0, c1, c2, c3⟩ := own_frame (f := f) hrow (i := n) (by simp [← hn])
  have hz : W.frozen? ⟨g, n * 4 + 3, none⟩ = false := by
    rcases hrow.2 with ⟨e, _⟩ | ⟨g', cap', cur, e, _, hg, _⟩
    · cases e
    · cases e; exact row_froz hg _
  have hst := World.ownsRow.stored hrow (n * 4 + 3) (.int .i64 i)
  rw [← hn, set_cells] at hst
  have hmo := h.mo
  rw [hlen] at hmo
  have hn1 : (n : Int) + 1 - 1 = (n : Int) := by omega
  have hn2 : ¬ i < 0 := by omega
  have H := Lib.hid (And.intro h hst)
  clear h hst hrow d1 d2 c0 c1 c2
  go_enter Try.func25, Try.ntmps25
  go_wp2_with fail
  go_ret
  obtain ⟨h, hst⟩ := H.out
  rw [hn] at hst
  have ha : Apt (SX S M (.slice (some ⟨g, 0, none⟩) (n + 1) cap)) W (W.setCell ⟨g, n * 4 + 3, none⟩ (.int .i64 i)) := (Apt.refl _ W).setCell (p := ⟨g, n * 4 + 3, none⟩) (.inl (.inr (.inr rfl))) _
  have hag : Apt (fun k => k = g) W (W.setCell ⟨g, n * 4 + 3, none⟩ (.int .i64 i)) := Apt.setCell (X := fun k => k = g) (p := ⟨g, n * 4 + 3, none⟩) (Apt.refl _ W) (.inl rfl) _
  have hgS : S ≠ g := fun e => h.fS (by rw [e]; rfl)
  have hgM : M ≠ g := fun e => h.fM (by rw [e]; rfl)
  refine ⟨rfl, ⟨?_, ?_, ?_, h.sm, h.fS, h.fM, h.bS, h.bM, ?_, fun x hx => ?_, ?_⟩, ha⟩
  · exact (hag.block S h.lt.1 hgS).trans h.blk
  · rw [List.length_append, List.length_singleton, hn]
    exact hst.1
  · have := hag.map h.map hgM
    rw [List.length_append, List.length_singleton] at this ⊢
    rwa [pos_same fs { f with x := i } f rfl rfl]
  · have := Uq.snoc.1 h.uq
    exact Uq.snoc.2 this
  · rcases List.mem_append.1 hx with hx | hx
    · exact h.ft x (by simp [hx])
    · rw [List.mem_singleton] at hx
      subst hx
      have := h.ft f (by simp)
      exact ⟨this.1, this.2.1, h0, h1⟩
  · have := h.mo
    rw [List.length_append, List.length_singleton] at this ⊢
    exact this
end Go.Proofs.Ytfbmfcipaikaoaa
