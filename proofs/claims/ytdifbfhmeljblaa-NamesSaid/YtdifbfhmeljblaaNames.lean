/- quadrillelaw0.Names: the names of package api stand for the document's numbers. No condition. -/
import Derived.Test.YtdifbfhmeljblaaFrame
import Derived.WalkKit
import Derived.WalkSpells
import Derived.WalkLawsBesides
import Derived.ProofKit
import Derived.OpenShut
import Derived.BigQuiet
import Derived.Deep.QuietTactic
import Derived.Lib.Hide
import Derived.OwnWalk
namespace Go.Proofs.Ytdifbfhmeljblaa
set_option linter.unusedVariables false
set_option linter.unusedSimpArgs false
open Go.RowKit

set_option maxHeartbeats 400000 in
theorem num_any (a : Int) (w : World) :
    Calls Try.prog 8 #[.int .i64 a] w fun e w' => e = .returned (.int .i64 a) ∧ w = w' := by
  go_enter Try.func8, Try.ntmps8
  go_wp2
  go_ret
  exact ⟨rfl, rfl⟩

/-- Two blocks hold the same n numbers. -/
def Twin (w : World) (b c n : Nat) : Prop := ∀ k, k < n → ∃ x : Int, w.cell? ⟨b, k, none⟩ = some (.int .i64 x) ∧ w.cell? ⟨c, k, none⟩ = some (.int .i64 x)

def ints (l : List Int) : Array Value := (l.map (Value.int .i64)).toArray

theorem twin_of (w : World) (b c : Nat) (l : List Int) (t u : TypeId) (f g : Nat × Nat) (hb : w.heap[b]? = some (.cells (ints l) t f)) (hc : w.heap[c]? = some (.cells (ints l) u g)) : Twin w b c l.length := by
  intro k hk
  refine ⟨l[k], ?_, ?_⟩
  · rw [cell_of_row w b k (ints l) t f hb]; simp [ints, hk]
  · rw [cell_of_row w c k (ints l) u g hc]; simp [ints, hk]

theorem twin_new (w : World) (l : List Int) (cs : Array Value) (t : TypeId) (h : cs = ints l) : Twin ((w.alloc (.cells cs t)).alloc (.cells cs t)) w.heap.size (w.heap.size + 1) l.length := by
  subst h
  refine twin_of _ _ _ l t t (0, 0) (0, 0) ?_ ?_
  · exact (Below.heap_alloc _ _ _ (by simp)).trans (heap_alloc_new w _)
  · have := heap_alloc_new (w.alloc (.cells (ints l) t)) (.cells (ints l) t)
    simpa using this

theorem below_drewN {B : Nat} {a w : World} (h : Below B a w) (n : Nat) : Below B a (w.drewN n) := ⟨h.os, h.tape, h.output, h.size, h.block⟩

def all200 : List Int := [0, 1, 2, 3, 4, 5, 10, 11, 12, 13, 14, 20, 21, 22, 23, 24, 25, 26, 27, 28, 65536, 702, 4096, 32767, 65536, 512, 64, 16384, 256, 65536, 65536, 4096, 16777216, 67108864, 65536, 64, 64, 16, 16, 268435456, 65536, 131072, 0, 1, 2, 3, 4, 1, 2, 3, 4, 5, 6, 7, 1, 2, 3, 4, 5, 6, 7, 8, 9, 1, 2, 3, 1, 2, 3, 4, 5, 6, 7, 8, 9, 10, 11, 12, 1, 2, 3, 4, 5, 6, 7, 0, 1, 2, 3, 1, 2, 3, 4, 5, 6, 1, 2, 3, 4, 5, 6, 7, 8, 9, 10, 11, 12, 13, 14, 15, 16, 17, 18, 19, 20, 21, 22, 23, 24, 25, 26, 27, 28, 29, 30, 31, 32, 33, 34, 35, 36, 37, 38, 39, 40, 41, 42, 43, 44, 45, 46, 47, 48, 49, 50, 51, 52, 53, 54, 55, 56, 57, 58, 59, 60, 61, 62, 63, 64, 65, 66, 67, 68, 69, 70, 71, 72, 73, 74, 75, 76, 76, 1, 2, 3, 4, 5, 6, 7, 8, 9, 10, 11, 12, 13, 14, 15, 16, 17, 18, 19, 20, 8192, 1024, 1024, 0, 1, 2, 3, 16]

theorem wpList_buildSlice_const {P : Program} {ops : Array Oper} {rest : List Oper} {o : Oper} {a : Act} {w : World} {Q : Exit → Act → World → Prop} (hg : o.guard = none)
    (t len : Nat) (parts : Array (Nat × Operand)) (_hop : o.op = .buildSlice t len parts) (cs : Array Value) (e : TypeId)
    (hrun : ∀ (a : Act) (w : World), (execOp a.eval o).run P w = .ok (.value (.slice (some ⟨w.heap.size, 0, none⟩) len len)) (w.alloc (.cells cs e)))
    (h : wpList P ops Q rest (a.put o.dst (.slice (some ⟨w.heap.size, 0, none⟩) len len)) (w.alloc (.cells cs e))) : wpList P ops Q (o :: rest) a w := by
  refine wpList_plain hg fun K hK => ?_
  unfold Oper.wp
  rw [hrun]
  exact hK _ _ h

set_option maxRecDepth 100000 in
set_option maxHeartbeats 800000 in
theorem names_walk (w : World) :
    Calls Try.prog 3 #[] w fun e w' => e = .returned (.bool true) ∧ Below w.heap.size w w' := by
  go_enter Try.func3, Try.ntmps3
  go_wp2_with (go_at_call 8; refine (num_any _ _).mono ?_; rintro e w' ⟨rfl, rfl⟩)
  generalize hW : World.alloc _ _ = W
  have ht : Twin W w.heap.size (w.heap.size + 1) 20 := by
    subst hW
    exact twin_new w [0, 1, 2, 3, 4, 5, 10, 11, 12, 13, 14, 20, 21, 22, 23, 24, 25, 26, 27, 28] _ _ (by rfl)
  have hb : Below w.heap.size w W := by
    subst hW
    exact ((Below.refl _ _).alloc (Nat.le_refl _) _).alloc (by simp) _
  clear hW
  go_loopw [3] (fun i wr => ∃ k n : Nat, k ≤ 20 ∧ i = .int .i64 k ∧ wr = W.drewN n) (fun i _ => 20 - (intOf i).toNat)
  case atStart => exact ⟨0, 0, by omega, rfl, rfl⟩
  case round =>
    obtain ⟨k, n, hk, rfl, rfl⟩ := hrel
    by_cases hlt : k < 20
    · obtain ⟨x, hx1, hx2⟩ := ht k hlt
      have HT := Lib.hid ht
      have HB := Lib.hid hb
      clear ht hb
      go_wp2
      go_quiet (fail)
      go_wp2
      go_roundw
      case rel => exact ⟨k + 1, _, by omega, by go_num, rfl⟩
      case measure => simp [intOf]; omega
    · obtain rfl : k = 20 := by omega
      clear ht
      have HB := Lib.hid hb
      clear hb
      go_wp2_with (refine wpList_buildSlice_const rfl 24 200 _ rfl (ints all200) 3 (fun _ _ => by kernel_rfl) ?_; simp only [Act.put, List.setIfInBounds_toArray, List.set_cons_zero, List.set_cons_succ])
      have ht2 := twin_new (W.drewN n) all200 (ints all200) 3 rfl
      have hb2 : Below w.heap.size w (((W.drewN n).alloc (.cells (ints all200) 3)).alloc (.cells (ints all200) 3)) :=
        ((below_drewN HB.out n).alloc (HB.out.size) _).alloc (Nat.le_trans HB.out.size (by simp)) _
      have hl : all200.length = 200 := by rfl
      rw [hl] at ht2
      clear HB hl
      simp only [World.heap_drewN, World.size_alloc] at ht2 ⊢
      generalize hW : World.alloc _ _ = V at ht2 hb2 ⊢
      generalize W.heap.size = B at ht2 ⊢
      clear hW
      go_loopw [6] (fun i wr => ∃ k m : Nat, k ≤ 200 ∧ i = .int .i64 k ∧ wr = V.drewN m) (fun i _ => 200 - (intOf i).toNat)
      case atStart => exact ⟨0, 0, by omega, rfl, rfl⟩
      case round =>
        obtain ⟨k, m, hk, rfl, rfl⟩ := hrel
        have HB := Lib.hid hb2
        by_cases hlt : k < 200
        · obtain ⟨x, hx1, hx2⟩ := ht2 k hlt
          clear ht2 hb2
          go_wp2
          go_quiet (fail)
          go_wp2
          go_roundw
          case rel => exact ⟨k + 1, _, by omega, by go_num, rfl⟩
          case measure => simp [intOf]; omega
        · obtain rfl : k = 200 := by omega
          clear ht2 hb2
          go_wp2
          go_ret
          exact ⟨rfl, below_drewN HB.out m⟩

open Go.ChangeShapes Go.WideShapes Go.ChangeAt

set_option maxRecDepth 100000 in
theorem names_lifted (os : Os) (started : os.Started) (H : Type) (enc : TypeId × Value → H) :
    ReturnsInHanded {} Try.checked os 3 .any (Rows.namesSpec.pre6 enc Try.prog Try.f3 Rows.namesRow.domain false) (Rows.namesSpec.post enc Try.prog Try.f3 false true false false) := by
  refine returnsInHanded_of_change (C := Try.checked) own_knob started (by kernel_rfl) Try.func3
    (ChangeSpec.witness6 (enc := enc) (C := Try.checked) false ⟨#[], #[], []⟩ 8 (by kernel_rfl) (by kernel_rfl) (by kernel_rfl) (by kernel_rfl)) ?_
  intro W base args ds gs before _ hW _ _
  have hW' := hW
  obtain ⟨p, q, hA0, hV, rfl, _, _⟩ := hW
  have hA : DataW.TrodAll enc Try.prog W 0 (fun _ => true) true Try.f3.params.toList args.toList ds p := hA0
  rw [Try.params3] at hA
  obtain ⟨rfl, rfl, rfl⟩ := trodAll_none hA
  exact calls_law laidOut (by kernel_rfl) rfl Try.underlying4 rfl hW' ⟨rfl, rfl, rfl⟩ (names_walk W)

theorem names_over : Rows.namesRow.holds Try.pinned (OpenSpec.ofChange Rows.namesSpec) :=
  OpenClaim.holds_of_wide 3 Try.f3 rfl rfl rfl rfl rfl rfl rfl ⟨rfl, rfl, rfl, rfl, rfl⟩ rfl rfl rfl rfl rfl (by kernel_rfl) Try.func3 (by kernel_rfl)
    (of_decide_eq_true (by kernel_rfl)) (by unfold Func.isWrapper; first | (rw [if_pos (by decide +kernel)]; kernel_rfl) | (rw [if_neg (by decide +kernel)]; exact ⟨rfl, rfl⟩))
    (fun os started H enc _ => names_lifted os started H enc)

theorem names_proved : Rows.NamesSaid := names_over
#print axioms names_proved
end Go.Proofs.Ytdifbfhmeljblaa
