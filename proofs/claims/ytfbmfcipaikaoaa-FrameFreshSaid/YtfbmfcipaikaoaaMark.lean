/- A list is written over, and the room behind it. -/
import Derived.Test.YtfbmfcipaikaoaaEq
import Derived.Deep.DeepMust
import Derived.Deep.AppendLies
namespace Go.Proofs.Ytfbmfcipaikaoaa
set_option linter.unusedVariables false
set_option linter.unusedSimpArgs false
open Go.RowKit Go.Maps

def lenOf : Value → Nat
  | .slice _ n _ => n
  | _ => 0
/-- How far a list is written over. -/
@[irreducible] def room (n cap : Nat) : Nat := min cap (n + 9000)
theorem room_eq (n cap : Nat) : room n cap = min cap (n + 9000) := by unfold room; rfl
def zF (z : Int) : Fr := ⟨0, 0, z, 0⟩
def zs (m : Nat) (z : Int) : List Fr := List.replicate m (zF z)
theorem zs_len (m : Nat) (z : Int) : (zs m z).length = m := by simp [zs]
theorem zs_snoc (m : Nat) (z : Int) : zs m z ++ [zF z] = zs (m + 1) z := by simp [zs, List.replicate_succ']
theorem set4 (gs : List Fr) (f : Fr) (hs : List Fr) (a b c d : Value) : ((((cellsF (gs ++ f :: hs)).set (gs.length * 4) a).set (gs.length * 4 + 1) b).set (gs.length * 4 + 2) c).set (gs.length * 4 + 3) d = cellsF gs ++ [a, b, c, d] ++ cellsF hs := by
  rw [cellsF_app, List.set_append_right _ _ (by rw [cellsF_len]; omega), List.set_append_right _ _ (by rw [cellsF_len]; omega), List.set_append_right _ _ (by rw [cellsF_len]; omega), List.set_append_right _ _ (by rw [cellsF_len]; omega), cellsF_len]
  rw [show gs.length * 4 - gs.length * 4 = 0 by omega, show gs.length * 4 + 1 - gs.length * 4 = 1 by omega, show gs.length * 4 + 2 - gs.length * 4 = 2 by omega, show gs.length * 4 + 3 - gs.length * 4 = 3 by omega]
  simp [cellsF]
/-- A frame of an own row is written. -/
theorem own_put {W : World} {B g n cap : Nat} {gs hs : List Fr} {f : Fr} (h : W.ownsRow B 36 4 (.slice (some ⟨g, 0, none⟩) n cap) n (cellsF (gs ++ f :: hs))) (e : Fr) (j : Nat) (hj : gs.length = j) :
    ((((W.setCell ⟨g, j * 4, none⟩ (.int .i64 e.r)).setCell ⟨g, j * 4 + 1, none⟩ (.int .i64 e.c)).setCell ⟨g, j * 4 + 2, none⟩ (.int .i64 e.k)).setCell ⟨g, j * 4 + 3, none⟩ (.int .i64 e.x)).ownsRow B 36 4 (.slice (some ⟨g, 0, none⟩) n cap) n (cellsF (gs ++ e :: hs)) ∧
    W.grownBy ((((W.setCell ⟨g, j * 4, none⟩ (.int .i64 e.r)).setCell ⟨g, j * 4 + 1, none⟩ (.int .i64 e.c)).setCell ⟨g, j * 4 + 2, none⟩ (.int .i64 e.k)).setCell ⟨g, j * 4 + 3, none⟩ (.int .i64 e.x)) (some g) := by
  subst hj
  have h1 := h.stored (gs.length * 4) (.int .i64 e.r)
  have h2 := h1.1.stored (gs.length * 4 + 1) (.int .i64 e.c)
  have h3 := h2.1.stored (gs.length * 4 + 2) (.int .i64 e.k)
  have h4 := h3.1.stored (gs.length * 4 + 3) (.int .i64 e.x)
  refine ⟨?_, ((h1.2.trans h2.2).trans h3.2).trans h4.2⟩
  have := h4.1
  rw [set4] at this
  have e2 : cellsF (gs ++ e :: hs) = cellsF gs ++ [.int .i64 e.r, .int .i64 e.c, .int .i64 e.k, .int .i64 e.x] ++ cellsF hs := by simp [cellsF]
  rw [e2]
  exact this

theorem own_put_facts {W : World} {B g n cap : Nat} {xs : List Value} (h : W.ownsRow B 36 4 (.slice (some ⟨g, 0, none⟩) n cap) n xs) (e : Fr) (j : Nat) (hj : j < n) :
    (∃ u, W.cell? ⟨g, j * 4, none⟩ = some u) ∧ W.frozen? ⟨g, j * 4, none⟩ = false ∧
    (∃ u, (W.setCell ⟨g, j * 4, none⟩ (.int .i64 e.r)).cell? ⟨g, j * 4 + 1, none⟩ = some u) ∧ (W.setCell ⟨g, j * 4, none⟩ (.int .i64 e.r)).frozen? ⟨g, j * 4 + 1, none⟩ = false ∧
    (∃ u, ((W.setCell ⟨g, j * 4, none⟩ (.int .i64 e.r)).setCell ⟨g, j * 4 + 1, none⟩ (.int .i64 e.c)).cell? ⟨g, j * 4 + 2, none⟩ = some u) ∧ ((W.setCell ⟨g, j * 4, none⟩ (.int .i64 e.r)).setCell ⟨g, j * 4 + 1, none⟩ (.int .i64 e.c)).frozen? ⟨g, j * 4 + 2, none⟩ = false ∧
    (∃ u, (((W.setCell ⟨g, j * 4, none⟩ (.int .i64 e.r)).setCell ⟨g, j * 4 + 1, none⟩ (.int .i64 e.c)).setCell ⟨g, j * 4 + 2, none⟩ (.int .i64 e.k)).cell? ⟨g, j * 4 + 3, none⟩ = some u) ∧ (((W.setCell ⟨g, j * 4, none⟩ (.int .i64 e.r)).setCell ⟨g, j * 4 + 1, none⟩ (.int .i64 e.c)).setCell ⟨g, j * 4 + 2, none⟩ (.int .i64 e.k)).frozen? ⟨g, j * 4 + 3, none⟩ = false := by
  have h1 := (h.stored (j * 4) (.int .i64 e.r)).1
  have h2 := (h1.stored (j * 4 + 1) (.int .i64 e.c)).1
  have h3 := (h2.stored (j * 4 + 2) (.int .i64 e.k)).1
  have hx := h.1
  have ex : ∀ (ys : List Value) (m : Nat), m < ys.length → ∃ u, ys[m]? = some u := fun ys m hm => ⟨_, List.getElem?_eq_getElem hm⟩
  refine ⟨?_, h.frozenAt _, ?_, h1.frozenAt _, ?_, h2.frozenAt _, ?_, h3.frozenAt _⟩
  · rw [h.cellAt _ (by omega)]; exact ex _ _ (by omega)
  · rw [h1.cellAt _ (by omega)]; exact ex _ _ (by simp; omega)
  · rw [h2.cellAt _ (by omega)]; exact ex _ _ (by simp; omega)
  · rw [h3.cellAt _ (by omega)]; exact ex _ _ (by simp; omega)
set_option maxRecDepth 100000 in
set_option maxHeartbeats 1000000 in
theorem mark18 {W : World} {B n cap : Nat} {A : Option Addr} {fs : List Fr} (z : Int) (h : W.ownsRow B 36 4 (.slice A n cap) n (cellsF fs)) (hn : n ≤ 1000000000) (hB : B ≤ W.heap.size) :
    Calls Try.prog 18 #[.slice A n cap, .int .i64 z] W fun e W' => e = .returned (.tuple #[]) ∧ W'.ownsRow B 36 4 (.slice A (room n cap) cap) (room n cap) (cellsF (zs (room n cap) z)) ∧ W.grownBy W' (Value.slice A n cap).ownBlock := by
  rcases row_cases h with ⟨e, rfl⟩ | ⟨g, c, hc, e⟩
  · cases e
    go_enter Try.func18, Try.ntmps18
    go_wp2_with fail
    go_loopw [4] (fun i wr => i = .int .i64 0 ∧ wr = W) (fun i _ => 0)
    case atStart => exact ⟨rfl, rfl⟩
    case round =>
      obtain ⟨rfl, rfl⟩ := hrel
      go_wp2_with fail
      go_loopw [0] (fun l wr2 => l = .slice none 0 0 ∧ wr2 = wr) (fun _ _ => 0)
      case atStart => exact ⟨rfl, rfl⟩
      case round =>
        obtain ⟨rfl, rfl⟩ := hrel
        go_wp2_with fail
        go_end0
        refine ⟨rfl, ?_, World.grownBy.refl _ _⟩
        simpa [zs, cellsF, room_eq] using World.ownsRow_nil _ _ _ _
  · cases e
    go_enter Try.func18, Try.ntmps18
    go_wp2_with fail
    go_loopw [4] (fun i wr => ∃ j : Nat, j ≤ n ∧ i = .int .i64 j ∧ wr.ownsRow B 36 4 (.slice (some ⟨g, 0, none⟩) n cap) n (cellsF (zs j z ++ fs.drop j)) ∧ W.grownBy wr (some g)) (fun i _ => n - (intOf i).toNat)
    case atStart => exact ⟨0, by omega, rfl, by simpa [zs] using h, World.grownBy.refl _ _⟩
    case round =>
      obtain ⟨j, hj, rfl, ho, hg⟩ := hrel
      by_cases hjn : j < n
      · have hdj : ∃ f, fs.drop j = f :: fs.drop (j + 1) := by
          have hfl : j < fs.length := by have := h.1; rw [cellsF_len] at this; omega
          exact ⟨fs[j], (List.getElem_cons_drop hfl).symm⟩
        obtain ⟨f, hdj⟩ := hdj
        rw [hdj] at ho
        have hput := own_put ho (zF z) j (zs_len j z)
        obtain ⟨⟨u0, c0⟩, f0, ⟨u1, c1⟩, f1, ⟨u2, c2⟩, f2, ⟨u3, c3⟩, f3⟩ := own_put_facts ho (zF z) j hjn
        simp only [zF] at c0 c1 c2 c3 f0 f1 f2 f3 hput
        have HP := Lib.hid hput
        have HG := Lib.hid hg
        clear ho hg hput hdj
        go_wp2_with fail
        go_roundw
        case rel =>
          refine ⟨j + 1, by omega, by go_num, ?_, HG.out.trans HP.out.2⟩
          rw [← zs_snoc, List.append_assoc]
          exact HP.out.1
        case measure => simp [intOf]; omega
      · obtain rfl : j = n := by omega
        have hfl : fs.length = j := by have := h.1; rw [cellsF_len] at this; omega
        rw [← hfl, List.drop_length, List.append_nil, hfl] at ho
        have hcm : cap ≤ maxLen := by
          rcases ho.2 with ⟨e, _⟩ | ⟨_, _, _, e, _, _, _, hm, _⟩
          · cases e
          · cases e; exact hm
        have hcm : cap ≤ 9223372036854775807 := by unfold maxLen at hcm; omega
        obtain ⟨M, hM⟩ : ∃ M, room j cap = M := ⟨_, rfl⟩
        have hM2 := hM
        rw [room_eq] at hM2
        have hMc : M ≤ cap ∧ j ≤ M := by omega
        have HM := Lib.hid (And.intro hM hM2)
        clear hM hM2
        have hHO := Lib.hid (And.intro ho hg)
        clear ho hg h
        obtain ⟨i0, hi, hz0, hz1, hz2⟩ := info_parts info36
        go_wp2_with fail
        all_goals
          first
            | rw [show ((j : Int) + 9000) = (M : Int) by have := HM.out.2; omega]
            | rw [show (cap : Int) = (M : Int) by have := HM.out.2; omega]
          go_loopw [0] (fun l wl => ∃ m : Nat, j ≤ m ∧ m ≤ M ∧ l = .slice (some ⟨g, 0, none⟩) m cap ∧ wl.ownsRow B 36 4 (.slice (some ⟨g, 0, none⟩) m cap) m (cellsF (zs m z)) ∧ W.grownBy wl (some g)) (fun l _ => M - lenOf l)
          case atStart => exact ⟨j, Nat.le_refl _, hMc.2, rfl, hHO.out.1, hHO.out.2⟩
          case round =>
            obtain ⟨m, hm1, hm2, rfl, ho, hg⟩ := hrel
            by_cases hmM : m < M
            · have HG := Lib.hid (And.intro ho hg)
              have hal := ho.alloc (.cells #[.int .i64 0, .int .i64 0, .int .i64 z, .int .i64 0] 36)
              clear ho hg
              go_wp2_with (at_builtin; go_loud (refine wpList_append_fits _ rfl _ _ 30 rfl B 36 i0 4 Try.underlying30 hi hz1 g m cap _ rfl hal ⟨wr.heap.size, 0, none⟩ 1 1 (cellsF [zF z]) rfl rfl (World.news_of_block (heap_alloc_new wr (.cells #[.int .i64 0, .int .i64 0, .int .i64 z, .int .i64 0] 36))) (cellsF_one _) (by omega) ?_))
              intro w1 hown1 hgrow1
              go_wp2_with fail
              go_roundw
              case rel => exact ⟨m + 1, by omega, by omega, rfl, by rw [← cellsF_app, zs_snoc] at hown1; exact hown1, (HG.out.2.trans (World.grownBy_alloc _ _ _)).trans hgrow1⟩
              case measure => simp [lenOf]; omega
            · obtain rfl : m = M := by omega
              go_wp2_with fail
              go_end0
              exact ⟨rfl, by rw [HM.out.1]; exact ho, hg⟩
end Go.Proofs.Ytfbmfcipaikaoaa
