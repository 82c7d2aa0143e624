/- given: numbers as values. -/
import Derived.Test.YtcgkolaljgpphaaOwn
namespace Go.Proofs.Ytcgkolaljgpphaa
set_option linter.unusedVariables false
set_option linter.unusedSimpArgs false
open Go.RowKit

def numVals (l : List Int) : List Val := l.map fun n => ⟨1, n, ⟨#[]⟩⟩
theorem numVals_num (l : List Int) : AllNum (numVals l) := fun v hv => by
  obtain ⟨n, _, rfl⟩ := List.mem_map.1 hv
  have e : (⟨#[]⟩ : ByteArray).toList.isEmpty = true := by decide +kernel
  exact ⟨rfl, e⟩
theorem cellsV_snoc (vs : List Val) (v : Val) : cellsV vs ++ cellsV [v] = cellsV (vs ++ [v]) := by simp [cellsV]

set_option maxRecDepth 100000 in
set_option maxHeartbeats 800000 in
/-- Two numbers in a list. -/
theorem given17_two (g c : Nat) (a b : Int) (w : World) (h0 : w.cell? ⟨g, 0, none⟩ = some (.int .i64 a)) (h1 : w.cell? ⟨g, 1, none⟩ = some (.int .i64 b)) :
    Calls Try.prog 17 #[.slice (some ⟨g, 0, none⟩) 2 c] w fun e w' => ∃ g' c', e = .returned (.slice (some ⟨g', 0, none⟩) 2 c') ∧ ValsAt w' (some ⟨g', 0, none⟩) (numVals [a, b]) ∧ Below w.heap.size w w' := by
  obtain ⟨i0, hi, hz0, hz1, hz2⟩ := info_parts info44
  have H0 := Lib.hid h0
  have H1 := Lib.hid h1
  clear h0 h1
  go_enter Try.func17, Try.ntmps17
  go_wp2_with fail
  go_loopw [3, 4] (fun v i wr => ∃ k : Nat, k ≤ 2 ∧ i = .int .i64 k ∧ wr.ownsRow w.heap.size 44 3 v k (cellsV (numVals ([a, b].take k))) ∧ Below w.heap.size w wr) (fun _ i _ => 2 - (intOf i).toNat)
  case atStart => exact ⟨0, by omega, rfl, World.ownsRow_nil _ _ _ _, Below.refl _ _⟩
  case round =>
    obtain ⟨k, hk, rfl, hown, hb⟩ := hrel
    obtain ⟨ao, cap, rfl⟩ := row_any hown
    by_cases hlt : k < 2
    · obtain ⟨n, hn⟩ : ∃ n, [a, b].getD k 0 = n := ⟨_, rfl⟩
      have hc : wr.cell? ⟨g, k, none⟩ = some (.int .i64 n) := by
        rcases (by omega : k = 0 ∨ k = 1) with rfl | rfl
        · have := H0.out; rw [← hn]; exact (hb.cell (p := ⟨g, 0, none⟩) (World.block_lt_of_cell? w _ this)).trans this
        · have := H1.out; rw [← hn]; exact (hb.cell (p := ⟨g, 1, none⟩) (World.block_lt_of_cell? w _ this)).trans this
      have he : [a, b].take (k + 1) = [a, b].take k ++ [n] := by
        rcases (by omega : k = 0 ∨ k = 1) with rfl | rfl <;> rw [← hn] <;> rfl
      have HE := Lib.hid he
      have hk2 : (k : Int) < 2 := by omega
      clear he hn
      go_wp2_with (first | (go_at_call 18; refine (num18 n _).mono ?_; rintro e w1 ⟨rfl, hb1⟩; have hown1 := row_below hown hb1) | (at_builtin; refine wpList_append_own _ rfl _ _ 22 rfl w.heap.size 44 i0 _ 3 32 Try.underlying22 hi hz0 hz1 hz2 rfl (by decide) _ _ _ rfl (hown1.alloc _) ⟨w1.heap.size, 0, none⟩ 1 1 (cellsV [⟨1, n, ⟨#[]⟩⟩]) rfl rfl ?c1 (cellsV_one _) ?c3 ?c4 ?c5 ?_))
      case c1 =>
        intro j u hu
        rw [Addr.add_lit, cell_of_row _ _ _ _ _ _ (heap_alloc_new w1 _)]
        have hj := (List.getElem?_eq_some_iff.1 hu).1
        simp [cellsV] at hj
        rcases (by omega : j = 0 ∨ j = 1 ∨ j = 2) with rfl | rfl | rfl <;> exact hu
      case c3 => unfold maxLen; omega
      case c4 => omega
      case c5 => have := hb.size; have := hb1.size; simp; omega
      intro v' wx hown' hgrow _
      have e2 : cellsV (numVals ([a, b].take k)) ++ cellsV [⟨1, n, ⟨#[]⟩⟩] = cellsV (numVals ([a, b].take (k + 1))) := by
        rw [HE.out, cellsV_snoc]
        simp [numVals]
      rw [e2] at hown'
      have hb' : Below w.heap.size w wx := ((hb.trans (hb1.mono hb.size)).alloc (by have := hb.size; have := hb1.size; omega) _).grown hgrow (by have := hb.size; have := hb1.size; simp; omega) (fun k hk => (hown1.lt k hk).1)
      obtain ⟨ao', cap', rfl⟩ : ∃ ao' cap', v' = .slice ao' (k + 1) cap' := row_any hown'
      have HO := Lib.hid (And.intro hown' hb')
      clear hown' hown hown1 hb hb1 hgrow hb' e2 hc
      go_wp2
      go_roundw
      case rel => exact ⟨k + 1, by omega, by go_num, HO.out.1, HO.out.2⟩
      case measure => simp [intOf]; omega
    · obtain rfl : k = 2 := by omega
      obtain ⟨g', c', hg⟩ := slice_form (n := 1) hown
      cases hg
      have HO := Lib.hid (And.intro (ValsAt.of_own hown (by rfl)) hb)
      clear hown hb
      go_wp2
      go_ret
      exact ⟨g', _, rfl, HO.out.1, HO.out.2⟩
end Go.Proofs.Ytcgkolaljgpphaa
