/- small and given: the first 1000 numbers as int64; numbers as values. -/
import Derived.Test.YtcgkolaljgpphaaGiven
namespace Go.Proofs.Ytcgkolaljgpphaa
set_option linter.unusedVariables false
set_option linter.unusedSimpArgs false
open Go.RowKit

theorem info2 : (Try.prog.info? 2).map (fun i => (i.zero, i.size, i.bytes)) = some (some (.int .i64 0), 1, 8) := by kernel_rfl
def i64s (l : List Int) : List Value := l.map (Value.int .i64)
theorem i64s_snoc (l : List Int) (x : Int) : i64s l ++ [Value.int .i64 x] = i64s (l ++ [x]) := by simp [i64s]
theorem take_one {l : List Int} {k : Nat} (h : k < l.length) : l.take (k + 1) = l.take k ++ [l.getD k 0] := by
  rw [List.take_add_one]
  simp [List.getD, h]
theorem IntsAt.below {W W' : World} {A : Option Addr} {ws : List Int} (h : IntsAt W A ws) (hb : Below W.heap.size W W') : IntsAt W' A ws := fun i hi => by
  obtain ⟨b, off, hA, hlt, h0⟩ := h i hi
  exact ⟨b, off, hA, Nat.lt_of_lt_of_le hlt hb.size, cell_below h0 hb⟩

set_option maxRecDepth 100000 in
set_option maxHeartbeats 800000 in
theorem small16 (A : Option Addr) (C n : Nat) (ws : List Int) (w : World) (hv : IntsAt w A ws) (hf : ∀ x ∈ ws, -2147483648 ≤ x ∧ x ≤ 2147483647) (hn : ws.length = n) (hl : n ≤ 35184372088832) :
    Calls Try.prog 16 #[.slice A n C] w fun e w' => ∃ v, e = .returned v ∧ w'.ownsRow w.heap.size 2 1 v (ws.take 1000).length (i64s (ws.take 1000)) ∧ Below w.heap.size w w' := by
  obtain ⟨i0, hi, hz0, hz1, hz2⟩ := info_parts info2
  have HV := Lib.hid hv
  have HF := Lib.hid hf
  clear hv hf
  go_enter Try.func16, Try.ntmps16
  go_wp2_with fail
  go_loopw [3, 4] (fun v i wr => ∃ k : Nat, k ≤ n ∧ k ≤ 1000 ∧ i = .int .i64 k ∧ wr.ownsRow w.heap.size 2 1 v k (i64s (ws.take k)) ∧ Below w.heap.size w wr) (fun _ i _ => n - (intOf i).toNat)
  case atStart => exact ⟨0, by omega, by omega, rfl, World.ownsRow_nil _ _ _ _, Below.refl _ _⟩
  case round =>
    obtain ⟨k, hk, hk1, rfl, hown, hb⟩ := hrel
    obtain ⟨ao, cap, rfl⟩ := row_any hown
    by_cases hlt : k < n ∧ k < 1000
    · obtain ⟨hlt, hlt1⟩ := hlt
      have hkw : k < ws.length := by omega
      obtain ⟨b, off, rfl, hbl, hc⟩ := (HV.out.below hb) k hkw
      have hx := HF.out _ (getD_mem (d := (0 : Int)) hkw)
      have he := take_one hkw
      generalize ws.getD k 0 = x at *
      have HE := Lib.hid he
      have hk3 : (k : Int) < 1000 := by omega
      clear he
      go_wp2_with (at_builtin; refine wpList_append_own _ rfl _ _ 37 rfl w.heap.size 2 i0 (.int .i64 0) 1 8 Try.underlying37 hi hz0 hz1 hz2 rfl (by decide) _ _ _ rfl (hown.alloc _) ⟨wr.heap.size, 0, none⟩ 1 1 [_] rfl rfl (cell_one_new _ _ _) ?c2 ?c3 ?c4 ?c5 ?_)
      case c2 => intro u hu; simp at hu; subst hu; rfl
      case c3 => unfold maxLen; omega
      case c4 => omega
      case c5 => have := hb.size; simp; omega
      intro v' wx hown' hgrow _
      rw [i64s_snoc, ← HE.out] at hown'
      have hb' : Below w.heap.size w wx := (hb.alloc hb.size _).grown hgrow (by have := hb.size; simp; omega) (fun k hk => (hown.lt k hk).1)
      obtain ⟨ao', cap', rfl⟩ : ∃ ao' cap', v' = .slice ao' (k + 1) cap' := row_any hown'
      have HO := Lib.hid (And.intro hown' hb')
      clear hown' hown hb hgrow hb' hc
      go_wp2
      go_roundw
      case rel => exact ⟨k + 1, by omega, by omega, by go_num, HO.out.1, HO.out.2⟩
      case measure => simp [intOf]; omega
    · have hkl : (ws.take 1000).length = k := by simp; omega
      have hke : ws.take 1000 = ws.take k := by
        rcases Nat.lt_or_ge k 1000 with h | h
        · rw [List.take_of_length_le (by omega), List.take_of_length_le (by omega)]
        · rw [show k = 1000 by omega]
      have HO := Lib.hid (And.intro hown hb)
      clear hown hb
      by_cases h1 : k < n
      · have h2 : ¬ ((k : Int) < 1000) := by omega
        go_wp2_with fail
        go_ret
        exact ⟨_, rfl, by first | exact HO.out.1 | (rw [hke]; exact HO.out.1) | (rw [hkl, hke]; exact HO.out.1), HO.out.2⟩
      · go_wp2_with fail
        go_ret
        exact ⟨_, rfl, by first | exact HO.out.1 | (rw [hke]; exact HO.out.1) | (rw [hkl, hke]; exact HO.out.1), HO.out.2⟩

set_option maxRecDepth 100000 in
set_option maxHeartbeats 800000 in
/-- Numbers in a list of the call's own, as values. -/
theorem given17 (B n : Nat) (v : Value) (l : List Int) (w : World) (hv : w.ownsRow B 2 1 v n (i64s l)) (hn : l.length = n) (hl : n ≤ 100000) :
    Calls Try.prog 17 #[v] w fun e w' => ∃ v', e = .returned v' ∧ w'.ownsRow w.heap.size 44 3 v' n (cellsV (numVals l)) ∧ Below w.heap.size w w' := by
  obtain ⟨i0, hi, hz0, hz1, hz2⟩ := info_parts info44
  obtain ⟨ao, cap, rfl⟩ := row_any hv
  have HV := Lib.hid hv
  clear hv
  go_enter Try.func17, Try.ntmps17
  go_wp2_with fail
  go_loopw [3, 4] (fun u i wr => ∃ k : Nat, k ≤ n ∧ i = .int .i64 k ∧ wr.ownsRow w.heap.size 44 3 u k (cellsV (numVals (l.take k))) ∧ Below w.heap.size w wr) (fun _ i _ => n - (intOf i).toNat)
  case atStart => exact ⟨0, by omega, rfl, World.ownsRow_nil _ _ _ _, Below.refl _ _⟩
  case round =>
    obtain ⟨k, hk, rfl, hown, hb⟩ := hrel
    obtain ⟨bo, cap', rfl⟩ := row_any hown
    by_cases hlt : k < n
    · have hkl : k < l.length := by omega
      obtain ⟨g, cg, hg⟩ : ∃ g cg, Value.slice ao n cap = .slice (some ⟨g, 0, none⟩) n cg := by
        have hvo := HV.out
        rw [show n = n - 1 + 1 by omega] at hvo
        obtain ⟨g, cg, e⟩ := slice_form hvo
        rw [show n - 1 + 1 = n by omega] at e
        exact ⟨g, cg, e⟩
      cases hg
      have hc0 : w.cell? ⟨g, k, none⟩ = some (.int .i64 (l.getD k 0)) := by
        rw [HV.out.cellAt k (by omega)]
        simp [i64s, hkl]
      have hc := (hb.cell (p := ⟨g, k, none⟩) (World.block_lt_of_cell? w _ hc0)).trans hc0
      have he := take_one hkl
      clear hc0
      generalize l.getD k 0 = x at *
      have HE := Lib.hid he
      clear he
      go_wp2_with (first | (go_at_call 18; refine (num18 x _).mono ?_; rintro e w1 ⟨rfl, hb1⟩; have hown1 := row_below hown hb1) | (at_builtin; refine wpList_append_own _ rfl _ _ 22 rfl w.heap.size 44 i0 _ 3 32 Try.underlying22 hi hz0 hz1 hz2 rfl (by decide) _ _ _ rfl (hown1.alloc _) ⟨w1.heap.size, 0, none⟩ 1 1 (cellsV [⟨1, x, ⟨#[]⟩⟩]) rfl rfl ?c1 (cellsV_one _) ?c3 ?c4 ?c5 ?_))
      case c1 =>
        intro j u hu
        rw [Addr.add_lit, cell_of_row _ _ _ _ _ _ (heap_alloc_new w1 _)]
        have hj := (List.getElem?_eq_some_iff.1 hu).1
        simp [cellsV] at hj
        rcases (by omega : j = 0 ∨ j = 1 ∨ j = 2) with rfl | rfl | rfl <;> exact hu
      case c3 => unfold maxLen; omega
      case c4 => omega
      case c5 => have := hb.size; have := hb1.size; simp; omega
      intro v' wx hown' hgrow _
      have e2 : cellsV (numVals (l.take k)) ++ cellsV [⟨1, x, ⟨#[]⟩⟩] = cellsV (numVals (l.take (k + 1))) := by
        rw [HE.out, cellsV_snoc]
        simp [numVals]
      rw [e2] at hown'
      have hb' : Below w.heap.size w wx := ((hb.trans (hb1.mono hb.size)).alloc (by have := hb.size; have := hb1.size; omega) _).grown hgrow (by have := hb.size; have := hb1.size; simp; omega) (fun k hk => (hown1.lt k hk).1)
      obtain ⟨ao', cap2, rfl⟩ : ∃ ao' cap2, v' = .slice ao' (k + 1) cap2 := row_any hown'
      have HO := Lib.hid (And.intro hown' hb')
      clear hown' hown hown1 hb hb1 hgrow hb' e2 hc
      go_wp2
      go_roundw
      case rel => exact ⟨k + 1, by omega, by go_num, HO.out.1, HO.out.2⟩
      case measure => simp [intOf]; omega
    · obtain rfl : k = n := by omega
      rw [List.take_of_length_le (by omega)] at hown
      have HO := Lib.hid (And.intro hown hb)
      clear hown hb
      go_wp2
      go_ret
      exact ⟨_, rfl, HO.out.1, HO.out.2⟩
end Go.Proofs.Ytcgkolaljgpphaa
