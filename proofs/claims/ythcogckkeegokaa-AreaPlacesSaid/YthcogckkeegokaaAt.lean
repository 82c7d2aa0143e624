/- AreaPlaces: the walk. -/
import Derived.Deep.RegionHeld3
import Derived.Test.YthcogckkeegokaaBegun
namespace Go.Proofs.Ythcogckkeegokaa
set_option linter.unusedVariables false
set_option linter.unusedSimpArgs false
open Go.RowKit Go.Shelf

set_option maxHeartbeats 400000 in
theorem at11 (t l b r i qq rr : Int) (w : World) (ha : areaB t l b r = true) (h0 : 0 ≤ i) (h1 : i < 46006272) (hqq : i / (r - l + 1) = qq) (hrr : i % (r - l + 1) = rr) :
    Calls Try.prog 11 #[.agg #[.int .i64 t, .int .i64 l, .int .i64 b, .int .i64 r], .int .i64 i] w
      fun e w' => e = .returned (.agg #[.int .i64 (t + qq), .int .i64 (l + rr)]) ∧ Below w.heap.size w w' := by
  obtain ⟨a1, a2, a3, a4, a5, a6⟩ := areaB_bd ha
  have hne : ¬ (r - l + 1 = 0) := by omega
  clear ha
  go_enter Try.func11, Try.ntmps11
  go_wp2_with fail
  have q0 := row_old w (.cells #[.int .i64 t, .int .i64 l, .int .i64 b, .int .i64 r] 23) (.cells #[.int .i64 0, .int .i64 0] 30)
  have q1 := row_new w (.cells #[.int .i64 t, .int .i64 l, .int .i64 b, .int .i64 r] 23) (.cells #[.int .i64 0, .int .i64 0] 30)
  obtain ⟨c0, c1, c2, c3⟩ := cells4 q0
  obtain ⟨d0, d1⟩ := cells2 q1
  have f0 := row_froz q1 0
  have f1 := row_froz q1 1
  have HB := Lib.hid (((Below.refl w.heap.size w).alloc (Nat.le_refl _) (.cells #[.int .i64 t, .int .i64 l, .int .i64 b, .int .i64 r] 23)).alloc (by simp) (.cells #[.int .i64 0, .int .i64 0] 30))
  obtain ⟨W0, hW0⟩ : ∃ W0, (w.alloc (.cells #[.int .i64 t, .int .i64 l, .int .i64 b, .int .i64 r] 23)).alloc (.cells #[.int .i64 0, .int .i64 0] 30) = W0 := ⟨_, rfl⟩
  rw [hW0] at c0 c1 d0 d1 f0 f1 HB ⊢
  clear hW0 q0 q1 c2 c3
  obtain ⟨m, hm⟩ : ∃ m, r - l + 1 = m := ⟨_, rfl⟩
  rw [hm] at hne hqq hrr ⊢
  have hm1 : 1 ≤ m := by omega
  have hm2 : m ≤ 702 := by omega
  clear hm
  have hq0 : 0 ≤ i / m := Int.ediv_nonneg h0 (by omega)
  have hq1 : i / m ≤ i := Int.ediv_le_self _ h0
  have hr0 : 0 ≤ i % m := Int.emod_nonneg _ hne
  have hr1 : i % m < m := Int.emod_lt_of_pos _ (by omega)
  have ht1 : i.tdiv m = i / m := Int.tdiv_eq_ediv_of_nonneg h0
  have ht2 : i.tmod m = i % m := Int.tmod_eq_emod_of_nonneg h0
  rw [hqq] at hq0 hq1 ht1
  rw [hrr] at hr0 hr1 ht2
  clear hqq hrr
  go_region_held3 (fun w' => w'.cell? ⟨w.heap.size, 0, none⟩ = some (.int .i64 t) ∧ w'.cell? ⟨w.heap.size, 1, none⟩ = some (.int .i64 l)) (first | exact ⟨c0, c1⟩ | go_keep) (fail)
  have u1 : IntKind.i64.wrap qq = qq := IntWalk.i64_in _ (by omega)
  have u2 : IntKind.i64.wrap (t + qq) = t + qq := IntWalk.i64_in _ (by omega)
  have u3 : IntKind.i64.wrap (l + rr) = l + rr := IntWalk.i64_in _ (by omega)
  simp only [u1, u2, u3]
  go_wp2_with fail
  exact bodyPost_ret (v := .agg #[.int .i64 (t + qq), .int .i64 (l + rr)]) (by simp [results, Try.results11, go_sem, d0, d1, f0, f1]) rfl ⟨rfl, by repeat (first | exact HB.out | refine Below.drew ?_ | refine Below.setCell ?_ (by simp <;> omega) _)⟩


/-- The same, of the i-th place. -/
theorem at11n (t l b r : Int) (M i : Nat) (w : World) (ha : areaB t l b r = true) (hM : r - l + 1 = (M : Int)) (h1 : i < 46006272) :
    Calls Try.prog 11 #[.agg #[.int .i64 t, .int .i64 l, .int .i64 b, .int .i64 r], .int .i64 (i : Int)] w
      fun e w' => e = .returned (.agg #[.int .i64 (placeAt t l M i).1, .int .i64 (placeAt t l M i).2]) ∧ Below w.heap.size w w' :=
  at11 t l b r i _ _ w ha (by omega) (by omega) (by rw [hM]; rfl) (by rw [hM]; rfl)
end Go.Proofs.Ythcogckkeegokaa
