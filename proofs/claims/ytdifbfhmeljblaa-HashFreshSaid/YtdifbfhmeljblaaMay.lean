/- value.May, quadrilleref4.May and the law's own may answer alike: mayB. -/
import Derived.Test.YtdifbfhmeljblaaRows
import Derived.WalkKit
import Derived.WalkSpells
import Derived.WalkLawsBesides
import Derived.BigQuiet
import Derived.Deep.QuietTactic
import Derived.Lib.Hide
namespace Go.Proofs.Ytdifbfhmeljblaa
set_option linter.unusedVariables false
set_option linter.unusedSimpArgs false
open Go.RowKit

theorem ret_int {k : IntKind} {a b : Int} (h : a = b) : Ending.returned (.int k a) = .returned (.int k b) := by rw [h]
theorem ret_bool {a b : Bool} (h : a = b) : Ending.returned (.bool a) = .returned (.bool b) := by rw [h]

/-- May there be the value (kind k, number n, text s)? -/
def mayB (k n : Int) (s : ByteArray) : Bool :=
  if k = 0 then decide (n = 0) && s.toList.isEmpty
  else if k = 1 then s.toList.isEmpty
  else if k = 2 then (decide (n = 0) || decide (n = 1)) && s.toList.isEmpty
  else if k = 3 then decide (n = 0) && decide (s.size ≤ 32767)
  else if k = 4 then decide (1 ≤ n) && decide (n ≤ 6) && s.toList.isEmpty
  else false

set_option maxHeartbeats 800000 in
theorem may17 (k n : Int) (s : ByteArray) (w : World) (hs : s.size ≤ maxLen) :
    Calls Try.prog 17 #[.agg #[.int .i64 k, .int .i64 n, .string s]] w fun e w' => e = .returned (.bool (mayB k n s)) ∧ Below w.heap.size w w' := by
  unfold maxLen at hs
  go_enter Try.func17, Try.ntmps17
  go_wp2
  all_goals go_ret
  all_goals refine ⟨ret_bool ?_, (Below.refl _ _).alloc (Nat.le_refl _) _⟩
  all_goals (unfold mayB; simp_all <;> omega)

set_option maxHeartbeats 800000 in
theorem may18 (k n : Int) (s : ByteArray) (w : World) (hs : s.size ≤ maxLen) :
    Calls Try.prog 18 #[.agg #[.int .i64 k, .int .i64 n, .string s]] w fun e w' => e = .returned (.bool (mayB k n s)) ∧ Below w.heap.size w w' := by
  unfold maxLen at hs
  go_enter Try.func18, Try.ntmps18
  go_wp2
  all_goals go_ret
  all_goals refine ⟨ret_bool ?_, (Below.refl _ _).alloc (Nat.le_refl _) _⟩
  all_goals (unfold mayB; simp_all <;> omega)

set_option maxHeartbeats 800000 in
theorem may15 (k n : Int) (s : ByteArray) (w : World) (hs : s.size ≤ maxLen) :
    Calls Try.prog 15 #[.agg #[.int .i64 k, .int .i64 n, .string s]] w fun e w' => e = .returned (.bool (mayB k n s)) ∧ Below w.heap.size w w' := by
  unfold maxLen at hs
  go_enter Try.func15, Try.ntmps15
  go_wp2
  all_goals go_ret
  all_goals refine ⟨ret_bool ?_, (Below.refl _ _).alloc (Nat.le_refl _) _⟩
  all_goals (unfold mayB; simp_all <;> omega)


set_option maxHeartbeats 400000 in
theorem err19 (n : Int) (w : World) :
    Calls Try.prog 19 #[.int .i64 n] w fun e w' => e = .returned (.agg #[.int .i64 4, .int .i64 n, .string ⟨#[]⟩]) ∧ Below w.heap.size w w' := by
  go_enter Try.func19, Try.ntmps19
  go_wp2
  exact bodyPost_ret (v := .agg #[.int .i64 4, .int .i64 n, .string ⟨#[]⟩]) (by simp [results, Try.results19, go_sem]) rfl ⟨rfl, (Below.refl _ _).alloc (Nat.le_refl _) _⟩

set_option maxHeartbeats 400000 in
theorem room16 (n a : Int) (w : World) (h0 : 0 ≤ n) (h1 : n ≤ 9000000000000000000) :
    Calls Try.prog 16 #[.int .i64 n, .int .i64 a] w fun e w' => e = .returned (.int .i64 (if a > n + 70000 then n + 70000 else a)) ∧ w = w' := by
  go_enter Try.func16, Try.ntmps16
  go_wp2
  all_goals go_ret
  all_goals refine ⟨ret_int ?_, rfl⟩
  all_goals simp_all <;> omega
end Go.Proofs.Ytdifbfhmeljblaa
