/- begun: the calls that every statement of layer 6 asks ahead answer as fixed. -/
import Derived.Test.YtdifbfhmeljblaaEq
namespace Go.Proofs.Ytdifbfhmeljblaa
set_option linter.unusedVariables false
set_option linter.unusedSimpArgs false
open Go.RowKit

theorem bytes_five : bytesV 1 5 ⟨#[]⟩ = [1, 0, 0, 0, 0, 0, 0, 0, 5] := by
  have h : mayB 1 5 ⟨#[]⟩ = true := by simp [mayB, ByteArray.toList_eq]
  simp [bytesV, h, tailV, be8]
theorem bytes_a : bytesV 3 0 ⟨#[97]⟩ = [3, 97] := by
  have h : mayB 3 0 ⟨#[97]⟩ = true := by simp [mayB, ByteArray.size]
  simp [bytesV, h, tailV, strInts]
theorem sum_five : fnv (bytesV 1 5 ⟨#[]⟩) % 2 ^ (64 : Int).toNat = 5952115884808285843 := by rw [bytes_five]; decide +kernel
theorem sum_a : fnv (bytesV 3 0 ⟨#[97]⟩) % 2 ^ (64 : Int).toNat = 591747295564724201 := by rw [bytes_a]; decide +kernel
theorem nil_len (l : List UInt8) : (⟨l.toArray⟩ : ByteArray).size = l.length := rfl

set_option maxHeartbeats 800000 in
theorem begun9 (w : World) : Calls Try.prog 9 #[] w fun e w' => e = .returned (.bool true) ∧ Below w.heap.size w w' := by
  go_enter Try.func9, Try.ntmps9
  go_wp2_with fail
  refine (sum13 1 5 ⟨#[]⟩ 64 _ (by omega) (by omega) (by omega) (by simp [ByteArray.size, maxLen])).mono ?_
  rw [sum_five]
  rintro e w1 ⟨rfl, hb1⟩
  go_wp2_with fail
  refine (sum13 3 0 ⟨#[97]⟩ 64 _ (by omega) (by omega) (by omega) (by simp [ByteArray.size, maxLen])).mono ?_
  rw [sum_a]
  rintro e w2 ⟨rfl, hb2⟩
  go_wp2_with fail
  refine (sum13_bad _ _ _ 65 _ (by omega)).mono ?_
  rintro e w3 ⟨rfl, hb3⟩
  go_wp2_with fail
  refine (bytes11 3 0 ⟨#[97]⟩ _ (by omega) (by simp [ByteArray.size, maxLen])).mono ?_
  rw [bytes_a]
  rintro e w4 ⟨g, cap, rfl, hown, hb4⟩
  have hh := Has.of_own hown
  have hc0 := hh 0 (by decide)
  have hc1 := hh 1 (by decide)
  have HB := Lib.hid (((hb1.trans (hb2.mono hb1.size)).trans (hb3.mono (Nat.le_trans hb1.size hb2.size))).trans (hb4.mono (Nat.le_trans (Nat.le_trans hb1.size hb2.size) hb3.size)))
  clear hown hh hb1 hb2 hb3 hb4
  go_wp2_with fail
  go_ret
  exact ⟨rfl, HB.out⟩
end Go.Proofs.Ytdifbfhmeljblaa
