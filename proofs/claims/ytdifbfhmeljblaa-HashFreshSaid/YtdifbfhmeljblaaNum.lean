/- Plain numbers: masks of the lowest bits, the range of the FNV sum. -/
import Derived.Test.YtdifbfhmeljblaaBytesRef
namespace Go.Proofs.Ytdifbfhmeljblaa
set_option linter.unusedVariables false
set_option linter.unusedSimpArgs false
open Go.RowKit

theorem pow_bd (m : Nat) (h : m ≤ 64) : 1 ≤ (2 : Nat) ^ m ∧ (2 : Nat) ^ m ≤ 18446744073709551616 :=
  ⟨Nat.one_le_two_pow, Nat.pow_le_pow_right (n := 2) (by omega) h⟩
theorem pow_lt (m : Nat) (h : m < 64) : (2 : Nat) ^ m ≤ 9223372036854775808 :=
  Nat.pow_le_pow_right (n := 2) (j := 63) (by omega) (by omega)
theorem int_pow (m : Nat) : (2 : Int) ^ m = ((2 ^ m : Nat) : Int) := by simp

theorem mask_wrap (m : Nat) (h : m ≤ 64) : IntKind.u64.wrap (IntKind.u64.wrap (2 ^ m) - 1) = ((2 ^ m - 1 : Nat) : Int) := by
  rw [IntKind.wrap_u64, IntKind.wrap_u64, int_pow]
  have hb := pow_bd m h
  generalize 2 ^ m = p at hb
  rcases (by omega : p < 18446744073709551616 ∨ p = 18446744073709551616) with hp | rfl
  · omega
  · rfl

theorem mask_and (x : Int) (m : Nat) (h0 : 0 ≤ x) (h1 : x < 18446744073709551616) (hm : m ≤ 64) :
    bits .and .u64 x (IntKind.u64.wrap (IntKind.u64.wrap (2 ^ m) - 1)) = x % 2 ^ m := by
  have hb := pow_bd m hm
  rw [mask_wrap m hm]
  obtain ⟨y, rfl⟩ := Int.eq_ofNat_of_zero_le h0
  rw [u64_and_nat y _ (by omega) (by omega), Nat.and_two_pow_sub_one_eq_mod, int_pow, Int.natCast_emod]

theorem shift_low (x wd : Int) (h0 : 0 ≤ x) (h1 : 0 ≤ wd) (h2 : wd ≤ 64) :
    IntKind.u64.wrap (x * 2 ^ (64 - wd).toNat) / 2 ^ (64 - wd).toNat = x % 2 ^ wd.toNat := by
  obtain ⟨m, rfl⟩ := Int.eq_ofNat_of_zero_le h1
  obtain ⟨y, rfl⟩ := Int.eq_ofNat_of_zero_le h0
  have e1 : (64 - (m : Int)).toNat = 64 - m := by omega
  have e2 : (18446744073709551616 : Int) = ((2 ^ m * 2 ^ (64 - m) : Nat) : Int) := by
    rw [← Nat.pow_add, show m + (64 - m) = 64 from by omega]
    rfl
  have hp : 0 < 2 ^ (64 - m) := Nat.two_pow_pos _
  rw [IntKind.wrap_u64, e1, Int.toNat_natCast, int_pow, int_pow, e2, ← Int.natCast_mul, ← Int.natCast_emod, ← Int.natCast_ediv, ← Int.natCast_emod,
    Nat.mul_mod_mul_right, Nat.mul_div_cancel _ hp]

def fnvStep (h x : Int) : Int := IntKind.u64.wrap (bits .xor .u64 h (IntKind.u64.wrap x) * 1099511628211)
/-- The FNV sum of bytes. -/
def fnv (l : List Int) : Int := l.foldl fnvStep 14695981039346656037

theorem fnvStep_bd (h x : Int) : 0 ≤ fnvStep h x ∧ fnvStep h x < 18446744073709551616 := by
  unfold fnvStep
  rw [IntKind.wrap_u64]
  omega
theorem foldl_bd : ∀ (l : List Int) (h : Int), 0 ≤ h ∧ h < 18446744073709551616 → 0 ≤ l.foldl fnvStep h ∧ l.foldl fnvStep h < 18446744073709551616
  | [], _, hh => hh
  | x :: l, h, _ => foldl_bd l (fnvStep h x) (fnvStep_bd h x)
theorem fnv_bd (l : List Int) : 0 ≤ fnv l ∧ fnv l < 18446744073709551616 := foldl_bd l _ (by omega)
theorem fnv_snoc (l : List Int) (k : Nat) (h : k < l.length) : fnv (l.take (k + 1)) = fnvStep (fnv (l.take k)) l[k] := by
  unfold fnv
  rw [List.take_succ_eq_append_getElem h, List.foldl_append]
  rfl

def Byt (l : List Int) : Prop := ∀ x ∈ l, 0 ≤ x ∧ x ≤ 255
theorem byt_be8 (n : Int) : Byt (be8 n) := by
  intro x hx
  simp only [be8, List.mem_cons, List.not_mem_nil, or_false] at hx
  rcases hx with rfl | rfl | rfl | rfl | rfl | rfl | rfl | rfl <;> omega
theorem byt_str (s : ByteArray) : Byt (strInts s) := by
  intro x hx
  simp only [strInts, List.mem_map] at hx
  obtain ⟨b, _, rfl⟩ := hx
  have := b.toNat_lt
  omega
theorem byt_cons {x : Int} {l : List Int} (h : 0 ≤ x ∧ x ≤ 255) (hl : Byt l) : Byt (x :: l) := by
  intro y hy
  rcases List.mem_cons.1 hy with rfl | hy
  · exact h
  · exact hl y hy
theorem byt_nil : Byt [] := by intro x hx; cases hx
theorem byt_bytes (k n : Int) (s : ByteArray) : Byt (bytesV k n s) := by
  unfold bytesV
  split
  · rename_i hm
    unfold tailV
    rcases may_cases hm with ⟨rfl, _⟩ | rfl | ⟨rfl, h⟩ | ⟨rfl, _⟩ | ⟨rfl, h⟩
    · exact byt_cons (by omega) (byt_str s)
    · exact byt_cons (by omega) (byt_be8 n)
    · exact byt_cons (by omega) (byt_cons (by omega) byt_nil)
    · exact byt_cons (by omega) (byt_str s)
    · exact byt_cons (by omega) (byt_cons (by omega) byt_nil)
  · exact byt_cons (by omega) (byt_cons (by omega) byt_nil)
theorem bytes_len (k n : Int) (s : ByteArray) : 1 ≤ (bytesV k n s).length ∧ (bytesV k n s).length ≤ 40000 := by
  unfold bytesV
  split
  · rename_i hm
    unfold tailV
    rcases may_cases hm with ⟨rfl, _, h⟩ | rfl | ⟨rfl, h⟩ | ⟨rfl, _, h⟩ | ⟨rfl, h⟩ <;> simp [strInts_length, be8] <;> omega
  · simp
end Go.Proofs.Ytdifbfhmeljblaa
