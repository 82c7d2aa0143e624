/- The law's eq, quadrilleref6.Fnv, hash.Sum and quadrilleref6.Sum. -/
import Derived.Test.YtdifbfhmeljblaaNum
namespace Go.Proofs.Ytdifbfhmeljblaa
set_option linter.unusedVariables false
set_option linter.unusedSimpArgs false
open Go.RowKit

/-- The slice ⟨g, 0⟩ of l.length bytes reads as l. -/
def Has (w : World) (g : Nat) (l : List Int) : Prop := ∀ j, j < l.length → w.cell? ⟨g, j, none⟩ = some (.int .u8 (l.getD j 0))

theorem Has.of_own {w : World} {B g cap : Nat} {l : List Int} (h : w.ownsRow B 5 1 (.slice (some ⟨g, 0, none⟩) l.length cap) l.length (u8s l)) : Has w g l := by
  intro j hj
  rw [h.cellAt j (by omega)]
  simp [u8s, hj]

theorem conv_has {w : World} {g cap : Nat} {l : List Int} (h : Has w g l) :
    (convert 30 9 (.slice (some ⟨g, 0, none⟩) l.length cap)).run Try.prog w = .ok (.string (strOfNums l)) w :=
  run_convert_bytes_arg w 30 5 Try.underlying30 Try.underlying5 g 0 l.length cap l rfl (fun i hi => by rw [Nat.zero_add]; exact h i hi) 9 Try.underlying9

theorem ret_sum {a b c : Int} (h : a = b) : Ending.returned (.tuple #[.int .u64 a, .int .i64 c]) = .returned (.tuple #[.int .u64 b, .int .i64 c]) := by rw [h]

theorem nums_inj : ∀ (l m : List Int), Byt l → Byt m → (l.map fun n => UInt8.ofNat n.toNat) = (m.map fun n => UInt8.ofNat n.toNat) → l = m
  | [], [], _, _, _ => rfl
  | [], y :: m, _, _, h => by simp at h
  | x :: l, [], _, _, h => by simp at h
  | x :: l, y :: m, hl, hm, h => by
    simp only [List.map_cons, List.cons.injEq] at h
    have hx := hl x (by simp)
    have hy := hm y (by simp)
    have e : x = y := by
      have h1 := congrArg UInt8.toNat h.1
      simp at h1
      omega
    rw [e, nums_inj l m (fun z hz => hl z (by simp [hz])) (fun z hz => hm z (by simp [hz])) h.2]

theorem str_eq (l m : List Int) (hl : Byt l) (hm : Byt m) : ((strOfNums l).toList == (strOfNums m).toList) = decide (l = m) := by
  rw [ByteArray.toList_eq, ByteArray.toList_eq, strOfNums_data, strOfNums_data, Bool.eq_iff_iff]
  simp only [beq_iff_eq, decide_eq_true_eq]
  exact ⟨nums_inj l m hl hm, fun h => by rw [h]⟩

set_option maxHeartbeats 400000 in
theorem eq10 (g h c d n k : Nat) (l m : List Int) (w : World) (hn : l.length = n) (hk : m.length = k) (hl : Has w g l) (hm : Has w h m) (bl : Byt l) (bm : Byt m) :
    Calls Try.prog 10 #[.slice (some ⟨g, 0, none⟩) n c, .slice (some ⟨h, 0, none⟩) k d] w fun e w' => e = .returned (.bool (decide (l = m))) ∧ w = w' := by
  have hc1 := conv_has (cap := c) hl
  have hc2 := conv_has (cap := d) hm
  rw [hn] at hc1
  rw [hk] at hc2
  have he := Lib.hid (str_eq l m bl bm)
  clear hl hm bl bm hn hk
  go_enter Try.func10, Try.ntmps10
  go_wp2
  go_ret
  exact ⟨ret_bool he.out, rfl⟩

set_option maxHeartbeats 400000 in
theorem fnv20 (g c : Nat) (l : List Int) (w : World) (hl : Has w g l) (hlen : l.length ≤ 9000000000000000000) :
    Calls Try.prog 20 #[.slice (some ⟨g, 0, none⟩) l.length c] w fun e w' => e = .returned (.int .u64 (fnv l)) ∧ w = w' := by
  go_enter Try.func20, Try.ntmps20
  go_wp2
  go_loop [3, 4] (fun h i => ∃ k : Nat, k ≤ l.length ∧ i = .int .i64 k ∧ h = .int .u64 (fnv (l.take k))) (fun _ i => l.length - (intOf i).toNat)
  case atStart => exact ⟨0, Nat.zero_le _, rfl, rfl⟩
  case round =>
    obtain ⟨k, hk, rfl, rfl⟩ := hrel
    by_cases hlt : k < l.length
    · have hc := hl k hlt
      clear hl
      go_wp2
      go_round
      case rel => exact ⟨k + 1, by omega, by go_num, by rw [fnv_snoc l k hlt]; rfl⟩
      case measure => simp [intOf]; omega
    · obtain rfl : k = l.length := by omega
      clear hl
      go_wp2
      go_ret
      exact ⟨rfl, rfl⟩

set_option maxHeartbeats 400000 in
theorem sum13_bad (k n : Int) (s : ByteArray) (wd : Int) (w : World) (h : wd < 0 ∨ 64 < wd) :
    Calls Try.prog 13 #[.agg #[.int .i64 k, .int .i64 n, .string s], .int .i64 wd] w fun e w' => e = .returned (.tuple #[.int .u64 0, .int .i64 27]) ∧ Below w.heap.size w w' := by
  rcases h with h | h
  · go_enter Try.func13, Try.ntmps13
    go_wp2
    go_ret2
    exact ⟨rfl, (Below.refl _ _).alloc (Nat.le_refl _) _⟩
  · have h' : ¬ wd < 0 := by omega
    go_enter Try.func13, Try.ntmps13
    go_wp2
    go_ret2
    exact ⟨rfl, (Below.refl _ _).alloc (Nat.le_refl _) _⟩

set_option maxHeartbeats 400000 in
theorem sum13 (k n : Int) (s : ByteArray) (wd : Int) (w : World) (h0 : 0 ≤ wd) (h1 : wd ≤ 64) (hn : -9223372036854775808 ≤ n ∧ n ≤ 9223372036854775807) (hs : s.size ≤ maxLen) :
    Calls Try.prog 13 #[.agg #[.int .i64 k, .int .i64 n, .string s], .int .i64 wd] w fun e w' => e = .returned (.tuple #[.int .u64 (fnv (bytesV k n s) % 2 ^ wd.toNat), .int .i64 0]) ∧ Below w.heap.size w w' := by
  have hlen := (bytes_len k n s).2
  generalize hl : bytesV k n s = l at hlen
  have HN := Lib.hid hn
  have HS := Lib.hid hs
  have HL := Lib.hid hl
  clear hn hs hl
  go_enter Try.func13, Try.ntmps13
  go_wp2_with (go_at_call 11; refine (bytes11 k n s _ HN.out HS.out).mono ?_; rw [HL.out]; rintro e w1 ⟨g, cap, rfl, hown, hb⟩; have hh := Has.of_own hown; clear hown)
  have HB := Lib.hid hb
  clear hb
  go_loop [6, 18] (fun h i => ∃ j : Nat, j ≤ l.length ∧ i = .int .i64 j ∧ h = .int .u64 (fnv (l.take j))) (fun _ i => l.length - (intOf i).toNat)
  case atStart => exact ⟨0, Nat.zero_le _, rfl, rfl⟩
  case round =>
    obtain ⟨j, hj, rfl, rfl⟩ := hrel
    by_cases hlt : j < l.length
    · have hc := hh j hlt
      clear hh
      go_wp2
      go_round
      case rel => exact ⟨j + 1, by omega, by go_num, by rw [fnv_snoc l j hlt]; rfl⟩
      case measure => simp [intOf]; omega
    · obtain rfl : j = l.length := by omega
      clear hh
      go_wp2
      go_ret2
      exact ⟨ret_sum (mask_and _ _ (fnv_bd l).1 (fnv_bd l).2 (by omega)), ((Below.refl _ _).alloc (Nat.le_refl _) _).trans (HB.out.mono (by simp))⟩

set_option maxHeartbeats 400000 in
theorem sum14_bad (k n : Int) (s : ByteArray) (wd : Int) (w : World) (h : wd < 0 ∨ 64 < wd) :
    Calls Try.prog 14 #[.agg #[.int .i64 k, .int .i64 n, .string s], .int .i64 wd] w fun e w' => e = .returned (.tuple #[.int .u64 0, .int .i64 27]) ∧ Below w.heap.size w w' := by
  rcases h with h | h
  · go_enter Try.func14, Try.ntmps14
    go_wp2
    go_ret2
    exact ⟨rfl, (Below.refl _ _).alloc (Nat.le_refl _) _⟩
  · have h' : ¬ wd < 0 := by omega
    go_enter Try.func14, Try.ntmps14
    go_wp2
    go_ret2
    exact ⟨rfl, (Below.refl _ _).alloc (Nat.le_refl _) _⟩

set_option maxHeartbeats 400000 in
theorem sum14 (k n : Int) (s : ByteArray) (wd : Int) (w : World) (h0 : 0 ≤ wd) (h1 : wd ≤ 64) (hn : -9223372036854775808 ≤ n ∧ n ≤ 9223372036854775807) (hs : s.size ≤ maxLen) :
    Calls Try.prog 14 #[.agg #[.int .i64 k, .int .i64 n, .string s], .int .i64 wd] w fun e w' => e = .returned (.tuple #[.int .u64 (fnv (bytesV k n s) % 2 ^ wd.toNat), .int .i64 0]) ∧ Below w.heap.size w w' := by
  have hlen := (bytes_len k n s).2
  generalize hl : bytesV k n s = l at hlen
  have HN := Lib.hid hn
  have HS := Lib.hid hs
  have HL := Lib.hid hl
  clear hn hs hl
  by_cases hw : wd = 0
  · subst hw
    go_enter Try.func14, Try.ntmps14
    go_wp2
    go_ret2
    exact ⟨ret_sum (by simp), (Below.refl _ _).alloc (Nat.le_refl _) _⟩
  · go_enter Try.func14, Try.ntmps14
    go_wp2_with (first | (go_at_call 12; refine (bytes12 k n s _ HN.out HS.out).mono ?_; rw [HL.out]; rintro e w1 ⟨g, cap, rfl, hown, hb⟩; have hh := Lib.hid (Has.of_own hown); have HB := Lib.hid hb; clear hown hb) | (go_at_call 20; refine (fnv20 _ _ l _ hh.out (by omega)).mono ?_; rintro e w2 ⟨rfl, rfl⟩))
    go_ret2
    exact ⟨ret_sum (shift_low _ _ (fnv_bd l).1 (by omega) (by omega)), ((Below.refl _ _).alloc (Nat.le_refl _) _).trans (HB.out.mono (by simp))⟩

/-- What Sum answers: the sum and the error. -/
def sumV (k n : Int) (s : ByteArray) (wd : Int) : Int × Int := if wd < 0 ∨ 64 < wd then (0, 27) else (fnv (bytesV k n s) % 2 ^ wd.toNat, 0)

theorem sum13_any (k n : Int) (s : ByteArray) (wd : Int) (w : World) (hn : -9223372036854775808 ≤ n ∧ n ≤ 9223372036854775807) (hs : s.size ≤ maxLen) :
    Calls Try.prog 13 #[.agg #[.int .i64 k, .int .i64 n, .string s], .int .i64 wd] w fun e w' => e = .returned (.tuple #[.int .u64 (sumV k n s wd).1, .int .i64 (sumV k n s wd).2]) ∧ Below w.heap.size w w' := by
  by_cases h : wd < 0 ∨ 64 < wd
  · have e : sumV k n s wd = (0, 27) := by simp [sumV, h]
    rw [e]
    exact sum13_bad k n s wd w h
  · have e : sumV k n s wd = (fnv (bytesV k n s) % 2 ^ wd.toNat, 0) := by rw [sumV, if_neg h]
    rw [e]
    exact sum13 k n s wd w (by omega) (by omega) hn hs

theorem sum14_any (k n : Int) (s : ByteArray) (wd : Int) (w : World) (hn : -9223372036854775808 ≤ n ∧ n ≤ 9223372036854775807) (hs : s.size ≤ maxLen) :
    Calls Try.prog 14 #[.agg #[.int .i64 k, .int .i64 n, .string s], .int .i64 wd] w fun e w' => e = .returned (.tuple #[.int .u64 (sumV k n s wd).1, .int .i64 (sumV k n s wd).2]) ∧ Below w.heap.size w w' := by
  by_cases h : wd < 0 ∨ 64 < wd
  · have e : sumV k n s wd = (0, 27) := by simp [sumV, h]
    rw [e]
    exact sum14_bad k n s wd w h
  · have e : sumV k n s wd = (fnv (bytesV k n s) % 2 ^ wd.toNat, 0) := by rw [sumV, if_neg h]
    rw [e]
    exact sum14 k n s wd w (by omega) (by omega) hn hs
end Go.Proofs.Ytdifbfhmeljblaa
