/- quadrilleref6.Bytes gives the bytes bytesV of a value too. -/
import Derived.Test.YtdifbfhmeljblaaBytes
namespace Go.Proofs.Ytdifbfhmeljblaa
set_option linter.unusedVariables false
set_option linter.unusedSimpArgs false
open Go.RowKit

theorem strInts_nil {s : ByteArray} (h : s.toList = []) : strInts s = [] := by rw [ByteArray.toList_eq] at h; simp [strInts, h]
theorem blank_nil {n : Int} {s : ByteArray} (h : mayB 0 n s = true) : s.toList = [] := by simp [mayB] at h; simp [h.2]

theorem u64_byte (n : Int) (j : Nat) (h : j < 8) : IntKind.u64.wrap n / 2 ^ (56 - 8 * j) % 256 = n / 2 ^ (56 - 8 * j) % 256 := by
  have e : IntKind.u64.wrap n = n % 18446744073709551616 := by simp [IntKind.wrap, IntKind.signed, IntKind.bits]
  rw [e]
  rcases (by omega : j = 0 ∨ j = 1 ∨ j = 2 ∨ j = 3 ∨ j = 4 ∨ j = 5 ∨ j = 6 ∨ j = 7) with rfl | rfl | rfl | rfl | rfl | rfl | rfl | rfl <;> simp <;> omega

set_option maxHeartbeats 400000 in
theorem bytes12_int (n : Int) (s : ByteArray) (w : World) (hn : -9223372036854775808 ≤ n ∧ n ≤ 9223372036854775807) (hs : s.size ≤ maxLen) (hm : mayB 1 n s = true) :
    Calls Try.prog 12 #[.agg #[.int .i64 1, .int .i64 n, .string s]] w (NewBytes w.heap.size (1 :: be8 n) w) := by
  obtain ⟨i0, hi, hz0, hz1, hz2⟩ := info_parts info5
  have HS := Lib.hid hs
  clear hs
  go_enter Try.func12, Try.ntmps12
  go_wp2_with (go_at_call 18; refine (may18 _ _ _ _ HS.out).mono ?_; rintro e w1 ⟨rfl, hb1⟩; obtain ⟨⟨hc0, hc1, hc2⟩, _, hb0, hsz⟩ := box3 hb1; clear hb1)
  have hown0 : (w1.alloc (.cells #[Value.int .u8 1] 5)).ownsRow (w.heap.size + 1) 5 1 (.slice (some ⟨w1.heap.size, 0, none⟩) 1 1) 1 [.int .u8 1] := World.ownsRow_lit w1 #[.int .u8 1] 1 hsz (by unfold maxLen; omega) rfl
  have hbel0 : Below (w.heap.size + 1) w1 (w1.alloc (.cells #[Value.int .u8 1] 5)) := (Below.refl _ _).alloc hsz _
  generalize World.alloc w1 _ = w2 at hown0 hbel0 ⊢
  go_loopw [3, 4] (fun v i wr => ∃ j g cap : Nat, j ≤ 8 ∧ i = .int .i64 (56 - 8 * (j : Int)) ∧ v = .slice (some ⟨g, 0, none⟩) (j + 1) cap ∧ wr.ownsRow (w.heap.size + 1) 5 1 (.slice (some ⟨g, 0, none⟩) (j + 1) cap) (j + 1) (u8s (1 :: (be8 n).take j)) ∧ Below (w.heap.size + 1) w1 wr) (fun _ i _ => (intOf i + 8).toNat)
  case atStart => exact ⟨0, _, _, by omega, rfl, rfl, hown0, hbel0⟩
  case round =>
    obtain ⟨j, g, cap, hj, rfl, rfl, hown, hbel⟩ := hrel
    have hc1' : wr.cell? ⟨w.heap.size, 1, none⟩ = some (.int .i64 n) := (hbel.cell (p := ⟨w.heap.size, 1, none⟩) (by simp)).trans hc1
    clear hown0 hbel0 hc0 hc1 hc2
    by_cases hlt : j < 8
    · go_wp2_with (at_builtin; refine wpList_append_own _ rfl _ _ 30 rfl (w.heap.size + 1) 5 i0 (.int .u8 0) 1 1 Try.underlying30 hi hz0 hz1 hz2 rfl (by decide) _ _ _ rfl (hown.alloc _) ⟨wr.heap.size, 0, none⟩ 1 1 [_] rfl rfl (cell_one_new _ _ _) ?c2 ?c3 ?c4 ?c5 ?_)
      case c2 => intro u hu; simp at hu; subst hu; rfl
      case c3 => unfold maxLen; omega
      case c4 => omega
      case c5 => have := hbel.size; simp; omega
      intro v' wx hown' hgrow _
      rw [u8s_snoc, u64_byte n j hlt, be8_snoc n j hlt] at hown'
      obtain ⟨g', cap', rfl⟩ := slice_form hown'
      have hb' : Below (w.heap.size + 1) w1 wx := (hbel.alloc (Nat.le_trans hsz hbel.size) _).grown hgrow (Nat.le_trans (Nat.le_trans hsz hbel.size) (by simp)) (fun k hk => by simp only [Value.ownBlock, Option.some.injEq] at hk; subst hk; exact (hown.lt _ rfl).1)
      clear hown hbel hgrow hc1'
      go_wp2
      go_roundw
      case rel => exact ⟨j + 1, g', cap', by omega, by go_num, rfl, hown', hb'⟩
      case measure => simp [intOf]; omega
    · obtain rfl : j = 8 := by omega
      have HO := Lib.hid hown
      have HB := Lib.hid hbel
      clear hown hbel hlt hc1'
      go_wp2
      go_ret
      exact ⟨g, cap, rfl, own_base (HO.out) (by omega), hb0.trans (HB.out.mono (by omega))⟩

set_option maxHeartbeats 400000 in
theorem bytes12_text (k n : Int) (s : ByteArray) (w : World) (hk : k = 3) (hs : s.size ≤ 32767) (hm : mayB k n s = true) :
    Calls Try.prog 12 #[.agg #[.int .i64 k, .int .i64 n, .string s]] w (NewBytes w.heap.size (k :: strInts s) w) := by
  obtain ⟨i0, hi, hz0, hz1, hz2⟩ := info_parts info5
  have hs' : s.size ≤ maxLen := by unfold maxLen; omega
  have HS := Lib.hid hs'
  clear hs'
  subst hk
  all_goals
    go_enter Try.func12, Try.ntmps12
    go_wp2_with (first | (go_at_call 18; refine (may18 _ _ _ _ HS.out).mono ?_; rintro e w1 ⟨rfl, hb1⟩; obtain ⟨⟨hc0, hc1, hc2⟩, _, hb0, hsz⟩ := box3 hb1; clear hb1) | (at_builtin; refine Lib.wpList_append_own_string _ rfl _ _ 30 9 rfl (w.heap.size + 1) 5 i0 Try.underlying30 Try.underlying9 hi hz0 hz1 hz2 _ 1 _ rfl (World.ownsRow_lit _ #[_] 1 hsz one_le rfl) s rfl (app_fits hs) (app_fits' hs) (grow_size hsz) ?_))
    intro v' wx hown' hgrow _
    rw [Nat.add_comm 1 s.size] at hown'
    obtain ⟨g', cap', rfl⟩ := slice_form hown'
    have hb' : Below w.heap.size w wx := (hb0.alloc (Nat.le_of_lt hsz) _).grown hgrow (by simp; omega) (fun k hk => by simp only [Value.ownBlock, Option.some.injEq] at hk; omega)
    have ho : wx.ownsRow w.heap.size 5 1 (.slice (some ⟨g', 0, none⟩) (s.size + 1) cap') (s.size + 1) (u8s (_ :: strInts s)) := own_base (base := w.heap.size + 1) (by rw [u8s_cons, u8s_strInts]; exact hown') (by omega)
    clear hown' hgrow hc0 hc1 hc2
    have HO := Lib.hid ho
    have HB := Lib.hid hb'
    clear ho hb'
    go_wp2
    go_ret
    exact newBytes_of _ _ (by simp [strInts_length]) HO.out HB.out

set_option maxHeartbeats 400000 in
theorem bytes12_blank (n : Int) (s : ByteArray) (w : World) (hs : s.size ≤ maxLen) (hm : mayB 0 n s = true) :
    Calls Try.prog 12 #[.agg #[.int .i64 0, .int .i64 n, .string s]] w (NewBytes w.heap.size [0] w) := by
  have HS := Lib.hid hs
  clear hs
  go_enter Try.func12, Try.ntmps12
  go_wp2_with (go_at_call 18; refine (may18 _ _ _ _ HS.out).mono ?_; rintro e w1 ⟨rfl, hb1⟩; obtain ⟨⟨hc0, hc1, hc2⟩, _, hb0, hsz⟩ := box3 hb1; clear hb1)
  go_ret
  exact newBytes_of _ _ rfl (World.ownsRow_lit _ #[_] 1 (Nat.le_of_lt hsz) one_le rfl) (hb0.alloc (Nat.le_of_lt hsz) _)

set_option maxHeartbeats 400000 in
theorem bytes12_one (k n : Int) (s : ByteArray) (w : World) (hk : k = 2 ∨ k = 4) (hn : 0 ≤ n ∧ n ≤ 6) (hs : s.size ≤ maxLen) (hm : mayB k n s = true) :
    Calls Try.prog 12 #[.agg #[.int .i64 k, .int .i64 n, .string s]] w (NewBytes w.heap.size [k, n] w) := by
  obtain ⟨i0, hi, hz0, hz1, hz2⟩ := info_parts info5
  have HS := Lib.hid hs
  clear hs
  rcases hk with rfl | rfl
  all_goals
    go_enter Try.func12, Try.ntmps12
    go_wp2_with (first | (go_at_call 18; refine (may18 _ _ _ _ HS.out).mono ?_; rintro e w1 ⟨rfl, hb1⟩; obtain ⟨⟨hc0, hc1, hc2⟩, _, hb0, hsz⟩ := box3 hb1; clear hb1) | (at_builtin; refine wpList_append_own _ rfl _ _ 30 rfl (w.heap.size + 1) 5 i0 (.int .u8 0) 1 1 Try.underlying30 hi hz0 hz1 hz2 rfl (by decide) _ 1 _ rfl ((World.ownsRow_lit _ #[_] 1 hsz one_le rfl).alloc _) ⟨w1.heap.size + 1, 0, none⟩ 1 1 [_] rfl rfl (cell_two_at _ _ _ _ _ _ rfl) (one_u8 _) two_le two_le' (grow_size2 hsz) ?_))
    intro v' wx hown' hgrow _
    obtain ⟨g', cap', rfl⟩ := slice_form (n := 1) hown'
    have hb' : Below w.heap.size w wx := ((hb0.alloc (Nat.le_of_lt hsz) _).alloc (by simp; omega) _).grown hgrow (by simp; omega) (fun k hk => by simp only [Value.ownBlock, Option.some.injEq] at hk; omega)
    have ho : wx.ownsRow w.heap.size 5 1 (.slice (some ⟨g', 0, none⟩) 2 cap') 2 (u8s [_, _]) := own_base (base := w.heap.size + 1) hown' (by omega)
    clear hown' hgrow hc0 hc1 hc2
    have HO := Lib.hid ho
    have HB := Lib.hid hb'
    clear ho hb'
    go_wp2
    go_ret
    exact newBytes_of _ _ rfl HO.out HB.out

/-- A value that may not be has the bytes of #VALUE!. -/
theorem bytes12_bad (k n : Int) (s : ByteArray) (w : World) (hs : s.size ≤ maxLen) (hm : mayB k n s = false) :
    Calls Try.prog 12 #[.agg #[.int .i64 k, .int .i64 n, .string s]] w (NewBytes w.heap.size [4, 4] w) := by
  obtain ⟨i0, hi, hz0, hz1, hz2⟩ := info_parts info5
  have HS := Lib.hid hs
  clear hs
  go_enter Try.func12, Try.ntmps12
  go_wp2_with (first | (go_at_call 18; refine (may18 _ _ _ _ HS.out).mono ?_; rintro e w0 ⟨rfl, hb1⟩; have HB1 := Lib.hid hb1; clear hb1) | (go_at_call 19; refine (err19 _ _).mono ?_; rintro e w1 ⟨rfl, hb2⟩; obtain ⟨⟨hc0, hc1, hc2⟩, ⟨hf0, hf1, hf2⟩, hb0, hsz⟩ := box3 (HB1.out.trans (hb2.mono HB1.out.size)); clear hb2) | (at_builtin; refine wpList_append_own _ rfl _ _ 30 rfl (w.heap.size + 1) 5 i0 (.int .u8 0) 1 1 Try.underlying30 hi hz0 hz1 hz2 rfl (by decide) _ 1 _ rfl ((row_lit_at _ _ _ _ (set3_eq _ _ _ _ _ _ _) hsz).alloc _) ⟨w1.heap.size + 1, 0, none⟩ 1 1 [_] rfl rfl (cell_two_at _ _ _ _ _ _ (set3_eq _ _ _ _ _ _ _)) (one_u8 _) two_le two_le' (grow_size2 (set3_size hsz)) ?_))
  intro v' wx hown' hgrow _
  obtain ⟨g', cap', rfl⟩ := slice_form (n := 1) hown'
  have hb' : Below w.heap.size w wx := (((((hb0.setCell (p := ⟨w.heap.size, 0, none⟩) (Nat.le_refl _) _).setCell (p := ⟨w.heap.size, 1, none⟩) (Nat.le_refl _) _).setCell (p := ⟨w.heap.size, 2, none⟩) (Nat.le_refl _) _).alloc (by simp [World.setCell]; omega) _).alloc (by simp [World.setCell]; omega) _).grown hgrow (by simp [World.setCell]; omega) (fun k hk => by simp only [Value.ownBlock, Option.some.injEq] at hk; omega)
  have ho : wx.ownsRow w.heap.size 5 1 (.slice (some ⟨g', 0, none⟩) 2 cap') 2 (u8s [_, _]) := own_base (base := w.heap.size + 1) hown' (by omega)
  clear hown' hgrow hc0 hc1 hc2 hf0 hf1 hf2
  have HO := Lib.hid ho
  have HB := Lib.hid hb'
  clear ho hb'
  go_wp2
  go_ret
  exact newBytes_of _ _ rfl HO.out HB.out

/-- quadrilleref6.Bytes, whatever the value. -/
theorem bytes12 (k n : Int) (s : ByteArray) (w : World) (hn : -9223372036854775808 ≤ n ∧ n ≤ 9223372036854775807) (hs : s.size ≤ maxLen) :
    Calls Try.prog 12 #[.agg #[.int .i64 k, .int .i64 n, .string s]] w (NewBytes w.heap.size (bytesV k n s) w) := by
  cases hm : mayB k n s
  · have e : bytesV k n s = [4, 4] := by simp [bytesV, hm]
    rw [e]
    exact bytes12_bad k n s w hs hm
  · have e : bytesV k n s = k :: tailV k n s := by simp [bytesV, hm]
    rw [e]
    rcases may_cases hm with ⟨rfl, rfl, h⟩ | rfl | ⟨rfl, h⟩ | ⟨rfl, rfl, h⟩ | ⟨rfl, h⟩
    · have e : (0 : Int) :: tailV 0 0 s = [0] := by simp [tailV, strInts_nil (blank_nil hm)]
      rw [e]
      exact bytes12_blank 0 s w hs hm
    · exact bytes12_int n s w hn hs hm
    · exact bytes12_one 2 n s w (.inl rfl) (by omega) hs hm
    · exact bytes12_text 3 0 s w rfl h hm
    · exact bytes12_one 4 n s w (.inr rfl) (by omega) hs hm
end Go.Proofs.Ytdifbfhmeljblaa
