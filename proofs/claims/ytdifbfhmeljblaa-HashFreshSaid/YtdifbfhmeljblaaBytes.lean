/- hash.Bytes and quadrilleref6.Bytes give the bytes bytesV of a value, in memory of their own. -/
import Derived.Test.YtdifbfhmeljblaaMay
import Derived.Lib.AppendStr
namespace Go.Proofs.Ytdifbfhmeljblaa
set_option linter.unusedVariables false
set_option linter.unusedSimpArgs false
open Go.RowKit

theorem info5 : (Try.prog.info? 5).map (fun i => (i.zero, i.size, i.bytes)) = some (some (.int .u8 0), 1, 1) := by kernel_rfl

def u8s (l : List Int) : List Value := l.map (Value.int .u8)
/-- The eight bytes of a number, the highest first. -/
def be8 (n : Int) : List Int := [n / 2 ^ 56 % 256, n / 2 ^ 48 % 256, n / 2 ^ 40 % 256, n / 2 ^ 32 % 256, n / 2 ^ 24 % 256, n / 2 ^ 16 % 256, n / 2 ^ 8 % 256, n % 256]

/-- A slice of bytes in memory from block B on holds l, and nothing below B has turned. -/
def NewBytes (B : Nat) (l : List Int) (w : World) (e : Ending) (w' : World) : Prop :=
  ∃ g cap, e = .returned (.slice (some ⟨g, 0, none⟩) l.length cap) ∧ w'.ownsRow B 5 1 (.slice (some ⟨g, 0, none⟩) l.length cap) l.length (u8s l) ∧ Below B w w'

/-- A struct of three cells that was boxed reads as it did while nothing below has turned. -/
theorem box3 {w w1 : World} {a b c : Value} {t : TypeId} (h : Below (w.alloc (.cells #[a, b, c] t)).heap.size (w.alloc (.cells #[a, b, c] t)) w1) :
    (w1.cell? ⟨w.heap.size, 0, none⟩ = some a ∧ w1.cell? ⟨w.heap.size, 1, none⟩ = some b ∧ w1.cell? ⟨w.heap.size, 2, none⟩ = some c) ∧
    (w1.frozen? ⟨w.heap.size, 0, none⟩ = false ∧ w1.frozen? ⟨w.heap.size, 1, none⟩ = false ∧ w1.frozen? ⟨w.heap.size, 2, none⟩ = false) ∧ Below w.heap.size w w1 ∧ w.heap.size < w1.heap.size := by
  have hh : w1.heap[w.heap.size]? = some (.cells #[a, b, c] t (0, 0)) := (h.block _ (by simp)).trans (heap_alloc_new w _)
  refine ⟨⟨?_, ?_, ?_⟩, ⟨?_, ?_, ?_⟩, ((Below.refl _ _).alloc (Nat.le_refl _) _).trans (h.mono (by simp)), ?_⟩
  · rw [cell_of_row w1 _ _ _ _ _ hh]; rfl
  · rw [cell_of_row w1 _ _ _ _ _ hh]; rfl
  · rw [cell_of_row w1 _ _ _ _ _ hh]; rfl
  · simp [World.frozen?, hh]
  · simp [World.frozen?, hh]
  · simp [World.frozen?, hh]
  · have := h.size; simp at this; omega

theorem u8s_snoc (l : List Int) (x : Int) : u8s l ++ [Value.int .u8 x] = u8s (l ++ [x]) := by simp [u8s]
theorem be8_snoc (n : Int) (j : Nat) (h : j < 8) : (1 :: (be8 n).take j) ++ [n / 2 ^ (56 - 8 * j) % 256] = 1 :: (be8 n).take (j + 1) := by
  rcases (by omega : j = 0 ∨ j = 1 ∨ j = 2 ∨ j = 3 ∨ j = 4 ∨ j = 5 ∨ j = 6 ∨ j = 7) with rfl | rfl | rfl | rfl | rfl | rfl | rfl | rfl <;> simp [be8]
theorem slice_form {w : World} {base : Nat} {e : TypeId} {size n : Nat} {v : Value} {xs : List Value} (h : w.ownsRow base e size v (n + 1) xs) : ∃ g cap, v = .slice (some ⟨g, 0, none⟩) (n + 1) cap := by
  rcases h.2 with ⟨_, h0⟩ | ⟨g, cap, _, rfl, _⟩
  · omega
  · exact ⟨g, cap, rfl⟩
theorem own_base {w : World} {base base' : Nat} {e : TypeId} {size n : Nat} {v : Value} {xs : List Value} (h : w.ownsRow base e size v n xs) (hb : base' ≤ base) : w.ownsRow base' e size v n xs := by
  refine ⟨h.1, ?_⟩
  rcases h.2 with h0 | ⟨g, cap, cur, hv, hg, rest⟩
  · exact .inl h0
  · exact .inr ⟨g, cap, cur, hv, by omega, rest⟩

set_option maxHeartbeats 400000 in
theorem bytes11_int (n : Int) (s : ByteArray) (w : World) (hn : -9223372036854775808 ≤ n ∧ n ≤ 9223372036854775807) (hs : s.size ≤ maxLen) (hm : mayB 1 n s = true) :
    Calls Try.prog 11 #[.agg #[.int .i64 1, .int .i64 n, .string s]] w (NewBytes w.heap.size (1 :: be8 n) w) := by
  obtain ⟨i0, hi, hz0, hz1, hz2⟩ := info_parts info5
  have HS := Lib.hid hs
  clear hs
  go_enter Try.func11, Try.ntmps11
  go_wp2_with (go_at_call 17; refine (may17 _ _ _ _ HS.out).mono ?_; rintro e w1 ⟨rfl, hb1⟩; obtain ⟨⟨hc0, hc1, hc2⟩, _, hb0, hsz⟩ := box3 hb1; clear hb1)
  have hown0 : (w1.alloc (.cells #[Value.int .u8 1] 5)).ownsRow (w.heap.size + 1) 5 1 (.slice (some ⟨w1.heap.size, 0, none⟩) 1 1) 1 [.int .u8 1] := World.ownsRow_lit w1 #[.int .u8 1] 1 hsz (by unfold maxLen; omega) rfl
  have hbel0 : Below (w.heap.size + 1) w1 (w1.alloc (.cells #[Value.int .u8 1] 5)) := (Below.refl _ _).alloc hsz _
  generalize World.alloc w1 _ = w2 at hown0 hbel0 ⊢
  go_loopw [3, 4] (fun v i wr => ∃ j g cap : Nat, j ≤ 8 ∧ i = .int .i64 (56 - 8 * (j : Int)) ∧ v = .slice (some ⟨g, 0, none⟩) (j + 1) cap ∧ wr.ownsRow (w.heap.size + 1) 5 1 (.slice (some ⟨g, 0, none⟩) (j + 1) cap) (j + 1) (u8s (1 :: (be8 n).take j)) ∧ Below (w.heap.size + 1) w1 wr) (fun _ i _ => (intOf i + 8).toNat)
  case atStart => exact ⟨0, _, _, by omega, rfl, rfl, hown0, hbel0⟩
  case round =>
    obtain ⟨j, g, cap, hj, rfl, rfl, hown, hbel⟩ := hrel
    have hc1' : wr.cell? ⟨w.heap.size, 1, none⟩ = some (.int .i64 n) := (hbel.cell (p := ⟨w.heap.size, 1, none⟩) (by simp)).trans hc1
    clear hown0 hbel0 hc0 hc1 hc2
    by_cases hlt : j < 8
    · go_wp2_with (at_builtin; refine wpList_append_own _ rfl _ _ 30 rfl (w.heap.size + 1) 5 i0 (.int .u8 0) 1 1 Try.underlying30 hi hz0 hz1 hz2 rfl (by decide) _ _ _ rfl (hown.alloc _) ⟨wr.heap.size, 0, none⟩ 1 1 [_] rfl rfl (cell_one_new _ _ _) ?c2 ?c3 ?c4 ?c5 ?_)
      case c2 => intro u hu; simp at hu; subst hu; rfl
      case c3 => unfold maxLen; omega
      case c4 => omega
      case c5 => have := hbel.size; simp; omega
      intro v' wx hown' hgrow _
      rw [u8s_snoc, be8_snoc n j hlt] at hown'
      obtain ⟨g', cap', rfl⟩ := slice_form hown'
      have hb' : Below (w.heap.size + 1) w1 wx := (hbel.alloc (Nat.le_trans hsz hbel.size) _).grown hgrow (Nat.le_trans (Nat.le_trans hsz hbel.size) (by simp)) (fun k hk => by simp only [Value.ownBlock, Option.some.injEq] at hk; subst hk; exact (hown.lt _ rfl).1)
      clear hown hbel hgrow hc1'
      go_wp2
      go_roundw
      case rel => exact ⟨j + 1, g', cap', by omega, by go_num, rfl, hown', hb'⟩
      case measure => simp [intOf]; omega
    · obtain rfl : j = 8 := by omega
      have HO := Lib.hid hown
      have HB := Lib.hid hbel
      clear hown hbel hlt hc1'
      go_wp2
      go_ret
      exact ⟨g, cap, rfl, own_base (HO.out) (by omega), hb0.trans (HB.out.mono (by omega))⟩

/-- A string's bytes. -/
def strInts (s : ByteArray) : List Int := s.data.toList.map fun b => (b.toNat : Int)
theorem u8s_strInts (s : ByteArray) : u8s (strInts s) = Lib.strCells s := by simp [u8s, strInts, Lib.strCells]
theorem strInts_length (s : ByteArray) : (strInts s).length = s.size := by simp [strInts]

/-- What hash.Bytes gives of a value that may be, behind its kind. -/
def tailV (k n : Int) (s : ByteArray) : List Int := if k = 1 then be8 n else if k = 2 ∨ k = 4 then [n] else strInts s
/-- The bytes of a value. -/
def bytesV (k n : Int) (s : ByteArray) : List Int := if mayB k n s = true then k :: tailV k n s else [4, 4]

theorem may_cases {k n : Int} {s : ByteArray} (h : mayB k n s = true) :
    (k = 0 ∧ n = 0 ∧ s.size ≤ 32767) ∨ k = 1 ∨ (k = 2 ∧ 0 ≤ n ∧ n ≤ 1) ∨ (k = 3 ∧ n = 0 ∧ s.size ≤ 32767) ∨ (k = 4 ∧ 1 ≤ n ∧ n ≤ 6) := by
  unfold mayB at h
  by_cases h0 : k = 0
  · simp [h0] at h
    obtain ⟨h1, h2⟩ := h
    refine .inl ⟨h0, h1, ?_⟩
    have : s.size = 0 := by
      rw [← strInts_length]
      have h3 : s.data.toList = [] := by
        rw [← ByteArray.toList_eq]
        simpa using h2
      simp [strInts, h3]
    omega
  · by_cases h1 : k = 1
    · exact .inr (.inl h1)
    · by_cases h2 : k = 2
      · simp [h2] at h; exact .inr (.inr (.inl (by omega)))
      · by_cases h3 : k = 3
        · simp [h3] at h; exact .inr (.inr (.inr (.inl (by omega))))
        · by_cases h4 : k = 4
          · simp [h4] at h; exact .inr (.inr (.inr (.inr (by omega))))
          · simp [h0, h1, h2, h3, h4] at h

theorem u8s_cons (x : Int) (l : List Int) : u8s (x :: l) = [Value.int .u8 x] ++ u8s l := rfl
theorem one_le : 1 ≤ maxLen := by unfold maxLen; omega
theorem two_le : 1 + 1 ≤ maxLen := by unfold maxLen; omega
theorem two_le' : (1 + 1) * 1 ≤ 140737488355328 := by omega
theorem app_fits {s : ByteArray} (h : s.size ≤ 32767) : 1 + s.size ≤ maxLen := by unfold maxLen; omega
theorem app_fits' {s : ByteArray} (h : s.size ≤ 32767) : 1 + s.size ≤ 140737488355328 := by omega
theorem grow_size {b : Nat} {w : World} {o : Obj} (h : b < w.heap.size) : b + 1 ≤ (w.alloc o).heap.size := by simp; omega
theorem grow_size2 {b : Nat} {w : World} {o o' : Obj} (h : b < w.heap.size) : b + 1 ≤ ((w.alloc o).alloc o').heap.size := by simp; omega
theorem set3_size {b : Nat} {w : World} {p q r : Addr} {x y z : Value} (h : b < w.heap.size) : b < (((w.setCell p x).setCell q y).setCell r z).heap.size := by simpa [World.setCell] using h
theorem set3_eq (w : World) (p q r : Addr) (x y z : Value) : (((w.setCell p x).setCell q y).setCell r z).heap.size = w.heap.size := by simp [World.setCell]
theorem row_lit_at (w : World) (x : Value) (b base : Nat) (hb : w.heap.size = b) (hbase : base < b) : (w.alloc (.cells #[x] 5)).ownsRow (base + 1) 5 1 (.slice (some ⟨b, 0, none⟩) 1 1) 1 [x] := by
  subst hb
  exact World.ownsRow_lit w #[x] 1 hbase (by unfold maxLen; omega) rfl
theorem cell_at (w : World) (x : Value) (t : TypeId) (f : Nat × Nat) (b : Nat) (hb : w.heap.size = b) : ∀ j u, [x][j]? = some u → (w.alloc (.cells #[x] t f)).cell? ((⟨b, 0, none⟩ : Addr).add j) = some u := by
  intro j u hu
  subst hb
  have hj : j = 0 := by
    cases j with
    | zero => rfl
    | succ j => simp at hu
  subst hj
  rw [Addr.add_lit, cell_of_row _ _ _ _ _ _ (heap_alloc_new w _)]
  simpa using hu
theorem cell_two_at (w : World) (o : Obj) (x : Value) (t : TypeId) (f : Nat × Nat) (b : Nat) (hb : w.heap.size = b) : ∀ j u, [x][j]? = some u → ((w.alloc o).alloc (.cells #[x] t f)).cell? ((⟨b + 1, 0, none⟩ : Addr).add j) = some u :=
  cell_at (w.alloc o) x t f (b + 1) (by simp [hb])
theorem one_u8 (x : Int) : ∀ u ∈ [Value.int .u8 x], u.oneCell' = true := by intro u hu; simp at hu; subst hu; rfl
theorem newBytes_of {B : Nat} {w w' : World} {l : List Int} {m : Nat} (g cap : Nat) (hl : l.length = m) (ho : w'.ownsRow B 5 1 (.slice (some ⟨g, 0, none⟩) m cap) m (u8s l)) (hb : Below B w w') :
    NewBytes B l w (.returned (.slice (some ⟨g, 0, none⟩) m cap)) w' := by
  subst hl
  exact ⟨g, cap, rfl, ho, hb⟩

set_option maxHeartbeats 400000 in
theorem bytes11_text (k n : Int) (s : ByteArray) (w : World) (hk : k = 0 ∨ k = 3) (hs : s.size ≤ 32767) (hm : mayB k n s = true) :
    Calls Try.prog 11 #[.agg #[.int .i64 k, .int .i64 n, .string s]] w (NewBytes w.heap.size (k :: strInts s) w) := by
  obtain ⟨i0, hi, hz0, hz1, hz2⟩ := info_parts info5
  have hs' : s.size ≤ maxLen := by unfold maxLen; omega
  have HS := Lib.hid hs'
  clear hs'
  rcases hk with rfl | rfl
  all_goals
    go_enter Try.func11, Try.ntmps11
    go_wp2_with (first | (go_at_call 17; refine (may17 _ _ _ _ HS.out).mono ?_; rintro e w1 ⟨rfl, hb1⟩; obtain ⟨⟨hc0, hc1, hc2⟩, _, hb0, hsz⟩ := box3 hb1; clear hb1) | (at_builtin; refine Lib.wpList_append_own_string _ rfl _ _ 30 9 rfl (w.heap.size + 1) 5 i0 Try.underlying30 Try.underlying9 hi hz0 hz1 hz2 _ 1 _ rfl (World.ownsRow_lit _ #[_] 1 hsz one_le rfl) s rfl (app_fits hs) (app_fits' hs) (grow_size hsz) ?_))
    intro v' wx hown' hgrow _
    rw [Nat.add_comm 1 s.size] at hown'
    obtain ⟨g', cap', rfl⟩ := slice_form hown'
    have hb' : Below w.heap.size w wx := (hb0.alloc (Nat.le_of_lt hsz) _).grown hgrow (by simp; omega) (fun k hk => by simp only [Value.ownBlock, Option.some.injEq] at hk; omega)
    have ho : wx.ownsRow w.heap.size 5 1 (.slice (some ⟨g', 0, none⟩) (s.size + 1) cap') (s.size + 1) (u8s (_ :: strInts s)) := own_base (base := w.heap.size + 1) (by rw [u8s_cons, u8s_strInts]; exact hown') (by omega)
    clear hown' hgrow hc0 hc1 hc2
    have HO := Lib.hid ho
    have HB := Lib.hid hb'
    clear ho hb'
    go_wp2
    go_ret
    exact newBytes_of _ _ (by simp [strInts_length]) HO.out HB.out

set_option maxHeartbeats 400000 in
theorem bytes11_one (k n : Int) (s : ByteArray) (w : World) (hk : k = 2 ∨ k = 4) (hn : 0 ≤ n ∧ n ≤ 6) (hs : s.size ≤ maxLen) (hm : mayB k n s = true) :
    Calls Try.prog 11 #[.agg #[.int .i64 k, .int .i64 n, .string s]] w (NewBytes w.heap.size [k, n] w) := by
  obtain ⟨i0, hi, hz0, hz1, hz2⟩ := info_parts info5
  have HS := Lib.hid hs
  clear hs
  rcases hk with rfl | rfl
  all_goals
    go_enter Try.func11, Try.ntmps11
    go_wp2_with (first | (go_at_call 17; refine (may17 _ _ _ _ HS.out).mono ?_; rintro e w1 ⟨rfl, hb1⟩; obtain ⟨⟨hc0, hc1, hc2⟩, _, hb0, hsz⟩ := box3 hb1; clear hb1) | (at_builtin; refine wpList_append_own _ rfl _ _ 30 rfl (w.heap.size + 1) 5 i0 (.int .u8 0) 1 1 Try.underlying30 hi hz0 hz1 hz2 rfl (by decide) _ 1 _ rfl ((World.ownsRow_lit _ #[_] 1 hsz one_le rfl).alloc _) ⟨w1.heap.size + 1, 0, none⟩ 1 1 [_] rfl rfl (cell_two_at _ _ _ _ _ _ rfl) (one_u8 _) two_le two_le' (grow_size2 hsz) ?_))
    intro v' wx hown' hgrow _
    obtain ⟨g', cap', rfl⟩ := slice_form (n := 1) hown'
    have hb' : Below w.heap.size w wx := ((hb0.alloc (Nat.le_of_lt hsz) _).alloc (by simp; omega) _).grown hgrow (by simp; omega) (fun k hk => by simp only [Value.ownBlock, Option.some.injEq] at hk; omega)
    have ho : wx.ownsRow w.heap.size 5 1 (.slice (some ⟨g', 0, none⟩) 2 cap') 2 (u8s [_, _]) := own_base (base := w.heap.size + 1) hown' (by omega)
    clear hown' hgrow hc0 hc1 hc2
    have HO := Lib.hid ho
    have HB := Lib.hid hb'
    clear ho hb'
    go_wp2
    go_ret
    exact newBytes_of _ _ rfl HO.out HB.out

/-- A value that may not be has the bytes of #VALUE!. -/
theorem bytes11_bad (k n : Int) (s : ByteArray) (w : World) (hs : s.size ≤ maxLen) (hm : mayB k n s = false) :
    Calls Try.prog 11 #[.agg #[.int .i64 k, .int .i64 n, .string s]] w (NewBytes w.heap.size [4, 4] w) := by
  obtain ⟨i0, hi, hz0, hz1, hz2⟩ := info_parts info5
  have HS := Lib.hid hs
  clear hs
  go_enter Try.func11, Try.ntmps11
  go_wp2_with (first | (go_at_call 17; refine (may17 _ _ _ _ HS.out).mono ?_; rintro e w1 ⟨rfl, hb1⟩; obtain ⟨⟨hc0, hc1, hc2⟩, ⟨hf0, hf1, hf2⟩, hb0, hsz⟩ := box3 hb1; clear hb1) | (at_builtin; refine wpList_append_own _ rfl _ _ 30 rfl (w.heap.size + 1) 5 i0 (.int .u8 0) 1 1 Try.underlying30 hi hz0 hz1 hz2 rfl (by decide) _ 1 _ rfl ((row_lit_at _ _ _ _ (set3_eq _ _ _ _ _ _ _) hsz).alloc _) ⟨w1.heap.size + 1, 0, none⟩ 1 1 [_] rfl rfl (cell_two_at _ _ _ _ _ _ (set3_eq _ _ _ _ _ _ _)) (one_u8 _) two_le two_le' (grow_size2 (set3_size hsz)) ?_))
  intro v' wx hown' hgrow _
  obtain ⟨g', cap', rfl⟩ := slice_form (n := 1) hown'
  have hb' : Below w.heap.size w wx := (((((hb0.setCell (p := ⟨w.heap.size, 0, none⟩) (Nat.le_refl _) _).setCell (p := ⟨w.heap.size, 1, none⟩) (Nat.le_refl _) _).setCell (p := ⟨w.heap.size, 2, none⟩) (Nat.le_refl _) _).alloc (by simp [World.setCell]; omega) _).alloc (by simp [World.setCell]; omega) _).grown hgrow (by simp [World.setCell]; omega) (fun k hk => by simp only [Value.ownBlock, Option.some.injEq] at hk; omega)
  have ho : wx.ownsRow w.heap.size 5 1 (.slice (some ⟨g', 0, none⟩) 2 cap') 2 (u8s [_, _]) := own_base (base := w.heap.size + 1) hown' (by omega)
  clear hown' hgrow hc0 hc1 hc2 hf0 hf1 hf2
  have HO := Lib.hid ho
  have HB := Lib.hid hb'
  clear ho hb'
  go_wp2
  go_ret
  exact newBytes_of _ _ rfl HO.out HB.out

/-- hash.Bytes, whatever the value. -/
theorem bytes11 (k n : Int) (s : ByteArray) (w : World) (hn : -9223372036854775808 ≤ n ∧ n ≤ 9223372036854775807) (hs : s.size ≤ maxLen) :
    Calls Try.prog 11 #[.agg #[.int .i64 k, .int .i64 n, .string s]] w (NewBytes w.heap.size (bytesV k n s) w) := by
  cases hm : mayB k n s
  · have e : bytesV k n s = [4, 4] := by simp [bytesV, hm]
    rw [e]
    exact bytes11_bad k n s w hs hm
  · have e : bytesV k n s = k :: tailV k n s := by simp [bytesV, hm]
    rw [e]
    rcases may_cases hm with ⟨rfl, rfl, h⟩ | rfl | ⟨rfl, h⟩ | ⟨rfl, rfl, h⟩ | ⟨rfl, h⟩
    · exact bytes11_text 0 0 s w (.inl rfl) h hm
    · exact bytes11_int n s w hn hs hm
    · exact bytes11_one 2 n s w (.inl rfl) (by omega) hs hm
    · exact bytes11_text 3 0 s w (.inr rfl) h hm
    · exact bytes11_one 4 n s w (.inr rfl) (by omega) hs hm
end Go.Proofs.Ytdifbfhmeljblaa
