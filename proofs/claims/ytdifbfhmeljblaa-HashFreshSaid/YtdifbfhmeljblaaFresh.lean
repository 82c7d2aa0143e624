/- quadrillelaw6.HashFresh answers true at every input: the walk. -/
import Derived.Test.YtdifbfhmeljblaaRows2
import Derived.OwnWalk
import Derived.Laws.IdiomStrings
import Derived.Deep.RegionHeld3
namespace Go.Proofs.Ytdifbfhmeljblaa
set_option linter.unusedVariables false
set_option linter.unusedSimpArgs false
open Go.RowKit

theorem info30 : (Try.prog.info? 30).map (fun i => (i.zero, i.size, i.bytes)) = some (some (.slice none 0 0), 1, 24) := by kernel_rfl
theorem info9 : (Try.prog.info? 9).map (fun i => (i.zero, i.size, i.bytes)) = some (some (.string ⟨#[]⟩), 1, 16) := by kernel_rfl
theorem strOf_size (l : List Int) : (strOfNums l).size = l.length := by simp [strOfNums, ByteArray.size]
def by8 (j : Nat) : Int := (j : Int) % 256
def Good (t : Nat) (la : List (Value × Nat × Int)) (qa : List (Value × List Int)) : Prop := (∀ j p, la[j]? = some p → 1 ≤ p.2.1 ∧ (t ≤ j → p.2.1 ≤ 40000) ∧ p.2.2 = by8 j) ∧ (∀ p ∈ qa, Byt p.2 ∧ 1 ≤ p.2.length ∧ p.2.length ≤ 40000)
theorem Own.froz {W : World} {B : Nat} {rs : List RowD} {r : RowD} (h : Own W B rs) (hr : r ∈ rs) {g n cap : Nat} (hv : r.v = .slice (some ⟨g, 0, none⟩) n cap) (j : Nat) : W.frozen? ⟨g, j, none⟩ = false := by
  have ho := h.1 r hr
  rw [hv] at ho
  rcases ho.2 with ⟨h0, _⟩ | ⟨g', cap', cur, e, _, hg, _⟩
  · cases h0
  · cases e
    simp [World.frozen?, hg]

theorem Own.cellv {W : World} {B : Nat} {rs : List RowD} {r : RowD} (h : Own W B rs) (hr : r ∈ rs) {g n cap : Nat} (hv : r.v = .slice (some ⟨g, 0, none⟩) n cap) {i : Nat} {u : Value} (hu : r.xs[i]? = some u) : W.cell? ⟨g, i, none⟩ = some u := by
  obtain ⟨g', cap', e, _, hc⟩ := h.cell hr hu
  rw [hv] at e
  simp only [Value.slice.injEq, Option.some.injEq, Addr.mk.injEq, and_true] at e
  rw [e.1]
  exact hc

theorem str_of {l : List Int} (h : Byt l) : strInts (strOfNums l) = l := by
  unfold strInts strOfNums
  simp only [List.map_map]
  conv => rhs; rw [← List.map_id l]
  refine List.map_congr_left fun x hx => ?_
  have := h x hx
  simp only [Function.comp, id]
  rw [UInt8.toNat_ofNat']
  omega
theorem has_bytes (W : World) (s : ByteArray) (cap : Nat) (fr : Nat × Nat) : Has (W.drew.alloc (.cells (bytesRow s cap) 5 fr)) W.heap.size (strInts s) := by
  intro j hj
  have h : (W.drew.alloc (.cells (bytesRow s cap) 5 fr)).heap[W.heap.size]? = some (.cells (bytesRow s cap) 5 fr) := heap_alloc_new W.drew _
  rw [cell_of_row _ _ _ _ _ _ h]
  rw [strInts_length] at hj
  have hj' : j < s.data.size := hj
  unfold bytesRow
  rw [Array.getElem?_append_left (by simpa using hj')]
  simp [strInts, List.getD, hj']
  rw [Array.getElem?_eq_getElem hj']
  exact ⟨_, rfl, rfl⟩

theorem Own.slice {W : World} {B : Nat} {rs : List RowD} {r : RowD} (h : Own W B rs) (hr : r ∈ rs) (h0 : 1 ≤ r.xs.length) : ∃ g cap, r.v = .slice (some ⟨g, 0, none⟩) r.xs.length cap ∧ r.xs.length ≤ cap ∧ cap ≤ maxLen := by
  have ho := h.1 r hr
  rcases ho.2 with ⟨_, e⟩ | ⟨g, cap, cur, hv, _, _, hnc, hcm, _⟩
  · omega
  · exact ⟨g, cap, hv, hnc, hcm⟩
/-- How far a list is grown. -/
def roomV (n c : Nat) : Nat := if n + 70000 < c then n + 70000 else c
theorem room16n (n c : Nat) (w : World) (hn : n ≤ 1000000) (hc : c ≤ maxLen) : Calls Try.prog 16 #[.int .i64 n, .int .i64 c] w fun e w' => e = .returned (.int .i64 (roomV n c)) ∧ w = w' := by
  refine (room16 n c w (by omega) (by omega)).mono ?_
  rintro e w' ⟨rfl, rfl⟩
  refine ⟨ret_int ?_, rfl⟩
  unfold roomV
  split <;> split <;> omega
theorem set_self {α : Type} {l : List α} {i : Nat} {p : α} (h : l[i]? = some p) : l.set i p = l := by
  obtain ⟨hi, rfl⟩ := List.getElem?_eq_some_iff.1 h
  exact List.set_getElem_self hi
/-- The length of the slice that lies in a cell. -/
def lenAt (W : World) (a : Addr) : Nat := match W.cell? a with
  | some (.slice _ n _) => n
  | _ => 0

set_option maxRecDepth 100000 in
set_option maxHeartbeats 2000000 in
theorem hashFresh_walk (A : Option Addr) (C : Nat) (vs : List Val) (w : World) (hv : ValsAt w A vs) (hf : ∀ v ∈ vs, v.fits) (hl : vs.length * 32 ≤ 140737488351232) :
    Calls Try.prog 7 #[.slice A vs.length C] w fun e w' => e = .returned (.bool true) ∧ Below w.heap.size w w' := by
  obtain ⟨i30, hi, hz0, hz1, hz2⟩ := info_parts info30
  obtain ⟨i9, hi9, hy0, hy1, hy2⟩ := info_parts info9
  obtain ⟨i5, hi5, hx0, hx1, hx2⟩ := info_parts info5
  have HV := Lib.hid hv
  have HF := Lib.hid hf
  clear hv hf
  go_enter Try.func7, Try.ntmps7
  go_wp2_with (go_at_call 9; refine (begun9 _).mono ?_; rintro e w1 ⟨rfl, hb1⟩)
  have HB1 := Lib.hid hb1
  clear hb1
  go_loopw [3, 4, 5, 6, 7] (fun L Q S sz i wr => ∃ (k : Nat) (a : Int) (la : List (Value × Nat × Int)) (qa : List (Value × List Int)), k ≤ vs.length ∧ k ≤ 300 ∧ 0 ≤ a ∧ a ≤ 5000000 ∧ sz = .int .i64 a ∧ i = .int .i64 k ∧ la.length = k ∧ qa.length = k ∧ Good 0 la qa ∧ St wr w.heap.size L Q S la qa ∧ Below w.heap.size w wr) (fun _ _ _ _ i _ => vs.length - (intOf i).toNat)
  case atStart => exact ⟨0, 0, [], [], by omega, by omega, by omega, by omega, rfl, rfl, rfl, rfl, ⟨fun j p h => by simp at h, fun p h => by simp at h⟩, ((((Own.nil _ _).nilrow 9).nilrow 30).nilrow 30), HB1.out⟩
  case round =>
    obtain ⟨k, a, la, qa, hk, hk3, ha0, ha1, rfl, rfl, hla, hqa, hgood, hst, hb⟩ := hrel
    have HB := Lib.hid hb
    have HG := Lib.hid hgood
    have hBw : w.heap.size ≤ wr.heap.size := hb.size
    clear hb HB1 hgood
    by_cases hlt : k < vs.length ∧ k < 300 ∧ a < 4194304
    · obtain ⟨hlt, h300, hsz⟩ := hlt
      obtain ⟨b, off, kk, n, s, rfl, hbl, hg, hc0, hc1, hc2, hn, hs⟩ := HV.out.get HF.out hlt
      have HC0 := Lib.hid (And.intro hc0 (And.intro hc1 hc2))
      replace hc0 := cell_below hc0 HB.out
      replace hc1 := cell_below hc1 HB.out
      replace hc2 := cell_below hc2 HB.out
      have hsm : s.size ≤ maxLen := by unfold maxLen; omega
      have HS := Lib.hid hsm
      have HN := Lib.hid hn
      have HO := Lib.hid hst
      have hll := bytes_len kk n s
      have HBY := Lib.hid (byt_bytes kk n s)
      have C12 := fun W => bytes12 kk n s W HN.out HS.out
      have C11 := fun W => bytes11 kk n s W HN.out HS.out
      generalize bytesV kk n s = l at hll HBY C12 C11
      have h300' : (k : Int) < 300 := by omega
      have hls := strOf_size l
      clear hg hs hn hsm hst HS
      go_wp2_with fail
      refine (C12 _).mono ?_
      rintro e w2 ⟨g2, cap2, rfl, hown2, hb2⟩
      have hcv := conv_has (cap := cap2) (Has.of_own hown2)
      have HO2 := Lib.hid (HO.out.below hb2)
      have HB2 := Lib.hid (HB.out.trans (hb2.mono hBw))
      have hBw2 : w.heap.size ≤ w2.heap.size := Nat.le_trans hBw hb2.size
      replace hc0 := cell_below hc0 hb2
      replace hc1 := cell_below hc1 hb2
      replace hc2 := cell_below hc2 hb2
      clear hown2 hb2 HO HB
      go_wp2_with fail
      refine (C11 _).mono ?_
      rintro e w3 ⟨g3, cap3, rfl, hown3, hb3⟩
      have HO3 := Lib.hid (Own.cons (r := ⟨5, .slice (some ⟨g3, 0, none⟩) l.length cap3, u8s l⟩) HO2.out hb3 (by simpa [u8s] using hown3) hBw2)
      have HB3 := Lib.hid (HB2.out.trans (hb3.mono hBw2))
      have hBw3 : w.heap.size ≤ w3.heap.size := Nat.le_trans hBw2 hb3.size
      replace hc0 := cell_below hc0 hb3
      replace hc1 := cell_below hc1 hb3
      replace hc2 := cell_below hc2 hb3
      have hh3 := Has.of_own hown3
      clear hcv hown3 hb3 HO2 HB2
      go_wp2_with fail
      refine (C11 _).mono ?_
      rintro e w4 ⟨g4, cap4, rfl, hown4, hb4⟩
      have HO4 := Lib.hid (Own.cons (r := ⟨5, .slice (some ⟨g4, 0, none⟩) l.length cap4, u8s l⟩) HO3.out hb4 (by simpa [u8s] using hown4) hBw3)
      have HB4 := Lib.hid (HB3.out.trans (hb4.mono hBw3))
      have hBw4 : w.heap.size ≤ w4.heap.size := Nat.le_trans hBw3 hb4.size
      have hca := conv_has (cap := cap3) (hh3.below hb4)
      have hcb := conv_has (cap := cap4) (Has.of_own hown4)
      clear hh3 hown4 hb4 HO3 HB3 hc0 hc1 hc2
      go_wp2_with fail
      have hl1 := hll.1
      have hl4 := hll.2
      obtain ⟨N, hN⟩ : ∃ N, l.length = N := ⟨_, rfl⟩
      rw [hN] at HO4 hl1 hl4 ⊢
      have HX := Lib.hid (And.intro hca (And.intro hcb hls))
      clear hca hcb hls hll
      have HO5 := Lib.hid (HO4.out.perm (List.Perm.swap _ _ _))
      have hul : (u8s l).length = N := by simp [u8s, hN]
      obtain ⟨x, hx⟩ : ∃ x, by8 k = x := ⟨_, rfl⟩
      obtain ⟨wo, rfl⟩ : ∃ wo : World, wo = w4 := ⟨_, rfl⟩
      go_loopw [11] (fun kx wr => ∃ j : Nat, j ≤ N ∧ kx = .int .i64 j ∧ Own wr w.heap.size (⟨5, .slice (some ⟨g3, 0, none⟩) N cap3, List.replicate j (.int .u8 x) ++ (u8s l).drop j⟩ :: ⟨5, .slice (some ⟨g4, 0, none⟩) N cap4, u8s l⟩ :: lRow u3 la :: qRow u4 qa :: sRow u5 qa :: restR la qa) ∧ Below w.heap.size w wr) (fun kx _ => N - (intOf kx).toNat)
      case atStart => exact ⟨0, by omega, rfl, by simpa using HO5.out, HB4.out⟩
      case round =>
        obtain ⟨j, hj, rfl, hown, hb⟩ := hrel
        by_cases hjl : j < N
        · have hcell := hown.cellv (r := ⟨5, .slice (some ⟨g3, 0, none⟩) N cap3, List.replicate j (.int .u8 x) ++ (u8s l).drop j⟩) (by simp) rfl (i := j) (u := (u8s l)[j]'(by omega)) (by simp [List.getElem?_append_right])
          have hfz := hown.froz (r := ⟨5, .slice (some ⟨g3, 0, none⟩) N cap3, List.replicate j (.int .u8 x) ++ (u8s l).drop j⟩) (by simp) rfl j
          have hset := hown.set j (.int .u8 x)
          have hsx : (List.replicate j (Value.int .u8 x) ++ (u8s l).drop j).set j (.int .u8 x) = List.replicate (j + 1) (.int .u8 x) ++ (u8s l).drop (j + 1) := by
            rw [List.set_append_right _ _ (by simp), List.length_replicate, Nat.sub_self, List.drop_eq_getElem_cons (by omega), List.set_cons_zero, List.replicate_succ', List.append_assoc]
            rfl
          rw [hsx] at hset
          have hg3 := (hown.head.lt g3 rfl).1
          have HR := Lib.hid (And.intro hset (hb.setCell (p := ⟨g3, j, none⟩) hg3 (.int .u8 x)))
          clear hown hb hset hsx
          go_wp2_with fail
          go_roundw
          case rel => exact ⟨j + 1, by omega, by go_num, by rw [show (k : Int) % 256 = x from hx]; exact HR.out.1, by rw [show (k : Int) % 256 = x from hx]; exact HR.out.2⟩
          case measure => simp [intOf]; omega
        · obtain rfl : j = N := by omega
          rw [List.drop_of_length_le (by omega), List.append_nil] at hown
          have OL := hown.perm (List.perm_middle (l₁ := [_, _]))
          have hrow : wr.ownsRow w.heap.size 30 1 u3 k (la.map (·.1)) := by have := OL.head; simpa [lRow, hla] using this
          have HOL := Lib.hid OL
          have HB5 := Lib.hid hb
          have hBw5 : w.heap.size ≤ wr.heap.size := hb.size
          clear hown hb OL HO4 HO5
          go_wp2_with (at_builtin; refine wpList_append_one rfl _ _ 39 rfl w.heap.size 30 i30 (.slice none 0 0) 24 Try.underlying39 hi hz0 hz1 hz2 rfl _ _ _ rfl (hrow.alloc _) ⟨wr.heap.size, 0, none⟩ 1 _ rfl (cell_one_new _ _ _) ?c2 ?c3 ?c4 ?c5 ?_)
          case c2 => intro y hy; simp at hy; subst hy; rfl
          case c3 => unfold maxLen; omega
          case c4 => omega
          case c5 => simp; omega
          intro vL w5 hown5 hgrow5 hblk5
          have OL5 := (HOL.out.below ((Below.refl _ wr).alloc (Nat.le_refl _) _)).grow (r' := lRow vL (la ++ [(.slice (some ⟨g3, 0, none⟩) j cap3, j, x)])) hgrow5 (by simpa [lRow, hla] using hown5) (by rcases hblk5 with h | h; exact .inl h; exact .inr (h.trans (by simp)))
          have hb5 : Below w.heap.size w w5 := (HB5.out.alloc hBw5 _).grown hgrow5 (by simp; omega) (fun k hk => (hrow.lt k hk).1)
          obtain ⟨aL, cL, hvL⟩ := row_any hown5
          subst hvL
          have OQ := OL5.perm (List.perm_middle (l₁ := [_, _, _]))
          have hrow6 : w5.ownsRow w.heap.size 30 1 u4 k (qa.map (·.1)) := by have := OQ.head; simpa [qRow, hqa] using this
          have HOQ := Lib.hid OQ
          have HB6 := Lib.hid hb5
          have hBw6 : w.heap.size ≤ w5.heap.size := hb5.size
          clear OL5 hb5 hown5 hgrow5 hblk5 hrow HOL HB5 hBw5 OQ
          go_wp2_with (at_builtin; refine wpList_append_one rfl _ _ 39 rfl w.heap.size 30 i30 (.slice none 0 0) 24 Try.underlying39 hi hz0 hz1 hz2 rfl _ _ _ rfl (hrow6.alloc _) ⟨w5.heap.size, 0, none⟩ 1 _ rfl (cell_one_new _ _ _) ?d2 ?d3 ?d4 ?d5 ?_)
          case d2 => intro y hy; simp at hy; subst hy; rfl
          case d3 => unfold maxLen; omega
          case d4 => omega
          case d5 => simp; omega
          intro vQ w6 hown6 hgrow6 hblk6
          have OQ6 := (HOQ.out.below ((Below.refl _ w5).alloc (Nat.le_refl _) _)).grow (r' := qRow vQ (qa ++ [(.slice (some ⟨g4, 0, none⟩) j cap4, l)])) hgrow6 (by simpa [qRow, hqa] using hown6) (by rcases hblk6 with h | h; exact .inl h; exact .inr (h.trans (by simp)))
          have hb6 : Below w.heap.size w w6 := (HB6.out.alloc hBw6 _).grown hgrow6 (by simp; omega) (fun k hk => (hrow6.lt k hk).1)
          obtain ⟨aQ, cQ, hvQ⟩ := row_any hown6
          subst hvQ
          have OS := OQ6.perm (List.perm_middle (l₁ := [_, _, _, _]))
          have hrow7 : w6.ownsRow w.heap.size 9 1 u5 k (qa.map fun p => .string (strOfNums p.2)) := by have := OS.head; simpa [sRow, hqa] using this
          have HOS := Lib.hid OS
          have HB7 := Lib.hid hb6
          have hBw7 : w.heap.size ≤ w6.heap.size := hb6.size
          clear OQ6 hb6 hown6 hgrow6 hblk6 hrow6 HOQ HB6 hBw6 OS
          go_wp2_with (at_builtin; refine wpList_append_one rfl _ _ 40 rfl w.heap.size 9 i9 (.string ⟨#[]⟩) 16 Try.underlying40 hi9 hy0 hy1 hy2 rfl _ _ _ rfl (hrow7.alloc _) ⟨w6.heap.size, 0, none⟩ 1 _ rfl (cell_one_new _ _ _) ?e2 ?e3 ?e4 ?e5 ?_)
          case e2 => intro y hy; simp at hy; subst hy; rfl
          case e3 => unfold maxLen; omega
          case e4 => omega
          case e5 => simp; omega
          intro vS w7 hown7 hgrow7 hblk7
          have OS7 := (HOS.out.below ((Below.refl _ w6).alloc (Nat.le_refl _) _)).grow (r' := sRow vS (qa ++ [(.slice (some ⟨g4, 0, none⟩) j cap4, l)])) hgrow7 (by simpa [sRow, hqa] using hown7) (by rcases hblk7 with h | h; exact .inl h; exact .inr (h.trans (by simp)))
          have hb7 : Below w.heap.size w w7 := (HB7.out.alloc hBw7 _).grown hgrow7 (by simp; omega) (fun k hk => (hrow7.lt k hk).1)
          obtain ⟨aS, cS, hvS⟩ := row_any hown7
          subst hvS
          have hST := Own.perm OS7 ((List.Perm.swap _ _ _).trans (((List.Perm.swap _ _ _).cons _).trans (((List.Perm.swap _ _ _)).trans ((((rest_snoc la qa (.slice (some ⟨g3, 0, none⟩) j cap3, j, x) (.slice (some ⟨g4, 0, none⟩) j cap4, l)).cons _).cons _).cons _))))
          have HST := Lib.hid hST
          have HB8 := Lib.hid hb7
          have hBw8 : w.heap.size ≤ w7.heap.size := hb7.size
          have hc0 := cell_below HC0.out.1 hb7
          have hc1 := cell_below HC0.out.2.1 hb7
          have hc2 := cell_below HC0.out.2.2 hb7
          clear hST OS7 hb7 hown7 hgrow7 hblk7 hrow7 HOS HB7 hBw7
          have hcs := fun W => run_bytes_of_string (P := Try.prog) W 9 30 5 (strOfNums l) Try.underlying9 Try.underlying30 Try.underlying5
          go_wp2_with fail
          refine (C11 _).mono ?_
          rintro e w8 ⟨g8, cap8, rfl, hown8, hb8⟩
          obtain ⟨cs, hcsz⟩ : ∃ cs, grownCap w8 (strOfNums l).size 0 5 = cs := ⟨_, rfl⟩
          have hbX : Below w8.heap.size w8 (w8.alloc (.cells (bytesRow (strOfNums l) (grownCap w8 (strOfNums l).size 0 5)) 5 ((bytesRow (strOfNums l) (grownCap w8 (strOfNums l).size 0 5)).size, (bytesRow (strOfNums l) (grownCap w8 (strOfNums l).size 0 5)).size + 1))).drew := ((Below.refl _ w8).alloc (Nat.le_refl _) _).drew
          have HH8 := Lib.hid ((Has.of_own hown8).below hbX)
          have HH9 : Hid (Has (w8.alloc (.cells (bytesRow (strOfNums l) (grownCap w8 (strOfNums l).size 0 5)) 5 ((bytesRow (strOfNums l) (grownCap w8 (strOfNums l).size 0 5)).size, (bytesRow (strOfNums l) (grownCap w8 (strOfNums l).size 0 5)).size + 1))).drew w8.heap.size (strInts (strOfNums l))) := has_bytes w8 (strOfNums l) (grownCap w8 (strOfNums l).size 0 5) _
          have hb9 := hb8.trans (hbX.mono hb8.size)
          have HST9 := Lib.hid (Own.below HST.out hb9)
          have HB9 := Lib.hid (HB8.out.trans (hb9.mono hBw8))
          clear hown8 hb8 hbX hb9 HST HB8 hc0 hc1 hc2 hcsz
          go_wp2_with fail
          refine (eq10 g8 w8.heap.size cap8 _ j _ l (strInts (strOfNums l)) _ hN (strInts_length _) HH8.out HH9.out HBY.out (by rw [str_of HBY.out]; exact HBY.out)).mono ?_
          rw [str_of HBY.out, decide_eq_true rfl]
          rintro e w10 ⟨rfl, rfl⟩
          clear hcs HH8 HH9
          go_wp2_with fail
          go_roundw
          case rel =>
            refine ⟨k + 1, a + j, la ++ [(Value.slice (some ⟨g3, 0, none⟩) j cap3, j, x)], qa ++ [(Value.slice (some ⟨g4, 0, none⟩) j cap4, l)], by omega, by omega, by omega, by omega, rfl, by go_num, by simp [hla], by simp [hqa], ⟨fun j' p hp => ?_, fun p hp => ?_⟩, HST9.out, HB9.out⟩
            · rcases Nat.lt_or_ge j' k with h | h
              · rw [List.getElem?_append_left (by omega)] at hp
                exact HG.out.1 j' p hp
              · rw [List.getElem?_append_right (by omega)] at hp
                have h1 := (List.getElem?_eq_some_iff.1 hp).1
                simp at h1
                have h2 : j' = k := by omega
                subst h2
                rw [hla, Nat.sub_self] at hp
                simp at hp
                subst hp
                exact ⟨by omega, fun _ => by show j ≤ 40000; omega, hx.symm⟩
            · rcases List.mem_append.1 hp with h | h
              · exact HG.out.2 p h
              · rw [List.mem_singleton] at h
                subst h
                exact ⟨HBY.out, by show 1 ≤ l.length; omega, by show l.length ≤ 40000; omega⟩
          case measure => simp [intOf]; omega
    · have hL := row_any hst.head
      have hst' : Own wr w.heap.size (qRow u4 qa :: lRow u3 la :: sRow u5 qa :: restR la qa) := Own.perm hst (List.Perm.swap _ _ _)
      have hQ := row_any hst'.head
      have hst'' : Own wr w.heap.size (sRow u5 qa :: lRow u3 la :: qRow u4 qa :: restR la qa) := Own.perm hst (List.perm_middle (l₁ := [_, _]))
      have hS := row_any hst''.head
      simp only [lRow, qRow, sRow, List.length_map, hla, hqa] at hL hQ hS
      obtain ⟨aL, cL, rfl⟩ := hL
      obtain ⟨aQ, cQ, rfl⟩ := hQ
      obtain ⟨aS, cS, rfl⟩ := hS
      have HST := Lib.hid hst
      clear hst hst' hst''
      have hcase : ¬ (k < vs.length) ∨ (k < vs.length ∧ ¬ ((k : Int) < 300)) ∨ (k < vs.length ∧ (k : Int) < 300 ∧ ¬ (a < 4194304)) := by omega
      have e15 : ((k : Int) < (vs.length : Int)) = (k < vs.length) := by simp
      rcases hcase with h1 | ⟨h1, h2⟩ | ⟨h1, h2, h3⟩
      all_goals
        go_wp2_with fail
        go_loopw [12] (fun i wr => ∃ (t : Nat) (la' : List (Value × Nat × Int)), t ≤ k ∧ i = .int .i64 t ∧ la'.length = k ∧ Good t la' qa ∧ St wr w.heap.size (.slice aL k cL) (.slice aQ k cQ) (.slice aS k cS) la' qa ∧ Below w.heap.size w wr) (fun i _ => k - (intOf i).toNat)
        case atStart => exact ⟨0, la, by omega, rfl, hla, HG.out, HST.out, HB.out⟩
        case round =>
          obtain ⟨t, la2, ht, rfl, hla2, hg2, hst, hb⟩ := hrel
          by_cases htk : t < k
          · obtain ⟨⟨v, n, x⟩, hp⟩ : ∃ p, la2[t]? = some p := ⟨_, List.getElem?_eq_getElem (by omega)⟩
            obtain ⟨hn1, hn2, hx⟩ := hg2.1 t _ hp
            replace hn2 : n ≤ 40000 := hn2 (Nat.le_refl _)
            replace hx : x = (t : Int) % 256 := hx
            subst hx
            simp only at hn1
            have hpm : (v, n, (t : Int) % 256) ∈ la2 := List.mem_of_getElem? hp
            obtain ⟨gL, capL, eL, hcL⟩ : ∃ gL capL, aL = some ⟨gL, 0, none⟩ ∧ wr.cell? ⟨gL, t, none⟩ = some v := by
              obtain ⟨gL, capL, e, _, hc⟩ := Own.cell hst (r := lRow (.slice aL k cL) la2) (by simp) (i := t) (u := v) (by simp [lRow, hp])
              simp only [lRow, Value.slice.injEq] at e
              exact ⟨gL, capL, e.1, hc⟩
            subst eL
            obtain ⟨g, cap, ev, hnc, hcm⟩ := Own.slice hst (r := loudR (v, n, (t : Int) % 256)) (by simp only [restR, List.mem_cons, List.mem_append]; exact .inr (.inr (.inr (.inl (List.mem_map_of_mem hpm))))) (by simpa [loudR] using hn1)
            simp only [loudR, List.length_replicate] at ev hnc
            subst ev
            have htk' : (t : Int) < (k : Int) := by omega
            have hS0 : wr.drew.cell? ⟨gL, t, none⟩ = some (.slice (some ⟨g, 0, none⟩) n cap) := hcL
            have HST2 := Lib.hid (And.intro hst hb)
            have HP := Lib.hid (And.intro hp hg2)
            have hR : roomV n cap ≤ cap ∧ n ≤ roomV n cap ∧ roomV n cap ≤ n + 70000 := by unfold roomV; split <;> omega
            have hcm' : cap ≤ 9223372036854775807 := by unfold maxLen at hcm; omega
            have RM := fun W => room16n n cap W (by omega) hcm
            generalize roomV n cap = R at hR RM
            clear hst hb hp hg2 hpm hcm
            go_wp2_with fail
            go_region_held3 (fun w' => w'.cell? ⟨gL, t, none⟩ = some (.slice (some ⟨g, 0, none⟩) n cap)) (first | exact hS0 | exact hcL | go_keep) (first | (go_at_call 16; refine (RM _).mono ?_; rintro e w9 ⟨rfl, rfl⟩))
            go_wp2_with fail
            obtain ⟨wo2, rfl⟩ : ∃ wo2 : World, wo2 = wr := ⟨_, rfl⟩
            have hst := HST2.out.1
            have hb := HST2.out.2
            go_loopw [] (fun wr => ∃ n' : Nat, n ≤ n' ∧ n' ≤ R ∧ St wr w.heap.size (.slice (some ⟨gL, 0, none⟩) k cL) (.slice aQ k cQ) (.slice aS k cS) (la2.set t (.slice (some ⟨g, 0, none⟩) n' cap, n', (t : Int) % 256)) qa ∧ Below w.heap.size w wr) (fun wr => R - lenAt wr ⟨gL, t, none⟩)
            case atStart => exact ⟨n, Nat.le_refl _, hR.2.1, Own.below (by rw [set_self HP.out.1]; exact hst) ((Below.refl _ _).drew), hb.drew⟩
            case round =>
              obtain ⟨n', hnn, hnR, hst, hb⟩ := hrel
              clear hS0 hcL
              have hti : t < la2.length := by omega
              have hcL := Own.cellv hst (r := lRow (.slice (some ⟨gL, 0, none⟩) k cL) (la2.set t (.slice (some ⟨g, 0, none⟩) n' cap, n', (t : Int) % 256))) (by simp) rfl (i := t) (u := .slice (some ⟨g, 0, none⟩) n' cap) (by simp [lRow, hti])
              have hlen : lenAt wr ⟨gL, t, none⟩ = n' := by unfold lenAt; rw [hcL]
              by_cases hlt2 : n' < R
              · have hpull := St.pull hst (i := t) (p := (.slice (some ⟨g, 0, none⟩) n' cap, n', (t : Int) % 256)) (by simp [hti])
                have hrow : wr.ownsRow w.heap.size 5 1 (.slice (some ⟨g, 0, none⟩) n' cap) n' (List.replicate n' (.int .u8 ((t : Int) % 256))) := by have := hpull.head; simpa [loudR] using this
                have hBr : w.heap.size ≤ wr.heap.size := hb.size
                have HPL := Lib.hid (And.intro hpull hb)
                clear hst hb hpull
                go_wp2_with (at_builtin; refine wpList_append_fits_any _ rfl _ _ 30 rfl w.heap.size 5 i5 1 Try.underlying30 hi5 hx1 g n' cap _ rfl (hrow.alloc _) (some ⟨wr.heap.size, 0, none⟩) 1 1 [.int .u8 ((t : Int) % 256)] rfl rfl (fun h => by cases h) (fun ad had j u hu => by cases had; exact cell_at wr _ 5 (0, 0) _ rfl j u hu) (one_u8 _) (by omega) ?_)
                intro w11 hown11 hgrow11
                have hO := (HPL.out.1.below ((Below.refl _ wr).alloc (Nat.le_refl _) _)).grow (r' := loudR (.slice (some ⟨g, 0, none⟩) (n' + 1) cap, n' + 1, (t : Int) % 256)) hgrow11 (by simpa [loudR, List.replicate_succ'] using hown11) (.inl rfl)
                have hb11 : Below w.heap.size w w11 := (HPL.out.2.alloc hBr _).grown hgrow11 (by simp; omega) (fun k hk => by cases hk; exact (hrow.lt g rfl).1)
                have hO2 := Own.perm hO (List.Perm.swap _ _ _)
                have hcL2 := hO2.cellv (r := lRow (.slice (some ⟨gL, 0, none⟩) k cL) (la2.set t (.slice (some ⟨g, 0, none⟩) n' cap, n', (t : Int) % 256))) (by simp) rfl (i := t) (u := .slice (some ⟨g, 0, none⟩) n' cap) (by simp [lRow, hti])
                have hfz := hO2.froz (r := lRow (.slice (some ⟨gL, 0, none⟩) k cL) (la2.set t (.slice (some ⟨g, 0, none⟩) n' cap, n', (t : Int) % 256))) (by simp) rfl t
                have hgeL := (hO2.head.lt gL rfl).1
                have hset := Own.set (ty := 30) (xs := (la2.set t (.slice (some ⟨g, 0, none⟩) n' cap, n', (t : Int) % 256)).map (·.1)) hO2 t (.slice (some ⟨g, 0, none⟩) (n' + 1) cap)
                have es : ((la2.set t (.slice (some ⟨g, 0, none⟩) n' cap, n', (t : Int) % 256)).map (·.1)).set t (.slice (some ⟨g, 0, none⟩) (n' + 1) cap) = ((la2.set t (Value.slice (some ⟨g, 0, none⟩) n' cap, n', (t : Int) % 256)).set t (Value.slice (some ⟨g, 0, none⟩) (n' + 1) cap, n' + 1, (t : Int) % 256)).map (·.1) := by simp [List.map_set]
                rw [es] at hset
                have hst2 := St.push (la := la2.set t (Value.slice (some ⟨g, 0, none⟩) n' cap, n', (t : Int) % 256)) (i := t) (by simpa using hti) hset
                rw [List.set_set] at hst2
                have hcL3 := Own.cellv hst2 (r := lRow (.slice (some ⟨gL, 0, none⟩) k cL) (la2.set t (.slice (some ⟨g, 0, none⟩) (n' + 1) cap, n' + 1, (t : Int) % 256))) (by simp) rfl (i := t) (u := .slice (some ⟨g, 0, none⟩) (n' + 1) cap) (by simp [lRow, hti])
                have hlen2 : lenAt (w11.setCell ⟨gL, t, none⟩ (.slice (some ⟨g, 0, none⟩) (n' + 1) cap)) ⟨gL, t, none⟩ = n' + 1 := by unfold lenAt; rw [hcL3]
                have HX := Lib.hid (And.intro hst2 (hb11.setCell (p := ⟨gL, t, none⟩) hgeL (.slice (some ⟨g, 0, none⟩) (n' + 1) cap)))
                have HLN := Lib.hid (And.intro hlen hlen2)
                clear hO hb11 hO2 hset es hst2 hcL3 hlen hlen2 hown11 hgrow11 hcL HPL hrow
                go_wp2_with fail
                go_roundw
                case rel => exact ⟨n' + 1, by omega, by omega, HX.out.1, HX.out.2⟩
                case measure => rw [HLN.out.1, HLN.out.2]; omega
              · obtain rfl : n' = R := by omega
                have HX := Lib.hid (And.intro hst hb)
                clear hst hb
                go_wp2_with fail
                go_roundw
                case rel =>
                  refine ⟨t + 1, la2.set t (Value.slice (some ⟨g, 0, none⟩) n' cap, n', (t : Int) % 256), by omega, by go_num, by simp [hla2], ⟨fun j p hj => ?_, HP.out.2.2⟩, HX.out.1, HX.out.2⟩
                  by_cases hjt : j = t
                  · subst hjt
                    rw [List.getElem?_set_self hti] at hj
                    cases hj
                    exact ⟨by show 1 ≤ n'; omega, fun h => by omega, rfl⟩
                  · rw [List.getElem?_set_ne (by omega)] at hj
                    have := HP.out.2.1 j p hj
                    exact ⟨this.1, fun h => this.2.1 (by omega), this.2.2⟩
                case measure => simp [intOf]; omega
          · obtain rfl : t = k := by omega
            have HX := Lib.hid (And.intro hst hb)
            have HG2 := Lib.hid hg2
            clear hst hb hg2
            go_wp2_with fail
            go_loopw [14] (fun i wr => ∃ u : Nat, u ≤ t ∧ i = .int .i64 u ∧ St wr w.heap.size (.slice aL t cL) (.slice aQ t cQ) (.slice aS t cS) la2 qa ∧ Below w.heap.size w wr) (fun i _ => t - (intOf i).toNat)
            case atStart => exact ⟨0, by omega, rfl, HX.out.1, HX.out.2⟩
            case round =>
              obtain ⟨u, hu, rfl, hst, hb⟩ := hrel
              by_cases hut : u < t
              · obtain ⟨⟨v, n, x⟩, hp⟩ : ∃ p, la2[u]? = some p := ⟨_, List.getElem?_eq_getElem (by omega)⟩
                obtain ⟨⟨v', l⟩, hq⟩ : ∃ p, qa[u]? = some p := ⟨_, List.getElem?_eq_getElem (by omega)⟩
                obtain ⟨hn1, _, hx⟩ := HG2.out.1 u _ hp
                obtain ⟨hbl, hl1, hl4⟩ := HG2.out.2 _ (List.mem_of_getElem? hq)
                replace hx : x = (u : Int) % 256 := hx
                subst hx
                simp only at hn1 hbl hl1 hl4
                have hpm : loudR (v, n, (u : Int) % 256) ∈ lRow (.slice aL t cL) la2 :: qRow (.slice aQ t cQ) qa :: sRow (.slice aS t cS) qa :: restR la2 qa := by
                  simp only [restR, List.mem_cons, List.mem_append]
                  exact .inr (.inr (.inr (.inl (List.mem_map_of_mem (List.mem_of_getElem? hp)))))
                have hqm : quietR (v', l) ∈ lRow (.slice aL t cL) la2 :: qRow (.slice aQ t cQ) qa :: sRow (.slice aS t cS) qa :: restR la2 qa := by
                  simp only [restR, List.mem_cons, List.mem_append]
                  exact .inr (.inr (.inr (.inr (List.mem_map_of_mem (List.mem_of_getElem? hq)))))
                obtain ⟨gL, eL, hcL⟩ : ∃ gL, aL = some ⟨gL, 0, none⟩ ∧ wr.cell? ⟨gL, u, none⟩ = some v := by
                  obtain ⟨gL, capL, e, _, hc⟩ := Own.cell hst (r := lRow (.slice aL t cL) la2) (by simp) (i := u) (u := v) (by simp [lRow, hp])
                  simp only [lRow, Value.slice.injEq] at e
                  exact ⟨gL, e.1, hc⟩
                obtain ⟨gQ, eQ, hcQ⟩ : ∃ gQ, aQ = some ⟨gQ, 0, none⟩ ∧ wr.cell? ⟨gQ, u, none⟩ = some v' := by
                  obtain ⟨gL, capL, e, _, hc⟩ := Own.cell hst (r := qRow (.slice aQ t cQ) qa) (by simp) (i := u) (u := v') (by simp [qRow, hq])
                  simp only [qRow, Value.slice.injEq] at e
                  exact ⟨gL, e.1, hc⟩
                obtain ⟨gS, eS, hcS⟩ : ∃ gS, aS = some ⟨gS, 0, none⟩ ∧ wr.cell? ⟨gS, u, none⟩ = some (.string (strOfNums l)) := by
                  obtain ⟨gL, capL, e, _, hc⟩ := Own.cell hst (r := sRow (.slice aS t cS) qa) (by simp) (i := u) (u := .string (strOfNums l)) (by simp [sRow, hq])
                  simp only [sRow, Value.slice.injEq] at e
                  exact ⟨gL, e.1, hc⟩
                subst eL eQ eS
                obtain ⟨g, cap, ev, hnc, hcm⟩ := Own.slice hst hpm (by simpa [loudR] using hn1)
                obtain ⟨g', cap', ev', hnc', hcm'⟩ := Own.slice hst hqm (by simpa [quietR, u8s] using hl1)
                simp only [loudR, List.length_replicate] at ev
                simp only [quietR, u8s, List.length_map] at ev'
                subst ev ev'
                have hhas : Has wr g' l := Has.of_own (cap := cap') (by have := Own.mem hst hqm; simpa [quietR, u8s] using this)
                have hconv := conv_has (cap := cap') (w := wr.drew) (fun j hj => hhas j hj)
                have hut' : (u : Int) < (t : Int) := by omega
                have hn63 : n ≤ 9223372036854775807 := by
                  have h1 : n ≤ cap := by simpa [loudR] using hnc
                  unfold maxLen at hcm
                  omega
                have hS0 : wr.drew.cell? ⟨gQ, u, none⟩ = some (.slice (some ⟨g', 0, none⟩) l.length cap') ∧ wr.drew.cell? ⟨gS, u, none⟩ = some (.string (strOfNums l)) ∧ (convert 30 9 (.slice (some ⟨g', 0, none⟩) l.length cap')).run Try.prog wr.drew = .ok (.string (strOfNums l)) wr.drew := ⟨hcQ, hcS, hconv⟩
                have HX2 := Lib.hid (And.intro hst hb)
                have HPM := Lib.hid (And.intro hpm hp)
                clear hst hb hpm hqm hcL hcQ hcS hconv hhas hnc hnc' hcm hcm' hbl hp hq
                go_wp2_with fail
                go_region_held3 (fun w' => w'.cell? ⟨gQ, u, none⟩ = some (.slice (some ⟨g', 0, none⟩) l.length cap') ∧ w'.cell? ⟨gS, u, none⟩ = some (.string (strOfNums l)) ∧ (convert 30 9 (.slice (some ⟨g', 0, none⟩) l.length cap')).run Try.prog w' = .ok (.string (strOfNums l)) w') (first | exact hS0 | assumption | go_keep) (fail)
                all_goals
                  go_wp2_with fail
                  go_loopw [15] (fun kx wr => ∃ j : Nat, j ≤ n ∧ kx = .int .i64 j ∧ St wr w.heap.size (.slice (some ⟨gL, 0, none⟩) t cL) (.slice (some ⟨gQ, 0, none⟩) t cQ) (.slice (some ⟨gS, 0, none⟩) t cS) la2 qa ∧ Below w.heap.size w wr) (fun kx _ => n - (intOf kx).toNat)
                  case atStart => exact ⟨0, by omega, rfl, Own.below HX2.out.1 ((Below.refl _ _).drew), HX2.out.2.drew⟩
                  case round =>
                    obtain ⟨j, hj, rfl, hst, hb⟩ := hrel
                    have hcL := Own.cellv hst (r := lRow (.slice (some ⟨gL, 0, none⟩) t cL) la2) (by simp) rfl (i := u) (u := .slice (some ⟨g, 0, none⟩) n cap) (by simp [lRow, HPM.out.2])
                    by_cases hjn : j < n
                    · have hcx := Own.cellv hst HPM.out.1 (g := g) (n := n) (cap := cap) (by simp [loudR]) (i := j) (u := .int .u8 ((u : Int) % 256)) (by simp [loudR, hjn])
                      have HX3 := Lib.hid (And.intro hst hb)
                      clear hst hb hS0
                      go_wp2_with fail
                      go_roundw
                      case rel => exact ⟨j + 1, by omega, by go_num, HX3.out.1, HX3.out.2⟩
                      case measure => simp [intOf]; omega
                    · obtain rfl : j = n := by omega
                      have HX3 := Lib.hid (And.intro hst hb)
                      clear hst hb hS0
                      go_wp2_with fail
                      go_roundw
                      case rel => exact ⟨u + 1, by omega, by go_num, HX3.out.1, HX3.out.2⟩
                      case measure => simp [intOf]; omega
              · obtain rfl : u = t := by omega
                have HX2 := Lib.hid hb
                clear hst hb
                go_wp2_with fail
                go_ret
                exact ⟨rfl, HX2.out⟩
end Go.Proofs.Ytdifbfhmeljblaa
