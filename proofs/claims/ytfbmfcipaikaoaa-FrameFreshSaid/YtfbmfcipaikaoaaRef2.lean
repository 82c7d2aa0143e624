/- The document's own stack in memory: New and Push. -/
import Derived.Test.YtfbmfcipaikaoaaRef
import Derived.Deep.AppendLies
import Derived.Deep.RegionLaw
import Derived.Deep.Cut
import Derived.Deep.CutRange
import Derived.Carry
namespace Go.Proofs.Ytfbmfcipaikaoaa
set_option linter.unusedVariables false
set_option linter.unusedSimpArgs false
open Go.RowKit Go.Maps

set_option maxHeartbeats 800000 in
theorem new28 (W : World) : Calls Try.prog 28 #[] W fun e W' => ∃ S M, e = .returned (.pointer (some ⟨S, 0, none⟩)) ∧ StkR W' W.heap.size S M (.slice none 0 0) [] 0 ∧ Below W.heap.size W W' := by
  have hmm := @run_makeMap Try.prog
  go_enter Try.func28, Try.ntmps28
  go_wp2_with fail
  go_ret
  have hm := map_made W
  have e1 : (W.alloc (.map #[] 0)).heap.size = W.heap.size + 1 := by simp
  refine ⟨W.heap.size + 1, W.heap.size, rfl, ⟨?_, World.ownsRow_nil _ _ _ _, ?_, by omega, by simp [Value.ownBlock], by simp [Value.ownBlock], by omega, Nat.le_refl _, .nil, fun f h => by simp at h, by simp⟩, ((Below.refl W.heap.size W).alloc (Nat.le_refl _) _).alloc (by simp) _⟩
  · have := heap_alloc_new (W.alloc (.map #[] 0)) (.cells #[.slice none 0 0, .int .i64 0, .map (some W.heap.size)] 67)
    rw [e1] at this
    exact this
  · have h0 : MapAt (W.alloc (.map #[] 0)) W.heap.size 0 (posR []) := hm
    exact h0.kept (World.grownBy_alloc _ _ none) (by simp)

theorem kindS_of {k : Int} (h : k = 1 ∨ k = 2) : kindS k = true := by unfold kindS; simpa using h
theorem kindS_no {k : Int} (h : ¬ (k = 1 ∨ k = 2)) : kindS k = false := by unfold kindS; simpa using h
theorem posR_none {fs : List Fr} {r c : Int} (h : pos fs r c = none) : posR fs r c = none := by unfold posR; rw [h]; rfl

set_option maxRecDepth 100000 in
set_option maxHeartbeats 2000000 in
theorem push30_ok {W : World} {B S M : Nat} {F : Value} {fs : List Fr} {most : Nat} (h : StkR W B S M F fs most) (r c k : Int) (hm : mayS r c = true) (hk : k = 1 ∨ k = 2) (hp : pos fs r c = none) (hlim : fs.length + 1 ≤ 1000000000) :
    Calls Try.prog 30 #[.pointer (some ⟨S, 0, none⟩), .agg #[.int .i64 r, .int .i64 c], .int .i64 k] W fun e W' => e = .returned (.int .i64 0) ∧
      ∃ F', StkR W' B S M F' (fs ++ [⟨r, c, k, 0⟩]) (max most (fs.length + 1)) ∧ Apt (SX S M F) W W' ∧ (F'.ownBlock = F.ownBlock ∨ ∀ b, F'.ownBlock = some b → W.heap.size ≤ b) := by
  obtain ⟨i0, hi, hz0, hz1, hz2⟩ := info_parts info36
  obtain ⟨hr, hc⟩ := may_fits hm
  obtain ⟨n, hn⟩ : ∃ n, fs.length = n := ⟨_, rfl⟩
  have hb0 := ((Below.refl W.heap.size W).alloc (Nat.le_refl _) (.cells #[.int .i64 r, .int .i64 c] 27))
  have r0 := heap_alloc_new W (.cells #[.int .i64 r, .int .i64 c] 27)
  have hW0 : W.heap.size < (W.alloc (.cells #[.int .i64 r, .int .i64 c] 27)).heap.size := by simp
  have hst0 := h.below hb0
  have HR := Lib.hid hr
  have HC := Lib.hid hc
  have H := Lib.hid h
  clear hr hc h
  have HK := Lib.hid hk
  have HKS := Lib.hid (kindS_of hk)
  clear hk
  go_enter Try.func30, Try.ntmps30
  go_wp2_with fail
  refine (may38 r c _).mono ?_
  rw [hm]
  rintro e w1 ⟨rfl, hb1⟩
  have hst1 := hst0.below hb1
  have r1 := (hb1.block _ hW0).trans r0
  have hw1 : W.heap.size < w1.heap.size := Nat.lt_of_lt_of_le hW0 hb1.size
  have hbb := hb0.trans (hb1.mono hb0.size)
  have x0 : w1.cell? ⟨W.heap.size, 0, none⟩ = some (.int .i64 r) := by rw [cell_of_row _ _ _ _ _ _ r1]; rfl
  have x1 : w1.cell? ⟨W.heap.size, 1, none⟩ = some (.int .i64 c) := by rw [cell_of_row _ _ _ _ _ _ r1]; rfl
  clear hb0 hb1 r0 hst0
  go_wp2_with fail
  refine (kind39 k _).mono ?_
  rw [HKS.out]
  rintro e w1' ⟨rfl, rfl⟩
  go_wp2_with fail
  refine (has36 hst1 r c HR.out HC.out).mono ?_
  rw [hp]
  rintro e w2 ⟨rfl, hb2⟩
  have hst2 := hst1.below hb2
  have hbb2 := hbb.trans (hb2.mono hbb.size)
  have hw2 : W.heap.size < w2.heap.size := Nat.lt_of_lt_of_le hw1 hb2.size
  replace x0 := cell_below x0 hb2
  replace x1 := cell_below x1 hb2
  obtain ⟨d0, d2, d1⟩ := cellsT hst2.blk
  obtain ⟨ao, cap, rfl⟩ := row_any hst2.row
  rw [hn] at d0
  have hrow2 := hst2.row
  rw [hn] at hrow2
  have hrowA : (w2.alloc (.cells #[.int .i64 r, .int .i64 c, .int .i64 k, .int .i64 0] 36)).drew.ownsRow B 36 4 (.slice ao n cap) n (cellsF fs) := (hrow2.alloc _).drew
  have hnewsA : ∀ j u, (cellsF [⟨r, c, k, 0⟩])[j]? = some u → (w2.alloc (.cells #[.int .i64 r, .int .i64 c, .int .i64 k, .int .i64 0] 36)).drew.cell? ((⟨w2.heap.size, 0, none⟩ : Addr).add j) = some u := World.news_of_block (heap_alloc_new w2 _)
  have hBs : B ≤ (w2.alloc (.cells #[.int .i64 r, .int .i64 c, .int .i64 k, .int .i64 0] 36)).drew.heap.size := by have := hst2.bS; have := hst2.lt.1; simp; omega
  have hblk2 : w2.heap[S]? = some (.cells #[.slice ao n cap, .int .i64 most, .map (some M)] 67 (0, 0)) := by have := hst2.blk; rw [hn] at this; exact this
  have hblkA : (w2.alloc (.cells #[.int .i64 r, .int .i64 c, .int .i64 k, .int .i64 0] 36)).drew.heap[S]? = some (.cells #[.slice ao n cap, .int .i64 most, .map (some M)] 67 (0, 0)) := (Below.heap_alloc w2 _ S (by have := hst2.lt.1; omega)).trans hblk2
  have hfS := hst2.fS
  rw [hn] at hfS
  have hfM := hst2.fM
  rw [hn] at hfM
  have hS2 : S < w2.heap.size := hst2.lt.1
  have rw2 : w2.heap[W.heap.size]? = some (.cells #[.int .i64 r, .int .i64 c] 27 (0, 0)) := (hb2.block _ hw1).trans r1
  have HS2 := Lib.hid (And.intro hst2 (And.intro hbb2 rw2))
  clear hst2 hbb2 hst1 hb2 hbb r1 rw2
  go_wp2_with fail
  go_cut [] from 19 to 30 (fun wc => ∃ F', wc.heap[S]? = some (.cells #[F', .int .i64 most, .map (some M)] 67 (0, 0)) ∧ wc.ownsRow B 36 4 F' (n + 1) (cellsF (fs ++ [⟨r, c, k, 0⟩])) ∧ MapAt wc M n (posR fs) ∧ F'.ownBlock ≠ some S ∧ F'.ownBlock ≠ some M ∧ Apt (SX S M (.slice ao n cap)) W wc ∧ (F'.ownBlock = (Value.slice ao n cap).ownBlock ∨ ∀ b, F'.ownBlock = some b → w2.heap.size ≤ b) ∧ wc.heap[W.heap.size]? = some (.cells #[.int .i64 r, .int .i64 c] 27 (0, 0)))
  case first =>
    go_region_law ((refine step_append_lies _ (by rfl) (.tmp 23) (.tmp 27) 30 (by rfl) B 36 i0 (.agg #[.int .i64 0, .int .i64 0, .int .i64 0, .int .i64 0]) 4 32 Try.underlying30 hi hz0 hz1 hz2 rfl (by decide) (.slice ao n cap) n (cellsF fs) (by simp [Act.eval, Act.put]) hrowA ⟨w2.heap.size, 0, none⟩ 1 1 (cellsF [⟨r, c, k, 0⟩]) (by simp [Act.eval, Act.put]) rfl hnewsA (cellsF_one _) (by omega) (by unfold maxLen; omega) (by omega) hBs (w2.heap.size + 1) (by simp) ?_; intro g4 cap4 w4 hown4 hgrow4 hat4 hlt4; have hblk4 := (hgrow4.block S (by simp; omega) (fun e => hfS e.symm)).trans hblkA; have t0 := (cellsT hblk4).1; have tf := row_froz hblk4 0))
    all_goals
      have hset := row_set hblk4 0 (.slice (some ⟨g4, 0, none⟩) (n + 1) cap4)
      have HM4 := Lib.hid (And.intro hown4 (And.intro hgrow4 (And.intro hat4 (And.intro hlt4 hset))))
      clear hown4 hgrow4 hat4 hlt4 hset hblk4
      go_wp2_with fail
      go_meet
      case rel =>
        obtain ⟨hown4, hgrow4, hat4, hlt4, hset⟩ := HM4.out
        obtain ⟨hst2, hbb2, rw2⟩ := HS2.out
        have hgS : g4 ≠ S := by rcases hat4 with e | e; exact fun e2 => hfS (by rw [e, e2]); omega
        have hM3 : M < w2.heap.size := hst2.lt.2
        have hgM : g4 ≠ M := by rcases hat4 with e | e; exact fun e2 => hfM (by rw [e, e2]); omega
        have hgB : ∀ b, (Value.slice ao n cap).ownBlock = some b → b < W.heap.size := fun b hb => by
          have hh := (H.out.row.lt b (by rw [hn]; exact hb)).2
          exact hh
        have hsz2 := hbb2.size
        have hgW : g4 ≠ W.heap.size := by
          rcases hat4 with e | e
          · have := hgB g4 e; omega
          · omega
        have ha5 : Apt (fun k => k = S) w4 (w4.setCell ⟨S, 0, none⟩ (.slice (some ⟨g4, 0, none⟩) (n + 1) cap4)) := Apt.setCell (X := fun k => k = S) (p := ⟨S, 0, none⟩) (Apt.refl _ _) (.inl rfl) _
        have ha4 : Apt (fun k => (Value.slice ao n cap).ownBlock = some k) w2 w4 := Apt.grown (((Apt.refl _ w2).alloc _).drew) hgrow4 (fun k e => .inl e)
        refine ⟨.slice (some ⟨g4, 0, none⟩) (n + 1) cap4, by simpa using hset, ha5.row (by rw [cellsF_app]; exact hown4) (fun k e => by cases e; exact hgS), ?_, by simp [Value.ownBlock]; exact hgS, by simp [Value.ownBlock]; exact hgM, ?_, ?_, ?_⟩
        · refine ha5.map ?_ (fun e => hst2.sm e.symm)
          exact ha4.map (by have := hst2.map; rw [hn] at this; exact this) hfM
        · exact Apt.setCell (Apt.grown (((apt_below hbb2).alloc _).drew) hgrow4 (fun k e => .inl (.inr (.inr e)))) (.inl (.inl rfl)) _
        · rcases hat4 with e | e
          · exact .inl e.symm
          · exact .inr (fun b eb => by simp [Value.ownBlock] at eb; omega)
        · have h1 := ha4.block W.heap.size hw2 (fun e => by have := hgB _ e; omega)
          have h2 := ha5.block W.heap.size (Nat.lt_of_lt_of_le hw2 ha4.size) (fun e => by have := H.out.lt.1; omega)
          exact h2.trans (h1.trans rw2)
  case rest =>
    obtain ⟨F', hblk, hrow, hmap, hfS', hfM', hapt, hfr, hbx⟩ := hcut
    obtain ⟨ao', cap', rfl⟩ := row_any hrow
    obtain ⟨c0, c2, c1⟩ := cellsT hblk
    have x0 : wc.cell? ⟨W.heap.size, 0, none⟩ = some (.int .i64 r) := by rw [cell_of_row _ _ _ _ _ _ hbx]; rfl
    have x1 : wc.cell? ⟨W.heap.size, 1, none⟩ = some (.int .i64 c) := by rw [cell_of_row _ _ _ _ _ _ hbx]; rfl
    obtain ⟨w3, hrun, hmap3, hg3⟩ := MapAt.store (W := wc.drew) hmap (i := (n : Int) + 1) HR.out HC.out ⟨by omega, by omega⟩ (posR_none hp) (by unfold maxLen; omega)
    have hsm := H.out.sm
    have hMl := H.out.lt.2
    have hSl := H.out.lt.1
    have s0 : w3.cell? ⟨S, 0, none⟩ = some (.slice ao' (n + 1) cap') := hg3.cell (w := wc.drew) c0 (by simp; exact hsm)
    have s2 : w3.cell? ⟨S, 1, none⟩ = some (.int .i64 most) := hg3.cell (w := wc.drew) c2 (by simp; exact hsm)
    have s1 : w3.cell? ⟨S, 2, none⟩ = some (.map (some M)) := hg3.cell (w := wc.drew) c1 (by simp; exact hsm)
    have y0 : w3.cell? ⟨W.heap.size, 0, none⟩ = some (.int .i64 r) := hg3.cell (w := wc.drew) x0 (by simp; omega)
    have y1 : w3.cell? ⟨W.heap.size, 1, none⟩ = some (.int .i64 c) := hg3.cell (w := wc.drew) x1 (by simp; omega)
    have hblk3 : w3.heap[S]? = some (.cells #[.slice ao' (n + 1) cap', .int .i64 most, .map (some M)] 67 (0, 0)) := (hg3.block S (Nat.lt_of_lt_of_le hSl hapt.size) (by simp; exact hsm)).trans hblk
    have hz2 := row_froz hblk3 1
    have hmap4 : MapAt w3 M (n + 1) (posR (fs ++ [⟨r, c, k, 0⟩])) := by
      have := hmap3
      rwa [← hn, posR_put fs ⟨r, c, k, 0⟩ hp, hn] at this
    have hapt3 : Apt (SX S M (.slice ao n cap)) W w3 := hapt.drew.grown hg3 (fun k e => by cases e; exact .inl (.inr (.inl rfl)))
    have hrow3 := World.ownsRow.kept (w := wc.drew) hrow hg3 (.inr hfM')
    have hmo := H.out.mo
    rw [hn] at hmo
    have HH := Lib.hid (And.intro hblk3 (And.intro hrow3 (And.intro hmap4 (And.intro hfS' (And.intro hfM' (And.intro hapt3 hfr))))))
    clear hblk hrow hmap hfS' hfM' hapt hfr hbx hmap3 hg3 hmap4 hapt3 hblk3 hrow3 hrowA hnewsA hblkA hblk2 hrow2 hsm
    go_wp2_with fail
    go_region_held3 (fun w' => w'.cell? ⟨S, 0, none⟩ = some (.slice ao' (n + 1) cap') ∧ (w'.cell? ⟨W.heap.size, 0, none⟩ = some (.int .i64 r) ∧ w'.cell? ⟨W.heap.size, 1, none⟩ = some (.int .i64 c)) ∧ w'.cell? ⟨S, 2, none⟩ = some (.map (some M))) (first | exact ⟨c0, ⟨x0, x1⟩, c1⟩ | exact ⟨s0, ⟨y0, y1⟩, s1⟩ | go_keep) (fail)
    all_goals
      have HV : Hid (∀ v : Nat, v = max most (n + 1) → ∃ F', StkR (w3.setCell ⟨S, 1, none⟩ (.int .i64 (v : Int))).drew B S M F' (fs ++ [⟨r, c, k, 0⟩]) (max most (fs.length + 1)) ∧ Apt (SX S M (.slice ao fs.length cap)) W (w3.setCell ⟨S, 1, none⟩ (.int .i64 (v : Int))).drew ∧ (F'.ownBlock = (Value.slice ao fs.length cap).ownBlock ∨ ∀ b, F'.ownBlock = some b → W.heap.size ≤ b)) := fun v hv => by
        obtain ⟨hblk, hrow, hmap, hfS', hfM', hapt, hfr⟩ := HH.out
        have hset := row_set hblk 1 (.int .i64 (v : Int))
        have ha5 : Apt (fun k => k = S) w3 (w3.setCell ⟨S, 1, none⟩ (.int .i64 (v : Int))).drew := (Apt.setCell (X := fun k => k = S) (p := ⟨S, 1, none⟩) (Apt.refl _ _) (.inl rfl) _).drew
        subst hn
        refine ⟨.slice ao' (fs.length + 1) cap', ⟨?_, ?_, ?_, HS2.out.1.sm, hfS', hfM', HS2.out.1.bS, HS2.out.1.bM, Uq.snoc.2 ⟨HS2.out.1.uq, hp⟩, fun f hf => ?_, ?_⟩, ?_, ?_⟩
        · rw [← hv]
          show (w3.setCell ⟨S, 1, none⟩ (.int .i64 (v : Int))).heap[S]? = _
          simpa using hset
        · rw [List.length_append, List.length_singleton]
          exact ha5.row hrow (fun k e e2 => hfS' (by rw [e, e2]))
        · rw [List.length_append, List.length_singleton]
          exact ha5.map hmap (fun e => HS2.out.1.sm e.symm)
        · rcases List.mem_append.1 hf with h1 | h1
          · exact HS2.out.1.ft f h1
          · rw [List.mem_singleton] at h1
            subst h1
            exact ⟨⟨HR.out, HC.out⟩, HK.out, by show (0 : Int) ≤ 0; decide, by show (0 : Int) ≤ 9223372036854775807; decide⟩
        · rw [List.length_append, List.length_singleton]
          have := HS2.out.1.mo
          omega
        · exact ((hapt.setCell (p := ⟨S, 1, none⟩) (.inl (.inl rfl)) _).drew)
        · rcases hfr with e | e
          · exact .inl e
          · exact .inr (fun b hb => Nat.le_trans HS2.out.2.1.size (e b hb))
      by_cases hmx : (most : Int) < (n : Int) + 1
      · have h1 := HV.out (n + 1) (by omega)
        rw [show ((n + 1 : Nat) : Int) = (n : Int) + 1 by omega] at h1
        have H1 := Lib.hid h1
        clear h1
        go_wp2_with fail
        go_region
        all_goals
          go_wp2_with fail
          go_ret
          exact ⟨rfl, H1.out⟩
      · have H1 := Lib.hid (HV.out most (by omega))
        go_wp2_with fail
        go_region
        all_goals
          go_wp2_with fail
          go_ret
          exact ⟨rfl, H1.out⟩
end Go.Proofs.Ytfbmfcipaikaoaa
