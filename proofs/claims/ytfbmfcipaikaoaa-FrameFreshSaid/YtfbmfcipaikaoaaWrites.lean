/- What writes a stack: New, Push, Pop, Clear, Next. -/
import Derived.Test.YtfbmfcipaikaoaaReads
import Derived.Deep.AppendLies
import Derived.Deep.RegionLaw
import Derived.Deep.Cut
import Derived.Deep.CutRange
import Derived.Carry
namespace Go.Proofs.Ytfbmfcipaikaoaa
set_option linter.unusedVariables false
set_option linter.unusedSimpArgs false
open Go.RowKit Go.Maps

set_option maxHeartbeats 800000 in
theorem new8 (W : World) : Calls Try.prog 8 #[] W fun e W' => ∃ S M, e = .returned (.pointer (some ⟨S, 0, none⟩)) ∧ Stk W' W.heap.size S M (.slice none 0 0) [] 0 ∧ Below W.heap.size W W' := by
  have hmm := @run_makeMap Try.prog
  go_enter Try.func8, Try.ntmps8
  go_wp2_with fail
  go_ret
  have hm := map_made W
  have e1 : (W.alloc (.map #[] 0)).heap.size = W.heap.size + 1 := by simp
  refine ⟨W.heap.size + 1, W.heap.size, rfl, ⟨?_, World.ownsRow_nil _ _ _ _, ?_, by omega, by simp [Value.ownBlock], by simp [Value.ownBlock], by omega, Nat.le_refl _, .nil, fun f h => by simp at h, by simp⟩, ((Below.refl W.heap.size W).alloc (Nat.le_refl _) _).alloc (by simp) _⟩
  · have := heap_alloc_new (W.alloc (.map #[] 0)) (.cells #[.slice none 0 0, .map (some W.heap.size), .int .i64 0] 62)
    rw [e1] at this
    exact this
  · have h0 : MapAt (W.alloc (.map #[] 0)) W.heap.size 0 (pos []) := hm
    exact h0.kept (World.grownBy_alloc _ _ none) (by simp)

def pushOk (fs : List Fr) (r c k : Int) : Prop := mayS r c = true ∧ (k = 1 ∨ k = 2) ∧ pos fs r c = none
theorem may_fits {r c : Int} (h : mayS r c = true) : I64 r ∧ I64 c := by
  unfold mayS at h
  simp at h
  exact ⟨⟨by omega, by omega⟩, ⟨by omega, by omega⟩⟩

set_option maxRecDepth 100000 in
set_option maxHeartbeats 2000000 in
theorem push10_ok {W : World} {B S M : Nat} {F : Value} {fs : List Fr} {most : Nat} (h : Stk W B S M F fs most) (r c k : Int) (hm : mayS r c = true) (hk : k = 1 ∨ k = 2) (hp : pos fs r c = none) (hlim : fs.length + 1 ≤ 1000000000) :
    Calls Try.prog 10 #[.pointer (some ⟨S, 0, none⟩), .agg #[.int .i64 r, .int .i64 c], .int .i64 k] W fun e W' => e = .returned (.int .i64 0) ∧
      ∃ F', Stk W' B S M F' (fs ++ [⟨r, c, k, 0⟩]) (max most (fs.length + 1)) ∧ Apt (SX S M F) W W' ∧ (F'.ownBlock = F.ownBlock ∨ ∀ b, F'.ownBlock = some b → W.heap.size ≤ b) := by
  obtain ⟨i0, hi, hz0, hz1, hz2⟩ := info_parts info36
  obtain ⟨hr, hc⟩ := may_fits hm
  obtain ⟨n, hn⟩ : ∃ n, fs.length = n := ⟨_, rfl⟩
  have hb0 := ((Below.refl W.heap.size W).alloc (Nat.le_refl _) (.cells #[.int .i64 r, .int .i64 c] 27))
  have r0 := heap_alloc_new W (.cells #[.int .i64 r, .int .i64 c] 27)
  have hW0 : W.heap.size < (W.alloc (.cells #[.int .i64 r, .int .i64 c] 27)).heap.size := by simp
  have hst0 := h.below hb0
  have HR := Lib.hid hr
  have HC := Lib.hid hc
  have H := Lib.hid h
  clear hr hc h
  go_enter Try.func10, Try.ntmps10
  go_wp2_with fail
  refine (may27 r c _).mono ?_
  rw [hm]
  rintro e w1 ⟨rfl, hb1⟩
  have hst1 := hst0.below hb1
  have r1 := (hb1.block _ hW0).trans r0
  have hw1 : W.heap.size < w1.heap.size := Nat.lt_of_lt_of_le hW0 hb1.size
  have hbb := hb0.trans (hb1.mono hb0.size)
  have x0 : w1.cell? ⟨W.heap.size, 0, none⟩ = some (.int .i64 r) := by rw [cell_of_row _ _ _ _ _ _ r1]; rfl
  have x1 : w1.cell? ⟨W.heap.size, 1, none⟩ = some (.int .i64 c) := by rw [cell_of_row _ _ _ _ _ _ r1]; rfl
  clear hb0 hb1 r0 hst0
  have HK := Lib.hid hk
  have hk1 : (k != 1) = false ∨ ((k != 1) = true ∧ (k != 2) = false) := by rcases hk with rfl | rfl <;> simp
  clear hk
  rcases hk1 with hk1 | ⟨hk1, hk2⟩
  all_goals
    go_wp2_with fail
    refine (has12 hst1 r c HR.out HC.out).mono ?_
    rw [hp]
    rintro e w2 ⟨rfl, hb2⟩
    have hst2 := hst1.below hb2
    have hbb2 := hbb.trans (hb2.mono hbb.size)
    have hw2 : W.heap.size < w2.heap.size := Nat.lt_of_lt_of_le hw1 hb2.size
    replace x0 := cell_below x0 hb2
    replace x1 := cell_below x1 hb2
    obtain ⟨d0, d1, d2⟩ := cellsT hst2.blk
    obtain ⟨ao, cap, rfl⟩ := row_any hst2.row
    obtain ⟨w3, hrun, hmap3, hg3⟩ := MapAt.store (W := w2.drew) hst2.map (i := (n : Int)) HR.out HC.out ⟨by omega, by omega⟩ hp (by unfold maxLen; omega)
    rw [hn] at d0
    have s0 : w3.cell? ⟨S, 0, none⟩ = some (.slice ao n cap) := hg3.cell (w := w2.drew) d0 (by simp; exact hst2.sm)
    have s1 : w3.cell? ⟨S, 1, none⟩ = some (.map (some M)) := hg3.cell (w := w2.drew) d1 (by simp; exact hst2.sm)
    have hMb : M ≠ W.heap.size := by have := H.out.lt.2; omega
    have y0 : w3.cell? ⟨W.heap.size, 0, none⟩ = some (.int .i64 r) := hg3.cell (w := w2.drew) x0 (by simp; omega)
    have y1 : w3.cell? ⟨W.heap.size, 1, none⟩ = some (.int .i64 c) := hg3.cell (w := w2.drew) x1 (by simp; omega)
    have hsz3 : w2.heap.size ≤ w3.heap.size := hg3.size
    have hrow3 := World.ownsRow.kept (w := w2.drew) hst2.row hg3 (.inr hst2.fM)
    rw [hn] at hrow3
    have hrowA : (w3.alloc (.cells #[.int .i64 r, .int .i64 c, .int .i64 k, .int .i64 0] 36)).drew.ownsRow B 36 4 (.slice ao n cap) n (cellsF fs) := (hrow3.alloc _).drew
    have hnewsA : ∀ j u, (cellsF [⟨r, c, k, 0⟩])[j]? = some u → (w3.alloc (.cells #[.int .i64 r, .int .i64 c, .int .i64 k, .int .i64 0] 36)).drew.cell? ((⟨w3.heap.size, 0, none⟩ : Addr).add j) = some u := World.news_of_block (heap_alloc_new w3 _)
    have hBs : B ≤ (w3.alloc (.cells #[.int .i64 r, .int .i64 c, .int .i64 k, .int .i64 0] 36)).drew.heap.size := by have := hst2.bS; have := hst2.lt.1; simp; omega
    have hblk3 : w3.heap[S]? = some (.cells #[.slice ao n cap, .map (some M), .int .i64 most] 62 (0, 0)) := (hg3.block S hst2.lt.1 (by simp; exact hst2.sm)).trans (by have := hst2.blk; rw [hn] at this; exact this)
    have hblkA : (w3.alloc (.cells #[.int .i64 r, .int .i64 c, .int .i64 k, .int .i64 0] 36)).drew.heap[S]? = some (.cells #[.slice ao n cap, .map (some M), .int .i64 most] 62 (0, 0)) := (Below.heap_alloc w3 _ S (by have := hst2.lt.1; omega)).trans hblk3
    have hfS := hst2.fS
    rw [hn] at hfS
    have hfM := hst2.fM
    rw [hn] at hfM
    have hmap4 : MapAt w3 M (n + 1) (pos (fs ++ [⟨r, c, k, 0⟩])) := by
      have := hmap3
      rw [hn, ← hn, pos_put fs ⟨r, c, k, 0⟩ hp, hn] at this
      exact this
    have hapt3 : Apt (SX S M (.slice ao n cap)) W w3 := ((apt_below hbb2).drew).grown hg3 (fun k e => by cases e; exact .inl (.inr (.inl rfl)))
    have hS3 : S < w3.heap.size := by have := hst2.lt.1; omega
    have HS2 := Lib.hid (And.intro hst2 (And.intro hbb2 (And.intro hmap3 hg3)))
    clear hst2 hbb2 hmap3 hg3 hst1 hb2 hbb r1
    go_wp2_with fail
    go_region_held3 (fun w' => w'.cell? ⟨S, 1, none⟩ = some (.map (some M)) ∧ (w'.cell? ⟨W.heap.size, 0, none⟩ = some (.int .i64 r) ∧ w'.cell? ⟨W.heap.size, 1, none⟩ = some (.int .i64 c)) ∧ w'.cell? ⟨S, 0, none⟩ = some (.slice ao n cap)) (first | exact ⟨d1, ⟨x0, x1⟩, d0⟩ | exact ⟨s1, ⟨y0, y1⟩, s0⟩ | go_keep) (fail)
    all_goals
      go_wp2_with fail
      have HX3 := Lib.hid (And.intro hmap4 hapt3)
      clear hmap4 hapt3
      go_cut [] from 29 to 40 (fun wc => ∃ F', wc.heap[S]? = some (.cells #[F', .map (some M), .int .i64 most] 62 (0, 0)) ∧ wc.ownsRow B 36 4 F' (n + 1) (cellsF (fs ++ [⟨r, c, k, 0⟩])) ∧ MapAt wc M (n + 1) (pos (fs ++ [⟨r, c, k, 0⟩])) ∧ F'.ownBlock ≠ some S ∧ F'.ownBlock ≠ some M ∧ Apt (SX S M (.slice ao n cap)) W wc ∧ (F'.ownBlock = (Value.slice ao n cap).ownBlock ∨ ∀ b, F'.ownBlock = some b → W.heap.size ≤ b))
      case first =>
        go_region_law ((refine step_append_lies _ (by rfl) (.tmp 33) (.tmp 37) 30 (by rfl) B 36 i0 (.agg #[.int .i64 0, .int .i64 0, .int .i64 0, .int .i64 0]) 4 32 Try.underlying30 hi hz0 hz1 hz2 rfl (by decide) (.slice ao n cap) n (cellsF fs) (by simp [Act.eval, Act.put]) hrowA ⟨w3.heap.size, 0, none⟩ 1 1 (cellsF [⟨r, c, k, 0⟩]) (by simp [Act.eval, Act.put]) rfl hnewsA (cellsF_one _) (by omega) (by unfold maxLen; omega) (by omega) hBs (w3.heap.size + 1) (by simp) ?_; intro g4 cap4 w4 hown4 hgrow4 hat4 hlt4; have hblk4 := (hgrow4.block S (by simp; omega) (fun e => hfS e.symm)).trans hblkA; have t0 := (cellsT hblk4).1; have tf := row_froz hblk4 0))
        all_goals
          have hset := row_set hblk4 0 (.slice (some ⟨g4, 0, none⟩) (n + 1) cap4)
          have HM4 := Lib.hid (And.intro hown4 (And.intro hgrow4 (And.intro hat4 (And.intro hlt4 hset))))
          clear hown4 hgrow4 hat4 hlt4 hset hblk4
          go_wp2_with fail
          go_meet
          case rel =>
            obtain ⟨hown4, hgrow4, hat4, hlt4, hset⟩ := HM4.out
            have hgS : g4 ≠ S := by rcases hat4 with e | e; exact fun e2 => hfS (by rw [e, e2]); omega
            have hM3 : M < w3.heap.size := HX3.out.1.lt
            have hgM : g4 ≠ M := by rcases hat4 with e | e; exact fun e2 => hfM (by rw [e, e2]); omega
            have ha5 : Apt (fun k => k = S) w4 (w4.setCell ⟨S, 0, none⟩ (.slice (some ⟨g4, 0, none⟩) (n + 1) cap4)) := Apt.setCell (X := fun k => k = S) (p := ⟨S, 0, none⟩) (Apt.refl _ _) (.inl rfl) _
            refine ⟨.slice (some ⟨g4, 0, none⟩) (n + 1) cap4, by simpa using hset, ha5.row (by rw [cellsF_app]; exact hown4) (fun k e => by cases e; exact hgS), ?_, by simp [Value.ownBlock]; exact hgS, by simp [Value.ownBlock]; exact hgM, ?_, ?_⟩
            · refine ha5.map ?_ (fun e => HS2.out.1.sm e.symm)
              have ha4 : Apt (fun k => (Value.slice ao n cap).ownBlock = some k) w3 w4 := Apt.grown (((Apt.refl _ w3).alloc _).drew) hgrow4 (fun k e => .inl e)
              exact ha4.map HX3.out.1 hfM
            · have hs3 := HX3.out.2.size
              refine Apt.setCell (Apt.grown ((HX3.out.2.alloc _).drew) hgrow4 (fun k e => .inl (.inr (.inr e)))) (.inl (.inl rfl)) _
            · have hs3 := HX3.out.2.size
              rcases hat4 with e | e
              · exact .inl e.symm
              · exact .inr (fun b eb => by simp [Value.ownBlock] at eb; omega)
      case rest =>
        obtain ⟨F', hblk, hrow, hmap, hfS', hfM', hapt, hfr⟩ := hcut
        obtain ⟨ao', cap', rfl⟩ := row_any hrow
        obtain ⟨c0, c1, c2⟩ := cellsT hblk
        have hz2 := row_froz hblk 2
        have hmo := HS2.out.1.mo
        rw [hn] at hmo
        have HH := Lib.hid (And.intro hblk (And.intro hrow (And.intro hmap (And.intro hfS' (And.intro hfM' (And.intro hapt hfr))))))
        clear hblk hrow hmap hfS' hfM' hapt hfr
        have HV : Hid (∀ v : Nat, v = max most (n + 1) → ∃ F', Stk (wc.setCell ⟨S, 2, none⟩ (.int .i64 (v : Int))).drew B S M F' (fs ++ [⟨r, c, k, 0⟩]) (max most (fs.length + 1)) ∧ Apt (SX S M (.slice ao fs.length cap)) W (wc.setCell ⟨S, 2, none⟩ (.int .i64 (v : Int))).drew ∧ (F'.ownBlock = (Value.slice ao fs.length cap).ownBlock ∨ ∀ b, F'.ownBlock = some b → W.heap.size ≤ b)) := fun v hv => by
          obtain ⟨hblk, hrow, hmap, hfS', hfM', hapt, hfr⟩ := HH.out
          have hset := row_set hblk 2 (.int .i64 (v : Int))
          have ha5 : Apt (fun k => k = S) wc (wc.setCell ⟨S, 2, none⟩ (.int .i64 (v : Int))).drew := (Apt.setCell (X := fun k => k = S) (p := ⟨S, 2, none⟩) (Apt.refl _ _) (.inl rfl) _).drew
          subst hn
          refine ⟨.slice ao' (fs.length + 1) cap', ⟨?_, ?_, ?_, HS2.out.1.sm, hfS', hfM', HS2.out.1.bS, HS2.out.1.bM, Uq.snoc.2 ⟨HS2.out.1.uq, hp⟩, fun f hf => ?_, ?_⟩, ?_, hfr⟩
          · rw [← hv]
            show (wc.setCell ⟨S, 2, none⟩ (.int .i64 (v : Int))).heap[S]? = _
            simpa using hset
          · rw [List.length_append, List.length_singleton]
            exact ha5.row hrow (fun k e e2 => hfS' (by rw [e, e2]))
          · rw [List.length_append, List.length_singleton]
            exact ha5.map hmap (fun e => HS2.out.1.sm e.symm)
          · rcases List.mem_append.1 hf with h1 | h1
            · exact HS2.out.1.ft f h1
            · rw [List.mem_singleton] at h1
              subst h1
              exact ⟨⟨HR.out, HC.out⟩, HK.out, by show (0 : Int) ≤ 0; decide, by show (0 : Int) ≤ 9223372036854775807; decide⟩
          · rw [List.length_append, List.length_singleton]
            have := HS2.out.1.mo
            omega
          · exact ((hapt.setCell (p := ⟨S, 2, none⟩) (.inl (.inl rfl)) _).drew)
        by_cases hmx : (most : Int) < (n : Int) + 1
        · have h1 := HV.out (n + 1) (by omega)
          rw [show ((n + 1 : Nat) : Int) = (n : Int) + 1 by omega] at h1
          have H1 := Lib.hid h1
          clear h1
          go_wp2_with fail
          go_region
          all_goals
            go_wp2_with fail
            go_ret
            exact ⟨rfl, H1.out⟩
        · have H1 := Lib.hid (HV.out most (by omega))
          go_wp2_with fail
          go_region
          all_goals
            go_wp2_with fail
            go_ret
            exact ⟨rfl, H1.out⟩

def pushErr (fs : List Fr) (r c k : Int) : Int := if mayS r c = false then 10 else if ¬ (k = 1 ∨ k = 2) then 1 else 26
set_option maxRecDepth 100000 in
set_option maxHeartbeats 1000000 in
theorem push10_no {W : World} {B S M : Nat} {F : Value} {fs : List Fr} {most : Nat} (h : Stk W B S M F fs most) (r c k : Int) (hr : I64 r) (hc : I64 c) (hno : ¬ pushOk fs r c k) :
    Calls Try.prog 10 #[.pointer (some ⟨S, 0, none⟩), .agg #[.int .i64 r, .int .i64 c], .int .i64 k] W fun e W' => e = .returned (.int .i64 (pushErr fs r c k)) ∧ Below W.heap.size W W' := by
  have hb0 := ((Below.refl W.heap.size W).alloc (Nat.le_refl _) (.cells #[.int .i64 r, .int .i64 c] 27))
  have r0 := heap_alloc_new W (.cells #[.int .i64 r, .int .i64 c] 27)
  have hW0 : W.heap.size < (W.alloc (.cells #[.int .i64 r, .int .i64 c] 27)).heap.size := by simp
  have hst0 := h.below hb0
  have HR := Lib.hid hr
  have HC := Lib.hid hc
  clear hr hc h
  unfold pushErr
  cases hm : mayS r c
  · rw [if_pos rfl]
    clear hno
    go_enter Try.func10, Try.ntmps10
    go_wp2_with fail
    refine (may27 r c _).mono ?_
    rw [hm]
    rintro e w1 ⟨rfl, hb1⟩
    have HB := Lib.hid (hb0.trans (hb1.mono hb0.size))
    clear hb0 hb1
    go_wp2_with fail
    go_ret
    exact ⟨rfl, HB.out⟩
  · rw [if_neg (by simp)]
    by_cases hk : k = 1 ∨ k = 2
    · rw [if_neg (fun h2 => h2 hk)]
      have hp : (pos fs r c).isSome = true := by
        cases e : pos fs r c with
        | some i => rfl
        | none => exact absurd ⟨hm, hk, e⟩ hno
      have hk1 : (k != 1) = false ∨ ((k != 1) = true ∧ (k != 2) = false) := by rcases hk with rfl | rfl <;> simp
      clear hno hk
      go_enter Try.func10, Try.ntmps10
      go_wp2_with fail
      refine (may27 r c _).mono ?_
      rw [hm]
      rintro e w1 ⟨rfl, hb1⟩
      have hst1 := hst0.below hb1
      have hbb := hb0.trans (hb1.mono hb0.size)
      have r1 := (hb1.block _ hW0).trans r0
      have x0 : w1.cell? ⟨W.heap.size, 0, none⟩ = some (.int .i64 r) := by rw [cell_of_row _ _ _ _ _ _ r1]; rfl
      have x1 : w1.cell? ⟨W.heap.size, 1, none⟩ = some (.int .i64 c) := by rw [cell_of_row _ _ _ _ _ _ r1]; rfl
      clear hb0 hb1 r0 hst0 r1
      rcases hk1 with hk1 | ⟨hk1, hk2⟩
      all_goals
        go_wp2_with fail
        refine (has12 hst1 r c HR.out HC.out).mono ?_
        rw [hp]
        rintro e w2 ⟨rfl, hb2⟩
        have HB := Lib.hid (hbb.trans (hb2.mono hbb.size))
        go_wp2_with fail
        go_ret
        exact ⟨rfl, HB.out⟩
    · rw [if_pos hk]
      have hk1 : (k != 1) = true := bne_iff_ne.2 (fun e => hk (.inl e))
      have hk2 : (k != 2) = true := bne_iff_ne.2 (fun e => hk (.inr e))
      clear hno hk
      go_enter Try.func10, Try.ntmps10
      go_wp2_with fail
      refine (may27 r c _).mono ?_
      rw [hm]
      rintro e w1 ⟨rfl, hb1⟩
      have HB := Lib.hid (hb0.trans (hb1.mono hb0.size))
      clear hb0 hb1
      go_wp2_with fail
      go_ret
      exact ⟨rfl, HB.out⟩
end Go.Proofs.Ytfbmfcipaikaoaa
