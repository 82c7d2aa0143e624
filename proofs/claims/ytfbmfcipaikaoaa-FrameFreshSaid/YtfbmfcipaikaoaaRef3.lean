/- The document's own stack in memory: Top, Pop, Next, Kind, From, Clear; Kind of the program's; Next and Kind of an empty one. -/
import Derived.Test.YtfbmfcipaikaoaaRef2
import Derived.Test.YtfbmfcipaikaoaaEq
namespace Go.Proofs.Ytfbmfcipaikaoaa
set_option linter.unusedVariables false
set_option linter.unusedSimpArgs false
open Go.RowKit Go.Maps

set_option maxHeartbeats 800000 in
theorem top32 {W : World} {B S M : Nat} {F : Value} {fs : List Fr} {most : Nat} (h : StkR W B S M F fs most) :
    Calls Try.prog 32 #[.pointer (some ⟨S, 0, none⟩)] W fun e W' => e = .returned (.tuple #[frV (topF fs).1, .bool (topF fs).2]) ∧ Below W.heap.size W W' := by
  have hb1 := ((Below.refl W.heap.size W).alloc (Nat.le_refl _) (.cells #[.int .i64 0, .int .i64 0, .int .i64 0, .int .i64 0] 36))
  have r0 := heap_alloc_new W (.cells #[.int .i64 0, .int .i64 0, .int .i64 0, .int .i64 0] 36)
  have sR := (Array.getElem?_eq_some_iff.1 r0).1
  obtain ⟨z0, z1, z2, z3⟩ := cells4 r0
  have f0 := row_froz r0 0
  have f1 := row_froz r0 1
  have f2 := row_froz r0 2
  have f3 := row_froz r0 3
  have hst := h.below hb1
  have hSl := h.lt.1
  have hrow := h.row
  rcases list_cases fs with rfl | ⟨gs, f, rfl⟩
  · obtain ⟨ao, cap, rfl⟩ := row_any hst.row
    obtain ⟨d0, d1, d2⟩ := cellsT hst.blk
    have HB := Lib.hid hb1
    clear hst hrow h r0 hb1
    rw [topF_nil]
    go_enter Try.func32, Try.ntmps32
    go_wp2_with fail
    exact bodyPost_ret (v := .tuple #[frV zeroF, .bool false]) (by simp [results, Try.results32, go_sem, frV, zeroF, z0, z1, z2, z3, f0, f1, f2, f3]) rfl ⟨rfl, by simpa using HB.out⟩
  · rw [List.length_append, List.length_singleton] at hrow
    obtain ⟨g, cap, rfl⟩ := slice_form hrow
    obtain ⟨d0, d1, d2⟩ := cellsT hst.blk
    have hf := own_frame (fs := gs ++ [f]) (i := gs.length) (f := f) (by have := hst.row; simpa using this) (by simp)
    have hf2 := own_frame (fs := gs ++ [f]) (i := gs.length) (f := f) (by have := h.row; simpa using this) (by simp)
    have e0 := (cellsT h.blk).1
    have hK : ∀ o, ((W.alloc o).drew.cell? ⟨S, 0, none⟩ = some (.slice (some ⟨g, 0, none⟩) (gs.length + 1) cap) ∧ ((W.alloc o).drew.cell? ⟨g, gs.length * 4, none⟩ = some (.int .i64 f.r) ∧ (W.alloc o).drew.cell? ⟨g, gs.length * 4 + 1, none⟩ = some (.int .i64 f.c) ∧ (W.alloc o).drew.cell? ⟨g, gs.length * 4 + 2, none⟩ = some (.int .i64 f.k) ∧ (W.alloc o).drew.cell? ⟨g, gs.length * 4 + 3, none⟩ = some (.int .i64 f.x))) := fun o => by
      have hb := ((Below.refl W.heap.size W).alloc (Nat.le_refl _) o).drew
      exact ⟨cell_below e0 hb, cell_below hf2.1 hb, cell_below hf2.2.1 hb, cell_below hf2.2.2.1 hb, cell_below hf2.2.2.2 hb⟩
    clear hf hf2 e0 d1 d2
    have hgW : g < W.heap.size := (hrow.lt g rfl).2
    rw [topF_snoc]
    have HB := Lib.hid hb1
    have hmx : gs.length < 1000000000 := by have := h.mo; simp at this; omega
    clear hst hrow h hb1
    generalize gs.length = n at *
    have hn1 : (n : Int) + 1 - 1 = (n : Int) := by omega
    have hn2 : IntKind.i64.wrap (n : Int) = (n : Int) := by simp [IntKind.wrap, IntKind.signed, IntKind.bits]; omega
    have hn3 : (0 : Int) ≤ (n : Int) := by omega
    have hn4 : (n : Int) < (n : Int) + 1 := by omega
    have hgz : g ≠ W.heap.size := by omega
    have hSz : S ≠ W.heap.size := by omega
    go_enter Try.func32, Try.ntmps32
    go_wp2_with fail
    go_region_held3 (fun w' => w'.cell? ⟨S, 0, none⟩ = some (.slice (some ⟨g, 0, none⟩) (n + 1) cap) ∧ (w'.cell? ⟨g, n * 4, none⟩ = some (.int .i64 f.r) ∧ w'.cell? ⟨g, n * 4 + 1, none⟩ = some (.int .i64 f.c) ∧ w'.cell? ⟨g, n * 4 + 2, none⟩ = some (.int .i64 f.k) ∧ w'.cell? ⟨g, n * 4 + 3, none⟩ = some (.int .i64 f.x))) (first | exact hK _ | go_keep) (fail)
    all_goals
      go_wp2_with fail
      obtain ⟨y0, y1, y2, y3⟩ := cells4 (heap_alloc_new W (.cells #[.int .i64 f.r, .int .i64 f.c, .int .i64 f.k, .int .i64 f.x] 36))
      exact bodyPost_ret (v := .tuple #[frV f, .bool true]) (by simp [results, Try.results32, go_sem, frV, y0, y1, y2, y3]) rfl ⟨rfl, ((Below.refl W.heap.size W).alloc (Nat.le_refl _) _).drew⟩

set_option maxHeartbeats 1000000 in
theorem pop31_none {W : World} {B S M : Nat} {F : Value} {most : Nat} (h : StkR W B S M F [] most) :
    Calls Try.prog 31 #[.pointer (some ⟨S, 0, none⟩)] W fun e W' => e = .returned (.tuple #[frV zeroF, .int .i64 3]) ∧ Below W.heap.size W W' := by
  have hb0 := ((Below.refl W.heap.size W).alloc (Nat.le_refl _) (.cells #[.int .i64 0, .int .i64 0, .int .i64 0, .int .i64 0] 36))
  have r0 := heap_alloc_new W (.cells #[.int .i64 0, .int .i64 0, .int .i64 0, .int .i64 0] 36)
  have hst := h.below hb0
  have hW0 := (Array.getElem?_eq_some_iff.1 r0).1
  clear h
  go_enter Try.func31, Try.ntmps31
  go_wp2_with fail
  refine (top32 hst).mono ?_
  rw [topF_nil]
  rintro e w1 ⟨rfl, hb1⟩
  have r1 := (hb1.block _ hW0).trans r0
  have hb2 := (hb0.trans (hb1.mono hb0.size)).alloc (Nat.le_trans hb0.size hb1.size) (.cells #[.int .i64 0, .int .i64 0, .int .i64 0, .int .i64 0] 36)
  have r2 := (Below.heap_alloc w1 (.cells #[.int .i64 0, .int .i64 0, .int .i64 0, .int .i64 0] 36) W.heap.size (Array.getElem?_eq_some_iff.1 r1).1).trans r1
  obtain ⟨z0, z1, z2, z3⟩ := cells4 r2
  have f0 := row_froz r2 0
  have f1 := row_froz r2 1
  have f2 := row_froz r2 2
  have f3 := row_froz r2 3
  have sR := (Array.getElem?_eq_some_iff.1 r2).1
  have HB := Lib.hid hb2
  clear hst hb0 hb1 hb2 r0 r1 r2 hW0
  simp only [frV, zeroF]
  go_wp2_with fail
  exact bodyPost_ret (v := .tuple #[frV zeroF, .int .i64 3]) (by simp [results, Try.results31, go_sem, frV, zeroF, z0, z1, z2, z3, f0, f1, f2, f3]) rfl ⟨rfl, ((((HB.out.setCell (p := ⟨W.heap.size, 0, none⟩) (Nat.le_refl _) _).setCell (p := ⟨W.heap.size, 1, none⟩) (Nat.le_refl _) _).setCell (p := ⟨W.heap.size, 2, none⟩) (Nat.le_refl _) _).setCell (p := ⟨W.heap.size, 3, none⟩) (Nat.le_refl _) _)⟩

set_option maxRecDepth 100000 in
set_option maxHeartbeats 2000000 in
theorem pop31_some {W : World} {B S M : Nat} {F : Value} {fs : List Fr} {f : Fr} {most : Nat} (h : StkR W B S M F (fs ++ [f]) most) :
    Calls Try.prog 31 #[.pointer (some ⟨S, 0, none⟩)] W fun e W' => e = .returned (.tuple #[frV f, .int .i64 0]) ∧ ∃ F', StkR W' B S M F' fs most ∧ Apt (SX S M F) W W' ∧ F'.ownBlock = F.ownBlock := by
  have hb0 := ((Below.refl W.heap.size W).alloc (Nat.le_refl _) (.cells #[.int .i64 0, .int .i64 0, .int .i64 0, .int .i64 0] 36))
  have r0 := heap_alloc_new W (.cells #[.int .i64 0, .int .i64 0, .int .i64 0, .int .i64 0] 36)
  have hst := h.below hb0
  have hW0 := (Array.getElem?_eq_some_iff.1 r0).1
  have hft := h.ft f (by simp)
  have huq := Uq.snoc.1 h.uq
  have HF := Lib.hid (And.intro hft huq)
  have hlt := h.lt
  have hgl := fun k hk => (h.row.lt k hk).2
  have hmo := h.mo
  rw [List.length_append, List.length_singleton] at hmo
  clear h hft huq
  go_enter Try.func31, Try.ntmps31
  go_wp2_with fail
  refine (top32 hst).mono ?_
  rw [topF_snoc]
  rintro e w1 ⟨rfl, hb1⟩
  have r1 := (hb1.block _ hW0).trans r0
  have hs1 := (Array.getElem?_eq_some_iff.1 r1).1
  have hbo := (Below.refl w1.heap.size w1).alloc (Nat.le_refl _) (.cells #[.int .i64 f.r, .int .i64 f.c, .int .i64 f.k, .int .i64 f.x] 36)
  have rT := heap_alloc_new w1 (.cells #[.int .i64 f.r, .int .i64 f.c, .int .i64 f.k, .int .i64 f.x] 36)
  have hst2 := (hst.below hb1).below hbo
  have hb2 := (hb0.trans (hb1.mono hb0.size)).trans (hbo.mono (Nat.le_trans hb0.size hb1.size))
  have r2 := (hbo.block _ hs1).trans r1
  simp only [frV]
  go_wp2_with fail
  obtain ⟨X, hX⟩ : ∃ X, w1.alloc (.cells #[.int .i64 f.r, .int .i64 f.c, .int .i64 f.k, .int .i64 f.x] 36) = X := ⟨_, rfl⟩
  have hTX : w1.heap.size < X.heap.size := by rw [← hX]; simp
  rw [hX] at rT hst2 hb2 r2 ⊢
  obtain ⟨T, hT⟩ : ∃ T, w1.heap.size = T := ⟨_, rfl⟩
  have hTW : W.heap.size < T := by omega
  rw [hT] at rT hTX ⊢
  clear hX hT hbo hb1 r1 hst r0 hW0 hs1 hb0
  obtain ⟨n, hn⟩ : ∃ n, fs.length = n := ⟨_, rfl⟩
  have hlen : (fs ++ [f]).length = n + 1 := by simp [hn]
  have hrow := hst2.row
  rw [hlen] at hrow
  obtain ⟨g, cap, hF⟩ := slice_form hrow
  subst hF
  obtain ⟨d0, d1, d2⟩ := cellsT hst2.blk
  obtain ⟨t0, t1, t2, t3⟩ := cells4 rT
  obtain ⟨w3, hrun, hmap3, hg3⟩ := MapAt.drop (W := X.drew) hst2.map (r := f.r) (c := f.c) (i := (n : Int) + 1) HF.out.1.1.1 HF.out.1.1.2 (by unfold posR; rw [pos_snoc, HF.out.2.2]; simp [At, hn]) 0
  have hdel : ∀ ty, (Builtin.delete_ #[60, 27] ty #[.map (some M), .agg #[.int .i64 f.r, .int .i64 f.c]]).run Try.prog X.drew = .ok (.tuple #[]) w3 := fun ty => hrun
  rw [hlen, posR_del fs f HF.out.2.2] at hmap3
  have hmS : M ≠ S := hst2.sm.symm
  have hSX := hst2.lt.1
  have hMT : M ≠ T := by omega
  have hblk3 : w3.heap[S]? = some (.cells #[.slice (some ⟨g, 0, none⟩) (n + 1) cap, .int .i64 most, .map (some M)] 67 (0, 0)) := (hg3.block S hSX (by simp; exact hst2.sm)).trans hst2.blk
  have rT3 : w3.heap[T]? = some (.cells #[.int .i64 f.r, .int .i64 f.c, .int .i64 f.k, .int .i64 f.x] 36 (0, 0)) := (hg3.block T hTX (by simp; omega)).trans rT
  have r3 : w3.heap[W.heap.size]? = some (.cells #[.int .i64 0, .int .i64 0, .int .i64 0, .int .i64 0] 36 (0, 0)) := (hg3.block W.heap.size (by show W.heap.size < X.heap.size; omega) (by simp; omega)).trans r2
  have HBK := Lib.hid hblk3
  obtain ⟨e0, e1, e2⟩ := cellsT hblk3
  clear hblk3
  obtain ⟨u0, u1, u2, u3⟩ := cells4 rT3
  have HH := Lib.hid (And.intro hst2 (And.intro hb2 (And.intro hmap3 (And.intro hg3 (And.intro hrow (And.intro r3 rT3))))))
  clear hst2 hb2 hmap3 hg3 hrow rT r2 hrun r3 rT3
  go_region_held3 (fun w' => w'.cell? ⟨S, 2, none⟩ = some (.map (some M)) ∧ (w'.cell? ⟨T, 0, none⟩ = some (.int .i64 f.r) ∧ w'.cell? ⟨T, 1, none⟩ = some (.int .i64 f.c))) (first | exact ⟨d2, t0, t1⟩ | exact ⟨e2, u0, u1⟩ | go_keep) (fail)
  all_goals
    go_wp2_with fail
    have hz0 := row_froz HH.out.2.2.2.2.2.2 0
    have hn0 : (0 : Int) ≤ (n : Int) := by omega
    have hn1 : (n : Int) + 1 - 1 = (n : Int) := by omega
    have hnc : n + 1 ≤ cap := by
      rcases (row_cases HH.out.2.2.2.2.1) with ⟨e, _⟩ | ⟨g', c', hc, e⟩
      · cases e
      · cases e; exact hc
    have hnc1 : (n : Int) ≤ (cap : Int) := by omega
    have hnc2 : n ≤ cap := by omega
    have hzS := row_froz (show w3.heap[S]? = some (.cells #[.slice (some ⟨g, 0, none⟩) (n + 1) cap, .int .i64 most, .map (some M)] 67 (0, 0)) from HBK.out) 0
    go_cut [] from 20 to 33 (fun wc => wc.heap[S]? = some (.cells #[.slice (some ⟨g, 0, none⟩) n cap, .int .i64 most, .map (some M)] 67 (0, 0)) ∧ wc.heap[T]? = some (.cells #[.int .i64 f.r, .int .i64 f.c, .int .i64 f.k, .int .i64 f.x] 36 (0, 0)) ∧ wc.heap[W.heap.size]? = some (.cells #[.int .i64 0, .int .i64 0, .int .i64 0, .int .i64 0] 36 (0, 0)) ∧ wc.ownsRow B 36 4 (.slice (some ⟨g, 0, none⟩) n cap) n (cellsF fs) ∧ MapAt wc M n (posR fs) ∧ Apt (SX S M (.slice (some ⟨g, 0, none⟩) (n + 1) cap)) W wc)
    case first =>
      go_region
      all_goals
        go_wp2_with fail
        go_meet
        case rel =>
          obtain ⟨hst2, hb2, hmap3, hg3, hrow, r3, rT3⟩ := HH.out
          have hset := row_set HBK.out 0 (.slice (some ⟨g, 0, none⟩) n cap)
          have ha5 : Apt (fun k => k = S) w3 (w3.setCell ⟨S, 0, none⟩ (.slice (some ⟨g, 0, none⟩) n cap)).drew := (Apt.setCell (X := fun k => k = S) (p := ⟨S, 0, none⟩) (Apt.refl _ _) (.inl rfl) _).drew
          have hsz3 : X.heap.size ≤ w3.heap.size := hg3.size
          refine ⟨(by show (w3.setCell ⟨S, 0, none⟩ (.slice (some ⟨g, 0, none⟩) n cap)).heap[S]? = _; simpa using hset), (ha5.block T (by omega) (by omega)).trans rT3, (ha5.block W.heap.size (by omega) (by omega)).trans r3, ?_, ha5.map hmap3 hmS, ?_⟩
          · refine ha5.row ?_ (fun k e e2 => hst2.fS (show (Value.slice (some ⟨g, 0, none⟩) (n + 1) cap).ownBlock = some S from e.trans (by rw [e2])))
            have hrow3 := World.ownsRow.kept (w := X.drew) hrow hg3 (.inr hst2.fM)
            rw [cellsF_app] at hrow3
            exact own_shrink hrow3 (by omega) (by rw [cellsF_len, hn])
          · have := (((apt_below hb2).drew).grown hg3 (fun k e => by cases e; exact .inl (.inr (.inl rfl))) : Apt (SX S M (.slice (some ⟨g, 0, none⟩) (n + 1) cap)) W w3)
            exact (this.setCell (p := ⟨S, 0, none⟩) (.inl (.inl rfl)) _).drew
    case rest =>
      obtain ⟨hblk, hT, hR, hrow, hmap, hapt⟩ := hcut
      obtain ⟨v0, v1, v2, v3⟩ := cells4 hT
      obtain ⟨z0, z1, z2, z3⟩ := cells4 hR
      have f0 := row_froz hR 0
      have f1 := row_froz hR 1
      have f2 := row_froz hR 2
      have f3 := row_froz hR 3
      have sR := (Array.getElem?_eq_some_iff.1 hR).1
      have HC := Lib.hid (And.intro hblk (And.intro hrow (And.intro hmap hapt)))
      clear hblk hT hR hrow hmap hapt e0 e1 e2 u0 u1 u2 u3 t0 t1 t2 t3 d0 d1 d2 hdel
      go_wp2_with fail
      have HST : Hid (StkR wc B S M (.slice (some ⟨g, 0, none⟩) n cap) fs most) := by
        obtain ⟨hblk, hrow, hmap, hapt⟩ := HC.out
        have hst2 := HH.out.1
        subst hn
        exact ⟨hblk, hrow, hmap, hst2.sm, hst2.fS, hst2.fM, hst2.bS, hst2.bM, HF.out.2.1, fun x hx => hst2.ft x (by simp [hx]), by omega⟩
      exact bodyPost_ret (v := .tuple #[frV f, .int .i64 0]) (by simp [results, Try.results31, go_sem, frV, z0, z1, z2, z3, f0, f1, f2, f3, sR]) rfl ⟨rfl, .slice (some ⟨g, 0, none⟩) n cap,
        HST.out.apt (X := fun k => k = W.heap.size) ((((Apt.refl (fun k => k = W.heap.size) wc).setCell (p := ⟨W.heap.size, 0, none⟩) (.inl rfl) _).setCell (p := ⟨W.heap.size, 1, none⟩) (.inl rfl) _).setCell (p := ⟨W.heap.size, 2, none⟩) (.inl rfl) _ |>.setCell (p := ⟨W.heap.size, 3, none⟩) (.inl rfl) _) (fun k hk e => by
          rcases hk with rfl | rfl | hk
          · omega
          · omega
          · have := hgl k hk; omega),
        (((HC.out.2.2.2.setCell (p := ⟨W.heap.size, 0, none⟩) (.inr (Nat.le_refl _)) _).setCell (p := ⟨W.heap.size, 1, none⟩) (.inr (Nat.le_refl _)) _).setCell (p := ⟨W.heap.size, 2, none⟩) (.inr (Nat.le_refl _)) _).setCell (p := ⟨W.heap.size, 3, none⟩) (.inr (Nat.le_refl _)) _, rfl⟩

set_option maxRecDepth 100000 in
set_option maxHeartbeats 1000000 in
theorem push30_no {W : World} {B S M : Nat} {F : Value} {fs : List Fr} {most : Nat} (h : StkR W B S M F fs most) (r c k : Int) (hr : I64 r) (hc : I64 c) (hno : ¬ pushOk fs r c k) :
    Calls Try.prog 30 #[.pointer (some ⟨S, 0, none⟩), .agg #[.int .i64 r, .int .i64 c], .int .i64 k] W fun e W' => e = .returned (.int .i64 (pushErr fs r c k)) ∧ Below W.heap.size W W' := by
  have hb0 := ((Below.refl W.heap.size W).alloc (Nat.le_refl _) (.cells #[.int .i64 r, .int .i64 c] 27))
  have r0 := heap_alloc_new W (.cells #[.int .i64 r, .int .i64 c] 27)
  have hW0 : W.heap.size < (W.alloc (.cells #[.int .i64 r, .int .i64 c] 27)).heap.size := by simp
  have hst0 := h.below hb0
  have HR := Lib.hid hr
  have HC := Lib.hid hc
  clear hr hc h
  unfold pushErr
  cases hm : mayS r c
  · rw [if_pos rfl]
    clear hno
    go_enter Try.func30, Try.ntmps30
    go_wp2_with fail
    refine (may38 r c _).mono ?_
    rw [hm]
    rintro e w1 ⟨rfl, hb1⟩
    have HB := Lib.hid (hb0.trans (hb1.mono hb0.size))
    clear hb0 hb1
    go_wp2_with fail
    go_ret
    exact ⟨rfl, HB.out⟩
  · rw [if_neg (by simp)]
    by_cases hk : k = 1 ∨ k = 2
    · rw [if_neg (fun h2 => h2 hk)]
      have hp : (pos fs r c).isSome = true := by
        cases e : pos fs r c with
        | some i => rfl
        | none => exact absurd ⟨hm, hk, e⟩ hno
      have HKS := Lib.hid (kindS_of hk)
      clear hno hk
      go_enter Try.func30, Try.ntmps30
      go_wp2_with fail
      refine (may38 r c _).mono ?_
      rw [hm]
      rintro e w1 ⟨rfl, hb1⟩
      have hst1 := hst0.below hb1
      have hbb := hb0.trans (hb1.mono hb0.size)
      have r1 := (hb1.block _ hW0).trans r0
      have x0 : w1.cell? ⟨W.heap.size, 0, none⟩ = some (.int .i64 r) := by rw [cell_of_row _ _ _ _ _ _ r1]; rfl
      have x1 : w1.cell? ⟨W.heap.size, 1, none⟩ = some (.int .i64 c) := by rw [cell_of_row _ _ _ _ _ _ r1]; rfl
      clear hb0 hb1 r0 hst0 r1
      go_wp2_with fail
      refine (kind39 k _).mono ?_
      rw [HKS.out]
      rintro e w1' ⟨rfl, rfl⟩
      go_wp2_with fail
      refine (has36 hst1 r c HR.out HC.out).mono ?_
      rw [hp]
      rintro e w2 ⟨rfl, hb2⟩
      have HB := Lib.hid (hbb.trans (hb2.mono hbb.size))
      go_wp2_with fail
      go_ret
      exact ⟨rfl, HB.out⟩
    · rw [if_pos hk]
      have HKS := Lib.hid (kindS_no hk)
      clear hno hk
      go_enter Try.func30, Try.ntmps30
      go_wp2_with fail
      refine (may38 r c _).mono ?_
      rw [hm]
      rintro e w1 ⟨rfl, hb1⟩
      have HB := Lib.hid (hb0.trans (hb1.mono hb0.size))
      clear hb0 hb1
      go_wp2_with fail
      refine (kind39 k _).mono ?_
      rw [HKS.out]
      rintro e w1' ⟨rfl, rfl⟩
      go_wp2_with fail
      go_ret
      exact ⟨rfl, HB.out⟩

/-- A field of the top frame is set. -/
theorem StkR.top {W W' : World} {B S M g cap : Nat} {fs : List Fr} {f f' : Fr} {most : Nat} (h : StkR W B S M (.slice (some ⟨g, 0, none⟩) (fs.length + 1) cap) (fs ++ [f]) most) (er : f'.r = f.r) (ec : f'.c = f.c) (hfit : FitF f')
    (hrow : W'.ownsRow B 36 4 (.slice (some ⟨g, 0, none⟩) (fs.length + 1) cap) (fs.length + 1) (cellsF (fs ++ [f']))) (ha : Apt (fun k => k = g) W W') :
    StkR W' B S M (.slice (some ⟨g, 0, none⟩) (fs.length + 1) cap) (fs ++ [f']) most ∧ Apt (SX S M (.slice (some ⟨g, 0, none⟩) (fs.length + 1) cap)) W W' := by
  have hgS : S ≠ g := fun e => h.fS (by rw [e]; rfl)
  have hgM : M ≠ g := fun e => h.fM (by rw [e]; rfl)
  refine ⟨⟨?_, ?_, ?_, h.sm, h.fS, h.fM, h.bS, h.bM, ?_, fun x hx => ?_, ?_⟩, ha.more (fun k _ e => .inr (.inr (by rw [e]; rfl)))⟩
  · exact (ha.block S h.lt.1 hgS).trans h.blk
  · rw [List.length_append, List.length_singleton]
    exact hrow
  · have := ha.map h.map hgM
    rw [List.length_append, List.length_singleton] at this ⊢
    rwa [posR_same fs f' f er ec]
  · have := Uq.snoc.1 h.uq
    exact Uq.snoc.2 (by rw [er, ec]; exact this)
  · rcases List.mem_append.1 hx with hx | hx
    · exact h.ft x (by simp [hx])
    · rw [List.mem_singleton] at hx
      subst hx
      exact hfit
  · have := h.mo
    rw [List.length_append, List.length_singleton] at this ⊢
    exact this
theorem Stk.top {W W' : World} {B S M g cap : Nat} {fs : List Fr} {f f' : Fr} {most : Nat} (h : Stk W B S M (.slice (some ⟨g, 0, none⟩) (fs.length + 1) cap) (fs ++ [f]) most) (er : f'.r = f.r) (ec : f'.c = f.c) (hfit : FitF f')
    (hrow : W'.ownsRow B 36 4 (.slice (some ⟨g, 0, none⟩) (fs.length + 1) cap) (fs.length + 1) (cellsF (fs ++ [f']))) (ha : Apt (fun k => k = g) W W') :
    Stk W' B S M (.slice (some ⟨g, 0, none⟩) (fs.length + 1) cap) (fs ++ [f']) most ∧ Apt (SX S M (.slice (some ⟨g, 0, none⟩) (fs.length + 1) cap)) W W' := by
  have hgS : S ≠ g := fun e => h.fS (by rw [e]; rfl)
  have hgM : M ≠ g := fun e => h.fM (by rw [e]; rfl)
  refine ⟨⟨?_, ?_, ?_, h.sm, h.fS, h.fM, h.bS, h.bM, ?_, fun x hx => ?_, ?_⟩, ha.more (fun k _ e => .inr (.inr (by rw [e]; rfl)))⟩
  · exact (ha.block S h.lt.1 hgS).trans h.blk
  · rw [List.length_append, List.length_singleton]
    exact hrow
  · have := ha.map h.map hgM
    rw [List.length_append, List.length_singleton] at this ⊢
    rwa [pos_same fs f' f er ec]
  · have := Uq.snoc.1 h.uq
    exact Uq.snoc.2 (by rw [er, ec]; exact this)
  · rcases List.mem_append.1 hx with hx | hx
    · exact h.ft x (by simp [hx])
    · rw [List.mem_singleton] at hx
      subst hx
      exact hfit
  · have := h.mo
    rw [List.length_append, List.length_singleton] at this ⊢
    exact this
theorem set_kind (gs : List Fr) (f : Fr) (k : Int) : ((cellsF (gs ++ [f])).set (gs.length * 4 + 2) (.int .i64 k)).set (gs.length * 4 + 3) (.int .i64 0) = cellsF (gs ++ [{ f with k := k, x := 0 }]) := by
  rw [cellsF_app, cellsF_app, List.set_append_right _ _ (by rw [cellsF_len]; omega), List.set_append_right _ _ (by rw [cellsF_len]; omega), cellsF_len, show gs.length * 4 + 2 - gs.length * 4 = 2 by omega, show gs.length * 4 + 3 - gs.length * 4 = 3 by omega]
  rfl
set_option maxHeartbeats 1000000 in
theorem next33_some {W : World} {B S M : Nat} {F : Value} {fs : List Fr} {f : Fr} {most : Nat} (h : StkR W B S M F (fs ++ [f]) most) (i : Int) (h0 : 0 ≤ i) (h1 : i ≤ 9223372036854775807) :
    Calls Try.prog 33 #[.pointer (some ⟨S, 0, none⟩), .int .i64 i] W fun e W' => e = .returned (.int .i64 0) ∧ StkR W' B S M F (fs ++ [{ f with x := i }]) most ∧ Apt (SX S M F) W W' := by
  obtain ⟨n, hn⟩ : ∃ n, fs.length = n := ⟨_, rfl⟩
  have hlen : (fs ++ [f]).length = n + 1 := by simp [hn]
  have hrow := h.row
  rw [hlen] at hrow
  obtain ⟨g, cap, hF⟩ := slice_form hrow
  subst hF
  obtain ⟨d0, d1, d2⟩ := cellsT h.blk
  obtain ⟨c0, c1, c2, c3⟩ := own_frame (f := f) hrow (i := n) (by simp [← hn])
  have hz : W.frozen? ⟨g, n * 4 + 3, none⟩ = false := hrow.frozenAt _
  have hst := World.ownsRow.stored hrow (n * 4 + 3) (.int .i64 i)
  rw [← hn, set_cells] at hst
  have hmo := h.mo
  rw [hlen] at hmo
  have hn1 : (n : Int) + 1 - 1 = (n : Int) := by omega
  have hn2 : ¬ i < 0 := by omega
  have H := Lib.hid (And.intro h hst)
  clear h hst hrow d1 d2 c0 c1 c2
  go_enter Try.func33, Try.ntmps33
  go_wp2_with fail
  go_region
  all_goals
    go_wp2_with fail
    go_ret
    obtain ⟨h, hst⟩ := H.out
    have hag : Apt (fun k => k = g) W (W.setCell ⟨g, n * 4 + 3, none⟩ (.int .i64 i)).drew := (Apt.setCell (X := fun k => k = g) (p := ⟨g, n * 4 + 3, none⟩) (Apt.refl _ W) (.inl rfl) _).drew
    subst hn
    have hft := h.ft f (by simp)
    refine ⟨rfl, h.top rfl rfl ⟨hft.1, hft.2.1, h0, h1⟩ hst.1.drew hag⟩

set_option maxHeartbeats 1000000 in
theorem kind34_some {W : World} {B S M : Nat} {F : Value} {fs : List Fr} {f : Fr} {most : Nat} (h : Stk W B S M F (fs ++ [f]) most) (i : Int) (h0 : i = 1 ∨ i = 2) :
    Calls Try.prog 34 #[.pointer (some ⟨S, 0, none⟩), .int .i64 i] W fun e W' => e = .returned (.int .i64 0) ∧ Stk W' B S M F (fs ++ [{ f with k := i, x := 0 }]) most ∧ Apt (SX S M F) W W' := by
  obtain ⟨n, hn⟩ : ∃ n, fs.length = n := ⟨_, rfl⟩
  have hlen : (fs ++ [f]).length = n + 1 := by simp [hn]
  have hrow := h.row
  rw [hlen] at hrow
  obtain ⟨g, cap, hF⟩ := slice_form hrow
  subst hF
  obtain ⟨d0, d1, d2⟩ := cellsT h.blk
  obtain ⟨c0, c1, c2, c3⟩ := own_frame (f := f) hrow (i := n) (by simp [← hn])
  have hz2 : W.frozen? ⟨g, n * 4 + 2, none⟩ = false := hrow.frozenAt _
  have hz3 : W.frozen? ⟨g, n * 4 + 3, none⟩ = false := hrow.frozenAt _
  have hst := World.ownsRow.stored (World.ownsRow.stored hrow (n * 4 + 2) (.int .i64 i)).1 (n * 4 + 3) (.int .i64 0)
  rw [← hn, set_kind] at hst
  have hmo := h.mo
  rw [hlen] at hmo
  have hn1 : (n : Int) + 1 - 1 = (n : Int) := by omega
  have H := Lib.hid (And.intro h hst)
  have H0 := Lib.hid h0
  have hk1 : (i != 1) = false ∨ ((i != 1) = true ∧ (i != 2) = false) := by rcases h0 with rfl | rfl <;> simp
  clear h hst hrow d1 d2 c0 c1 h0
  rcases hk1 with hk1 | ⟨hk1, hk2⟩
  all_goals
    go_enter Try.func34, Try.ntmps34
    go_wp2_with fail
    go_region
    all_goals
      go_wp2_with fail
      go_ret
      obtain ⟨h, hst⟩ := H.out
      have hag : Apt (fun k => k = g) W ((W.setCell ⟨g, n * 4 + 2, none⟩ (.int .i64 i)).setCell ⟨g, n * 4 + 3, none⟩ (.int .i64 0)).drew := ((Apt.setCell (X := fun k => k = g) (p := ⟨g, n * 4 + 2, none⟩) (Apt.refl _ W) (.inl rfl) _).setCell (p := ⟨g, n * 4 + 3, none⟩) (.inl rfl) _).drew
      subst hn
      have hft := h.ft f (by simp)
      refine ⟨rfl, h.top rfl rfl ⟨hft.1, H0.out, by show (0 : Int) ≤ 0; decide, by show (0 : Int) ≤ 9223372036854775807; decide⟩ hst.1.drew hag⟩
set_option maxHeartbeats 1000000 in
theorem kind35_some {W : World} {B S M : Nat} {F : Value} {fs : List Fr} {f : Fr} {most : Nat} (h : StkR W B S M F (fs ++ [f]) most) (i : Int) (h0 : i = 1 ∨ i = 2) :
    Calls Try.prog 35 #[.pointer (some ⟨S, 0, none⟩), .int .i64 i] W fun e W' => e = .returned (.int .i64 0) ∧ StkR W' B S M F (fs ++ [{ f with k := i, x := 0 }]) most ∧ Apt (SX S M F) W W' := by
  obtain ⟨n, hn⟩ : ∃ n, fs.length = n := ⟨_, rfl⟩
  have hlen : (fs ++ [f]).length = n + 1 := by simp [hn]
  have hrow := h.row
  rw [hlen] at hrow
  obtain ⟨g, cap, hF⟩ := slice_form hrow
  subst hF
  obtain ⟨d0, d1, d2⟩ := cellsT h.blk
  obtain ⟨c0, c1, c2, c3⟩ := own_frame (f := f) hrow (i := n) (by simp [← hn])
  have hz2 : W.frozen? ⟨g, n * 4 + 2, none⟩ = false := hrow.frozenAt _
  have hz3 : W.frozen? ⟨g, n * 4 + 3, none⟩ = false := hrow.frozenAt _
  have hst := World.ownsRow.stored (World.ownsRow.stored hrow (n * 4 + 2) (.int .i64 i)).1 (n * 4 + 3) (.int .i64 0)
  rw [← hn, set_kind] at hst
  have hmo := h.mo
  rw [hlen] at hmo
  have hn1 : (n : Int) + 1 - 1 = (n : Int) := by omega
  have hSg : S ≠ g := fun e => h.fS (by rw [e]; rfl)
  have H := Lib.hid (And.intro h hst)
  have H0 := Lib.hid h0
  have HKS := Lib.hid (kindS_of h0)
  clear h hst hrow d1 d2 c0 c1 h0
  go_enter Try.func35, Try.ntmps35
  go_wp2_with fail
  refine (kind39 i _).mono ?_
  rw [HKS.out]
  rintro e w1' ⟨rfl, rfl⟩
  go_wp2_with fail
  go_region
  all_goals
    go_wp2_with fail
    go_region
    all_goals
      go_wp2_with fail
      go_ret
      obtain ⟨h, hst⟩ := H.out
      have hag : Apt (fun k => k = g) W ((W.setCell ⟨g, n * 4 + 2, none⟩ (.int .i64 i)).setCell ⟨g, n * 4 + 3, none⟩ (.int .i64 0)).drew.drew := ((Apt.setCell (X := fun k => k = g) (p := ⟨g, n * 4 + 2, none⟩) (Apt.refl _ W) (.inl rfl) _).setCell (p := ⟨g, n * 4 + 3, none⟩) (.inl rfl) _).drew.drew
      subst hn
      have hft := h.ft f (by simp)
      refine ⟨rfl, h.top rfl rfl ⟨hft.1, H0.out, by show (0 : Int) ≤ 0; decide, by show (0 : Int) ≤ 9223372036854775807; decide⟩ hst.1.drew.drew hag⟩

/-- Next and Kind where nothing is turned. -/
def nextErr (fs : List Fr) : Int := if fs.length = 0 then 3 else 1
set_option maxHeartbeats 1000000 in
theorem next25_no {W : World} {B S M : Nat} {F : Value} {fs : List Fr} {most : Nat} (h : Stk W B S M F fs most) (i : Int) (hno : fs.length = 0 ∨ i < 0) :
    Calls Try.prog 25 #[.pointer (some ⟨S, 0, none⟩), .int .i64 i] W fun e W' => e = .returned (.int .i64 (nextErr fs)) ∧ Below W.heap.size W W' := by
  obtain ⟨d0, d1, d2⟩ := cellsT h.blk
  obtain ⟨ao, cap, rfl⟩ := row_any h.row
  unfold nextErr
  generalize fs.length = n at *
  clear h d1 d2
  by_cases h0 : n = 0
  · subst h0
    rw [if_pos rfl]
    clear hno
    go_enter Try.func25, Try.ntmps25
    go_wp2_with fail
    go_ret
    exact ⟨rfl, Below.refl _ _⟩
  · rw [if_neg h0]
    have h1 : i < 0 := hno.resolve_left h0
    clear hno
    go_enter Try.func25, Try.ntmps25
    go_wp2_with fail
    go_ret
    exact ⟨rfl, Below.refl _ _⟩
set_option maxHeartbeats 1000000 in
theorem next33_no {W : World} {B S M : Nat} {F : Value} {fs : List Fr} {most : Nat} (h : StkR W B S M F fs most) (i : Int) (hno : fs.length = 0 ∨ i < 0) :
    Calls Try.prog 33 #[.pointer (some ⟨S, 0, none⟩), .int .i64 i] W fun e W' => e = .returned (.int .i64 (nextErr fs)) ∧ Below W.heap.size W W' := by
  obtain ⟨d0, d1, d2⟩ := cellsT h.blk
  obtain ⟨ao, cap, rfl⟩ := row_any h.row
  unfold nextErr
  generalize fs.length = n at *
  clear h d1 d2
  by_cases h0 : n = 0
  · subst h0
    rw [if_pos rfl]
    clear hno
    go_enter Try.func33, Try.ntmps33
    go_wp2_with fail
    go_ret
    exact ⟨rfl, Below.refl _ _⟩
  · rw [if_neg h0]
    have h1 : i < 0 := hno.resolve_left h0
    clear hno
    go_enter Try.func33, Try.ntmps33
    go_wp2_with fail
    go_ret
    exact ⟨rfl, Below.refl _ _⟩
set_option maxHeartbeats 1000000 in
theorem kind34_no {W : World} {B S M : Nat} {F : Value} {fs : List Fr} {most : Nat} (h : Stk W B S M F fs most) (i : Int) (hno : fs.length = 0 ∨ ¬ (i = 1 ∨ i = 2)) :
    Calls Try.prog 34 #[.pointer (some ⟨S, 0, none⟩), .int .i64 i] W fun e W' => e = .returned (.int .i64 (nextErr fs)) ∧ Below W.heap.size W W' := by
  obtain ⟨d0, d1, d2⟩ := cellsT h.blk
  obtain ⟨ao, cap, rfl⟩ := row_any h.row
  unfold nextErr
  generalize fs.length = n at *
  clear h d1 d2
  by_cases h0 : n = 0
  · subst h0
    rw [if_pos rfl]
    clear hno
    go_enter Try.func34, Try.ntmps34
    go_wp2_with fail
    go_ret
    exact ⟨rfl, Below.refl _ _⟩
  · rw [if_neg h0]
    have h1 := hno.resolve_left h0
    have hk1 : (i != 1) = true := bne_iff_ne.2 (fun e => h1 (.inl e))
    have hk2 : (i != 2) = true := bne_iff_ne.2 (fun e => h1 (.inr e))
    clear hno h1
    go_enter Try.func34, Try.ntmps34
    go_wp2_with fail
    go_ret
    exact ⟨rfl, Below.refl _ _⟩
set_option maxHeartbeats 1000000 in
theorem kind35_no {W : World} {B S M : Nat} {F : Value} {fs : List Fr} {most : Nat} (h : StkR W B S M F fs most) (i : Int) (hno : fs.length = 0 ∨ ¬ (i = 1 ∨ i = 2)) :
    Calls Try.prog 35 #[.pointer (some ⟨S, 0, none⟩), .int .i64 i] W fun e W' => e = .returned (.int .i64 (nextErr fs)) ∧ Below W.heap.size W W' := by
  obtain ⟨d0, d1, d2⟩ := cellsT h.blk
  obtain ⟨ao, cap, rfl⟩ := row_any h.row
  unfold nextErr
  generalize fs.length = n at *
  clear h d1 d2
  by_cases h0 : n = 0
  · subst h0
    rw [if_pos rfl]
    clear hno
    go_enter Try.func35, Try.ntmps35
    go_wp2_with fail
    go_ret
    exact ⟨rfl, Below.refl _ _⟩
  · rw [if_neg h0]
    have HKS := Lib.hid (kindS_no (hno.resolve_left h0))
    clear hno
    go_enter Try.func35, Try.ntmps35
    go_wp2_with fail
    refine (kind39 i _).mono ?_
    rw [HKS.out]
    rintro e w1' ⟨rfl, rfl⟩
    go_wp2_with fail
    go_ret
    exact ⟨rfl, Below.refl _ _⟩

set_option maxHeartbeats 1000000 in
theorem from37_none {W : World} {B S M : Nat} {F : Value} {fs : List Fr} {most : Nat} (h : StkR W B S M F fs most) (r c : Int) (hr : I64 r) (hc : I64 c) (hp : pos fs r c = none) :
    Calls Try.prog 37 #[.pointer (some ⟨S, 0, none⟩), .agg #[.int .i64 r, .int .i64 c]] W fun e W' => e = .returned (.tuple #[.slice none 0 0, .int .i64 3]) ∧ Below W.heap.size W W' := by
  have hb1 := ((Below.refl W.heap.size W).alloc (Nat.le_refl _) (.cells #[.int .i64 r, .int .i64 c] 27))
  have hst := h.below hb1
  have hr0 := heap_alloc_new W (.cells #[.int .i64 r, .int .i64 c] 27)
  have hc0 : (W.alloc (.cells #[.int .i64 r, .int .i64 c] 27)).cell? ⟨W.heap.size, 0, none⟩ = some (.int .i64 r) := by rw [cell_of_row _ _ _ _ _ _ hr0]; rfl
  have hc1 : (W.alloc (.cells #[.int .i64 r, .int .i64 c] 27)).cell? ⟨W.heap.size, 1, none⟩ = some (.int .i64 c) := by rw [cell_of_row _ _ _ _ _ _ hr0]; rfl
  have HF := Lib.hid (find40 hst r c hr hc)
  have HB := Lib.hid hb1
  clear hst hr0 hb1 h
  go_enter Try.func37, Try.ntmps37
  go_wp2_with fail
  refine HF.out.mono ?_
  rw [hp]
  rintro e w1 ⟨rfl, hb2⟩
  have HB2 := Lib.hid (HB.out.trans (hb2.mono HB.out.size))
  clear hb2
  simp only [Option.getD_none]
  go_wp2_with fail
  go_ret2
  exact ⟨rfl, HB2.out⟩
set_option maxHeartbeats 1000000 in
theorem from37_some {W : World} {B S M : Nat} {F : Value} {fs : List Fr} {most : Nat} (h : StkR W B S M F fs most) (r c : Int) (hr : I64 r) (hc : I64 c) (j : Nat) (hp : pos fs r c = some (j : Int)) :
    Calls Try.prog 37 #[.pointer (some ⟨S, 0, none⟩), .agg #[.int .i64 r, .int .i64 c]] W fun e W' => ∃ v', e = .returned (.tuple #[v', .int .i64 0]) ∧ W'.ownsRow W.heap.size 36 4 v' (fs.length - j) (cellsF (fs.drop j)) ∧ Below W.heap.size W W' := by
  obtain ⟨i0, hi, hz0, hz1, hz2⟩ := info_parts info36
  have hb1 := ((Below.refl W.heap.size W).alloc (Nat.le_refl _) (.cells #[.int .i64 r, .int .i64 c] 27))
  have hst := h.below hb1
  have hr0 := heap_alloc_new W (.cells #[.int .i64 r, .int .i64 c] 27)
  have hc0 : (W.alloc (.cells #[.int .i64 r, .int .i64 c] 27)).cell? ⟨W.heap.size, 0, none⟩ = some (.int .i64 r) := by rw [cell_of_row _ _ _ _ _ _ hr0]; rfl
  have hc1 : (W.alloc (.cells #[.int .i64 r, .int .i64 c] 27)).cell? ⟨W.heap.size, 1, none⟩ = some (.int .i64 c) := by rw [cell_of_row _ _ _ _ _ _ hr0]; rfl
  have hjl := pos_le hp
  have HF := Lib.hid (find40 hst r c hr hc)
  have HB := Lib.hid hb1
  have hl : fs.length ≤ 1000000000 := by have := h.mo; omega
  have hdl : (fs.drop j).length = fs.length - j := by simp
  clear hr0 hb1 h
  go_enter Try.func37, Try.ntmps37
  go_wp2_with fail
  refine HF.out.mono ?_
  rw [hp]
  rintro e w1 ⟨rfl, hb2⟩
  have hst1 := hst.below hb2
  have HB2 := Lib.hid (HB.out.trans (hb2.mono HB.out.size))
  clear hb2 hst
  simp only [Option.getD_some]
  obtain ⟨d0, _, _⟩ := cellsT hst1.blk
  have hrow := hst1.row
  obtain ⟨g, cap, hnc, hF⟩ := (row_cases hrow).resolve_left (fun e => by have := e.2; omega)
  subst hF
  have HS := Lib.hid (src_drop hrow j (by omega))
  have hne : ¬ cap = j := by omega
  have hj0 : (0 : Int) ≤ (j : Int) := by omega
  have hj1 : (j : Int) ≤ (fs.length : Int) := by omega
  have hj2 : (fs.length : Int) ≤ (cap : Int) := by omega
  have hj3 : j ≤ fs.length := by omega
  have hj4 : fs.length ≤ cap := hnc
  have hWl : W.heap.size ≤ w1.heap.size := HB2.out.size
  clear hst1 hrow hp hnc
  go_wp2_with (at_builtin; refine wpList_append_any rfl _ _ 30 rfl W.heap.size 36 i0 _ 4 32 Try.underlying30 hi hz0 hz1 hz2 rfl (by decide) (.slice none 0 0) 0 [] rfl (World.ownsRow_nil _ _ _ _) (some ⟨g, j * 4, none⟩) (fs.length - j) (cap - j) (cellsF (fs.drop j)) rfl (fun h => by cases h) (by rw [cellsF_len, hdl]) HS.out (cellsF_one _) (by unfold maxLen; omega) (by omega) hWl ?_)
  intro v' w' hown hgrow
  try simp only [Nat.zero_add, List.nil_append] at hown
  have hb : Below W.heap.size W w' := HB2.out.grown hgrow hWl (fun k hk => by cases hk)
  have HO := Lib.hid (And.intro hown hb)
  clear hown hgrow hb
  go_wp2_with fail
  go_ret2
  exact ⟨_, rfl, HO.out.1, HO.out.2⟩

set_option maxHeartbeats 1000000 in
theorem clear23 {W : World} {B S M : Nat} {F : Value} {fs : List Fr} {most : Nat} (h : StkR W B S M F fs most) :
    Calls Try.prog 23 #[.pointer (some ⟨S, 0, none⟩)] W fun e W' => ∃ v' M', e = .returned v' ∧ W'.ownsRow W.heap.size 36 4 v' fs.length (cellsF fs) ∧ StkR W' B S M' (.slice none 0 0) [] most ∧ W.heap.size ≤ M' ∧ v'.ownBlock ≠ some M' ∧ Apt (fun k => k = S) W W' := by
  have hS := h.lt.1
  have HA := Lib.hid (allR22 h)
  have H := Lib.hid h
  clear h
  have hmm := @run_makeMap Try.prog
  go_enter Try.func23, Try.ntmps23
  go_wp2_with fail
  refine HA.out.mono ?_
  rintro e w1 ⟨v', rfl, hown, hb⟩
  have hst1 := H.out.below hb
  obtain ⟨d0, d2, d1⟩ := cellsT hst1.blk
  have hz0 := row_froz hst1.blk 0
  have hz2 := row_froz hst1.blk 2
  have hs1 : S < w1.heap.size := hst1.lt.1
  have hsz1 : W.heap.size ≤ w1.heap.size := hb.size
  have HH := Lib.hid (And.intro hown (And.intro hb hst1))
  clear hown hb hst1
  go_wp2_with fail
  go_ret
  obtain ⟨hown, hb, hst1⟩ := HH.out
  have hsetX := row_set (row_set hst1.blk 0 (.slice none 0 0)) 2 (.map (some w1.heap.size))
  have aX : Apt (fun k => k = S) w1 ((w1.setCell ⟨S, 0, none⟩ (.slice none 0 0)).setCell ⟨S, 2, none⟩ (.map (some w1.heap.size))) := (Apt.setCell (X := fun k => k = S) (p := ⟨S, 0, none⟩) (Apt.refl _ w1) (.inl rfl) _).setCell (p := ⟨S, 2, none⟩) (.inl rfl) _
  have hmX := map_made ((w1.setCell ⟨S, 0, none⟩ (.slice none 0 0)).setCell ⟨S, 2, none⟩ (.map (some w1.heap.size)))
  have hsX : ((w1.setCell ⟨S, 0, none⟩ (.slice none 0 0)).setCell ⟨S, 2, none⟩ (.map (some w1.heap.size))).heap.size = w1.heap.size := by simp [World.setCell]
  rw [hsX] at hmX
  refine ⟨v', w1.heap.size, rfl, (aX.alloc _).row hown (fun k hk e => by have := (hown.lt k hk).1; omega), ⟨?_, World.ownsRow_nil _ _ _ _, hmX, by omega, by simp [Value.ownBlock], by simp [Value.ownBlock], H.out.bS, by have := H.out.bS; omega, .nil, fun f hf => by simp at hf, by have := H.out.mo; simp; omega⟩, hsz1, fun e => by have := (hown.lt _ e).2; omega, (apt_below hb).trans (aX.alloc _)⟩
  have h1 := (Below.heap_alloc ((w1.setCell ⟨S, 0, none⟩ (.slice none 0 0)).setCell ⟨S, 2, none⟩ (.map (some w1.heap.size))) (.map #[] 0) S (by omega)).trans hsetX
  simpa using h1
end Go.Proofs.Ytfbmfcipaikaoaa
