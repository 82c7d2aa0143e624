/- Pop, Clear and Next. -/
import Derived.Test.YtfbmfcipaikaoaaWrites
import Derived.Deep.DeepMust
namespace Go.Proofs.Ytfbmfcipaikaoaa
set_option linter.unusedVariables false
set_option linter.unusedSimpArgs false
open Go.RowKit Go.Maps

set_option maxHeartbeats 1000000 in
theorem clear14 {W : World} {B S M : Nat} {F : Value} {fs : List Fr} {most : Nat} (h : Stk W B S M F fs most) :
    Calls Try.prog 14 #[.pointer (some ⟨S, 0, none⟩)] W fun e W' => e = .returned F ∧ Stk W' B S M (.slice none 0 0) [] most ∧ Apt (fun k => k = S ∨ k = M) W W' ∧ W'.ownsRow B 36 4 F fs.length (cellsF fs) := by
  obtain ⟨d0, d1, d2⟩ := cellsT h.blk
  have hz := row_froz h.blk 0
  have hset := row_set h.blk 0 (.slice none 0 0)
  have hS := h.lt.1
  have hs1 : (W.setCell ⟨S, 0, none⟩ (.slice none 0 0)).cell? ⟨S, 1, none⟩ = some (.map (some M)) := by rw [cell_of_row _ _ _ _ _ _ hset]; rfl
  have ha1 : Apt (fun k => k = S) W (W.setCell ⟨S, 0, none⟩ (.slice none 0 0)) := Apt.setCell (X := fun k => k = S) (p := ⟨S, 0, none⟩) (Apt.refl _ _) (.inl rfl) _
  have hm1 := ha1.map h.map (fun e => h.sm e.symm)
  obtain ⟨w3, hrun, hmap3, hg3⟩ := hm1.clear 0
  have hclr : ∀ ty, (Builtin.clear_ #[60] ty #[.map (some M)]).run Try.prog (W.setCell ⟨S, 0, none⟩ (.slice none 0 0)) = .ok (.tuple #[]) w3 := fun ty => hrun
  have H := Lib.hid (And.intro h (And.intro hset (And.intro ha1 (And.intro hmap3 hg3))))
  clear h hset ha1 hm1 hmap3 hg3 d1 d2 hrun
  go_enter Try.func14, Try.ntmps14
  go_wp2_with fail
  go_ret
  obtain ⟨h, hset, ha1, hmap3, hg3⟩ := H.out
  have ha3 : Apt (fun k => k = S ∨ k = M) W w3 := (ha1.more (fun k _ e => .inl e)).grown hg3 (fun k e => by cases e; exact .inl (.inr rfl))
  refine ⟨rfl, ⟨?_, World.ownsRow_nil _ _ _ _, hmap3, h.sm, by simp [Value.ownBlock], by simp [Value.ownBlock], h.bS, h.bM, .nil, fun f hf => by simp at hf, by have := h.mo; simp; omega⟩, ha3, ?_⟩
  · rw [hg3.block S (by simpa [World.setCell] using h.lt.1) (by simp; exact h.sm)]
    simpa using hset
  · refine ha3.row h.row (fun k e e2 => ?_)
    rcases e2 with rfl | rfl
    · exact h.fS e
    · exact h.fM e

set_option maxHeartbeats 1000000 in
theorem pop13_none {W : World} {B S M : Nat} {F : Value} {most : Nat} (h : Stk W B S M F [] most) :
    Calls Try.prog 13 #[.pointer (some ⟨S, 0, none⟩)] W fun e W' => e = .returned (.tuple #[frV zeroF, .int .i64 3]) ∧ Below W.heap.size W W' := by
  have hb0 := ((Below.refl W.heap.size W).alloc (Nat.le_refl _) (.cells #[.int .i64 0, .int .i64 0, .int .i64 0, .int .i64 0] 36))
  have r0 := heap_alloc_new W (.cells #[.int .i64 0, .int .i64 0, .int .i64 0, .int .i64 0] 36)
  have hst := h.below hb0
  have hW0 := (Array.getElem?_eq_some_iff.1 r0).1
  clear h
  go_enter Try.func13, Try.ntmps13
  go_wp2_with fail
  refine (top16 hst).mono ?_
  rw [topF_nil]
  rintro e w1 ⟨rfl, hb1⟩
  have r1 := (hb1.block _ hW0).trans r0
  have hb2 := (hb0.trans (hb1.mono hb0.size)).alloc (Nat.le_trans hb0.size hb1.size) (.cells #[.int .i64 0, .int .i64 0, .int .i64 0, .int .i64 0] 36)
  have r2 := (Below.heap_alloc w1 (.cells #[.int .i64 0, .int .i64 0, .int .i64 0, .int .i64 0] 36) W.heap.size (Array.getElem?_eq_some_iff.1 r1).1).trans r1
  obtain ⟨z0, z1, z2, z3⟩ := cells4 r2
  have f0 := row_froz r2 0
  have f1 := row_froz r2 1
  have f2 := row_froz r2 2
  have f3 := row_froz r2 3
  have sR := (Array.getElem?_eq_some_iff.1 r2).1
  have HB := Lib.hid hb2
  clear hst hb0 hb1 hb2 r0 r1 r2 hW0
  simp only [frV, zeroF]
  go_wp2_with fail
  exact bodyPost_ret (v := .tuple #[frV zeroF, .int .i64 3]) (by simp [results, Try.results13, go_sem, frV, zeroF, z0, z1, z2, z3, f0, f1, f2, f3]) rfl ⟨rfl, ((((HB.out.setCell (p := ⟨W.heap.size, 0, none⟩) (Nat.le_refl _) _).setCell (p := ⟨W.heap.size, 1, none⟩) (Nat.le_refl _) _).setCell (p := ⟨W.heap.size, 2, none⟩) (Nat.le_refl _) _).setCell (p := ⟨W.heap.size, 3, none⟩) (Nat.le_refl _) _)⟩

/-- A row that is cut shorter. -/
theorem own_shrink {w : World} {B g cap n m : Nat} {e : TypeId} {size : Nat} {xs ys : List Value} (h : w.ownsRow B e size (.slice (some ⟨g, 0, none⟩) n cap) n (xs ++ ys)) (hm : m ≤ n) (hx : xs.length = m * size) : w.ownsRow B e size (.slice (some ⟨g, 0, none⟩) m cap) m xs := by
  refine ⟨hx, ?_⟩
  rcases h.2 with ⟨e1, _⟩ | ⟨g', cap', cur, e1, h1, h2, h3, h4, h5, h6⟩
  · cases e1
  · obtain ⟨rfl, rfl⟩ : g = g' ∧ cap = cap' := by simpa using e1
    refine .inr ⟨g, cap, cur, rfl, h1, h2, by omega, h4, h5, ?_⟩
    have h7 := congrArg (List.take (m * size)) h6
    rw [List.take_take, List.take_append_of_le_length (by omega), Nat.min_eq_left (Nat.mul_le_mul_right _ hm)] at h7
    rw [h7]
    exact List.take_of_length_le (by omega)

set_option maxRecDepth 100000 in
set_option maxHeartbeats 2000000 in
theorem pop13_some {W : World} {B S M : Nat} {F : Value} {fs : List Fr} {f : Fr} {most : Nat} (h : Stk W B S M F (fs ++ [f]) most) :
    Calls Try.prog 13 #[.pointer (some ⟨S, 0, none⟩)] W fun e W' => e = .returned (.tuple #[frV f, .int .i64 0]) ∧ ∃ F', Stk W' B S M F' fs most ∧ Apt (SX S M F) W W' ∧ F'.ownBlock = F.ownBlock := by
  have hb0 := ((Below.refl W.heap.size W).alloc (Nat.le_refl _) (.cells #[.int .i64 0, .int .i64 0, .int .i64 0, .int .i64 0] 36))
  have r0 := heap_alloc_new W (.cells #[.int .i64 0, .int .i64 0, .int .i64 0, .int .i64 0] 36)
  have hst := h.below hb0
  have hW0 := (Array.getElem?_eq_some_iff.1 r0).1
  have hft := h.ft f (by simp)
  have huq := Uq.snoc.1 h.uq
  have HF := Lib.hid (And.intro hft huq)
  have hlt := h.lt
  have hgl := fun k hk => (h.row.lt k hk).2
  have hmo := h.mo
  rw [List.length_append, List.length_singleton] at hmo
  clear h hft huq
  go_enter Try.func13, Try.ntmps13
  go_wp2_with fail
  refine (top16 hst).mono ?_
  rw [topF_snoc]
  rintro e w1 ⟨rfl, hb1⟩
  have r1 := (hb1.block _ hW0).trans r0
  have hs1 := (Array.getElem?_eq_some_iff.1 r1).1
  have hbo := (Below.refl w1.heap.size w1).alloc (Nat.le_refl _) (.cells #[.int .i64 f.r, .int .i64 f.c, .int .i64 f.k, .int .i64 f.x] 36)
  have rT := heap_alloc_new w1 (.cells #[.int .i64 f.r, .int .i64 f.c, .int .i64 f.k, .int .i64 f.x] 36)
  have hst2 := (hst.below hb1).below hbo
  have hb2 := (hb0.trans (hb1.mono hb0.size)).trans (hbo.mono (Nat.le_trans hb0.size hb1.size))
  have r2 := (hbo.block _ hs1).trans r1
  simp only [frV]
  go_wp2_with fail
  obtain ⟨X, hX⟩ : ∃ X, w1.alloc (.cells #[.int .i64 f.r, .int .i64 f.c, .int .i64 f.k, .int .i64 f.x] 36) = X := ⟨_, rfl⟩
  have hTX : w1.heap.size < X.heap.size := by rw [← hX]; simp
  rw [hX] at rT hst2 hb2 r2 ⊢
  obtain ⟨T, hT⟩ : ∃ T, w1.heap.size = T := ⟨_, rfl⟩
  have hTW : W.heap.size < T := by omega
  rw [hT] at rT hTX ⊢
  clear hX hT hbo hb1 r1 hst r0 hW0 hs1 hb0
  obtain ⟨n, hn⟩ : ∃ n, fs.length = n := ⟨_, rfl⟩
  have hlen : (fs ++ [f]).length = n + 1 := by simp [hn]
  have hrow := hst2.row
  rw [hlen] at hrow
  obtain ⟨g, cap, hF⟩ := slice_form hrow
  subst hF
  obtain ⟨d0, d1, d2⟩ := cellsT hst2.blk
  obtain ⟨t0, t1, t2, t3⟩ := cells4 rT
  obtain ⟨w3, hrun, hmap3, hg3⟩ := MapAt.drop (W := X.drew) hst2.map (r := f.r) (c := f.c) (i := (n : Int)) HF.out.1.1.1 HF.out.1.1.2 (by rw [pos_snoc, HF.out.2.2]; simp [At, hn]) 0
  have hdel : ∀ ty, (Builtin.delete_ #[60, 27] ty #[.map (some M), .agg #[.int .i64 f.r, .int .i64 f.c]]).run Try.prog X.drew = .ok (.tuple #[]) w3 := fun ty => hrun
  rw [hlen, pos_del fs f HF.out.2.2] at hmap3
  have hmS : M ≠ S := hst2.sm.symm
  have hSX := hst2.lt.1
  have hMT : M ≠ T := by omega
  have hblk3 : w3.heap[S]? = some (.cells #[.slice (some ⟨g, 0, none⟩) (n + 1) cap, .map (some M), .int .i64 most] 62 (0, 0)) := (hg3.block S hSX (by simp; exact hst2.sm)).trans hst2.blk
  have rT3 : w3.heap[T]? = some (.cells #[.int .i64 f.r, .int .i64 f.c, .int .i64 f.k, .int .i64 f.x] 36 (0, 0)) := (hg3.block T hTX (by simp; omega)).trans rT
  have r3 : w3.heap[W.heap.size]? = some (.cells #[.int .i64 0, .int .i64 0, .int .i64 0, .int .i64 0] 36 (0, 0)) := (hg3.block W.heap.size (by show W.heap.size < X.heap.size; omega) (by simp; omega)).trans r2
  have HBK := Lib.hid hblk3
  obtain ⟨e0, e1, e2⟩ := cellsT hblk3
  clear hblk3
  obtain ⟨u0, u1, u2, u3⟩ := cells4 rT3
  have HH := Lib.hid (And.intro hst2 (And.intro hb2 (And.intro hmap3 (And.intro hg3 (And.intro hrow (And.intro r3 rT3))))))
  clear hst2 hb2 hmap3 hg3 hrow rT r2 hrun r3 rT3
  go_region_held3 (fun w' => w'.cell? ⟨S, 1, none⟩ = some (.map (some M)) ∧ (w'.cell? ⟨T, 0, none⟩ = some (.int .i64 f.r) ∧ w'.cell? ⟨T, 1, none⟩ = some (.int .i64 f.c))) (first | exact ⟨d1, t0, t1⟩ | exact ⟨e1, u0, u1⟩ | go_keep) (fail)
  all_goals
    go_wp2_with fail
    have hz0 := row_froz HH.out.2.2.2.2.2.2 0
    have hn0 : (0 : Int) ≤ (n : Int) := by omega
    have hn1 : (n : Int) + 1 - 1 = (n : Int) := by omega
    have hnc : n + 1 ≤ cap := by
      rcases (row_cases HH.out.2.2.2.2.1) with ⟨e, _⟩ | ⟨g', c', hc, e⟩
      · cases e
      · cases e; exact hc
    have hnc1 : (n : Int) ≤ (cap : Int) := by omega
    have hnc2 : n ≤ cap := by omega
    have hzS := row_froz (show w3.heap[S]? = some (.cells #[.slice (some ⟨g, 0, none⟩) (n + 1) cap, .map (some M), .int .i64 most] 62 (0, 0)) from HBK.out) 0
    go_cut [] from 20 to 33 (fun wc => wc.heap[S]? = some (.cells #[.slice (some ⟨g, 0, none⟩) n cap, .map (some M), .int .i64 most] 62 (0, 0)) ∧ wc.heap[T]? = some (.cells #[.int .i64 f.r, .int .i64 f.c, .int .i64 f.k, .int .i64 f.x] 36 (0, 0)) ∧ wc.heap[W.heap.size]? = some (.cells #[.int .i64 0, .int .i64 0, .int .i64 0, .int .i64 0] 36 (0, 0)) ∧ wc.ownsRow B 36 4 (.slice (some ⟨g, 0, none⟩) n cap) n (cellsF fs) ∧ MapAt wc M n (pos fs) ∧ Apt (SX S M (.slice (some ⟨g, 0, none⟩) (n + 1) cap)) W wc)
    case first =>
      go_region
      all_goals
        go_wp2_with fail
        go_meet
        case rel =>
          obtain ⟨hst2, hb2, hmap3, hg3, hrow, r3, rT3⟩ := HH.out
          have hset := row_set HBK.out 0 (.slice (some ⟨g, 0, none⟩) n cap)
          have ha5 : Apt (fun k => k = S) w3 (w3.setCell ⟨S, 0, none⟩ (.slice (some ⟨g, 0, none⟩) n cap)).drew := (Apt.setCell (X := fun k => k = S) (p := ⟨S, 0, none⟩) (Apt.refl _ _) (.inl rfl) _).drew
          have hsz3 : X.heap.size ≤ w3.heap.size := hg3.size
          refine ⟨(by show (w3.setCell ⟨S, 0, none⟩ (.slice (some ⟨g, 0, none⟩) n cap)).heap[S]? = _; simpa using hset), (ha5.block T (by omega) (by omega)).trans rT3, (ha5.block W.heap.size (by omega) (by omega)).trans r3, ?_, ha5.map hmap3 hmS, ?_⟩
          · refine ha5.row ?_ (fun k e e2 => hst2.fS (show (Value.slice (some ⟨g, 0, none⟩) (n + 1) cap).ownBlock = some S from e.trans (by rw [e2])))
            have hrow3 := World.ownsRow.kept (w := X.drew) hrow hg3 (.inr hst2.fM)
            rw [cellsF_app] at hrow3
            exact own_shrink hrow3 (by omega) (by rw [cellsF_len, hn])
          · have := (((apt_below hb2).drew).grown hg3 (fun k e => by cases e; exact .inl (.inr (.inl rfl))) : Apt (SX S M (.slice (some ⟨g, 0, none⟩) (n + 1) cap)) W w3)
            exact (this.setCell (p := ⟨S, 0, none⟩) (.inl (.inl rfl)) _).drew
    case rest =>
      obtain ⟨hblk, hT, hR, hrow, hmap, hapt⟩ := hcut
      obtain ⟨v0, v1, v2, v3⟩ := cells4 hT
      obtain ⟨z0, z1, z2, z3⟩ := cells4 hR
      have f0 := row_froz hR 0
      have f1 := row_froz hR 1
      have f2 := row_froz hR 2
      have f3 := row_froz hR 3
      have sR := (Array.getElem?_eq_some_iff.1 hR).1
      have HC := Lib.hid (And.intro hblk (And.intro hrow (And.intro hmap hapt)))
      clear hblk hT hR hrow hmap hapt e0 e1 e2 u0 u1 u2 u3 t0 t1 t2 t3 d0 d1 d2 hdel
      go_wp2_with fail
      have HST : Hid (Stk wc B S M (.slice (some ⟨g, 0, none⟩) n cap) fs most) := by
        obtain ⟨hblk, hrow, hmap, hapt⟩ := HC.out
        have hst2 := HH.out.1
        subst hn
        exact ⟨hblk, hrow, hmap, hst2.sm, hst2.fS, hst2.fM, hst2.bS, hst2.bM, HF.out.2.1, fun x hx => hst2.ft x (by simp [hx]), by omega⟩
      exact bodyPost_ret (v := .tuple #[frV f, .int .i64 0]) (by simp [results, Try.results13, go_sem, frV, z0, z1, z2, z3, f0, f1, f2, f3, sR]) rfl ⟨rfl, .slice (some ⟨g, 0, none⟩) n cap,
        HST.out.apt (X := fun k => k = W.heap.size) ((((Apt.refl (fun k => k = W.heap.size) wc).setCell (p := ⟨W.heap.size, 0, none⟩) (.inl rfl) _).setCell (p := ⟨W.heap.size, 1, none⟩) (.inl rfl) _).setCell (p := ⟨W.heap.size, 2, none⟩) (.inl rfl) _ |>.setCell (p := ⟨W.heap.size, 3, none⟩) (.inl rfl) _) (fun k hk e => by
          rcases hk with rfl | rfl | hk
          · omega
          · omega
          · have := hgl k hk; omega),
        (((HC.out.2.2.2.setCell (p := ⟨W.heap.size, 0, none⟩) (.inr (Nat.le_refl _)) _).setCell (p := ⟨W.heap.size, 1, none⟩) (.inr (Nat.le_refl _)) _).setCell (p := ⟨W.heap.size, 2, none⟩) (.inr (Nat.le_refl _)) _).setCell (p := ⟨W.heap.size, 3, none⟩) (.inr (Nat.le_refl _)) _, rfl⟩
end Go.Proofs.Ytfbmfcipaikaoaa
