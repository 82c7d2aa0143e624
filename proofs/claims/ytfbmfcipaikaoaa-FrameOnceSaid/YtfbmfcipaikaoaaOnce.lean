/- quadrillelaw23.FrameOnce answers true at every input: the walk. -/
import Derived.Test.YtfbmfcipaikaoaaBegun
import Derived.Test.YtfbmfcipaikaoaaFrame
import Derived.Deep.Cut
import Derived.Deep.CutRange
import Derived.Deep.CutBlock
import Derived.Deep.DeepMust
namespace Go.Proofs.Ytfbmfcipaikaoaa
set_option linter.unusedVariables false
set_option linter.unusedSimpArgs false
open Go.RowKit Go.Maps

theorem keepN {W W' : World} {p x0 x1 x2 x3 : Nat} {a b c d : Value} (H : W.cell? ⟨p, x0, none⟩ = some a ∧ W.cell? ⟨p, x1, none⟩ = some b ∧ W.cell? ⟨p, x2, none⟩ = some c ∧ W.cell? ⟨p, x3, none⟩ = some d) (hb : Below W.heap.size W W') :
    W'.cell? ⟨p, x0, none⟩ = some a ∧ W'.cell? ⟨p, x1, none⟩ = some b ∧ W'.cell? ⟨p, x2, none⟩ = some c ∧ W'.cell? ⟨p, x3, none⟩ = some d := ⟨cell_below H.1 hb, cell_below H.2.1 hb, cell_below H.2.2.1 hb, cell_below H.2.2.2 hb⟩
theorem pos_mem {fs : List Fr} {f : Fr} (h : f ∈ fs) : (pos fs f.r f.c).isSome = true := by
  cases e : pos fs f.r f.c with
  | some i => rfl
  | none => exact absurd ⟨rfl, rfl⟩ (pos_none e f h)
theorem uq_ne {fs : List Fr} (h : Uq fs) {i j : Nat} {f g : Fr} (hi : fs[i]? = some f) (hj : fs[j]? = some g) (hij : i < j) : f.r ≠ g.r ∨ f.c ≠ g.c := by
  obtain ⟨h1, rfl⟩ := List.getElem?_eq_some_iff.1 hi
  obtain ⟨h2, rfl⟩ := List.getElem?_eq_some_iff.1 hj
  have := List.pairwise_iff_getElem.1 h i j h1 h2 hij
  by_cases e : fs[i].r = fs[j].r
  · exact .inr (fun e2 => this ⟨e, e2⟩)
  · exact .inl e
theorem own_frames12 {w : World} {B n : Nat} {A : Option Addr} {cap : Nat} {fs : List Fr} (h : w.ownsRow B 36 4 (.slice A n cap) n (cellsF fs)) {i : Nat} {f : Fr} (hi : fs[i]? = some f) :
    ∃ g, A = some ⟨g, 0, none⟩ ∧ w.cell? ⟨g, i * 4, none⟩ = some (.int .i64 f.r) ∧ w.cell? ⟨g, i * 4 + 1, none⟩ = some (.int .i64 f.c) ∧ w.cell? ⟨g, i * 4 + 2, none⟩ = some (.int .i64 f.k) ∧ w.cell? ⟨g, i * 4 + 3, none⟩ = some (.int .i64 f.x) := by
  rcases h.2 with ⟨e, h0⟩ | ⟨g, c, cur, e, _⟩
  · have := h.1
    rw [h0, cellsF_len] at this
    have h1 := (List.getElem?_eq_some_iff.1 hi).1
    omega
  · obtain ⟨rfl, rfl⟩ : A = some ⟨g, 0, none⟩ ∧ cap = c := by simpa using e
    exact ⟨g, rfl, own_frame h hi⟩

set_option maxRecDepth 100000 in
set_option maxHeartbeats 4000000 in
theorem frameOnce_walk (A : Option Addr) (C n : Nat) (os : List OpV) (w : World) (ho : OpsAt w A os) (hf : ∀ o ∈ os, o.fits) (hn : os.length = n) (hl : n ≤ 35184372088832) :
    Calls Try.prog 3 #[.slice A n C] w fun e w' => e = .returned (.bool true) ∧ Below w.heap.size w w' := by
  have HO := Lib.hid ho
  have HF := Lib.hid hf
  clear ho hf
  go_enter Try.func3, Try.ntmps3
  go_wp2_with (first | (go_at_call 7; refine (begun7 _).mono ?_; rintro e w1 ⟨rfl, hb1⟩))
  refine (new8 _).mono ?_
  rintro e w2 ⟨S, M, rfl, hst, hb2⟩
  have HB2 := Lib.hid (hb1.trans (hb2.mono hb1.size))
  have HS2 : Hid (Stk w2 w.heap.size S M (.slice none 0 0) [] 0) := ⟨hst.blk, own_base hst.row hb1.size, hst.map, hst.sm, hst.fS, hst.fM, Nat.le_trans hb1.size hst.bS, Nat.le_trans hb1.size hst.bM, hst.uq, hst.ft, hst.mo⟩
  clear hb1 hb2 hst
  go_wp2_with fail
  go_loopw [4] (fun i wr => ∃ (k : Nat) (F : Value) (fs : List Fr) (most : Nat), k ≤ n ∧ k ≤ 400 ∧ i = .int .i64 k ∧ Stk wr w.heap.size S M F fs most ∧ most ≤ k ∧ Below w.heap.size w wr) (fun i _ => n - (intOf i).toNat)
  case atStart => exact ⟨0, _, [], 0, by omega, by omega, rfl, HS2.out, by omega, HB2.out⟩
  case round =>
    obtain ⟨k, F, fs, most, hk, hk4, rfl, hst, hmk, hb⟩ := hrel
    have hlen : fs.length ≤ 400 := by have := hst.mo; omega
    by_cases hlt : k < n
    · by_cases h400 : k < 400
      · obtain ⟨b, off, o, rfl, hbl, hfit, a0, a1, a2, a3, a4⟩ := (HO.out.below hb).get HF.out (i := k) (by omega)
        obtain ⟨ok, ob, pr, pc, pn⟩ := o
        simp only at a0 a1 a2 a3 a4
        have hk' : (k : Int) < 400 := by omega
        have rO := heap_alloc_new wr (.cells #[.int .i64 ok, .bool ob, .int .i64 pr, .int .i64 pc, .int .i64 pn] 29)
        have hbo := (Below.refl wr.heap.size wr).alloc (Nat.le_refl _) (.cells #[.int .i64 ok, .bool ob, .int .i64 pr, .int .i64 pc, .int .i64 pn] 29)
        have hst1 := hst.below hbo
        have hb1 := hb.trans (hbo.mono hb.size)
        have hOs : wr.heap.size < (wr.alloc (.cells #[.int .i64 ok, .bool ob, .int .i64 pr, .int .i64 pc, .int .i64 pn] 29)).heap.size := by simp
        have HFT := Lib.hid hfit
        have hsxO : ∀ k, SX S M F k → k < wr.heap.size := fun k hk => (hst.sx k hk).2
        clear hst hb hbl hfit hbo
        go_wp2_with fail
        refine (all9 hst1).mono ?_
        rintro e w3 ⟨v6, rfl, hown6, hb3⟩
        have hst3 := hst1.below hb3
        have hb3' := hb1.trans (hb3.mono hb1.size)
        have rO3 := (hb3.block _ hOs).trans rO
        obtain ⟨a6, c6, hv6⟩ := row_any hown6
        subst hv6
        clear hst1 hb1 rO a0 a1 a2 a3 a4
        have hsz : (wr.alloc (.cells #[.int .i64 ok, .bool ob, .int .i64 pr, .int .i64 pc, .int .i64 pn] 29)).heap.size = wr.heap.size + 1 := by simp
        rw [hsz] at hown6 hOs
        obtain ⟨O, hO⟩ : ∃ O, wr.heap.size = O := ⟨_, rfl⟩
        rw [hO] at rO3 hOs hsxO hown6
        rw [hO]
        obtain ⟨o0, o1, o2, o3, o4⟩ := cells5 rO3
        go_upto_block 2 with fail
        go_cut [] from 22 to 155 (fun wc => ∃ F' fs' most', Stk wc w.heap.size S M F' fs' most' ∧ most' ≤ k + 1 ∧ Below w.heap.size w wc)
        case first =>
          have hmo3 := hst3.mo
          have hbw3 := hb3'.size
          by_cases h1 : ok = 1
          · subst h1
            by_cases hpk : pushOk fs pr pc pn
            · as_aux_lemma =>
                obtain ⟨hm, hk12, hp⟩ := hpk
                go_wp2_with fail
                refine (push10_ok hst3 pr pc pn hm hk12 hp (by omega)).mono ?_
                rintro e w4 ⟨rfl, F4, hst4, hap4, hfr4⟩
                have hO : ¬ SX S M F O := fun e => by have := hsxO _ e; omega
                replace o2 := hap4.cell o2 hO
                replace o3 := hap4.cell o3 hO
                replace o4 := hap4.cell o4 hO
                have hown4 := hap4.row hown6 (fun x e e2 => by have := (hown6.lt x e).1; have := hsxO _ e2; omega)
                have hb4' := Apt.below hb3' hap4 (fun x hx => (hst3.sx x hx).1) hbw3
                clear hst3 hap4 hfr4 hown6 hb3' o0 o1 rO3 hb3
                go_wp2_with fail
                refine (all9 hst4).mono ?_
                rintro e w5 ⟨v8, rfl, hown8, hb5⟩
                rw [List.length_append, List.length_singleton] at hown8
                obtain ⟨g8, c8, hv8⟩ := slice_form hown8
                subst hv8
                have hst5 := hst4.below hb5
                have hb5' := hb4'.trans (hb5.mono hb4'.size)
                replace o2 := cell_below o2 hb5
                replace o3 := cell_below o3 hb5
                replace o4 := cell_below o4 hb5
                have hown5 := hown4.kept (⟨hb5.os, hb5.tape, hb5.output, hb5.size, fun k hk _ => hb5.block k hk⟩ : w4.grownBy w5 none) (by cases (Value.slice a6 fs.length c6).ownBlock; exact .inl rfl; exact .inr (by simp))
                obtain ⟨y0, y1, y2, y3⟩ := own_frame hown8 (i := fs.length) (f := ⟨pr, pc, pn, 0⟩) (by simp)
                have hc8 : fs.length + 1 ≤ c8 := by
                  rcases row_cases hown8 with ⟨e, _⟩ | ⟨g', c', hc, e⟩
                  · cases e
                  · cases e; exact hc
                have hfa : FrsAt w5.drew (some ⟨g8, 0, none⟩) fs := by
                  have := (frs_own hown8).take fs.length
                  rw [List.take_left] at this
                  exact this.below (Below.refl w5.heap.size w5).drew
                have hfb : FrsAt w5.drew a6 fs := (frs_own hown5).below (Below.refl w5.heap.size w5).drew
                have HEQ := Lib.hid (eq11 (some ⟨g8, 0, none⟩) a6 c8 c6 fs.length fs w5.drew hfa hfb rfl (by omega))
                have HST := Lib.hid (And.intro hst5 hb5')
                clear hst4 hb4' hown4 hown5 hown8 hb5 hst5 hb5' hfa hfb
                obtain ⟨m, hmn⟩ : ∃ m, fs.length = m := ⟨_, rfl⟩
                rw [hmn] at y0 y1 y2 y3 hc8 HEQ ⊢
                have hm0 : (0 : Int) ≤ (m : Int) := by omega
                have hm1 : (m : Int) < (m : Int) + 1 := by omega
                have hm2 : (m : Int) ≤ (c8 : Int) := by omega
                have hm3 : m ≤ c8 := by omega
                have hm4 : IntKind.i64.wrap ((m : Int) + 1) = (m : Int) + 1 := by simp [IntKind.wrap, IntKind.signed, IntKind.bits]; omega
                have hm5 : m < 100000 := by omega
                have hS14 : (w5.drew.cell? ⟨O, 2, none⟩ = some (.int .i64 pr) ∧ w5.drew.cell? ⟨O, 3, none⟩ = some (.int .i64 pc) ∧ w5.drew.cell? ⟨O, 4, none⟩ = some (.int .i64 pn)) ∧ (w5.drew.cell? ⟨g8, m * 4, none⟩ = some (.int .i64 pr) ∧ w5.drew.cell? ⟨g8, m * 4 + 1, none⟩ = some (.int .i64 pc) ∧ w5.drew.cell? ⟨g8, m * 4 + 2, none⟩ = some (.int .i64 pn) ∧ w5.drew.cell? ⟨g8, m * 4 + 3, none⟩ = some (.int .i64 0)) := ⟨⟨o2, o3, o4⟩, ⟨y0, y1, y2, y3⟩⟩
                have HMN := Lib.hid hmn
                have HMO := Lib.hid hmo3
                clear hmn hmo3 hlen
                go_wp2_with fail
                refine wp_region_noPanic ?_
                refine wp_region_held_drew (S := (fun w' => (w'.cell? ⟨O, 2, none⟩ = some (.int .i64 pr) ∧ w'.cell? ⟨O, 3, none⟩ = some (.int .i64 pc) ∧ w'.cell? ⟨O, 4, none⟩ = some (.int .i64 pn)) ∧ (w'.cell? ⟨g8, m * 4, none⟩ = some (.int .i64 pr) ∧ w'.cell? ⟨g8, m * 4 + 1, none⟩ = some (.int .i64 pc) ∧ w'.cell? ⟨g8, m * 4 + 2, none⟩ = some (.int .i64 pn) ∧ w'.cell? ⟨g8, m * 4 + 3, none⟩ = some (.int .i64 0)))) (by kernel_rfl) (hS14) (fun hHeld => ?_)
                first
                | (refine wpAnyH_take (i := 0) (oi := ?o3_0) (v := undef) ?hi3_0 (by kernel_rfl) (by kernel_rfl) (by kernel_rfl) (fun _ _ _ h => h) ?hy3_0 (by assumption) ?hr3_0
                   case hi3_0 => (simp only [List.getElem?_toArray, List.getElem?_cons_succ, List.getElem?_cons_zero]; rfl)
                   case hy3_0 => exact Or.inr ⟨by rfl, rfl⟩)
                | (refine wpAnyH_take (i := 0) (oi := ?o3_0) (v := ?v3_0) ?hi3_0 (by kernel_rfl) (by kernel_rfl) (by kernel_rfl) (fun _ _ _ h => h) ?hy3_0 (by assumption) ?hr3_0
                   case hi3_0 => (simp only [List.getElem?_toArray, List.getElem?_cons_succ, List.getElem?_cons_zero]; rfl)
                   case hy3_0 => (refine Or.inl ⟨by rfl, ?_⟩; intro w hSw; (try dsimp only at hSw); go_simp <;> with_reducible rfl))
                try simp only [Act.put, List.setIfInBounds_toArray, List.set_cons_zero, List.set_cons_succ]
                first
                | (refine wpAnyH_take (i := 1) (oi := ?o3_1) (v := undef) ?hi3_1 (by kernel_rfl) (by kernel_rfl) (by kernel_rfl) (fun _ _ _ h => h) ?hy3_1 (by assumption) ?hr3_1
                   case hi3_1 => (simp only [List.getElem?_toArray, List.getElem?_cons_succ, List.getElem?_cons_zero]; rfl)
                   case hy3_1 => exact Or.inr ⟨by rfl, rfl⟩)
                | (refine wpAnyH_take (i := 1) (oi := ?o3_1) (v := ?v3_1) ?hi3_1 (by kernel_rfl) (by kernel_rfl) (by kernel_rfl) (fun _ _ _ h => h) ?hy3_1 (by assumption) ?hr3_1
                   case hi3_1 => (simp only [List.getElem?_toArray, List.getElem?_cons_succ, List.getElem?_cons_zero]; rfl)
                   case hy3_1 => (refine Or.inl ⟨by rfl, ?_⟩; intro w hSw; (try dsimp only at hSw); go_simp <;> with_reducible rfl))
                try simp only [Act.put, List.setIfInBounds_toArray, List.set_cons_zero, List.set_cons_succ]
                first
                | (refine wpAnyH_take (i := 2) (oi := ?o3_2) (v := undef) ?hi3_2 (by kernel_rfl) (by kernel_rfl) (by kernel_rfl) (fun _ _ _ h => h) ?hy3_2 (by assumption) ?hr3_2
                   case hi3_2 => (simp only [List.getElem?_toArray, List.getElem?_cons_succ, List.getElem?_cons_zero]; rfl)
                   case hy3_2 => exact Or.inr ⟨by rfl, rfl⟩)
                | (refine wpAnyH_take (i := 2) (oi := ?o3_2) (v := ?v3_2) ?hi3_2 (by kernel_rfl) (by kernel_rfl) (by kernel_rfl) (fun _ _ _ h => h) ?hy3_2 (by assumption) ?hr3_2
                   case hi3_2 => (simp only [List.getElem?_toArray, List.getElem?_cons_succ, List.getElem?_cons_zero]; rfl)
                   case hy3_2 => (refine Or.inl ⟨by rfl, ?_⟩; intro w hSw; (try dsimp only at hSw); go_simp <;> with_reducible rfl))
                try simp only [Act.put, List.setIfInBounds_toArray, List.set_cons_zero, List.set_cons_succ]
                first
                | (refine wpAnyH_take (i := 3) (oi := ?o3_3) (v := undef) ?hi3_3 (by kernel_rfl) (by kernel_rfl) (by kernel_rfl) (fun _ _ _ h => h) ?hy3_3 (by assumption) ?hr3_3
                   case hi3_3 => (simp only [List.getElem?_toArray, List.getElem?_cons_succ, List.getElem?_cons_zero]; rfl)
                   case hy3_3 => exact Or.inr ⟨by rfl, rfl⟩)
                | (refine wpAnyH_take (i := 3) (oi := ?o3_3) (v := ?v3_3) ?hi3_3 (by kernel_rfl) (by kernel_rfl) (by kernel_rfl) (fun _ _ _ h => h) ?hy3_3 (by assumption) ?hr3_3
                   case hi3_3 => (simp only [List.getElem?_toArray, List.getElem?_cons_succ, List.getElem?_cons_zero]; rfl)
                   case hy3_3 => (refine Or.inl ⟨by rfl, ?_⟩; intro w hSw; (try dsimp only at hSw); go_simp <;> with_reducible rfl))
                try simp only [Act.put, List.setIfInBounds_toArray, List.set_cons_zero, List.set_cons_succ]
                first
                | (refine wpAnyH_take (i := 4) (oi := ?o3_4) (v := undef) ?hi3_4 (by kernel_rfl) (by kernel_rfl) (by kernel_rfl) (fun _ _ _ h => h) ?hy3_4 (by assumption) ?hr3_4
                   case hi3_4 => (simp only [List.getElem?_toArray, List.getElem?_cons_succ, List.getElem?_cons_zero]; rfl)
                   case hy3_4 => exact Or.inr ⟨by rfl, rfl⟩)
                | (refine wpAnyH_take (i := 4) (oi := ?o3_4) (v := ?v3_4) ?hi3_4 (by kernel_rfl) (by kernel_rfl) (by kernel_rfl) (fun _ _ _ h => h) ?hy3_4 (by assumption) ?hr3_4
                   case hi3_4 => (simp only [List.getElem?_toArray, List.getElem?_cons_succ, List.getElem?_cons_zero]; rfl)
                   case hy3_4 => (refine Or.inl ⟨by rfl, ?_⟩; intro w hSw; (try dsimp only at hSw); go_simp <;> with_reducible rfl))
                try simp only [Act.put, List.setIfInBounds_toArray, List.set_cons_zero, List.set_cons_succ]
                first
                | (refine wpAnyH_take (i := 5) (oi := ?o3_5) (v := undef) ?hi3_5 (by kernel_rfl) (by kernel_rfl) (by kernel_rfl) (fun _ _ _ h => h) ?hy3_5 (by assumption) ?hr3_5
                   case hi3_5 => (simp only [List.getElem?_toArray, List.getElem?_cons_succ, List.getElem?_cons_zero]; rfl)
                   case hy3_5 => exact Or.inr ⟨by rfl, rfl⟩)
                | (refine wpAnyH_take (i := 5) (oi := ?o3_5) (v := ?v3_5) ?hi3_5 (by kernel_rfl) (by kernel_rfl) (by kernel_rfl) (fun _ _ _ h => h) ?hy3_5 (by assumption) ?hr3_5
                   case hi3_5 => (simp only [List.getElem?_toArray, List.getElem?_cons_succ, List.getElem?_cons_zero]; rfl)
                   case hy3_5 => (refine Or.inl ⟨by rfl, ?_⟩; intro w hSw; (try dsimp only at hSw); go_simp <;> with_reducible rfl))
                try simp only [Act.put, List.setIfInBounds_toArray, List.set_cons_zero, List.set_cons_succ]
                first
                | (refine wpAnyH_take (i := 6) (oi := ?o3_6) (v := undef) ?hi3_6 (by kernel_rfl) (by kernel_rfl) (by kernel_rfl) (fun _ _ _ h => h) ?hy3_6 (by assumption) ?hr3_6
                   case hi3_6 => (simp only [List.getElem?_toArray, List.getElem?_cons_succ, List.getElem?_cons_zero]; rfl)
                   case hy3_6 => exact Or.inr ⟨by rfl, rfl⟩)
                | (refine wpAnyH_take (i := 6) (oi := ?o3_6) (v := ?v3_6) ?hi3_6 (by kernel_rfl) (by kernel_rfl) (by kernel_rfl) (fun _ _ _ h => h) ?hy3_6 (by assumption) ?hr3_6
                   case hi3_6 => (simp only [List.getElem?_toArray, List.getElem?_cons_succ, List.getElem?_cons_zero]; rfl)
                   case hy3_6 => (refine Or.inl ⟨by rfl, ?_⟩; intro w hSw; (try dsimp only at hSw); go_simp <;> with_reducible rfl))
                try simp only [Act.put, List.setIfInBounds_toArray, List.set_cons_zero, List.set_cons_succ]
                first
                | (refine wpAnyH_take (i := 7) (oi := ?o3_7) (v := undef) ?hi3_7 (by kernel_rfl) (by kernel_rfl) (by kernel_rfl) (fun _ _ _ h => h) ?hy3_7 (by assumption) ?hr3_7
                   case hi3_7 => (simp only [List.getElem?_toArray, List.getElem?_cons_succ, List.getElem?_cons_zero]; rfl)
                   case hy3_7 => exact Or.inr ⟨by rfl, rfl⟩)
                | (refine wpAnyH_take (i := 7) (oi := ?o3_7) (v := ?v3_7) ?hi3_7 (by kernel_rfl) (by kernel_rfl) (by kernel_rfl) (fun _ _ _ h => h) ?hy3_7 (by assumption) ?hr3_7
                   case hi3_7 => (simp only [List.getElem?_toArray, List.getElem?_cons_succ, List.getElem?_cons_zero]; rfl)
                   case hy3_7 => (refine Or.inl ⟨by rfl, ?_⟩; intro w hSw; (try dsimp only at hSw); go_simp <;> with_reducible rfl))
                try simp only [Act.put, List.setIfInBounds_toArray, List.set_cons_zero, List.set_cons_succ]
                first
                | (refine wpAnyH_take (i := 8) (oi := ?o3_8) (v := undef) ?hi3_8 (by kernel_rfl) (by kernel_rfl) (by kernel_rfl) (fun _ _ _ h => h) ?hy3_8 (by assumption) ?hr3_8
                   case hi3_8 => (simp only [List.getElem?_toArray, List.getElem?_cons_succ, List.getElem?_cons_zero]; rfl)
                   case hy3_8 => exact Or.inr ⟨by rfl, rfl⟩)
                | (refine wpAnyH_take (i := 8) (oi := ?o3_8) (v := ?v3_8) ?hi3_8 (by kernel_rfl) (by kernel_rfl) (by kernel_rfl) (fun _ _ _ h => h) ?hy3_8 (by assumption) ?hr3_8
                   case hi3_8 => (simp only [List.getElem?_toArray, List.getElem?_cons_succ, List.getElem?_cons_zero]; rfl)
                   case hy3_8 => (refine Or.inl ⟨by rfl, ?_⟩; intro w hSw; (try dsimp only at hSw); go_simp <;> with_reducible rfl))
                try simp only [Act.put, List.setIfInBounds_toArray, List.set_cons_zero, List.set_cons_succ]
                first
                | (refine wpAnyH_take (i := 9) (oi := ?o3_9) (v := undef) ?hi3_9 (by kernel_rfl) (by kernel_rfl) (by kernel_rfl) (fun _ _ _ h => h) ?hy3_9 (by assumption) ?hr3_9
                   case hi3_9 => (simp only [List.getElem?_toArray, List.getElem?_cons_succ, List.getElem?_cons_zero]; rfl)
                   case hy3_9 => exact Or.inr ⟨by rfl, rfl⟩)
                | (refine wpAnyH_take (i := 9) (oi := ?o3_9) (v := ?v3_9) ?hi3_9 (by kernel_rfl) (by kernel_rfl) (by kernel_rfl) (fun _ _ _ h => h) ?hy3_9 (by assumption) ?hr3_9
                   case hi3_9 => (simp only [List.getElem?_toArray, List.getElem?_cons_succ, List.getElem?_cons_zero]; rfl)
                   case hy3_9 => (refine Or.inl ⟨by rfl, ?_⟩; intro w hSw; (try dsimp only at hSw); go_simp <;> with_reducible rfl))
                try simp only [Act.put, List.setIfInBounds_toArray, List.set_cons_zero, List.set_cons_succ]
                first
                | (refine wpAnyH_take (i := 10) (oi := ?o3_10) (v := undef) ?hi3_10 (by kernel_rfl) (by kernel_rfl) (by kernel_rfl) (fun _ _ _ h => h) ?hy3_10 (by assumption) ?hr3_10
                   case hi3_10 => (simp only [List.getElem?_toArray, List.getElem?_cons_succ, List.getElem?_cons_zero]; rfl)
                   case hy3_10 => exact Or.inr ⟨by rfl, rfl⟩)
                | (refine wpAnyH_take (i := 10) (oi := ?o3_10) (v := ?v3_10) ?hi3_10 (by kernel_rfl) (by kernel_rfl) (by kernel_rfl) (fun _ _ _ h => h) ?hy3_10 (by assumption) ?hr3_10
                   case hi3_10 => (simp only [List.getElem?_toArray, List.getElem?_cons_succ, List.getElem?_cons_zero]; rfl)
                   case hy3_10 => (refine Or.inl ⟨by rfl, ?_⟩; intro w hSw; (try dsimp only at hSw); go_simp <;> with_reducible rfl))
                try simp only [Act.put, List.setIfInBounds_toArray, List.set_cons_zero, List.set_cons_succ]
                first
                | (refine wpAnyH_take (i := 11) (oi := ?o3_11) (v := undef) ?hi3_11 (by kernel_rfl) (by kernel_rfl) (by kernel_rfl) (fun _ _ _ h => h) ?hy3_11 (by assumption) ?hr3_11
                   case hi3_11 => (simp only [List.getElem?_toArray, List.getElem?_cons_succ, List.getElem?_cons_zero]; rfl)
                   case hy3_11 => exact Or.inr ⟨by rfl, rfl⟩)
                | (refine wpAnyH_take (i := 11) (oi := ?o3_11) (v := ?v3_11) ?hi3_11 (by kernel_rfl) (by kernel_rfl) (by kernel_rfl) (fun _ _ _ h => h) ?hy3_11 (by assumption) ?hr3_11
                   case hi3_11 => (simp only [List.getElem?_toArray, List.getElem?_cons_succ, List.getElem?_cons_zero]; rfl)
                   case hy3_11 => (refine Or.inl ⟨by rfl, ?_⟩; intro w hSw; (try dsimp only at hSw); go_simp <;> with_reducible rfl))
                try simp only [Act.put, List.setIfInBounds_toArray, List.set_cons_zero, List.set_cons_succ]
                first
                | (refine wpAnyH_take (i := 12) (oi := ?o3_12) (v := undef) ?hi3_12 (by kernel_rfl) (by kernel_rfl) (by kernel_rfl) (fun _ _ _ h => h) ?hy3_12 (by assumption) ?hr3_12
                   case hi3_12 => (simp only [List.getElem?_toArray, List.getElem?_cons_succ, List.getElem?_cons_zero]; rfl)
                   case hy3_12 => exact Or.inr ⟨by rfl, rfl⟩)
                | (refine wpAnyH_ready (rs := [12]) (by kernel_rfl) (by simp) ?_
                   refine AllReadyH.cons (o := ?o3_12) ?ho3_12 (fun K hK => ?hk3_12) AllReadyH.nil
                   case ho3_12 => (simp only [List.getElem?_toArray, List.getElem?_cons_succ, List.getElem?_cons_zero]; rfl)
                   go_simp
                   go_wp2_with (go_at_call 11; refine HEQ.out.mono ?_; rintro e w9 ⟨rfl, hb9⟩)
                   go_wp2_with fail
                   refine hK.out _ _ ?_ (fun hHeld => ?_)
                   · first | exact ⟨⟨cell_below hS14.1.1 hb9, cell_below hS14.1.2.1 hb9, cell_below hS14.1.2.2 hb9⟩, keepN hS14.2 hb9⟩
                   clear hK K)
                try simp only [Act.put, List.setIfInBounds_toArray, List.set_cons_zero, List.set_cons_succ]
                first
                | (refine wpAnyH_take (i := 13) (oi := ?o3_13) (v := undef) ?hi3_13 (by kernel_rfl) (by kernel_rfl) (by kernel_rfl) (fun _ _ _ h => h) ?hy3_13 (by assumption) ?hr3_13
                   case hi3_13 => (simp only [List.getElem?_toArray, List.getElem?_cons_succ, List.getElem?_cons_zero]; rfl)
                   case hy3_13 => exact Or.inr ⟨by rfl, rfl⟩)
                | (refine wpAnyH_take (i := 13) (oi := ?o3_13) (v := ?v3_13) ?hi3_13 (by kernel_rfl) (by kernel_rfl) (by kernel_rfl) (fun _ _ _ h => h) ?hy3_13 (by assumption) ?hr3_13
                   case hi3_13 => (simp only [List.getElem?_toArray, List.getElem?_cons_succ, List.getElem?_cons_zero]; rfl)
                   case hy3_13 => (refine Or.inl ⟨by rfl, ?_⟩; intro w hSw; (try dsimp only at hSw); go_simp <;> with_reducible rfl))
                try simp only [Act.put, List.setIfInBounds_toArray, List.set_cons_zero, List.set_cons_succ]
                first
                | (refine wpAnyH_take (i := 14) (oi := ?o3_14) (v := undef) ?hi3_14 (by kernel_rfl) (by kernel_rfl) (by kernel_rfl) (fun _ _ _ h => h) ?hy3_14 (by assumption) ?hr3_14
                   case hi3_14 => (simp only [List.getElem?_toArray, List.getElem?_cons_succ, List.getElem?_cons_zero]; rfl)
                   case hy3_14 => exact Or.inr ⟨by rfl, rfl⟩)
                | (refine wpAnyH_take (i := 14) (oi := ?o3_14) (v := ?v3_14) ?hi3_14 (by kernel_rfl) (by kernel_rfl) (by kernel_rfl) (fun _ _ _ h => h) ?hy3_14 (by assumption) ?hr3_14
                   case hi3_14 => (simp only [List.getElem?_toArray, List.getElem?_cons_succ, List.getElem?_cons_zero]; rfl)
                   case hy3_14 => (refine Or.inl ⟨by rfl, ?_⟩; intro w hSw; (try dsimp only at hSw); go_simp <;> with_reducible rfl))
                try simp only [Act.put, List.setIfInBounds_toArray, List.set_cons_zero, List.set_cons_succ]
                first
                | (refine wpAnyH_take (i := 15) (oi := ?o3_15) (v := undef) ?hi3_15 (by kernel_rfl) (by kernel_rfl) (by kernel_rfl) (fun _ _ _ h => h) ?hy3_15 (by assumption) ?hr3_15
                   case hi3_15 => (simp only [List.getElem?_toArray, List.getElem?_cons_succ, List.getElem?_cons_zero]; rfl)
                   case hy3_15 => exact Or.inr ⟨by rfl, rfl⟩)
                | (refine wpAnyH_take (i := 15) (oi := ?o3_15) (v := ?v3_15) ?hi3_15 (by kernel_rfl) (by kernel_rfl) (by kernel_rfl) (fun _ _ _ h => h) ?hy3_15 (by assumption) ?hr3_15
                   case hi3_15 => (simp only [List.getElem?_toArray, List.getElem?_cons_succ, List.getElem?_cons_zero]; rfl)
                   case hy3_15 => (refine Or.inl ⟨by rfl, ?_⟩; intro w hSw; (try dsimp only at hSw); go_simp <;> with_reducible rfl))
                try simp only [Act.put, List.setIfInBounds_toArray, List.set_cons_zero, List.set_cons_succ]
                first
                | (refine wpAnyH_take (i := 16) (oi := ?o3_16) (v := undef) ?hi3_16 (by kernel_rfl) (by kernel_rfl) (by kernel_rfl) (fun _ _ _ h => h) ?hy3_16 (by assumption) ?hr3_16
                   case hi3_16 => (simp only [List.getElem?_toArray, List.getElem?_cons_succ, List.getElem?_cons_zero]; rfl)
                   case hy3_16 => exact Or.inr ⟨by rfl, rfl⟩)
                | (refine wpAnyH_take (i := 16) (oi := ?o3_16) (v := ?v3_16) ?hi3_16 (by kernel_rfl) (by kernel_rfl) (by kernel_rfl) (fun _ _ _ h => h) ?hy3_16 (by assumption) ?hr3_16
                   case hi3_16 => (simp only [List.getElem?_toArray, List.getElem?_cons_succ, List.getElem?_cons_zero]; rfl)
                   case hy3_16 => (refine Or.inl ⟨by rfl, ?_⟩; intro w hSw; (try dsimp only at hSw); go_simp <;> with_reducible rfl))
                try simp only [Act.put, List.setIfInBounds_toArray, List.set_cons_zero, List.set_cons_succ]
                first
                | (refine wpAnyH_take (i := 17) (oi := ?o3_17) (v := undef) ?hi3_17 (by kernel_rfl) (by kernel_rfl) (by kernel_rfl) (fun _ _ _ h => h) ?hy3_17 (by assumption) ?hr3_17
                   case hi3_17 => (simp only [List.getElem?_toArray, List.getElem?_cons_succ, List.getElem?_cons_zero]; rfl)
                   case hy3_17 => exact Or.inr ⟨by rfl, rfl⟩)
                | (refine wpAnyH_take (i := 17) (oi := ?o3_17) (v := ?v3_17) ?hi3_17 (by kernel_rfl) (by kernel_rfl) (by kernel_rfl) (fun _ _ _ h => h) ?hy3_17 (by assumption) ?hr3_17
                   case hi3_17 => (simp only [List.getElem?_toArray, List.getElem?_cons_succ, List.getElem?_cons_zero]; rfl)
                   case hy3_17 => (refine Or.inl ⟨by rfl, ?_⟩; intro w hSw; (try dsimp only at hSw); go_simp <;> with_reducible rfl))
                try simp only [Act.put, List.setIfInBounds_toArray, List.set_cons_zero, List.set_cons_succ]
                first
                | (refine wpAnyH_take (i := 18) (oi := ?o3_18) (v := undef) ?hi3_18 (by kernel_rfl) (by kernel_rfl) (by kernel_rfl) (fun _ _ _ h => h) ?hy3_18 (by assumption) ?hr3_18
                   case hi3_18 => (simp only [List.getElem?_toArray, List.getElem?_cons_succ, List.getElem?_cons_zero]; rfl)
                   case hy3_18 => exact Or.inr ⟨by rfl, rfl⟩)
                | (refine wpAnyH_take (i := 18) (oi := ?o3_18) (v := ?v3_18) ?hi3_18 (by kernel_rfl) (by kernel_rfl) (by kernel_rfl) (fun _ _ _ h => h) ?hy3_18 (by assumption) ?hr3_18
                   case hi3_18 => (simp only [List.getElem?_toArray, List.getElem?_cons_succ, List.getElem?_cons_zero]; rfl)
                   case hy3_18 => (refine Or.inl ⟨by rfl, ?_⟩; intro w hSw; (try dsimp only at hSw); go_simp <;> with_reducible rfl))
                try simp only [Act.put, List.setIfInBounds_toArray, List.set_cons_zero, List.set_cons_succ]
                first
                | (refine wpAnyH_take (i := 19) (oi := ?o3_19) (v := undef) ?hi3_19 (by kernel_rfl) (by kernel_rfl) (by kernel_rfl) (fun _ _ _ h => h) ?hy3_19 (by assumption) ?hr3_19
                   case hi3_19 => (simp only [List.getElem?_toArray, List.getElem?_cons_succ, List.getElem?_cons_zero]; rfl)
                   case hy3_19 => exact Or.inr ⟨by rfl, rfl⟩)
                | (refine wpAnyH_take (i := 19) (oi := ?o3_19) (v := ?v3_19) ?hi3_19 (by kernel_rfl) (by kernel_rfl) (by kernel_rfl) (fun _ _ _ h => h) ?hy3_19 (by assumption) ?hr3_19
                   case hi3_19 => (simp only [List.getElem?_toArray, List.getElem?_cons_succ, List.getElem?_cons_zero]; rfl)
                   case hy3_19 => (refine Or.inl ⟨by rfl, ?_⟩; intro w hSw; (try dsimp only at hSw); go_simp <;> with_reducible rfl))
                try simp only [Act.put, List.setIfInBounds_toArray, List.set_cons_zero, List.set_cons_succ]
                first
                | (refine wpAnyH_take (i := 20) (oi := ?o3_20) (v := undef) ?hi3_20 (by kernel_rfl) (by kernel_rfl) (by kernel_rfl) (fun _ _ _ h => h) ?hy3_20 (by assumption) ?hr3_20
                   case hi3_20 => (simp only [List.getElem?_toArray, List.getElem?_cons_succ, List.getElem?_cons_zero]; rfl)
                   case hy3_20 => exact Or.inr ⟨by rfl, rfl⟩)
                | (refine wpAnyH_take (i := 20) (oi := ?o3_20) (v := ?v3_20) ?hi3_20 (by kernel_rfl) (by kernel_rfl) (by kernel_rfl) (fun _ _ _ h => h) ?hy3_20 (by assumption) ?hr3_20
                   case hi3_20 => (simp only [List.getElem?_toArray, List.getElem?_cons_succ, List.getElem?_cons_zero]; rfl)
                   case hy3_20 => (refine Or.inl ⟨by rfl, ?_⟩; intro w hSw; (try dsimp only at hSw); go_simp <;> with_reducible rfl))
                try simp only [Act.put, List.setIfInBounds_toArray, List.set_cons_zero, List.set_cons_succ]
                first
                | (refine wpAnyH_take (i := 21) (oi := ?o3_21) (v := undef) ?hi3_21 (by kernel_rfl) (by kernel_rfl) (by kernel_rfl) (fun _ _ _ h => h) ?hy3_21 (by assumption) ?hr3_21
                   case hi3_21 => (simp only [List.getElem?_toArray, List.getElem?_cons_succ, List.getElem?_cons_zero]; rfl)
                   case hy3_21 => exact Or.inr ⟨by rfl, rfl⟩)
                | (refine wpAnyH_take (i := 21) (oi := ?o3_21) (v := ?v3_21) ?hi3_21 (by kernel_rfl) (by kernel_rfl) (by kernel_rfl) (fun _ _ _ h => h) ?hy3_21 (by assumption) ?hr3_21
                   case hi3_21 => (simp only [List.getElem?_toArray, List.getElem?_cons_succ, List.getElem?_cons_zero]; rfl)
                   case hy3_21 => (refine Or.inl ⟨by rfl, ?_⟩; intro w hSw; (try dsimp only at hSw); go_simp <;> with_reducible rfl))
                try simp only [Act.put, List.setIfInBounds_toArray, List.set_cons_zero, List.set_cons_succ]
                first
                | (refine wpAnyH_take (i := 22) (oi := ?o3_22) (v := undef) ?hi3_22 (by kernel_rfl) (by kernel_rfl) (by kernel_rfl) (fun _ _ _ h => h) ?hy3_22 (by assumption) ?hr3_22
                   case hi3_22 => (simp only [List.getElem?_toArray, List.getElem?_cons_succ, List.getElem?_cons_zero]; rfl)
                   case hy3_22 => exact Or.inr ⟨by rfl, rfl⟩)
                | (refine wpAnyH_take (i := 22) (oi := ?o3_22) (v := ?v3_22) ?hi3_22 (by kernel_rfl) (by kernel_rfl) (by kernel_rfl) (fun _ _ _ h => h) ?hy3_22 (by assumption) ?hr3_22
                   case hi3_22 => (simp only [List.getElem?_toArray, List.getElem?_cons_succ, List.getElem?_cons_zero]; rfl)
                   case hy3_22 => (refine Or.inl ⟨by rfl, ?_⟩; intro w hSw; (try dsimp only at hSw); go_simp <;> with_reducible rfl))
                try simp only [Act.put, List.setIfInBounds_toArray, List.set_cons_zero, List.set_cons_succ]
                first
                | (refine wpAnyH_take (i := 23) (oi := ?o3_23) (v := undef) ?hi3_23 (by kernel_rfl) (by kernel_rfl) (by kernel_rfl) (fun _ _ _ h => h) ?hy3_23 (by assumption) ?hr3_23
                   case hi3_23 => (simp only [List.getElem?_toArray, List.getElem?_cons_succ, List.getElem?_cons_zero]; rfl)
                   case hy3_23 => exact Or.inr ⟨by rfl, rfl⟩)
                | (refine wpAnyH_take (i := 23) (oi := ?o3_23) (v := ?v3_23) ?hi3_23 (by kernel_rfl) (by kernel_rfl) (by kernel_rfl) (fun _ _ _ h => h) ?hy3_23 (by assumption) ?hr3_23
                   case hi3_23 => (simp only [List.getElem?_toArray, List.getElem?_cons_succ, List.getElem?_cons_zero]; rfl)
                   case hy3_23 => (refine Or.inl ⟨by rfl, ?_⟩; intro w hSw; (try dsimp only at hSw); go_simp <;> with_reducible rfl))
                try simp only [Act.put, List.setIfInBounds_toArray, List.set_cons_zero, List.set_cons_succ]
                first
                | (refine wpAnyH_take (i := 24) (oi := ?o3_24) (v := undef) ?hi3_24 (by kernel_rfl) (by kernel_rfl) (by kernel_rfl) (fun _ _ _ h => h) ?hy3_24 (by assumption) ?hr3_24
                   case hi3_24 => (simp only [List.getElem?_toArray, List.getElem?_cons_succ, List.getElem?_cons_zero]; rfl)
                   case hy3_24 => exact Or.inr ⟨by rfl, rfl⟩)
                | (refine wpAnyH_take (i := 24) (oi := ?o3_24) (v := ?v3_24) ?hi3_24 (by kernel_rfl) (by kernel_rfl) (by kernel_rfl) (fun _ _ _ h => h) ?hy3_24 (by assumption) ?hr3_24
                   case hi3_24 => (simp only [List.getElem?_toArray, List.getElem?_cons_succ, List.getElem?_cons_zero]; rfl)
                   case hy3_24 => (refine Or.inl ⟨by rfl, ?_⟩; intro w hSw; (try dsimp only at hSw); go_simp <;> with_reducible rfl))
                try simp only [Act.put, List.setIfInBounds_toArray, List.set_cons_zero, List.set_cons_succ]
                first
                | (refine wpAnyH_take (i := 25) (oi := ?o3_25) (v := undef) ?hi3_25 (by kernel_rfl) (by kernel_rfl) (by kernel_rfl) (fun _ _ _ h => h) ?hy3_25 (by assumption) ?hr3_25
                   case hi3_25 => (simp only [List.getElem?_toArray, List.getElem?_cons_succ, List.getElem?_cons_zero]; rfl)
                   case hy3_25 => exact Or.inr ⟨by rfl, rfl⟩)
                | (refine wpAnyH_take (i := 25) (oi := ?o3_25) (v := ?v3_25) ?hi3_25 (by kernel_rfl) (by kernel_rfl) (by kernel_rfl) (fun _ _ _ h => h) ?hy3_25 (by assumption) ?hr3_25
                   case hi3_25 => (simp only [List.getElem?_toArray, List.getElem?_cons_succ, List.getElem?_cons_zero]; rfl)
                   case hy3_25 => (refine Or.inl ⟨by rfl, ?_⟩; intro w hSw; (try dsimp only at hSw); go_simp <;> with_reducible rfl))
                try simp only [Act.put, List.setIfInBounds_toArray, List.set_cons_zero, List.set_cons_succ]
                first
                | (refine wpAnyH_take (i := 26) (oi := ?o3_26) (v := undef) ?hi3_26 (by kernel_rfl) (by kernel_rfl) (by kernel_rfl) (fun _ _ _ h => h) ?hy3_26 (by assumption) ?hr3_26
                   case hi3_26 => (simp only [List.getElem?_toArray, List.getElem?_cons_succ, List.getElem?_cons_zero]; rfl)
                   case hy3_26 => exact Or.inr ⟨by rfl, rfl⟩)
                | (refine wpAnyH_take (i := 26) (oi := ?o3_26) (v := ?v3_26) ?hi3_26 (by kernel_rfl) (by kernel_rfl) (by kernel_rfl) (fun _ _ _ h => h) ?hy3_26 (by assumption) ?hr3_26
                   case hi3_26 => (simp only [List.getElem?_toArray, List.getElem?_cons_succ, List.getElem?_cons_zero]; rfl)
                   case hy3_26 => (refine Or.inl ⟨by rfl, ?_⟩; intro w hSw; (try dsimp only at hSw); go_simp <;> with_reducible rfl))
                try simp only [Act.put, List.setIfInBounds_toArray, List.set_cons_zero, List.set_cons_succ]
                first
                | (refine wpAnyH_take (i := 27) (oi := ?o3_27) (v := undef) ?hi3_27 (by kernel_rfl) (by kernel_rfl) (by kernel_rfl) (fun _ _ _ h => h) ?hy3_27 (by assumption) ?hr3_27
                   case hi3_27 => (simp only [List.getElem?_toArray, List.getElem?_cons_succ, List.getElem?_cons_zero]; rfl)
                   case hy3_27 => exact Or.inr ⟨by rfl, rfl⟩)
                | (refine wpAnyH_take (i := 27) (oi := ?o3_27) (v := ?v3_27) ?hi3_27 (by kernel_rfl) (by kernel_rfl) (by kernel_rfl) (fun _ _ _ h => h) ?hy3_27 (by assumption) ?hr3_27
                   case hi3_27 => (simp only [List.getElem?_toArray, List.getElem?_cons_succ, List.getElem?_cons_zero]; rfl)
                   case hy3_27 => (refine Or.inl ⟨by rfl, ?_⟩; intro w hSw; (try dsimp only at hSw); go_simp <;> with_reducible rfl))
                try simp only [Act.put, List.setIfInBounds_toArray, List.set_cons_zero, List.set_cons_succ]
                refine wpAnyH_done (by kernel_rfl) ?_ _
                refine NoPanic.normal ?_
                go_wp2_with fail
                have hmn := HMN.out
                subst hmn
                go_meet
                case rel => exact ⟨F4, fs ++ [⟨pr, pc, pn, 0⟩], max most (fs.length + 1), (HST.out.1.below (Below.refl w5.heap.size w5).drew).below hb9, by have := HMO.out; omega, (HST.out.2.drew).trans (hb9.mono HST.out.2.drew.size)⟩
            · as_aux_lemma =>
                go_wp2_with fail
                refine (push10_no hst3 pr pc pn HFT.out.2.1 HFT.out.2.2.1 hpk).mono ?_
                rintro e w4 ⟨rfl, hb4⟩
                have hst4 := hst3.below hb4
                have hb4' := hb3'.trans (hb4.mono hbw3)
                replace o2 := cell_below o2 hb4
                replace o3 := cell_below o3 hb4
                replace o4 := cell_below o4 hb4
                have hown4 := hown6.kept (⟨hb4.os, hb4.tape, hb4.output, hb4.size, fun k hk _ => hb4.block k hk⟩ : w3.grownBy w4 none) (by cases (Value.slice a6 fs.length c6).ownBlock; exact .inl rfl; exact .inr (by simp))
                clear hst3 hown6 hb3' o0 o1 rO3 hb3 hb4
                go_wp2_with fail
                refine (all9 hst4).mono ?_
                rintro e w5 ⟨v8, rfl, hown8, hb5⟩
                obtain ⟨a8, c8, hv8⟩ := row_any hown8
                subst hv8
                have hst5 := hst4.below hb5
                have hb5' := hb4'.trans (hb5.mono hb4'.size)
                replace o2 := cell_below o2 hb5
                replace o3 := cell_below o3 hb5
                replace o4 := cell_below o4 hb5
                have hown5 := hown4.kept (⟨hb5.os, hb5.tape, hb5.output, hb5.size, fun k hk _ => hb5.block k hk⟩ : w4.grownBy w5 none) (by cases (Value.slice a6 fs.length c6).ownBlock; exact .inl rfl; exact .inr (by simp))
                have HEQ := Lib.hid (eq11 a8 a6 c8 c6 fs.length fs w5 (frs_own hown8) (frs_own hown5) rfl (by omega))
                clear hst4 hb4' hown4 hown5 hown8 hb5
                have hne0 : (pushErr fs pr pc pn == 0) = false := beq_eq_false_iff_ne.2 (by unfold pushErr; split; decide; split <;> decide)
                have h26 : pushErr fs pr pc pn = 26 → (pos fs pr pc).isSome = true := fun e => by
                  unfold pushErr at e
                  split at e
                  · cases e
                  · rename_i hmy
                    split at e
                    · cases e
                    · rename_i hkk
                      cases ep : pos fs pr pc with
                      | some i => rfl
                      | none => exact absurd ⟨by simpa using hmy, Decidable.not_not.1 hkk, ep⟩ hpk
                generalize pushErr fs pr pc pn = pe at hne0 h26 ⊢
                clear hpk
                go_wp2_with fail
                refine HEQ.out.mono ?_
                rintro e w9 ⟨rfl, hb9⟩
                have hst9 := hst5.below hb9
                have hb9' := hb5'.trans (hb9.mono hb5'.size)
                replace o2 := cell_below o2 hb9
                replace o3 := cell_below o3 hb9
                clear hst5 hb5' hb9 o4
                by_cases he : pe = 26
                · have hbe : (pe == 26) = true := by rw [he]; rfl
                  have hps := h26 he
                  clear h26 he
                  go_wp2_with fail
                  refine (has12 hst9 pr pc HFT.out.2.1 HFT.out.2.2.1).mono ?_
                  rw [hps]
                  rintro e w10 ⟨rfl, hb10⟩
                  have HST := Lib.hid (And.intro (hst9.below hb10) (hb9'.trans (hb10.mono hb9'.size)))
                  clear hst9 hb9' hb10
                  go_wp2_with fail
                  go_meet
                  case rel => exact ⟨F, fs, most, HST.out.1, by omega, HST.out.2⟩
                · have hbe : (pe == 26) = false := beq_eq_false_iff_ne.2 he
                  have HST := Lib.hid (And.intro hst9 hb9')
                  clear h26 he hst9 hb9'
                  go_wp2_with fail
                  go_meet
                  case rel => exact ⟨F, fs, most, HST.out.1, by omega, HST.out.2⟩
          · by_cases h2 : ok = 2
            · subst h2
              rcases list_cases fs with rfl | ⟨gs, f, rfl⟩
              · as_aux_lemma =>
                  go_wp2_with fail
                  refine (pop13_none hst3).mono ?_
                  rintro e w4 ⟨rfl, hb4⟩
                  have hbo := (Below.refl w4.heap.size w4).alloc (Nat.le_refl _) (.cells #[.int .i64 0, .int .i64 0, .int .i64 0, .int .i64 0] 36)
                  have hb4o := hb4.trans (hbo.mono hb4.size)
                  have hst4 := hst3.below hb4o
                  have hb4' := hb3'.trans (hb4o.mono hbw3)
                  simp only [frV, zeroF]
                  clear hst3 hb3' hb4 hbo hb4o o0 o1 o2 o3 o4 rO3 hb3 hown6
                  go_wp2_with fail
                  refine (all9 hst4).mono ?_
                  rintro e w5 ⟨v8, rfl, hown8, hb5⟩
                  obtain ⟨a8, c8, hv8⟩ := row_any hown8
                  subst hv8
                  have HST := Lib.hid (And.intro (hst4.below hb5) (hb4'.trans (hb5.mono hb4'.size)))
                  clear hst4 hb4' hown8 hb5
                  go_wp2_with fail
                  refine wp_region_noPanic ?_
                  refine wp_region_held_drew (S := (fun _ => True)) (by kernel_rfl) (trivial) (fun hHeld => ?_)
                  first
                  | (refine wpAnyH_take (i := 0) (oi := ?o4_0) (v := undef) ?hi4_0 (by kernel_rfl) (by kernel_rfl) (by kernel_rfl) (fun _ _ _ h => h) ?hy4_0 (by assumption) ?hr4_0
                     case hi4_0 => (simp only [List.getElem?_toArray, List.getElem?_cons_succ, List.getElem?_cons_zero]; rfl)
                     case hy4_0 => exact Or.inr ⟨by rfl, rfl⟩)
                  | (refine wpAnyH_take (i := 0) (oi := ?o4_0) (v := ?v4_0) ?hi4_0 (by kernel_rfl) (by kernel_rfl) (by kernel_rfl) (fun _ _ _ h => h) ?hy4_0 (by assumption) ?hr4_0
                     case hi4_0 => (simp only [List.getElem?_toArray, List.getElem?_cons_succ, List.getElem?_cons_zero]; rfl)
                     case hy4_0 => (refine Or.inl ⟨by rfl, ?_⟩; intro w hSw; (try dsimp only at hSw); go_simp <;> with_reducible rfl))
                  try simp only [Act.put, List.setIfInBounds_toArray, List.set_cons_zero, List.set_cons_succ]
                  first
                  | (refine wpAnyH_take (i := 1) (oi := ?o4_1) (v := undef) ?hi4_1 (by kernel_rfl) (by kernel_rfl) (by kernel_rfl) (fun _ _ _ h => h) ?hy4_1 (by assumption) ?hr4_1
                     case hi4_1 => (simp only [List.getElem?_toArray, List.getElem?_cons_succ, List.getElem?_cons_zero]; rfl)
                     case hy4_1 => exact Or.inr ⟨by rfl, rfl⟩)
                  | (refine wpAnyH_take (i := 1) (oi := ?o4_1) (v := ?v4_1) ?hi4_1 (by kernel_rfl) (by kernel_rfl) (by kernel_rfl) (fun _ _ _ h => h) ?hy4_1 (by assumption) ?hr4_1
                     case hi4_1 => (simp only [List.getElem?_toArray, List.getElem?_cons_succ, List.getElem?_cons_zero]; rfl)
                     case hy4_1 => (refine Or.inl ⟨by rfl, ?_⟩; intro w hSw; (try dsimp only at hSw); go_simp <;> with_reducible rfl))
                  try simp only [Act.put, List.setIfInBounds_toArray, List.set_cons_zero, List.set_cons_succ]
                  first
                  | (refine wpAnyH_take (i := 2) (oi := ?o4_2) (v := undef) ?hi4_2 (by kernel_rfl) (by kernel_rfl) (by kernel_rfl) (fun _ _ _ h => h) ?hy4_2 (by assumption) ?hr4_2
                     case hi4_2 => (simp only [List.getElem?_toArray, List.getElem?_cons_succ, List.getElem?_cons_zero]; rfl)
                     case hy4_2 => exact Or.inr ⟨by rfl, rfl⟩)
                  | (refine wpAnyH_take (i := 2) (oi := ?o4_2) (v := ?v4_2) ?hi4_2 (by kernel_rfl) (by kernel_rfl) (by kernel_rfl) (fun _ _ _ h => h) ?hy4_2 (by assumption) ?hr4_2
                     case hi4_2 => (simp only [List.getElem?_toArray, List.getElem?_cons_succ, List.getElem?_cons_zero]; rfl)
                     case hy4_2 => (refine Or.inl ⟨by rfl, ?_⟩; intro w hSw; (try dsimp only at hSw); go_simp <;> with_reducible rfl))
                  try simp only [Act.put, List.setIfInBounds_toArray, List.set_cons_zero, List.set_cons_succ]
                  first
                  | (refine wpAnyH_take (i := 3) (oi := ?o4_3) (v := undef) ?hi4_3 (by kernel_rfl) (by kernel_rfl) (by kernel_rfl) (fun _ _ _ h => h) ?hy4_3 (by assumption) ?hr4_3
                     case hi4_3 => (simp only [List.getElem?_toArray, List.getElem?_cons_succ, List.getElem?_cons_zero]; rfl)
                     case hy4_3 => exact Or.inr ⟨by rfl, rfl⟩)
                  | (refine wpAnyH_take (i := 3) (oi := ?o4_3) (v := ?v4_3) ?hi4_3 (by kernel_rfl) (by kernel_rfl) (by kernel_rfl) (fun _ _ _ h => h) ?hy4_3 (by assumption) ?hr4_3
                     case hi4_3 => (simp only [List.getElem?_toArray, List.getElem?_cons_succ, List.getElem?_cons_zero]; rfl)
                     case hy4_3 => (refine Or.inl ⟨by rfl, ?_⟩; intro w hSw; (try dsimp only at hSw); go_simp <;> with_reducible rfl))
                  try simp only [Act.put, List.setIfInBounds_toArray, List.set_cons_zero, List.set_cons_succ]
                  first
                  | (refine wpAnyH_take (i := 4) (oi := ?o4_4) (v := undef) ?hi4_4 (by kernel_rfl) (by kernel_rfl) (by kernel_rfl) (fun _ _ _ h => h) ?hy4_4 (by assumption) ?hr4_4
                     case hi4_4 => (simp only [List.getElem?_toArray, List.getElem?_cons_succ, List.getElem?_cons_zero]; rfl)
                     case hy4_4 => exact Or.inr ⟨by rfl, rfl⟩)
                  | (refine wpAnyH_take (i := 4) (oi := ?o4_4) (v := ?v4_4) ?hi4_4 (by kernel_rfl) (by kernel_rfl) (by kernel_rfl) (fun _ _ _ h => h) ?hy4_4 (by assumption) ?hr4_4
                     case hi4_4 => (simp only [List.getElem?_toArray, List.getElem?_cons_succ, List.getElem?_cons_zero]; rfl)
                     case hy4_4 => (refine Or.inl ⟨by rfl, ?_⟩; intro w hSw; (try dsimp only at hSw); go_simp <;> with_reducible rfl))
                  try simp only [Act.put, List.setIfInBounds_toArray, List.set_cons_zero, List.set_cons_succ]
                  first
                  | (refine wpAnyH_take (i := 5) (oi := ?o4_5) (v := undef) ?hi4_5 (by kernel_rfl) (by kernel_rfl) (by kernel_rfl) (fun _ _ _ h => h) ?hy4_5 (by assumption) ?hr4_5
                     case hi4_5 => (simp only [List.getElem?_toArray, List.getElem?_cons_succ, List.getElem?_cons_zero]; rfl)
                     case hy4_5 => exact Or.inr ⟨by rfl, rfl⟩)
                  | (refine wpAnyH_take (i := 5) (oi := ?o4_5) (v := ?v4_5) ?hi4_5 (by kernel_rfl) (by kernel_rfl) (by kernel_rfl) (fun _ _ _ h => h) ?hy4_5 (by assumption) ?hr4_5
                     case hi4_5 => (simp only [List.getElem?_toArray, List.getElem?_cons_succ, List.getElem?_cons_zero]; rfl)
                     case hy4_5 => (refine Or.inl ⟨by rfl, ?_⟩; intro w hSw; (try dsimp only at hSw); go_simp <;> with_reducible rfl))
                  try simp only [Act.put, List.setIfInBounds_toArray, List.set_cons_zero, List.set_cons_succ]
                  first
                  | (refine wpAnyH_take (i := 6) (oi := ?o4_6) (v := undef) ?hi4_6 (by kernel_rfl) (by kernel_rfl) (by kernel_rfl) (fun _ _ _ h => h) ?hy4_6 (by assumption) ?hr4_6
                     case hi4_6 => (simp only [List.getElem?_toArray, List.getElem?_cons_succ, List.getElem?_cons_zero]; rfl)
                     case hy4_6 => exact Or.inr ⟨by rfl, rfl⟩)
                  | (refine wpAnyH_take (i := 6) (oi := ?o4_6) (v := ?v4_6) ?hi4_6 (by kernel_rfl) (by kernel_rfl) (by kernel_rfl) (fun _ _ _ h => h) ?hy4_6 (by assumption) ?hr4_6
                     case hi4_6 => (simp only [List.getElem?_toArray, List.getElem?_cons_succ, List.getElem?_cons_zero]; rfl)
                     case hy4_6 => (refine Or.inl ⟨by rfl, ?_⟩; intro w hSw; (try dsimp only at hSw); go_simp <;> with_reducible rfl))
                  try simp only [Act.put, List.setIfInBounds_toArray, List.set_cons_zero, List.set_cons_succ]
                  first
                  | (refine wpAnyH_take (i := 7) (oi := ?o4_7) (v := undef) ?hi4_7 (by kernel_rfl) (by kernel_rfl) (by kernel_rfl) (fun _ _ _ h => h) ?hy4_7 (by assumption) ?hr4_7
                     case hi4_7 => (simp only [List.getElem?_toArray, List.getElem?_cons_succ, List.getElem?_cons_zero]; rfl)
                     case hy4_7 => exact Or.inr ⟨by rfl, rfl⟩)
                  | (refine wpAnyH_take (i := 7) (oi := ?o4_7) (v := ?v4_7) ?hi4_7 (by kernel_rfl) (by kernel_rfl) (by kernel_rfl) (fun _ _ _ h => h) ?hy4_7 (by assumption) ?hr4_7
                     case hi4_7 => (simp only [List.getElem?_toArray, List.getElem?_cons_succ, List.getElem?_cons_zero]; rfl)
                     case hy4_7 => (refine Or.inl ⟨by rfl, ?_⟩; intro w hSw; (try dsimp only at hSw); go_simp <;> with_reducible rfl))
                  try simp only [Act.put, List.setIfInBounds_toArray, List.set_cons_zero, List.set_cons_succ]
                  first
                  | (refine wpAnyH_take (i := 8) (oi := ?o4_8) (v := undef) ?hi4_8 (by kernel_rfl) (by kernel_rfl) (by kernel_rfl) (fun _ _ _ h => h) ?hy4_8 (by assumption) ?hr4_8
                     case hi4_8 => (simp only [List.getElem?_toArray, List.getElem?_cons_succ, List.getElem?_cons_zero]; rfl)
                     case hy4_8 => exact Or.inr ⟨by rfl, rfl⟩)
                  | (refine wpAnyH_take (i := 8) (oi := ?o4_8) (v := ?v4_8) ?hi4_8 (by kernel_rfl) (by kernel_rfl) (by kernel_rfl) (fun _ _ _ h => h) ?hy4_8 (by assumption) ?hr4_8
                     case hi4_8 => (simp only [List.getElem?_toArray, List.getElem?_cons_succ, List.getElem?_cons_zero]; rfl)
                     case hy4_8 => (refine Or.inl ⟨by rfl, ?_⟩; intro w hSw; (try dsimp only at hSw); go_simp <;> with_reducible rfl))
                  try simp only [Act.put, List.setIfInBounds_toArray, List.set_cons_zero, List.set_cons_succ]
                  first
                  | (refine wpAnyH_take (i := 9) (oi := ?o4_9) (v := undef) ?hi4_9 (by kernel_rfl) (by kernel_rfl) (by kernel_rfl) (fun _ _ _ h => h) ?hy4_9 (by assumption) ?hr4_9
                     case hi4_9 => (simp only [List.getElem?_toArray, List.getElem?_cons_succ, List.getElem?_cons_zero]; rfl)
                     case hy4_9 => exact Or.inr ⟨by rfl, rfl⟩)
                  | (refine wpAnyH_take (i := 9) (oi := ?o4_9) (v := ?v4_9) ?hi4_9 (by kernel_rfl) (by kernel_rfl) (by kernel_rfl) (fun _ _ _ h => h) ?hy4_9 (by assumption) ?hr4_9
                     case hi4_9 => (simp only [List.getElem?_toArray, List.getElem?_cons_succ, List.getElem?_cons_zero]; rfl)
                     case hy4_9 => (refine Or.inl ⟨by rfl, ?_⟩; intro w hSw; (try dsimp only at hSw); go_simp <;> with_reducible rfl))
                  try simp only [Act.put, List.setIfInBounds_toArray, List.set_cons_zero, List.set_cons_succ]
                  first
                  | (refine wpAnyH_take (i := 10) (oi := ?o4_10) (v := undef) ?hi4_10 (by kernel_rfl) (by kernel_rfl) (by kernel_rfl) (fun _ _ _ h => h) ?hy4_10 (by assumption) ?hr4_10
                     case hi4_10 => (simp only [List.getElem?_toArray, List.getElem?_cons_succ, List.getElem?_cons_zero]; rfl)
                     case hy4_10 => exact Or.inr ⟨by rfl, rfl⟩)
                  | (refine wpAnyH_take (i := 10) (oi := ?o4_10) (v := ?v4_10) ?hi4_10 (by kernel_rfl) (by kernel_rfl) (by kernel_rfl) (fun _ _ _ h => h) ?hy4_10 (by assumption) ?hr4_10
                     case hi4_10 => (simp only [List.getElem?_toArray, List.getElem?_cons_succ, List.getElem?_cons_zero]; rfl)
                     case hy4_10 => (refine Or.inl ⟨by rfl, ?_⟩; intro w hSw; (try dsimp only at hSw); go_simp <;> with_reducible rfl))
                  try simp only [Act.put, List.setIfInBounds_toArray, List.set_cons_zero, List.set_cons_succ]
                  first
                  | (refine wpAnyH_take (i := 11) (oi := ?o4_11) (v := undef) ?hi4_11 (by kernel_rfl) (by kernel_rfl) (by kernel_rfl) (fun _ _ _ h => h) ?hy4_11 (by assumption) ?hr4_11
                     case hi4_11 => (simp only [List.getElem?_toArray, List.getElem?_cons_succ, List.getElem?_cons_zero]; rfl)
                     case hy4_11 => exact Or.inr ⟨by rfl, rfl⟩)
                  | (refine wpAnyH_take (i := 11) (oi := ?o4_11) (v := ?v4_11) ?hi4_11 (by kernel_rfl) (by kernel_rfl) (by kernel_rfl) (fun _ _ _ h => h) ?hy4_11 (by assumption) ?hr4_11
                     case hi4_11 => (simp only [List.getElem?_toArray, List.getElem?_cons_succ, List.getElem?_cons_zero]; rfl)
                     case hy4_11 => (refine Or.inl ⟨by rfl, ?_⟩; intro w hSw; (try dsimp only at hSw); go_simp <;> with_reducible rfl))
                  try simp only [Act.put, List.setIfInBounds_toArray, List.set_cons_zero, List.set_cons_succ]
                  first
                  | (refine wpAnyH_take (i := 12) (oi := ?o4_12) (v := undef) ?hi4_12 (by kernel_rfl) (by kernel_rfl) (by kernel_rfl) (fun _ _ _ h => h) ?hy4_12 (by assumption) ?hr4_12
                     case hi4_12 => (simp only [List.getElem?_toArray, List.getElem?_cons_succ, List.getElem?_cons_zero]; rfl)
                     case hy4_12 => exact Or.inr ⟨by rfl, rfl⟩)
                  | (refine wpAnyH_take (i := 12) (oi := ?o4_12) (v := ?v4_12) ?hi4_12 (by kernel_rfl) (by kernel_rfl) (by kernel_rfl) (fun _ _ _ h => h) ?hy4_12 (by assumption) ?hr4_12
                     case hi4_12 => (simp only [List.getElem?_toArray, List.getElem?_cons_succ, List.getElem?_cons_zero]; rfl)
                     case hy4_12 => (refine Or.inl ⟨by rfl, ?_⟩; intro w hSw; (try dsimp only at hSw); go_simp <;> with_reducible rfl))
                  try simp only [Act.put, List.setIfInBounds_toArray, List.set_cons_zero, List.set_cons_succ]
                  first
                  | (refine wpAnyH_take (i := 13) (oi := ?o4_13) (v := undef) ?hi4_13 (by kernel_rfl) (by kernel_rfl) (by kernel_rfl) (fun _ _ _ h => h) ?hy4_13 (by assumption) ?hr4_13
                     case hi4_13 => (simp only [List.getElem?_toArray, List.getElem?_cons_succ, List.getElem?_cons_zero]; rfl)
                     case hy4_13 => exact Or.inr ⟨by rfl, rfl⟩)
                  | (refine wpAnyH_take (i := 13) (oi := ?o4_13) (v := ?v4_13) ?hi4_13 (by kernel_rfl) (by kernel_rfl) (by kernel_rfl) (fun _ _ _ h => h) ?hy4_13 (by assumption) ?hr4_13
                     case hi4_13 => (simp only [List.getElem?_toArray, List.getElem?_cons_succ, List.getElem?_cons_zero]; rfl)
                     case hy4_13 => (refine Or.inl ⟨by rfl, ?_⟩; intro w hSw; (try dsimp only at hSw); go_simp <;> with_reducible rfl))
                  try simp only [Act.put, List.setIfInBounds_toArray, List.set_cons_zero, List.set_cons_succ]
                  first
                  | (refine wpAnyH_take (i := 14) (oi := ?o4_14) (v := undef) ?hi4_14 (by kernel_rfl) (by kernel_rfl) (by kernel_rfl) (fun _ _ _ h => h) ?hy4_14 (by assumption) ?hr4_14
                     case hi4_14 => (simp only [List.getElem?_toArray, List.getElem?_cons_succ, List.getElem?_cons_zero]; rfl)
                     case hy4_14 => exact Or.inr ⟨by rfl, rfl⟩)
                  | (refine wpAnyH_take (i := 14) (oi := ?o4_14) (v := ?v4_14) ?hi4_14 (by kernel_rfl) (by kernel_rfl) (by kernel_rfl) (fun _ _ _ h => h) ?hy4_14 (by assumption) ?hr4_14
                     case hi4_14 => (simp only [List.getElem?_toArray, List.getElem?_cons_succ, List.getElem?_cons_zero]; rfl)
                     case hy4_14 => (refine Or.inl ⟨by rfl, ?_⟩; intro w hSw; (try dsimp only at hSw); go_simp <;> with_reducible rfl))
                  try simp only [Act.put, List.setIfInBounds_toArray, List.set_cons_zero, List.set_cons_succ]
                  first
                  | (refine wpAnyH_take (i := 15) (oi := ?o4_15) (v := undef) ?hi4_15 (by kernel_rfl) (by kernel_rfl) (by kernel_rfl) (fun _ _ _ h => h) ?hy4_15 (by assumption) ?hr4_15
                     case hi4_15 => (simp only [List.getElem?_toArray, List.getElem?_cons_succ, List.getElem?_cons_zero]; rfl)
                     case hy4_15 => exact Or.inr ⟨by rfl, rfl⟩)
                  | (refine wpAnyH_take (i := 15) (oi := ?o4_15) (v := ?v4_15) ?hi4_15 (by kernel_rfl) (by kernel_rfl) (by kernel_rfl) (fun _ _ _ h => h) ?hy4_15 (by assumption) ?hr4_15
                     case hi4_15 => (simp only [List.getElem?_toArray, List.getElem?_cons_succ, List.getElem?_cons_zero]; rfl)
                     case hy4_15 => (refine Or.inl ⟨by rfl, ?_⟩; intro w hSw; (try dsimp only at hSw); go_simp <;> with_reducible rfl))
                  try simp only [Act.put, List.setIfInBounds_toArray, List.set_cons_zero, List.set_cons_succ]
                  first
                  | (refine wpAnyH_take (i := 16) (oi := ?o4_16) (v := undef) ?hi4_16 (by kernel_rfl) (by kernel_rfl) (by kernel_rfl) (fun _ _ _ h => h) ?hy4_16 (by assumption) ?hr4_16
                     case hi4_16 => (simp only [List.getElem?_toArray, List.getElem?_cons_succ, List.getElem?_cons_zero]; rfl)
                     case hy4_16 => exact Or.inr ⟨by rfl, rfl⟩)
                  | (refine wpAnyH_take (i := 16) (oi := ?o4_16) (v := ?v4_16) ?hi4_16 (by kernel_rfl) (by kernel_rfl) (by kernel_rfl) (fun _ _ _ h => h) ?hy4_16 (by assumption) ?hr4_16
                     case hi4_16 => (simp only [List.getElem?_toArray, List.getElem?_cons_succ, List.getElem?_cons_zero]; rfl)
                     case hy4_16 => (refine Or.inl ⟨by rfl, ?_⟩; intro w hSw; (try dsimp only at hSw); go_simp <;> with_reducible rfl))
                  try simp only [Act.put, List.setIfInBounds_toArray, List.set_cons_zero, List.set_cons_succ]
                  first
                  | (refine wpAnyH_take (i := 17) (oi := ?o4_17) (v := undef) ?hi4_17 (by kernel_rfl) (by kernel_rfl) (by kernel_rfl) (fun _ _ _ h => h) ?hy4_17 (by assumption) ?hr4_17
                     case hi4_17 => (simp only [List.getElem?_toArray, List.getElem?_cons_succ, List.getElem?_cons_zero]; rfl)
                     case hy4_17 => exact Or.inr ⟨by rfl, rfl⟩)
                  | (refine wpAnyH_take (i := 17) (oi := ?o4_17) (v := ?v4_17) ?hi4_17 (by kernel_rfl) (by kernel_rfl) (by kernel_rfl) (fun _ _ _ h => h) ?hy4_17 (by assumption) ?hr4_17
                     case hi4_17 => (simp only [List.getElem?_toArray, List.getElem?_cons_succ, List.getElem?_cons_zero]; rfl)
                     case hy4_17 => (refine Or.inl ⟨by rfl, ?_⟩; intro w hSw; (try dsimp only at hSw); go_simp <;> with_reducible rfl))
                  try simp only [Act.put, List.setIfInBounds_toArray, List.set_cons_zero, List.set_cons_succ]
                  first
                  | (refine wpAnyH_take (i := 18) (oi := ?o4_18) (v := undef) ?hi4_18 (by kernel_rfl) (by kernel_rfl) (by kernel_rfl) (fun _ _ _ h => h) ?hy4_18 (by assumption) ?hr4_18
                     case hi4_18 => (simp only [List.getElem?_toArray, List.getElem?_cons_succ, List.getElem?_cons_zero]; rfl)
                     case hy4_18 => exact Or.inr ⟨by rfl, rfl⟩)
                  | (refine wpAnyH_take (i := 18) (oi := ?o4_18) (v := ?v4_18) ?hi4_18 (by kernel_rfl) (by kernel_rfl) (by kernel_rfl) (fun _ _ _ h => h) ?hy4_18 (by assumption) ?hr4_18
                     case hi4_18 => (simp only [List.getElem?_toArray, List.getElem?_cons_succ, List.getElem?_cons_zero]; rfl)
                     case hy4_18 => (refine Or.inl ⟨by rfl, ?_⟩; intro w hSw; (try dsimp only at hSw); go_simp <;> with_reducible rfl))
                  try simp only [Act.put, List.setIfInBounds_toArray, List.set_cons_zero, List.set_cons_succ]
                  first
                  | (refine wpAnyH_take (i := 19) (oi := ?o4_19) (v := undef) ?hi4_19 (by kernel_rfl) (by kernel_rfl) (by kernel_rfl) (fun _ _ _ h => h) ?hy4_19 (by assumption) ?hr4_19
                     case hi4_19 => (simp only [List.getElem?_toArray, List.getElem?_cons_succ, List.getElem?_cons_zero]; rfl)
                     case hy4_19 => exact Or.inr ⟨by rfl, rfl⟩)
                  | (refine wpAnyH_take (i := 19) (oi := ?o4_19) (v := ?v4_19) ?hi4_19 (by kernel_rfl) (by kernel_rfl) (by kernel_rfl) (fun _ _ _ h => h) ?hy4_19 (by assumption) ?hr4_19
                     case hi4_19 => (simp only [List.getElem?_toArray, List.getElem?_cons_succ, List.getElem?_cons_zero]; rfl)
                     case hy4_19 => (refine Or.inl ⟨by rfl, ?_⟩; intro w hSw; (try dsimp only at hSw); go_simp <;> with_reducible rfl))
                  try simp only [Act.put, List.setIfInBounds_toArray, List.set_cons_zero, List.set_cons_succ]
                  first
                  | (refine wpAnyH_take (i := 20) (oi := ?o4_20) (v := undef) ?hi4_20 (by kernel_rfl) (by kernel_rfl) (by kernel_rfl) (fun _ _ _ h => h) ?hy4_20 (by assumption) ?hr4_20
                     case hi4_20 => (simp only [List.getElem?_toArray, List.getElem?_cons_succ, List.getElem?_cons_zero]; rfl)
                     case hy4_20 => exact Or.inr ⟨by rfl, rfl⟩)
                  | (refine wpAnyH_take (i := 20) (oi := ?o4_20) (v := ?v4_20) ?hi4_20 (by kernel_rfl) (by kernel_rfl) (by kernel_rfl) (fun _ _ _ h => h) ?hy4_20 (by assumption) ?hr4_20
                     case hi4_20 => (simp only [List.getElem?_toArray, List.getElem?_cons_succ, List.getElem?_cons_zero]; rfl)
                     case hy4_20 => (refine Or.inl ⟨by rfl, ?_⟩; intro w hSw; (try dsimp only at hSw); go_simp <;> with_reducible rfl))
                  try simp only [Act.put, List.setIfInBounds_toArray, List.set_cons_zero, List.set_cons_succ]
                  first
                  | (refine wpAnyH_take (i := 21) (oi := ?o4_21) (v := undef) ?hi4_21 (by kernel_rfl) (by kernel_rfl) (by kernel_rfl) (fun _ _ _ h => h) ?hy4_21 (by assumption) ?hr4_21
                     case hi4_21 => (simp only [List.getElem?_toArray, List.getElem?_cons_succ, List.getElem?_cons_zero]; rfl)
                     case hy4_21 => exact Or.inr ⟨by rfl, rfl⟩)
                  | (refine wpAnyH_take (i := 21) (oi := ?o4_21) (v := ?v4_21) ?hi4_21 (by kernel_rfl) (by kernel_rfl) (by kernel_rfl) (fun _ _ _ h => h) ?hy4_21 (by assumption) ?hr4_21
                     case hi4_21 => (simp only [List.getElem?_toArray, List.getElem?_cons_succ, List.getElem?_cons_zero]; rfl)
                     case hy4_21 => (refine Or.inl ⟨by rfl, ?_⟩; intro w hSw; (try dsimp only at hSw); go_simp <;> with_reducible rfl))
                  try simp only [Act.put, List.setIfInBounds_toArray, List.set_cons_zero, List.set_cons_succ]
                  first
                  | (refine wpAnyH_take (i := 22) (oi := ?o4_22) (v := undef) ?hi4_22 (by kernel_rfl) (by kernel_rfl) (by kernel_rfl) (fun _ _ _ h => h) ?hy4_22 (by assumption) ?hr4_22
                     case hi4_22 => (simp only [List.getElem?_toArray, List.getElem?_cons_succ, List.getElem?_cons_zero]; rfl)
                     case hy4_22 => exact Or.inr ⟨by rfl, rfl⟩)
                  | (refine wpAnyH_take (i := 22) (oi := ?o4_22) (v := ?v4_22) ?hi4_22 (by kernel_rfl) (by kernel_rfl) (by kernel_rfl) (fun _ _ _ h => h) ?hy4_22 (by assumption) ?hr4_22
                     case hi4_22 => (simp only [List.getElem?_toArray, List.getElem?_cons_succ, List.getElem?_cons_zero]; rfl)
                     case hy4_22 => (refine Or.inl ⟨by rfl, ?_⟩; intro w hSw; (try dsimp only at hSw); go_simp <;> with_reducible rfl))
                  try simp only [Act.put, List.setIfInBounds_toArray, List.set_cons_zero, List.set_cons_succ]
                  first
                  | (refine wpAnyH_take (i := 23) (oi := ?o4_23) (v := undef) ?hi4_23 (by kernel_rfl) (by kernel_rfl) (by kernel_rfl) (fun _ _ _ h => h) ?hy4_23 (by assumption) ?hr4_23
                     case hi4_23 => (simp only [List.getElem?_toArray, List.getElem?_cons_succ, List.getElem?_cons_zero]; rfl)
                     case hy4_23 => exact Or.inr ⟨by rfl, rfl⟩)
                  | (refine wpAnyH_take (i := 23) (oi := ?o4_23) (v := ?v4_23) ?hi4_23 (by kernel_rfl) (by kernel_rfl) (by kernel_rfl) (fun _ _ _ h => h) ?hy4_23 (by assumption) ?hr4_23
                     case hi4_23 => (simp only [List.getElem?_toArray, List.getElem?_cons_succ, List.getElem?_cons_zero]; rfl)
                     case hy4_23 => (refine Or.inl ⟨by rfl, ?_⟩; intro w hSw; (try dsimp only at hSw); go_simp <;> with_reducible rfl))
                  try simp only [Act.put, List.setIfInBounds_toArray, List.set_cons_zero, List.set_cons_succ]
                  first
                  | (refine wpAnyH_take (i := 24) (oi := ?o4_24) (v := undef) ?hi4_24 (by kernel_rfl) (by kernel_rfl) (by kernel_rfl) (fun _ _ _ h => h) ?hy4_24 (by assumption) ?hr4_24
                     case hi4_24 => (simp only [List.getElem?_toArray, List.getElem?_cons_succ, List.getElem?_cons_zero]; rfl)
                     case hy4_24 => exact Or.inr ⟨by rfl, rfl⟩)
                  | (refine wpAnyH_take (i := 24) (oi := ?o4_24) (v := ?v4_24) ?hi4_24 (by kernel_rfl) (by kernel_rfl) (by kernel_rfl) (fun _ _ _ h => h) ?hy4_24 (by assumption) ?hr4_24
                     case hi4_24 => (simp only [List.getElem?_toArray, List.getElem?_cons_succ, List.getElem?_cons_zero]; rfl)
                     case hy4_24 => (refine Or.inl ⟨by rfl, ?_⟩; intro w hSw; (try dsimp only at hSw); go_simp <;> with_reducible rfl))
                  try simp only [Act.put, List.setIfInBounds_toArray, List.set_cons_zero, List.set_cons_succ]
                  first
                  | (refine wpAnyH_take (i := 25) (oi := ?o4_25) (v := undef) ?hi4_25 (by kernel_rfl) (by kernel_rfl) (by kernel_rfl) (fun _ _ _ h => h) ?hy4_25 (by assumption) ?hr4_25
                     case hi4_25 => (simp only [List.getElem?_toArray, List.getElem?_cons_succ, List.getElem?_cons_zero]; rfl)
                     case hy4_25 => exact Or.inr ⟨by rfl, rfl⟩)
                  | (refine wpAnyH_take (i := 25) (oi := ?o4_25) (v := ?v4_25) ?hi4_25 (by kernel_rfl) (by kernel_rfl) (by kernel_rfl) (fun _ _ _ h => h) ?hy4_25 (by assumption) ?hr4_25
                     case hi4_25 => (simp only [List.getElem?_toArray, List.getElem?_cons_succ, List.getElem?_cons_zero]; rfl)
                     case hy4_25 => (refine Or.inl ⟨by rfl, ?_⟩; intro w hSw; (try dsimp only at hSw); go_simp <;> with_reducible rfl))
                  try simp only [Act.put, List.setIfInBounds_toArray, List.set_cons_zero, List.set_cons_succ]
                  first
                  | (refine wpAnyH_take (i := 26) (oi := ?o4_26) (v := undef) ?hi4_26 (by kernel_rfl) (by kernel_rfl) (by kernel_rfl) (fun _ _ _ h => h) ?hy4_26 (by assumption) ?hr4_26
                     case hi4_26 => (simp only [List.getElem?_toArray, List.getElem?_cons_succ, List.getElem?_cons_zero]; rfl)
                     case hy4_26 => exact Or.inr ⟨by rfl, rfl⟩)
                  | (refine wpAnyH_take (i := 26) (oi := ?o4_26) (v := ?v4_26) ?hi4_26 (by kernel_rfl) (by kernel_rfl) (by kernel_rfl) (fun _ _ _ h => h) ?hy4_26 (by assumption) ?hr4_26
                     case hi4_26 => (simp only [List.getElem?_toArray, List.getElem?_cons_succ, List.getElem?_cons_zero]; rfl)
                     case hy4_26 => (refine Or.inl ⟨by rfl, ?_⟩; intro w hSw; (try dsimp only at hSw); go_simp <;> with_reducible rfl))
                  try simp only [Act.put, List.setIfInBounds_toArray, List.set_cons_zero, List.set_cons_succ]
                  first
                  | (refine wpAnyH_take (i := 27) (oi := ?o4_27) (v := undef) ?hi4_27 (by kernel_rfl) (by kernel_rfl) (by kernel_rfl) (fun _ _ _ h => h) ?hy4_27 (by assumption) ?hr4_27
                     case hi4_27 => (simp only [List.getElem?_toArray, List.getElem?_cons_succ, List.getElem?_cons_zero]; rfl)
                     case hy4_27 => exact Or.inr ⟨by rfl, rfl⟩)
                  | (refine wpAnyH_take (i := 27) (oi := ?o4_27) (v := ?v4_27) ?hi4_27 (by kernel_rfl) (by kernel_rfl) (by kernel_rfl) (fun _ _ _ h => h) ?hy4_27 (by assumption) ?hr4_27
                     case hi4_27 => (simp only [List.getElem?_toArray, List.getElem?_cons_succ, List.getElem?_cons_zero]; rfl)
                     case hy4_27 => (refine Or.inl ⟨by rfl, ?_⟩; intro w hSw; (try dsimp only at hSw); go_simp <;> with_reducible rfl))
                  try simp only [Act.put, List.setIfInBounds_toArray, List.set_cons_zero, List.set_cons_succ]
                  first
                  | (refine wpAnyH_take (i := 28) (oi := ?o4_28) (v := undef) ?hi4_28 (by kernel_rfl) (by kernel_rfl) (by kernel_rfl) (fun _ _ _ h => h) ?hy4_28 (by assumption) ?hr4_28
                     case hi4_28 => (simp only [List.getElem?_toArray, List.getElem?_cons_succ, List.getElem?_cons_zero]; rfl)
                     case hy4_28 => exact Or.inr ⟨by rfl, rfl⟩)
                  | (refine wpAnyH_take (i := 28) (oi := ?o4_28) (v := ?v4_28) ?hi4_28 (by kernel_rfl) (by kernel_rfl) (by kernel_rfl) (fun _ _ _ h => h) ?hy4_28 (by assumption) ?hr4_28
                     case hi4_28 => (simp only [List.getElem?_toArray, List.getElem?_cons_succ, List.getElem?_cons_zero]; rfl)
                     case hy4_28 => (refine Or.inl ⟨by rfl, ?_⟩; intro w hSw; (try dsimp only at hSw); go_simp <;> with_reducible rfl))
                  try simp only [Act.put, List.setIfInBounds_toArray, List.set_cons_zero, List.set_cons_succ]
                  first
                  | (refine wpAnyH_take (i := 29) (oi := ?o4_29) (v := undef) ?hi4_29 (by kernel_rfl) (by kernel_rfl) (by kernel_rfl) (fun _ _ _ h => h) ?hy4_29 (by assumption) ?hr4_29
                     case hi4_29 => (simp only [List.getElem?_toArray, List.getElem?_cons_succ, List.getElem?_cons_zero]; rfl)
                     case hy4_29 => exact Or.inr ⟨by rfl, rfl⟩)
                  | (refine wpAnyH_take (i := 29) (oi := ?o4_29) (v := ?v4_29) ?hi4_29 (by kernel_rfl) (by kernel_rfl) (by kernel_rfl) (fun _ _ _ h => h) ?hy4_29 (by assumption) ?hr4_29
                     case hi4_29 => (simp only [List.getElem?_toArray, List.getElem?_cons_succ, List.getElem?_cons_zero]; rfl)
                     case hy4_29 => (refine Or.inl ⟨by rfl, ?_⟩; intro w hSw; (try dsimp only at hSw); go_simp <;> with_reducible rfl))
                  try simp only [Act.put, List.setIfInBounds_toArray, List.set_cons_zero, List.set_cons_succ]
                  first
                  | (refine wpAnyH_take (i := 30) (oi := ?o4_30) (v := undef) ?hi4_30 (by kernel_rfl) (by kernel_rfl) (by kernel_rfl) (fun _ _ _ h => h) ?hy4_30 (by assumption) ?hr4_30
                     case hi4_30 => (simp only [List.getElem?_toArray, List.getElem?_cons_succ, List.getElem?_cons_zero]; rfl)
                     case hy4_30 => exact Or.inr ⟨by rfl, rfl⟩)
                  | (refine wpAnyH_take (i := 30) (oi := ?o4_30) (v := ?v4_30) ?hi4_30 (by kernel_rfl) (by kernel_rfl) (by kernel_rfl) (fun _ _ _ h => h) ?hy4_30 (by assumption) ?hr4_30
                     case hi4_30 => (simp only [List.getElem?_toArray, List.getElem?_cons_succ, List.getElem?_cons_zero]; rfl)
                     case hy4_30 => (refine Or.inl ⟨by rfl, ?_⟩; intro w hSw; (try dsimp only at hSw); go_simp <;> with_reducible rfl))
                  try simp only [Act.put, List.setIfInBounds_toArray, List.set_cons_zero, List.set_cons_succ]
                  first
                  | (refine wpAnyH_take (i := 31) (oi := ?o4_31) (v := undef) ?hi4_31 (by kernel_rfl) (by kernel_rfl) (by kernel_rfl) (fun _ _ _ h => h) ?hy4_31 (by assumption) ?hr4_31
                     case hi4_31 => (simp only [List.getElem?_toArray, List.getElem?_cons_succ, List.getElem?_cons_zero]; rfl)
                     case hy4_31 => exact Or.inr ⟨by rfl, rfl⟩)
                  | (refine wpAnyH_take (i := 31) (oi := ?o4_31) (v := ?v4_31) ?hi4_31 (by kernel_rfl) (by kernel_rfl) (by kernel_rfl) (fun _ _ _ h => h) ?hy4_31 (by assumption) ?hr4_31
                     case hi4_31 => (simp only [List.getElem?_toArray, List.getElem?_cons_succ, List.getElem?_cons_zero]; rfl)
                     case hy4_31 => (refine Or.inl ⟨by rfl, ?_⟩; intro w hSw; (try dsimp only at hSw); go_simp <;> with_reducible rfl))
                  try simp only [Act.put, List.setIfInBounds_toArray, List.set_cons_zero, List.set_cons_succ]
                  first
                  | (refine wpAnyH_take (i := 32) (oi := ?o4_32) (v := undef) ?hi4_32 (by kernel_rfl) (by kernel_rfl) (by kernel_rfl) (fun _ _ _ h => h) ?hy4_32 (by assumption) ?hr4_32
                     case hi4_32 => (simp only [List.getElem?_toArray, List.getElem?_cons_succ, List.getElem?_cons_zero]; rfl)
                     case hy4_32 => exact Or.inr ⟨by rfl, rfl⟩)
                  | (refine wpAnyH_take (i := 32) (oi := ?o4_32) (v := ?v4_32) ?hi4_32 (by kernel_rfl) (by kernel_rfl) (by kernel_rfl) (fun _ _ _ h => h) ?hy4_32 (by assumption) ?hr4_32
                     case hi4_32 => (simp only [List.getElem?_toArray, List.getElem?_cons_succ, List.getElem?_cons_zero]; rfl)
                     case hy4_32 => (refine Or.inl ⟨by rfl, ?_⟩; intro w hSw; (try dsimp only at hSw); go_simp <;> with_reducible rfl))
                  try simp only [Act.put, List.setIfInBounds_toArray, List.set_cons_zero, List.set_cons_succ]
                  first
                  | (refine wpAnyH_take (i := 33) (oi := ?o4_33) (v := undef) ?hi4_33 (by kernel_rfl) (by kernel_rfl) (by kernel_rfl) (fun _ _ _ h => h) ?hy4_33 (by assumption) ?hr4_33
                     case hi4_33 => (simp only [List.getElem?_toArray, List.getElem?_cons_succ, List.getElem?_cons_zero]; rfl)
                     case hy4_33 => exact Or.inr ⟨by rfl, rfl⟩)
                  | (refine wpAnyH_take (i := 33) (oi := ?o4_33) (v := ?v4_33) ?hi4_33 (by kernel_rfl) (by kernel_rfl) (by kernel_rfl) (fun _ _ _ h => h) ?hy4_33 (by assumption) ?hr4_33
                     case hi4_33 => (simp only [List.getElem?_toArray, List.getElem?_cons_succ, List.getElem?_cons_zero]; rfl)
                     case hy4_33 => (refine Or.inl ⟨by rfl, ?_⟩; intro w hSw; (try dsimp only at hSw); go_simp <;> with_reducible rfl))
                  try simp only [Act.put, List.setIfInBounds_toArray, List.set_cons_zero, List.set_cons_succ]
                  first
                  | (refine wpAnyH_take (i := 34) (oi := ?o4_34) (v := undef) ?hi4_34 (by kernel_rfl) (by kernel_rfl) (by kernel_rfl) (fun _ _ _ h => h) ?hy4_34 (by assumption) ?hr4_34
                     case hi4_34 => (simp only [List.getElem?_toArray, List.getElem?_cons_succ, List.getElem?_cons_zero]; rfl)
                     case hy4_34 => exact Or.inr ⟨by rfl, rfl⟩)
                  | (refine wpAnyH_take (i := 34) (oi := ?o4_34) (v := ?v4_34) ?hi4_34 (by kernel_rfl) (by kernel_rfl) (by kernel_rfl) (fun _ _ _ h => h) ?hy4_34 (by assumption) ?hr4_34
                     case hi4_34 => (simp only [List.getElem?_toArray, List.getElem?_cons_succ, List.getElem?_cons_zero]; rfl)
                     case hy4_34 => (refine Or.inl ⟨by rfl, ?_⟩; intro w hSw; (try dsimp only at hSw); go_simp <;> with_reducible rfl))
                  try simp only [Act.put, List.setIfInBounds_toArray, List.set_cons_zero, List.set_cons_succ]
                  first
                  | (refine wpAnyH_take (i := 35) (oi := ?o4_35) (v := undef) ?hi4_35 (by kernel_rfl) (by kernel_rfl) (by kernel_rfl) (fun _ _ _ h => h) ?hy4_35 (by assumption) ?hr4_35
                     case hi4_35 => (simp only [List.getElem?_toArray, List.getElem?_cons_succ, List.getElem?_cons_zero]; rfl)
                     case hy4_35 => exact Or.inr ⟨by rfl, rfl⟩)
                  | (refine wpAnyH_take (i := 35) (oi := ?o4_35) (v := ?v4_35) ?hi4_35 (by kernel_rfl) (by kernel_rfl) (by kernel_rfl) (fun _ _ _ h => h) ?hy4_35 (by assumption) ?hr4_35
                     case hi4_35 => (simp only [List.getElem?_toArray, List.getElem?_cons_succ, List.getElem?_cons_zero]; rfl)
                     case hy4_35 => (refine Or.inl ⟨by rfl, ?_⟩; intro w hSw; (try dsimp only at hSw); go_simp <;> with_reducible rfl))
                  try simp only [Act.put, List.setIfInBounds_toArray, List.set_cons_zero, List.set_cons_succ]
                  first
                  | (refine wpAnyH_take (i := 36) (oi := ?o4_36) (v := undef) ?hi4_36 (by kernel_rfl) (by kernel_rfl) (by kernel_rfl) (fun _ _ _ h => h) ?hy4_36 (by assumption) ?hr4_36
                     case hi4_36 => (simp only [List.getElem?_toArray, List.getElem?_cons_succ, List.getElem?_cons_zero]; rfl)
                     case hy4_36 => exact Or.inr ⟨by rfl, rfl⟩)
                  | (refine wpAnyH_take (i := 36) (oi := ?o4_36) (v := ?v4_36) ?hi4_36 (by kernel_rfl) (by kernel_rfl) (by kernel_rfl) (fun _ _ _ h => h) ?hy4_36 (by assumption) ?hr4_36
                     case hi4_36 => (simp only [List.getElem?_toArray, List.getElem?_cons_succ, List.getElem?_cons_zero]; rfl)
                     case hy4_36 => (refine Or.inl ⟨by rfl, ?_⟩; intro w hSw; (try dsimp only at hSw); go_simp <;> with_reducible rfl))
                  try simp only [Act.put, List.setIfInBounds_toArray, List.set_cons_zero, List.set_cons_succ]
                  first
                  | (refine wpAnyH_take (i := 37) (oi := ?o4_37) (v := undef) ?hi4_37 (by kernel_rfl) (by kernel_rfl) (by kernel_rfl) (fun _ _ _ h => h) ?hy4_37 (by assumption) ?hr4_37
                     case hi4_37 => (simp only [List.getElem?_toArray, List.getElem?_cons_succ, List.getElem?_cons_zero]; rfl)
                     case hy4_37 => exact Or.inr ⟨by rfl, rfl⟩)
                  | (refine wpAnyH_take (i := 37) (oi := ?o4_37) (v := ?v4_37) ?hi4_37 (by kernel_rfl) (by kernel_rfl) (by kernel_rfl) (fun _ _ _ h => h) ?hy4_37 (by assumption) ?hr4_37
                     case hi4_37 => (simp only [List.getElem?_toArray, List.getElem?_cons_succ, List.getElem?_cons_zero]; rfl)
                     case hy4_37 => (refine Or.inl ⟨by rfl, ?_⟩; intro w hSw; (try dsimp only at hSw); go_simp <;> with_reducible rfl))
                  try simp only [Act.put, List.setIfInBounds_toArray, List.set_cons_zero, List.set_cons_succ]
                  first
                  | (refine wpAnyH_take (i := 38) (oi := ?o4_38) (v := undef) ?hi4_38 (by kernel_rfl) (by kernel_rfl) (by kernel_rfl) (fun _ _ _ h => h) ?hy4_38 (by assumption) ?hr4_38
                     case hi4_38 => (simp only [List.getElem?_toArray, List.getElem?_cons_succ, List.getElem?_cons_zero]; rfl)
                     case hy4_38 => exact Or.inr ⟨by rfl, rfl⟩)
                  | (refine wpAnyH_take (i := 38) (oi := ?o4_38) (v := ?v4_38) ?hi4_38 (by kernel_rfl) (by kernel_rfl) (by kernel_rfl) (fun _ _ _ h => h) ?hy4_38 (by assumption) ?hr4_38
                     case hi4_38 => (simp only [List.getElem?_toArray, List.getElem?_cons_succ, List.getElem?_cons_zero]; rfl)
                     case hy4_38 => (refine Or.inl ⟨by rfl, ?_⟩; intro w hSw; (try dsimp only at hSw); go_simp <;> with_reducible rfl))
                  try simp only [Act.put, List.setIfInBounds_toArray, List.set_cons_zero, List.set_cons_succ]
                  refine wpAnyH_done (by kernel_rfl) ?_ _
                  refine NoPanic.normal ?_
                  go_wp2_with fail
                  go_meet
                  case rel => exact ⟨F, [], most, HST.out.1.below (Below.refl w5.heap.size w5).drew, by omega, HST.out.2.drew⟩
              · as_aux_lemma =>
                  go_wp2_with fail
                  refine (pop13_some hst3).mono ?_
                  rintro e w4 ⟨rfl, F4, hst4, hap4, hF4⟩
                  have hown4 := hap4.row hown6 (fun x e e2 => by have := (hown6.lt x e).1; have := hsxO _ e2; omega)
                  have hb4' := Apt.below hb3' hap4 (fun x hx => (hst3.sx x hx).1) hbw3
                  have hbo := (Below.refl w4.heap.size w4).alloc (Nat.le_refl _) (.cells #[.int .i64 f.r, .int .i64 f.c, .int .i64 f.k, .int .i64 f.x] 36)
                  have rT := heap_alloc_new w4 (.cells #[.int .i64 f.r, .int .i64 f.c, .int .i64 f.k, .int .i64 f.x] 36)
                  have hst4o := hst4.below hbo
                  have hb4o := hb4'.trans (hbo.mono hb4'.size)
                  have hown4o := hown4.alloc (.cells #[.int .i64 f.r, .int .i64 f.c, .int .i64 f.k, .int .i64 f.x] 36)
                  simp only [frV]
                  clear hst3 hst4 hb3' hap4 hown4 hown6 hb4' hbo o0 o1 o2 o3 o4 rO3 hb3 hF4
                  go_wp2_with fail
                  obtain ⟨X, hX⟩ : ∃ X, w4.alloc (.cells #[.int .i64 f.r, .int .i64 f.c, .int .i64 f.k, .int .i64 f.x] 36) = X := ⟨_, rfl⟩
                  have hTX : w4.heap.size < X.heap.size := by rw [← hX]; simp
                  rw [hX] at rT hst4o hb4o hown4o ⊢
                  obtain ⟨T, hT⟩ : ∃ T, w4.heap.size = T := ⟨_, rfl⟩
                  rw [hT] at rT hTX ⊢
                  clear hX hT
                  refine (all9 hst4o).mono ?_
                  rintro e w5 ⟨v8, rfl, hown8, hb5⟩
                  obtain ⟨a8, c8, hv8⟩ := row_any hown8
                  subst hv8
                  have hst5 := hst4o.below hb5
                  have hb5' := hb4o.trans (hb5.mono hb4o.size)
                  have rT5 := (hb5.block T hTX).trans rT
                  obtain ⟨t0, t1, t2, t3⟩ := cells4 rT5
                  have hown5 := hown4o.kept (⟨hb5.os, hb5.tape, hb5.output, hb5.size, fun k hk _ => hb5.block k hk⟩ : X.grownBy w5 none) (by cases (Value.slice a6 (gs ++ [f]).length c6).ownBlock; exact .inl rfl; exact .inr (by simp))
                  rw [List.length_append, List.length_singleton] at hown5
                  obtain ⟨g6, c6', hv6⟩ := slice_form hown5
                  obtain ⟨rfl, rfl⟩ : a6 = some ⟨g6, 0, none⟩ ∧ c6 = c6' := by simpa using hv6
                  obtain ⟨y0, y1, y2, y3⟩ := own_frame hown5 (i := gs.length) (f := f) (by simp)
                  have hc6 : gs.length + 1 ≤ c6 := by
                    rcases row_cases hown5 with ⟨e, _⟩ | ⟨g', c', hc, e⟩
                    · cases e
                    · cases e; exact hc
                  have hfb : FrsAt w5.drew (some ⟨g6, 0, none⟩) gs := by
                    have := (frs_own hown5).take gs.length
                    rw [List.take_left] at this
                    exact this.below (Below.refl w5.heap.size w5).drew
                  have hfa : FrsAt w5.drew a8 gs := (frs_own hown8).below (Below.refl w5.heap.size w5).drew
                  have hgl : gs.length ≤ 400 := by simp at hlen; omega
                  have HEQ := Lib.hid (eq11 a8 (some ⟨g6, 0, none⟩) c8 c6 gs.length gs w5.drew hfa hfb rfl (by omega))
                  have HST := Lib.hid (And.intro hst5 hb5')
                  have hll : (gs ++ [f]).length = gs.length + 1 := by simp
                  rw [hll]
                  clear hst4o hb4o hown4o hown5 hown8 hb5 hst5 hb5' hfa hfb rT rT5 hv6
                  obtain ⟨m, hmn⟩ : ∃ m, gs.length = m := ⟨_, rfl⟩
                  rw [hmn] at y0 y1 y2 y3 hc6 HEQ hgl ⊢
                  have hm0 : (0 : Int) ≤ (m : Int) := by omega
                  have hm1 : (m : Int) < (m : Int) + 1 := by omega
                  have hm2 : (m : Int) ≤ (c6 : Int) := by omega
                  have hm3 : m ≤ c6 := by omega
                  have hm4 : IntKind.i64.wrap (m : Int) = (m : Int) := by simp [IntKind.wrap, IntKind.signed, IntKind.bits]; omega
                  have hm5 : (m : Int) + 1 - 1 = (m : Int) := by omega
                  have hm6 : (0 : Int) < (m : Int) + 1 := by omega
                  have hS21 : (w5.drew.cell? ⟨T, 0, none⟩ = some (.int .i64 f.r) ∧ w5.drew.cell? ⟨T, 1, none⟩ = some (.int .i64 f.c) ∧ w5.drew.cell? ⟨T, 2, none⟩ = some (.int .i64 f.k) ∧ w5.drew.cell? ⟨T, 3, none⟩ = some (.int .i64 f.x)) ∧ (w5.drew.cell? ⟨g6, m * 4, none⟩ = some (.int .i64 f.r) ∧ w5.drew.cell? ⟨g6, m * 4 + 1, none⟩ = some (.int .i64 f.c) ∧ w5.drew.cell? ⟨g6, m * 4 + 2, none⟩ = some (.int .i64 f.k) ∧ w5.drew.cell? ⟨g6, m * 4 + 3, none⟩ = some (.int .i64 f.x)) := ⟨⟨t0, t1, t2, t3⟩, ⟨y0, y1, y2, y3⟩⟩
                  have HMN := Lib.hid hmn
                  clear hmn hmo3 hlen hll
                  go_wp2_with fail
                  refine wp_region_noPanic ?_
                  refine wp_region_held_drew (S := (fun w' => (w'.cell? ⟨T, 0, none⟩ = some (.int .i64 f.r) ∧ w'.cell? ⟨T, 1, none⟩ = some (.int .i64 f.c) ∧ w'.cell? ⟨T, 2, none⟩ = some (.int .i64 f.k) ∧ w'.cell? ⟨T, 3, none⟩ = some (.int .i64 f.x)) ∧ (w'.cell? ⟨g6, m * 4, none⟩ = some (.int .i64 f.r) ∧ w'.cell? ⟨g6, m * 4 + 1, none⟩ = some (.int .i64 f.c) ∧ w'.cell? ⟨g6, m * 4 + 2, none⟩ = some (.int .i64 f.k) ∧ w'.cell? ⟨g6, m * 4 + 3, none⟩ = some (.int .i64 f.x)))) (by kernel_rfl) (hS21) (fun hHeld => ?_)
                  first
                  | (refine wpAnyH_take (i := 0) (oi := ?o5_0) (v := undef) ?hi5_0 (by kernel_rfl) (by kernel_rfl) (by kernel_rfl) (fun _ _ _ h => h) ?hy5_0 (by assumption) ?hr5_0
                     case hi5_0 => (simp only [List.getElem?_toArray, List.getElem?_cons_succ, List.getElem?_cons_zero]; rfl)
                     case hy5_0 => exact Or.inr ⟨by rfl, rfl⟩)
                  | (refine wpAnyH_take (i := 0) (oi := ?o5_0) (v := ?v5_0) ?hi5_0 (by kernel_rfl) (by kernel_rfl) (by kernel_rfl) (fun _ _ _ h => h) ?hy5_0 (by assumption) ?hr5_0
                     case hi5_0 => (simp only [List.getElem?_toArray, List.getElem?_cons_succ, List.getElem?_cons_zero]; rfl)
                     case hy5_0 => (refine Or.inl ⟨by rfl, ?_⟩; intro w hSw; (try dsimp only at hSw); go_simp <;> with_reducible rfl))
                  try simp only [Act.put, List.setIfInBounds_toArray, List.set_cons_zero, List.set_cons_succ]
                  first
                  | (refine wpAnyH_take (i := 1) (oi := ?o5_1) (v := undef) ?hi5_1 (by kernel_rfl) (by kernel_rfl) (by kernel_rfl) (fun _ _ _ h => h) ?hy5_1 (by assumption) ?hr5_1
                     case hi5_1 => (simp only [List.getElem?_toArray, List.getElem?_cons_succ, List.getElem?_cons_zero]; rfl)
                     case hy5_1 => exact Or.inr ⟨by rfl, rfl⟩)
                  | (refine wpAnyH_take (i := 1) (oi := ?o5_1) (v := ?v5_1) ?hi5_1 (by kernel_rfl) (by kernel_rfl) (by kernel_rfl) (fun _ _ _ h => h) ?hy5_1 (by assumption) ?hr5_1
                     case hi5_1 => (simp only [List.getElem?_toArray, List.getElem?_cons_succ, List.getElem?_cons_zero]; rfl)
                     case hy5_1 => (refine Or.inl ⟨by rfl, ?_⟩; intro w hSw; (try dsimp only at hSw); go_simp <;> with_reducible rfl))
                  try simp only [Act.put, List.setIfInBounds_toArray, List.set_cons_zero, List.set_cons_succ]
                  first
                  | (refine wpAnyH_take (i := 2) (oi := ?o5_2) (v := undef) ?hi5_2 (by kernel_rfl) (by kernel_rfl) (by kernel_rfl) (fun _ _ _ h => h) ?hy5_2 (by assumption) ?hr5_2
                     case hi5_2 => (simp only [List.getElem?_toArray, List.getElem?_cons_succ, List.getElem?_cons_zero]; rfl)
                     case hy5_2 => exact Or.inr ⟨by rfl, rfl⟩)
                  | (refine wpAnyH_take (i := 2) (oi := ?o5_2) (v := ?v5_2) ?hi5_2 (by kernel_rfl) (by kernel_rfl) (by kernel_rfl) (fun _ _ _ h => h) ?hy5_2 (by assumption) ?hr5_2
                     case hi5_2 => (simp only [List.getElem?_toArray, List.getElem?_cons_succ, List.getElem?_cons_zero]; rfl)
                     case hy5_2 => (refine Or.inl ⟨by rfl, ?_⟩; intro w hSw; (try dsimp only at hSw); go_simp <;> with_reducible rfl))
                  try simp only [Act.put, List.setIfInBounds_toArray, List.set_cons_zero, List.set_cons_succ]
                  first
                  | (refine wpAnyH_take (i := 3) (oi := ?o5_3) (v := undef) ?hi5_3 (by kernel_rfl) (by kernel_rfl) (by kernel_rfl) (fun _ _ _ h => h) ?hy5_3 (by assumption) ?hr5_3
                     case hi5_3 => (simp only [List.getElem?_toArray, List.getElem?_cons_succ, List.getElem?_cons_zero]; rfl)
                     case hy5_3 => exact Or.inr ⟨by rfl, rfl⟩)
                  | (refine wpAnyH_take (i := 3) (oi := ?o5_3) (v := ?v5_3) ?hi5_3 (by kernel_rfl) (by kernel_rfl) (by kernel_rfl) (fun _ _ _ h => h) ?hy5_3 (by assumption) ?hr5_3
                     case hi5_3 => (simp only [List.getElem?_toArray, List.getElem?_cons_succ, List.getElem?_cons_zero]; rfl)
                     case hy5_3 => (refine Or.inl ⟨by rfl, ?_⟩; intro w hSw; (try dsimp only at hSw); go_simp <;> with_reducible rfl))
                  try simp only [Act.put, List.setIfInBounds_toArray, List.set_cons_zero, List.set_cons_succ]
                  first
                  | (refine wpAnyH_take (i := 4) (oi := ?o5_4) (v := undef) ?hi5_4 (by kernel_rfl) (by kernel_rfl) (by kernel_rfl) (fun _ _ _ h => h) ?hy5_4 (by assumption) ?hr5_4
                     case hi5_4 => (simp only [List.getElem?_toArray, List.getElem?_cons_succ, List.getElem?_cons_zero]; rfl)
                     case hy5_4 => exact Or.inr ⟨by rfl, rfl⟩)
                  | (refine wpAnyH_take (i := 4) (oi := ?o5_4) (v := ?v5_4) ?hi5_4 (by kernel_rfl) (by kernel_rfl) (by kernel_rfl) (fun _ _ _ h => h) ?hy5_4 (by assumption) ?hr5_4
                     case hi5_4 => (simp only [List.getElem?_toArray, List.getElem?_cons_succ, List.getElem?_cons_zero]; rfl)
                     case hy5_4 => (refine Or.inl ⟨by rfl, ?_⟩; intro w hSw; (try dsimp only at hSw); go_simp <;> with_reducible rfl))
                  try simp only [Act.put, List.setIfInBounds_toArray, List.set_cons_zero, List.set_cons_succ]
                  first
                  | (refine wpAnyH_take (i := 5) (oi := ?o5_5) (v := undef) ?hi5_5 (by kernel_rfl) (by kernel_rfl) (by kernel_rfl) (fun _ _ _ h => h) ?hy5_5 (by assumption) ?hr5_5
                     case hi5_5 => (simp only [List.getElem?_toArray, List.getElem?_cons_succ, List.getElem?_cons_zero]; rfl)
                     case hy5_5 => exact Or.inr ⟨by rfl, rfl⟩)
                  | (refine wpAnyH_take (i := 5) (oi := ?o5_5) (v := ?v5_5) ?hi5_5 (by kernel_rfl) (by kernel_rfl) (by kernel_rfl) (fun _ _ _ h => h) ?hy5_5 (by assumption) ?hr5_5
                     case hi5_5 => (simp only [List.getElem?_toArray, List.getElem?_cons_succ, List.getElem?_cons_zero]; rfl)
                     case hy5_5 => (refine Or.inl ⟨by rfl, ?_⟩; intro w hSw; (try dsimp only at hSw); go_simp <;> with_reducible rfl))
                  try simp only [Act.put, List.setIfInBounds_toArray, List.set_cons_zero, List.set_cons_succ]
                  first
                  | (refine wpAnyH_take (i := 6) (oi := ?o5_6) (v := undef) ?hi5_6 (by kernel_rfl) (by kernel_rfl) (by kernel_rfl) (fun _ _ _ h => h) ?hy5_6 (by assumption) ?hr5_6
                     case hi5_6 => (simp only [List.getElem?_toArray, List.getElem?_cons_succ, List.getElem?_cons_zero]; rfl)
                     case hy5_6 => exact Or.inr ⟨by rfl, rfl⟩)
                  | (refine wpAnyH_take (i := 6) (oi := ?o5_6) (v := ?v5_6) ?hi5_6 (by kernel_rfl) (by kernel_rfl) (by kernel_rfl) (fun _ _ _ h => h) ?hy5_6 (by assumption) ?hr5_6
                     case hi5_6 => (simp only [List.getElem?_toArray, List.getElem?_cons_succ, List.getElem?_cons_zero]; rfl)
                     case hy5_6 => (refine Or.inl ⟨by rfl, ?_⟩; intro w hSw; (try dsimp only at hSw); go_simp <;> with_reducible rfl))
                  try simp only [Act.put, List.setIfInBounds_toArray, List.set_cons_zero, List.set_cons_succ]
                  first
                  | (refine wpAnyH_take (i := 7) (oi := ?o5_7) (v := undef) ?hi5_7 (by kernel_rfl) (by kernel_rfl) (by kernel_rfl) (fun _ _ _ h => h) ?hy5_7 (by assumption) ?hr5_7
                     case hi5_7 => (simp only [List.getElem?_toArray, List.getElem?_cons_succ, List.getElem?_cons_zero]; rfl)
                     case hy5_7 => exact Or.inr ⟨by rfl, rfl⟩)
                  | (refine wpAnyH_take (i := 7) (oi := ?o5_7) (v := ?v5_7) ?hi5_7 (by kernel_rfl) (by kernel_rfl) (by kernel_rfl) (fun _ _ _ h => h) ?hy5_7 (by assumption) ?hr5_7
                     case hi5_7 => (simp only [List.getElem?_toArray, List.getElem?_cons_succ, List.getElem?_cons_zero]; rfl)
                     case hy5_7 => (refine Or.inl ⟨by rfl, ?_⟩; intro w hSw; (try dsimp only at hSw); go_simp <;> with_reducible rfl))
                  try simp only [Act.put, List.setIfInBounds_toArray, List.set_cons_zero, List.set_cons_succ]
                  first
                  | (refine wpAnyH_take (i := 8) (oi := ?o5_8) (v := undef) ?hi5_8 (by kernel_rfl) (by kernel_rfl) (by kernel_rfl) (fun _ _ _ h => h) ?hy5_8 (by assumption) ?hr5_8
                     case hi5_8 => (simp only [List.getElem?_toArray, List.getElem?_cons_succ, List.getElem?_cons_zero]; rfl)
                     case hy5_8 => exact Or.inr ⟨by rfl, rfl⟩)
                  | (refine wpAnyH_take (i := 8) (oi := ?o5_8) (v := ?v5_8) ?hi5_8 (by kernel_rfl) (by kernel_rfl) (by kernel_rfl) (fun _ _ _ h => h) ?hy5_8 (by assumption) ?hr5_8
                     case hi5_8 => (simp only [List.getElem?_toArray, List.getElem?_cons_succ, List.getElem?_cons_zero]; rfl)
                     case hy5_8 => (refine Or.inl ⟨by rfl, ?_⟩; intro w hSw; (try dsimp only at hSw); go_simp <;> with_reducible rfl))
                  try simp only [Act.put, List.setIfInBounds_toArray, List.set_cons_zero, List.set_cons_succ]
                  first
                  | (refine wpAnyH_take (i := 9) (oi := ?o5_9) (v := undef) ?hi5_9 (by kernel_rfl) (by kernel_rfl) (by kernel_rfl) (fun _ _ _ h => h) ?hy5_9 (by assumption) ?hr5_9
                     case hi5_9 => (simp only [List.getElem?_toArray, List.getElem?_cons_succ, List.getElem?_cons_zero]; rfl)
                     case hy5_9 => exact Or.inr ⟨by rfl, rfl⟩)
                  | (refine wpAnyH_take (i := 9) (oi := ?o5_9) (v := ?v5_9) ?hi5_9 (by kernel_rfl) (by kernel_rfl) (by kernel_rfl) (fun _ _ _ h => h) ?hy5_9 (by assumption) ?hr5_9
                     case hi5_9 => (simp only [List.getElem?_toArray, List.getElem?_cons_succ, List.getElem?_cons_zero]; rfl)
                     case hy5_9 => (refine Or.inl ⟨by rfl, ?_⟩; intro w hSw; (try dsimp only at hSw); go_simp <;> with_reducible rfl))
                  try simp only [Act.put, List.setIfInBounds_toArray, List.set_cons_zero, List.set_cons_succ]
                  first
                  | (refine wpAnyH_take (i := 10) (oi := ?o5_10) (v := undef) ?hi5_10 (by kernel_rfl) (by kernel_rfl) (by kernel_rfl) (fun _ _ _ h => h) ?hy5_10 (by assumption) ?hr5_10
                     case hi5_10 => (simp only [List.getElem?_toArray, List.getElem?_cons_succ, List.getElem?_cons_zero]; rfl)
                     case hy5_10 => exact Or.inr ⟨by rfl, rfl⟩)
                  | (refine wpAnyH_take (i := 10) (oi := ?o5_10) (v := ?v5_10) ?hi5_10 (by kernel_rfl) (by kernel_rfl) (by kernel_rfl) (fun _ _ _ h => h) ?hy5_10 (by assumption) ?hr5_10
                     case hi5_10 => (simp only [List.getElem?_toArray, List.getElem?_cons_succ, List.getElem?_cons_zero]; rfl)
                     case hy5_10 => (refine Or.inl ⟨by rfl, ?_⟩; intro w hSw; (try dsimp only at hSw); go_simp <;> with_reducible rfl))
                  try simp only [Act.put, List.setIfInBounds_toArray, List.set_cons_zero, List.set_cons_succ]
                  first
                  | (refine wpAnyH_take (i := 11) (oi := ?o5_11) (v := undef) ?hi5_11 (by kernel_rfl) (by kernel_rfl) (by kernel_rfl) (fun _ _ _ h => h) ?hy5_11 (by assumption) ?hr5_11
                     case hi5_11 => (simp only [List.getElem?_toArray, List.getElem?_cons_succ, List.getElem?_cons_zero]; rfl)
                     case hy5_11 => exact Or.inr ⟨by rfl, rfl⟩)
                  | (refine wpAnyH_take (i := 11) (oi := ?o5_11) (v := ?v5_11) ?hi5_11 (by kernel_rfl) (by kernel_rfl) (by kernel_rfl) (fun _ _ _ h => h) ?hy5_11 (by assumption) ?hr5_11
                     case hi5_11 => (simp only [List.getElem?_toArray, List.getElem?_cons_succ, List.getElem?_cons_zero]; rfl)
                     case hy5_11 => (refine Or.inl ⟨by rfl, ?_⟩; intro w hSw; (try dsimp only at hSw); go_simp <;> with_reducible rfl))
                  try simp only [Act.put, List.setIfInBounds_toArray, List.set_cons_zero, List.set_cons_succ]
                  first
                  | (refine wpAnyH_take (i := 12) (oi := ?o5_12) (v := undef) ?hi5_12 (by kernel_rfl) (by kernel_rfl) (by kernel_rfl) (fun _ _ _ h => h) ?hy5_12 (by assumption) ?hr5_12
                     case hi5_12 => (simp only [List.getElem?_toArray, List.getElem?_cons_succ, List.getElem?_cons_zero]; rfl)
                     case hy5_12 => exact Or.inr ⟨by rfl, rfl⟩)
                  | (refine wpAnyH_take (i := 12) (oi := ?o5_12) (v := ?v5_12) ?hi5_12 (by kernel_rfl) (by kernel_rfl) (by kernel_rfl) (fun _ _ _ h => h) ?hy5_12 (by assumption) ?hr5_12
                     case hi5_12 => (simp only [List.getElem?_toArray, List.getElem?_cons_succ, List.getElem?_cons_zero]; rfl)
                     case hy5_12 => (refine Or.inl ⟨by rfl, ?_⟩; intro w hSw; (try dsimp only at hSw); go_simp <;> with_reducible rfl))
                  try simp only [Act.put, List.setIfInBounds_toArray, List.set_cons_zero, List.set_cons_succ]
                  first
                  | (refine wpAnyH_take (i := 13) (oi := ?o5_13) (v := undef) ?hi5_13 (by kernel_rfl) (by kernel_rfl) (by kernel_rfl) (fun _ _ _ h => h) ?hy5_13 (by assumption) ?hr5_13
                     case hi5_13 => (simp only [List.getElem?_toArray, List.getElem?_cons_succ, List.getElem?_cons_zero]; rfl)
                     case hy5_13 => exact Or.inr ⟨by rfl, rfl⟩)
                  | (refine wpAnyH_take (i := 13) (oi := ?o5_13) (v := ?v5_13) ?hi5_13 (by kernel_rfl) (by kernel_rfl) (by kernel_rfl) (fun _ _ _ h => h) ?hy5_13 (by assumption) ?hr5_13
                     case hi5_13 => (simp only [List.getElem?_toArray, List.getElem?_cons_succ, List.getElem?_cons_zero]; rfl)
                     case hy5_13 => (refine Or.inl ⟨by rfl, ?_⟩; intro w hSw; (try dsimp only at hSw); go_simp <;> with_reducible rfl))
                  try simp only [Act.put, List.setIfInBounds_toArray, List.set_cons_zero, List.set_cons_succ]
                  first
                  | (refine wpAnyH_take (i := 14) (oi := ?o5_14) (v := undef) ?hi5_14 (by kernel_rfl) (by kernel_rfl) (by kernel_rfl) (fun _ _ _ h => h) ?hy5_14 (by assumption) ?hr5_14
                     case hi5_14 => (simp only [List.getElem?_toArray, List.getElem?_cons_succ, List.getElem?_cons_zero]; rfl)
                     case hy5_14 => exact Or.inr ⟨by rfl, rfl⟩)
                  | (refine wpAnyH_take (i := 14) (oi := ?o5_14) (v := ?v5_14) ?hi5_14 (by kernel_rfl) (by kernel_rfl) (by kernel_rfl) (fun _ _ _ h => h) ?hy5_14 (by assumption) ?hr5_14
                     case hi5_14 => (simp only [List.getElem?_toArray, List.getElem?_cons_succ, List.getElem?_cons_zero]; rfl)
                     case hy5_14 => (refine Or.inl ⟨by rfl, ?_⟩; intro w hSw; (try dsimp only at hSw); go_simp <;> with_reducible rfl))
                  try simp only [Act.put, List.setIfInBounds_toArray, List.set_cons_zero, List.set_cons_succ]
                  first
                  | (refine wpAnyH_take (i := 15) (oi := ?o5_15) (v := undef) ?hi5_15 (by kernel_rfl) (by kernel_rfl) (by kernel_rfl) (fun _ _ _ h => h) ?hy5_15 (by assumption) ?hr5_15
                     case hi5_15 => (simp only [List.getElem?_toArray, List.getElem?_cons_succ, List.getElem?_cons_zero]; rfl)
                     case hy5_15 => exact Or.inr ⟨by rfl, rfl⟩)
                  | (refine wpAnyH_take (i := 15) (oi := ?o5_15) (v := ?v5_15) ?hi5_15 (by kernel_rfl) (by kernel_rfl) (by kernel_rfl) (fun _ _ _ h => h) ?hy5_15 (by assumption) ?hr5_15
                     case hi5_15 => (simp only [List.getElem?_toArray, List.getElem?_cons_succ, List.getElem?_cons_zero]; rfl)
                     case hy5_15 => (refine Or.inl ⟨by rfl, ?_⟩; intro w hSw; (try dsimp only at hSw); go_simp <;> with_reducible rfl))
                  try simp only [Act.put, List.setIfInBounds_toArray, List.set_cons_zero, List.set_cons_succ]
                  first
                  | (refine wpAnyH_take (i := 16) (oi := ?o5_16) (v := undef) ?hi5_16 (by kernel_rfl) (by kernel_rfl) (by kernel_rfl) (fun _ _ _ h => h) ?hy5_16 (by assumption) ?hr5_16
                     case hi5_16 => (simp only [List.getElem?_toArray, List.getElem?_cons_succ, List.getElem?_cons_zero]; rfl)
                     case hy5_16 => exact Or.inr ⟨by rfl, rfl⟩)
                  | (refine wpAnyH_take (i := 16) (oi := ?o5_16) (v := ?v5_16) ?hi5_16 (by kernel_rfl) (by kernel_rfl) (by kernel_rfl) (fun _ _ _ h => h) ?hy5_16 (by assumption) ?hr5_16
                     case hi5_16 => (simp only [List.getElem?_toArray, List.getElem?_cons_succ, List.getElem?_cons_zero]; rfl)
                     case hy5_16 => (refine Or.inl ⟨by rfl, ?_⟩; intro w hSw; (try dsimp only at hSw); go_simp <;> with_reducible rfl))
                  try simp only [Act.put, List.setIfInBounds_toArray, List.set_cons_zero, List.set_cons_succ]
                  first
                  | (refine wpAnyH_take (i := 17) (oi := ?o5_17) (v := undef) ?hi5_17 (by kernel_rfl) (by kernel_rfl) (by kernel_rfl) (fun _ _ _ h => h) ?hy5_17 (by assumption) ?hr5_17
                     case hi5_17 => (simp only [List.getElem?_toArray, List.getElem?_cons_succ, List.getElem?_cons_zero]; rfl)
                     case hy5_17 => exact Or.inr ⟨by rfl, rfl⟩)
                  | (refine wpAnyH_take (i := 17) (oi := ?o5_17) (v := ?v5_17) ?hi5_17 (by kernel_rfl) (by kernel_rfl) (by kernel_rfl) (fun _ _ _ h => h) ?hy5_17 (by assumption) ?hr5_17
                     case hi5_17 => (simp only [List.getElem?_toArray, List.getElem?_cons_succ, List.getElem?_cons_zero]; rfl)
                     case hy5_17 => (refine Or.inl ⟨by rfl, ?_⟩; intro w hSw; (try dsimp only at hSw); go_simp <;> with_reducible rfl))
                  try simp only [Act.put, List.setIfInBounds_toArray, List.set_cons_zero, List.set_cons_succ]
                  first
                  | (refine wpAnyH_take (i := 18) (oi := ?o5_18) (v := undef) ?hi5_18 (by kernel_rfl) (by kernel_rfl) (by kernel_rfl) (fun _ _ _ h => h) ?hy5_18 (by assumption) ?hr5_18
                     case hi5_18 => (simp only [List.getElem?_toArray, List.getElem?_cons_succ, List.getElem?_cons_zero]; rfl)
                     case hy5_18 => exact Or.inr ⟨by rfl, rfl⟩)
                  | (refine wpAnyH_take (i := 18) (oi := ?o5_18) (v := ?v5_18) ?hi5_18 (by kernel_rfl) (by kernel_rfl) (by kernel_rfl) (fun _ _ _ h => h) ?hy5_18 (by assumption) ?hr5_18
                     case hi5_18 => (simp only [List.getElem?_toArray, List.getElem?_cons_succ, List.getElem?_cons_zero]; rfl)
                     case hy5_18 => (refine Or.inl ⟨by rfl, ?_⟩; intro w hSw; (try dsimp only at hSw); go_simp <;> with_reducible rfl))
                  try simp only [Act.put, List.setIfInBounds_toArray, List.set_cons_zero, List.set_cons_succ]
                  first
                  | (refine wpAnyH_take (i := 19) (oi := ?o5_19) (v := undef) ?hi5_19 (by kernel_rfl) (by kernel_rfl) (by kernel_rfl) (fun _ _ _ h => h) ?hy5_19 (by assumption) ?hr5_19
                     case hi5_19 => (simp only [List.getElem?_toArray, List.getElem?_cons_succ, List.getElem?_cons_zero]; rfl)
                     case hy5_19 => exact Or.inr ⟨by rfl, rfl⟩)
                  | (refine wpAnyH_take (i := 19) (oi := ?o5_19) (v := ?v5_19) ?hi5_19 (by kernel_rfl) (by kernel_rfl) (by kernel_rfl) (fun _ _ _ h => h) ?hy5_19 (by assumption) ?hr5_19
                     case hi5_19 => (simp only [List.getElem?_toArray, List.getElem?_cons_succ, List.getElem?_cons_zero]; rfl)
                     case hy5_19 => (refine Or.inl ⟨by rfl, ?_⟩; intro w hSw; (try dsimp only at hSw); go_simp <;> with_reducible rfl))
                  try simp only [Act.put, List.setIfInBounds_toArray, List.set_cons_zero, List.set_cons_succ]
                  first
                  | (refine wpAnyH_take (i := 20) (oi := ?o5_20) (v := undef) ?hi5_20 (by kernel_rfl) (by kernel_rfl) (by kernel_rfl) (fun _ _ _ h => h) ?hy5_20 (by assumption) ?hr5_20
                     case hi5_20 => (simp only [List.getElem?_toArray, List.getElem?_cons_succ, List.getElem?_cons_zero]; rfl)
                     case hy5_20 => exact Or.inr ⟨by rfl, rfl⟩)
                  | (refine wpAnyH_take (i := 20) (oi := ?o5_20) (v := ?v5_20) ?hi5_20 (by kernel_rfl) (by kernel_rfl) (by kernel_rfl) (fun _ _ _ h => h) ?hy5_20 (by assumption) ?hr5_20
                     case hi5_20 => (simp only [List.getElem?_toArray, List.getElem?_cons_succ, List.getElem?_cons_zero]; rfl)
                     case hy5_20 => (refine Or.inl ⟨by rfl, ?_⟩; intro w hSw; (try dsimp only at hSw); go_simp <;> with_reducible rfl))
                  try simp only [Act.put, List.setIfInBounds_toArray, List.set_cons_zero, List.set_cons_succ]
                  first
                  | (refine wpAnyH_take (i := 21) (oi := ?o5_21) (v := undef) ?hi5_21 (by kernel_rfl) (by kernel_rfl) (by kernel_rfl) (fun _ _ _ h => h) ?hy5_21 (by assumption) ?hr5_21
                     case hi5_21 => (simp only [List.getElem?_toArray, List.getElem?_cons_succ, List.getElem?_cons_zero]; rfl)
                     case hy5_21 => exact Or.inr ⟨by rfl, rfl⟩)
                  | (refine wpAnyH_take (i := 21) (oi := ?o5_21) (v := ?v5_21) ?hi5_21 (by kernel_rfl) (by kernel_rfl) (by kernel_rfl) (fun _ _ _ h => h) ?hy5_21 (by assumption) ?hr5_21
                     case hi5_21 => (simp only [List.getElem?_toArray, List.getElem?_cons_succ, List.getElem?_cons_zero]; rfl)
                     case hy5_21 => (refine Or.inl ⟨by rfl, ?_⟩; intro w hSw; (try dsimp only at hSw); go_simp <;> with_reducible rfl))
                  try simp only [Act.put, List.setIfInBounds_toArray, List.set_cons_zero, List.set_cons_succ]
                  first
                  | (refine wpAnyH_take (i := 22) (oi := ?o5_22) (v := undef) ?hi5_22 (by kernel_rfl) (by kernel_rfl) (by kernel_rfl) (fun _ _ _ h => h) ?hy5_22 (by assumption) ?hr5_22
                     case hi5_22 => (simp only [List.getElem?_toArray, List.getElem?_cons_succ, List.getElem?_cons_zero]; rfl)
                     case hy5_22 => exact Or.inr ⟨by rfl, rfl⟩)
                  | (refine wpAnyH_take (i := 22) (oi := ?o5_22) (v := ?v5_22) ?hi5_22 (by kernel_rfl) (by kernel_rfl) (by kernel_rfl) (fun _ _ _ h => h) ?hy5_22 (by assumption) ?hr5_22
                     case hi5_22 => (simp only [List.getElem?_toArray, List.getElem?_cons_succ, List.getElem?_cons_zero]; rfl)
                     case hy5_22 => (refine Or.inl ⟨by rfl, ?_⟩; intro w hSw; (try dsimp only at hSw); go_simp <;> with_reducible rfl))
                  try simp only [Act.put, List.setIfInBounds_toArray, List.set_cons_zero, List.set_cons_succ]
                  first
                  | (refine wpAnyH_take (i := 23) (oi := ?o5_23) (v := undef) ?hi5_23 (by kernel_rfl) (by kernel_rfl) (by kernel_rfl) (fun _ _ _ h => h) ?hy5_23 (by assumption) ?hr5_23
                     case hi5_23 => (simp only [List.getElem?_toArray, List.getElem?_cons_succ, List.getElem?_cons_zero]; rfl)
                     case hy5_23 => exact Or.inr ⟨by rfl, rfl⟩)
                  | (refine wpAnyH_take (i := 23) (oi := ?o5_23) (v := ?v5_23) ?hi5_23 (by kernel_rfl) (by kernel_rfl) (by kernel_rfl) (fun _ _ _ h => h) ?hy5_23 (by assumption) ?hr5_23
                     case hi5_23 => (simp only [List.getElem?_toArray, List.getElem?_cons_succ, List.getElem?_cons_zero]; rfl)
                     case hy5_23 => (refine Or.inl ⟨by rfl, ?_⟩; intro w hSw; (try dsimp only at hSw); go_simp <;> with_reducible rfl))
                  try simp only [Act.put, List.setIfInBounds_toArray, List.set_cons_zero, List.set_cons_succ]
                  first
                  | (refine wpAnyH_take (i := 24) (oi := ?o5_24) (v := undef) ?hi5_24 (by kernel_rfl) (by kernel_rfl) (by kernel_rfl) (fun _ _ _ h => h) ?hy5_24 (by assumption) ?hr5_24
                     case hi5_24 => (simp only [List.getElem?_toArray, List.getElem?_cons_succ, List.getElem?_cons_zero]; rfl)
                     case hy5_24 => exact Or.inr ⟨by rfl, rfl⟩)
                  | (refine wpAnyH_take (i := 24) (oi := ?o5_24) (v := ?v5_24) ?hi5_24 (by kernel_rfl) (by kernel_rfl) (by kernel_rfl) (fun _ _ _ h => h) ?hy5_24 (by assumption) ?hr5_24
                     case hi5_24 => (simp only [List.getElem?_toArray, List.getElem?_cons_succ, List.getElem?_cons_zero]; rfl)
                     case hy5_24 => (refine Or.inl ⟨by rfl, ?_⟩; intro w hSw; (try dsimp only at hSw); go_simp <;> with_reducible rfl))
                  try simp only [Act.put, List.setIfInBounds_toArray, List.set_cons_zero, List.set_cons_succ]
                  first
                  | (refine wpAnyH_take (i := 25) (oi := ?o5_25) (v := undef) ?hi5_25 (by kernel_rfl) (by kernel_rfl) (by kernel_rfl) (fun _ _ _ h => h) ?hy5_25 (by assumption) ?hr5_25
                     case hi5_25 => (simp only [List.getElem?_toArray, List.getElem?_cons_succ, List.getElem?_cons_zero]; rfl)
                     case hy5_25 => exact Or.inr ⟨by rfl, rfl⟩)
                  | (refine wpAnyH_ready (rs := [25]) (by kernel_rfl) (by simp) ?_
                     refine AllReadyH.cons (o := ?o5_25) ?ho5_25 (fun K hK => ?hk5_25) AllReadyH.nil
                     case ho5_25 => (simp only [List.getElem?_toArray, List.getElem?_cons_succ, List.getElem?_cons_zero]; rfl)
                     go_simp
                     go_wp2_with (go_at_call 11; refine HEQ.out.mono ?_; rintro e w9 ⟨rfl, hb9⟩)
                     go_wp2_with fail
                     refine hK.out _ _ ?_ (fun hHeld => ?_)
                     · first | exact ⟨keepN hS21.1 hb9, keepN hS21.2 hb9⟩
                     clear hK K)
                  try simp only [Act.put, List.setIfInBounds_toArray, List.set_cons_zero, List.set_cons_succ]
                  first
                  | (refine wpAnyH_take (i := 26) (oi := ?o5_26) (v := undef) ?hi5_26 (by kernel_rfl) (by kernel_rfl) (by kernel_rfl) (fun _ _ _ h => h) ?hy5_26 (by assumption) ?hr5_26
                     case hi5_26 => (simp only [List.getElem?_toArray, List.getElem?_cons_succ, List.getElem?_cons_zero]; rfl)
                     case hy5_26 => exact Or.inr ⟨by rfl, rfl⟩)
                  | (refine wpAnyH_take (i := 26) (oi := ?o5_26) (v := ?v5_26) ?hi5_26 (by kernel_rfl) (by kernel_rfl) (by kernel_rfl) (fun _ _ _ h => h) ?hy5_26 (by assumption) ?hr5_26
                     case hi5_26 => (simp only [List.getElem?_toArray, List.getElem?_cons_succ, List.getElem?_cons_zero]; rfl)
                     case hy5_26 => (refine Or.inl ⟨by rfl, ?_⟩; intro w hSw; (try dsimp only at hSw); go_simp <;> with_reducible rfl))
                  try simp only [Act.put, List.setIfInBounds_toArray, List.set_cons_zero, List.set_cons_succ]
                  first
                  | (refine wpAnyH_take (i := 27) (oi := ?o5_27) (v := undef) ?hi5_27 (by kernel_rfl) (by kernel_rfl) (by kernel_rfl) (fun _ _ _ h => h) ?hy5_27 (by assumption) ?hr5_27
                     case hi5_27 => (simp only [List.getElem?_toArray, List.getElem?_cons_succ, List.getElem?_cons_zero]; rfl)
                     case hy5_27 => exact Or.inr ⟨by rfl, rfl⟩)
                  | (refine wpAnyH_take (i := 27) (oi := ?o5_27) (v := ?v5_27) ?hi5_27 (by kernel_rfl) (by kernel_rfl) (by kernel_rfl) (fun _ _ _ h => h) ?hy5_27 (by assumption) ?hr5_27
                     case hi5_27 => (simp only [List.getElem?_toArray, List.getElem?_cons_succ, List.getElem?_cons_zero]; rfl)
                     case hy5_27 => (refine Or.inl ⟨by rfl, ?_⟩; intro w hSw; (try dsimp only at hSw); go_simp <;> with_reducible rfl))
                  try simp only [Act.put, List.setIfInBounds_toArray, List.set_cons_zero, List.set_cons_succ]
                  first
                  | (refine wpAnyH_take (i := 28) (oi := ?o5_28) (v := undef) ?hi5_28 (by kernel_rfl) (by kernel_rfl) (by kernel_rfl) (fun _ _ _ h => h) ?hy5_28 (by assumption) ?hr5_28
                     case hi5_28 => (simp only [List.getElem?_toArray, List.getElem?_cons_succ, List.getElem?_cons_zero]; rfl)
                     case hy5_28 => exact Or.inr ⟨by rfl, rfl⟩)
                  | (refine wpAnyH_take (i := 28) (oi := ?o5_28) (v := ?v5_28) ?hi5_28 (by kernel_rfl) (by kernel_rfl) (by kernel_rfl) (fun _ _ _ h => h) ?hy5_28 (by assumption) ?hr5_28
                     case hi5_28 => (simp only [List.getElem?_toArray, List.getElem?_cons_succ, List.getElem?_cons_zero]; rfl)
                     case hy5_28 => (refine Or.inl ⟨by rfl, ?_⟩; intro w hSw; (try dsimp only at hSw); go_simp <;> with_reducible rfl))
                  try simp only [Act.put, List.setIfInBounds_toArray, List.set_cons_zero, List.set_cons_succ]
                  first
                  | (refine wpAnyH_take (i := 29) (oi := ?o5_29) (v := undef) ?hi5_29 (by kernel_rfl) (by kernel_rfl) (by kernel_rfl) (fun _ _ _ h => h) ?hy5_29 (by assumption) ?hr5_29
                     case hi5_29 => (simp only [List.getElem?_toArray, List.getElem?_cons_succ, List.getElem?_cons_zero]; rfl)
                     case hy5_29 => exact Or.inr ⟨by rfl, rfl⟩)
                  | (refine wpAnyH_take (i := 29) (oi := ?o5_29) (v := ?v5_29) ?hi5_29 (by kernel_rfl) (by kernel_rfl) (by kernel_rfl) (fun _ _ _ h => h) ?hy5_29 (by assumption) ?hr5_29
                     case hi5_29 => (simp only [List.getElem?_toArray, List.getElem?_cons_succ, List.getElem?_cons_zero]; rfl)
                     case hy5_29 => (refine Or.inl ⟨by rfl, ?_⟩; intro w hSw; (try dsimp only at hSw); go_simp <;> with_reducible rfl))
                  try simp only [Act.put, List.setIfInBounds_toArray, List.set_cons_zero, List.set_cons_succ]
                  first
                  | (refine wpAnyH_take (i := 30) (oi := ?o5_30) (v := undef) ?hi5_30 (by kernel_rfl) (by kernel_rfl) (by kernel_rfl) (fun _ _ _ h => h) ?hy5_30 (by assumption) ?hr5_30
                     case hi5_30 => (simp only [List.getElem?_toArray, List.getElem?_cons_succ, List.getElem?_cons_zero]; rfl)
                     case hy5_30 => exact Or.inr ⟨by rfl, rfl⟩)
                  | (refine wpAnyH_take (i := 30) (oi := ?o5_30) (v := ?v5_30) ?hi5_30 (by kernel_rfl) (by kernel_rfl) (by kernel_rfl) (fun _ _ _ h => h) ?hy5_30 (by assumption) ?hr5_30
                     case hi5_30 => (simp only [List.getElem?_toArray, List.getElem?_cons_succ, List.getElem?_cons_zero]; rfl)
                     case hy5_30 => (refine Or.inl ⟨by rfl, ?_⟩; intro w hSw; (try dsimp only at hSw); go_simp <;> with_reducible rfl))
                  try simp only [Act.put, List.setIfInBounds_toArray, List.set_cons_zero, List.set_cons_succ]
                  first
                  | (refine wpAnyH_take (i := 31) (oi := ?o5_31) (v := undef) ?hi5_31 (by kernel_rfl) (by kernel_rfl) (by kernel_rfl) (fun _ _ _ h => h) ?hy5_31 (by assumption) ?hr5_31
                     case hi5_31 => (simp only [List.getElem?_toArray, List.getElem?_cons_succ, List.getElem?_cons_zero]; rfl)
                     case hy5_31 => exact Or.inr ⟨by rfl, rfl⟩)
                  | (refine wpAnyH_take (i := 31) (oi := ?o5_31) (v := ?v5_31) ?hi5_31 (by kernel_rfl) (by kernel_rfl) (by kernel_rfl) (fun _ _ _ h => h) ?hy5_31 (by assumption) ?hr5_31
                     case hi5_31 => (simp only [List.getElem?_toArray, List.getElem?_cons_succ, List.getElem?_cons_zero]; rfl)
                     case hy5_31 => (refine Or.inl ⟨by rfl, ?_⟩; intro w hSw; (try dsimp only at hSw); go_simp <;> with_reducible rfl))
                  try simp only [Act.put, List.setIfInBounds_toArray, List.set_cons_zero, List.set_cons_succ]
                  first
                  | (refine wpAnyH_take (i := 32) (oi := ?o5_32) (v := undef) ?hi5_32 (by kernel_rfl) (by kernel_rfl) (by kernel_rfl) (fun _ _ _ h => h) ?hy5_32 (by assumption) ?hr5_32
                     case hi5_32 => (simp only [List.getElem?_toArray, List.getElem?_cons_succ, List.getElem?_cons_zero]; rfl)
                     case hy5_32 => exact Or.inr ⟨by rfl, rfl⟩)
                  | (refine wpAnyH_take (i := 32) (oi := ?o5_32) (v := ?v5_32) ?hi5_32 (by kernel_rfl) (by kernel_rfl) (by kernel_rfl) (fun _ _ _ h => h) ?hy5_32 (by assumption) ?hr5_32
                     case hi5_32 => (simp only [List.getElem?_toArray, List.getElem?_cons_succ, List.getElem?_cons_zero]; rfl)
                     case hy5_32 => (refine Or.inl ⟨by rfl, ?_⟩; intro w hSw; (try dsimp only at hSw); go_simp <;> with_reducible rfl))
                  try simp only [Act.put, List.setIfInBounds_toArray, List.set_cons_zero, List.set_cons_succ]
                  first
                  | (refine wpAnyH_take (i := 33) (oi := ?o5_33) (v := undef) ?hi5_33 (by kernel_rfl) (by kernel_rfl) (by kernel_rfl) (fun _ _ _ h => h) ?hy5_33 (by assumption) ?hr5_33
                     case hi5_33 => (simp only [List.getElem?_toArray, List.getElem?_cons_succ, List.getElem?_cons_zero]; rfl)
                     case hy5_33 => exact Or.inr ⟨by rfl, rfl⟩)
                  | (refine wpAnyH_take (i := 33) (oi := ?o5_33) (v := ?v5_33) ?hi5_33 (by kernel_rfl) (by kernel_rfl) (by kernel_rfl) (fun _ _ _ h => h) ?hy5_33 (by assumption) ?hr5_33
                     case hi5_33 => (simp only [List.getElem?_toArray, List.getElem?_cons_succ, List.getElem?_cons_zero]; rfl)
                     case hy5_33 => (refine Or.inl ⟨by rfl, ?_⟩; intro w hSw; (try dsimp only at hSw); go_simp <;> with_reducible rfl))
                  try simp only [Act.put, List.setIfInBounds_toArray, List.set_cons_zero, List.set_cons_succ]
                  first
                  | (refine wpAnyH_take (i := 34) (oi := ?o5_34) (v := undef) ?hi5_34 (by kernel_rfl) (by kernel_rfl) (by kernel_rfl) (fun _ _ _ h => h) ?hy5_34 (by assumption) ?hr5_34
                     case hi5_34 => (simp only [List.getElem?_toArray, List.getElem?_cons_succ, List.getElem?_cons_zero]; rfl)
                     case hy5_34 => exact Or.inr ⟨by rfl, rfl⟩)
                  | (refine wpAnyH_take (i := 34) (oi := ?o5_34) (v := ?v5_34) ?hi5_34 (by kernel_rfl) (by kernel_rfl) (by kernel_rfl) (fun _ _ _ h => h) ?hy5_34 (by assumption) ?hr5_34
                     case hi5_34 => (simp only [List.getElem?_toArray, List.getElem?_cons_succ, List.getElem?_cons_zero]; rfl)
                     case hy5_34 => (refine Or.inl ⟨by rfl, ?_⟩; intro w hSw; (try dsimp only at hSw); go_simp <;> with_reducible rfl))
                  try simp only [Act.put, List.setIfInBounds_toArray, List.set_cons_zero, List.set_cons_succ]
                  first
                  | (refine wpAnyH_take (i := 35) (oi := ?o5_35) (v := undef) ?hi5_35 (by kernel_rfl) (by kernel_rfl) (by kernel_rfl) (fun _ _ _ h => h) ?hy5_35 (by assumption) ?hr5_35
                     case hi5_35 => (simp only [List.getElem?_toArray, List.getElem?_cons_succ, List.getElem?_cons_zero]; rfl)
                     case hy5_35 => exact Or.inr ⟨by rfl, rfl⟩)
                  | (refine wpAnyH_take (i := 35) (oi := ?o5_35) (v := ?v5_35) ?hi5_35 (by kernel_rfl) (by kernel_rfl) (by kernel_rfl) (fun _ _ _ h => h) ?hy5_35 (by assumption) ?hr5_35
                     case hi5_35 => (simp only [List.getElem?_toArray, List.getElem?_cons_succ, List.getElem?_cons_zero]; rfl)
                     case hy5_35 => (refine Or.inl ⟨by rfl, ?_⟩; intro w hSw; (try dsimp only at hSw); go_simp <;> with_reducible rfl))
                  try simp only [Act.put, List.setIfInBounds_toArray, List.set_cons_zero, List.set_cons_succ]
                  first
                  | (refine wpAnyH_take (i := 36) (oi := ?o5_36) (v := undef) ?hi5_36 (by kernel_rfl) (by kernel_rfl) (by kernel_rfl) (fun _ _ _ h => h) ?hy5_36 (by assumption) ?hr5_36
                     case hi5_36 => (simp only [List.getElem?_toArray, List.getElem?_cons_succ, List.getElem?_cons_zero]; rfl)
                     case hy5_36 => exact Or.inr ⟨by rfl, rfl⟩)
                  | (refine wpAnyH_take (i := 36) (oi := ?o5_36) (v := ?v5_36) ?hi5_36 (by kernel_rfl) (by kernel_rfl) (by kernel_rfl) (fun _ _ _ h => h) ?hy5_36 (by assumption) ?hr5_36
                     case hi5_36 => (simp only [List.getElem?_toArray, List.getElem?_cons_succ, List.getElem?_cons_zero]; rfl)
                     case hy5_36 => (refine Or.inl ⟨by rfl, ?_⟩; intro w hSw; (try dsimp only at hSw); go_simp <;> with_reducible rfl))
                  try simp only [Act.put, List.setIfInBounds_toArray, List.set_cons_zero, List.set_cons_succ]
                  first
                  | (refine wpAnyH_take (i := 37) (oi := ?o5_37) (v := undef) ?hi5_37 (by kernel_rfl) (by kernel_rfl) (by kernel_rfl) (fun _ _ _ h => h) ?hy5_37 (by assumption) ?hr5_37
                     case hi5_37 => (simp only [List.getElem?_toArray, List.getElem?_cons_succ, List.getElem?_cons_zero]; rfl)
                     case hy5_37 => exact Or.inr ⟨by rfl, rfl⟩)
                  | (refine wpAnyH_take (i := 37) (oi := ?o5_37) (v := ?v5_37) ?hi5_37 (by kernel_rfl) (by kernel_rfl) (by kernel_rfl) (fun _ _ _ h => h) ?hy5_37 (by assumption) ?hr5_37
                     case hi5_37 => (simp only [List.getElem?_toArray, List.getElem?_cons_succ, List.getElem?_cons_zero]; rfl)
                     case hy5_37 => (refine Or.inl ⟨by rfl, ?_⟩; intro w hSw; (try dsimp only at hSw); go_simp <;> with_reducible rfl))
                  try simp only [Act.put, List.setIfInBounds_toArray, List.set_cons_zero, List.set_cons_succ]
                  first
                  | (refine wpAnyH_take (i := 38) (oi := ?o5_38) (v := undef) ?hi5_38 (by kernel_rfl) (by kernel_rfl) (by kernel_rfl) (fun _ _ _ h => h) ?hy5_38 (by assumption) ?hr5_38
                     case hi5_38 => (simp only [List.getElem?_toArray, List.getElem?_cons_succ, List.getElem?_cons_zero]; rfl)
                     case hy5_38 => exact Or.inr ⟨by rfl, rfl⟩)
                  | (refine wpAnyH_take (i := 38) (oi := ?o5_38) (v := ?v5_38) ?hi5_38 (by kernel_rfl) (by kernel_rfl) (by kernel_rfl) (fun _ _ _ h => h) ?hy5_38 (by assumption) ?hr5_38
                     case hi5_38 => (simp only [List.getElem?_toArray, List.getElem?_cons_succ, List.getElem?_cons_zero]; rfl)
                     case hy5_38 => (refine Or.inl ⟨by rfl, ?_⟩; intro w hSw; (try dsimp only at hSw); go_simp <;> with_reducible rfl))
                  try simp only [Act.put, List.setIfInBounds_toArray, List.set_cons_zero, List.set_cons_succ]
                  refine wpAnyH_done (by kernel_rfl) ?_ _
                  refine NoPanic.normal ?_
                  go_wp2_with fail
                  have hmn := HMN.out
                  subst hmn
                  rw [show gs.length + 1 = (gs ++ [f]).length by simp]
                  go_meet
                  case rel => exact ⟨F4, gs, most, (HST.out.1.below (Below.refl w5.heap.size w5).drew).below hb9, by omega, (HST.out.2.drew).trans (hb9.mono HST.out.2.drew.size)⟩
            · by_cases h10 : ok = 10
              · as_aux_lemma =>
                  subst h10
                  go_wp2_with fail
                  refine (clear14 hst3).mono ?_
                  rintro e w4 ⟨rfl, hst4, hap4, hrowF⟩
                  have hown4 := hap4.row hown6 (fun x e e2 => by have := (hown6.lt x e).1; rcases e2 with rfl | rfl; have := hsxO _ (.inl rfl); omega; have := hsxO _ (.inr (.inl rfl)); omega)
                  have hb4' := Apt.below hb3' hap4 (fun x hx => by rcases hx with rfl | rfl; exact hst3.bS; exact hst3.bM) hbw3
                  obtain ⟨aF, cF, hvF⟩ := row_any hrowF
                  subst hvF
                  have HEQ := Lib.hid (eq11 aF a6 cF c6 fs.length fs w4 (frs_own hrowF) (frs_own hown4) rfl (by omega))
                  clear hst3 hap4 hown6 hb3' hrowF hown4 o0 o1 o2 o3 o4 rO3 hb3
                  go_wp2_with fail
                  refine HEQ.out.mono ?_
                  rintro e w5 ⟨rfl, hb5⟩
                  have hst5 := hst4.below hb5
                  have hb5' := hb4'.trans (hb5.mono hb4'.size)
                  clear hst4 hb4' hb5
                  go_wp2_with fail
                  refine (all9 hst5).mono ?_
                  rintro e w6 ⟨v8, rfl, hown8, hb6⟩
                  obtain ⟨a8, c8, hv8⟩ := row_any hown8
                  subst hv8
                  have HST := Lib.hid (And.intro (hst5.below hb6) (hb5'.trans (hb6.mono hb5'.size)))
                  clear hst5 hb5' hb6 hown8
                  rw [show ([] : List Fr).length = 0 from rfl]
                  go_wp2_with fail
                  go_meet
                  case rel => exact ⟨_, [], most, HST.out.1, by omega, HST.out.2⟩
              · have hb1 : (ok == 1) = false := beq_eq_false_iff_ne.2 h1
                have hb2 : (ok == 2) = false := beq_eq_false_iff_ne.2 h2
                have hb10 : (ok == 10) = false := beq_eq_false_iff_ne.2 h10
                have HST := Lib.hid (And.intro hst3 hb3')
                clear h1 h2 h10 hst3 hb3' hown6 o0 o1 o2 o3 o4 rO3 hb3
                go_wp2_with fail
                go_meet
                case rel => exact ⟨F, fs, most, HST.out.1, by omega, HST.out.2⟩
        case rest =>
          as_aux_lemma =>
            obtain ⟨F', fs', most', hst, hmk', hb⟩ := hcut
            have hlen' : fs'.length ≤ 401 := by have := hst.mo; omega
            have hmo' := hst.mo
            clear o0 o1 o2 o3 o4 rO3 hst3 hb3' hown6 hOs hsxO hb3
            go_wp2_with fail
            refine (all9 hst).mono ?_
            rintro e w4 ⟨v12, rfl, hown, hb4⟩
            obtain ⟨a12, c12, hv12⟩ := row_any hown
            subst hv12
            have hst4 := hst.below hb4
            have hbw4 := hb.trans (hb4.mono hb.size)
            have HOW := Lib.hid (own_base hown hb.size)
            clear hst hb hb4 hown
            go_wp2_with fail
            refine (height15 hst4).mono ?_
            rintro e w5 ⟨rfl, hb5⟩
            have hst5 := hst4.below hb5
            have hbw5 := hbw4.trans (hb5.mono hbw4.size)
            have HOW5 : Hid (w5.ownsRow w.heap.size 36 4 (.slice a12 fs'.length c12) fs'.length (cellsF fs')) := HOW.out.kept (⟨hb5.os, hb5.tape, hb5.output, hb5.size, fun k hk _ => hb5.block k hk⟩ : w4.grownBy w5 none) (by cases (Value.slice a12 fs'.length c12).ownBlock; exact .inl rfl; exact .inr (by simp))
            clear hst4 hb5 hbw4 HOW
            go_wp2_with fail
            refine (top16 hst5).mono ?_
            rintro e w6 ⟨rfl, hb6⟩
            generalize htf : topF fs' = tf
            obtain ⟨tf1, tf2⟩ := tf
            obtain ⟨tr, tc, tk, tx⟩ := tf1
            simp only [frV]
            have hbo := (Below.refl w6.heap.size w6).alloc (Nat.le_refl _) (.cells #[.int .i64 tr, .int .i64 tc, .int .i64 tk, .int .i64 tx] 36)
            have rT := heap_alloc_new w6 (.cells #[.int .i64 tr, .int .i64 tc, .int .i64 tk, .int .i64 tx] 36)
            have hb7 := hb6.trans (hbo.mono hb6.size)
            have hst7 := hst5.below hb7
            have hbw7 := hbw5.trans (hb7.mono hbw5.size)
            have HOW7 := Lib.hid (HOW5.out.kept (⟨hb7.os, hb7.tape, hb7.output, hb7.size, fun k hk _ => hb7.block k hk⟩ : w5.grownBy _ none) (by cases (Value.slice a12 fs'.length c12).ownBlock; exact .inl rfl; exact .inr (by simp)))
            clear hst5 hbw5 HOW5 hb6 hbo hb7
            go_wp2_with fail
            obtain ⟨X, hX⟩ : ∃ X, w6.alloc (.cells #[.int .i64 tr, .int .i64 tc, .int .i64 tk, .int .i64 tx] 36) = X := ⟨_, rfl⟩
            rw [hX] at rT hst7 hbw7 HOW7 ⊢
            obtain ⟨T15, hT⟩ : ∃ T15, w6.heap.size = T15 := ⟨_, rfl⟩
            rw [hT] at rT ⊢
            clear hX hT
            obtain ⟨t0, t1, t2, t3⟩ := cells4 rT
            have HX := Lib.hid (And.intro hst7 hbw7)
            clear rT hst7 hbw7
            rcases list_cases fs' with rfl | ⟨gs, f, rfl⟩
            · as_aux_lemma =>
                rw [topF_nil] at htf
                simp only [zeroF] at htf
                cases htf
                refine wp_region_noPanic ?_
                refine wp_region_held_drew (S := (fun _ => True)) (by kernel_rfl) (trivial) (fun hHeld => ?_)
                first
                | (refine wpAnyH_take (i := 0) (oi := ?o1_0) (v := undef) ?hi1_0 (by kernel_rfl) (by kernel_rfl) (by kernel_rfl) (fun _ _ _ h => h) ?hy1_0 (by assumption) ?hr1_0
                   case hi1_0 => (simp only [List.getElem?_toArray, List.getElem?_cons_succ, List.getElem?_cons_zero]; rfl)
                   case hy1_0 => exact Or.inr ⟨by rfl, rfl⟩)
                | (refine wpAnyH_take (i := 0) (oi := ?o1_0) (v := ?v1_0) ?hi1_0 (by kernel_rfl) (by kernel_rfl) (by kernel_rfl) (fun _ _ _ h => h) ?hy1_0 (by assumption) ?hr1_0
                   case hi1_0 => (simp only [List.getElem?_toArray, List.getElem?_cons_succ, List.getElem?_cons_zero]; rfl)
                   case hy1_0 => (refine Or.inl ⟨by rfl, ?_⟩; intro w hSw; (try dsimp only at hSw); go_simp <;> with_reducible rfl))
                try simp only [Act.put, List.setIfInBounds_toArray, List.set_cons_zero, List.set_cons_succ]
                first
                | (refine wpAnyH_take (i := 1) (oi := ?o1_1) (v := undef) ?hi1_1 (by kernel_rfl) (by kernel_rfl) (by kernel_rfl) (fun _ _ _ h => h) ?hy1_1 (by assumption) ?hr1_1
                   case hi1_1 => (simp only [List.getElem?_toArray, List.getElem?_cons_succ, List.getElem?_cons_zero]; rfl)
                   case hy1_1 => exact Or.inr ⟨by rfl, rfl⟩)
                | (refine wpAnyH_take (i := 1) (oi := ?o1_1) (v := ?v1_1) ?hi1_1 (by kernel_rfl) (by kernel_rfl) (by kernel_rfl) (fun _ _ _ h => h) ?hy1_1 (by assumption) ?hr1_1
                   case hi1_1 => (simp only [List.getElem?_toArray, List.getElem?_cons_succ, List.getElem?_cons_zero]; rfl)
                   case hy1_1 => (refine Or.inl ⟨by rfl, ?_⟩; intro w hSw; (try dsimp only at hSw); go_simp <;> with_reducible rfl))
                try simp only [Act.put, List.setIfInBounds_toArray, List.set_cons_zero, List.set_cons_succ]
                first
                | (refine wpAnyH_take (i := 2) (oi := ?o1_2) (v := undef) ?hi1_2 (by kernel_rfl) (by kernel_rfl) (by kernel_rfl) (fun _ _ _ h => h) ?hy1_2 (by assumption) ?hr1_2
                   case hi1_2 => (simp only [List.getElem?_toArray, List.getElem?_cons_succ, List.getElem?_cons_zero]; rfl)
                   case hy1_2 => exact Or.inr ⟨by rfl, rfl⟩)
                | (refine wpAnyH_take (i := 2) (oi := ?o1_2) (v := ?v1_2) ?hi1_2 (by kernel_rfl) (by kernel_rfl) (by kernel_rfl) (fun _ _ _ h => h) ?hy1_2 (by assumption) ?hr1_2
                   case hi1_2 => (simp only [List.getElem?_toArray, List.getElem?_cons_succ, List.getElem?_cons_zero]; rfl)
                   case hy1_2 => (refine Or.inl ⟨by rfl, ?_⟩; intro w hSw; (try dsimp only at hSw); go_simp <;> with_reducible rfl))
                try simp only [Act.put, List.setIfInBounds_toArray, List.set_cons_zero, List.set_cons_succ]
                first
                | (refine wpAnyH_take (i := 3) (oi := ?o1_3) (v := undef) ?hi1_3 (by kernel_rfl) (by kernel_rfl) (by kernel_rfl) (fun _ _ _ h => h) ?hy1_3 (by assumption) ?hr1_3
                   case hi1_3 => (simp only [List.getElem?_toArray, List.getElem?_cons_succ, List.getElem?_cons_zero]; rfl)
                   case hy1_3 => exact Or.inr ⟨by rfl, rfl⟩)
                | (refine wpAnyH_take (i := 3) (oi := ?o1_3) (v := ?v1_3) ?hi1_3 (by kernel_rfl) (by kernel_rfl) (by kernel_rfl) (fun _ _ _ h => h) ?hy1_3 (by assumption) ?hr1_3
                   case hi1_3 => (simp only [List.getElem?_toArray, List.getElem?_cons_succ, List.getElem?_cons_zero]; rfl)
                   case hy1_3 => (refine Or.inl ⟨by rfl, ?_⟩; intro w hSw; (try dsimp only at hSw); go_simp <;> with_reducible rfl))
                try simp only [Act.put, List.setIfInBounds_toArray, List.set_cons_zero, List.set_cons_succ]
                first
                | (refine wpAnyH_take (i := 4) (oi := ?o1_4) (v := undef) ?hi1_4 (by kernel_rfl) (by kernel_rfl) (by kernel_rfl) (fun _ _ _ h => h) ?hy1_4 (by assumption) ?hr1_4
                   case hi1_4 => (simp only [List.getElem?_toArray, List.getElem?_cons_succ, List.getElem?_cons_zero]; rfl)
                   case hy1_4 => exact Or.inr ⟨by rfl, rfl⟩)
                | (refine wpAnyH_take (i := 4) (oi := ?o1_4) (v := ?v1_4) ?hi1_4 (by kernel_rfl) (by kernel_rfl) (by kernel_rfl) (fun _ _ _ h => h) ?hy1_4 (by assumption) ?hr1_4
                   case hi1_4 => (simp only [List.getElem?_toArray, List.getElem?_cons_succ, List.getElem?_cons_zero]; rfl)
                   case hy1_4 => (refine Or.inl ⟨by rfl, ?_⟩; intro w hSw; (try dsimp only at hSw); go_simp <;> with_reducible rfl))
                try simp only [Act.put, List.setIfInBounds_toArray, List.set_cons_zero, List.set_cons_succ]
                first
                | (refine wpAnyH_take (i := 5) (oi := ?o1_5) (v := undef) ?hi1_5 (by kernel_rfl) (by kernel_rfl) (by kernel_rfl) (fun _ _ _ h => h) ?hy1_5 (by assumption) ?hr1_5
                   case hi1_5 => (simp only [List.getElem?_toArray, List.getElem?_cons_succ, List.getElem?_cons_zero]; rfl)
                   case hy1_5 => exact Or.inr ⟨by rfl, rfl⟩)
                | (refine wpAnyH_take (i := 5) (oi := ?o1_5) (v := ?v1_5) ?hi1_5 (by kernel_rfl) (by kernel_rfl) (by kernel_rfl) (fun _ _ _ h => h) ?hy1_5 (by assumption) ?hr1_5
                   case hi1_5 => (simp only [List.getElem?_toArray, List.getElem?_cons_succ, List.getElem?_cons_zero]; rfl)
                   case hy1_5 => (refine Or.inl ⟨by rfl, ?_⟩; intro w hSw; (try dsimp only at hSw); go_simp <;> with_reducible rfl))
                try simp only [Act.put, List.setIfInBounds_toArray, List.set_cons_zero, List.set_cons_succ]
                first
                | (refine wpAnyH_take (i := 6) (oi := ?o1_6) (v := undef) ?hi1_6 (by kernel_rfl) (by kernel_rfl) (by kernel_rfl) (fun _ _ _ h => h) ?hy1_6 (by assumption) ?hr1_6
                   case hi1_6 => (simp only [List.getElem?_toArray, List.getElem?_cons_succ, List.getElem?_cons_zero]; rfl)
                   case hy1_6 => exact Or.inr ⟨by rfl, rfl⟩)
                | (refine wpAnyH_take (i := 6) (oi := ?o1_6) (v := ?v1_6) ?hi1_6 (by kernel_rfl) (by kernel_rfl) (by kernel_rfl) (fun _ _ _ h => h) ?hy1_6 (by assumption) ?hr1_6
                   case hi1_6 => (simp only [List.getElem?_toArray, List.getElem?_cons_succ, List.getElem?_cons_zero]; rfl)
                   case hy1_6 => (refine Or.inl ⟨by rfl, ?_⟩; intro w hSw; (try dsimp only at hSw); go_simp <;> with_reducible rfl))
                try simp only [Act.put, List.setIfInBounds_toArray, List.set_cons_zero, List.set_cons_succ]
                first
                | (refine wpAnyH_take (i := 7) (oi := ?o1_7) (v := undef) ?hi1_7 (by kernel_rfl) (by kernel_rfl) (by kernel_rfl) (fun _ _ _ h => h) ?hy1_7 (by assumption) ?hr1_7
                   case hi1_7 => (simp only [List.getElem?_toArray, List.getElem?_cons_succ, List.getElem?_cons_zero]; rfl)
                   case hy1_7 => exact Or.inr ⟨by rfl, rfl⟩)
                | (refine wpAnyH_take (i := 7) (oi := ?o1_7) (v := ?v1_7) ?hi1_7 (by kernel_rfl) (by kernel_rfl) (by kernel_rfl) (fun _ _ _ h => h) ?hy1_7 (by assumption) ?hr1_7
                   case hi1_7 => (simp only [List.getElem?_toArray, List.getElem?_cons_succ, List.getElem?_cons_zero]; rfl)
                   case hy1_7 => (refine Or.inl ⟨by rfl, ?_⟩; intro w hSw; (try dsimp only at hSw); go_simp <;> with_reducible rfl))
                try simp only [Act.put, List.setIfInBounds_toArray, List.set_cons_zero, List.set_cons_succ]
                first
                | (refine wpAnyH_take (i := 8) (oi := ?o1_8) (v := undef) ?hi1_8 (by kernel_rfl) (by kernel_rfl) (by kernel_rfl) (fun _ _ _ h => h) ?hy1_8 (by assumption) ?hr1_8
                   case hi1_8 => (simp only [List.getElem?_toArray, List.getElem?_cons_succ, List.getElem?_cons_zero]; rfl)
                   case hy1_8 => exact Or.inr ⟨by rfl, rfl⟩)
                | (refine wpAnyH_take (i := 8) (oi := ?o1_8) (v := ?v1_8) ?hi1_8 (by kernel_rfl) (by kernel_rfl) (by kernel_rfl) (fun _ _ _ h => h) ?hy1_8 (by assumption) ?hr1_8
                   case hi1_8 => (simp only [List.getElem?_toArray, List.getElem?_cons_succ, List.getElem?_cons_zero]; rfl)
                   case hy1_8 => (refine Or.inl ⟨by rfl, ?_⟩; intro w hSw; (try dsimp only at hSw); go_simp <;> with_reducible rfl))
                try simp only [Act.put, List.setIfInBounds_toArray, List.set_cons_zero, List.set_cons_succ]
                first
                | (refine wpAnyH_take (i := 9) (oi := ?o1_9) (v := undef) ?hi1_9 (by kernel_rfl) (by kernel_rfl) (by kernel_rfl) (fun _ _ _ h => h) ?hy1_9 (by assumption) ?hr1_9
                   case hi1_9 => (simp only [List.getElem?_toArray, List.getElem?_cons_succ, List.getElem?_cons_zero]; rfl)
                   case hy1_9 => exact Or.inr ⟨by rfl, rfl⟩)
                | (refine wpAnyH_take (i := 9) (oi := ?o1_9) (v := ?v1_9) ?hi1_9 (by kernel_rfl) (by kernel_rfl) (by kernel_rfl) (fun _ _ _ h => h) ?hy1_9 (by assumption) ?hr1_9
                   case hi1_9 => (simp only [List.getElem?_toArray, List.getElem?_cons_succ, List.getElem?_cons_zero]; rfl)
                   case hy1_9 => (refine Or.inl ⟨by rfl, ?_⟩; intro w hSw; (try dsimp only at hSw); go_simp <;> with_reducible rfl))
                try simp only [Act.put, List.setIfInBounds_toArray, List.set_cons_zero, List.set_cons_succ]
                first
                | (refine wpAnyH_take (i := 10) (oi := ?o1_10) (v := undef) ?hi1_10 (by kernel_rfl) (by kernel_rfl) (by kernel_rfl) (fun _ _ _ h => h) ?hy1_10 (by assumption) ?hr1_10
                   case hi1_10 => (simp only [List.getElem?_toArray, List.getElem?_cons_succ, List.getElem?_cons_zero]; rfl)
                   case hy1_10 => exact Or.inr ⟨by rfl, rfl⟩)
                | (refine wpAnyH_take (i := 10) (oi := ?o1_10) (v := ?v1_10) ?hi1_10 (by kernel_rfl) (by kernel_rfl) (by kernel_rfl) (fun _ _ _ h => h) ?hy1_10 (by assumption) ?hr1_10
                   case hi1_10 => (simp only [List.getElem?_toArray, List.getElem?_cons_succ, List.getElem?_cons_zero]; rfl)
                   case hy1_10 => (refine Or.inl ⟨by rfl, ?_⟩; intro w hSw; (try dsimp only at hSw); go_simp <;> with_reducible rfl))
                try simp only [Act.put, List.setIfInBounds_toArray, List.set_cons_zero, List.set_cons_succ]
                first
                | (refine wpAnyH_take (i := 11) (oi := ?o1_11) (v := undef) ?hi1_11 (by kernel_rfl) (by kernel_rfl) (by kernel_rfl) (fun _ _ _ h => h) ?hy1_11 (by assumption) ?hr1_11
                   case hi1_11 => (simp only [List.getElem?_toArray, List.getElem?_cons_succ, List.getElem?_cons_zero]; rfl)
                   case hy1_11 => exact Or.inr ⟨by rfl, rfl⟩)
                | (refine wpAnyH_take (i := 11) (oi := ?o1_11) (v := ?v1_11) ?hi1_11 (by kernel_rfl) (by kernel_rfl) (by kernel_rfl) (fun _ _ _ h => h) ?hy1_11 (by assumption) ?hr1_11
                   case hi1_11 => (simp only [List.getElem?_toArray, List.getElem?_cons_succ, List.getElem?_cons_zero]; rfl)
                   case hy1_11 => (refine Or.inl ⟨by rfl, ?_⟩; intro w hSw; (try dsimp only at hSw); go_simp <;> with_reducible rfl))
                try simp only [Act.put, List.setIfInBounds_toArray, List.set_cons_zero, List.set_cons_succ]
                first
                | (refine wpAnyH_take (i := 12) (oi := ?o1_12) (v := undef) ?hi1_12 (by kernel_rfl) (by kernel_rfl) (by kernel_rfl) (fun _ _ _ h => h) ?hy1_12 (by assumption) ?hr1_12
                   case hi1_12 => (simp only [List.getElem?_toArray, List.getElem?_cons_succ, List.getElem?_cons_zero]; rfl)
                   case hy1_12 => exact Or.inr ⟨by rfl, rfl⟩)
                | (refine wpAnyH_take (i := 12) (oi := ?o1_12) (v := ?v1_12) ?hi1_12 (by kernel_rfl) (by kernel_rfl) (by kernel_rfl) (fun _ _ _ h => h) ?hy1_12 (by assumption) ?hr1_12
                   case hi1_12 => (simp only [List.getElem?_toArray, List.getElem?_cons_succ, List.getElem?_cons_zero]; rfl)
                   case hy1_12 => (refine Or.inl ⟨by rfl, ?_⟩; intro w hSw; (try dsimp only at hSw); go_simp <;> with_reducible rfl))
                try simp only [Act.put, List.setIfInBounds_toArray, List.set_cons_zero, List.set_cons_succ]
                first
                | (refine wpAnyH_take (i := 13) (oi := ?o1_13) (v := undef) ?hi1_13 (by kernel_rfl) (by kernel_rfl) (by kernel_rfl) (fun _ _ _ h => h) ?hy1_13 (by assumption) ?hr1_13
                   case hi1_13 => (simp only [List.getElem?_toArray, List.getElem?_cons_succ, List.getElem?_cons_zero]; rfl)
                   case hy1_13 => exact Or.inr ⟨by rfl, rfl⟩)
                | (refine wpAnyH_take (i := 13) (oi := ?o1_13) (v := ?v1_13) ?hi1_13 (by kernel_rfl) (by kernel_rfl) (by kernel_rfl) (fun _ _ _ h => h) ?hy1_13 (by assumption) ?hr1_13
                   case hi1_13 => (simp only [List.getElem?_toArray, List.getElem?_cons_succ, List.getElem?_cons_zero]; rfl)
                   case hy1_13 => (refine Or.inl ⟨by rfl, ?_⟩; intro w hSw; (try dsimp only at hSw); go_simp <;> with_reducible rfl))
                try simp only [Act.put, List.setIfInBounds_toArray, List.set_cons_zero, List.set_cons_succ]
                first
                | (refine wpAnyH_take (i := 14) (oi := ?o1_14) (v := undef) ?hi1_14 (by kernel_rfl) (by kernel_rfl) (by kernel_rfl) (fun _ _ _ h => h) ?hy1_14 (by assumption) ?hr1_14
                   case hi1_14 => (simp only [List.getElem?_toArray, List.getElem?_cons_succ, List.getElem?_cons_zero]; rfl)
                   case hy1_14 => exact Or.inr ⟨by rfl, rfl⟩)
                | (refine wpAnyH_take (i := 14) (oi := ?o1_14) (v := ?v1_14) ?hi1_14 (by kernel_rfl) (by kernel_rfl) (by kernel_rfl) (fun _ _ _ h => h) ?hy1_14 (by assumption) ?hr1_14
                   case hi1_14 => (simp only [List.getElem?_toArray, List.getElem?_cons_succ, List.getElem?_cons_zero]; rfl)
                   case hy1_14 => (refine Or.inl ⟨by rfl, ?_⟩; intro w hSw; (try dsimp only at hSw); go_simp <;> with_reducible rfl))
                try simp only [Act.put, List.setIfInBounds_toArray, List.set_cons_zero, List.set_cons_succ]
                first
                | (refine wpAnyH_take (i := 15) (oi := ?o1_15) (v := undef) ?hi1_15 (by kernel_rfl) (by kernel_rfl) (by kernel_rfl) (fun _ _ _ h => h) ?hy1_15 (by assumption) ?hr1_15
                   case hi1_15 => (simp only [List.getElem?_toArray, List.getElem?_cons_succ, List.getElem?_cons_zero]; rfl)
                   case hy1_15 => exact Or.inr ⟨by rfl, rfl⟩)
                | (refine wpAnyH_take (i := 15) (oi := ?o1_15) (v := ?v1_15) ?hi1_15 (by kernel_rfl) (by kernel_rfl) (by kernel_rfl) (fun _ _ _ h => h) ?hy1_15 (by assumption) ?hr1_15
                   case hi1_15 => (simp only [List.getElem?_toArray, List.getElem?_cons_succ, List.getElem?_cons_zero]; rfl)
                   case hy1_15 => (refine Or.inl ⟨by rfl, ?_⟩; intro w hSw; (try dsimp only at hSw); go_simp <;> with_reducible rfl))
                try simp only [Act.put, List.setIfInBounds_toArray, List.set_cons_zero, List.set_cons_succ]
                first
                | (refine wpAnyH_take (i := 16) (oi := ?o1_16) (v := undef) ?hi1_16 (by kernel_rfl) (by kernel_rfl) (by kernel_rfl) (fun _ _ _ h => h) ?hy1_16 (by assumption) ?hr1_16
                   case hi1_16 => (simp only [List.getElem?_toArray, List.getElem?_cons_succ, List.getElem?_cons_zero]; rfl)
                   case hy1_16 => exact Or.inr ⟨by rfl, rfl⟩)
                | (refine wpAnyH_take (i := 16) (oi := ?o1_16) (v := ?v1_16) ?hi1_16 (by kernel_rfl) (by kernel_rfl) (by kernel_rfl) (fun _ _ _ h => h) ?hy1_16 (by assumption) ?hr1_16
                   case hi1_16 => (simp only [List.getElem?_toArray, List.getElem?_cons_succ, List.getElem?_cons_zero]; rfl)
                   case hy1_16 => (refine Or.inl ⟨by rfl, ?_⟩; intro w hSw; (try dsimp only at hSw); go_simp <;> with_reducible rfl))
                try simp only [Act.put, List.setIfInBounds_toArray, List.set_cons_zero, List.set_cons_succ]
                first
                | (refine wpAnyH_take (i := 17) (oi := ?o1_17) (v := undef) ?hi1_17 (by kernel_rfl) (by kernel_rfl) (by kernel_rfl) (fun _ _ _ h => h) ?hy1_17 (by assumption) ?hr1_17
                   case hi1_17 => (simp only [List.getElem?_toArray, List.getElem?_cons_succ, List.getElem?_cons_zero]; rfl)
                   case hy1_17 => exact Or.inr ⟨by rfl, rfl⟩)
                | (refine wpAnyH_take (i := 17) (oi := ?o1_17) (v := ?v1_17) ?hi1_17 (by kernel_rfl) (by kernel_rfl) (by kernel_rfl) (fun _ _ _ h => h) ?hy1_17 (by assumption) ?hr1_17
                   case hi1_17 => (simp only [List.getElem?_toArray, List.getElem?_cons_succ, List.getElem?_cons_zero]; rfl)
                   case hy1_17 => (refine Or.inl ⟨by rfl, ?_⟩; intro w hSw; (try dsimp only at hSw); go_simp <;> with_reducible rfl))
                try simp only [Act.put, List.setIfInBounds_toArray, List.set_cons_zero, List.set_cons_succ]
                first
                | (refine wpAnyH_take (i := 18) (oi := ?o1_18) (v := undef) ?hi1_18 (by kernel_rfl) (by kernel_rfl) (by kernel_rfl) (fun _ _ _ h => h) ?hy1_18 (by assumption) ?hr1_18
                   case hi1_18 => (simp only [List.getElem?_toArray, List.getElem?_cons_succ, List.getElem?_cons_zero]; rfl)
                   case hy1_18 => exact Or.inr ⟨by rfl, rfl⟩)
                | (refine wpAnyH_take (i := 18) (oi := ?o1_18) (v := ?v1_18) ?hi1_18 (by kernel_rfl) (by kernel_rfl) (by kernel_rfl) (fun _ _ _ h => h) ?hy1_18 (by assumption) ?hr1_18
                   case hi1_18 => (simp only [List.getElem?_toArray, List.getElem?_cons_succ, List.getElem?_cons_zero]; rfl)
                   case hy1_18 => (refine Or.inl ⟨by rfl, ?_⟩; intro w hSw; (try dsimp only at hSw); go_simp <;> with_reducible rfl))
                try simp only [Act.put, List.setIfInBounds_toArray, List.set_cons_zero, List.set_cons_succ]
                first
                | (refine wpAnyH_take (i := 19) (oi := ?o1_19) (v := undef) ?hi1_19 (by kernel_rfl) (by kernel_rfl) (by kernel_rfl) (fun _ _ _ h => h) ?hy1_19 (by assumption) ?hr1_19
                   case hi1_19 => (simp only [List.getElem?_toArray, List.getElem?_cons_succ, List.getElem?_cons_zero]; rfl)
                   case hy1_19 => exact Or.inr ⟨by rfl, rfl⟩)
                | (refine wpAnyH_take (i := 19) (oi := ?o1_19) (v := ?v1_19) ?hi1_19 (by kernel_rfl) (by kernel_rfl) (by kernel_rfl) (fun _ _ _ h => h) ?hy1_19 (by assumption) ?hr1_19
                   case hi1_19 => (simp only [List.getElem?_toArray, List.getElem?_cons_succ, List.getElem?_cons_zero]; rfl)
                   case hy1_19 => (refine Or.inl ⟨by rfl, ?_⟩; intro w hSw; (try dsimp only at hSw); go_simp <;> with_reducible rfl))
                try simp only [Act.put, List.setIfInBounds_toArray, List.set_cons_zero, List.set_cons_succ]
                first
                | (refine wpAnyH_take (i := 20) (oi := ?o1_20) (v := undef) ?hi1_20 (by kernel_rfl) (by kernel_rfl) (by kernel_rfl) (fun _ _ _ h => h) ?hy1_20 (by assumption) ?hr1_20
                   case hi1_20 => (simp only [List.getElem?_toArray, List.getElem?_cons_succ, List.getElem?_cons_zero]; rfl)
                   case hy1_20 => exact Or.inr ⟨by rfl, rfl⟩)
                | (refine wpAnyH_take (i := 20) (oi := ?o1_20) (v := ?v1_20) ?hi1_20 (by kernel_rfl) (by kernel_rfl) (by kernel_rfl) (fun _ _ _ h => h) ?hy1_20 (by assumption) ?hr1_20
                   case hi1_20 => (simp only [List.getElem?_toArray, List.getElem?_cons_succ, List.getElem?_cons_zero]; rfl)
                   case hy1_20 => (refine Or.inl ⟨by rfl, ?_⟩; intro w hSw; (try dsimp only at hSw); go_simp <;> with_reducible rfl))
                try simp only [Act.put, List.setIfInBounds_toArray, List.set_cons_zero, List.set_cons_succ]
                first
                | (refine wpAnyH_take (i := 21) (oi := ?o1_21) (v := undef) ?hi1_21 (by kernel_rfl) (by kernel_rfl) (by kernel_rfl) (fun _ _ _ h => h) ?hy1_21 (by assumption) ?hr1_21
                   case hi1_21 => (simp only [List.getElem?_toArray, List.getElem?_cons_succ, List.getElem?_cons_zero]; rfl)
                   case hy1_21 => exact Or.inr ⟨by rfl, rfl⟩)
                | (refine wpAnyH_take (i := 21) (oi := ?o1_21) (v := ?v1_21) ?hi1_21 (by kernel_rfl) (by kernel_rfl) (by kernel_rfl) (fun _ _ _ h => h) ?hy1_21 (by assumption) ?hr1_21
                   case hi1_21 => (simp only [List.getElem?_toArray, List.getElem?_cons_succ, List.getElem?_cons_zero]; rfl)
                   case hy1_21 => (refine Or.inl ⟨by rfl, ?_⟩; intro w hSw; (try dsimp only at hSw); go_simp <;> with_reducible rfl))
                try simp only [Act.put, List.setIfInBounds_toArray, List.set_cons_zero, List.set_cons_succ]
                first
                | (refine wpAnyH_take (i := 22) (oi := ?o1_22) (v := undef) ?hi1_22 (by kernel_rfl) (by kernel_rfl) (by kernel_rfl) (fun _ _ _ h => h) ?hy1_22 (by assumption) ?hr1_22
                   case hi1_22 => (simp only [List.getElem?_toArray, List.getElem?_cons_succ, List.getElem?_cons_zero]; rfl)
                   case hy1_22 => exact Or.inr ⟨by rfl, rfl⟩)
                | (refine wpAnyH_take (i := 22) (oi := ?o1_22) (v := ?v1_22) ?hi1_22 (by kernel_rfl) (by kernel_rfl) (by kernel_rfl) (fun _ _ _ h => h) ?hy1_22 (by assumption) ?hr1_22
                   case hi1_22 => (simp only [List.getElem?_toArray, List.getElem?_cons_succ, List.getElem?_cons_zero]; rfl)
                   case hy1_22 => (refine Or.inl ⟨by rfl, ?_⟩; intro w hSw; (try dsimp only at hSw); go_simp <;> with_reducible rfl))
                try simp only [Act.put, List.setIfInBounds_toArray, List.set_cons_zero, List.set_cons_succ]
                first
                | (refine wpAnyH_take (i := 23) (oi := ?o1_23) (v := undef) ?hi1_23 (by kernel_rfl) (by kernel_rfl) (by kernel_rfl) (fun _ _ _ h => h) ?hy1_23 (by assumption) ?hr1_23
                   case hi1_23 => (simp only [List.getElem?_toArray, List.getElem?_cons_succ, List.getElem?_cons_zero]; rfl)
                   case hy1_23 => exact Or.inr ⟨by rfl, rfl⟩)
                | (refine wpAnyH_take (i := 23) (oi := ?o1_23) (v := ?v1_23) ?hi1_23 (by kernel_rfl) (by kernel_rfl) (by kernel_rfl) (fun _ _ _ h => h) ?hy1_23 (by assumption) ?hr1_23
                   case hi1_23 => (simp only [List.getElem?_toArray, List.getElem?_cons_succ, List.getElem?_cons_zero]; rfl)
                   case hy1_23 => (refine Or.inl ⟨by rfl, ?_⟩; intro w hSw; (try dsimp only at hSw); go_simp <;> with_reducible rfl))
                try simp only [Act.put, List.setIfInBounds_toArray, List.set_cons_zero, List.set_cons_succ]
                first
                | (refine wpAnyH_take (i := 24) (oi := ?o1_24) (v := undef) ?hi1_24 (by kernel_rfl) (by kernel_rfl) (by kernel_rfl) (fun _ _ _ h => h) ?hy1_24 (by assumption) ?hr1_24
                   case hi1_24 => (simp only [List.getElem?_toArray, List.getElem?_cons_succ, List.getElem?_cons_zero]; rfl)
                   case hy1_24 => exact Or.inr ⟨by rfl, rfl⟩)
                | (refine wpAnyH_take (i := 24) (oi := ?o1_24) (v := ?v1_24) ?hi1_24 (by kernel_rfl) (by kernel_rfl) (by kernel_rfl) (fun _ _ _ h => h) ?hy1_24 (by assumption) ?hr1_24
                   case hi1_24 => (simp only [List.getElem?_toArray, List.getElem?_cons_succ, List.getElem?_cons_zero]; rfl)
                   case hy1_24 => (refine Or.inl ⟨by rfl, ?_⟩; intro w hSw; (try dsimp only at hSw); go_simp <;> with_reducible rfl))
                try simp only [Act.put, List.setIfInBounds_toArray, List.set_cons_zero, List.set_cons_succ]
                first
                | (refine wpAnyH_take (i := 25) (oi := ?o1_25) (v := undef) ?hi1_25 (by kernel_rfl) (by kernel_rfl) (by kernel_rfl) (fun _ _ _ h => h) ?hy1_25 (by assumption) ?hr1_25
                   case hi1_25 => (simp only [List.getElem?_toArray, List.getElem?_cons_succ, List.getElem?_cons_zero]; rfl)
                   case hy1_25 => exact Or.inr ⟨by rfl, rfl⟩)
                | (refine wpAnyH_take (i := 25) (oi := ?o1_25) (v := ?v1_25) ?hi1_25 (by kernel_rfl) (by kernel_rfl) (by kernel_rfl) (fun _ _ _ h => h) ?hy1_25 (by assumption) ?hr1_25
                   case hi1_25 => (simp only [List.getElem?_toArray, List.getElem?_cons_succ, List.getElem?_cons_zero]; rfl)
                   case hy1_25 => (refine Or.inl ⟨by rfl, ?_⟩; intro w hSw; (try dsimp only at hSw); go_simp <;> with_reducible rfl))
                try simp only [Act.put, List.setIfInBounds_toArray, List.set_cons_zero, List.set_cons_succ]
                first
                | (refine wpAnyH_take (i := 26) (oi := ?o1_26) (v := undef) ?hi1_26 (by kernel_rfl) (by kernel_rfl) (by kernel_rfl) (fun _ _ _ h => h) ?hy1_26 (by assumption) ?hr1_26
                   case hi1_26 => (simp only [List.getElem?_toArray, List.getElem?_cons_succ, List.getElem?_cons_zero]; rfl)
                   case hy1_26 => exact Or.inr ⟨by rfl, rfl⟩)
                | (refine wpAnyH_take (i := 26) (oi := ?o1_26) (v := ?v1_26) ?hi1_26 (by kernel_rfl) (by kernel_rfl) (by kernel_rfl) (fun _ _ _ h => h) ?hy1_26 (by assumption) ?hr1_26
                   case hi1_26 => (simp only [List.getElem?_toArray, List.getElem?_cons_succ, List.getElem?_cons_zero]; rfl)
                   case hy1_26 => (refine Or.inl ⟨by rfl, ?_⟩; intro w hSw; (try dsimp only at hSw); go_simp <;> with_reducible rfl))
                try simp only [Act.put, List.setIfInBounds_toArray, List.set_cons_zero, List.set_cons_succ]
                refine wpAnyH_done (by kernel_rfl) ?_ _
                refine NoPanic.normal ?_
                go_wp2_with fail
                rw [show ([] : List Fr).length = 0 from rfl]
                go_loopw [17] (fun q wr => q = .int .i64 0 ∧ Below X.heap.size X wr) (fun q _ => 0)
                case atStart => exact ⟨rfl, (Below.refl _ _).drew⟩
                case round =>
                  obtain ⟨rfl, hbq⟩ := hrel
                  have HBQ := Lib.hid hbq
                  clear hbq t0 t1 t2 t3
                  go_wp2_with fail
                  go_roundw
                  case rel =>
                    exact ⟨k + 1, F', [], most', by omega, by omega, by go_num, HX.out.1.below HBQ.out, hmk', HX.out.2.trans (HBQ.out.mono HX.out.2.size)⟩
                  case measure => simp [intOf]; omega
            · as_aux_lemma =>
                rw [topF_snoc] at htf
                cases htf
                have hfr := own_frames12 (HOW7.out) (i := gs.length) (f := ⟨tr, tc, tk, tx⟩) (by simp)
                obtain ⟨g12, ha12, u0, u1, u2, u3⟩ := hfr
                subst ha12
                have hll : (gs ++ [(⟨tr, tc, tk, tx⟩ : Fr)]).length = gs.length + 1 := by simp
                obtain ⟨m, hm⟩ : ∃ m, gs.length = m := ⟨_, rfl⟩
                rw [hll, hm]
                rw [hll, hm] at hlen' hmo'
                rw [hm] at u0 u1 u2 u3
                have hm1 : (m : Int) + 1 - 1 = (m : Int) := by omega
                have hm2 : IntKind.i64.wrap (m : Int) = (m : Int) := by simp [IntKind.wrap, IntKind.signed, IntKind.bits]; omega
                have hm3 : (0 : Int) ≤ (m : Int) := by omega
                have hm4 : (m : Int) < (m : Int) + 1 := by omega
                have hm5 : ¬ ((most' : Int) < (m : Int) + 1) := by omega
                have hS29 : (X.drew.cell? ⟨T15, 0, none⟩ = some (.int .i64 tr) ∧ X.drew.cell? ⟨T15, 1, none⟩ = some (.int .i64 tc) ∧ X.drew.cell? ⟨T15, 2, none⟩ = some (.int .i64 tk) ∧ X.drew.cell? ⟨T15, 3, none⟩ = some (.int .i64 tx)) ∧ (X.drew.cell? ⟨g12, m * 4, none⟩ = some (.int .i64 tr) ∧ X.drew.cell? ⟨g12, m * 4 + 1, none⟩ = some (.int .i64 tc) ∧ X.drew.cell? ⟨g12, m * 4 + 2, none⟩ = some (.int .i64 tk) ∧ X.drew.cell? ⟨g12, m * 4 + 3, none⟩ = some (.int .i64 tx)) := ⟨⟨t0, t1, t2, t3⟩, ⟨u0, u1, u2, u3⟩⟩
                refine wp_region_noPanic ?_
                refine wp_region_held_drew (S := (fun w' => (w'.cell? ⟨T15, 0, none⟩ = some (.int .i64 tr) ∧ w'.cell? ⟨T15, 1, none⟩ = some (.int .i64 tc) ∧ w'.cell? ⟨T15, 2, none⟩ = some (.int .i64 tk) ∧ w'.cell? ⟨T15, 3, none⟩ = some (.int .i64 tx)) ∧ (w'.cell? ⟨g12, m * 4, none⟩ = some (.int .i64 tr) ∧ w'.cell? ⟨g12, m * 4 + 1, none⟩ = some (.int .i64 tc) ∧ w'.cell? ⟨g12, m * 4 + 2, none⟩ = some (.int .i64 tk) ∧ w'.cell? ⟨g12, m * 4 + 3, none⟩ = some (.int .i64 tx)))) (by kernel_rfl) (hS29) (fun hHeld => ?_)
                first
                | (refine wpAnyH_take (i := 0) (oi := ?o2_0) (v := undef) ?hi2_0 (by kernel_rfl) (by kernel_rfl) (by kernel_rfl) (fun _ _ _ h => h) ?hy2_0 (by assumption) ?hr2_0
                   case hi2_0 => (simp only [List.getElem?_toArray, List.getElem?_cons_succ, List.getElem?_cons_zero]; rfl)
                   case hy2_0 => exact Or.inr ⟨by rfl, rfl⟩)
                | (refine wpAnyH_take (i := 0) (oi := ?o2_0) (v := ?v2_0) ?hi2_0 (by kernel_rfl) (by kernel_rfl) (by kernel_rfl) (fun _ _ _ h => h) ?hy2_0 (by assumption) ?hr2_0
                   case hi2_0 => (simp only [List.getElem?_toArray, List.getElem?_cons_succ, List.getElem?_cons_zero]; rfl)
                   case hy2_0 => (refine Or.inl ⟨by rfl, ?_⟩; intro w hSw; (try dsimp only at hSw); go_simp <;> with_reducible rfl))
                try simp only [Act.put, List.setIfInBounds_toArray, List.set_cons_zero, List.set_cons_succ]
                first
                | (refine wpAnyH_take (i := 1) (oi := ?o2_1) (v := undef) ?hi2_1 (by kernel_rfl) (by kernel_rfl) (by kernel_rfl) (fun _ _ _ h => h) ?hy2_1 (by assumption) ?hr2_1
                   case hi2_1 => (simp only [List.getElem?_toArray, List.getElem?_cons_succ, List.getElem?_cons_zero]; rfl)
                   case hy2_1 => exact Or.inr ⟨by rfl, rfl⟩)
                | (refine wpAnyH_take (i := 1) (oi := ?o2_1) (v := ?v2_1) ?hi2_1 (by kernel_rfl) (by kernel_rfl) (by kernel_rfl) (fun _ _ _ h => h) ?hy2_1 (by assumption) ?hr2_1
                   case hi2_1 => (simp only [List.getElem?_toArray, List.getElem?_cons_succ, List.getElem?_cons_zero]; rfl)
                   case hy2_1 => (refine Or.inl ⟨by rfl, ?_⟩; intro w hSw; (try dsimp only at hSw); go_simp <;> with_reducible rfl))
                try simp only [Act.put, List.setIfInBounds_toArray, List.set_cons_zero, List.set_cons_succ]
                first
                | (refine wpAnyH_take (i := 2) (oi := ?o2_2) (v := undef) ?hi2_2 (by kernel_rfl) (by kernel_rfl) (by kernel_rfl) (fun _ _ _ h => h) ?hy2_2 (by assumption) ?hr2_2
                   case hi2_2 => (simp only [List.getElem?_toArray, List.getElem?_cons_succ, List.getElem?_cons_zero]; rfl)
                   case hy2_2 => exact Or.inr ⟨by rfl, rfl⟩)
                | (refine wpAnyH_take (i := 2) (oi := ?o2_2) (v := ?v2_2) ?hi2_2 (by kernel_rfl) (by kernel_rfl) (by kernel_rfl) (fun _ _ _ h => h) ?hy2_2 (by assumption) ?hr2_2
                   case hi2_2 => (simp only [List.getElem?_toArray, List.getElem?_cons_succ, List.getElem?_cons_zero]; rfl)
                   case hy2_2 => (refine Or.inl ⟨by rfl, ?_⟩; intro w hSw; (try dsimp only at hSw); go_simp <;> with_reducible rfl))
                try simp only [Act.put, List.setIfInBounds_toArray, List.set_cons_zero, List.set_cons_succ]
                first
                | (refine wpAnyH_take (i := 3) (oi := ?o2_3) (v := undef) ?hi2_3 (by kernel_rfl) (by kernel_rfl) (by kernel_rfl) (fun _ _ _ h => h) ?hy2_3 (by assumption) ?hr2_3
                   case hi2_3 => (simp only [List.getElem?_toArray, List.getElem?_cons_succ, List.getElem?_cons_zero]; rfl)
                   case hy2_3 => exact Or.inr ⟨by rfl, rfl⟩)
                | (refine wpAnyH_take (i := 3) (oi := ?o2_3) (v := ?v2_3) ?hi2_3 (by kernel_rfl) (by kernel_rfl) (by kernel_rfl) (fun _ _ _ h => h) ?hy2_3 (by assumption) ?hr2_3
                   case hi2_3 => (simp only [List.getElem?_toArray, List.getElem?_cons_succ, List.getElem?_cons_zero]; rfl)
                   case hy2_3 => (refine Or.inl ⟨by rfl, ?_⟩; intro w hSw; (try dsimp only at hSw); go_simp <;> with_reducible rfl))
                try simp only [Act.put, List.setIfInBounds_toArray, List.set_cons_zero, List.set_cons_succ]
                first
                | (refine wpAnyH_take (i := 4) (oi := ?o2_4) (v := undef) ?hi2_4 (by kernel_rfl) (by kernel_rfl) (by kernel_rfl) (fun _ _ _ h => h) ?hy2_4 (by assumption) ?hr2_4
                   case hi2_4 => (simp only [List.getElem?_toArray, List.getElem?_cons_succ, List.getElem?_cons_zero]; rfl)
                   case hy2_4 => exact Or.inr ⟨by rfl, rfl⟩)
                | (refine wpAnyH_take (i := 4) (oi := ?o2_4) (v := ?v2_4) ?hi2_4 (by kernel_rfl) (by kernel_rfl) (by kernel_rfl) (fun _ _ _ h => h) ?hy2_4 (by assumption) ?hr2_4
                   case hi2_4 => (simp only [List.getElem?_toArray, List.getElem?_cons_succ, List.getElem?_cons_zero]; rfl)
                   case hy2_4 => (refine Or.inl ⟨by rfl, ?_⟩; intro w hSw; (try dsimp only at hSw); go_simp <;> with_reducible rfl))
                try simp only [Act.put, List.setIfInBounds_toArray, List.set_cons_zero, List.set_cons_succ]
                first
                | (refine wpAnyH_take (i := 5) (oi := ?o2_5) (v := undef) ?hi2_5 (by kernel_rfl) (by kernel_rfl) (by kernel_rfl) (fun _ _ _ h => h) ?hy2_5 (by assumption) ?hr2_5
                   case hi2_5 => (simp only [List.getElem?_toArray, List.getElem?_cons_succ, List.getElem?_cons_zero]; rfl)
                   case hy2_5 => exact Or.inr ⟨by rfl, rfl⟩)
                | (refine wpAnyH_take (i := 5) (oi := ?o2_5) (v := ?v2_5) ?hi2_5 (by kernel_rfl) (by kernel_rfl) (by kernel_rfl) (fun _ _ _ h => h) ?hy2_5 (by assumption) ?hr2_5
                   case hi2_5 => (simp only [List.getElem?_toArray, List.getElem?_cons_succ, List.getElem?_cons_zero]; rfl)
                   case hy2_5 => (refine Or.inl ⟨by rfl, ?_⟩; intro w hSw; (try dsimp only at hSw); go_simp <;> with_reducible rfl))
                try simp only [Act.put, List.setIfInBounds_toArray, List.set_cons_zero, List.set_cons_succ]
                first
                | (refine wpAnyH_take (i := 6) (oi := ?o2_6) (v := undef) ?hi2_6 (by kernel_rfl) (by kernel_rfl) (by kernel_rfl) (fun _ _ _ h => h) ?hy2_6 (by assumption) ?hr2_6
                   case hi2_6 => (simp only [List.getElem?_toArray, List.getElem?_cons_succ, List.getElem?_cons_zero]; rfl)
                   case hy2_6 => exact Or.inr ⟨by rfl, rfl⟩)
                | (refine wpAnyH_take (i := 6) (oi := ?o2_6) (v := ?v2_6) ?hi2_6 (by kernel_rfl) (by kernel_rfl) (by kernel_rfl) (fun _ _ _ h => h) ?hy2_6 (by assumption) ?hr2_6
                   case hi2_6 => (simp only [List.getElem?_toArray, List.getElem?_cons_succ, List.getElem?_cons_zero]; rfl)
                   case hy2_6 => (refine Or.inl ⟨by rfl, ?_⟩; intro w hSw; (try dsimp only at hSw); go_simp <;> with_reducible rfl))
                try simp only [Act.put, List.setIfInBounds_toArray, List.set_cons_zero, List.set_cons_succ]
                first
                | (refine wpAnyH_take (i := 7) (oi := ?o2_7) (v := undef) ?hi2_7 (by kernel_rfl) (by kernel_rfl) (by kernel_rfl) (fun _ _ _ h => h) ?hy2_7 (by assumption) ?hr2_7
                   case hi2_7 => (simp only [List.getElem?_toArray, List.getElem?_cons_succ, List.getElem?_cons_zero]; rfl)
                   case hy2_7 => exact Or.inr ⟨by rfl, rfl⟩)
                | (refine wpAnyH_take (i := 7) (oi := ?o2_7) (v := ?v2_7) ?hi2_7 (by kernel_rfl) (by kernel_rfl) (by kernel_rfl) (fun _ _ _ h => h) ?hy2_7 (by assumption) ?hr2_7
                   case hi2_7 => (simp only [List.getElem?_toArray, List.getElem?_cons_succ, List.getElem?_cons_zero]; rfl)
                   case hy2_7 => (refine Or.inl ⟨by rfl, ?_⟩; intro w hSw; (try dsimp only at hSw); go_simp <;> with_reducible rfl))
                try simp only [Act.put, List.setIfInBounds_toArray, List.set_cons_zero, List.set_cons_succ]
                first
                | (refine wpAnyH_take (i := 8) (oi := ?o2_8) (v := undef) ?hi2_8 (by kernel_rfl) (by kernel_rfl) (by kernel_rfl) (fun _ _ _ h => h) ?hy2_8 (by assumption) ?hr2_8
                   case hi2_8 => (simp only [List.getElem?_toArray, List.getElem?_cons_succ, List.getElem?_cons_zero]; rfl)
                   case hy2_8 => exact Or.inr ⟨by rfl, rfl⟩)
                | (refine wpAnyH_take (i := 8) (oi := ?o2_8) (v := ?v2_8) ?hi2_8 (by kernel_rfl) (by kernel_rfl) (by kernel_rfl) (fun _ _ _ h => h) ?hy2_8 (by assumption) ?hr2_8
                   case hi2_8 => (simp only [List.getElem?_toArray, List.getElem?_cons_succ, List.getElem?_cons_zero]; rfl)
                   case hy2_8 => (refine Or.inl ⟨by rfl, ?_⟩; intro w hSw; (try dsimp only at hSw); go_simp <;> with_reducible rfl))
                try simp only [Act.put, List.setIfInBounds_toArray, List.set_cons_zero, List.set_cons_succ]
                first
                | (refine wpAnyH_take (i := 9) (oi := ?o2_9) (v := undef) ?hi2_9 (by kernel_rfl) (by kernel_rfl) (by kernel_rfl) (fun _ _ _ h => h) ?hy2_9 (by assumption) ?hr2_9
                   case hi2_9 => (simp only [List.getElem?_toArray, List.getElem?_cons_succ, List.getElem?_cons_zero]; rfl)
                   case hy2_9 => exact Or.inr ⟨by rfl, rfl⟩)
                | (refine wpAnyH_take (i := 9) (oi := ?o2_9) (v := ?v2_9) ?hi2_9 (by kernel_rfl) (by kernel_rfl) (by kernel_rfl) (fun _ _ _ h => h) ?hy2_9 (by assumption) ?hr2_9
                   case hi2_9 => (simp only [List.getElem?_toArray, List.getElem?_cons_succ, List.getElem?_cons_zero]; rfl)
                   case hy2_9 => (refine Or.inl ⟨by rfl, ?_⟩; intro w hSw; (try dsimp only at hSw); go_simp <;> with_reducible rfl))
                try simp only [Act.put, List.setIfInBounds_toArray, List.set_cons_zero, List.set_cons_succ]
                first
                | (refine wpAnyH_take (i := 10) (oi := ?o2_10) (v := undef) ?hi2_10 (by kernel_rfl) (by kernel_rfl) (by kernel_rfl) (fun _ _ _ h => h) ?hy2_10 (by assumption) ?hr2_10
                   case hi2_10 => (simp only [List.getElem?_toArray, List.getElem?_cons_succ, List.getElem?_cons_zero]; rfl)
                   case hy2_10 => exact Or.inr ⟨by rfl, rfl⟩)
                | (refine wpAnyH_take (i := 10) (oi := ?o2_10) (v := ?v2_10) ?hi2_10 (by kernel_rfl) (by kernel_rfl) (by kernel_rfl) (fun _ _ _ h => h) ?hy2_10 (by assumption) ?hr2_10
                   case hi2_10 => (simp only [List.getElem?_toArray, List.getElem?_cons_succ, List.getElem?_cons_zero]; rfl)
                   case hy2_10 => (refine Or.inl ⟨by rfl, ?_⟩; intro w hSw; (try dsimp only at hSw); go_simp <;> with_reducible rfl))
                try simp only [Act.put, List.setIfInBounds_toArray, List.set_cons_zero, List.set_cons_succ]
                first
                | (refine wpAnyH_take (i := 11) (oi := ?o2_11) (v := undef) ?hi2_11 (by kernel_rfl) (by kernel_rfl) (by kernel_rfl) (fun _ _ _ h => h) ?hy2_11 (by assumption) ?hr2_11
                   case hi2_11 => (simp only [List.getElem?_toArray, List.getElem?_cons_succ, List.getElem?_cons_zero]; rfl)
                   case hy2_11 => exact Or.inr ⟨by rfl, rfl⟩)
                | (refine wpAnyH_take (i := 11) (oi := ?o2_11) (v := ?v2_11) ?hi2_11 (by kernel_rfl) (by kernel_rfl) (by kernel_rfl) (fun _ _ _ h => h) ?hy2_11 (by assumption) ?hr2_11
                   case hi2_11 => (simp only [List.getElem?_toArray, List.getElem?_cons_succ, List.getElem?_cons_zero]; rfl)
                   case hy2_11 => (refine Or.inl ⟨by rfl, ?_⟩; intro w hSw; (try dsimp only at hSw); go_simp <;> with_reducible rfl))
                try simp only [Act.put, List.setIfInBounds_toArray, List.set_cons_zero, List.set_cons_succ]
                first
                | (refine wpAnyH_take (i := 12) (oi := ?o2_12) (v := undef) ?hi2_12 (by kernel_rfl) (by kernel_rfl) (by kernel_rfl) (fun _ _ _ h => h) ?hy2_12 (by assumption) ?hr2_12
                   case hi2_12 => (simp only [List.getElem?_toArray, List.getElem?_cons_succ, List.getElem?_cons_zero]; rfl)
                   case hy2_12 => exact Or.inr ⟨by rfl, rfl⟩)
                | (refine wpAnyH_take (i := 12) (oi := ?o2_12) (v := ?v2_12) ?hi2_12 (by kernel_rfl) (by kernel_rfl) (by kernel_rfl) (fun _ _ _ h => h) ?hy2_12 (by assumption) ?hr2_12
                   case hi2_12 => (simp only [List.getElem?_toArray, List.getElem?_cons_succ, List.getElem?_cons_zero]; rfl)
                   case hy2_12 => (refine Or.inl ⟨by rfl, ?_⟩; intro w hSw; (try dsimp only at hSw); go_simp <;> with_reducible rfl))
                try simp only [Act.put, List.setIfInBounds_toArray, List.set_cons_zero, List.set_cons_succ]
                first
                | (refine wpAnyH_take (i := 13) (oi := ?o2_13) (v := undef) ?hi2_13 (by kernel_rfl) (by kernel_rfl) (by kernel_rfl) (fun _ _ _ h => h) ?hy2_13 (by assumption) ?hr2_13
                   case hi2_13 => (simp only [List.getElem?_toArray, List.getElem?_cons_succ, List.getElem?_cons_zero]; rfl)
                   case hy2_13 => exact Or.inr ⟨by rfl, rfl⟩)
                | (refine wpAnyH_take (i := 13) (oi := ?o2_13) (v := ?v2_13) ?hi2_13 (by kernel_rfl) (by kernel_rfl) (by kernel_rfl) (fun _ _ _ h => h) ?hy2_13 (by assumption) ?hr2_13
                   case hi2_13 => (simp only [List.getElem?_toArray, List.getElem?_cons_succ, List.getElem?_cons_zero]; rfl)
                   case hy2_13 => (refine Or.inl ⟨by rfl, ?_⟩; intro w hSw; (try dsimp only at hSw); go_simp <;> with_reducible rfl))
                try simp only [Act.put, List.setIfInBounds_toArray, List.set_cons_zero, List.set_cons_succ]
                first
                | (refine wpAnyH_take (i := 14) (oi := ?o2_14) (v := undef) ?hi2_14 (by kernel_rfl) (by kernel_rfl) (by kernel_rfl) (fun _ _ _ h => h) ?hy2_14 (by assumption) ?hr2_14
                   case hi2_14 => (simp only [List.getElem?_toArray, List.getElem?_cons_succ, List.getElem?_cons_zero]; rfl)
                   case hy2_14 => exact Or.inr ⟨by rfl, rfl⟩)
                | (refine wpAnyH_take (i := 14) (oi := ?o2_14) (v := ?v2_14) ?hi2_14 (by kernel_rfl) (by kernel_rfl) (by kernel_rfl) (fun _ _ _ h => h) ?hy2_14 (by assumption) ?hr2_14
                   case hi2_14 => (simp only [List.getElem?_toArray, List.getElem?_cons_succ, List.getElem?_cons_zero]; rfl)
                   case hy2_14 => (refine Or.inl ⟨by rfl, ?_⟩; intro w hSw; (try dsimp only at hSw); go_simp <;> with_reducible rfl))
                try simp only [Act.put, List.setIfInBounds_toArray, List.set_cons_zero, List.set_cons_succ]
                first
                | (refine wpAnyH_take (i := 15) (oi := ?o2_15) (v := undef) ?hi2_15 (by kernel_rfl) (by kernel_rfl) (by kernel_rfl) (fun _ _ _ h => h) ?hy2_15 (by assumption) ?hr2_15
                   case hi2_15 => (simp only [List.getElem?_toArray, List.getElem?_cons_succ, List.getElem?_cons_zero]; rfl)
                   case hy2_15 => exact Or.inr ⟨by rfl, rfl⟩)
                | (refine wpAnyH_take (i := 15) (oi := ?o2_15) (v := ?v2_15) ?hi2_15 (by kernel_rfl) (by kernel_rfl) (by kernel_rfl) (fun _ _ _ h => h) ?hy2_15 (by assumption) ?hr2_15
                   case hi2_15 => (simp only [List.getElem?_toArray, List.getElem?_cons_succ, List.getElem?_cons_zero]; rfl)
                   case hy2_15 => (refine Or.inl ⟨by rfl, ?_⟩; intro w hSw; (try dsimp only at hSw); go_simp <;> with_reducible rfl))
                try simp only [Act.put, List.setIfInBounds_toArray, List.set_cons_zero, List.set_cons_succ]
                first
                | (refine wpAnyH_take (i := 16) (oi := ?o2_16) (v := undef) ?hi2_16 (by kernel_rfl) (by kernel_rfl) (by kernel_rfl) (fun _ _ _ h => h) ?hy2_16 (by assumption) ?hr2_16
                   case hi2_16 => (simp only [List.getElem?_toArray, List.getElem?_cons_succ, List.getElem?_cons_zero]; rfl)
                   case hy2_16 => exact Or.inr ⟨by rfl, rfl⟩)
                | (refine wpAnyH_take (i := 16) (oi := ?o2_16) (v := ?v2_16) ?hi2_16 (by kernel_rfl) (by kernel_rfl) (by kernel_rfl) (fun _ _ _ h => h) ?hy2_16 (by assumption) ?hr2_16
                   case hi2_16 => (simp only [List.getElem?_toArray, List.getElem?_cons_succ, List.getElem?_cons_zero]; rfl)
                   case hy2_16 => (refine Or.inl ⟨by rfl, ?_⟩; intro w hSw; (try dsimp only at hSw); go_simp <;> with_reducible rfl))
                try simp only [Act.put, List.setIfInBounds_toArray, List.set_cons_zero, List.set_cons_succ]
                first
                | (refine wpAnyH_take (i := 17) (oi := ?o2_17) (v := undef) ?hi2_17 (by kernel_rfl) (by kernel_rfl) (by kernel_rfl) (fun _ _ _ h => h) ?hy2_17 (by assumption) ?hr2_17
                   case hi2_17 => (simp only [List.getElem?_toArray, List.getElem?_cons_succ, List.getElem?_cons_zero]; rfl)
                   case hy2_17 => exact Or.inr ⟨by rfl, rfl⟩)
                | (refine wpAnyH_take (i := 17) (oi := ?o2_17) (v := ?v2_17) ?hi2_17 (by kernel_rfl) (by kernel_rfl) (by kernel_rfl) (fun _ _ _ h => h) ?hy2_17 (by assumption) ?hr2_17
                   case hi2_17 => (simp only [List.getElem?_toArray, List.getElem?_cons_succ, List.getElem?_cons_zero]; rfl)
                   case hy2_17 => (refine Or.inl ⟨by rfl, ?_⟩; intro w hSw; (try dsimp only at hSw); go_simp <;> with_reducible rfl))
                try simp only [Act.put, List.setIfInBounds_toArray, List.set_cons_zero, List.set_cons_succ]
                first
                | (refine wpAnyH_take (i := 18) (oi := ?o2_18) (v := undef) ?hi2_18 (by kernel_rfl) (by kernel_rfl) (by kernel_rfl) (fun _ _ _ h => h) ?hy2_18 (by assumption) ?hr2_18
                   case hi2_18 => (simp only [List.getElem?_toArray, List.getElem?_cons_succ, List.getElem?_cons_zero]; rfl)
                   case hy2_18 => exact Or.inr ⟨by rfl, rfl⟩)
                | (refine wpAnyH_take (i := 18) (oi := ?o2_18) (v := ?v2_18) ?hi2_18 (by kernel_rfl) (by kernel_rfl) (by kernel_rfl) (fun _ _ _ h => h) ?hy2_18 (by assumption) ?hr2_18
                   case hi2_18 => (simp only [List.getElem?_toArray, List.getElem?_cons_succ, List.getElem?_cons_zero]; rfl)
                   case hy2_18 => (refine Or.inl ⟨by rfl, ?_⟩; intro w hSw; (try dsimp only at hSw); go_simp <;> with_reducible rfl))
                try simp only [Act.put, List.setIfInBounds_toArray, List.set_cons_zero, List.set_cons_succ]
                first
                | (refine wpAnyH_take (i := 19) (oi := ?o2_19) (v := undef) ?hi2_19 (by kernel_rfl) (by kernel_rfl) (by kernel_rfl) (fun _ _ _ h => h) ?hy2_19 (by assumption) ?hr2_19
                   case hi2_19 => (simp only [List.getElem?_toArray, List.getElem?_cons_succ, List.getElem?_cons_zero]; rfl)
                   case hy2_19 => exact Or.inr ⟨by rfl, rfl⟩)
                | (refine wpAnyH_take (i := 19) (oi := ?o2_19) (v := ?v2_19) ?hi2_19 (by kernel_rfl) (by kernel_rfl) (by kernel_rfl) (fun _ _ _ h => h) ?hy2_19 (by assumption) ?hr2_19
                   case hi2_19 => (simp only [List.getElem?_toArray, List.getElem?_cons_succ, List.getElem?_cons_zero]; rfl)
                   case hy2_19 => (refine Or.inl ⟨by rfl, ?_⟩; intro w hSw; (try dsimp only at hSw); go_simp <;> with_reducible rfl))
                try simp only [Act.put, List.setIfInBounds_toArray, List.set_cons_zero, List.set_cons_succ]
                first
                | (refine wpAnyH_take (i := 20) (oi := ?o2_20) (v := undef) ?hi2_20 (by kernel_rfl) (by kernel_rfl) (by kernel_rfl) (fun _ _ _ h => h) ?hy2_20 (by assumption) ?hr2_20
                   case hi2_20 => (simp only [List.getElem?_toArray, List.getElem?_cons_succ, List.getElem?_cons_zero]; rfl)
                   case hy2_20 => exact Or.inr ⟨by rfl, rfl⟩)
                | (refine wpAnyH_take (i := 20) (oi := ?o2_20) (v := ?v2_20) ?hi2_20 (by kernel_rfl) (by kernel_rfl) (by kernel_rfl) (fun _ _ _ h => h) ?hy2_20 (by assumption) ?hr2_20
                   case hi2_20 => (simp only [List.getElem?_toArray, List.getElem?_cons_succ, List.getElem?_cons_zero]; rfl)
                   case hy2_20 => (refine Or.inl ⟨by rfl, ?_⟩; intro w hSw; (try dsimp only at hSw); go_simp <;> with_reducible rfl))
                try simp only [Act.put, List.setIfInBounds_toArray, List.set_cons_zero, List.set_cons_succ]
                first
                | (refine wpAnyH_take (i := 21) (oi := ?o2_21) (v := undef) ?hi2_21 (by kernel_rfl) (by kernel_rfl) (by kernel_rfl) (fun _ _ _ h => h) ?hy2_21 (by assumption) ?hr2_21
                   case hi2_21 => (simp only [List.getElem?_toArray, List.getElem?_cons_succ, List.getElem?_cons_zero]; rfl)
                   case hy2_21 => exact Or.inr ⟨by rfl, rfl⟩)
                | (refine wpAnyH_take (i := 21) (oi := ?o2_21) (v := ?v2_21) ?hi2_21 (by kernel_rfl) (by kernel_rfl) (by kernel_rfl) (fun _ _ _ h => h) ?hy2_21 (by assumption) ?hr2_21
                   case hi2_21 => (simp only [List.getElem?_toArray, List.getElem?_cons_succ, List.getElem?_cons_zero]; rfl)
                   case hy2_21 => (refine Or.inl ⟨by rfl, ?_⟩; intro w hSw; (try dsimp only at hSw); go_simp <;> with_reducible rfl))
                try simp only [Act.put, List.setIfInBounds_toArray, List.set_cons_zero, List.set_cons_succ]
                first
                | (refine wpAnyH_take (i := 22) (oi := ?o2_22) (v := undef) ?hi2_22 (by kernel_rfl) (by kernel_rfl) (by kernel_rfl) (fun _ _ _ h => h) ?hy2_22 (by assumption) ?hr2_22
                   case hi2_22 => (simp only [List.getElem?_toArray, List.getElem?_cons_succ, List.getElem?_cons_zero]; rfl)
                   case hy2_22 => exact Or.inr ⟨by rfl, rfl⟩)
                | (refine wpAnyH_take (i := 22) (oi := ?o2_22) (v := ?v2_22) ?hi2_22 (by kernel_rfl) (by kernel_rfl) (by kernel_rfl) (fun _ _ _ h => h) ?hy2_22 (by assumption) ?hr2_22
                   case hi2_22 => (simp only [List.getElem?_toArray, List.getElem?_cons_succ, List.getElem?_cons_zero]; rfl)
                   case hy2_22 => (refine Or.inl ⟨by rfl, ?_⟩; intro w hSw; (try dsimp only at hSw); go_simp <;> with_reducible rfl))
                try simp only [Act.put, List.setIfInBounds_toArray, List.set_cons_zero, List.set_cons_succ]
                first
                | (refine wpAnyH_take (i := 23) (oi := ?o2_23) (v := undef) ?hi2_23 (by kernel_rfl) (by kernel_rfl) (by kernel_rfl) (fun _ _ _ h => h) ?hy2_23 (by assumption) ?hr2_23
                   case hi2_23 => (simp only [List.getElem?_toArray, List.getElem?_cons_succ, List.getElem?_cons_zero]; rfl)
                   case hy2_23 => exact Or.inr ⟨by rfl, rfl⟩)
                | (refine wpAnyH_take (i := 23) (oi := ?o2_23) (v := ?v2_23) ?hi2_23 (by kernel_rfl) (by kernel_rfl) (by kernel_rfl) (fun _ _ _ h => h) ?hy2_23 (by assumption) ?hr2_23
                   case hi2_23 => (simp only [List.getElem?_toArray, List.getElem?_cons_succ, List.getElem?_cons_zero]; rfl)
                   case hy2_23 => (refine Or.inl ⟨by rfl, ?_⟩; intro w hSw; (try dsimp only at hSw); go_simp <;> with_reducible rfl))
                try simp only [Act.put, List.setIfInBounds_toArray, List.set_cons_zero, List.set_cons_succ]
                first
                | (refine wpAnyH_take (i := 24) (oi := ?o2_24) (v := undef) ?hi2_24 (by kernel_rfl) (by kernel_rfl) (by kernel_rfl) (fun _ _ _ h => h) ?hy2_24 (by assumption) ?hr2_24
                   case hi2_24 => (simp only [List.getElem?_toArray, List.getElem?_cons_succ, List.getElem?_cons_zero]; rfl)
                   case hy2_24 => exact Or.inr ⟨by rfl, rfl⟩)
                | (refine wpAnyH_take (i := 24) (oi := ?o2_24) (v := ?v2_24) ?hi2_24 (by kernel_rfl) (by kernel_rfl) (by kernel_rfl) (fun _ _ _ h => h) ?hy2_24 (by assumption) ?hr2_24
                   case hi2_24 => (simp only [List.getElem?_toArray, List.getElem?_cons_succ, List.getElem?_cons_zero]; rfl)
                   case hy2_24 => (refine Or.inl ⟨by rfl, ?_⟩; intro w hSw; (try dsimp only at hSw); go_simp <;> with_reducible rfl))
                try simp only [Act.put, List.setIfInBounds_toArray, List.set_cons_zero, List.set_cons_succ]
                first
                | (refine wpAnyH_take (i := 25) (oi := ?o2_25) (v := undef) ?hi2_25 (by kernel_rfl) (by kernel_rfl) (by kernel_rfl) (fun _ _ _ h => h) ?hy2_25 (by assumption) ?hr2_25
                   case hi2_25 => (simp only [List.getElem?_toArray, List.getElem?_cons_succ, List.getElem?_cons_zero]; rfl)
                   case hy2_25 => exact Or.inr ⟨by rfl, rfl⟩)
                | (refine wpAnyH_take (i := 25) (oi := ?o2_25) (v := ?v2_25) ?hi2_25 (by kernel_rfl) (by kernel_rfl) (by kernel_rfl) (fun _ _ _ h => h) ?hy2_25 (by assumption) ?hr2_25
                   case hi2_25 => (simp only [List.getElem?_toArray, List.getElem?_cons_succ, List.getElem?_cons_zero]; rfl)
                   case hy2_25 => (refine Or.inl ⟨by rfl, ?_⟩; intro w hSw; (try dsimp only at hSw); go_simp <;> with_reducible rfl))
                try simp only [Act.put, List.setIfInBounds_toArray, List.set_cons_zero, List.set_cons_succ]
                first
                | (refine wpAnyH_take (i := 26) (oi := ?o2_26) (v := undef) ?hi2_26 (by kernel_rfl) (by kernel_rfl) (by kernel_rfl) (fun _ _ _ h => h) ?hy2_26 (by assumption) ?hr2_26
                   case hi2_26 => (simp only [List.getElem?_toArray, List.getElem?_cons_succ, List.getElem?_cons_zero]; rfl)
                   case hy2_26 => exact Or.inr ⟨by rfl, rfl⟩)
                | (refine wpAnyH_take (i := 26) (oi := ?o2_26) (v := ?v2_26) ?hi2_26 (by kernel_rfl) (by kernel_rfl) (by kernel_rfl) (fun _ _ _ h => h) ?hy2_26 (by assumption) ?hr2_26
                   case hi2_26 => (simp only [List.getElem?_toArray, List.getElem?_cons_succ, List.getElem?_cons_zero]; rfl)
                   case hy2_26 => (refine Or.inl ⟨by rfl, ?_⟩; intro w hSw; (try dsimp only at hSw); go_simp <;> with_reducible rfl))
                try simp only [Act.put, List.setIfInBounds_toArray, List.set_cons_zero, List.set_cons_succ]
                refine wpAnyH_done (by kernel_rfl) ?_ _
                refine NoPanic.normal ?_
                have hlm : m + 1 = (gs ++ [(⟨tr, tc, tk, tx⟩ : Fr)]).length := by simp [hm]
                rw [show ((m : Int) + 1) = (((gs ++ [(⟨tr, tc, tk, tx⟩ : Fr)]).length : Nat) : Int) by omega]
                rw [hlm]
                have hL1 : (gs ++ [(⟨tr, tc, tk, tx⟩ : Fr)]).length ≤ 401 := by omega
                clear hll hlm hm1 hm2 hm3 hm4 hm5 hlen' hmo' u0 u1 u2 u3 hS29 t0 t1 t2 t3 hm
                generalize gs ++ [(⟨tr, tc, tk, tx⟩ : Fr)] = L at *
                go_wp2_with fail
                go_loopw [17] (fun q wr => ∃ j : Nat, j ≤ L.length ∧ q = .int .i64 j ∧ Below X.heap.size X wr) (fun q _ => L.length - (intOf q).toNat)
                case atStart => exact ⟨0, by omega, rfl, (Below.refl _ _).drew⟩
                case round =>
                  obtain ⟨q, hq, rfl, hbq⟩ := hrel
                  by_cases hqn : q < L.length
                  · obtain ⟨fq, hfq⟩ : ∃ f, L[q]? = some f := ⟨_, List.getElem?_eq_getElem hqn⟩
                    have hstq := HX.out.1.below hbq
                    obtain ⟨g, go, eg, _, c0, c1, c2, c3⟩ := frs_own (HOW7.out.kept (⟨hbq.os, hbq.tape, hbq.output, hbq.size, fun k hk _ => hbq.block k hk⟩ : X.grownBy _ none) (by cases (Value.slice (some ⟨g12, 0, none⟩) L.length c12).ownBlock; exact .inl rfl; exact .inr (by simp))) q fq hfq
                    cases eg
                    rw [Nat.zero_add] at c0 c1 c2 c3
                    have hft := HX.out.1.ft fq (List.mem_of_getElem? hfq)
                    have hp := pos_mem (List.mem_of_getElem? hfq)
                    have hqi : (q : Int) < (L.length : Int) := by omega
                    have hqb := hbq.size
                    have HFQ := Lib.hid (And.intro hfq hft)
                    have HBQ := Lib.hid hbq
                    have hk12 : (fq.k != 1) = false ∨ ((fq.k != 1) = true ∧ (fq.k != 2) = false) := by rcases hft.2.1 with e | e <;> rw [e] <;> simp
                    clear hbq hft hfq
                    go_wp2_with fail
                    refine (has12 hstq fq.r fq.c HFQ.out.2.1.1 HFQ.out.2.1.2).mono ?_
                    rw [hp]
                    rintro e w8 ⟨rfl, hb8⟩
                    replace c0 := cell_below c0 hb8
                    replace c1 := cell_below c1 hb8
                    replace c2 := cell_below c2 hb8
                    have HB8 := Lib.hid (HBQ.out.trans (hb8.mono hqb))
                    clear hb8 hstq HBQ c3 hqb
                    rcases hk12 with hk1 | ⟨hk1, hk2⟩
                    all_goals
                      go_wp2_with fail
                      go_loopw [18] (fun t wr => ∃ j : Nat, j ≤ q ∧ t = .int .i64 j ∧ Below X.heap.size X wr) (fun t _ => q - (intOf t).toNat)
                      case atStart => exact ⟨0, by omega, rfl, HB8.out⟩
                      case round =>
                        obtain ⟨j, hj, rfl, hbj⟩ := hrel
                        have HBJ := Lib.hid hbj.drew
                        have HBJ0 := Lib.hid hbj
                        by_cases hjq : j < q
                        · obtain ⟨fj, hfj⟩ : ∃ f, L[j]? = some f := ⟨_, List.getElem?_eq_getElem (by omega)⟩
                          have hfrs := frs_own (HOW7.out.kept (⟨hbj.os, hbj.tape, hbj.output, hbj.size, fun k hk _ => hbj.block k hk⟩ : X.grownBy _ none) (by cases (Value.slice (some ⟨g12, 0, none⟩) L.length c12).ownBlock; exact .inl rfl; exact .inr (by simp)))
                          obtain ⟨_, _, ea, _, x0, x1, _, _⟩ := hfrs j fj hfj
                          cases ea
                          obtain ⟨_, _, ea, _, y0, y1, _, _⟩ := hfrs q fq HFQ.out.1
                          cases ea
                          rw [Nat.zero_add] at x0 x1 y0 y1
                          have hne := uq_ne HX.out.1.uq hfj HFQ.out.1 hjq
                          have hji : (j : Int) < (q : Int) := by omega
                          have hjl : (j : Int) < (L.length : Int) := by omega
                          clear hbj hfrs hfj c0 c1 c2
                          rcases hne with hne | hne
                          all_goals
                            go_wp2_with fail
                            go_region_held3 (fun w' => (w'.cell? ⟨g12, j * 4, none⟩ = some (.int .i64 fj.r) ∧ w'.cell? ⟨g12, j * 4 + 1, none⟩ = some (.int .i64 fj.c)) ∧ (w'.cell? ⟨g12, q * 4, none⟩ = some (.int .i64 fq.r) ∧ w'.cell? ⟨g12, q * 4 + 1, none⟩ = some (.int .i64 fq.c))) (first | exact ⟨⟨x0, x1⟩, ⟨y0, y1⟩⟩ | go_keep) (fail)
                            go_wp2_with fail
                            go_roundw
                            case rel => exact ⟨j + 1, by omega, by go_num, HBJ.out⟩
                            case measure => simp [intOf]; omega
                        · obtain rfl : j = q := by omega
                          clear hbj
                          go_wp2_with fail
                          go_roundw
                          case rel => exact ⟨j + 1, by omega, by go_num, HBJ0.out⟩
                          case measure => simp [intOf]; omega
                  · have HBQ := Lib.hid hbq
                    clear hbq
                    go_wp2_with fail
                    go_roundw
                    case rel => exact ⟨k + 1, F', L, most', by omega, by omega, by go_num, HX.out.1.below HBQ.out, hmk', HX.out.2.trans (HBQ.out.mono HX.out.2.size)⟩
                    case measure => simp [intOf]; omega
      · obtain rfl : k = 400 := by omega
        have HB := Lib.hid hb
        have hkn : ((400 : Nat) : Int) < (n : Int) := by omega
        clear hst hb HO HF
        go_wp2_with fail
        go_ret
        exact ⟨rfl, HB.out⟩
    · obtain rfl : k = n := by omega
      have HB := Lib.hid hb
      clear hst hb HO HF
      go_wp2_with fail
      go_ret
      exact ⟨rfl, HB.out⟩
end Go.Proofs.Ytfbmfcipaikaoaa
