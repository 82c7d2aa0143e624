/- begun: the calls that every statement asks ahead answer as fixed. -/
import Derived.Test.YtfbmfcipaikaoaaEq
import Derived.Deep.RegionHeld3
import Derived.Deep.DeepMust
namespace Go.Proofs.Ytfbmfcipaikaoaa
set_option linter.unusedVariables false
set_option linter.unusedSimpArgs false
open Go.RowKit Go.Maps

theorem Apt.cell {X : Nat → Prop} {W W' : World} {p : Addr} {x : Value} (h : Apt X W W') (hc : W.cell? p = some x) (hx : ¬ X p.block) : W'.cell? p = some x := by
  have hb := World.block_lt_of_cell? W p hc
  have := h.block p.block hb hx
  rw [World.cell?_of_block this]
  exact hc
theorem cells2 {w : World} {g : Nat} {a b : Value} {t : TypeId} {f : Nat × Nat} (h : w.heap[g]? = some (.cells #[a, b] t f)) : w.cell? ⟨g, 0, none⟩ = some a ∧ w.cell? ⟨g, 1, none⟩ = some b := by
  refine ⟨?_, ?_⟩ <;> (rw [cell_of_row w _ _ _ _ _ h]; rfl)
theorem I0 : I64 0 := ⟨by decide, by decide⟩
theorem I1 : I64 1 := ⟨by decide, by decide⟩
/-- Two places in boxes, while the stack turns. -/
theorem keep22 {X : Nat → Prop} {W W' : World} {p q : Nat} {a b c d : Value} (h : (W.cell? ⟨p, 0, none⟩ = some a ∧ W.cell? ⟨p, 1, none⟩ = some b) ∧ (W.cell? ⟨q, 0, none⟩ = some c ∧ W.cell? ⟨q, 1, none⟩ = some d)) (ha : Apt X W W') (hp : ¬ X p) (hq : ¬ X q) :
    (W'.cell? ⟨p, 0, none⟩ = some a ∧ W'.cell? ⟨p, 1, none⟩ = some b) ∧ (W'.cell? ⟨q, 0, none⟩ = some c ∧ W'.cell? ⟨q, 1, none⟩ = some d) :=
  ⟨⟨ha.cell h.1.1 hp, ha.cell h.1.2 hp⟩, ⟨ha.cell h.2.1 hq, ha.cell h.2.2 hq⟩⟩

theorem free_next {W : World} {S M T : Nat} {F F' : Value} (h : ∀ k, SX S M F k → k ≠ T) (hT : T < W.heap.size) (hfr : F'.ownBlock = F.ownBlock ∨ ∀ b, F'.ownBlock = some b → W.heap.size ≤ b) : ∀ k, SX S M F' k → k ≠ T := by
  rintro k (rfl | rfl | hk)
  · exact h _ (.inl rfl)
  · exact h _ (.inr (.inl rfl))
  · rcases hfr with e | e
    · exact h k (.inr (.inr (by rw [← e]; exact hk)))
    · have := e k hk; omega
theorem free_next' {W : World} {S M T : Nat} {F F' : Value} (h : ∀ k, SX S M F k → k ≠ T) (hT : T < W.heap.size) (hfr : F'.ownBlock = F.ownBlock ∨ ∀ b, F'.ownBlock = some b → W.heap.size ≤ b) : ∀ k, SX S M F' k → k ≠ T := free_next h hT hfr
/-- Twelve cells, while nothing below turns. -/
theorem keepB {W W' : World} {p q r o : Nat} {a b c d e f g h i j k l : Value} {x0 x1 x2 x3 : Nat} (H : (W.cell? ⟨p, 0, none⟩ = some a ∧ W.cell? ⟨p, 1, none⟩ = some b ∧ W.cell? ⟨p, 2, none⟩ = some c ∧ W.cell? ⟨p, 3, none⟩ = some d) ∧ (W.cell? ⟨q, 0, none⟩ = some e ∧ W.cell? ⟨q, 1, none⟩ = some f) ∧ (W.cell? ⟨r, x0, none⟩ = some g ∧ W.cell? ⟨r, x1, none⟩ = some h ∧ W.cell? ⟨r, x2, none⟩ = some i ∧ W.cell? ⟨r, x3, none⟩ = some j) ∧ (W.cell? ⟨o, 0, none⟩ = some k ∧ W.cell? ⟨o, 1, none⟩ = some l)) (hb : Below W.heap.size W W') :
    (W'.cell? ⟨p, 0, none⟩ = some a ∧ W'.cell? ⟨p, 1, none⟩ = some b ∧ W'.cell? ⟨p, 2, none⟩ = some c ∧ W'.cell? ⟨p, 3, none⟩ = some d) ∧ (W'.cell? ⟨q, 0, none⟩ = some e ∧ W'.cell? ⟨q, 1, none⟩ = some f) ∧ (W'.cell? ⟨r, x0, none⟩ = some g ∧ W'.cell? ⟨r, x1, none⟩ = some h ∧ W'.cell? ⟨r, x2, none⟩ = some i ∧ W'.cell? ⟨r, x3, none⟩ = some j) ∧ (W'.cell? ⟨o, 0, none⟩ = some k ∧ W'.cell? ⟨o, 1, none⟩ = some l) :=
  ⟨⟨cell_below H.1.1 hb, cell_below H.1.2.1 hb, cell_below H.1.2.2.1 hb, cell_below H.1.2.2.2 hb⟩, ⟨cell_below H.2.1.1 hb, cell_below H.2.1.2 hb⟩, ⟨cell_below H.2.2.1.1 hb, cell_below H.2.2.1.2.1 hb, cell_below H.2.2.1.2.2.1 hb, cell_below H.2.2.1.2.2.2 hb⟩, ⟨cell_below H.2.2.2.1 hb, cell_below H.2.2.2.2 hb⟩⟩
theorem keepC {W W' : World} {p : Nat} {a b c d : Value} (H : W.cell? ⟨p, 0, none⟩ = some a ∧ W.cell? ⟨p, 1, none⟩ = some b ∧ W.cell? ⟨p, 2, none⟩ = some c ∧ W.cell? ⟨p, 3, none⟩ = some d) (hb : Below W.heap.size W W') :
    W'.cell? ⟨p, 0, none⟩ = some a ∧ W'.cell? ⟨p, 1, none⟩ = some b ∧ W'.cell? ⟨p, 2, none⟩ = some c ∧ W'.cell? ⟨p, 3, none⟩ = some d := ⟨cell_below H.1 hb, cell_below H.2.1 hb, cell_below H.2.2.1 hb, cell_below H.2.2.2 hb⟩
theorem pos_a : pos [] 0 0 = none := by decide
theorem pos_b : pos [⟨0, 0, 1, 0⟩] 0 1 = none := by decide
theorem pos_c : pos [⟨0, 0, 1, 0⟩, ⟨0, 1, 2, 0⟩] 0 0 = some (0 : Nat) := by decide
theorem pos_d : pos [⟨0, 0, 1, 0⟩, ⟨0, 1, 2, 3⟩] 0 0 = some (0 : Nat) := by decide
theorem pos_e : pos [⟨0, 0, 1, 0⟩] 0 0 = some (0 : Nat) := by decide

set_option maxRecDepth 100000 in
set_option maxHeartbeats 4000000 in
theorem begun7 (w : World) : Calls Try.prog 7 #[] w fun e w' => e = .returned (.bool true) ∧ Below w.heap.size w w' := by
  go_enter Try.func7, Try.ntmps7
  go_wp2_with fail
  refine (new8 _).mono ?_
  rintro e w1 ⟨S, M, rfl, hst, hb1⟩
  have r2 := heap_alloc_new w1 (.cells #[.int .i64 0, .int .i64 0] 27)
  have r3 := heap_alloc_new (w1.alloc (.cells #[.int .i64 0, .int .i64 0] 27)) (.cells #[.int .i64 0, .int .i64 1] 27)
  have hs1 : (w1.alloc (.cells #[.int .i64 0, .int .i64 0] 27)).heap.size = w1.heap.size + 1 := by simp
  rw [hs1] at r3
  have hbo := ((Below.refl w1.heap.size w1).alloc (Nat.le_refl _) (.cells #[.int .i64 0, .int .i64 0] 27)).alloc (by simp) (.cells #[.int .i64 0, .int .i64 1] 27)
  have hb2 := hb1.trans (hbo.mono hb1.size)
  have hst2 := hst.below hbo
  have r2' := (Below.heap_alloc (w1.alloc (.cells #[.int .i64 0, .int .i64 0] 27)) (.cells #[.int .i64 0, .int .i64 1] 27) w1.heap.size (by simp)).trans r2
  go_wp2_with fail
  obtain ⟨A, hA⟩ : ∃ A, w1.heap.size = A := ⟨_, rfl⟩
  obtain ⟨X, hX⟩ : ∃ X, (w1.alloc (.cells #[.int .i64 0, .int .i64 0] 27)).alloc (.cells #[.int .i64 0, .int .i64 1] 27) = X := ⟨_, rfl⟩
  have hAX : A + 1 < X.heap.size := by rw [← hX, ← hA]; simp
  have hSA := hst.lt
  rw [hA] at r2' r3 hSA
  rw [hX] at r2' r3 hst2 hb2 ⊢
  rw [hA]
  clear hX hA r2 hbo hst hb1 hs1
  have hS0 : (X.cell? ⟨A, 0, none⟩ = some (.int .i64 0) ∧ X.cell? ⟨A, 1, none⟩ = some (.int .i64 0)) ∧ (X.cell? ⟨A + 1, 0, none⟩ = some (.int .i64 0) ∧ X.cell? ⟨A + 1, 1, none⟩ = some (.int .i64 1)) := ⟨cells2 r2', cells2 r3⟩
  have hf0 : ∀ T, A ≤ T → ∀ k, SX S M (.slice none 0 0) k → k ≠ T := fun T hT k hk => by
    rcases hk with rfl | rfl | hk
    · omega
    · omega
    · cases hk
  have hS0d : (X.drew.cell? ⟨A, 0, none⟩ = some (.int .i64 0) ∧ X.drew.cell? ⟨A, 1, none⟩ = some (.int .i64 0)) ∧ (X.drew.cell? ⟨A + 1, 0, none⟩ = some (.int .i64 0) ∧ X.drew.cell? ⟨A + 1, 1, none⟩ = some (.int .i64 1)) := hS0
  have hAXd : A < X.drew.heap.size ∧ A + 1 < X.drew.heap.size := ⟨by show A < X.heap.size; omega, hAX⟩
  have hstX := hst2.below ((Below.refl X.heap.size X).drew)
  have HBX := Lib.hid hb2
  clear hst2 hb2 r2' r3
  go_region_held3 (fun w' => (w'.cell? ⟨A, 0, none⟩ = some (.int .i64 0) ∧ w'.cell? ⟨A, 1, none⟩ = some (.int .i64 0)) ∧ (w'.cell? ⟨A + 1, 0, none⟩ = some (.int .i64 0) ∧ w'.cell? ⟨A + 1, 1, none⟩ = some (.int .i64 1))) (first | exact hS0 | exact hS3 | exact hS2 | exact hS1 | go_keep)
    (first
      | (go_at_call 10; refine (push10_no (fs := [⟨0, 0, 1, 0⟩, ⟨0, 1, 2, 0⟩]) hst3 0 0 2 I0 I0 (by rintro ⟨_, _, h⟩; rw [pos_c] at h; cases h)).mono ?_; rintro e w4 ⟨rfl, hb4⟩; have hS3 := keep22 hS2 (apt_below (X := fun _ => False) hb4) (fun e => e) (fun e => e))
      | (go_at_call 10; refine (push10_ok (fs := [⟨0, 0, 1, 0⟩]) hst2 0 1 2 (by decide) (.inr rfl) pos_b (by decide)).mono ?_; rintro e w3 ⟨rfl, F3, hst3, hap2, hfr2⟩; have hS2 := keep22 hS1 hap2 (fun e => free_next (hf0 A (Nat.le_refl _)) hAXd.1 hfr1 _ e rfl) (fun e => free_next (hf0 (A + 1) (by omega)) hAXd.2 hfr1 _ e rfl))
      | (go_at_call 10; refine (push10_ok (fs := []) hstX 0 0 1 (by decide) (.inl rfl) pos_a (by decide)).mono ?_; rintro e w2 ⟨rfl, F2, hst2, hap1, hfr1⟩; have hS1 := keep22 hS0d hap1 (fun e => hf0 A (Nat.le_refl _) _ e rfl) (fun e => hf0 (A + 1) (by omega) _ e rfl)))
  all_goals
    have hb2 := Apt.below HBX.out.drew hap1 (fun k hk => (hstX.sx k hk).1) HBX.out.size
    have hb3 := Apt.below hb2 hap2 (fun k hk => (hst2.sx k hk).1) hb2.size
    have hbb4 := hb3.trans (hb4.mono hb3.size)
    have hst4 := hst3.below hb4
    have hfA := free_next (free_next' (hf0 A (Nat.le_refl _)) hAXd.1 hfr1) (Nat.lt_of_lt_of_le hAXd.1 hap1.size) hfr2
    have hfA1 := free_next (free_next' (hf0 (A + 1) (by omega)) hAXd.2 hfr1) (Nat.lt_of_lt_of_le hAXd.2 hap1.size) hfr2
    have H4 := Lib.hid (And.intro hbb4 (And.intro hst4 hS3))
    clear hS0 hS0d hS1 hS2 hS3 hb2 hb3 hb4 hbb4 hst4 hst2 hst3 hstX hap1 hap2 hfr1 hfr2 hf0
    go_wp2_with fail
    refine (next25_some (fs := [⟨0, 0, 1, 0⟩]) (f := ⟨0, 1, 2, 0⟩) H4.out.2.1 3 (by decide) (by decide)).mono ?_
    rintro e w5 ⟨rfl, hst5, hap5⟩
    have hS5 := keep22 H4.out.2.2 hap5 (fun e => hfA _ e rfl) (fun e => hfA1 _ e rfl)
    have hb5 := Apt.below H4.out.1 hap5 (fun k hk => (H4.out.2.1.sx k hk).1) H4.out.1.size
    rw [show pushErr [⟨0, 0, 1, 0⟩, ⟨0, 1, 2, 0⟩] 0 0 2 = 26 from by decide]
    clear hap5 H4
    go_wp2_with fail
    refine (top16 hst5).mono ?_
    rw [show topF ([⟨0, 0, 1, 0⟩] ++ [⟨0, 1, 2, 3⟩]) = (⟨0, 1, 2, 3⟩, true) from rfl]
    rintro e w6 ⟨rfl, hb6⟩
    simp only [frV]
    have hbo := (Below.refl w6.heap.size w6).alloc (Nat.le_refl _) (.cells #[.int .i64 0, .int .i64 1, .int .i64 2, .int .i64 3] 36)
    have rT := heap_alloc_new w6 (.cells #[.int .i64 0, .int .i64 1, .int .i64 2, .int .i64 3] 36)
    have hst7 := (hst5.below hb6).below hbo
    have hsx7 : ∀ k, SX S M F3 k → k < w6.heap.size := fun k hk => Nat.lt_of_lt_of_le (hst5.sx k hk).2 hb6.size
    have hS7 := keep22 (keep22 hS5 (apt_below (X := fun _ => False) hb6) (fun e => e) (fun e => e)) (apt_below (X := fun _ => False) hbo) (fun e => e) (fun e => e)
    have hb7 := (hb5.trans (hb6.mono hb5.size)).trans (hbo.mono (Nat.le_trans hb5.size hb6.size))
    clear hst5 hS5 hb5 hb6 hbo
    go_wp2_with fail
    obtain ⟨X7, hX7⟩ : ∃ X7, w6.alloc (.cells #[.int .i64 0, .int .i64 1, .int .i64 2, .int .i64 3] 36) = X7 := ⟨_, rfl⟩
    have hTX : w6.heap.size < X7.heap.size := by rw [← hX7]; simp
    rw [hX7] at rT hst7 hS7 hb7 ⊢
    clear hX7
    obtain ⟨T8, hT8⟩ : ∃ T8, w6.heap.size = T8 := ⟨_, rfl⟩
    rw [hT8] at rT hTX hsx7 ⊢
    clear hT8
    obtain ⟨hSa, hSb⟩ := hS7
    obtain ⟨x0, x1⟩ := hSa
    obtain ⟨y0, y1⟩ := hSb
    go_wp2_with fail
    refine (from17_some hst7 0 0 I0 I0 0 pos_d).mono ?_
    rintro e w8 ⟨v', rfl, hown8, hb8⟩
    have hst8 := hst7.below hb8
    have hb8' := hb7.trans (hb8.mono hb7.size)
    replace x0 := cell_below x0 hb8
    replace x1 := cell_below x1 hb8
    replace y0 := cell_below y0 hb8
    replace y1 := cell_below y1 hb8
    have rT8 := (hb8.block T8 hTX).trans rT
    obtain ⟨gl, cl, hv'⟩ := slice_form (n := 1) hown8
    subst hv'
    obtain ⟨l0, l1, l2, l3⟩ := own_frame (f := ⟨0, 0, 1, 0⟩) hown8 (i := 0) rfl
    have hgl := (hown8.lt gl rfl).1
    have hgl2 : gl < w8.heap.size := (hown8.lt gl rfl).2
    have hT8w : T8 < w8.heap.size := Nat.lt_of_lt_of_le hTX hb8.size
    clear hst7 hb7 hb8 rT hown8
    go_wp2_with fail
    refine (pop13_some (fs := [⟨0, 0, 1, 0⟩]) (f := ⟨0, 1, 2, 3⟩) hst8).mono ?_
    rintro e w9 ⟨rfl, F9, hst9, hap9, hF9⟩
    have hb9 := Apt.below hb8' hap9 (fun k hk => (hst8.sx k hk).1) hb8'.size
    have nA : ¬ SX S M F3 A := fun e => hfA _ e rfl
    have nA1 : ¬ SX S M F3 (A + 1) := fun e => hfA1 _ e rfl
    have nT : ¬ SX S M F3 T8 := fun e => by have := hsx7 _ e; omega
    have ng : ¬ SX S M F3 gl := fun e => by have := hsx7 _ e; omega
    obtain ⟨t0, t1, t2, t3⟩ := cells4 rT8
    replace x0 := hap9.cell x0 nA
    replace x1 := hap9.cell x1 nA
    replace y0 := hap9.cell y0 nA1
    replace y1 := hap9.cell y1 nA1
    replace t0 := hap9.cell t0 nT
    replace t1 := hap9.cell t1 nT
    replace t2 := hap9.cell t2 nT
    replace t3 := hap9.cell t3 nT
    replace l0 := hap9.cell l0 ng
    replace l1 := hap9.cell l1 ng
    replace l2 := hap9.cell l2 ng
    replace l3 := hap9.cell l3 ng
    simp only [frV]
    have hbo := (Below.refl w9.heap.size w9).alloc (Nat.le_refl _) (.cells #[.int .i64 0, .int .i64 1, .int .i64 2, .int .i64 3] 36)
    have rC := heap_alloc_new w9 (.cells #[.int .i64 0, .int .i64 1, .int .i64 2, .int .i64 3] 36)
    have hstA := hst9.below hbo
    have hbA := hb9.trans (hbo.mono hb9.size)
    obtain ⟨u0, u1, u2, u3⟩ := cells4 rC
    have z := keepB ⟨⟨t0, t1, t2, t3⟩, ⟨y0, y1⟩, ⟨l0, l1, l2, l3⟩, ⟨x0, x1⟩⟩ hbo
    go_wp2_with fail
    obtain ⟨X9, hX9⟩ : ∃ X9, w9.alloc (.cells #[.int .i64 0, .int .i64 1, .int .i64 2, .int .i64 3] 36) = X9 := ⟨_, rfl⟩
    rw [hX9] at hstA hbA z u0 u1 u2 u3 ⊢
    obtain ⟨TC, hTC⟩ : ∃ TC, w9.heap.size = TC := ⟨_, rfl⟩
    rw [hTC] at u0 u1 u2 u3 ⊢
    clear hX9 hTC rC hbo hb9 hst9 hap9 x0 x1 y0 y1 t0 t1 t2 t3 l0 l1 l2 l3 hb8' hst8 rT8
    refine (height15 hstA).mono ?_
    rintro e w10 ⟨rfl, hb10⟩
    replace z := keepB z hb10
    replace u0 := cell_below u0 hb10
    replace u1 := cell_below u1 hb10
    replace u2 := cell_below u2 hb10
    replace u3 := cell_below u3 hb10
    have hstF := (hstA.below hb10).below ((Below.refl w10.heap.size w10).drew)
    have hbF := (hbA.trans (hb10.mono hbA.size)).drew
    have HF := Lib.hid hbF
    have hS : ((w10.drew.cell? ⟨T8, 0, none⟩ = some (.int .i64 0) ∧ w10.drew.cell? ⟨T8, 1, none⟩ = some (.int .i64 1) ∧ w10.drew.cell? ⟨T8, 2, none⟩ = some (.int .i64 2) ∧ w10.drew.cell? ⟨T8, 3, none⟩ = some (.int .i64 3)) ∧ (w10.drew.cell? ⟨A + 1, 0, none⟩ = some (.int .i64 0) ∧ w10.drew.cell? ⟨A + 1, 1, none⟩ = some (.int .i64 1)) ∧ (w10.drew.cell? ⟨gl, 0, none⟩ = some (.int .i64 0) ∧ w10.drew.cell? ⟨gl, 1, none⟩ = some (.int .i64 0) ∧ w10.drew.cell? ⟨gl, 2, none⟩ = some (.int .i64 1) ∧ w10.drew.cell? ⟨gl, 3, none⟩ = some (.int .i64 0)) ∧ (w10.drew.cell? ⟨A, 0, none⟩ = some (.int .i64 0) ∧ w10.drew.cell? ⟨A, 1, none⟩ = some (.int .i64 0))) ∧ (w10.drew.cell? ⟨TC, 0, none⟩ = some (.int .i64 0) ∧ w10.drew.cell? ⟨TC, 1, none⟩ = some (.int .i64 1) ∧ w10.drew.cell? ⟨TC, 2, none⟩ = some (.int .i64 2) ∧ w10.drew.cell? ⟨TC, 3, none⟩ = some (.int .i64 3)) := ⟨by simpa using z, u0, u1, u2, u3⟩
    clear hstA hbA hb10 z u0 u1 u2 u3 hbF
    go_wp2_with fail
    refine wp_region_noPanic ?_
    refine wp_region_held_drew (S := (fun w' => ((w'.cell? ⟨T8, 0, none⟩ = some (.int .i64 0) ∧ w'.cell? ⟨T8, 1, none⟩ = some (.int .i64 1) ∧ w'.cell? ⟨T8, 2, none⟩ = some (.int .i64 2) ∧ w'.cell? ⟨T8, 3, none⟩ = some (.int .i64 3)) ∧ (w'.cell? ⟨A + 1, 0, none⟩ = some (.int .i64 0) ∧ w'.cell? ⟨A + 1, 1, none⟩ = some (.int .i64 1)) ∧ (w'.cell? ⟨gl, 0, none⟩ = some (.int .i64 0) ∧ w'.cell? ⟨gl, 1, none⟩ = some (.int .i64 0) ∧ w'.cell? ⟨gl, 2, none⟩ = some (.int .i64 1) ∧ w'.cell? ⟨gl, 3, none⟩ = some (.int .i64 0)) ∧ (w'.cell? ⟨A, 0, none⟩ = some (.int .i64 0) ∧ w'.cell? ⟨A, 1, none⟩ = some (.int .i64 0))) ∧ (w'.cell? ⟨TC, 0, none⟩ = some (.int .i64 0) ∧ w'.cell? ⟨TC, 1, none⟩ = some (.int .i64 1) ∧ w'.cell? ⟨TC, 2, none⟩ = some (.int .i64 2) ∧ w'.cell? ⟨TC, 3, none⟩ = some (.int .i64 3)))) (by kernel_rfl) (hS) (fun hHeld => ?_)
    first
    | (refine wpAnyH_take (i := 0) (oi := ?o1_0) (v := undef) ?hi1_0 (by kernel_rfl) (by kernel_rfl) (by kernel_rfl) (fun _ _ _ h => h) ?hy1_0 (by assumption) ?hr1_0
       case hi1_0 => (simp only [List.getElem?_toArray, List.getElem?_cons_succ, List.getElem?_cons_zero]; rfl)
       case hy1_0 => exact Or.inr ⟨by rfl, rfl⟩)
    | (refine wpAnyH_take (i := 0) (oi := ?o1_0) (v := ?v1_0) ?hi1_0 (by kernel_rfl) (by kernel_rfl) (by kernel_rfl) (fun _ _ _ h => h) ?hy1_0 (by assumption) ?hr1_0
       case hi1_0 => (simp only [List.getElem?_toArray, List.getElem?_cons_succ, List.getElem?_cons_zero]; rfl)
       case hy1_0 => (refine Or.inl ⟨by rfl, ?_⟩; intro w hSw; (try dsimp only at hSw); go_simp <;> with_reducible rfl))
    try simp only [Act.put, List.setIfInBounds_toArray, List.set_cons_zero, List.set_cons_succ]
    first
    | (refine wpAnyH_take (i := 1) (oi := ?o1_1) (v := undef) ?hi1_1 (by kernel_rfl) (by kernel_rfl) (by kernel_rfl) (fun _ _ _ h => h) ?hy1_1 (by assumption) ?hr1_1
       case hi1_1 => (simp only [List.getElem?_toArray, List.getElem?_cons_succ, List.getElem?_cons_zero]; rfl)
       case hy1_1 => exact Or.inr ⟨by rfl, rfl⟩)
    | (refine wpAnyH_take (i := 1) (oi := ?o1_1) (v := ?v1_1) ?hi1_1 (by kernel_rfl) (by kernel_rfl) (by kernel_rfl) (fun _ _ _ h => h) ?hy1_1 (by assumption) ?hr1_1
       case hi1_1 => (simp only [List.getElem?_toArray, List.getElem?_cons_succ, List.getElem?_cons_zero]; rfl)
       case hy1_1 => (refine Or.inl ⟨by rfl, ?_⟩; intro w hSw; (try dsimp only at hSw); go_simp <;> with_reducible rfl))
    try simp only [Act.put, List.setIfInBounds_toArray, List.set_cons_zero, List.set_cons_succ]
    first
    | (refine wpAnyH_take (i := 2) (oi := ?o1_2) (v := undef) ?hi1_2 (by kernel_rfl) (by kernel_rfl) (by kernel_rfl) (fun _ _ _ h => h) ?hy1_2 (by assumption) ?hr1_2
       case hi1_2 => (simp only [List.getElem?_toArray, List.getElem?_cons_succ, List.getElem?_cons_zero]; rfl)
       case hy1_2 => exact Or.inr ⟨by rfl, rfl⟩)
    | (refine wpAnyH_take (i := 2) (oi := ?o1_2) (v := ?v1_2) ?hi1_2 (by kernel_rfl) (by kernel_rfl) (by kernel_rfl) (fun _ _ _ h => h) ?hy1_2 (by assumption) ?hr1_2
       case hi1_2 => (simp only [List.getElem?_toArray, List.getElem?_cons_succ, List.getElem?_cons_zero]; rfl)
       case hy1_2 => (refine Or.inl ⟨by rfl, ?_⟩; intro w hSw; (try dsimp only at hSw); go_simp <;> with_reducible rfl))
    try simp only [Act.put, List.setIfInBounds_toArray, List.set_cons_zero, List.set_cons_succ]
    first
    | (refine wpAnyH_take (i := 3) (oi := ?o1_3) (v := undef) ?hi1_3 (by kernel_rfl) (by kernel_rfl) (by kernel_rfl) (fun _ _ _ h => h) ?hy1_3 (by assumption) ?hr1_3
       case hi1_3 => (simp only [List.getElem?_toArray, List.getElem?_cons_succ, List.getElem?_cons_zero]; rfl)
       case hy1_3 => exact Or.inr ⟨by rfl, rfl⟩)
    | (refine wpAnyH_take (i := 3) (oi := ?o1_3) (v := ?v1_3) ?hi1_3 (by kernel_rfl) (by kernel_rfl) (by kernel_rfl) (fun _ _ _ h => h) ?hy1_3 (by assumption) ?hr1_3
       case hi1_3 => (simp only [List.getElem?_toArray, List.getElem?_cons_succ, List.getElem?_cons_zero]; rfl)
       case hy1_3 => (refine Or.inl ⟨by rfl, ?_⟩; intro w hSw; (try dsimp only at hSw); go_simp <;> with_reducible rfl))
    try simp only [Act.put, List.setIfInBounds_toArray, List.set_cons_zero, List.set_cons_succ]
    first
    | (refine wpAnyH_take (i := 4) (oi := ?o1_4) (v := undef) ?hi1_4 (by kernel_rfl) (by kernel_rfl) (by kernel_rfl) (fun _ _ _ h => h) ?hy1_4 (by assumption) ?hr1_4
       case hi1_4 => (simp only [List.getElem?_toArray, List.getElem?_cons_succ, List.getElem?_cons_zero]; rfl)
       case hy1_4 => exact Or.inr ⟨by rfl, rfl⟩)
    | (refine wpAnyH_take (i := 4) (oi := ?o1_4) (v := ?v1_4) ?hi1_4 (by kernel_rfl) (by kernel_rfl) (by kernel_rfl) (fun _ _ _ h => h) ?hy1_4 (by assumption) ?hr1_4
       case hi1_4 => (simp only [List.getElem?_toArray, List.getElem?_cons_succ, List.getElem?_cons_zero]; rfl)
       case hy1_4 => (refine Or.inl ⟨by rfl, ?_⟩; intro w hSw; (try dsimp only at hSw); go_simp <;> with_reducible rfl))
    try simp only [Act.put, List.setIfInBounds_toArray, List.set_cons_zero, List.set_cons_succ]
    first
    | (refine wpAnyH_take (i := 5) (oi := ?o1_5) (v := undef) ?hi1_5 (by kernel_rfl) (by kernel_rfl) (by kernel_rfl) (fun _ _ _ h => h) ?hy1_5 (by assumption) ?hr1_5
       case hi1_5 => (simp only [List.getElem?_toArray, List.getElem?_cons_succ, List.getElem?_cons_zero]; rfl)
       case hy1_5 => exact Or.inr ⟨by rfl, rfl⟩)
    | (refine wpAnyH_take (i := 5) (oi := ?o1_5) (v := ?v1_5) ?hi1_5 (by kernel_rfl) (by kernel_rfl) (by kernel_rfl) (fun _ _ _ h => h) ?hy1_5 (by assumption) ?hr1_5
       case hi1_5 => (simp only [List.getElem?_toArray, List.getElem?_cons_succ, List.getElem?_cons_zero]; rfl)
       case hy1_5 => (refine Or.inl ⟨by rfl, ?_⟩; intro w hSw; (try dsimp only at hSw); go_simp <;> with_reducible rfl))
    try simp only [Act.put, List.setIfInBounds_toArray, List.set_cons_zero, List.set_cons_succ]
    first
    | (refine wpAnyH_take (i := 6) (oi := ?o1_6) (v := undef) ?hi1_6 (by kernel_rfl) (by kernel_rfl) (by kernel_rfl) (fun _ _ _ h => h) ?hy1_6 (by assumption) ?hr1_6
       case hi1_6 => (simp only [List.getElem?_toArray, List.getElem?_cons_succ, List.getElem?_cons_zero]; rfl)
       case hy1_6 => exact Or.inr ⟨by rfl, rfl⟩)
    | (refine wpAnyH_take (i := 6) (oi := ?o1_6) (v := ?v1_6) ?hi1_6 (by kernel_rfl) (by kernel_rfl) (by kernel_rfl) (fun _ _ _ h => h) ?hy1_6 (by assumption) ?hr1_6
       case hi1_6 => (simp only [List.getElem?_toArray, List.getElem?_cons_succ, List.getElem?_cons_zero]; rfl)
       case hy1_6 => (refine Or.inl ⟨by rfl, ?_⟩; intro w hSw; (try dsimp only at hSw); go_simp <;> with_reducible rfl))
    try simp only [Act.put, List.setIfInBounds_toArray, List.set_cons_zero, List.set_cons_succ]
    first
    | (refine wpAnyH_take (i := 7) (oi := ?o1_7) (v := undef) ?hi1_7 (by kernel_rfl) (by kernel_rfl) (by kernel_rfl) (fun _ _ _ h => h) ?hy1_7 (by assumption) ?hr1_7
       case hi1_7 => (simp only [List.getElem?_toArray, List.getElem?_cons_succ, List.getElem?_cons_zero]; rfl)
       case hy1_7 => exact Or.inr ⟨by rfl, rfl⟩)
    | (refine wpAnyH_take (i := 7) (oi := ?o1_7) (v := ?v1_7) ?hi1_7 (by kernel_rfl) (by kernel_rfl) (by kernel_rfl) (fun _ _ _ h => h) ?hy1_7 (by assumption) ?hr1_7
       case hi1_7 => (simp only [List.getElem?_toArray, List.getElem?_cons_succ, List.getElem?_cons_zero]; rfl)
       case hy1_7 => (refine Or.inl ⟨by rfl, ?_⟩; intro w hSw; (try dsimp only at hSw); go_simp <;> with_reducible rfl))
    try simp only [Act.put, List.setIfInBounds_toArray, List.set_cons_zero, List.set_cons_succ]
    first
    | (refine wpAnyH_take (i := 8) (oi := ?o1_8) (v := undef) ?hi1_8 (by kernel_rfl) (by kernel_rfl) (by kernel_rfl) (fun _ _ _ h => h) ?hy1_8 (by assumption) ?hr1_8
       case hi1_8 => (simp only [List.getElem?_toArray, List.getElem?_cons_succ, List.getElem?_cons_zero]; rfl)
       case hy1_8 => exact Or.inr ⟨by rfl, rfl⟩)
    | (refine wpAnyH_take (i := 8) (oi := ?o1_8) (v := ?v1_8) ?hi1_8 (by kernel_rfl) (by kernel_rfl) (by kernel_rfl) (fun _ _ _ h => h) ?hy1_8 (by assumption) ?hr1_8
       case hi1_8 => (simp only [List.getElem?_toArray, List.getElem?_cons_succ, List.getElem?_cons_zero]; rfl)
       case hy1_8 => (refine Or.inl ⟨by rfl, ?_⟩; intro w hSw; (try dsimp only at hSw); go_simp <;> with_reducible rfl))
    try simp only [Act.put, List.setIfInBounds_toArray, List.set_cons_zero, List.set_cons_succ]
    first
    | (refine wpAnyH_take (i := 9) (oi := ?o1_9) (v := undef) ?hi1_9 (by kernel_rfl) (by kernel_rfl) (by kernel_rfl) (fun _ _ _ h => h) ?hy1_9 (by assumption) ?hr1_9
       case hi1_9 => (simp only [List.getElem?_toArray, List.getElem?_cons_succ, List.getElem?_cons_zero]; rfl)
       case hy1_9 => exact Or.inr ⟨by rfl, rfl⟩)
    | (refine wpAnyH_take (i := 9) (oi := ?o1_9) (v := ?v1_9) ?hi1_9 (by kernel_rfl) (by kernel_rfl) (by kernel_rfl) (fun _ _ _ h => h) ?hy1_9 (by assumption) ?hr1_9
       case hi1_9 => (simp only [List.getElem?_toArray, List.getElem?_cons_succ, List.getElem?_cons_zero]; rfl)
       case hy1_9 => (refine Or.inl ⟨by rfl, ?_⟩; intro w hSw; (try dsimp only at hSw); go_simp <;> with_reducible rfl))
    try simp only [Act.put, List.setIfInBounds_toArray, List.set_cons_zero, List.set_cons_succ]
    first
    | (refine wpAnyH_take (i := 10) (oi := ?o1_10) (v := undef) ?hi1_10 (by kernel_rfl) (by kernel_rfl) (by kernel_rfl) (fun _ _ _ h => h) ?hy1_10 (by assumption) ?hr1_10
       case hi1_10 => (simp only [List.getElem?_toArray, List.getElem?_cons_succ, List.getElem?_cons_zero]; rfl)
       case hy1_10 => exact Or.inr ⟨by rfl, rfl⟩)
    | (refine wpAnyH_take (i := 10) (oi := ?o1_10) (v := ?v1_10) ?hi1_10 (by kernel_rfl) (by kernel_rfl) (by kernel_rfl) (fun _ _ _ h => h) ?hy1_10 (by assumption) ?hr1_10
       case hi1_10 => (simp only [List.getElem?_toArray, List.getElem?_cons_succ, List.getElem?_cons_zero]; rfl)
       case hy1_10 => (refine Or.inl ⟨by rfl, ?_⟩; intro w hSw; (try dsimp only at hSw); go_simp <;> with_reducible rfl))
    try simp only [Act.put, List.setIfInBounds_toArray, List.set_cons_zero, List.set_cons_succ]
    first
    | (refine wpAnyH_take (i := 11) (oi := ?o1_11) (v := undef) ?hi1_11 (by kernel_rfl) (by kernel_rfl) (by kernel_rfl) (fun _ _ _ h => h) ?hy1_11 (by assumption) ?hr1_11
       case hi1_11 => (simp only [List.getElem?_toArray, List.getElem?_cons_succ, List.getElem?_cons_zero]; rfl)
       case hy1_11 => exact Or.inr ⟨by rfl, rfl⟩)
    | (refine wpAnyH_take (i := 11) (oi := ?o1_11) (v := ?v1_11) ?hi1_11 (by kernel_rfl) (by kernel_rfl) (by kernel_rfl) (fun _ _ _ h => h) ?hy1_11 (by assumption) ?hr1_11
       case hi1_11 => (simp only [List.getElem?_toArray, List.getElem?_cons_succ, List.getElem?_cons_zero]; rfl)
       case hy1_11 => (refine Or.inl ⟨by rfl, ?_⟩; intro w hSw; (try dsimp only at hSw); go_simp <;> with_reducible rfl))
    try simp only [Act.put, List.setIfInBounds_toArray, List.set_cons_zero, List.set_cons_succ]
    first
    | (refine wpAnyH_take (i := 12) (oi := ?o1_12) (v := undef) ?hi1_12 (by kernel_rfl) (by kernel_rfl) (by kernel_rfl) (fun _ _ _ h => h) ?hy1_12 (by assumption) ?hr1_12
       case hi1_12 => (simp only [List.getElem?_toArray, List.getElem?_cons_succ, List.getElem?_cons_zero]; rfl)
       case hy1_12 => exact Or.inr ⟨by rfl, rfl⟩)
    | (refine wpAnyH_take (i := 12) (oi := ?o1_12) (v := ?v1_12) ?hi1_12 (by kernel_rfl) (by kernel_rfl) (by kernel_rfl) (fun _ _ _ h => h) ?hy1_12 (by assumption) ?hr1_12
       case hi1_12 => (simp only [List.getElem?_toArray, List.getElem?_cons_succ, List.getElem?_cons_zero]; rfl)
       case hy1_12 => (refine Or.inl ⟨by rfl, ?_⟩; intro w hSw; (try dsimp only at hSw); go_simp <;> with_reducible rfl))
    try simp only [Act.put, List.setIfInBounds_toArray, List.set_cons_zero, List.set_cons_succ]
    first
    | (refine wpAnyH_take (i := 13) (oi := ?o1_13) (v := undef) ?hi1_13 (by kernel_rfl) (by kernel_rfl) (by kernel_rfl) (fun _ _ _ h => h) ?hy1_13 (by assumption) ?hr1_13
       case hi1_13 => (simp only [List.getElem?_toArray, List.getElem?_cons_succ, List.getElem?_cons_zero]; rfl)
       case hy1_13 => exact Or.inr ⟨by rfl, rfl⟩)
    | (refine wpAnyH_take (i := 13) (oi := ?o1_13) (v := ?v1_13) ?hi1_13 (by kernel_rfl) (by kernel_rfl) (by kernel_rfl) (fun _ _ _ h => h) ?hy1_13 (by assumption) ?hr1_13
       case hi1_13 => (simp only [List.getElem?_toArray, List.getElem?_cons_succ, List.getElem?_cons_zero]; rfl)
       case hy1_13 => (refine Or.inl ⟨by rfl, ?_⟩; intro w hSw; (try dsimp only at hSw); go_simp <;> with_reducible rfl))
    try simp only [Act.put, List.setIfInBounds_toArray, List.set_cons_zero, List.set_cons_succ]
    first
    | (refine wpAnyH_take (i := 14) (oi := ?o1_14) (v := undef) ?hi1_14 (by kernel_rfl) (by kernel_rfl) (by kernel_rfl) (fun _ _ _ h => h) ?hy1_14 (by assumption) ?hr1_14
       case hi1_14 => (simp only [List.getElem?_toArray, List.getElem?_cons_succ, List.getElem?_cons_zero]; rfl)
       case hy1_14 => exact Or.inr ⟨by rfl, rfl⟩)
    | (refine wpAnyH_take (i := 14) (oi := ?o1_14) (v := ?v1_14) ?hi1_14 (by kernel_rfl) (by kernel_rfl) (by kernel_rfl) (fun _ _ _ h => h) ?hy1_14 (by assumption) ?hr1_14
       case hi1_14 => (simp only [List.getElem?_toArray, List.getElem?_cons_succ, List.getElem?_cons_zero]; rfl)
       case hy1_14 => (refine Or.inl ⟨by rfl, ?_⟩; intro w hSw; (try dsimp only at hSw); go_simp <;> with_reducible rfl))
    try simp only [Act.put, List.setIfInBounds_toArray, List.set_cons_zero, List.set_cons_succ]
    first
    | (refine wpAnyH_take (i := 15) (oi := ?o1_15) (v := undef) ?hi1_15 (by kernel_rfl) (by kernel_rfl) (by kernel_rfl) (fun _ _ _ h => h) ?hy1_15 (by assumption) ?hr1_15
       case hi1_15 => (simp only [List.getElem?_toArray, List.getElem?_cons_succ, List.getElem?_cons_zero]; rfl)
       case hy1_15 => exact Or.inr ⟨by rfl, rfl⟩)
    | (refine wpAnyH_take (i := 15) (oi := ?o1_15) (v := ?v1_15) ?hi1_15 (by kernel_rfl) (by kernel_rfl) (by kernel_rfl) (fun _ _ _ h => h) ?hy1_15 (by assumption) ?hr1_15
       case hi1_15 => (simp only [List.getElem?_toArray, List.getElem?_cons_succ, List.getElem?_cons_zero]; rfl)
       case hy1_15 => (refine Or.inl ⟨by rfl, ?_⟩; intro w hSw; (try dsimp only at hSw); go_simp <;> with_reducible rfl))
    try simp only [Act.put, List.setIfInBounds_toArray, List.set_cons_zero, List.set_cons_succ]
    first
    | (refine wpAnyH_take (i := 16) (oi := ?o1_16) (v := undef) ?hi1_16 (by kernel_rfl) (by kernel_rfl) (by kernel_rfl) (fun _ _ _ h => h) ?hy1_16 (by assumption) ?hr1_16
       case hi1_16 => (simp only [List.getElem?_toArray, List.getElem?_cons_succ, List.getElem?_cons_zero]; rfl)
       case hy1_16 => exact Or.inr ⟨by rfl, rfl⟩)
    | (refine wpAnyH_take (i := 16) (oi := ?o1_16) (v := ?v1_16) ?hi1_16 (by kernel_rfl) (by kernel_rfl) (by kernel_rfl) (fun _ _ _ h => h) ?hy1_16 (by assumption) ?hr1_16
       case hi1_16 => (simp only [List.getElem?_toArray, List.getElem?_cons_succ, List.getElem?_cons_zero]; rfl)
       case hy1_16 => (refine Or.inl ⟨by rfl, ?_⟩; intro w hSw; (try dsimp only at hSw); go_simp <;> with_reducible rfl))
    try simp only [Act.put, List.setIfInBounds_toArray, List.set_cons_zero, List.set_cons_succ]
    first
    | (refine wpAnyH_take (i := 17) (oi := ?o1_17) (v := undef) ?hi1_17 (by kernel_rfl) (by kernel_rfl) (by kernel_rfl) (fun _ _ _ h => h) ?hy1_17 (by assumption) ?hr1_17
       case hi1_17 => (simp only [List.getElem?_toArray, List.getElem?_cons_succ, List.getElem?_cons_zero]; rfl)
       case hy1_17 => exact Or.inr ⟨by rfl, rfl⟩)
    | (refine wpAnyH_take (i := 17) (oi := ?o1_17) (v := ?v1_17) ?hi1_17 (by kernel_rfl) (by kernel_rfl) (by kernel_rfl) (fun _ _ _ h => h) ?hy1_17 (by assumption) ?hr1_17
       case hi1_17 => (simp only [List.getElem?_toArray, List.getElem?_cons_succ, List.getElem?_cons_zero]; rfl)
       case hy1_17 => (refine Or.inl ⟨by rfl, ?_⟩; intro w hSw; (try dsimp only at hSw); go_simp <;> with_reducible rfl))
    try simp only [Act.put, List.setIfInBounds_toArray, List.set_cons_zero, List.set_cons_succ]
    first
    | (refine wpAnyH_take (i := 18) (oi := ?o1_18) (v := undef) ?hi1_18 (by kernel_rfl) (by kernel_rfl) (by kernel_rfl) (fun _ _ _ h => h) ?hy1_18 (by assumption) ?hr1_18
       case hi1_18 => (simp only [List.getElem?_toArray, List.getElem?_cons_succ, List.getElem?_cons_zero]; rfl)
       case hy1_18 => exact Or.inr ⟨by rfl, rfl⟩)
    | (refine wpAnyH_take (i := 18) (oi := ?o1_18) (v := ?v1_18) ?hi1_18 (by kernel_rfl) (by kernel_rfl) (by kernel_rfl) (fun _ _ _ h => h) ?hy1_18 (by assumption) ?hr1_18
       case hi1_18 => (simp only [List.getElem?_toArray, List.getElem?_cons_succ, List.getElem?_cons_zero]; rfl)
       case hy1_18 => (refine Or.inl ⟨by rfl, ?_⟩; intro w hSw; (try dsimp only at hSw); go_simp <;> with_reducible rfl))
    try simp only [Act.put, List.setIfInBounds_toArray, List.set_cons_zero, List.set_cons_succ]
    first
    | (refine wpAnyH_take (i := 19) (oi := ?o1_19) (v := undef) ?hi1_19 (by kernel_rfl) (by kernel_rfl) (by kernel_rfl) (fun _ _ _ h => h) ?hy1_19 (by assumption) ?hr1_19
       case hi1_19 => (simp only [List.getElem?_toArray, List.getElem?_cons_succ, List.getElem?_cons_zero]; rfl)
       case hy1_19 => exact Or.inr ⟨by rfl, rfl⟩)
    | (refine wpAnyH_take (i := 19) (oi := ?o1_19) (v := ?v1_19) ?hi1_19 (by kernel_rfl) (by kernel_rfl) (by kernel_rfl) (fun _ _ _ h => h) ?hy1_19 (by assumption) ?hr1_19
       case hi1_19 => (simp only [List.getElem?_toArray, List.getElem?_cons_succ, List.getElem?_cons_zero]; rfl)
       case hy1_19 => (refine Or.inl ⟨by rfl, ?_⟩; intro w hSw; (try dsimp only at hSw); go_simp <;> with_reducible rfl))
    try simp only [Act.put, List.setIfInBounds_toArray, List.set_cons_zero, List.set_cons_succ]
    first
    | (refine wpAnyH_take (i := 20) (oi := ?o1_20) (v := undef) ?hi1_20 (by kernel_rfl) (by kernel_rfl) (by kernel_rfl) (fun _ _ _ h => h) ?hy1_20 (by assumption) ?hr1_20
       case hi1_20 => (simp only [List.getElem?_toArray, List.getElem?_cons_succ, List.getElem?_cons_zero]; rfl)
       case hy1_20 => exact Or.inr ⟨by rfl, rfl⟩)
    | (refine wpAnyH_take (i := 20) (oi := ?o1_20) (v := ?v1_20) ?hi1_20 (by kernel_rfl) (by kernel_rfl) (by kernel_rfl) (fun _ _ _ h => h) ?hy1_20 (by assumption) ?hr1_20
       case hi1_20 => (simp only [List.getElem?_toArray, List.getElem?_cons_succ, List.getElem?_cons_zero]; rfl)
       case hy1_20 => (refine Or.inl ⟨by rfl, ?_⟩; intro w hSw; (try dsimp only at hSw); go_simp <;> with_reducible rfl))
    try simp only [Act.put, List.setIfInBounds_toArray, List.set_cons_zero, List.set_cons_succ]
    first
    | (refine wpAnyH_take (i := 21) (oi := ?o1_21) (v := undef) ?hi1_21 (by kernel_rfl) (by kernel_rfl) (by kernel_rfl) (fun _ _ _ h => h) ?hy1_21 (by assumption) ?hr1_21
       case hi1_21 => (simp only [List.getElem?_toArray, List.getElem?_cons_succ, List.getElem?_cons_zero]; rfl)
       case hy1_21 => exact Or.inr ⟨by rfl, rfl⟩)
    | (refine wpAnyH_take (i := 21) (oi := ?o1_21) (v := ?v1_21) ?hi1_21 (by kernel_rfl) (by kernel_rfl) (by kernel_rfl) (fun _ _ _ h => h) ?hy1_21 (by assumption) ?hr1_21
       case hi1_21 => (simp only [List.getElem?_toArray, List.getElem?_cons_succ, List.getElem?_cons_zero]; rfl)
       case hy1_21 => (refine Or.inl ⟨by rfl, ?_⟩; intro w hSw; (try dsimp only at hSw); go_simp <;> with_reducible rfl))
    try simp only [Act.put, List.setIfInBounds_toArray, List.set_cons_zero, List.set_cons_succ]
    first
    | (refine wpAnyH_take (i := 22) (oi := ?o1_22) (v := undef) ?hi1_22 (by kernel_rfl) (by kernel_rfl) (by kernel_rfl) (fun _ _ _ h => h) ?hy1_22 (by assumption) ?hr1_22
       case hi1_22 => (simp only [List.getElem?_toArray, List.getElem?_cons_succ, List.getElem?_cons_zero]; rfl)
       case hy1_22 => exact Or.inr ⟨by rfl, rfl⟩)
    | (refine wpAnyH_take (i := 22) (oi := ?o1_22) (v := ?v1_22) ?hi1_22 (by kernel_rfl) (by kernel_rfl) (by kernel_rfl) (fun _ _ _ h => h) ?hy1_22 (by assumption) ?hr1_22
       case hi1_22 => (simp only [List.getElem?_toArray, List.getElem?_cons_succ, List.getElem?_cons_zero]; rfl)
       case hy1_22 => (refine Or.inl ⟨by rfl, ?_⟩; intro w hSw; (try dsimp only at hSw); go_simp <;> with_reducible rfl))
    try simp only [Act.put, List.setIfInBounds_toArray, List.set_cons_zero, List.set_cons_succ]
    first
    | (refine wpAnyH_take (i := 23) (oi := ?o1_23) (v := undef) ?hi1_23 (by kernel_rfl) (by kernel_rfl) (by kernel_rfl) (fun _ _ _ h => h) ?hy1_23 (by assumption) ?hr1_23
       case hi1_23 => (simp only [List.getElem?_toArray, List.getElem?_cons_succ, List.getElem?_cons_zero]; rfl)
       case hy1_23 => exact Or.inr ⟨by rfl, rfl⟩)
    | (refine wpAnyH_take (i := 23) (oi := ?o1_23) (v := ?v1_23) ?hi1_23 (by kernel_rfl) (by kernel_rfl) (by kernel_rfl) (fun _ _ _ h => h) ?hy1_23 (by assumption) ?hr1_23
       case hi1_23 => (simp only [List.getElem?_toArray, List.getElem?_cons_succ, List.getElem?_cons_zero]; rfl)
       case hy1_23 => (refine Or.inl ⟨by rfl, ?_⟩; intro w hSw; (try dsimp only at hSw); go_simp <;> with_reducible rfl))
    try simp only [Act.put, List.setIfInBounds_toArray, List.set_cons_zero, List.set_cons_succ]
    first
    | (refine wpAnyH_take (i := 24) (oi := ?o1_24) (v := undef) ?hi1_24 (by kernel_rfl) (by kernel_rfl) (by kernel_rfl) (fun _ _ _ h => h) ?hy1_24 (by assumption) ?hr1_24
       case hi1_24 => (simp only [List.getElem?_toArray, List.getElem?_cons_succ, List.getElem?_cons_zero]; rfl)
       case hy1_24 => exact Or.inr ⟨by rfl, rfl⟩)
    | (refine wpAnyH_take (i := 24) (oi := ?o1_24) (v := ?v1_24) ?hi1_24 (by kernel_rfl) (by kernel_rfl) (by kernel_rfl) (fun _ _ _ h => h) ?hy1_24 (by assumption) ?hr1_24
       case hi1_24 => (simp only [List.getElem?_toArray, List.getElem?_cons_succ, List.getElem?_cons_zero]; rfl)
       case hy1_24 => (refine Or.inl ⟨by rfl, ?_⟩; intro w hSw; (try dsimp only at hSw); go_simp <;> with_reducible rfl))
    try simp only [Act.put, List.setIfInBounds_toArray, List.set_cons_zero, List.set_cons_succ]
    first
    | (refine wpAnyH_take (i := 25) (oi := ?o1_25) (v := undef) ?hi1_25 (by kernel_rfl) (by kernel_rfl) (by kernel_rfl) (fun _ _ _ h => h) ?hy1_25 (by assumption) ?hr1_25
       case hi1_25 => (simp only [List.getElem?_toArray, List.getElem?_cons_succ, List.getElem?_cons_zero]; rfl)
       case hy1_25 => exact Or.inr ⟨by rfl, rfl⟩)
    | (refine wpAnyH_take (i := 25) (oi := ?o1_25) (v := ?v1_25) ?hi1_25 (by kernel_rfl) (by kernel_rfl) (by kernel_rfl) (fun _ _ _ h => h) ?hy1_25 (by assumption) ?hr1_25
       case hi1_25 => (simp only [List.getElem?_toArray, List.getElem?_cons_succ, List.getElem?_cons_zero]; rfl)
       case hy1_25 => (refine Or.inl ⟨by rfl, ?_⟩; intro w hSw; (try dsimp only at hSw); go_simp <;> with_reducible rfl))
    try simp only [Act.put, List.setIfInBounds_toArray, List.set_cons_zero, List.set_cons_succ]
    first
    | (refine wpAnyH_take (i := 26) (oi := ?o1_26) (v := undef) ?hi1_26 (by kernel_rfl) (by kernel_rfl) (by kernel_rfl) (fun _ _ _ h => h) ?hy1_26 (by assumption) ?hr1_26
       case hi1_26 => (simp only [List.getElem?_toArray, List.getElem?_cons_succ, List.getElem?_cons_zero]; rfl)
       case hy1_26 => exact Or.inr ⟨by rfl, rfl⟩)
    | (refine wpAnyH_take (i := 26) (oi := ?o1_26) (v := ?v1_26) ?hi1_26 (by kernel_rfl) (by kernel_rfl) (by kernel_rfl) (fun _ _ _ h => h) ?hy1_26 (by assumption) ?hr1_26
       case hi1_26 => (simp only [List.getElem?_toArray, List.getElem?_cons_succ, List.getElem?_cons_zero]; rfl)
       case hy1_26 => (refine Or.inl ⟨by rfl, ?_⟩; intro w hSw; (try dsimp only at hSw); go_simp <;> with_reducible rfl))
    try simp only [Act.put, List.setIfInBounds_toArray, List.set_cons_zero, List.set_cons_succ]
    first
    | (refine wpAnyH_take (i := 27) (oi := ?o1_27) (v := undef) ?hi1_27 (by kernel_rfl) (by kernel_rfl) (by kernel_rfl) (fun _ _ _ h => h) ?hy1_27 (by assumption) ?hr1_27
       case hi1_27 => (simp only [List.getElem?_toArray, List.getElem?_cons_succ, List.getElem?_cons_zero]; rfl)
       case hy1_27 => exact Or.inr ⟨by rfl, rfl⟩)
    | (refine wpAnyH_take (i := 27) (oi := ?o1_27) (v := ?v1_27) ?hi1_27 (by kernel_rfl) (by kernel_rfl) (by kernel_rfl) (fun _ _ _ h => h) ?hy1_27 (by assumption) ?hr1_27
       case hi1_27 => (simp only [List.getElem?_toArray, List.getElem?_cons_succ, List.getElem?_cons_zero]; rfl)
       case hy1_27 => (refine Or.inl ⟨by rfl, ?_⟩; intro w hSw; (try dsimp only at hSw); go_simp <;> with_reducible rfl))
    try simp only [Act.put, List.setIfInBounds_toArray, List.set_cons_zero, List.set_cons_succ]
    first
    | (refine wpAnyH_take (i := 28) (oi := ?o1_28) (v := undef) ?hi1_28 (by kernel_rfl) (by kernel_rfl) (by kernel_rfl) (fun _ _ _ h => h) ?hy1_28 (by assumption) ?hr1_28
       case hi1_28 => (simp only [List.getElem?_toArray, List.getElem?_cons_succ, List.getElem?_cons_zero]; rfl)
       case hy1_28 => exact Or.inr ⟨by rfl, rfl⟩)
    | (refine wpAnyH_take (i := 28) (oi := ?o1_28) (v := ?v1_28) ?hi1_28 (by kernel_rfl) (by kernel_rfl) (by kernel_rfl) (fun _ _ _ h => h) ?hy1_28 (by assumption) ?hr1_28
       case hi1_28 => (simp only [List.getElem?_toArray, List.getElem?_cons_succ, List.getElem?_cons_zero]; rfl)
       case hy1_28 => (refine Or.inl ⟨by rfl, ?_⟩; intro w hSw; (try dsimp only at hSw); go_simp <;> with_reducible rfl))
    try simp only [Act.put, List.setIfInBounds_toArray, List.set_cons_zero, List.set_cons_succ]
    first
    | (refine wpAnyH_take (i := 29) (oi := ?o1_29) (v := undef) ?hi1_29 (by kernel_rfl) (by kernel_rfl) (by kernel_rfl) (fun _ _ _ h => h) ?hy1_29 (by assumption) ?hr1_29
       case hi1_29 => (simp only [List.getElem?_toArray, List.getElem?_cons_succ, List.getElem?_cons_zero]; rfl)
       case hy1_29 => exact Or.inr ⟨by rfl, rfl⟩)
    | (refine wpAnyH_take (i := 29) (oi := ?o1_29) (v := ?v1_29) ?hi1_29 (by kernel_rfl) (by kernel_rfl) (by kernel_rfl) (fun _ _ _ h => h) ?hy1_29 (by assumption) ?hr1_29
       case hi1_29 => (simp only [List.getElem?_toArray, List.getElem?_cons_succ, List.getElem?_cons_zero]; rfl)
       case hy1_29 => (refine Or.inl ⟨by rfl, ?_⟩; intro w hSw; (try dsimp only at hSw); go_simp <;> with_reducible rfl))
    try simp only [Act.put, List.setIfInBounds_toArray, List.set_cons_zero, List.set_cons_succ]
    first
    | (refine wpAnyH_take (i := 30) (oi := ?o1_30) (v := undef) ?hi1_30 (by kernel_rfl) (by kernel_rfl) (by kernel_rfl) (fun _ _ _ h => h) ?hy1_30 (by assumption) ?hr1_30
       case hi1_30 => (simp only [List.getElem?_toArray, List.getElem?_cons_succ, List.getElem?_cons_zero]; rfl)
       case hy1_30 => exact Or.inr ⟨by rfl, rfl⟩)
    | (refine wpAnyH_take (i := 30) (oi := ?o1_30) (v := ?v1_30) ?hi1_30 (by kernel_rfl) (by kernel_rfl) (by kernel_rfl) (fun _ _ _ h => h) ?hy1_30 (by assumption) ?hr1_30
       case hi1_30 => (simp only [List.getElem?_toArray, List.getElem?_cons_succ, List.getElem?_cons_zero]; rfl)
       case hy1_30 => (refine Or.inl ⟨by rfl, ?_⟩; intro w hSw; (try dsimp only at hSw); go_simp <;> with_reducible rfl))
    try simp only [Act.put, List.setIfInBounds_toArray, List.set_cons_zero, List.set_cons_succ]
    first
    | (refine wpAnyH_take (i := 31) (oi := ?o1_31) (v := undef) ?hi1_31 (by kernel_rfl) (by kernel_rfl) (by kernel_rfl) (fun _ _ _ h => h) ?hy1_31 (by assumption) ?hr1_31
       case hi1_31 => (simp only [List.getElem?_toArray, List.getElem?_cons_succ, List.getElem?_cons_zero]; rfl)
       case hy1_31 => exact Or.inr ⟨by rfl, rfl⟩)
    | (refine wpAnyH_take (i := 31) (oi := ?o1_31) (v := ?v1_31) ?hi1_31 (by kernel_rfl) (by kernel_rfl) (by kernel_rfl) (fun _ _ _ h => h) ?hy1_31 (by assumption) ?hr1_31
       case hi1_31 => (simp only [List.getElem?_toArray, List.getElem?_cons_succ, List.getElem?_cons_zero]; rfl)
       case hy1_31 => (refine Or.inl ⟨by rfl, ?_⟩; intro w hSw; (try dsimp only at hSw); go_simp <;> with_reducible rfl))
    try simp only [Act.put, List.setIfInBounds_toArray, List.set_cons_zero, List.set_cons_succ]
    first
    | (refine wpAnyH_take (i := 32) (oi := ?o1_32) (v := undef) ?hi1_32 (by kernel_rfl) (by kernel_rfl) (by kernel_rfl) (fun _ _ _ h => h) ?hy1_32 (by assumption) ?hr1_32
       case hi1_32 => (simp only [List.getElem?_toArray, List.getElem?_cons_succ, List.getElem?_cons_zero]; rfl)
       case hy1_32 => exact Or.inr ⟨by rfl, rfl⟩)
    | (refine wpAnyH_take (i := 32) (oi := ?o1_32) (v := ?v1_32) ?hi1_32 (by kernel_rfl) (by kernel_rfl) (by kernel_rfl) (fun _ _ _ h => h) ?hy1_32 (by assumption) ?hr1_32
       case hi1_32 => (simp only [List.getElem?_toArray, List.getElem?_cons_succ, List.getElem?_cons_zero]; rfl)
       case hy1_32 => (refine Or.inl ⟨by rfl, ?_⟩; intro w hSw; (try dsimp only at hSw); go_simp <;> with_reducible rfl))
    try simp only [Act.put, List.setIfInBounds_toArray, List.set_cons_zero, List.set_cons_succ]
    first
    | (refine wpAnyH_take (i := 33) (oi := ?o1_33) (v := undef) ?hi1_33 (by kernel_rfl) (by kernel_rfl) (by kernel_rfl) (fun _ _ _ h => h) ?hy1_33 (by assumption) ?hr1_33
       case hi1_33 => (simp only [List.getElem?_toArray, List.getElem?_cons_succ, List.getElem?_cons_zero]; rfl)
       case hy1_33 => exact Or.inr ⟨by rfl, rfl⟩)
    | (refine wpAnyH_take (i := 33) (oi := ?o1_33) (v := ?v1_33) ?hi1_33 (by kernel_rfl) (by kernel_rfl) (by kernel_rfl) (fun _ _ _ h => h) ?hy1_33 (by assumption) ?hr1_33
       case hi1_33 => (simp only [List.getElem?_toArray, List.getElem?_cons_succ, List.getElem?_cons_zero]; rfl)
       case hy1_33 => (refine Or.inl ⟨by rfl, ?_⟩; intro w hSw; (try dsimp only at hSw); go_simp <;> with_reducible rfl))
    try simp only [Act.put, List.setIfInBounds_toArray, List.set_cons_zero, List.set_cons_succ]
    first
    | (refine wpAnyH_take (i := 34) (oi := ?o1_34) (v := undef) ?hi1_34 (by kernel_rfl) (by kernel_rfl) (by kernel_rfl) (fun _ _ _ h => h) ?hy1_34 (by assumption) ?hr1_34
       case hi1_34 => (simp only [List.getElem?_toArray, List.getElem?_cons_succ, List.getElem?_cons_zero]; rfl)
       case hy1_34 => exact Or.inr ⟨by rfl, rfl⟩)
    | (refine wpAnyH_take (i := 34) (oi := ?o1_34) (v := ?v1_34) ?hi1_34 (by kernel_rfl) (by kernel_rfl) (by kernel_rfl) (fun _ _ _ h => h) ?hy1_34 (by assumption) ?hr1_34
       case hi1_34 => (simp only [List.getElem?_toArray, List.getElem?_cons_succ, List.getElem?_cons_zero]; rfl)
       case hy1_34 => (refine Or.inl ⟨by rfl, ?_⟩; intro w hSw; (try dsimp only at hSw); go_simp <;> with_reducible rfl))
    try simp only [Act.put, List.setIfInBounds_toArray, List.set_cons_zero, List.set_cons_succ]
    first
    | (refine wpAnyH_take (i := 35) (oi := ?o1_35) (v := undef) ?hi1_35 (by kernel_rfl) (by kernel_rfl) (by kernel_rfl) (fun _ _ _ h => h) ?hy1_35 (by assumption) ?hr1_35
       case hi1_35 => (simp only [List.getElem?_toArray, List.getElem?_cons_succ, List.getElem?_cons_zero]; rfl)
       case hy1_35 => exact Or.inr ⟨by rfl, rfl⟩)
    | (refine wpAnyH_take (i := 35) (oi := ?o1_35) (v := ?v1_35) ?hi1_35 (by kernel_rfl) (by kernel_rfl) (by kernel_rfl) (fun _ _ _ h => h) ?hy1_35 (by assumption) ?hr1_35
       case hi1_35 => (simp only [List.getElem?_toArray, List.getElem?_cons_succ, List.getElem?_cons_zero]; rfl)
       case hy1_35 => (refine Or.inl ⟨by rfl, ?_⟩; intro w hSw; (try dsimp only at hSw); go_simp <;> with_reducible rfl))
    try simp only [Act.put, List.setIfInBounds_toArray, List.set_cons_zero, List.set_cons_succ]
    first
    | (refine wpAnyH_take (i := 36) (oi := ?o1_36) (v := undef) ?hi1_36 (by kernel_rfl) (by kernel_rfl) (by kernel_rfl) (fun _ _ _ h => h) ?hy1_36 (by assumption) ?hr1_36
       case hi1_36 => (simp only [List.getElem?_toArray, List.getElem?_cons_succ, List.getElem?_cons_zero]; rfl)
       case hy1_36 => exact Or.inr ⟨by rfl, rfl⟩)
    | (refine wpAnyH_take (i := 36) (oi := ?o1_36) (v := ?v1_36) ?hi1_36 (by kernel_rfl) (by kernel_rfl) (by kernel_rfl) (fun _ _ _ h => h) ?hy1_36 (by assumption) ?hr1_36
       case hi1_36 => (simp only [List.getElem?_toArray, List.getElem?_cons_succ, List.getElem?_cons_zero]; rfl)
       case hy1_36 => (refine Or.inl ⟨by rfl, ?_⟩; intro w hSw; (try dsimp only at hSw); go_simp <;> with_reducible rfl))
    try simp only [Act.put, List.setIfInBounds_toArray, List.set_cons_zero, List.set_cons_succ]
    first
    | (refine wpAnyH_take (i := 37) (oi := ?o1_37) (v := undef) ?hi1_37 (by kernel_rfl) (by kernel_rfl) (by kernel_rfl) (fun _ _ _ h => h) ?hy1_37 (by assumption) ?hr1_37
       case hi1_37 => (simp only [List.getElem?_toArray, List.getElem?_cons_succ, List.getElem?_cons_zero]; rfl)
       case hy1_37 => exact Or.inr ⟨by rfl, rfl⟩)
    | (refine wpAnyH_take (i := 37) (oi := ?o1_37) (v := ?v1_37) ?hi1_37 (by kernel_rfl) (by kernel_rfl) (by kernel_rfl) (fun _ _ _ h => h) ?hy1_37 (by assumption) ?hr1_37
       case hi1_37 => (simp only [List.getElem?_toArray, List.getElem?_cons_succ, List.getElem?_cons_zero]; rfl)
       case hy1_37 => (refine Or.inl ⟨by rfl, ?_⟩; intro w hSw; (try dsimp only at hSw); go_simp <;> with_reducible rfl))
    try simp only [Act.put, List.setIfInBounds_toArray, List.set_cons_zero, List.set_cons_succ]
    first
    | (refine wpAnyH_take (i := 38) (oi := ?o1_38) (v := undef) ?hi1_38 (by kernel_rfl) (by kernel_rfl) (by kernel_rfl) (fun _ _ _ h => h) ?hy1_38 (by assumption) ?hr1_38
       case hi1_38 => (simp only [List.getElem?_toArray, List.getElem?_cons_succ, List.getElem?_cons_zero]; rfl)
       case hy1_38 => exact Or.inr ⟨by rfl, rfl⟩)
    | (refine wpAnyH_take (i := 38) (oi := ?o1_38) (v := ?v1_38) ?hi1_38 (by kernel_rfl) (by kernel_rfl) (by kernel_rfl) (fun _ _ _ h => h) ?hy1_38 (by assumption) ?hr1_38
       case hi1_38 => (simp only [List.getElem?_toArray, List.getElem?_cons_succ, List.getElem?_cons_zero]; rfl)
       case hy1_38 => (refine Or.inl ⟨by rfl, ?_⟩; intro w hSw; (try dsimp only at hSw); go_simp <;> with_reducible rfl))
    try simp only [Act.put, List.setIfInBounds_toArray, List.set_cons_zero, List.set_cons_succ]
    first
    | (refine wpAnyH_take (i := 39) (oi := ?o1_39) (v := undef) ?hi1_39 (by kernel_rfl) (by kernel_rfl) (by kernel_rfl) (fun _ _ _ h => h) ?hy1_39 (by assumption) ?hr1_39
       case hi1_39 => (simp only [List.getElem?_toArray, List.getElem?_cons_succ, List.getElem?_cons_zero]; rfl)
       case hy1_39 => exact Or.inr ⟨by rfl, rfl⟩)
    | (refine wpAnyH_take (i := 39) (oi := ?o1_39) (v := ?v1_39) ?hi1_39 (by kernel_rfl) (by kernel_rfl) (by kernel_rfl) (fun _ _ _ h => h) ?hy1_39 (by assumption) ?hr1_39
       case hi1_39 => (simp only [List.getElem?_toArray, List.getElem?_cons_succ, List.getElem?_cons_zero]; rfl)
       case hy1_39 => (refine Or.inl ⟨by rfl, ?_⟩; intro w hSw; (try dsimp only at hSw); go_simp <;> with_reducible rfl))
    try simp only [Act.put, List.setIfInBounds_toArray, List.set_cons_zero, List.set_cons_succ]
    first
    | (refine wpAnyH_take (i := 40) (oi := ?o1_40) (v := undef) ?hi1_40 (by kernel_rfl) (by kernel_rfl) (by kernel_rfl) (fun _ _ _ h => h) ?hy1_40 (by assumption) ?hr1_40
       case hi1_40 => (simp only [List.getElem?_toArray, List.getElem?_cons_succ, List.getElem?_cons_zero]; rfl)
       case hy1_40 => exact Or.inr ⟨by rfl, rfl⟩)
    | (refine wpAnyH_take (i := 40) (oi := ?o1_40) (v := ?v1_40) ?hi1_40 (by kernel_rfl) (by kernel_rfl) (by kernel_rfl) (fun _ _ _ h => h) ?hy1_40 (by assumption) ?hr1_40
       case hi1_40 => (simp only [List.getElem?_toArray, List.getElem?_cons_succ, List.getElem?_cons_zero]; rfl)
       case hy1_40 => (refine Or.inl ⟨by rfl, ?_⟩; intro w hSw; (try dsimp only at hSw); go_simp <;> with_reducible rfl))
    try simp only [Act.put, List.setIfInBounds_toArray, List.set_cons_zero, List.set_cons_succ]
    first
    | (refine wpAnyH_take (i := 41) (oi := ?o1_41) (v := undef) ?hi1_41 (by kernel_rfl) (by kernel_rfl) (by kernel_rfl) (fun _ _ _ h => h) ?hy1_41 (by assumption) ?hr1_41
       case hi1_41 => (simp only [List.getElem?_toArray, List.getElem?_cons_succ, List.getElem?_cons_zero]; rfl)
       case hy1_41 => exact Or.inr ⟨by rfl, rfl⟩)
    | (refine wpAnyH_take (i := 41) (oi := ?o1_41) (v := ?v1_41) ?hi1_41 (by kernel_rfl) (by kernel_rfl) (by kernel_rfl) (fun _ _ _ h => h) ?hy1_41 (by assumption) ?hr1_41
       case hi1_41 => (simp only [List.getElem?_toArray, List.getElem?_cons_succ, List.getElem?_cons_zero]; rfl)
       case hy1_41 => (refine Or.inl ⟨by rfl, ?_⟩; intro w hSw; (try dsimp only at hSw); go_simp <;> with_reducible rfl))
    try simp only [Act.put, List.setIfInBounds_toArray, List.set_cons_zero, List.set_cons_succ]
    first
    | (refine wpAnyH_take (i := 42) (oi := ?o1_42) (v := undef) ?hi1_42 (by kernel_rfl) (by kernel_rfl) (by kernel_rfl) (fun _ _ _ h => h) ?hy1_42 (by assumption) ?hr1_42
       case hi1_42 => (simp only [List.getElem?_toArray, List.getElem?_cons_succ, List.getElem?_cons_zero]; rfl)
       case hy1_42 => exact Or.inr ⟨by rfl, rfl⟩)
    | (refine wpAnyH_take (i := 42) (oi := ?o1_42) (v := ?v1_42) ?hi1_42 (by kernel_rfl) (by kernel_rfl) (by kernel_rfl) (fun _ _ _ h => h) ?hy1_42 (by assumption) ?hr1_42
       case hi1_42 => (simp only [List.getElem?_toArray, List.getElem?_cons_succ, List.getElem?_cons_zero]; rfl)
       case hy1_42 => (refine Or.inl ⟨by rfl, ?_⟩; intro w hSw; (try dsimp only at hSw); go_simp <;> with_reducible rfl))
    try simp only [Act.put, List.setIfInBounds_toArray, List.set_cons_zero, List.set_cons_succ]
    first
    | (refine wpAnyH_take (i := 43) (oi := ?o1_43) (v := undef) ?hi1_43 (by kernel_rfl) (by kernel_rfl) (by kernel_rfl) (fun _ _ _ h => h) ?hy1_43 (by assumption) ?hr1_43
       case hi1_43 => (simp only [List.getElem?_toArray, List.getElem?_cons_succ, List.getElem?_cons_zero]; rfl)
       case hy1_43 => exact Or.inr ⟨by rfl, rfl⟩)
    | (refine wpAnyH_take (i := 43) (oi := ?o1_43) (v := ?v1_43) ?hi1_43 (by kernel_rfl) (by kernel_rfl) (by kernel_rfl) (fun _ _ _ h => h) ?hy1_43 (by assumption) ?hr1_43
       case hi1_43 => (simp only [List.getElem?_toArray, List.getElem?_cons_succ, List.getElem?_cons_zero]; rfl)
       case hy1_43 => (refine Or.inl ⟨by rfl, ?_⟩; intro w hSw; (try dsimp only at hSw); go_simp <;> with_reducible rfl))
    try simp only [Act.put, List.setIfInBounds_toArray, List.set_cons_zero, List.set_cons_succ]
    first
    | (refine wpAnyH_take (i := 44) (oi := ?o1_44) (v := undef) ?hi1_44 (by kernel_rfl) (by kernel_rfl) (by kernel_rfl) (fun _ _ _ h => h) ?hy1_44 (by assumption) ?hr1_44
       case hi1_44 => (simp only [List.getElem?_toArray, List.getElem?_cons_succ, List.getElem?_cons_zero]; rfl)
       case hy1_44 => exact Or.inr ⟨by rfl, rfl⟩)
    | (refine wpAnyH_take (i := 44) (oi := ?o1_44) (v := ?v1_44) ?hi1_44 (by kernel_rfl) (by kernel_rfl) (by kernel_rfl) (fun _ _ _ h => h) ?hy1_44 (by assumption) ?hr1_44
       case hi1_44 => (simp only [List.getElem?_toArray, List.getElem?_cons_succ, List.getElem?_cons_zero]; rfl)
       case hy1_44 => (refine Or.inl ⟨by rfl, ?_⟩; intro w hSw; (try dsimp only at hSw); go_simp <;> with_reducible rfl))
    try simp only [Act.put, List.setIfInBounds_toArray, List.set_cons_zero, List.set_cons_succ]
    first
    | (refine wpAnyH_take (i := 45) (oi := ?o1_45) (v := undef) ?hi1_45 (by kernel_rfl) (by kernel_rfl) (by kernel_rfl) (fun _ _ _ h => h) ?hy1_45 (by assumption) ?hr1_45
       case hi1_45 => (simp only [List.getElem?_toArray, List.getElem?_cons_succ, List.getElem?_cons_zero]; rfl)
       case hy1_45 => exact Or.inr ⟨by rfl, rfl⟩)
    | (refine wpAnyH_take (i := 45) (oi := ?o1_45) (v := ?v1_45) ?hi1_45 (by kernel_rfl) (by kernel_rfl) (by kernel_rfl) (fun _ _ _ h => h) ?hy1_45 (by assumption) ?hr1_45
       case hi1_45 => (simp only [List.getElem?_toArray, List.getElem?_cons_succ, List.getElem?_cons_zero]; rfl)
       case hy1_45 => (refine Or.inl ⟨by rfl, ?_⟩; intro w hSw; (try dsimp only at hSw); go_simp <;> with_reducible rfl))
    try simp only [Act.put, List.setIfInBounds_toArray, List.set_cons_zero, List.set_cons_succ]
    first
    | (refine wpAnyH_take (i := 46) (oi := ?o1_46) (v := undef) ?hi1_46 (by kernel_rfl) (by kernel_rfl) (by kernel_rfl) (fun _ _ _ h => h) ?hy1_46 (by assumption) ?hr1_46
       case hi1_46 => (simp only [List.getElem?_toArray, List.getElem?_cons_succ, List.getElem?_cons_zero]; rfl)
       case hy1_46 => exact Or.inr ⟨by rfl, rfl⟩)
    | (refine wpAnyH_take (i := 46) (oi := ?o1_46) (v := ?v1_46) ?hi1_46 (by kernel_rfl) (by kernel_rfl) (by kernel_rfl) (fun _ _ _ h => h) ?hy1_46 (by assumption) ?hr1_46
       case hi1_46 => (simp only [List.getElem?_toArray, List.getElem?_cons_succ, List.getElem?_cons_zero]; rfl)
       case hy1_46 => (refine Or.inl ⟨by rfl, ?_⟩; intro w hSw; (try dsimp only at hSw); go_simp <;> with_reducible rfl))
    try simp only [Act.put, List.setIfInBounds_toArray, List.set_cons_zero, List.set_cons_succ]
    first
    | (refine wpAnyH_take (i := 47) (oi := ?o1_47) (v := undef) ?hi1_47 (by kernel_rfl) (by kernel_rfl) (by kernel_rfl) (fun _ _ _ h => h) ?hy1_47 (by assumption) ?hr1_47
       case hi1_47 => (simp only [List.getElem?_toArray, List.getElem?_cons_succ, List.getElem?_cons_zero]; rfl)
       case hy1_47 => exact Or.inr ⟨by rfl, rfl⟩)
    | (refine wpAnyH_take (i := 47) (oi := ?o1_47) (v := ?v1_47) ?hi1_47 (by kernel_rfl) (by kernel_rfl) (by kernel_rfl) (fun _ _ _ h => h) ?hy1_47 (by assumption) ?hr1_47
       case hi1_47 => (simp only [List.getElem?_toArray, List.getElem?_cons_succ, List.getElem?_cons_zero]; rfl)
       case hy1_47 => (refine Or.inl ⟨by rfl, ?_⟩; intro w hSw; (try dsimp only at hSw); go_simp <;> with_reducible rfl))
    try simp only [Act.put, List.setIfInBounds_toArray, List.set_cons_zero, List.set_cons_succ]
    first
    | (refine wpAnyH_take (i := 48) (oi := ?o1_48) (v := undef) ?hi1_48 (by kernel_rfl) (by kernel_rfl) (by kernel_rfl) (fun _ _ _ h => h) ?hy1_48 (by assumption) ?hr1_48
       case hi1_48 => (simp only [List.getElem?_toArray, List.getElem?_cons_succ, List.getElem?_cons_zero]; rfl)
       case hy1_48 => exact Or.inr ⟨by rfl, rfl⟩)
    | (refine wpAnyH_take (i := 48) (oi := ?o1_48) (v := ?v1_48) ?hi1_48 (by kernel_rfl) (by kernel_rfl) (by kernel_rfl) (fun _ _ _ h => h) ?hy1_48 (by assumption) ?hr1_48
       case hi1_48 => (simp only [List.getElem?_toArray, List.getElem?_cons_succ, List.getElem?_cons_zero]; rfl)
       case hy1_48 => (refine Or.inl ⟨by rfl, ?_⟩; intro w hSw; (try dsimp only at hSw); go_simp <;> with_reducible rfl))
    try simp only [Act.put, List.setIfInBounds_toArray, List.set_cons_zero, List.set_cons_succ]
    first
    | (refine wpAnyH_take (i := 49) (oi := ?o1_49) (v := undef) ?hi1_49 (by kernel_rfl) (by kernel_rfl) (by kernel_rfl) (fun _ _ _ h => h) ?hy1_49 (by assumption) ?hr1_49
       case hi1_49 => (simp only [List.getElem?_toArray, List.getElem?_cons_succ, List.getElem?_cons_zero]; rfl)
       case hy1_49 => exact Or.inr ⟨by rfl, rfl⟩)
    | (refine wpAnyH_take (i := 49) (oi := ?o1_49) (v := ?v1_49) ?hi1_49 (by kernel_rfl) (by kernel_rfl) (by kernel_rfl) (fun _ _ _ h => h) ?hy1_49 (by assumption) ?hr1_49
       case hi1_49 => (simp only [List.getElem?_toArray, List.getElem?_cons_succ, List.getElem?_cons_zero]; rfl)
       case hy1_49 => (refine Or.inl ⟨by rfl, ?_⟩; intro w hSw; (try dsimp only at hSw); go_simp <;> with_reducible rfl))
    try simp only [Act.put, List.setIfInBounds_toArray, List.set_cons_zero, List.set_cons_succ]
    first
    | (refine wpAnyH_take (i := 50) (oi := ?o1_50) (v := undef) ?hi1_50 (by kernel_rfl) (by kernel_rfl) (by kernel_rfl) (fun _ _ _ h => h) ?hy1_50 (by assumption) ?hr1_50
       case hi1_50 => (simp only [List.getElem?_toArray, List.getElem?_cons_succ, List.getElem?_cons_zero]; rfl)
       case hy1_50 => exact Or.inr ⟨by rfl, rfl⟩)
    | (refine wpAnyH_take (i := 50) (oi := ?o1_50) (v := ?v1_50) ?hi1_50 (by kernel_rfl) (by kernel_rfl) (by kernel_rfl) (fun _ _ _ h => h) ?hy1_50 (by assumption) ?hr1_50
       case hi1_50 => (simp only [List.getElem?_toArray, List.getElem?_cons_succ, List.getElem?_cons_zero]; rfl)
       case hy1_50 => (refine Or.inl ⟨by rfl, ?_⟩; intro w hSw; (try dsimp only at hSw); go_simp <;> with_reducible rfl))
    try simp only [Act.put, List.setIfInBounds_toArray, List.set_cons_zero, List.set_cons_succ]
    first
    | (refine wpAnyH_take (i := 51) (oi := ?o1_51) (v := undef) ?hi1_51 (by kernel_rfl) (by kernel_rfl) (by kernel_rfl) (fun _ _ _ h => h) ?hy1_51 (by assumption) ?hr1_51
       case hi1_51 => (simp only [List.getElem?_toArray, List.getElem?_cons_succ, List.getElem?_cons_zero]; rfl)
       case hy1_51 => exact Or.inr ⟨by rfl, rfl⟩)
    | (refine wpAnyH_take (i := 51) (oi := ?o1_51) (v := ?v1_51) ?hi1_51 (by kernel_rfl) (by kernel_rfl) (by kernel_rfl) (fun _ _ _ h => h) ?hy1_51 (by assumption) ?hr1_51
       case hi1_51 => (simp only [List.getElem?_toArray, List.getElem?_cons_succ, List.getElem?_cons_zero]; rfl)
       case hy1_51 => (refine Or.inl ⟨by rfl, ?_⟩; intro w hSw; (try dsimp only at hSw); go_simp <;> with_reducible rfl))
    try simp only [Act.put, List.setIfInBounds_toArray, List.set_cons_zero, List.set_cons_succ]
    first
    | (refine wpAnyH_take (i := 52) (oi := ?o1_52) (v := undef) ?hi1_52 (by kernel_rfl) (by kernel_rfl) (by kernel_rfl) (fun _ _ _ h => h) ?hy1_52 (by assumption) ?hr1_52
       case hi1_52 => (simp only [List.getElem?_toArray, List.getElem?_cons_succ, List.getElem?_cons_zero]; rfl)
       case hy1_52 => exact Or.inr ⟨by rfl, rfl⟩)
    | (refine wpAnyH_take (i := 52) (oi := ?o1_52) (v := ?v1_52) ?hi1_52 (by kernel_rfl) (by kernel_rfl) (by kernel_rfl) (fun _ _ _ h => h) ?hy1_52 (by assumption) ?hr1_52
       case hi1_52 => (simp only [List.getElem?_toArray, List.getElem?_cons_succ, List.getElem?_cons_zero]; rfl)
       case hy1_52 => (refine Or.inl ⟨by rfl, ?_⟩; intro w hSw; (try dsimp only at hSw); go_simp <;> with_reducible rfl))
    try simp only [Act.put, List.setIfInBounds_toArray, List.set_cons_zero, List.set_cons_succ]
    first
    | (refine wpAnyH_take (i := 53) (oi := ?o1_53) (v := undef) ?hi1_53 (by kernel_rfl) (by kernel_rfl) (by kernel_rfl) (fun _ _ _ h => h) ?hy1_53 (by assumption) ?hr1_53
       case hi1_53 => (simp only [List.getElem?_toArray, List.getElem?_cons_succ, List.getElem?_cons_zero]; rfl)
       case hy1_53 => exact Or.inr ⟨by rfl, rfl⟩)
    | (refine wpAnyH_take (i := 53) (oi := ?o1_53) (v := ?v1_53) ?hi1_53 (by kernel_rfl) (by kernel_rfl) (by kernel_rfl) (fun _ _ _ h => h) ?hy1_53 (by assumption) ?hr1_53
       case hi1_53 => (simp only [List.getElem?_toArray, List.getElem?_cons_succ, List.getElem?_cons_zero]; rfl)
       case hy1_53 => (refine Or.inl ⟨by rfl, ?_⟩; intro w hSw; (try dsimp only at hSw); go_simp <;> with_reducible rfl))
    try simp only [Act.put, List.setIfInBounds_toArray, List.set_cons_zero, List.set_cons_succ]
    first
    | (refine wpAnyH_take (i := 54) (oi := ?o1_54) (v := undef) ?hi1_54 (by kernel_rfl) (by kernel_rfl) (by kernel_rfl) (fun _ _ _ h => h) ?hy1_54 (by assumption) ?hr1_54
       case hi1_54 => (simp only [List.getElem?_toArray, List.getElem?_cons_succ, List.getElem?_cons_zero]; rfl)
       case hy1_54 => exact Or.inr ⟨by rfl, rfl⟩)
    | (refine wpAnyH_take (i := 54) (oi := ?o1_54) (v := ?v1_54) ?hi1_54 (by kernel_rfl) (by kernel_rfl) (by kernel_rfl) (fun _ _ _ h => h) ?hy1_54 (by assumption) ?hr1_54
       case hi1_54 => (simp only [List.getElem?_toArray, List.getElem?_cons_succ, List.getElem?_cons_zero]; rfl)
       case hy1_54 => (refine Or.inl ⟨by rfl, ?_⟩; intro w hSw; (try dsimp only at hSw); go_simp <;> with_reducible rfl))
    try simp only [Act.put, List.setIfInBounds_toArray, List.set_cons_zero, List.set_cons_succ]
    first
    | (refine wpAnyH_take (i := 55) (oi := ?o1_55) (v := undef) ?hi1_55 (by kernel_rfl) (by kernel_rfl) (by kernel_rfl) (fun _ _ _ h => h) ?hy1_55 (by assumption) ?hr1_55
       case hi1_55 => (simp only [List.getElem?_toArray, List.getElem?_cons_succ, List.getElem?_cons_zero]; rfl)
       case hy1_55 => exact Or.inr ⟨by rfl, rfl⟩)
    | (refine wpAnyH_take (i := 55) (oi := ?o1_55) (v := ?v1_55) ?hi1_55 (by kernel_rfl) (by kernel_rfl) (by kernel_rfl) (fun _ _ _ h => h) ?hy1_55 (by assumption) ?hr1_55
       case hi1_55 => (simp only [List.getElem?_toArray, List.getElem?_cons_succ, List.getElem?_cons_zero]; rfl)
       case hy1_55 => (refine Or.inl ⟨by rfl, ?_⟩; intro w hSw; (try dsimp only at hSw); go_simp <;> with_reducible rfl))
    try simp only [Act.put, List.setIfInBounds_toArray, List.set_cons_zero, List.set_cons_succ]
    first
    | (refine wpAnyH_take (i := 56) (oi := ?o1_56) (v := undef) ?hi1_56 (by kernel_rfl) (by kernel_rfl) (by kernel_rfl) (fun _ _ _ h => h) ?hy1_56 (by assumption) ?hr1_56
       case hi1_56 => (simp only [List.getElem?_toArray, List.getElem?_cons_succ, List.getElem?_cons_zero]; rfl)
       case hy1_56 => exact Or.inr ⟨by rfl, rfl⟩)
    | (refine wpAnyH_take (i := 56) (oi := ?o1_56) (v := ?v1_56) ?hi1_56 (by kernel_rfl) (by kernel_rfl) (by kernel_rfl) (fun _ _ _ h => h) ?hy1_56 (by assumption) ?hr1_56
       case hi1_56 => (simp only [List.getElem?_toArray, List.getElem?_cons_succ, List.getElem?_cons_zero]; rfl)
       case hy1_56 => (refine Or.inl ⟨by rfl, ?_⟩; intro w hSw; (try dsimp only at hSw); go_simp <;> with_reducible rfl))
    try simp only [Act.put, List.setIfInBounds_toArray, List.set_cons_zero, List.set_cons_succ]
    first
    | (refine wpAnyH_take (i := 57) (oi := ?o1_57) (v := undef) ?hi1_57 (by kernel_rfl) (by kernel_rfl) (by kernel_rfl) (fun _ _ _ h => h) ?hy1_57 (by assumption) ?hr1_57
       case hi1_57 => (simp only [List.getElem?_toArray, List.getElem?_cons_succ, List.getElem?_cons_zero]; rfl)
       case hy1_57 => exact Or.inr ⟨by rfl, rfl⟩)
    | (refine wpAnyH_take (i := 57) (oi := ?o1_57) (v := ?v1_57) ?hi1_57 (by kernel_rfl) (by kernel_rfl) (by kernel_rfl) (fun _ _ _ h => h) ?hy1_57 (by assumption) ?hr1_57
       case hi1_57 => (simp only [List.getElem?_toArray, List.getElem?_cons_succ, List.getElem?_cons_zero]; rfl)
       case hy1_57 => (refine Or.inl ⟨by rfl, ?_⟩; intro w hSw; (try dsimp only at hSw); go_simp <;> with_reducible rfl))
    try simp only [Act.put, List.setIfInBounds_toArray, List.set_cons_zero, List.set_cons_succ]
    first
    | (refine wpAnyH_take (i := 58) (oi := ?o1_58) (v := undef) ?hi1_58 (by kernel_rfl) (by kernel_rfl) (by kernel_rfl) (fun _ _ _ h => h) ?hy1_58 (by assumption) ?hr1_58
       case hi1_58 => (simp only [List.getElem?_toArray, List.getElem?_cons_succ, List.getElem?_cons_zero]; rfl)
       case hy1_58 => exact Or.inr ⟨by rfl, rfl⟩)
    | (refine wpAnyH_take (i := 58) (oi := ?o1_58) (v := ?v1_58) ?hi1_58 (by kernel_rfl) (by kernel_rfl) (by kernel_rfl) (fun _ _ _ h => h) ?hy1_58 (by assumption) ?hr1_58
       case hi1_58 => (simp only [List.getElem?_toArray, List.getElem?_cons_succ, List.getElem?_cons_zero]; rfl)
       case hy1_58 => (refine Or.inl ⟨by rfl, ?_⟩; intro w hSw; (try dsimp only at hSw); go_simp <;> with_reducible rfl))
    try simp only [Act.put, List.setIfInBounds_toArray, List.set_cons_zero, List.set_cons_succ]
    first
    | (refine wpAnyH_take (i := 59) (oi := ?o1_59) (v := undef) ?hi1_59 (by kernel_rfl) (by kernel_rfl) (by kernel_rfl) (fun _ _ _ h => h) ?hy1_59 (by assumption) ?hr1_59
       case hi1_59 => (simp only [List.getElem?_toArray, List.getElem?_cons_succ, List.getElem?_cons_zero]; rfl)
       case hy1_59 => exact Or.inr ⟨by rfl, rfl⟩)
    | (refine wpAnyH_take (i := 59) (oi := ?o1_59) (v := ?v1_59) ?hi1_59 (by kernel_rfl) (by kernel_rfl) (by kernel_rfl) (fun _ _ _ h => h) ?hy1_59 (by assumption) ?hr1_59
       case hi1_59 => (simp only [List.getElem?_toArray, List.getElem?_cons_succ, List.getElem?_cons_zero]; rfl)
       case hy1_59 => (refine Or.inl ⟨by rfl, ?_⟩; intro w hSw; (try dsimp only at hSw); go_simp <;> with_reducible rfl))
    try simp only [Act.put, List.setIfInBounds_toArray, List.set_cons_zero, List.set_cons_succ]
    first
    | (refine wpAnyH_take (i := 60) (oi := ?o1_60) (v := undef) ?hi1_60 (by kernel_rfl) (by kernel_rfl) (by kernel_rfl) (fun _ _ _ h => h) ?hy1_60 (by assumption) ?hr1_60
       case hi1_60 => (simp only [List.getElem?_toArray, List.getElem?_cons_succ, List.getElem?_cons_zero]; rfl)
       case hy1_60 => exact Or.inr ⟨by rfl, rfl⟩)
    | (refine wpAnyH_ready (rs := [60]) (by kernel_rfl) (by simp) ?_
       refine AllReadyH.cons (o := ?o1_60) ?ho1_60 (fun K hK => ?hk1_60) AllReadyH.nil
       case ho1_60 => (simp only [List.getElem?_toArray, List.getElem?_cons_succ, List.getElem?_cons_zero]; rfl)
       go_simp
       go_wp2_with (go_at_call 12; refine (has12 hstF 0 0 I0 I0).mono ?_; rw [pos_e]; rintro e w13 ⟨rfl, hb13⟩)
       go_wp2_with fail
       refine hK.out _ _ ?_ (fun hHeld => ?_)
       · first | exact ⟨keepB hHeld.1 hb14, keepC hHeld.2 hb14⟩ | exact ⟨keepB hHeld.1 hb13, keepC hHeld.2 hb13⟩
       clear hK K)
    try simp only [Act.put, List.setIfInBounds_toArray, List.set_cons_zero, List.set_cons_succ]
    first
    | (refine wpAnyH_take (i := 61) (oi := ?o1_61) (v := undef) ?hi1_61 (by kernel_rfl) (by kernel_rfl) (by kernel_rfl) (fun _ _ _ h => h) ?hy1_61 (by assumption) ?hr1_61
       case hi1_61 => (simp only [List.getElem?_toArray, List.getElem?_cons_succ, List.getElem?_cons_zero]; rfl)
       case hy1_61 => exact Or.inr ⟨by rfl, rfl⟩)
    | (refine wpAnyH_take (i := 61) (oi := ?o1_61) (v := ?v1_61) ?hi1_61 (by kernel_rfl) (by kernel_rfl) (by kernel_rfl) (fun _ _ _ h => h) ?hy1_61 (by assumption) ?hr1_61
       case hi1_61 => (simp only [List.getElem?_toArray, List.getElem?_cons_succ, List.getElem?_cons_zero]; rfl)
       case hy1_61 => (refine Or.inl ⟨by rfl, ?_⟩; intro w hSw; (try dsimp only at hSw); go_simp <;> with_reducible rfl))
    try simp only [Act.put, List.setIfInBounds_toArray, List.set_cons_zero, List.set_cons_succ]
    first
    | (refine wpAnyH_take (i := 62) (oi := ?o1_62) (v := undef) ?hi1_62 (by kernel_rfl) (by kernel_rfl) (by kernel_rfl) (fun _ _ _ h => h) ?hy1_62 (by assumption) ?hr1_62
       case hi1_62 => (simp only [List.getElem?_toArray, List.getElem?_cons_succ, List.getElem?_cons_zero]; rfl)
       case hy1_62 => exact Or.inr ⟨by rfl, rfl⟩)
    | (refine wpAnyH_take (i := 62) (oi := ?o1_62) (v := ?v1_62) ?hi1_62 (by kernel_rfl) (by kernel_rfl) (by kernel_rfl) (fun _ _ _ h => h) ?hy1_62 (by assumption) ?hr1_62
       case hi1_62 => (simp only [List.getElem?_toArray, List.getElem?_cons_succ, List.getElem?_cons_zero]; rfl)
       case hy1_62 => (refine Or.inl ⟨by rfl, ?_⟩; intro w hSw; (try dsimp only at hSw); go_simp <;> with_reducible rfl))
    try simp only [Act.put, List.setIfInBounds_toArray, List.set_cons_zero, List.set_cons_succ]
    first
    | (refine wpAnyH_take (i := 63) (oi := ?o1_63) (v := undef) ?hi1_63 (by kernel_rfl) (by kernel_rfl) (by kernel_rfl) (fun _ _ _ h => h) ?hy1_63 (by assumption) ?hr1_63
       case hi1_63 => (simp only [List.getElem?_toArray, List.getElem?_cons_succ, List.getElem?_cons_zero]; rfl)
       case hy1_63 => exact Or.inr ⟨by rfl, rfl⟩)
    | (refine wpAnyH_take (i := 63) (oi := ?o1_63) (v := ?v1_63) ?hi1_63 (by kernel_rfl) (by kernel_rfl) (by kernel_rfl) (fun _ _ _ h => h) ?hy1_63 (by assumption) ?hr1_63
       case hi1_63 => (simp only [List.getElem?_toArray, List.getElem?_cons_succ, List.getElem?_cons_zero]; rfl)
       case hy1_63 => (refine Or.inl ⟨by rfl, ?_⟩; intro w hSw; (try dsimp only at hSw); go_simp <;> with_reducible rfl))
    try simp only [Act.put, List.setIfInBounds_toArray, List.set_cons_zero, List.set_cons_succ]
    first
    | (refine wpAnyH_take (i := 64) (oi := ?o1_64) (v := undef) ?hi1_64 (by kernel_rfl) (by kernel_rfl) (by kernel_rfl) (fun _ _ _ h => h) ?hy1_64 (by assumption) ?hr1_64
       case hi1_64 => (simp only [List.getElem?_toArray, List.getElem?_cons_succ, List.getElem?_cons_zero]; rfl)
       case hy1_64 => exact Or.inr ⟨by rfl, rfl⟩)
    | (refine wpAnyH_take (i := 64) (oi := ?o1_64) (v := ?v1_64) ?hi1_64 (by kernel_rfl) (by kernel_rfl) (by kernel_rfl) (fun _ _ _ h => h) ?hy1_64 (by assumption) ?hr1_64
       case hi1_64 => (simp only [List.getElem?_toArray, List.getElem?_cons_succ, List.getElem?_cons_zero]; rfl)
       case hy1_64 => (refine Or.inl ⟨by rfl, ?_⟩; intro w hSw; (try dsimp only at hSw); go_simp <;> with_reducible rfl))
    try simp only [Act.put, List.setIfInBounds_toArray, List.set_cons_zero, List.set_cons_succ]
    first
    | (refine wpAnyH_take (i := 65) (oi := ?o1_65) (v := undef) ?hi1_65 (by kernel_rfl) (by kernel_rfl) (by kernel_rfl) (fun _ _ _ h => h) ?hy1_65 (by assumption) ?hr1_65
       case hi1_65 => (simp only [List.getElem?_toArray, List.getElem?_cons_succ, List.getElem?_cons_zero]; rfl)
       case hy1_65 => exact Or.inr ⟨by rfl, rfl⟩)
    | (refine wpAnyH_ready (rs := [65]) (by kernel_rfl) (by simp) ?_
       refine AllReadyH.cons (o := ?o1_65) ?ho1_65 (fun K hK => ?hk1_65) AllReadyH.nil
       case ho1_65 => (simp only [List.getElem?_toArray, List.getElem?_cons_succ, List.getElem?_cons_zero]; rfl)
       go_simp
       go_wp2_with (go_at_call 12; refine (has12 (hstF.below hb13) 0 1 I0 I1).mono ?_; rw [pos_b]; rintro e w14 ⟨rfl, hb14⟩)
       go_wp2_with fail
       refine hK.out _ _ ?_ (fun hHeld => ?_)
       · first | exact ⟨keepB hHeld.1 hb14, keepC hHeld.2 hb14⟩ | exact ⟨keepB hHeld.1 hb13, keepC hHeld.2 hb13⟩
       clear hK K)
    try simp only [Act.put, List.setIfInBounds_toArray, List.set_cons_zero, List.set_cons_succ]
    first
    | (refine wpAnyH_take (i := 66) (oi := ?o1_66) (v := undef) ?hi1_66 (by kernel_rfl) (by kernel_rfl) (by kernel_rfl) (fun _ _ _ h => h) ?hy1_66 (by assumption) ?hr1_66
       case hi1_66 => (simp only [List.getElem?_toArray, List.getElem?_cons_succ, List.getElem?_cons_zero]; rfl)
       case hy1_66 => exact Or.inr ⟨by rfl, rfl⟩)
    | (refine wpAnyH_take (i := 66) (oi := ?o1_66) (v := ?v1_66) ?hi1_66 (by kernel_rfl) (by kernel_rfl) (by kernel_rfl) (fun _ _ _ h => h) ?hy1_66 (by assumption) ?hr1_66
       case hi1_66 => (simp only [List.getElem?_toArray, List.getElem?_cons_succ, List.getElem?_cons_zero]; rfl)
       case hy1_66 => (refine Or.inl ⟨by rfl, ?_⟩; intro w hSw; (try dsimp only at hSw); go_simp <;> with_reducible rfl))
    try simp only [Act.put, List.setIfInBounds_toArray, List.set_cons_zero, List.set_cons_succ]
    first
    | (refine wpAnyH_take (i := 67) (oi := ?o1_67) (v := undef) ?hi1_67 (by kernel_rfl) (by kernel_rfl) (by kernel_rfl) (fun _ _ _ h => h) ?hy1_67 (by assumption) ?hr1_67
       case hi1_67 => (simp only [List.getElem?_toArray, List.getElem?_cons_succ, List.getElem?_cons_zero]; rfl)
       case hy1_67 => exact Or.inr ⟨by rfl, rfl⟩)
    | (refine wpAnyH_take (i := 67) (oi := ?o1_67) (v := ?v1_67) ?hi1_67 (by kernel_rfl) (by kernel_rfl) (by kernel_rfl) (fun _ _ _ h => h) ?hy1_67 (by assumption) ?hr1_67
       case hi1_67 => (simp only [List.getElem?_toArray, List.getElem?_cons_succ, List.getElem?_cons_zero]; rfl)
       case hy1_67 => (refine Or.inl ⟨by rfl, ?_⟩; intro w hSw; (try dsimp only at hSw); go_simp <;> with_reducible rfl))
    try simp only [Act.put, List.setIfInBounds_toArray, List.set_cons_zero, List.set_cons_succ]
    first
    | (refine wpAnyH_take (i := 68) (oi := ?o1_68) (v := undef) ?hi1_68 (by kernel_rfl) (by kernel_rfl) (by kernel_rfl) (fun _ _ _ h => h) ?hy1_68 (by assumption) ?hr1_68
       case hi1_68 => (simp only [List.getElem?_toArray, List.getElem?_cons_succ, List.getElem?_cons_zero]; rfl)
       case hy1_68 => exact Or.inr ⟨by rfl, rfl⟩)
    | (refine wpAnyH_take (i := 68) (oi := ?o1_68) (v := ?v1_68) ?hi1_68 (by kernel_rfl) (by kernel_rfl) (by kernel_rfl) (fun _ _ _ h => h) ?hy1_68 (by assumption) ?hr1_68
       case hi1_68 => (simp only [List.getElem?_toArray, List.getElem?_cons_succ, List.getElem?_cons_zero]; rfl)
       case hy1_68 => (refine Or.inl ⟨by rfl, ?_⟩; intro w hSw; (try dsimp only at hSw); go_simp <;> with_reducible rfl))
    try simp only [Act.put, List.setIfInBounds_toArray, List.set_cons_zero, List.set_cons_succ]
    refine wpAnyH_done (by kernel_rfl) ?_ _
    refine NoPanic.normal ?_
    go_wp2_with fail
    go_ret
    exact ⟨rfl, HF.out.trans ((hb13.trans (hb14.mono hb13.size)).mono HF.out.size)⟩
end Go.Proofs.Ytfbmfcipaikaoaa
