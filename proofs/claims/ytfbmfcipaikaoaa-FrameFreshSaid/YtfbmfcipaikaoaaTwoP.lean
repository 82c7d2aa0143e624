/- Two pairs in an array of two; quadrillelaw23.anew and cost. -/
import Derived.Test.YtfbmfcipaikaoaaPlays
namespace Go.Proofs.Ytfbmfcipaikaoaa
set_option linter.unusedVariables false
set_option linter.unusedSimpArgs false
open Go.RowKit Go.Maps

theorem Pr.below {W W1 : World} {B S S' : Nat} {p : PD} {fs : List Fr} {m : Nat} (h : Pr W B S S' p fs m) (hb : Below W.heap.size W W1) : Pr W1 B S S' p fs m := ⟨h.a.below hb, h.b.below hb, h.ne⟩
theorem Pr.apt {X : Nat → Prop} {W W1 : World} {B S S' : Nat} {p : PD} {fs : List Fr} {m : Nat} (h : Pr W B S S' p fs m) (ha : Apt X W W1) (hx : ∀ k, PX S S' p k → ¬ X k) : Pr W1 B S S' p fs m :=
  ⟨h.a.apt ha (fun k hk => hx k (.inl hk)), h.b.apt ha (fun k hk => hx k (.inr hk)), h.ne⟩
theorem Pr.base {W : World} {B B' S S' : Nat} {p : PD} {fs : List Fr} {m : Nat} (h : Pr W B S S' p fs m) (hb : B' ≤ B) : Pr W B' S S' p fs m :=
  ⟨⟨h.a.blk, own_base h.a.row hb, h.a.map, h.a.sm, h.a.fS, h.a.fM, Nat.le_trans hb h.a.bS, Nat.le_trans hb h.a.bM, h.a.uq, h.a.ft, h.a.mo⟩,
   ⟨h.b.blk, own_base h.b.row hb, h.b.map, h.b.sm, h.b.fS, h.b.fM, Nat.le_trans hb h.b.bS, Nat.le_trans hb h.b.bM, h.b.uq, h.b.ft, h.b.mo⟩, h.ne⟩

theorem cells2' {w : World} {g : Nat} {a b : Value} {t : TypeId} {f : Nat × Nat} (h : w.heap[g]? = some (.cells #[a, b] t f)) :
    w.cell? ⟨g, 0, none⟩ = some a ∧ w.cell? ⟨g, 1, none⟩ = some b := by
  refine ⟨?_, ?_⟩ <;> (rw [cell_of_row w _ _ _ _ _ h]; rfl)
set_option maxHeartbeats 800000 in
theorem anew19 (W : World) : Calls Try.prog 19 #[] W fun e W' => ∃ S S' p, e = .returned (.agg #[.pointer (some ⟨S, 0, none⟩), .pointer (some ⟨S', 0, none⟩)]) ∧ Pr W' W.heap.size S S' p [] 0 ∧ Below W.heap.size W W' := by
  have hb0 := (Below.refl W.heap.size W).alloc (Nat.le_refl _) (.cells #[.pointer none, .pointer none] 53)
  have r0 := heap_alloc_new W (.cells #[.pointer none, .pointer none] 53)
  have hs0 : W.heap.size < (W.alloc (.cells #[.pointer none, .pointer none] 53)).heap.size := by simp
  go_enter Try.func19, Try.ntmps19
  go_wp2_with fail
  refine (new8 _).mono ?_
  rintro e w1 ⟨S, M, rfl, hst1, hb1⟩
  go_wp2_with fail
  refine (new28 _).mono ?_
  rintro e w2 ⟨S', M', rfl, hst2, hb2⟩
  have r2 := (hb2.block _ (Nat.lt_of_lt_of_le hs0 hb1.size)).trans ((hb1.block _ hs0).trans r0)
  have hbb := (hb0.trans (hb1.mono hb0.size)).trans (hb2.mono (Nat.le_trans hb0.size hb1.size))
  have sR := (Array.getElem?_eq_some_iff.1 r2).1
  obtain ⟨z0, z1⟩ := cells2' r2
  have f0 := row_froz r2 0
  have f1 := row_froz r2 1
  have HH := Lib.hid (And.intro hst1 (And.intro hst2 (And.intro hb1 (And.intro hb2 hbb))))
  clear hst1 hst2 hb1 hb2 hbb hb0 r0 r2
  go_wp2_with fail
  refine bodyPost_ret (v := .agg #[.pointer (some ⟨S, 0, none⟩), .pointer (some ⟨S', 0, none⟩)]) (by simp [results, Try.results19, go_sem, z0, z1, f0, f1, sR]) rfl ⟨S, S', ⟨M, .slice none 0 0, M', .slice none 0 0⟩, rfl, ?_⟩
  obtain ⟨hst1, hst2, hb1, hb2, hbb⟩ := HH.out
  have ha : Apt (fun k => k = W.heap.size) w2 ((w2.setCell ⟨W.heap.size, 0, none⟩ (.pointer (some ⟨S, 0, none⟩))).setCell ⟨W.heap.size, 1, none⟩ (.pointer (some ⟨S', 0, none⟩))) :=
    (Apt.setCell (X := fun k => k = W.heap.size) (p := ⟨W.heap.size, 0, none⟩) (Apt.refl _ w2) (.inl rfl) _).setCell (p := ⟨W.heap.size, 1, none⟩) (.inl rfl) _
  have e0 : (W.alloc (.cells #[.pointer none, .pointer none] 53)).heap.size = W.heap.size + 1 := by simp
  have h1 := hst1.sx
  have h1' := (hst1.below hb2).sx
  have h2 := hst2.sx
  have hz := hb1.size
  rw [e0] at h1 hz
  have hpr : Pr w2 W.heap.size S S' ⟨M, .slice none 0 0, M', .slice none 0 0⟩ [] 0 := by
    refine Pr.base (B := W.heap.size + 1) ⟨?_, ?_, fun k hk hk' => ?_⟩ (by omega)
    · have := hst1.below hb2; rw [e0] at this; exact this
    · exact ⟨hst2.blk, own_base hst2.row hz, hst2.map, hst2.sm, hst2.fS, hst2.fM, Nat.le_trans hz hst2.bS, Nat.le_trans hz hst2.bM, hst2.uq, hst2.ft, hst2.mo⟩
    · have := (h1 k hk).2
      have := (h2 k hk').1
      omega
  refine ⟨hpr.apt ha (fun k hk e => ?_), (hbb.setCell (p := ⟨W.heap.size, 0, none⟩) (Nat.le_refl _) _).setCell (p := ⟨W.heap.size, 1, none⟩) (Nat.le_refl _) _⟩
  rcases hk with hk | hk
  · have := (h1 k hk).1; omega
  · have := (h2 k hk).1; omega

def costV (fs : List Fr) (k : Int) : Nat := if k = 7 ∨ k = 8 ∨ k = 10 then 10 + fs.length else 10
set_option maxRecDepth 100000 in
set_option maxHeartbeats 800000 in
theorem cost20 {W : World} {B S S' : Nat} {p : PD} {fs : List Fr} {m : Nat} (h : Pr W B S S' p fs m) (k : Int) (b : Bool) (r c n : Int) :
    Calls Try.prog 20 #[.agg #[.pointer (some ⟨S, 0, none⟩), .pointer (some ⟨S', 0, none⟩)], .agg #[.int .i64 k, .bool b, .int .i64 r, .int .i64 c, .int .i64 n]] W fun e W' => e = .returned (.int .i64 (costV fs k : Nat)) ∧ Below W.heap.size W W' := by
  obtain ⟨hq, hbel⟩ := h.box ⟨k, b, r, c, n⟩
  have hl : fs.length ≤ 1000000000 := by have := h.a.mo; omega
  by_cases hk : k = 7 ∨ k = 8 ∨ k = 10
  · have e : ((costV fs k : Nat) : Int) = 10 + (fs.length : Int) := by unfold costV; rw [if_pos hk]; omega
    rw [e]
    have hk1 : (k == 7) = true ∨ ((k == 7) = false ∧ (k == 8) = true) ∨ ((k == 7) = false ∧ (k == 8) = false ∧ (k == 10) = true) := by rcases hk with rfl | rfl | rfl <;> simp
    have HB := Lib.hid hbel
    clear hk h hbel
    rcases hk1 with hk1 | ⟨hk1, hk2⟩ | ⟨hk1, hk2, hk3⟩
    all_goals
      go_enter Try.func20, Try.ntmps20
      go_wp2_with fail
      refine (heightR29 hq.b).mono ?_
      rintro e w1 ⟨rfl, hb1⟩
      have HB2 := Lib.hid (HB.out.trans (hb1.mono HB.out.size))
      clear hb1
      go_wp2_with fail
      go_ret
      exact ⟨rfl, HB2.out⟩
  · have e : ((costV fs k : Nat) : Int) = 10 := by unfold costV; rw [if_neg hk]; rfl
    rw [e]
    have hk1 : (k == 7) = false := beq_eq_false_iff_ne.2 (fun e => hk (.inl e))
    have hk2 : (k == 8) = false := beq_eq_false_iff_ne.2 (fun e => hk (.inr (.inl e)))
    have hk3 : (k == 10) = false := beq_eq_false_iff_ne.2 (fun e => hk (.inr (.inr e)))
    have HB := Lib.hid hbel
    clear hk h hq hbel
    go_enter Try.func20, Try.ntmps20
    go_wp2_with fail
    go_ret
    exact ⟨rfl, HB.out⟩

/-- What belongs to one of two pairs. -/
structure Pk where
  S : Nat
  S' : Nat
  p : PD
  fs : List Fr
  m : Nat
def upd (P : Nat → Pk) (q : Nat) (x : Pk) (i : Nat) : Pk := if i = q then x else P i
theorem upd_same (P : Nat → Pk) (q : Nat) (x : Pk) : upd P q x q = x := if_pos rfl
theorem upd_other (P : Nat → Pk) {q i : Nat} (x : Pk) (h : i ≠ q) : upd P q x i = P i := if_neg h
structure T2 (W : World) (B Z : Nat) (P : Nat → Pk) : Prop where
  pr : ∀ i, i < 2 → Pr W B (P i).S (P i).S' (P i).p (P i).fs (P i).m
  ne : ∀ i j, i < 2 → j < 2 → i ≠ j → ∀ k, PX (P i).S (P i).S' (P i).p k → ¬ PX (P j).S (P j).S' (P j).p k
  rz : W.heap[Z]? = some (.cells #[.pointer (some ⟨(P 0).S, 0, none⟩), .pointer (some ⟨(P 0).S', 0, none⟩), .pointer (some ⟨(P 1).S, 0, none⟩), .pointer (some ⟨(P 1).S', 0, none⟩)] 55 (0, 0))
  nz : ∀ i, i < 2 → ¬ PX (P i).S (P i).S' (P i).p Z
  bz : B ≤ Z
theorem T2.below {W W1 : World} {B Z : Nat} {P : Nat → Pk} (h : T2 W B Z P) (hb : Below W.heap.size W W1) : T2 W1 B Z P :=
  ⟨fun i hi => (h.pr i hi).below hb, h.ne, (hb.block _ (Array.getElem?_eq_some_iff.1 h.rz).1).trans h.rz, h.nz, h.bz⟩
theorem T2.cells {W : World} {B Z : Nat} {P : Nat → Pk} (h : T2 W B Z P) {q : Nat} (hq : q < 2) :
    W.cell? ⟨Z, q * 2, none⟩ = some (.pointer (some ⟨(P q).S, 0, none⟩)) ∧ W.cell? ⟨Z, q * 2 + 1, none⟩ = some (.pointer (some ⟨(P q).S', 0, none⟩)) := by
  obtain ⟨c0, c1, c2, c3⟩ := cells4 h.rz
  have : q = 0 ∨ q = 1 := by omega
  rcases this with rfl | rfl
  · exact ⟨c0, c1⟩
  · exact ⟨c2, c3⟩
theorem T2.play {W W1 : World} {B Z : Nat} {P : Nat → Pk} (h : T2 W B Z P) {q : Nat} (hq : q < 2) {p' : PD} {fs' : List Fr} {m' : Nat} (hp : Pr W1 B (P q).S (P q).S' p' fs' m') (t : Tr (P q).S (P q).S' W (P q).p W1 p') :
    T2 W1 B Z (upd P q ⟨(P q).S, (P q).S', p', fs', m'⟩) := by
  have hz := (Array.getElem?_eq_some_iff.1 h.rz).1
  have hne : ∀ i, i < 2 → i ≠ q → ∀ k, PX (P i).S (P i).S' (P i).p k → ¬ PX (P q).S (P q).S' p' k := fun i hi hiq k hk hk' => by
    rcases t.nw k hk' with e | e
    · exact h.ne i q hi hq hiq k hk e
    · have := ((h.pr i hi).px k hk).2; omega
  refine ⟨fun i hi => ?_, fun i j hi hj hij k hk hk' => ?_, ?_, fun i hi e => ?_, h.bz⟩
  · by_cases e : i = q
    · subst e; rw [upd_same]; exact hp
    · rw [upd_other _ _ e]; exact (h.pr i hi).apt t.ap (fun k hk hx => h.ne i q hi hq e k hk hx)
  · by_cases e : i = q
    · subst e
      rw [upd_same] at hk
      rw [upd_other _ _ (fun e => hij e.symm)] at hk'
      exact hne j hj (fun e => hij e.symm) k hk' hk
    · rw [upd_other _ _ e] at hk
      by_cases e2 : j = q
      · subst e2; rw [upd_same] at hk'; exact hne i hi e k hk hk'
      · rw [upd_other _ _ e2] at hk'; exact h.ne i j hi hj hij k hk hk'
  · have e1 : ∀ i, (upd P q ⟨(P q).S, (P q).S', p', fs', m'⟩ i).S = (P i).S := fun i => by by_cases e : i = q; (subst e; rw [upd_same]); rw [upd_other _ _ e]
    have e2 : ∀ i, (upd P q ⟨(P q).S, (P q).S', p', fs', m'⟩ i).S' = (P i).S' := fun i => by by_cases e : i = q; (subst e; rw [upd_same]); rw [upd_other _ _ e]
    rw [e1, e2, e1, e2]
    exact (t.ap.block Z hz (h.nz q hq)).trans h.rz
  · by_cases e1 : i = q
    · subst e1
      rw [upd_same] at e
      rcases t.nw Z e with e | e
      · exact h.nz i hi e
      · omega
    · rw [upd_other _ _ e1] at e
      exact h.nz i hi e
theorem T2.cells_play {W W1 : World} {B Z : Nat} {P : Nat → Pk} (h : T2 W B Z P) {q : Nat} (hq : q < 2) {p' : PD} (t : Tr (P q).S (P q).S' W (P q).p W1 p') :
    W1.cell? ⟨Z, q * 2, none⟩ = some (.pointer (some ⟨(P q).S, 0, none⟩)) ∧ W1.cell? ⟨Z, q * 2 + 1, none⟩ = some (.pointer (some ⟨(P q).S', 0, none⟩)) := by
  have hb := t.ap.block Z (Array.getElem?_eq_some_iff.1 h.rz).1 (h.nz q hq)
  have hc : ∀ j : Nat, W1.cell? ⟨Z, j, none⟩ = W.cell? ⟨Z, j, none⟩ := fun j => by unfold World.cell?; rw [hb]
  rw [hc, hc]
  exact h.cells hq
theorem Tr.belowB {S S' B : Nat} {W0 W W' : World} {p p' : PD} (hb : Below B W0 W) (t : Tr S S' W p W' p') (hx : ∀ k, PX S S' p k → B ≤ k) (hB : B ≤ W.heap.size) : Below B W0 W' := Apt.below hb t.ap hx hB
/-- A new pair in its place. -/
theorem T2.anew {W W1 : World} {B Z : Nat} {P : Nat → Pk} (h : T2 W B Z P) {q : Nat} (hq : q < 2) {S S' : Nat} {p' : PD} (hp : Pr W1 W.heap.size S S' p' [] 0) (hb : Below W.heap.size W W1) (hB : B ≤ W.heap.size) :
    T2 ((W1.setCell ⟨Z, q * 2, none⟩ (.pointer (some ⟨S, 0, none⟩))).setCell ⟨Z, q * 2 + 1, none⟩ (.pointer (some ⟨S', 0, none⟩))) B Z (upd P q ⟨S, S', p', [], 0⟩) := by
  have hz := (Array.getElem?_eq_some_iff.1 h.rz).1
  have ha : Apt (fun k => k = Z) W1 ((W1.setCell ⟨Z, q * 2, none⟩ (.pointer (some ⟨S, 0, none⟩))).setCell ⟨Z, q * 2 + 1, none⟩ (.pointer (some ⟨S', 0, none⟩))) :=
    (Apt.setCell (X := fun k => k = Z) (p := ⟨Z, q * 2, none⟩) (Apt.refl _ W1) (.inl rfl) _).setCell (p := ⟨Z, q * 2 + 1, none⟩) (.inl rfl) _
  have hnew : ∀ k, PX S S' p' k → W.heap.size ≤ k := fun k hk => (hp.px k hk).1
  have hold : ∀ i, i < 2 → ∀ k, PX (P i).S (P i).S' (P i).p k → k < W.heap.size := fun i hi k hk => ((h.pr i hi).px k hk).2
  refine ⟨fun i hi => ?_, fun i j hi hj hij k hk hk' => ?_, ?_, fun i hi e => ?_, h.bz⟩
  · by_cases e : i = q
    · subst e; rw [upd_same]; exact (hp.base hB).apt ha (fun k hk e => by have := hnew k hk; omega)
    · rw [upd_other _ _ e]; exact ((h.pr i hi).below hb).apt ha (fun k hk e => h.nz i hi (e ▸ hk))
  · by_cases e : i = q
    · subst e
      rw [upd_same] at hk
      rw [upd_other _ _ (fun e => hij e.symm)] at hk'
      have := hnew k hk
      have := hold j hj k hk'
      omega
    · rw [upd_other _ _ e] at hk
      by_cases e2 : j = q
      · subst e2
        rw [upd_same] at hk'
        have := hnew k hk'
        have := hold i hi k hk
        omega
      · rw [upd_other _ _ e2] at hk'; exact h.ne i j hi hj hij k hk hk'
  · have h0 := (hb.block Z hz).trans h.rz
    have h1 := row_set (row_set h0 (q * 2) (.pointer (some ⟨S, 0, none⟩))) (q * 2 + 1) (.pointer (some ⟨S', 0, none⟩))
    refine h1.trans ?_
    have : q = 0 ∨ q = 1 := by omega
    rcases this with rfl | rfl
    · rw [upd_same, upd_other _ _ (by omega : (1 : Nat) ≠ 0)]; rfl
    · rw [upd_same, upd_other _ _ (by omega : (0 : Nat) ≠ 1)]; rfl
  · by_cases e1 : i = q
    · subst e1
      rw [upd_same] at e
      have := hnew Z e
      omega
    · rw [upd_other _ _ e1] at e
      exact h.nz i hi e
end Go.Proofs.Ytfbmfcipaikaoaa
