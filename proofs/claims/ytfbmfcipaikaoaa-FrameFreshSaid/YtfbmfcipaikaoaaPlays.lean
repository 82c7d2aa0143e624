/- quadrillelaw23.Pair.plays: whatever the call, both answer alike. -/
import Derived.Test.YtfbmfcipaikaoaaPair
namespace Go.Proofs.Ytfbmfcipaikaoaa
set_option linter.unusedVariables false
set_option linter.unusedSimpArgs false
open Go.RowKit Go.Maps

/-- A stack, and the document's with the same frames. -/
structure Pr (W : World) (B S S' : Nat) (p : PD) (fs : List Fr) (m : Nat) : Prop where
  a : Stk W B S p.M p.F fs m
  b : StkR W B S' p.M' p.F' fs m
  ne : ∀ k, SX S p.M p.F k → ¬ SX S' p.M' p.F' k
def PP (W : World) (B S S' : Nat) (p : PD) (fs : List Fr) (e : Ending) (W' : World) : Prop :=
  e = .returned (.bool true) ∧ ∃ p' fs1 m1, Pr W' B S S' p' fs1 m1 ∧ Tr S S' W p W' p' ∧ fs1.length ≤ fs.length + 1
section
variable {W : World} {B S S' : Nat} {p : PD} {fs : List Fr} {m : Nat}
abbrev box0 (S S' : Nat) : Obj := .cells #[.pointer (some ⟨S, 0, none⟩), .pointer (some ⟨S', 0, none⟩)] 53
abbrev box1 (o : OpW) : Obj := .cells #[.int .i64 o.k, .bool o.b, .int .i64 o.r, .int .i64 o.c, .int .i64 o.n] 29
theorem Pr.px (h : Pr W B S S' p fs m) : ∀ k, PX S S' p k → B ≤ k ∧ k < W.heap.size := fun k hk => by
  rcases hk with hk | hk
  · exact h.a.sx k hk
  · exact h.b.sx k hk
theorem Pr.box (h : Pr W B S S' p fs m) (o : OpW) : Q ((W.alloc (box0 S S')).alloc (box1 o)) B W.heap.size (W.heap.size + 1) S S' p o fs m fs m ∧ Below W.heap.size W ((W.alloc (box0 S S')).alloc (box1 o)) := by
  have hb0 := ((Below.refl W.heap.size W).alloc (Nat.le_refl _) (box0 S S'))
  have hb1 := hb0.alloc (by simp) (box1 o)
  refine ⟨⟨h.a.below hb1, h.b.below hb1, h.ne, ?_, ?_, fun e => ?_, fun e => ?_⟩, hb1⟩
  · exact (Below.heap_alloc (W.alloc (box0 S S')) (box1 o) W.heap.size (by simp)).trans (heap_alloc_new W _)
  · have := heap_alloc_new (W.alloc (box0 S S')) (box1 o)
    simpa using this
  · have := (h.px _ e).2; omega
  · have := (h.px _ e).2; omega
theorem Q.done {X W' : World} {b0 b1 : Nat} {p' : PD} {o : OpW} {fs1 : List Fr} {m1 : Nat} (h : Q W' B b0 b1 S S' p' o fs1 m1 fs1 m1) (t : Tr S S' X p W' p') (hb : Below W.heap.size W X) (hl : fs1.length ≤ fs.length + 1) :
    ∃ p' fs1 m1, Pr W' B S S' p' fs1 m1 ∧ Tr S S' W p W' p' ∧ fs1.length ≤ fs.length + 1 :=
  ⟨p', fs1, m1, ⟨h.a, h.b, h.ne⟩, (Tr.below hb).trans t, hl⟩
theorem eqL {W1 : World} {p' : PD} {A1 A2 : Option Addr} {n1 n2 C1 C2 : Nat} {gs : List Fr} (h1 : Lst W1 S S' p' A1 n1 gs) (h2 : Lst W1 S S' p' A2 n2 gs) (hl : gs.length ≤ 1000000000) :
    Calls Try.prog 11 #[.slice A1 n1 C1, .slice A2 n2 C2] W1 fun e W' => e = .returned (.bool true) ∧ Below W1.heap.size W1 W' := by
  obtain rfl := h1.len
  obtain rfl := h2.len
  exact eq11 A1 A2 C1 C2 _ gs W1 h1.at_ h2.at_ rfl hl
theorem fromF_len (fs : List Fr) (r c : Int) : (fromF fs r c).length ≤ fs.length := by unfold fromF; split <;> simp
theorem pushF_len (fs : List Fr) (r c k : Int) : (pushF fs r c k).length ≤ fs.length + 1 := by unfold pushF; split <;> simp
end

set_option maxRecDepth 100000 in
set_option maxHeartbeats 2000000 in
theorem plays_push {W : World} {B S S' : Nat} {p : PD} {fs : List Fr} {m : Nat} (h : Pr W B S S' p fs m) (b : Bool) (r c n : Int) (hr : I64 r) (hc : I64 c) (hn : I64 n) (hl : fs.length + 1 ≤ 1000000000) :
    Calls Try.prog 21 #[.agg #[.pointer (some ⟨S, 0, none⟩), .pointer (some ⟨S', 0, none⟩)], .agg #[.int .i64 1, .bool b, .int .i64 r, .int .i64 c, .int .i64 n]] W (PP W B S S' p fs) := by
  obtain ⟨hq, hbel⟩ := h.box ⟨1, b, r, c, n⟩
  have HR := Lib.hid hr
  have HC := Lib.hid hc
  have HN := Lib.hid hn
  clear h hr hc hn
  go_enter Try.func21, Try.ntmps21
  go_wp2_with fail
  generalize hX : (W.alloc (box0 S S')).alloc (box1 ⟨1, b, r, c, n⟩) = X at *
  have hq0 := hq.drew
  have ht0 : Tr S S' X p X.drew p := (Tr.refl _ _ _ _).drew
  have hc0 := hq0.cells
  have HB := Lib.hid hbel
  clear hX hq hbel
  go_region_held3 (fun w' => (w'.cell? ⟨W.heap.size, 0, none⟩ = some (.pointer (some ⟨S, 0, none⟩)) ∧ w'.cell? ⟨W.heap.size, 1, none⟩ = some (.pointer (some ⟨S', 0, none⟩))) ∧ w'.cell? ⟨W.heap.size + 1, 0, none⟩ = some (.int .i64 1) ∧ w'.cell? ⟨W.heap.size + 1, 2, none⟩ = some (.int .i64 r) ∧ w'.cell? ⟨W.heap.size + 1, 3, none⟩ = some (.int .i64 c) ∧ w'.cell? ⟨W.heap.size + 1, 4, none⟩ = some (.int .i64 n)) (first | exact hc0 | exact hcA | exact hcB | go_keep) (first
    | (go_at_call 10; refine (Q.pushA (by assumption) r c n HR.out HC.out hl).mono ?_; rintro e wA ⟨rfl, pA, hqA, htA⟩; have hcA := hqA.cells)
    | (go_at_call 30; refine (Q.pushB (by assumption) r c n HR.out HC.out hl).mono ?_; rintro e wB ⟨rfl, pB, hqB, htB⟩; have hcB := hqB.cells))
  all_goals
    go_wp2_with fail
    go_ret
    first
    | exact And.intro rfl (hqB.done (ht0.trans (htA.trans htB)) HB.out (pushF_len _ _ _ _))
    | exact And.intro rfl (hqA.done (ht0.trans (htB.trans htA)) HB.out (pushF_len _ _ _ _))

set_option maxRecDepth 100000 in
set_option maxHeartbeats 2000000 in
theorem plays_next {W : World} {B S S' : Nat} {p : PD} {fs : List Fr} {m : Nat} (h : Pr W B S S' p fs m) (b : Bool) (r c n : Int) (hr : I64 r) (hc : I64 c) (hn : I64 n) (hl : fs.length + 1 ≤ 1000000000) :
    Calls Try.prog 21 #[.agg #[.pointer (some ⟨S, 0, none⟩), .pointer (some ⟨S', 0, none⟩)], .agg #[.int .i64 4, .bool b, .int .i64 r, .int .i64 c, .int .i64 n]] W (PP W B S S' p fs) := by
  obtain ⟨hq, hbel⟩ := h.box ⟨4, b, r, c, n⟩
  have HR := Lib.hid hr
  have HC := Lib.hid hc
  have HN := Lib.hid hn
  clear h hr hc hn
  go_enter Try.func21, Try.ntmps21
  go_wp2_with fail
  generalize hX : (W.alloc (box0 S S')).alloc (box1 ⟨4, b, r, c, n⟩) = X at *
  have hq0 := hq.drew
  have ht0 : Tr S S' X p X.drew p := (Tr.refl _ _ _ _).drew
  have hc0 := hq0.cells
  have HB := Lib.hid hbel
  clear hX hq hbel
  go_region_held3 (fun w' => (w'.cell? ⟨W.heap.size, 0, none⟩ = some (.pointer (some ⟨S, 0, none⟩)) ∧ w'.cell? ⟨W.heap.size, 1, none⟩ = some (.pointer (some ⟨S', 0, none⟩))) ∧ w'.cell? ⟨W.heap.size + 1, 0, none⟩ = some (.int .i64 4) ∧ w'.cell? ⟨W.heap.size + 1, 2, none⟩ = some (.int .i64 r) ∧ w'.cell? ⟨W.heap.size + 1, 3, none⟩ = some (.int .i64 c) ∧ w'.cell? ⟨W.heap.size + 1, 4, none⟩ = some (.int .i64 n)) (first | exact hc0 | exact hcA | exact hcB | go_keep) (first
    | (go_at_call 25; refine (Q.nextA (by assumption) n HN.out).mono ?_; rintro e wA ⟨rfl, pA, hqA, htA⟩; have hcA := hqA.cells)
    | (go_at_call 33; refine (Q.nextB (by assumption) n HN.out).mono ?_; rintro e wB ⟨rfl, pB, hqB, htB⟩; have hcB := hqB.cells))
  all_goals
    go_wp2_with fail
    go_ret
    first
    | exact And.intro rfl (hqB.done (ht0.trans (htA.trans htB)) HB.out (by unfold nextF; split <;> simp [setTop_len]))
    | exact And.intro rfl (hqA.done (ht0.trans (htB.trans htA)) HB.out (by unfold nextF; split <;> simp [setTop_len]))

set_option maxRecDepth 100000 in
set_option maxHeartbeats 2000000 in
theorem plays_kind {W : World} {B S S' : Nat} {p : PD} {fs : List Fr} {m : Nat} (h : Pr W B S S' p fs m) (b : Bool) (r c n : Int) (hr : I64 r) (hc : I64 c) (hn : I64 n) (hl : fs.length + 1 ≤ 1000000000) :
    Calls Try.prog 21 #[.agg #[.pointer (some ⟨S, 0, none⟩), .pointer (some ⟨S', 0, none⟩)], .agg #[.int .i64 5, .bool b, .int .i64 r, .int .i64 c, .int .i64 n]] W (PP W B S S' p fs) := by
  obtain ⟨hq, hbel⟩ := h.box ⟨5, b, r, c, n⟩
  have HR := Lib.hid hr
  have HC := Lib.hid hc
  have HN := Lib.hid hn
  clear h hr hc hn
  go_enter Try.func21, Try.ntmps21
  go_wp2_with fail
  generalize hX : (W.alloc (box0 S S')).alloc (box1 ⟨5, b, r, c, n⟩) = X at *
  have hq0 := hq.drew
  have ht0 : Tr S S' X p X.drew p := (Tr.refl _ _ _ _).drew
  have hc0 := hq0.cells
  have HB := Lib.hid hbel
  clear hX hq hbel
  go_region_held3 (fun w' => (w'.cell? ⟨W.heap.size, 0, none⟩ = some (.pointer (some ⟨S, 0, none⟩)) ∧ w'.cell? ⟨W.heap.size, 1, none⟩ = some (.pointer (some ⟨S', 0, none⟩))) ∧ w'.cell? ⟨W.heap.size + 1, 0, none⟩ = some (.int .i64 5) ∧ w'.cell? ⟨W.heap.size + 1, 2, none⟩ = some (.int .i64 r) ∧ w'.cell? ⟨W.heap.size + 1, 3, none⟩ = some (.int .i64 c) ∧ w'.cell? ⟨W.heap.size + 1, 4, none⟩ = some (.int .i64 n)) (first | exact hc0 | exact hcA | exact hcB | go_keep) (first
    | (go_at_call 34; refine (Q.kindA (by assumption) n).mono ?_; rintro e wA ⟨rfl, pA, hqA, htA⟩; have hcA := hqA.cells)
    | (go_at_call 35; refine (Q.kindB (by assumption) n).mono ?_; rintro e wB ⟨rfl, pB, hqB, htB⟩; have hcB := hqB.cells))
  all_goals
    go_wp2_with fail
    go_ret
    first
    | exact And.intro rfl (hqB.done (ht0.trans (htA.trans htB)) HB.out (by unfold kindF; split <;> simp [setTop_len]))
    | exact And.intro rfl (hqA.done (ht0.trans (htB.trans htA)) HB.out (by unfold kindF; split <;> simp [setTop_len]))

set_option maxRecDepth 100000 in
set_option maxHeartbeats 2000000 in
theorem plays_has {W : World} {B S S' : Nat} {p : PD} {fs : List Fr} {m : Nat} (h : Pr W B S S' p fs m) (b : Bool) (r c n : Int) (hr : I64 r) (hc : I64 c) (hn : I64 n) (hl : fs.length + 1 ≤ 1000000000) :
    Calls Try.prog 21 #[.agg #[.pointer (some ⟨S, 0, none⟩), .pointer (some ⟨S', 0, none⟩)], .agg #[.int .i64 6, .bool b, .int .i64 r, .int .i64 c, .int .i64 n]] W (PP W B S S' p fs) := by
  obtain ⟨hq, hbel⟩ := h.box ⟨6, b, r, c, n⟩
  have HR := Lib.hid hr
  have HC := Lib.hid hc
  have HN := Lib.hid hn
  clear h hr hc hn
  go_enter Try.func21, Try.ntmps21
  go_wp2_with fail
  generalize hX : (W.alloc (box0 S S')).alloc (box1 ⟨6, b, r, c, n⟩) = X at *
  have hq0 := hq.drew
  have ht0 : Tr S S' X p X.drew p := (Tr.refl _ _ _ _).drew
  have hc0 := hq0.cells
  have HB := Lib.hid hbel
  clear hX hq hbel
  go_region_held3 (fun w' => (w'.cell? ⟨W.heap.size, 0, none⟩ = some (.pointer (some ⟨S, 0, none⟩)) ∧ w'.cell? ⟨W.heap.size, 1, none⟩ = some (.pointer (some ⟨S', 0, none⟩))) ∧ w'.cell? ⟨W.heap.size + 1, 0, none⟩ = some (.int .i64 6) ∧ w'.cell? ⟨W.heap.size + 1, 2, none⟩ = some (.int .i64 r) ∧ w'.cell? ⟨W.heap.size + 1, 3, none⟩ = some (.int .i64 c) ∧ w'.cell? ⟨W.heap.size + 1, 4, none⟩ = some (.int .i64 n)) (first | exact hc0 | exact hcA | exact hcB | go_keep) (first
    | (go_at_call 12; refine (Q.hasA (by assumption) r c HR.out HC.out).mono ?_; rintro e wA ⟨rfl, hqA, htA⟩; have hcA := hqA.cells)
    | (go_at_call 36; refine (Q.hasB (by assumption) r c HR.out HC.out).mono ?_; rintro e wB ⟨rfl, hqB, htB⟩; have hcB := hqB.cells))
  all_goals
    go_wp2_with fail
    go_ret
    first
    | exact And.intro rfl (hqB.done (ht0.trans (htA.trans htB)) HB.out (by omega))
    | exact And.intro rfl (hqA.done (ht0.trans (htB.trans htA)) HB.out (by omega))

set_option maxRecDepth 100000 in
set_option maxHeartbeats 2000000 in
theorem plays_pop {W : World} {B S S' : Nat} {p : PD} {fs : List Fr} {m : Nat} (h : Pr W B S S' p fs m) (b : Bool) (r c n : Int) (hr : I64 r) (hc : I64 c) (hn : I64 n) (hl : fs.length + 1 ≤ 1000000000) :
    Calls Try.prog 21 #[.agg #[.pointer (some ⟨S, 0, none⟩), .pointer (some ⟨S', 0, none⟩)], .agg #[.int .i64 2, .bool b, .int .i64 r, .int .i64 c, .int .i64 n]] W (PP W B S S' p fs) := by
  obtain ⟨hq, hbel⟩ := h.box ⟨2, b, r, c, n⟩
  have HR := Lib.hid hr
  have HC := Lib.hid hc
  have HN := Lib.hid hn
  clear h hr hc hn
  go_enter Try.func21, Try.ntmps21
  go_wp2_with fail
  generalize hX : (W.alloc (box0 S S')).alloc (box1 ⟨2, b, r, c, n⟩) = X at *
  obtain ⟨f, hf⟩ : ∃ f, (topF fs).1 = f := ⟨_, rfl⟩
  have HFF := Lib.hid hf
  have HB := Lib.hid hbel
  have HA := Lib.hid (Q.popA hq)
  clear hX hq hbel hf
  refine HA.out.mono ?_
  rw [HFF.out]
  rintro e w1 ⟨rfl, p1, hq1, ht1⟩
  have hc1 := hq1.cells
  have hbo := (Below.refl w1.heap.size w1).alloc (Nat.le_refl _) (.cells #[.int .i64 f.r, .int .i64 f.c, .int .i64 f.k, .int .i64 f.x] 36)
  have rT := heap_alloc_new w1 (.cells #[.int .i64 f.r, .int .i64 f.c, .int .i64 f.k, .int .i64 f.x] 36)
  have hq1' := hq1.below hbo
  have ht1' := ht1.trans (Tr.below hbo)
  have hc1' := hq1'.cells
  simp only [frV]
  go_wp2_with fail
  refine (Q.popB hq1').mono ?_
  rw [HFF.out]
  rintro e w2 ⟨rfl, p2, hq2, ht2⟩
  have hTw : w1.heap.size < (w1.alloc (.cells #[.int .i64 f.r, .int .i64 f.c, .int .i64 f.k, .int .i64 f.x] 36)).heap.size := by simp
  have rT2 := (ht2.ap.block w1.heap.size hTw (fun e => by have := (hq1.px _ e).2; omega)).trans rT
  have hs2 : w1.heap.size < w2.heap.size := Nat.lt_of_lt_of_le hTw ht2.ap.size
  obtain ⟨t0, t1, t2, t3⟩ := cells4 rT2
  have hc2 := hq2.cells
  simp only [frV]
  have HQ := Lib.hid (And.intro hq2 (ht1'.trans ht2))
  clear hq1 ht1 hbo rT hq1' ht1' hc1 hc1' hq2 ht2 hTw rT2
  go_wp2_with fail
  go_ret
  exact And.intro rfl ((HQ.out.1.below ((Below.refl _ _).alloc (Nat.le_refl _) _)).done (HQ.out.2.trans (Tr.below ((Below.refl _ _).alloc (Nat.le_refl _) _))) HB.out (by simp; omega))

set_option maxRecDepth 100000 in
set_option maxHeartbeats 2000000 in
theorem plays_top {W : World} {B S S' : Nat} {p : PD} {fs : List Fr} {m : Nat} (h : Pr W B S S' p fs m) (b : Bool) (r c n : Int) (hr : I64 r) (hc : I64 c) (hn : I64 n) (hl : fs.length + 1 ≤ 1000000000) :
    Calls Try.prog 21 #[.agg #[.pointer (some ⟨S, 0, none⟩), .pointer (some ⟨S', 0, none⟩)], .agg #[.int .i64 3, .bool b, .int .i64 r, .int .i64 c, .int .i64 n]] W (PP W B S S' p fs) := by
  obtain ⟨hq, hbel⟩ := h.box ⟨3, b, r, c, n⟩
  have HR := Lib.hid hr
  have HC := Lib.hid hc
  have HN := Lib.hid hn
  clear h hr hc hn
  go_enter Try.func21, Try.ntmps21
  go_wp2_with fail
  generalize hX : (W.alloc (box0 S S')).alloc (box1 ⟨3, b, r, c, n⟩) = X at *
  obtain ⟨f, hf⟩ : ∃ f, (topF fs).1 = f := ⟨_, rfl⟩
  have HFF := Lib.hid hf
  have HB := Lib.hid hbel
  have HA := Lib.hid (Q.topA hq)
  clear hX hq hbel hf
  refine HA.out.mono ?_
  rw [HFF.out]
  rintro e w1 ⟨rfl, hq1, ht1⟩
  have hc1 := hq1.cells
  have hbo := (Below.refl w1.heap.size w1).alloc (Nat.le_refl _) (.cells #[.int .i64 f.r, .int .i64 f.c, .int .i64 f.k, .int .i64 f.x] 36)
  have rT := heap_alloc_new w1 (.cells #[.int .i64 f.r, .int .i64 f.c, .int .i64 f.k, .int .i64 f.x] 36)
  have hq1' := hq1.below hbo
  have ht1' := ht1.trans (Tr.below hbo)
  have hc1' := hq1'.cells
  simp only [frV]
  go_wp2_with fail
  refine (Q.topB hq1').mono ?_
  rw [HFF.out]
  rintro e w2 ⟨rfl, hq2, ht2⟩
  have hTw : w1.heap.size < (w1.alloc (.cells #[.int .i64 f.r, .int .i64 f.c, .int .i64 f.k, .int .i64 f.x] 36)).heap.size := by simp
  have rT2 := (ht2.ap.block w1.heap.size hTw (fun e => by have := (hq1.px _ e).2; omega)).trans rT
  have hs2 : w1.heap.size < w2.heap.size := Nat.lt_of_lt_of_le hTw ht2.ap.size
  obtain ⟨t0, t1, t2, t3⟩ := cells4 rT2
  have hc2 := hq2.cells
  simp only [frV]
  have HQ := Lib.hid (And.intro hq2 (ht1'.trans ht2))
  clear hq1 ht1 hbo rT hq1' ht1' hc1 hc1' hq2 ht2 hTw rT2
  go_wp2_with fail
  go_ret
  exact And.intro rfl ((HQ.out.1.below ((Below.refl _ _).alloc (Nat.le_refl _) _)).done (HQ.out.2.trans (Tr.below ((Below.refl _ _).alloc (Nat.le_refl _) _))) HB.out (by omega))

set_option maxRecDepth 100000 in
set_option maxHeartbeats 2000000 in
theorem plays_all {W : World} {B S S' : Nat} {p : PD} {fs : List Fr} {m : Nat} (h : Pr W B S S' p fs m) (b : Bool) (r c n : Int) (hr : I64 r) (hc : I64 c) (hn : I64 n) (hl : fs.length + 1 ≤ 1000000000) :
    Calls Try.prog 21 #[.agg #[.pointer (some ⟨S, 0, none⟩), .pointer (some ⟨S', 0, none⟩)], .agg #[.int .i64 8, .bool b, .int .i64 r, .int .i64 c, .int .i64 n]] W (PP W B S S' p fs) := by
  obtain ⟨hq, hbel⟩ := h.box ⟨8, b, r, c, n⟩
  have HR := Lib.hid hr
  have HC := Lib.hid hc
  have HN := Lib.hid hn
  clear h hr hc hn
  go_enter Try.func21, Try.ntmps21
  go_wp2_with fail
  generalize hX : (W.alloc (box0 S S')).alloc (box1 ⟨8, b, r, c, n⟩) = X at *
  have hq0 := hq.drew
  have ht0 : Tr S S' X p X.drew p := (Tr.refl _ _ _ _).drew
  have hc0 := hq0.cells
  have HB := Lib.hid hbel
  clear hX hq hbel
  go_region_held3 (fun w' => (w'.cell? ⟨W.heap.size, 0, none⟩ = some (.pointer (some ⟨S, 0, none⟩)) ∧ w'.cell? ⟨W.heap.size, 1, none⟩ = some (.pointer (some ⟨S', 0, none⟩))) ∧ w'.cell? ⟨W.heap.size + 1, 0, none⟩ = some (.int .i64 8) ∧ w'.cell? ⟨W.heap.size + 1, 2, none⟩ = some (.int .i64 r) ∧ w'.cell? ⟨W.heap.size + 1, 3, none⟩ = some (.int .i64 c) ∧ w'.cell? ⟨W.heap.size + 1, 4, none⟩ = some (.int .i64 n)) (first | exact hc0 | exact hcE | exact hcA | exact hcB | go_keep) (first
    | (go_at_call 9; refine (Q.allA (by assumption)).mono ?_; rintro e wA ⟨A1, lA, CA, rfl, hLA, hqA, htA⟩; have hcA := hqA.cells; try have hLB' := hLB.tr htA)
    | (go_at_call 22; refine (Q.allB (by assumption)).mono ?_; rintro e wB ⟨B1, lB, CB, rfl, hLB, hqB, htB⟩; have hcB := hqB.cells; try have hLA' := hLA.tr htB)
    | (go_at_call 11; refine (eqL (gs := fs) (by assumption) (by assumption) (by omega)).mono ?_; rintro e wE ⟨rfl, hbE⟩; have hqE := Q.below (by assumption) hbE; have hcE := hqE.cells))
  all_goals
    go_wp2_with fail
    go_ret
    first
    | exact And.intro rfl ((hqB.below hbE).done (ht0.trans (htA.trans (htB.trans (Tr.below hbE)))) HB.out (by omega))
    | exact And.intro rfl ((hqA.below hbE).done (ht0.trans (htB.trans (htA.trans (Tr.below hbE)))) HB.out (by omega))

set_option maxRecDepth 100000 in
set_option maxHeartbeats 2000000 in
theorem plays_clear {W : World} {B S S' : Nat} {p : PD} {fs : List Fr} {m : Nat} (h : Pr W B S S' p fs m) (b : Bool) (r c n : Int) (hr : I64 r) (hc : I64 c) (hn : I64 n) (hl : fs.length + 1 ≤ 1000000000) :
    Calls Try.prog 21 #[.agg #[.pointer (some ⟨S, 0, none⟩), .pointer (some ⟨S', 0, none⟩)], .agg #[.int .i64 10, .bool b, .int .i64 r, .int .i64 c, .int .i64 n]] W (PP W B S S' p fs) := by
  obtain ⟨hq, hbel⟩ := h.box ⟨10, b, r, c, n⟩
  have HR := Lib.hid hr
  have HC := Lib.hid hc
  have HN := Lib.hid hn
  clear h hr hc hn
  go_enter Try.func21, Try.ntmps21
  go_wp2_with fail
  generalize hX : (W.alloc (box0 S S')).alloc (box1 ⟨10, b, r, c, n⟩) = X at *
  have hq0 := hq.drew
  have ht0 : Tr S S' X p X.drew p := (Tr.refl _ _ _ _).drew
  have hc0 := hq0.cells
  have HB := Lib.hid hbel
  clear hX hq hbel
  go_region_held3 (fun w' => (w'.cell? ⟨W.heap.size, 0, none⟩ = some (.pointer (some ⟨S, 0, none⟩)) ∧ w'.cell? ⟨W.heap.size, 1, none⟩ = some (.pointer (some ⟨S', 0, none⟩))) ∧ w'.cell? ⟨W.heap.size + 1, 0, none⟩ = some (.int .i64 10) ∧ w'.cell? ⟨W.heap.size + 1, 2, none⟩ = some (.int .i64 r) ∧ w'.cell? ⟨W.heap.size + 1, 3, none⟩ = some (.int .i64 c) ∧ w'.cell? ⟨W.heap.size + 1, 4, none⟩ = some (.int .i64 n)) (first | exact hc0 | exact hcE | exact hcA | exact hcB | go_keep) (first
    | (go_at_call 14; refine (Q.clearA (by assumption)).mono ?_; rintro e wA ⟨A1, lA, CA, pA, rfl, hLA, hqA, htA⟩; have hcA := hqA.cells; try have hLB' := hLB.tr htA)
    | (go_at_call 23; refine (Q.clearB (by assumption)).mono ?_; rintro e wB ⟨B1, lB, CB, pB, rfl, hLB, hqB, htB⟩; have hcB := hqB.cells; try have hLA' := hLA.tr htB)
    | (go_at_call 11; refine (eqL (gs := fs) (by assumption) (by assumption) (by omega)).mono ?_; rintro e wE ⟨rfl, hbE⟩; have hqE := Q.below (by assumption) hbE; have hcE := hqE.cells))
  all_goals
    go_wp2_with fail
    go_ret
    first
    | exact And.intro rfl ((hqB.below hbE).done (ht0.trans (htA.trans (htB.trans (Tr.below hbE)))) HB.out (by simp))
    | exact And.intro rfl ((hqA.below hbE).done (ht0.trans (htB.trans (htA.trans (Tr.below hbE)))) HB.out (by simp))

set_option maxRecDepth 100000 in
set_option maxHeartbeats 2000000 in
theorem plays_from {W : World} {B S S' : Nat} {p : PD} {fs : List Fr} {m : Nat} (h : Pr W B S S' p fs m) (b : Bool) (r c n : Int) (hr : I64 r) (hc : I64 c) (hn : I64 n) (hl : fs.length + 1 ≤ 1000000000) :
    Calls Try.prog 21 #[.agg #[.pointer (some ⟨S, 0, none⟩), .pointer (some ⟨S', 0, none⟩)], .agg #[.int .i64 7, .bool b, .int .i64 r, .int .i64 c, .int .i64 n]] W (PP W B S S' p fs) := by
  obtain ⟨hq, hbel⟩ := h.box ⟨7, b, r, c, n⟩
  have HR := Lib.hid hr
  have HC := Lib.hid hc
  have HN := Lib.hid hn
  clear h hr hc hn
  go_enter Try.func21, Try.ntmps21
  go_wp2_with fail
  generalize hX : (W.alloc (box0 S S')).alloc (box1 ⟨7, b, r, c, n⟩) = X at *
  have HB := Lib.hid hbel
  have hc0 := hq.cells
  clear hX hbel
  refine (Q.fromA hq r c HR.out HC.out).mono ?_
  rintro e w1 ⟨A1, lA, CA, rfl, hLA, hq1, ht1⟩
  have hc1 := hq1.cells
  go_wp2_with fail
  refine (Q.fromB hq1 r c HR.out HC.out).mono ?_
  rintro e w2 ⟨B1, lB, CB, rfl, hLB, hq2, ht2⟩
  have hc2 := hq2.cells
  have hLA' := hLA.tr ht2
  have hfl := fromF_len fs r c
  have HQ := Lib.hid (And.intro hq2 (ht1.trans ht2))
  clear hq hq1 hq2 ht1 ht2 hLA
  go_wp2_with fail
  refine (eqL hLA' hLB (by omega)).mono ?_
  rintro e wE ⟨rfl, hbE⟩
  go_wp2_with fail
  go_ret
  exact And.intro rfl ((HQ.out.1.below hbE).done (HQ.out.2.trans (Tr.below hbE)) HB.out (by omega))

set_option maxRecDepth 100000 in
set_option maxHeartbeats 2000000 in
theorem plays_height {W : World} {B S S' : Nat} {p : PD} {fs : List Fr} {m : Nat} (h : Pr W B S S' p fs m) (b : Bool) (r c n : Int) (hr : I64 r) (hc : I64 c) (hn : I64 n) (hl : fs.length + 1 ≤ 1000000000) :
    Calls Try.prog 21 #[.agg #[.pointer (some ⟨S, 0, none⟩), .pointer (some ⟨S', 0, none⟩)], .agg #[.int .i64 9, .bool b, .int .i64 r, .int .i64 c, .int .i64 n]] W (PP W B S S' p fs) := by
  obtain ⟨hq, hbel⟩ := h.box ⟨9, b, r, c, n⟩
  have HR := Lib.hid hr
  have HC := Lib.hid hc
  have HN := Lib.hid hn
  clear h hr hc hn
  go_enter Try.func21, Try.ntmps21
  go_wp2_with fail
  generalize hX : (W.alloc (box0 S S')).alloc (box1 ⟨9, b, r, c, n⟩) = X at *
  have HB := Lib.hid hbel
  have hc0 := hq.cells
  clear hX hbel
  refine (Q.heightA hq).mono ?_
  rintro e w1 ⟨rfl, hq1, ht1⟩
  have hc1 := hq1.cells
  go_wp2_with fail
  refine (Q.heightB hq1).mono ?_
  rintro e w2 ⟨rfl, hq2, ht2⟩
  have HQ := Lib.hid (And.intro hq2 (ht1.trans ht2))
  clear hq hq1 hq2 ht1 ht2
  go_wp2_with fail
  go_ret
  exact And.intro rfl (HQ.out.1.done HQ.out.2 HB.out (by omega))

set_option maxRecDepth 100000 in
set_option maxHeartbeats 2000000 in
theorem plays_none {W : World} {B S S' : Nat} {p : PD} {fs : List Fr} {m : Nat} (h : Pr W B S S' p fs m) (k : Int) (b : Bool) (r c n : Int) (hk : k ≤ 0 ∨ 10 < k) :
    Calls Try.prog 21 #[.agg #[.pointer (some ⟨S, 0, none⟩), .pointer (some ⟨S', 0, none⟩)], .agg #[.int .i64 k, .bool b, .int .i64 r, .int .i64 c, .int .i64 n]] W (PP W B S S' p fs) := by
  obtain ⟨hq, hbel⟩ := h.box ⟨k, b, r, c, n⟩
  have HQ := Lib.hid (And.intro hq hbel)
  have k1 : (k == 1) = false := beq_eq_false_iff_ne.2 (by omega)
  have k2 : (k == 2) = false := beq_eq_false_iff_ne.2 (by omega)
  have k3 : (k == 3) = false := beq_eq_false_iff_ne.2 (by omega)
  have k4 : (k == 4) = false := beq_eq_false_iff_ne.2 (by omega)
  have k5 : (k == 5) = false := beq_eq_false_iff_ne.2 (by omega)
  have k6 : (k == 6) = false := beq_eq_false_iff_ne.2 (by omega)
  have k7 : (k == 7) = false := beq_eq_false_iff_ne.2 (by omega)
  have k8 : (k == 8) = false := beq_eq_false_iff_ne.2 (by omega)
  have k9 : (k == 9) = false := beq_eq_false_iff_ne.2 (by omega)
  have k10 : (k == 10) = false := beq_eq_false_iff_ne.2 (by omega)
  clear h hq hbel hk
  go_enter Try.func21, Try.ntmps21
  go_wp2_with fail
  go_ret
  exact And.intro rfl (HQ.out.1.done (Tr.refl _ _ _ _) HQ.out.2 (by omega))

theorem plays21 {W : World} {B S S' : Nat} {p : PD} {fs : List Fr} {m : Nat} (h : Pr W B S S' p fs m) (k : Int) (b : Bool) (r c n : Int) (hr : I64 r) (hc : I64 c) (hn : I64 n) (hl : fs.length + 1 ≤ 1000000000) :
    Calls Try.prog 21 #[.agg #[.pointer (some ⟨S, 0, none⟩), .pointer (some ⟨S', 0, none⟩)], .agg #[.int .i64 k, .bool b, .int .i64 r, .int .i64 c, .int .i64 n]] W (PP W B S S' p fs) := by
  by_cases hk : k ≤ 0 ∨ 10 < k
  · exact plays_none h k b r c n hk
  · have hk2 : k = 1 ∨ k = 2 ∨ k = 3 ∨ k = 4 ∨ k = 5 ∨ k = 6 ∨ k = 7 ∨ k = 8 ∨ k = 9 ∨ k = 10 := by omega
    rcases hk2 with rfl | rfl | rfl | rfl | rfl | rfl | rfl | rfl | rfl | rfl
    · exact plays_push h b r c n hr hc hn hl
    · exact plays_pop h b r c n hr hc hn hl
    · exact plays_top h b r c n hr hc hn hl
    · exact plays_next h b r c n hr hc hn hl
    · exact plays_kind h b r c n hr hc hn hl
    · exact plays_has h b r c n hr hc hn hl
    · exact plays_from h b r c n hr hc hn hl
    · exact plays_all h b r c n hr hc hn hl
    · exact plays_height h b r c n hr hc hn hl
    · exact plays_clear h b r c n hr hc hn hl
end Go.Proofs.Ytfbmfcipaikaoaa
