/- trend.Of answers ofV. -/
import Derived.Test.YtcgkolaljgpphaaOrder
import Derived.Test.YtcgkolaljgpphaaFrame
import Derived.Lib.AppendStr
namespace Go.Proofs.Ytcgkolaljgpphaa
set_option linter.unusedVariables false
set_option linter.unusedSimpArgs false
open Go.RowKit

theorem ValsAt.below {W W' : World} {A : Option Addr} {vs : List Val} (h : ValsAt W A vs) (hb : Below W.heap.size W W') : ValsAt W' A vs := fun i hi => by
  obtain ⟨b, off, hA, hlt, h0, h1, h2⟩ := h i hi
  exact ⟨b, off, hA, Nat.lt_of_lt_of_le hlt hb.size, cell_below h0 hb, cell_below h1 hb, cell_below h2 hb⟩
theorem getD_mem {α : Type} {l : List α} {i : Nat} {d : α} (h : i < l.length) : l.getD i d ∈ l := by
  rw [List.getD_eq_getElem?_getD, List.getElem?_eq_getElem h]
  exact List.getElem_mem h
theorem ValsAt.get {W : World} {A : Option Addr} {vs : List Val} (h : ValsAt W A vs) (hf : ∀ v ∈ vs, v.fits) {i : Nat} (hi : i < vs.length) :
    ∃ b off k n s, A = some ⟨b, off, none⟩ ∧ b < W.heap.size ∧ vs.getD i default = ⟨k, n, s⟩ ∧ W.cell? ⟨b, off + i * 3, none⟩ = some (.int .i64 k) ∧ W.cell? ⟨b, off + i * 3 + 1, none⟩ = some (.int .i64 n) ∧
      W.cell? ⟨b, off + i * 3 + 2, none⟩ = some (.string s) ∧ (-9223372036854775808 ≤ n ∧ n ≤ 9223372036854775807) ∧ s.size ≤ 140737488351232 := by
  obtain ⟨b, off, hA, hlt, h0, h1, h2⟩ := h i hi
  have hfit := hf _ (getD_mem (d := default) hi)
  generalize vs.getD i default = v at *
  exact ⟨b, off, v.k, v.n, v.s, hA, hlt, rfl, h0, h1, h2, hfit.2.1, hfit.2.2⟩

@[local go_sem] theorem run_store_float' {P : Program} {w : World} {a : Addr} {m : Mode} (k : FloatKind) (x : Nat) : (store a (.float k x) m).run P w = stored P w a (.float k x) m := run_store P w a _ m rfl

/-- The first error's code; 0 where there is none. -/
def scan : List Val → Int
  | [] => 0
  | v :: vs => if wrongV v.k v.n v.s ≠ 0 then wrongV v.k v.n v.s else scan vs
/-- The numbers among the values. -/
def numsV : List Val → List Nat
  | [] => []
  | v :: vs => if numB v.k v.s = true then floatOfInt .f64 v.n :: numsV vs else numsV vs
theorem numsV_app (a b : List Val) : numsV (a ++ b) = numsV a ++ numsV b := by
  induction a with
  | nil => rfl
  | cons v a ih => simp only [List.cons_append, numsV]; split <;> simp [ih]
theorem scan_app (a b : List Val) : scan (a ++ b) = if scan a ≠ 0 then scan a else scan b := by
  induction a with
  | nil => simp [scan]
  | cons v a ih => simp only [List.cons_append, scan]; split <;> simp_all
theorem numsV_len (vs : List Val) : (numsV vs).length ≤ vs.length := by
  induction vs with
  | nil => simp [numsV]
  | cons v vs ih => simp only [numsV]; split <;> simp <;> omega
theorem numsV_mem {vs : List Val} {x : Nat} (h : x ∈ numsV vs) (hf : ∀ v ∈ vs, v.fits) : ∃ n : Int, (-9223372036854775808 ≤ n ∧ n ≤ 9223372036854775808) ∧ x = floatOfInt .f64 n := by
  induction vs with
  | nil => simp [numsV] at h
  | cons v vs ih =>
    simp only [numsV] at h
    split at h
    · rcases List.mem_cons.1 h with rfl | h
      · have := (hf v (by simp)).2.1
        exact ⟨v.n, ⟨this.1, by omega⟩, rfl⟩
      · exact ih h (fun u hu => hf u (by simp [hu]))
    · exact ih h (fun u hu => hf u (by simp [hu]))
theorem numsV_bnd {vs : List Val} (hf : ∀ v ∈ vs, v.fits) : ∀ x ∈ numsV vs, BndE 1137 x := fun x hx => by
  obtain ⟨n, h, rfl⟩ := numsV_mem hx hf
  exact fint_bd n h
theorem numsV_num {vs : List Val} (hf : ∀ v ∈ vs, v.fits) : ∀ x ∈ numsV vs, Num x := fun x hx => by
  obtain ⟨n, h, rfl⟩ := numsV_mem hx hf
  exact fint_num n h
theorem take_snoc {vs : List Val} {i : Nat} (h : i < vs.length) : vs.take (i + 1) = vs.take i ++ [vs.getD i default] := by
  rw [List.take_add_one]
  simp [List.getD, h]

def varV (xs : List Nat) : Nat := fdiv (spreadV (meanV xs) (meanV xs) xs xs) (floatOfInt .f64 (xs.length : Int))
def leastV (xs : List Nat) : Nat := xs.foldl fmin (xs.getD 0 0)
def mostV (xs : List Nat) : Nat := xs.foldl fmax (xs.getD 0 0)
def trendT (c : Int) (m v l h : Nat) : Value := .agg #[.int .i64 c, .float .f64 m, .float .f64 v, .float .f64 l, .float .f64 h]
/-- What is told of values. -/
def ofV (vs : List Val) : Value :=
  if scan vs ≠ 0 then .tuple #[trendT 0 0 0 0 0, .int .i64 (scan vs)]
  else if numsV vs = [] then .tuple #[trendT 0 0 0 0 0, .int .i64 5]
  else .tuple #[trendT (numsV vs).length (meanV (numsV vs)) (varV (numsV vs)) (leastV (numsV vs)) (mostV (numsV vs)), .int .i64 0]

theorem info25 : (Try.prog.info? 25).map (fun i => (i.zero, i.size, i.bytes)) = some (some (.float .f64 0), 1, 8) := by kernel_rfl
def f64s (l : List Nat) : List Value := l.map (Value.float .f64)
theorem f64s_snoc (l : List Nat) (x : Nat) : f64s l ++ [Value.float .f64 x] = f64s (l ++ [x]) := by simp [f64s]
theorem HasF.of_own {w : World} {B g cap : Nat} {l : List Nat} (h : w.ownsRow B 25 1 (.slice (some ⟨g, 0, none⟩) l.length cap) l.length (f64s l)) : HasF w g l := by
  intro j hj
  rw [h.cellAt j (by omega)]
  simp [f64s, hj]
theorem HasF.below {w w' : World} {g : Nat} {l : List Nat} (h : HasF w g l) (hb : Below w.heap.size w w') : HasF w' g l := fun j hj => cell_below (h j hj) hb
theorem slice_form {w : World} {base : Nat} {e : TypeId} {size n : Nat} {v : Value} {xs : List Value} (h : w.ownsRow base e size v (n + 1) xs) : ∃ g cap, v = .slice (some ⟨g, 0, none⟩) (n + 1) cap := by
  rcases h.2 with ⟨_, h0⟩ | ⟨g, cap, _, rfl, _⟩
  · omega
  · exact ⟨g, cap, rfl⟩
theorem row_any {w : World} {base : Nat} {e : TypeId} {size n : Nat} {v : Value} {xs : List Value} (h : w.ownsRow base e size v n xs) : ∃ ao cap, v = .slice ao n cap := by
  rcases h.2 with ⟨rfl, rfl⟩ | ⟨g, cap, _, rfl, _⟩
  · exact ⟨none, 0, rfl⟩
  · exact ⟨_, cap, rfl⟩
theorem grown_of_below {W W' : World} (h : Below W.heap.size W W') : W.grownBy W' none := ⟨h.os, h.tape, h.output, h.size, fun k hk _ => h.block k hk⟩
theorem row_below {w w' : World} {base : Nat} {e : TypeId} {size n : Nat} {v : Value} {xs : List Value} (h : w.ownsRow base e size v n xs) (hb : Below w.heap.size w w') : w'.ownsRow base e size v n xs :=
  h.kept (grown_of_below hb) (by cases v.ownBlock; exact .inl rfl; exact .inr (by simp))
theorem one_below {w w1 : World} {o : Obj} (h : Below (w.alloc o).heap.size (w.alloc o) w1) : Below w.heap.size w w1 := ((Below.refl _ _).alloc (Nat.le_refl _) _).trans (h.mono (by simp))
theorem _root_.Go.RowKit.Below.row {B : Nat} {w w1 : World} {b : Nat} {o : Obj} (h : Below B w w1) (hr : w.heap[b]? = some o) (hb : b < B) : w1.heap[b]? = some o := (h.block b hb).trans hr
theorem cells5 {w : World} {g : Nat} {a b c d e : Value} {t : TypeId} {f : Nat × Nat} (h : w.heap[g]? = some (.cells #[a, b, c, d, e] t f)) :
    w.cell? ⟨g, 0, none⟩ = some a ∧ w.cell? ⟨g, 1, none⟩ = some b ∧ w.cell? ⟨g, 2, none⟩ = some c ∧ w.cell? ⟨g, 3, none⟩ = some d ∧ w.cell? ⟨g, 4, none⟩ = some e := by
  refine ⟨?_, ?_, ?_, ?_, ?_⟩ <;> (rw [cell_of_row w _ _ _ _ _ h]; rfl)
theorem row_froz {w : World} {g : Nat} {cs : Array Value} {t : TypeId} (h : w.heap[g]? = some (.cells cs t (0, 0))) (j : Nat) : w.frozen? ⟨g, j, none⟩ = false := by simp [World.frozen?, h]

theorem row_set {W : World} {T : Nat} {cs : Array Value} {t : TypeId} {f : Nat × Nat} (h : W.heap[T]? = some (.cells cs t f)) (j : Nat) (v : Value) : (W.setCell ⟨T, j, none⟩ v).heap[T]? = some (.cells (cs.setIfInBounds j v) t f) := by
  have hlt := (Array.getElem?_eq_some_iff.1 h).1
  have h' : W.heap[T] = .cells cs t f := by simpa [Array.getElem?_eq_getElem hlt] using h
  simp [World.setCell, hlt, Array.getElem_modify, h']
theorem foldl_take (f : Nat → Nat → Nat) (l : List Nat) (x0 : Nat) {k : Nat} (hk : k < l.length) : (l.take (k + 1)).foldl f x0 = f ((l.take k).foldl f x0) l[k] := by
  rw [← List.take_append_getElem hk, List.foldl_append]
  rfl
theorem var_bd (xs : List Nat) (hb : ∀ x ∈ xs, BndE 1137 x) (h0 : 1 ≤ xs.length) (h : xs.length ≤ 8000) :
    floatBits .quo .f64 (spreadV (meanV xs) (meanV xs) xs xs) (floatOfInt .f64 (xs.length : Int)) = some (varV xs) ∧ BndE 1244 (varV xs) := by
  obtain ⟨q, hq, hq2, hq3⟩ := fint_pos xs.length _ rfl h0 (by omega)
  have hm := (mean_bd xs hb h0 h).2
  have hd := fdiv_e (t := false) (e := 1244) rfl (spread_bd hb hb hm hm rfl h) hq2 hq3 (by omega) (by omega) (by omega)
  rw [← hq] at hd
  exact hd
theorem num_foldl {l : List Nat} {x0 : Nat} (h0 : Num x0) (hl : ∀ x ∈ l, Num x) : Num (l.foldl fmin x0) ∧ Num (l.foldl fmax x0) := by
  have h1 : ∀ (l : List Nat) (a b : Nat), Num a → Num b → (∀ x ∈ l, Num x) → Num (l.foldl fmin a) ∧ Num (l.foldl fmax b) := by
    intro l
    induction l with
    | nil => intro a b ha hb _; exact ⟨ha, hb⟩
    | cons x l ih => intro a b ha hb hl; exact ih _ _ (ha.min (hl x (by simp))) (hb.max (hl x (by simp))) (fun y hy => hl y (by simp [hy]))
  exact h1 l x0 x0 h0 h0 hl

theorem keepM {w W0 wa wb : World} {g : Nat} {xs : List Nat} {p : Addr} {x : Value} (h : wa.cell? p = some x ∧ HasF wa g xs ∧ Below (w.heap.size + 1) W0 wa) (hb : Below wa.heap.size wa wb) (hs : W0.heap.size = w.heap.size + 1) :
    wb.cell? p = some x ∧ HasF wb g xs ∧ Below (w.heap.size + 1) W0 wb :=
  ⟨cell_below h.1 hb, h.2.1.below hb, h.2.2.trans (hb.mono (by have := h.2.2.size; omega))⟩

set_option maxRecDepth 100000 in
set_option maxHeartbeats 1000000 in
theorem of11 (A : Option Addr) (C : Nat) (vs : List Val) (w : World) (hv : ValsAt w A vs) (hf : ∀ v ∈ vs, v.fits) (hl : vs.length ≤ 8000) :
    Calls Try.prog 11 #[.slice A vs.length C] w fun e w' => e = .returned (ofV vs) ∧ Below w.heap.size w w' := by
  obtain ⟨i0, hi, hz0, hz1, hz2⟩ := info_parts info25
  have HV := Lib.hid hv
  have HF := Lib.hid hf
  clear hv hf
  go_enter Try.func11, Try.ntmps11
  go_wp2_with fail
  have r0 := heap_alloc_new w (.cells #[.int .i64 0, .float .f64 0, .float .f64 0, .float .f64 0, .float .f64 0] 27)
  have hB0 := (Below.refl w.heap.size w).alloc (Nat.le_refl _) (.cells #[.int .i64 0, .float .f64 0, .float .f64 0, .float .f64 0, .float .f64 0] 27)
  obtain ⟨W0, hW0⟩ : ∃ W0, w.alloc (.cells #[.int .i64 0, .float .f64 0, .float .f64 0, .float .f64 0, .float .f64 0] 27) = W0 := ⟨_, rfl⟩
  have hs0 : W0.heap.size = w.heap.size + 1 := by rw [← hW0]; simp
  rw [hW0] at r0 hB0 ⊢
  clear hW0
  have HB0 := Lib.hid hB0
  have R0 := Lib.hid r0
  clear r0 hB0
  go_loopw [4, 17] (fun v i wr => ∃ k : Nat, k ≤ vs.length ∧ i = .int .i64 k ∧ wr.ownsRow (w.heap.size + 1) 25 1 v (numsV (vs.take k)).length (f64s (numsV (vs.take k))) ∧ scan (vs.take k) = 0 ∧ Below (w.heap.size + 1) W0 wr) (fun _ i _ => vs.length - (intOf i).toNat)
  case atStart => exact ⟨0, Nat.zero_le _, rfl, World.ownsRow_nil _ _ _ _, rfl, Below.refl _ _⟩
  case round =>
    obtain ⟨k, hk, rfl, hown, hsc, hb⟩ := hrel
    obtain ⟨ao, cap, rfl⟩ := row_any hown
    have HSC := Lib.hid hsc
    clear hsc
    by_cases hlt : k < vs.length
    · have hbw : Below w.heap.size w wr := HB0.out.trans (hb.mono (by omega))
      obtain ⟨b, off, kk, n, s, rfl, hbl, hget, hc0, hc1, hc2, hn, hs⟩ := (HV.out.below hbw).get HF.out hlt
      have HS : Hid (s.size ≤ maxLen) := by simp only [Hid]; unfold maxLen; omega
      have HBW := Lib.hid hbw
      have HGET := Lib.hid hget
      have HN := Lib.hid hn
      have hsz : w.heap.size + 1 ≤ wr.heap.size := by have := hb.size; omega
      clear hbw hget hs hn
      by_cases hw : wrongV kk n s = 0
      · have hsc' : scan (vs.take (k + 1)) = 0 := by
          rw [take_snoc hlt, scan_app, HSC.out, HGET.out]
          simp [scan, hw]
        have HSC' := Lib.hid hsc'
        clear hsc'
        have W19 := wrong19 kk n s
        rw [hw] at W19
        cases hnb : numB kk s
        · have e : numsV (vs.take (k + 1)) = numsV (vs.take k) := by
            rw [take_snoc hlt, numsV_app, HGET.out]
            simp [numsV, hnb]
          have N20 := number20 kk n s
          rw [hnb] at N20
          clear hw hnb
          have HE := Lib.hid e
          clear e
          go_wp2_with (first | (go_at_call 19; refine (W19 _ HS.out).mono ?_; rintro e w1 ⟨rfl, hb1⟩; obtain ⟨⟨c0, c1, c2⟩, hb2, hsz2⟩ := box3 hb1; clear hb1 hc0 hc1 hc2; have HB2 := Lib.hid hb2; clear hb2) | (go_at_call 20; refine (N20 _ HS.out).mono ?_; rintro e w2 ⟨rfl, hb3⟩))
          have hbb : Below wr.heap.size wr w2 := HB2.out.trans (hb3.mono HB2.out.size)
          go_roundw
          case rel => exact ⟨k + 1, by omega, by go_num, by rw [HE.out]; exact row_below hown hbb, HSC'.out, hb.trans (hbb.mono (by omega))⟩
          case measure => simp [intOf]; omega
        · have e : numsV (vs.take (k + 1)) = numsV (vs.take k) ++ [floatOfInt .f64 n] := by
            rw [take_snoc hlt, numsV_app, HGET.out]
            simp [numsV, hnb]
          have N20 := number20 kk n s
          rw [hnb] at N20
          clear hw hnb
          have HE := Lib.hid e
          clear e
          have hcnt : (numsV (vs.take k)).length ≤ k := Nat.le_trans (numsV_len _) (by simp; omega)
          have hk8 : (numsV (vs.take k)).length + 1 ≤ 8001 := by omega
          clear hcnt
          generalize numsV (vs.take k) = xs at hown hk8 HE ⊢
          go_wp2_with (first | (go_at_call 19; refine (W19 _ HS.out).mono ?_; rintro e w1 ⟨rfl, hb1⟩; obtain ⟨⟨c0, c1, c2⟩, hb2, hsz2⟩ := box3 hb1; clear hb1 hc0 hc1 hc2; have HB2 := Lib.hid hb2; clear hb2) | (go_at_call 20; refine (N20 _ HS.out).mono ?_; rintro e w2 ⟨rfl, hb3⟩; have hbb := HB2.out.trans (hb3.mono HB2.out.size); have hown2 := row_below hown hbb) | (at_builtin; refine wpList_append_own _ rfl _ _ 47 rfl (w.heap.size + 1) 25 i0 (.float .f64 0) 1 8 Try.underlying47 hi hz0 hz1 hz2 rfl (by decide) _ _ _ rfl (hown2.alloc _) ⟨w2.heap.size, 0, none⟩ 1 1 [_] rfl rfl (cell_one_new _ _ _) ?c2 ?c3 ?c4 ?c5 ?_))
          case c2 => intro u hu; simp at hu; subst hu; rfl
          case c3 => unfold maxLen; omega
          case c4 => omega
          case c5 => have := hbb.size; simp; omega
          intro v' wx hown' hgrow _
          rw [f64s_snoc, ← HE.out] at hown'
          have hb' : Below (w.heap.size + 1) W0 wx := ((hb.trans (hbb.mono (by omega))).alloc (by have := hbb.size; omega) _).grown hgrow (by have := hbb.size; simp; omega) (fun k hk => (hown2.lt k hk).1)
          have hlen : (numsV (vs.take (k + 1))).length = xs.length + 1 := by rw [HE.out]; simp
          have HL := Lib.hid hlen
          have hv' : ∃ ao' cap', v' = .slice ao' (xs.length + 1) cap' := row_any hown'
          obtain ⟨ao', cap', rfl⟩ := hv'
          have HO := Lib.hid hown'
          have HB' := Lib.hid hb'
          clear hown' hown hown2 hb hgrow hb' hbb hb3 hlen
          go_wp2
          go_roundw
          case rel => exact ⟨k + 1, by omega, by go_num, by rw [HL.out]; exact HO.out, HSC'.out, HB'.out⟩
          case measure => simp [intOf]; omega
      · have HW : Hid (ofV vs = .tuple #[trendT 0 0 0 0 0, .int .i64 (wrongV kk n s)]) := by
          have e : scan vs = wrongV kk n s := by
            rw [← List.take_append_drop (k + 1) vs, scan_app, take_snoc hlt, scan_app, HSC.out, HGET.out]
            simp [scan, hw]
          simp only [Hid, ofV, e]
          rw [if_pos hw]
        go_wp2_with (go_at_call 19; refine (wrong19 kk n s _ HS.out).mono ?_; rintro e w1 ⟨rfl, hb1⟩; have h1 := hb.trans ((one_below hb1).mono hsz); have r1 := h1.row R0.out (by omega); obtain ⟨d0, d1, d2, d3, d4⟩ := cells5 r1; have f0 := row_froz r1 0; have f1 := row_froz r1 1; have f2 := row_froz r1 2; have f3 := row_froz r1 3; have f4 := row_froz r1 4; have HW1 := Lib.hid h1; clear h1 hb1 r1 hc0 hc1 hc2 hown hb)
        exact bodyPost_ret (v := .tuple #[trendT 0 0 0 0 0, .int .i64 (wrongV kk n s)]) (by simp [results, Try.results11, go_sem, trendT, d0, d1, d2, d3, d4, f0, f1, f2, f3, f4]) rfl
          ⟨by rw [HW.out], (((((HB0.out.trans (HW1.out.mono (by omega))).setCell (p := ⟨w.heap.size, 0, none⟩) (Nat.le_refl _) _).setCell (p := ⟨w.heap.size, 1, none⟩) (Nat.le_refl _) _).setCell (p := ⟨w.heap.size, 2, none⟩) (Nat.le_refl _) _).setCell (p := ⟨w.heap.size, 3, none⟩) (Nat.le_refl _) _).setCell (p := ⟨w.heap.size, 4, none⟩) (Nat.le_refl _) _⟩
    · obtain rfl : k = vs.length := by omega
      rw [List.take_length] at hown HSC ⊢
      have hxl : (numsV vs).length ≤ 8000 := Nat.le_trans (numsV_len _) hl
      have HXB := Lib.hid (numsV_bnd HF.out)
      have HXN := Lib.hid (numsV_num HF.out)
      have r1 := hb.row R0.out (by omega)
      have hbw : Below w.heap.size w wr := HB0.out.trans (hb.mono (by omega))
      by_cases hx0 : numsV vs = []
      · have HW : Hid (ofV vs = .tuple #[trendT 0 0 0 0 0, .int .i64 5]) := by
          simp only [Hid, ofV, HSC.out]
          simp [hx0]
        obtain ⟨d0, d1, d2, d3, d4⟩ := cells5 r1
        have f0 := row_froz r1 0
        have f1 := row_froz r1 1
        have f2 := row_froz r1 2
        have f3 := row_froz r1 3
        have f4 := row_froz r1 4
        have HBW := Lib.hid hbw
        rw [hx0]
        clear r1 hbw hown hb hx0
        go_wp2_with fail
        exact bodyPost_ret (v := .tuple #[trendT 0 0 0 0 0, .int .i64 5]) (by simp [results, Try.results11, go_sem, trendT, d0, d1, d2, d3, d4, f0, f1, f2, f3, f4]) rfl
          ⟨by rw [HW.out], ((((HBW.out.setCell (p := ⟨w.heap.size, 0, none⟩) (Nat.le_refl _) _).setCell (p := ⟨w.heap.size, 1, none⟩) (Nat.le_refl _) _).setCell (p := ⟨w.heap.size, 2, none⟩) (Nat.le_refl _) _).setCell (p := ⟨w.heap.size, 3, none⟩) (Nat.le_refl _) _).setCell (p := ⟨w.heap.size, 4, none⟩) (Nat.le_refl _) _⟩
      · have HW : Hid (ofV vs = .tuple #[trendT (numsV vs).length (meanV (numsV vs)) (varV (numsV vs)) (leastV (numsV vs)) (mostV (numsV vs)), .int .i64 0]) := by
          simp only [Hid, ofV, HSC.out]
          simp [hx0]
        generalize numsV vs = xs at *
        have hx1 : 1 ≤ xs.length := List.length_pos_iff.2 hx0
        have hown0 := hown
        rw [show xs.length = xs.length - 1 + 1 by omega] at hown
        obtain ⟨g, cap', hge⟩ := slice_form hown
        rw [show xs.length - 1 + 1 = xs.length by omega] at hge
        rw [hge] at hown0 ⊢
        clear hown hge cap ao
        have hh := HasF.of_own hown0
        have hc0 := hh 0 hx1
        have hne : ((xs.length : Int) == 0) = false := beq_eq_false_iff_ne.2 (by omega)
        have hx1' : (0 : Int) < (xs.length : Int) := by omega
        obtain ⟨x0, hx0'⟩ : ∃ x0, xs.getD 0 0 = x0 := ⟨_, rfl⟩
        rw [hx0'] at hc0
        have hS : wr.drew.cell? ⟨g, 0, none⟩ = some (.float .f64 x0) ∧ HasF wr.drew g xs ∧ Below (w.heap.size + 1) W0 wr.drew := ⟨hc0, fun j hj => hh j hj, hb.drew⟩
        have hS0 : wr.cell? ⟨g, 0, none⟩ = some (.float .f64 x0) ∧ HasF wr g xs ∧ Below (w.heap.size + 1) W0 wr := ⟨hc0, hh, hb⟩
        have R1 := Lib.hid r1
        clear hb r1 hh HSC hown0 hbw hc0
        have hx2 : 0 < xs.length := by omega
        go_wp2_with fail
        go_region_held3 (fun w' => w'.cell? ⟨g, 0, none⟩ = some (.float .f64 x0) ∧ HasF w' g xs ∧ Below (w.heap.size + 1) W0 w') (first | exact hS | assumption | exact keepM (by assumption) ((Below.refl _ _).alloc (Nat.le_refl _) _) hs0 | exact keepM hS0 (((Below.refl _ _).alloc (Nat.le_refl _) _).drew) hs0) (first | (go_at_call 21; refine (mean21 g cap' xs _ (by assumption : _ ∧ HasF _ g xs ∧ _).2.1 HXB.out hx1 hxl).mono ?_; rintro e w2 ⟨rfl, rfl⟩))
        all_goals
          go_wp2_with fail
          have hSX : (wr.alloc (.cells #[.int .i64 (xs.length : Int), .float .f64 (meanV xs), .float .f64 0, .float .f64 x0, .float .f64 x0] 27)).drew.cell? ⟨g, 0, none⟩ = some (.float .f64 x0) ∧ HasF (wr.alloc (.cells #[.int .i64 (xs.length : Int), .float .f64 (meanV xs), .float .f64 0, .float .f64 x0, .float .f64 x0] 27)).drew g xs ∧ Below (w.heap.size + 1) W0 (wr.alloc (.cells #[.int .i64 (xs.length : Int), .float .f64 (meanV xs), .float .f64 0, .float .f64 x0, .float .f64 x0] 27)).drew := keepM hS0 (((Below.refl _ _).alloc (Nat.le_refl _) _).drew) hs0
          have hTX : (wr.alloc (.cells #[.int .i64 (xs.length : Int), .float .f64 (meanV xs), .float .f64 0, .float .f64 x0, .float .f64 x0] 27)).drew.heap[wr.heap.size]? = some (.cells #[.int .i64 (xs.length : Int), .float .f64 (meanV xs), .float .f64 0, .float .f64 x0, .float .f64 x0] 27 (0, 0)) := heap_alloc_new wr _
          obtain ⟨X, hX⟩ : ∃ X, (wr.alloc (.cells #[.int .i64 (xs.length : Int), .float .f64 (meanV xs), .float .f64 0, .float .f64 x0, .float .f64 x0] 27)).drew = X := ⟨_, rfl⟩
          rw [hX] at hSX hTX ⊢
          clear hX
          have hgT : g < wr.heap.size := World.block_lt_of_cell? wr _ hS0.1
          have hwT : w.heap.size + 1 ≤ wr.heap.size := by have := hS0.2.2.size; omega
          obtain ⟨T, hT⟩ : ∃ T, wr.heap.size = T := ⟨_, rfl⟩
          rw [hT] at hTX hgT hwT ⊢
          have HSX := Lib.hid hSX
          have HM := Lib.hid (mean_bd xs HXB.out hx1 hxl)
          have hm0 : Num x0 := HXN.out x0 (hx0' ▸ getD_mem hx1)
          have HP := Lib.hid (prods_bd HXB.out HXB.out HM.out.2 HM.out.2)
          have hpl := prods_len (xs := xs) (ys := xs) (mx := meanV xs) (my := meanV xs) rfl
          have HM0 := Lib.hid hm0
          clear hm0
          clear hSX hS hS0 hT
          go_loopw [11, 55] (fun s i W => ∃ k : Nat, k ≤ xs.length ∧ i = .int .i64 k ∧ s = .float .f64 (sumV ((prodsV (meanV xs) (meanV xs) xs xs).take k)) ∧ W.heap[T]? = some (.cells #[.int .i64 (xs.length : Int), .float .f64 (meanV xs), .float .f64 0, .float .f64 ((xs.take k).foldl fmin x0), .float .f64 ((xs.take k).foldl fmax x0)] 27 (0, 0)) ∧ Below T X W) (fun _ i _ => xs.length - (intOf i).toNat)
          case atStart => exact ⟨0, Nat.zero_le _, rfl, rfl, hTX, Below.refl _ _⟩
          case round =>
            obtain ⟨k, hk, rfl, rfl, hrow, hbT⟩ := hrel
            obtain ⟨d0, d1, d2, d3, d4⟩ := cells5 hrow
            have f2 := row_froz hrow 2
            have f3 := row_froz hrow 3
            have f4 := row_froz hrow 4
            have sT := (Array.getElem?_eq_some_iff.1 hrow).1
            by_cases hlt : k < xs.length
            · have hkp : k < (prodsV (meanV xs) (meanV xs) xs xs).length := by omega
              have hc := (hbT.cell (p := ⟨g, k, none⟩) hgT).trans (HSX.out.2.1 k hlt)
              rw [show xs.getD k 0 = xs[k] by simp [hlt]] at hc
              have hnx := HXN.out _ (List.getElem_mem hlt)
              have hnum := num_foldl (l := xs.take k) HM0.out (fun x hx => HXN.out x (List.mem_of_mem_take hx))
              have q := fun (t : TypeId) (w : World) => run_float_arith (P := Try.prog) w .add t .f64 _ _ _ (sum_step (by omega) (by omega) HP.out hkp (by omega))
              rw [prods_get hlt hlt hkp] at q
              have dd := diff_bd (HXB.out _ (List.getElem_mem hlt)) HM.out.2
              have q1 := fun (t : TypeId) (w : World) => run_float_arith (P := Try.prog) w .sub t .f64 _ _ _ dd.1
              have q3 := fun (t : TypeId) (w : World) => run_float_arith (P := Try.prog) w .mul t .f64 _ _ _ (prod_bd dd.2 dd.2).1
              have q4 := fun (ts : Array TypeId) (t : TypeId) (w : World) => run_min (w := w) (P := Try.prog) (ts := ts) (t := t) hnum.1 hnx
              have q5 := fun (ts : Array TypeId) (t : TypeId) (w : World) => run_max (w := w) (P := Try.prog) (ts := ts) (t := t) hnum.2 hnx
              have e4 := foldl_take fmin xs x0 hlt
              have e5 := foldl_take fmax xs x0 hlt
              have hrow2 := row_set (row_set hrow 3 (.float .f64 ((xs.take (k + 1)).foldl fmin x0))) 4 (.float .f64 ((xs.take (k + 1)).foldl fmax x0))
              have hb2 := (hbT.setCell (p := ⟨T, 3, none⟩) (Nat.le_refl _) (.float .f64 ((xs.take (k + 1)).foldl fmin x0))).setCell (p := ⟨T, 4, none⟩) (Nat.le_refl _) (.float .f64 ((xs.take (k + 1)).foldl fmax x0))
              have HR := Lib.hid (And.intro hrow2 hb2)
              rw [← e4] at q4
              rw [← e5] at q5
              clear dd hnum hnx hkp hrow hbT hrow2 hb2 e4 e5
              go_wp2_with fail
              go_roundw
              case rel => exact ⟨k + 1, by omega, by go_num, rfl, HR.out.1, HR.out.2⟩
              case measure => simp [intOf]; omega
            · obtain rfl : k = xs.length := by omega
              have e1 : (prodsV (meanV xs) (meanV xs) xs xs).take xs.length = prodsV (meanV xs) (meanV xs) xs xs := List.take_of_length_le (by omega)
              rw [List.take_length] at d3 d4
              have q := fun (t : TypeId) (w : World) => run_float_arith (P := Try.prog) w .quo t .f64 _ _ _ (var_bd xs HXB.out hx1 hxl).1
              have hbW : Below (w.heap.size + 1) W0 wr := HSX.out.2.2.trans (hbT.mono hwT)
              have rr := hbW.row R0.out (by omega)
              obtain ⟨c0, c1, c2, c3, c4⟩ := cells5 rr
              have g0 := row_froz rr 0
              have g1 := row_froz rr 1
              have g2 := row_froz rr 2
              have g3 := row_froz rr 3
              have g4 := row_froz rr 4
              have hne : w.heap.size ≠ T := by omega
              have sR := (Array.getElem?_eq_some_iff.1 rr).1
              have HBW := Lib.hid (HB0.out.trans (hbW.mono (by omega)))
              rw [e1]
              have hlm : leastV xs = xs.foldl fmin x0 := by rw [leastV, hx0']
              have hmm : mostV xs = xs.foldl fmax x0 := by rw [mostV, hx0']
              rw [← hlm] at d3
              rw [← hmm] at d4
              have q' : ∀ (t : TypeId) (w : World), (binOp .quo t (.float .f64 (sumV (prodsV (meanV xs) (meanV xs) xs xs))) (.float .f64 (floatOfInt .f64 (xs.length : Int)))).run Try.prog w = .ok (.float .f64 (varV xs)) w := q
              clear q rr hbW hrow hbT e1 hpl hTX hlm hmm
              go_wp2_with fail
              exact bodyPost_ret (v := .tuple #[trendT xs.length (meanV xs) (varV xs) (leastV xs) (mostV xs), .int .i64 0]) (by simp [results, Try.results11, go_sem, trendT, c0, c1, c2, c3, c4, g0, g1, g2, g3, g4, hne]) rfl
                ⟨by rw [HW.out], (((((HBW.out.setCell (p := ⟨T, 2, none⟩) (by simp; omega) _).setCell (p := ⟨w.heap.size, 0, none⟩) (Nat.le_refl _) _).setCell (p := ⟨w.heap.size, 1, none⟩) (Nat.le_refl _) _).setCell (p := ⟨w.heap.size, 2, none⟩) (Nat.le_refl _) _).setCell (p := ⟨w.heap.size, 3, none⟩) (Nat.le_refl _) _).setCell (p := ⟨w.heap.size, 4, none⟩) (Nat.le_refl _) _⟩
end Go.Proofs.Ytcgkolaljgpphaa
