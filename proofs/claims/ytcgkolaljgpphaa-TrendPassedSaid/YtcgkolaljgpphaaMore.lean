/- What is no number is passed over; the first error is told: of lists, and of an append of any list. -/
import Derived.Test.YtcgkolaljgpphaaSmall
import Derived.Test.YtcgkolaljgpphaaAll
import Derived.Laws.OwnMore
namespace Go.Proofs.Ytcgkolaljgpphaa
set_option linter.unusedVariables false
set_option linter.unusedSimpArgs false
open Go.RowKit

def more1 (x : Int) : List Val := [⟨0, 0, ⟨#[]⟩⟩, ⟨1, x, ⟨#[]⟩⟩, ⟨3, 0, ⟨#[55]⟩⟩, ⟨2, 1, ⟨#[]⟩⟩]
/-- Blanks, texts and truths among the numbers. -/
def moreV (l : List Int) : List Val := l.flatMap more1
def errV (c : Int) : Val := ⟨4, c, ⟨#[]⟩⟩
theorem moreV_len (l : List Int) : (moreV l).length = 4 * l.length := by
  induction l with
  | nil => rfl
  | cons x l ih =>
    show (more1 x ++ moreV l).length = _
    rw [List.length_append, ih]
    simp [more1]
    omega
theorem moreV_snoc (l : List Int) (x : Int) : moreV (l ++ [x]) = moreV l ++ more1 x := by simp [moreV]
theorem wrong_kind {k n : Int} {s : ByteArray} (h : k ≠ 4) : wrongV k n s = 0 := by simp [wrongV, h]
theorem scan_more (l : List Int) : scan (moreV l) = 0 := by
  induction l with
  | nil => rfl
  | cons x l ih =>
    show scan (more1 x ++ moreV l) = 0
    rw [scan_app, ih]
    have : scan (more1 x) = 0 := by
      simp only [more1, scan]
      rw [wrong_kind (by decide), wrong_kind (by decide), wrong_kind (by decide), wrong_kind (by decide)]
      simp
    rw [this]; simp
theorem scan_num (l : List Int) : scan (numVals l) = 0 := by
  induction l with
  | nil => rfl
  | cons x l ih =>
    show scan (⟨1, x, ⟨#[]⟩⟩ :: numVals l) = 0
    simp only [scan]
    rw [wrong_kind (by decide), ih]
    simp
theorem nums_one (x : Int) : numsV (more1 x) = [floatOfInt .f64 x] := by
  simp only [more1, numsV]
  rw [show numB 0 ⟨#[]⟩ = false from rfl, show numB 1 ⟨#[]⟩ = true from by decide +kernel, show numB 3 ⟨#[55]⟩ = false from rfl, show numB 2 ⟨#[]⟩ = false from rfl]
  simp
theorem nums_more (l : List Int) : numsV (moreV l) = numsV (numVals l) := by
  induction l with
  | nil => rfl
  | cons x l ih =>
    show numsV (more1 x ++ moreV l) = numsV (⟨1, x, ⟨#[]⟩⟩ :: numVals l)
    rw [numsV_app, nums_one, ih]
    simp only [numsV]
    rw [show numB 1 ⟨#[]⟩ = true from by decide +kernel]
    simp
theorem of_more (l : List Int) : ofV (moreV l) = ofV (numVals l) := by
  simp only [ofV, scan_more, scan_num, nums_more]
theorem scan_take {vs : List Val} (h : scan vs = 0) (k : Nat) : scan (vs.take k) = 0 := by
  rw [← List.take_append_drop k vs, scan_app] at h
  by_cases h0 : scan (vs.take k) = 0
  · exact h0
  · rw [if_pos h0] at h; exact h
theorem of_bad (l : List Int) (k : Nat) (c d : Int) (h : 1 ≤ c ∧ c ≤ 6) : ofV ((moreV l).take k ++ [errV c] ++ (moreV l).drop k ++ [errV d]) = .tuple #[trendT 0 0 0 0 0, .int .i64 c] := by
  have hw : wrongV 4 c ⟨#[]⟩ = c := by simp [wrongV, h.1, h.2]
  have : scan ((moreV l).take k ++ [errV c] ++ (moreV l).drop k ++ [errV d]) = c := by
    rw [List.append_assoc, List.append_assoc, scan_app, scan_take (scan_more l), List.singleton_append]
    simp only [errV, scan, hw]
    rw [if_neg (by simp), if_pos (by omega)]
  simp only [ofV, this]
  rw [if_pos (by omega)]
theorem more_fits {l : List Int} (h : ∀ x ∈ l, -9223372036854775808 ≤ x ∧ x ≤ 9223372036854775807) : ∀ v ∈ moreV l, v.fits := fun v hv => by
  obtain ⟨x, hx, hv⟩ := List.mem_flatMap.1 hv
  have := h x hx
  simp only [more1, List.mem_cons, List.not_mem_nil, or_false] at hv
  rcases hv with rfl | rfl | rfl | rfl
  · exact ⟨⟨by decide, by decide⟩, ⟨by decide, by decide⟩, by show (0 : Nat) ≤ 140737488351232; omega⟩
  · exact ⟨⟨by show (-9223372036854775808 : Int) ≤ 1; decide, by show (1 : Int) ≤ 9223372036854775807; decide⟩, this, by show (0 : Nat) ≤ 140737488351232; omega⟩
  · exact ⟨⟨by decide, by decide⟩, ⟨by decide, by decide⟩, by show (1 : Nat) ≤ 140737488351232; omega⟩
  · exact ⟨⟨by decide, by decide⟩, ⟨by decide, by decide⟩, by show (0 : Nat) ≤ 140737488351232; omega⟩
theorem err_fits {c : Int} (h : 0 ≤ c ∧ c ≤ 6) : (errV c).fits := ⟨⟨by show (-9223372036854775808 : Int) ≤ 4; decide, by show (4 : Int) ≤ 9223372036854775807; decide⟩, ⟨by show -9223372036854775808 ≤ c; omega, by show c ≤ 9223372036854775807; omega⟩, by show (0 : Nat) ≤ 140737488351232; omega⟩

/-- Of, of a list of the call's own. -/
theorem of_row (B n : Nat) (v : Value) (vs : List Val) (w : World) (hv : w.ownsRow B 44 3 v n (cellsV vs)) (hn : vs.length = n) (hl : n ≤ 8000) (hf : ∀ v ∈ vs, v.fits) :
    Calls Try.prog 11 #[v] w fun e w' => e = .returned (ofV vs) ∧ Below w.heap.size w w' := by
  obtain ⟨ao, cap, rfl⟩ := row_any hv
  have hA : ValsAt w ao vs := by
    by_cases h0 : n = 0
    · intro i hi; omega
    · rw [show n = n - 1 + 1 by omega] at hv
      obtain ⟨g, c, e⟩ := slice_form hv
      rw [show n - 1 + 1 = n by omega] at hv e
      cases e
      exact ValsAt.of_own hv hn
  have := of11 ao cap vs w hA hf (by omega)
  rwa [hn] at this
theorem row_cases {w : World} {base : Nat} {e : TypeId} {size n : Nat} {v : Value} {xs : List Value} (h : w.ownsRow base e size v n xs) : (v = .slice none 0 0 ∧ n = 0) ∨ ∃ g cap, n ≤ cap ∧ v = .slice (some ⟨g, 0, none⟩) n cap := by
  rcases h.2 with ⟨rfl, rfl⟩ | ⟨g, cap, cur, rfl, _, _, hnc, _⟩
  · exact .inl ⟨rfl, rfl⟩
  · exact .inr ⟨g, cap, hnc, rfl⟩

section
variable {P : Program} (w : World)
theorem run_append_any (base : Nat) (t ty e : TypeId) (i : TypeInfo) (z : Value) (size bytes : Nat) (ht : P.underlying t = some (.slice e)) (hi : P.info? e = some i) (hz : i.zero = some z)
    (hsize : i.size = size) (hby : i.bytes = bytes) (hzs : z.cells.size = size) (hsz : 0 < size) (v : Value) (n : Nat) (xs : List Value) (hown : w.ownsRow base e size v n xs)
    (A : Option Addr) (m c : Nat) (news : List Value) (hA : A = none → m = 0 ∧ c = 0) (hl : news.length = m * size) (hnews : ∀ ad, A = some ad → ∀ j u, news[j]? = some u → w.cell? (ad.add j) = some u) (h1 : ∀ u ∈ news, u.oneCell' = true)
    (h63 : n + m ≤ maxLen) (hbytes : (n + m) * bytes ≤ 140737488355328) (hbase : base ≤ w.heap.size) :
    ∃ v' w', (Builtin.append_ #[t, t] ty #[v, .slice A m c]).run P w = .ok v' w' ∧ w'.ownsRow base e size v' (n + m) (xs ++ news) ∧ w.grownBy w' v.ownBlock := by
  cases A with
  | none =>
    obtain ⟨rfl, rfl⟩ := hA rfl
    have hn : news = [] := List.length_eq_zero_iff.1 (by simpa using hl)
    subst hn
    refine ⟨v, w, run_append_owned_none (P := P) (w := w) base t ty e i size ht hi v n xs hown, by simpa using hown, ?_⟩
    exact ⟨rfl, rfl, rfl, Nat.le_refl _, fun k _ _ => rfl⟩
  | some ad =>
    obtain ⟨v', w', hr, h2, h3, _⟩ := run_append_own (P := P) w base t ty e i z size bytes ht hi hz hsize hby hzs hsz v n xs hown ad m c news hl (hnews ad rfl) h1 h63 hbytes hbase
    exact ⟨v', w', hr, h2, h3⟩
theorem wp_append_any {w : World} {o : Oper} {a : Act} {K : Act → World → Prop} {Q : Exit → Act → World → Prop} (s x : Operand) (t : TypeId)
    (ho : o.op = .call { callee := .builtin .append, args := #[s, x], argTypes := #[t, t] })
    (base : Nat) (e : TypeId) (i : TypeInfo) (z : Value) (size bytes : Nat) (ht : P.underlying t = some (.slice e)) (hi : P.info? e = some i) (hz : i.zero = some z)
    (hsize : i.size = size) (hby : i.bytes = bytes) (hzs : z.cells.size = size) (hsz : 0 < size)
    (v : Value) (n : Nat) (xs : List Value) (hs : a.eval s = v) (hown : w.ownsRow base e size v n xs)
    (A : Option Addr) (m c : Nat) (news : List Value) (hx : a.eval x = .slice A m c) (hA : A = none → m = 0 ∧ c = 0) (hl : news.length = m * size) (hnews : ∀ ad, A = some ad → ∀ j u, news[j]? = some u → w.cell? (ad.add j) = some u) (h1 : ∀ u ∈ news, u.oneCell' = true)
    (h63 : n + m ≤ maxLen) (hbytes : (n + m) * bytes ≤ 140737488355328) (hbase : base ≤ w.heap.size)
    (h : ∀ v' w', w'.ownsRow base e size v' (n + m) (xs ++ news) → w.grownBy w' v.ownBlock → K (a.put o.dst v') w') : o.wp P a w K Q := by
  obtain ⟨v', w', hr, h2, h3⟩ := run_append_any (P := P) w base t o.type e i z size bytes ht hi hz hsize hby hzs hsz v n xs hown A m c news hA hl hnews h1 h63 hbytes hbase
  unfold Oper.wp execOp
  simp only [ho, resolve, invoke, builtin, Sem.run_bind, Sem.run_pure, Result.andThen_ok, List.map_toArray, List.map_cons, List.map_nil, hs, hx, hr]
  exact h v' w' h2 h3
/-- At a step of a region that draws its order. -/
theorem step_append_any {w : World} {ops : Array Oper} {o : Oper} {a : Act} {K : Act → World → Prop} {Q : Exit → Act → World → Prop} {E : Prop} (hgd : o.guard = none) (s x : Operand) (t : TypeId)
    (ho : o.op = .call { callee := .builtin .append, args := #[s, x], argTypes := #[t, t] })
    (base : Nat) (e : TypeId) (i : TypeInfo) (z : Value) (size bytes : Nat) (ht : P.underlying t = some (.slice e)) (hi : P.info? e = some i) (hz : i.zero = some z)
    (hsize : i.size = size) (hby : i.bytes = bytes) (hzs : z.cells.size = size) (hsz : 0 < size)
    (v : Value) (n : Nat) (xs : List Value) (hs : a.eval s = v) (hown : w.ownsRow base e size v n xs)
    (A : Option Addr) (m c : Nat) (news : List Value) (hx : a.eval x = .slice A m c) (hA : A = none → m = 0 ∧ c = 0) (hl : news.length = m * size) (hnews : ∀ ad, A = some ad → ∀ j u, news[j]? = some u → w.cell? (ad.add j) = some u) (h1 : ∀ u ∈ news, u.oneCell' = true)
    (h63 : n + m ≤ maxLen) (hbytes : (n + m) * bytes ≤ 140737488355328) (hbase : base ≤ w.heap.size)
    (h : ∀ v' w', w'.ownsRow base e size v' (n + m) (xs ++ news) → w.grownBy w' v.ownBlock → K (a.put o.dst v') w') :
    if Region.wanted o (yielded ops a.tmps) = true then Oper.wp P o a w K Q else E := by
  have hw : Region.wanted o (yielded ops a.tmps) = true := by simp [Region.wanted, hgd]
  rw [if_pos hw]
  exact wp_append_any s x t ho base e i z size bytes ht hi hz hsize hby hzs hsz v n xs hs hown A m c news hx hA hl hnews h1 h63 hbytes hbase h
end
/-- The cells of a part of a list. -/
theorem own_cells {w : World} {B g cap n : Nat} {xs : List Value} {e : TypeId} {size : Nat} (h : w.ownsRow B e size (.slice (some ⟨g, 0, none⟩) n cap) n xs) : ∀ j u, xs[j]? = some u → w.cell? ⟨g, j, none⟩ = some u := fun j u hu => by
  have hj := (List.getElem?_eq_some_iff.1 hu).1
  rw [h.cellAt j (by have := h.1; omega), hu]
theorem cellsV_take (vs : List Val) (k : Nat) (j : Nat) (u : Value) (h : (cellsV (vs.take k))[j]? = some u) : (cellsV vs)[j]? = some u := by
  have e : cellsV vs = cellsV (vs.take k) ++ cellsV (vs.drop k) := by simp only [cellsV]; rw [← List.flatMap_append, List.take_append_drop]
  rw [e, List.getElem?_append_left (List.getElem?_eq_some_iff.1 h).1]
  exact h
theorem cellsV_drop (vs : List Val) (k : Nat) (hk : k ≤ vs.length) (j : Nat) (u : Value) (h : (cellsV (vs.drop k))[j]? = some u) : (cellsV vs)[k * 3 + j]? = some u := by
  have e : cellsV vs = cellsV (vs.take k) ++ cellsV (vs.drop k) := by simp only [cellsV]; rw [← List.flatMap_append, List.take_append_drop]
  rw [e, List.getElem?_append_right (by rw [cellsV_len]; simp; omega), cellsV_len, List.length_take, Nat.min_eq_left hk]
  rw [show k * 3 + j - k * 3 = j by omega]
  exact h
/-- What an append finds at a slice. -/
def Src (W : World) (A : Option Addr) (vs : List Val) : Prop := ∀ ad, A = some ad → ∀ j u, (cellsV vs)[j]? = some u → W.cell? (ad.add j) = some u
theorem src_take {W : World} {B g cap M : Nat} {vs : List Val} (h : W.ownsRow B 44 3 (.slice (some ⟨g, 0, none⟩) M cap) M (cellsV vs)) (K : Nat) : Src W (some ⟨g, 0, none⟩) (vs.take K) := by
  rintro ad had j u hu
  cases had
  rw [Addr.add_lit, Nat.zero_add]
  exact own_cells h j u (cellsV_take vs K j u hu)
theorem src_drop {W : World} {B g cap M : Nat} {vs : List Val} (h : W.ownsRow B 44 3 (.slice (some ⟨g, 0, none⟩) M cap) M (cellsV vs)) (K : Nat) (hk : K ≤ vs.length) : Src W (some ⟨g, K * 3, none⟩) (vs.drop K) := by
  rintro ad had j u hu
  cases had
  rw [Addr.add_lit]
  exact own_cells h _ u (cellsV_drop vs K hk j u hu)
theorem src_none (W : World) (vs : List Val) : Src W none vs := fun ad h => by cases h
theorem src_nil (W : World) (A : Option Addr) (vs : List Val) (h : vs = []) : Src W A vs := fun ad _ j u hu => by subst h; simp [cellsV] at hu
theorem src_box {W : World} {H : Nat} {v : Val} {t : TypeId} {f : Nat × Nat} (h : W.heap[H]? = some (.cells #[.int .i64 v.k, .int .i64 v.n, .string v.s] t f)) : Src W (some ⟨H, 0, none⟩) [v] := by
  rintro ad had j u hu
  cases had
  rw [Addr.add_lit, Nat.zero_add, cell_of_row _ _ _ _ _ _ h]
  have hj := (List.getElem?_eq_some_iff.1 hu).1
  simp [cellsV] at hj
  rcases (by omega : j = 0 ∨ j = 1 ∨ j = 2) with rfl | rfl | rfl <;> exact hu
theorem cellsV_app (a b : List Val) : cellsV (a ++ b) = cellsV a ++ cellsV b := by simp [cellsV]
end Go.Proofs.Ytcgkolaljgpphaa
