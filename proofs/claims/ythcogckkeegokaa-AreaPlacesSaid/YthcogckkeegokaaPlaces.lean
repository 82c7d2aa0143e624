/- AreaPlaces: the walk: two goings over the places, and one within. -/
import Derived.Test.YthcogckkeegokaaAt
namespace Go.Proofs.Ythcogckkeegokaa
set_option linter.unusedVariables false
set_option linter.unusedSimpArgs false
open Go.RowKit Go.Shelf

attribute [local go_sem] Oper.semAt_some

@[local go_sem] theorem run_store_func' {P : Program} {w : World} {a : Addr} {m : Mode} (f : Fn) (x y : Array Value) : (store a (.func f x y) m).run P w = stored P w a (.func f x y) m := run_store P w a _ m rfl

theorem places_count (t l b r : Int) : placesV t l b r = (count t l b r : Int) := by
  unfold placesV count
  cases ha : areaB t l b r
  · simp
  · obtain ⟨h1, h2, h3, h4, h5, h6⟩ := areaB_bd ha
    simp only [if_pos]
    rw [Int.natCast_mul, Int.toNat_of_nonneg (by omega), Int.toNat_of_nonneg (by omega)]
theorem count_le (t l b r : Int) : count t l b r ≤ 46006272 := by
  have h := places_count t l b r
  unfold placesV at h
  cases ha : areaB t l b r
  · rw [ha] at h; simp at h; omega
  · rw [ha] at h
    obtain ⟨h1, h2⟩ := area_prod ha
    simp only [if_pos] at h
    omega
theorem count_pos {t l b r : Int} (h : 0 < count t l b r) : areaB t l b r = true := by
  cases ha : areaB t l b r
  · simp [count, ha] at h
  · rfl
theorem areaB_m {t l b r : Int} (h : areaB t l b r = true) : r - l + 1 = ((r - l + 1).toNat : Int) := by
  obtain ⟨h1, h2, h3, h4, h5, h6⟩ := areaB_bd h
  omega

/-- What lies still while the places are gone over. -/
structure Base (w : World) (A S I0 R IB AL NB : Nat) (t l b r stop within n : Int) (W : World) : Prop where
  fa : RowAt W A #[.int .i64 t, .int .i64 l, .int .i64 b, .int .i64 r] 23
  fs : Boxed W S 3 (.int .i64 stop)
  fi : Boxed W I0 3 (.int .i64 within)
  fr : Boxed W R 4 (.bool false)
  fc : RowAt W IB #[.int .i64 t, .int .i64 l, .int .i64 b, .int .i64 r] 23
  fl : Boxed W AL 26 (.func (.func 20) #[] #[.pointer (some ⟨IB, 0, none⟩)])
  fn : Boxed W NB 3 (.int .i64 n)
  fb : Below w.heap.size w W

section
variable {w : World} {A S I0 R IB AL NB : Nat} {t l b r stop within n : Int} {W W' : World}
theorem Base.own {β : Type} (B : Nat) (hB : w.heap.size ≤ B) : OwnFrom B (fun (_ : β) W => Base w A S I0 R IB AL NB t l b r stop within n W) := fun s X Y row hs hg hr => by
  have hr' := fun r e => (hr r e).2
  exact ⟨rowAt_own A (fun _ => #[.int .i64 t, .int .i64 l, .int .i64 b, .int .i64 r]) 23 () X Y row hs.fa hg hr', boxed_own S 3 (fun _ => .int .i64 stop) () X Y row hs.fs hg hr', boxed_own I0 3 (fun _ => .int .i64 within) () X Y row hs.fi hg hr', boxed_own R 4 (fun _ => .bool false) () X Y row hs.fr hg hr',
    rowAt_own IB (fun _ => #[.int .i64 t, .int .i64 l, .int .i64 b, .int .i64 r]) 23 () X Y row hs.fc hg hr', boxed_own AL 26 (fun _ => .func (.func 20) #[] #[.pointer (some ⟨IB, 0, none⟩)]) () X Y row hs.fl hg hr', boxed_own NB 3 (fun _ => .int .i64 n) () X Y row hs.fn hg hr', ownFrom_below (Nat.le_refl _) hB () X Y row hs.fb hg hr⟩
theorem Base.alloc (h : Base w A S I0 R IB AL NB t l b r stop within n W) (o : Obj) : Base w A S I0 R IB AL NB t l b r stop within n (W.alloc o) :=
  ⟨h.fa.alloc o, h.fs.alloc o, h.fi.alloc o, h.fr.alloc o, h.fc.alloc o, h.fl.alloc o, h.fn.alloc o, h.fb.alloc h.fb.size o⟩
theorem Base.below (h : Base w A S I0 R IB AL NB t l b r stop within n W) (hb : Below W.heap.size W W') : Base w A S I0 R IB AL NB t l b r stop within n W' :=
  ⟨hb.row h.fa h.fa.lt, hb.row h.fs h.fs.lt, hb.row h.fi h.fi.lt, hb.row h.fr h.fr.lt, hb.row h.fc h.fc.lt, hb.row h.fl h.fl.lt, hb.row h.fn h.fn.lt, h.fb.trans (hb.mono h.fb.size)⟩
/-- All these blocks lie at NB or below it. -/
def Ord (w : World) (A S I0 R IB AL NB : Nat) : Prop := A ≤ NB ∧ S ≤ NB ∧ I0 ≤ NB ∧ R ≤ NB ∧ IB ≤ NB ∧ AL ≤ NB ∧ w.heap.size ≤ NB
theorem Base.set (h : Base w A S I0 R IB AL NB t l b r stop within n W) (ho : Ord w A S I0 R IB AL NB) {B : Nat} (hB : NB < B) (u : Value) : Base w A S I0 R IB AL NB t l b r stop within n (W.setCell ⟨B, 0, none⟩ u) := by
  obtain ⟨o1, o2, o3, o4, o5, o6, o7⟩ := ho
  exact ⟨h.fa.other (by omega) u, h.fs.other (by omega) u, h.fi.other (by omega) u, h.fr.other (by omega) u, h.fc.other (by omega) u, h.fl.other (by omega) u, h.fn.other (by omega) u, h.fb.setCell (p := ⟨B, 0, none⟩) (by simp; omega) u⟩
end

/-- The blocks of deferred calls: nothing is in them. -/
def Defs (Ds : List Nat) (W : World) : Prop := ∀ D ∈ Ds, W.heap[D]? = some (.deferred (some []))
theorem Defs.lt {Ds : List Nat} {W : World} (h : Defs Ds W) : ∀ D ∈ Ds, D < W.heap.size := fun D hD => (Array.getElem?_eq_some_iff.1 (h D hD)).1
theorem Defs.own {β : Type} {Ds : List Nat} {B : Nat} (hB : ∀ D ∈ Ds, D < B) : OwnFrom B (fun (_ : β) W => Defs Ds W) := fun s X Y row hs hg hr D hD =>
  (hg.block D (hs.lt D hD) (fun e => by have := (hr D e.symm).1; have := hB D hD; omega)).trans (hs D hD)
theorem Defs.others {Ds : List Nat} {W W' : World} (h : Defs Ds W) (k : KeepsOthers W W') : Defs Ds W' := fun D hD => k.same D _ (h D hD) rfl
theorem others_below {W W' : World} (h : Below W.heap.size W W') : KeepsOthers W W' := ⟨h.size, fun k o hk _ => h.row hk (Array.getElem?_eq_some_iff.1 hk).1⟩
theorem Defs.cons {Ds : List Nat} {W : World} {D : Nat} (h : W.heap[D]? = some (.deferred (some []))) (k : Defs Ds W) : Defs (D :: Ds) W := by
  intro E hE
  rcases List.mem_cons.1 hE with rfl | hE
  · exact h
  · exact k E hE

theorem OwnFrom.or {β : Type} {B : Nat} {I J : β → World → Prop} (h : OwnFrom B I) (k : OwnFrom B J) : OwnFrom B (fun s W => I s W ∨ J s W) := fun s X Y row hs hg hr => hs.elim (fun h' => .inl (h s X Y row h' hg hr)) (fun h' => .inr (k s X Y row h' hg hr))

theorem upto_step' {t l : Int} {m : Nat} {pre : List (Int × Int)} {x : Int × Int} : pre ++ [x] = upto t l m (pre ++ [x]).length ↔ pre = upto t l m pre.length ∧ x = placeAt t l m pre.length := by
  rw [List.length_append, List.length_singleton, upto_succ]
  constructor
  · intro h
    have h2 := List.append_inj' h rfl
    exact ⟨h2.1, by simpa using h2.2⟩
  · rintro ⟨h, h'⟩
    rw [← h, ← h']

/-- Ahead of a going over: k of them are behind, each with a block of deferred calls of its own. -/
def LInv (w : World) (A S I0 R IB AL NB : Nat) (t l b r stop within : Int) (N : Nat) (a' : Act) (W : World) : Prop :=
  ∃ (k PB : Nat) (u10 u16 u25 u26 u27 u28 u29 u72 u73 u74 u75 u76 u77 u78 u79 u80 u81 u82 u83 u84 u85 u86 : Value) (Ds : List Nat), a' = { tmps := #[.agg #[.int .i64 t, .int .i64 l, .int .i64 b, .int .i64 r], .int .i64 stop, .int .i64 within, .pointer (some ⟨A, 0, none⟩), .pointer (some ⟨S, 0, none⟩), .pointer (some ⟨I0, 0, none⟩), .pointer (some ⟨R, 0, none⟩), .pointer (some ⟨AL, 0, none⟩), .pointer (some ⟨NB, 0, none⟩), .pointer (some ⟨PB, 0, none⟩), u10, undef, undef, undef, undef, undef, u16, .bool true, .bool false, .agg #[.int .i64 t, .int .i64 l, .int .i64 b, .int .i64 r], .func (.func 20) #[] #[.pointer (some ⟨IB, 0, none⟩)], .func (.func 20) #[] #[.pointer (some ⟨IB, 0, none⟩)], .bool false, .agg #[.int .i64 t, .int .i64 l, .int .i64 b, .int .i64 r], .int .i64 (N : Int), u25, u26, u27, u28, u29, undef, undef, undef, undef, undef, undef, undef, undef, undef, undef, undef, undef, undef, undef, undef, undef, undef, undef, undef, undef, undef, undef, undef, undef, undef, undef, undef, undef, undef, undef, undef, undef, undef, undef, undef, undef, undef, undef, undef, undef, undef, undef, u72, u73, u74, u75, u76, u77, u78, u79, u80, u81, u82, u83, u84, u85, u86], defers := Ds.map fun D => { target := .collected D, args := #[] } } ∧
      Ds.length = k ∧ k ≤ 2 ∧ NB < PB ∧ Base w A S I0 R IB AL NB t l b r stop within (N : Int) W ∧ Boxed W PB 3 (.int .i64 (k : Int)) ∧ Defs Ds W ∧ (∀ D ∈ Ds, w.heap.size ≤ D) ∧ Ds.Nodup
theorem LInv.of {w : World} {A S I0 R IB AL NB : Nat} {t l b r stop within : Int} {N : Nat} {a' : Act} {W : World} (h : ∃ (k PB : Nat) (u10 u16 u25 u26 u27 u28 u29 u72 u73 u74 u75 u76 u77 u78 u79 u80 u81 u82 u83 u84 u85 u86 : Value) (Ds : List Nat), a' = { tmps := #[.agg #[.int .i64 t, .int .i64 l, .int .i64 b, .int .i64 r], .int .i64 stop, .int .i64 within, .pointer (some ⟨A, 0, none⟩), .pointer (some ⟨S, 0, none⟩), .pointer (some ⟨I0, 0, none⟩), .pointer (some ⟨R, 0, none⟩), .pointer (some ⟨AL, 0, none⟩), .pointer (some ⟨NB, 0, none⟩), .pointer (some ⟨PB, 0, none⟩), u10, undef, undef, undef, undef, undef, u16, .bool true, .bool false, .agg #[.int .i64 t, .int .i64 l, .int .i64 b, .int .i64 r], .func (.func 20) #[] #[.pointer (some ⟨IB, 0, none⟩)], .func (.func 20) #[] #[.pointer (some ⟨IB, 0, none⟩)], .bool false, .agg #[.int .i64 t, .int .i64 l, .int .i64 b, .int .i64 r], .int .i64 (N : Int), u25, u26, u27, u28, u29, undef, undef, undef, undef, undef, undef, undef, undef, undef, undef, undef, undef, undef, undef, undef, undef, undef, undef, undef, undef, undef, undef, undef, undef, undef, undef, undef, undef, undef, undef, undef, undef, undef, undef, undef, undef, undef, undef, undef, undef, undef, undef, u72, u73, u74, u75, u76, u77, u78, u79, u80, u81, u82, u83, u84, u85, u86], defers := Ds.map fun D => { target := .collected D, args := #[] } } ∧
      Ds.length = k ∧ k ≤ 2 ∧ NB < PB ∧ Base w A S I0 R IB AL NB t l b r stop within (N : Int) W ∧ Boxed W PB 3 (.int .i64 (k : Int)) ∧ Defs Ds W ∧ (∀ D ∈ Ds, w.heap.size ≤ D) ∧ Ds.Nodup) : LInv w A S I0 R IB AL NB t l b r stop within N a' W := h

/-- Within a going over: what was gone over, and what lies still. -/
def OInv (w : World) (A S I0 R IB AL NB : Nat) (t l b r stop within : Int) (N k PB IX M : Nat) (Ds : List Nat) (pre : List (Int × Int)) (W' : World) : Prop :=
  ((((pre = upto t l M pre.length ∧ pre.length ≤ 8999 ∧ (k = 0 → stop < 1 ∨ (pre.length : Int) < stop)) ∧ Base w A S I0 R IB AL NB t l b r stop within (N : Int) W') ∧ Boxed W' PB 3 (.int .i64 (k : Int))) ∧ Boxed W' IX 3 (.int .i64 (pre.length : Int))) ∧ Defs Ds W'
theorem OInv.of {w : World} {A S I0 R IB AL NB : Nat} {t l b r stop within : Int} {N k PB IX M : Nat} {Ds : List Nat} {pre : List (Int × Int)} {W' : World} (h : ((((pre = upto t l M pre.length ∧ pre.length ≤ 8999 ∧ (k = 0 → stop < 1 ∨ (pre.length : Int) < stop)) ∧ Base w A S I0 R IB AL NB t l b r stop within (N : Int) W') ∧ Boxed W' PB 3 (.int .i64 (k : Int))) ∧ Boxed W' IX 3 (.int .i64 (pre.length : Int))) ∧ Defs Ds W') : OInv w A S I0 R IB AL NB t l b r stop within N k PB IX M Ds pre W' := h
theorem OInv.own (w : World) (A S I0 R IB AL NB : Nat) (t l b r stop within : Int) (N k PB IX M : Nat) (Ds : List Nat) (B : Nat) (h1 : w.heap.size ≤ B) (h2 : ∀ D ∈ Ds, D < B) : OwnFrom B (OInv w A S I0 R IB AL NB t l b r stop within N k PB IX M Ds) :=
  OwnFrom.and (OwnFrom.and (OwnFrom.and (OwnFrom.and (ownFrom_pure _ _) (Base.own _ h1)) (Own.from (boxed_own _ _ _) _)) (Own.from (boxed_own _ _ _) _)) (Defs.own h2)
/-- How it is left. -/
def OIx (w : World) (A S I0 R IB AL NB : Nat) (t l b r stop within : Int) (N k PB IX M : Nat) (Ds : List Nat) (c : Code) (pre : List (Int × Int)) (W' : World) : Prop :=
  (pre ≠ upto t l M pre.length) ∨ (((((c = .exit 2 ∧ 1 ≤ pre.length ∧ pre = upto t l M pre.length ∧ (pre.length = 9000 ∨ k = 0 ∧ (pre.length : Int) = stop) ∧ pre.length ≤ 9000 ∧ (k = 0 → stop < 1 ∨ (pre.length : Int) ≤ stop)) ∧ Base w A S I0 R IB AL NB t l b r stop within (N : Int) W') ∧ Boxed W' PB 3 (.int .i64 (k : Int))) ∧ Boxed W' IX 3 (.int .i64 (pre.length : Int))) ∧ Defs Ds W')
theorem OIx.of {w : World} {A S I0 R IB AL NB : Nat} {t l b r stop within : Int} {N k PB IX M : Nat} {Ds : List Nat} {c : Code} {pre : List (Int × Int)} {W' : World} (h : (pre ≠ upto t l M pre.length) ∨ (((((c = .exit 2 ∧ 1 ≤ pre.length ∧ pre = upto t l M pre.length ∧ (pre.length = 9000 ∨ k = 0 ∧ (pre.length : Int) = stop) ∧ pre.length ≤ 9000 ∧ (k = 0 → stop < 1 ∨ (pre.length : Int) ≤ stop)) ∧ Base w A S I0 R IB AL NB t l b r stop within (N : Int) W') ∧ Boxed W' PB 3 (.int .i64 (k : Int))) ∧ Boxed W' IX 3 (.int .i64 (pre.length : Int))) ∧ Defs Ds W')) : OIx w A S I0 R IB AL NB t l b r stop within N k PB IX M Ds c pre W' := h
theorem OIx.own (w : World) (A S I0 R IB AL NB : Nat) (t l b r stop within : Int) (N k PB IX M : Nat) (Ds : List Nat) (B : Nat) (h1 : w.heap.size ≤ B) (h2 : ∀ D ∈ Ds, D < B) (c : Code) : OwnFrom B (OIx w A S I0 R IB AL NB t l b r stop within N k PB IX M Ds c) :=
  OwnFrom.or (ownFrom_pure _ _) (OwnFrom.and (OwnFrom.and (OwnFrom.and (OwnFrom.and (ownFrom_pure _ _) (Base.own _ h1)) (Own.from (boxed_own _ _ _) _)) (Own.from (boxed_own _ _ _) _)) (Defs.own h2))
/-- Within the going over within. -/
def IInv (w : World) (A S I0 R IB AL NB : Nat) (t l b r stop within : Int) (N k PB IX M : Nat) (Ds : List Nat) (X W0 : World) (KX : Nat) (pre : List (Int × Int)) (V : World) : Prop :=
  ((((((pre = upto t l M pre.length ∧ pre.length ≤ 49) ∧ Base w A S I0 R IB AL NB t l b r stop within (N : Int) V) ∧ Boxed V PB 3 (.int .i64 (k : Int))) ∧ Boxed V IX 3 (.int .i64 within)) ∧ Boxed V KX 3 (.int .i64 (pre.length : Int))) ∧ Defs Ds V) ∧ KeepsFrom X.heap.size W0 V
theorem IInv.of {w : World} {A S I0 R IB AL NB : Nat} {t l b r stop within : Int} {N k PB IX M : Nat} {Ds : List Nat} {X W0 : World} {KX : Nat} {pre : List (Int × Int)} {V : World} (h : ((((((pre = upto t l M pre.length ∧ pre.length ≤ 49) ∧ Base w A S I0 R IB AL NB t l b r stop within (N : Int) V) ∧ Boxed V PB 3 (.int .i64 (k : Int))) ∧ Boxed V IX 3 (.int .i64 within)) ∧ Boxed V KX 3 (.int .i64 (pre.length : Int))) ∧ Defs Ds V) ∧ KeepsFrom X.heap.size W0 V) : IInv w A S I0 R IB AL NB t l b r stop within N k PB IX M Ds X W0 KX pre V := h
theorem IInv.own (w : World) (A S I0 R IB AL NB : Nat) (t l b r stop within : Int) (N k PB IX M : Nat) (Ds : List Nat) (X W0 : World) (KX : Nat) (B : Nat) (h1 : w.heap.size ≤ B) (h2 : ∀ D ∈ Ds, D < B) (h3 : W0.heap.size ≤ B) : OwnFrom B (IInv w A S I0 R IB AL NB t l b r stop within N k PB IX M Ds X W0 KX) :=
  OwnFrom.and (OwnFrom.and (OwnFrom.and (OwnFrom.and (OwnFrom.and (OwnFrom.and (ownFrom_pure _ _) (Base.own _ h1)) (Own.from (boxed_own _ _ _) _)) (Own.from (boxed_own _ _ _) _)) (Own.from (boxed_own _ _ _) _)) (Defs.own h2)) (ownFrom_keepsFrom h3)
def IIx (w : World) (A S I0 R IB AL NB : Nat) (t l b r stop within : Int) (N k PB IX M : Nat) (Ds : List Nat) (X W0 : World) (KX : Nat) (c : Code) (pre : List (Int × Int)) (V : World) : Prop :=
  (pre ≠ upto t l M pre.length) ∨ (((((((c = .exit 4 ∧ pre.length = 50) ∧ Base w A S I0 R IB AL NB t l b r stop within (N : Int) V) ∧ Boxed V PB 3 (.int .i64 (k : Int))) ∧ Boxed V IX 3 (.int .i64 within)) ∧ Boxed V KX 3 (.int .i64 (pre.length : Int))) ∧ Defs Ds V) ∧ KeepsFrom X.heap.size W0 V)
theorem IIx.of {w : World} {A S I0 R IB AL NB : Nat} {t l b r stop within : Int} {N k PB IX M : Nat} {Ds : List Nat} {X W0 : World} {KX : Nat} {c : Code} {pre : List (Int × Int)} {V : World} (h : (pre ≠ upto t l M pre.length) ∨ (((((((c = .exit 4 ∧ pre.length = 50) ∧ Base w A S I0 R IB AL NB t l b r stop within (N : Int) V) ∧ Boxed V PB 3 (.int .i64 (k : Int))) ∧ Boxed V IX 3 (.int .i64 within)) ∧ Boxed V KX 3 (.int .i64 (pre.length : Int))) ∧ Defs Ds V) ∧ KeepsFrom X.heap.size W0 V)) : IIx w A S I0 R IB AL NB t l b r stop within N k PB IX M Ds X W0 KX c pre V := h
theorem IIx.own (w : World) (A S I0 R IB AL NB : Nat) (t l b r stop within : Int) (N k PB IX M : Nat) (Ds : List Nat) (X W0 : World) (KX : Nat) (B : Nat) (h1 : w.heap.size ≤ B) (h2 : ∀ D ∈ Ds, D < B) (h3 : W0.heap.size ≤ B) (c : Code) : OwnFrom B (IIx w A S I0 R IB AL NB t l b r stop within N k PB IX M Ds X W0 KX c) :=
  OwnFrom.or (ownFrom_pure _ _) (OwnFrom.and (OwnFrom.and (OwnFrom.and (OwnFrom.and (OwnFrom.and (OwnFrom.and (ownFrom_pure _ _) (Base.own _ h1)) (Own.from (boxed_own _ _ _) _)) (Own.from (boxed_own _ _ _) _)) (Own.from (boxed_own _ _ _) _)) (Defs.own h2)) (ownFrom_keepsFrom h3))

set_option maxRecDepth 100000 in
set_option maxHeartbeats 4000000 in
theorem places_walk (t l b r stop within : Int) (w : World)
    (hst : -9223372036854775808 ≤ stop ∧ stop ≤ 9223372036854775807) (hwi : -9223372036854775808 ≤ within ∧ within ≤ 9223372036854775807) :
    Calls Try.prog 3 #[.agg #[.int .i64 t, .int .i64 l, .int .i64 b, .int .i64 r], .int .i64 stop, .int .i64 within] w fun e w' => e = .returned (.bool true) ∧ Below w.heap.size w w' := by
  refine (callsIn_wide (n := 8)).1 ?_
  refine callsIn_of_wp_marks Try.func3 rfl trivial ?_ rfl
  simp only [Try.ntmps3, List.size_toArray, List.length_cons, List.length_nil, Nat.reduceAdd, Nat.reduceSub, Array.replicate_succ, Array.replicate_zero, List.push_toArray, List.append_toArray, List.nil_append, List.cons_append]
  gi_wp2_with fail
  refine ⟨trivial, ?_⟩
  -- the four blocks of the parameters and the result
  have bA := ((RowAt.alloc (show RowAt (w.alloc (.cells #[.int .i64 t, .int .i64 l, .int .i64 b, .int .i64 r] 23)) w.heap.size #[.int .i64 t, .int .i64 l, .int .i64 b, .int .i64 r] 23 from heap_alloc_new w _) (.cells #[.int .i64 stop] 3)).alloc (.cells #[.int .i64 within] 3)).alloc (.cells #[.bool false] 4)
  have bS := ((Boxed.new (w.alloc (.cells #[.int .i64 t, .int .i64 l, .int .i64 b, .int .i64 r] 23)) 3 (.int .i64 stop)).alloc (.cells #[.int .i64 within] 3)).alloc (.cells #[.bool false] 4)
  have bI := (Boxed.new ((w.alloc (.cells #[.int .i64 t, .int .i64 l, .int .i64 b, .int .i64 r] 23)).alloc (.cells #[.int .i64 stop] 3)) 3 (.int .i64 within)).alloc (.cells #[.bool false] 4)
  have bR := Boxed.new (((w.alloc (.cells #[.int .i64 t, .int .i64 l, .int .i64 b, .int .i64 r] 23)).alloc (.cells #[.int .i64 stop] 3)).alloc (.cells #[.int .i64 within] 3)) 4 (.bool false)
  have hB : Below w.heap.size w ((((w.alloc (.cells #[.int .i64 t, .int .i64 l, .int .i64 b, .int .i64 r] 23)).alloc (.cells #[.int .i64 stop] 3)).alloc (.cells #[.int .i64 within] 3)).alloc (.cells #[.bool false] 4)) :=
    ((((Below.refl _ w).alloc (Nat.le_refl _) _).alloc (by simp) _).alloc (by simp; omega) _).alloc (by simp; omega) _
  simp only [World.size_alloc] at bS bI bR
  obtain ⟨S, hS⟩ : ∃ S, w.heap.size + 1 = S := ⟨_, rfl⟩
  obtain ⟨I0, hI0⟩ : ∃ I0, w.heap.size + 1 + 1 = I0 := ⟨_, rfl⟩
  obtain ⟨R, hR⟩ : ∃ R, w.heap.size + 1 + 1 + 1 = R := ⟨_, rfl⟩
  obtain ⟨A, hA⟩ : ∃ A, w.heap.size = A := ⟨_, rfl⟩
  have hRw := Lib.hid (show w.heap.size ≤ R by omega)
  have hO1 : A ≤ R ∧ S ≤ R ∧ I0 ≤ R ∧ w.heap.size ≤ R := by omega
  rw [hR] at bR ⊢
  rw [hI0] at bI ⊢
  rw [hS] at bS ⊢
  obtain ⟨W0, hW0⟩ : ∃ W0, (((w.alloc (.cells #[.int .i64 t, .int .i64 l, .int .i64 b, .int .i64 r] 23)).alloc (.cells #[.int .i64 stop] 3)).alloc (.cells #[.int .i64 within] 3)).alloc (.cells #[.bool false] 4) = W0 := ⟨_, rfl⟩
  rw [hW0] at bA bS bI bR hB ⊢
  clear hW0 hS hI0 hR
  have HA := Lib.hid hA
  replace bA : RowAt W0 A #[.int .i64 t, .int .i64 l, .int .i64 b, .int .i64 r] 23 := by rw [← hA]; exact bA
  have HO1 := Lib.hid hO1
  have HB0 := Lib.hid hB
  rw [hA]
  clear hA hO1 hB
  refine (callsIn_wide.2 (begun8 _)).mono ?_
  rintro e w1 ⟨rfl, hb1⟩
  replace bA : RowAt w1 A #[.int .i64 t, .int .i64 l, .int .i64 b, .int .i64 r] 23 := hb1.row bA bA.lt
  replace bS : Boxed w1 S 3 (.int .i64 stop) := hb1.row bS bS.lt
  replace bI : Boxed w1 I0 3 (.int .i64 within) := hb1.row bI bI.lt
  replace bR : Boxed w1 R 4 (.bool false) := hb1.row bR bR.lt
  have HB := Lib.hid (HB0.out.trans (hb1.mono HB0.out.size))
  clear hb1 HB0
  have o1 := bA.lt
  have o4 := bR.lt
  have q26 : ∀ (w : World) (f : Fn) (a b : Array Value), (binOp .eql 26 (.func f a b) .nilFunc).run Try.prog w = .ok (.bool false) w := fun w f a b => by kernel_rfl
  obtain ⟨c0, c1, c2, c3⟩ := cells4 bA
  gi_wp2_with (refine ⟨trivial, ?_⟩; gi_at_call 9; refine (callsIn_wide.2 (all9 t l b r _)).mono ?_; rintro e w' ⟨rfl, rfl⟩)
  -- the iterator's block, the value's box, how many
  gi_wp2_with fail
  refine ⟨trivial, ?_⟩
  clear c0 c1 c2 c3
  replace bA := (bA.alloc (.cells #[.int .i64 t, .int .i64 l, .int .i64 b, .int .i64 r] 23)).alloc (.cells #[.func (.func 20) #[] #[.pointer (some ⟨w1.heap.size, 0, none⟩)]] 26)
  replace bS := (bS.alloc (.cells #[.int .i64 t, .int .i64 l, .int .i64 b, .int .i64 r] 23)).alloc (.cells #[.func (.func 20) #[] #[.pointer (some ⟨w1.heap.size, 0, none⟩)]] 26)
  replace bI := (bI.alloc (.cells #[.int .i64 t, .int .i64 l, .int .i64 b, .int .i64 r] 23)).alloc (.cells #[.func (.func 20) #[] #[.pointer (some ⟨w1.heap.size, 0, none⟩)]] 26)
  replace bR := (bR.alloc (.cells #[.int .i64 t, .int .i64 l, .int .i64 b, .int .i64 r] 23)).alloc (.cells #[.func (.func 20) #[] #[.pointer (some ⟨w1.heap.size, 0, none⟩)]] 26)
  have bC := RowAt.alloc (show RowAt (w1.alloc (.cells #[.int .i64 t, .int .i64 l, .int .i64 b, .int .i64 r] 23)) w1.heap.size #[.int .i64 t, .int .i64 l, .int .i64 b, .int .i64 r] 23 from heap_alloc_new w1 _) (.cells #[.func (.func 20) #[] #[.pointer (some ⟨w1.heap.size, 0, none⟩)]] 26)
  have bL := Boxed.new (w1.alloc (.cells #[.int .i64 t, .int .i64 l, .int .i64 b, .int .i64 r] 23)) 26 (.func (.func 20) #[] #[.pointer (some ⟨w1.heap.size, 0, none⟩)])
  have hB2 := (HB.out.alloc HB.out.size (.cells #[.int .i64 t, .int .i64 l, .int .i64 b, .int .i64 r] 23)).alloc (by have := HB.out.size; simp; omega) (.cells #[.func (.func 20) #[] #[.pointer (some ⟨w1.heap.size, 0, none⟩)]] 26)
  simp only [World.size_alloc] at bL
  obtain ⟨AL, hAL⟩ : ∃ AL, w1.heap.size + 1 = AL := ⟨_, rfl⟩
  obtain ⟨IB, hIB⟩ : ∃ IB, w1.heap.size = IB := ⟨_, rfl⟩
  obtain ⟨W2, hW2⟩ : ∃ W2, (w1.alloc (.cells #[.int .i64 t, .int .i64 l, .int .i64 b, .int .i64 r] 23)).alloc (.cells #[.func (.func 20) #[] #[.pointer (some ⟨w1.heap.size, 0, none⟩)]] 26) = W2 := ⟨_, rfl⟩
  rw [hW2] at bA bS bI bR bC bL hB2 ⊢
  rw [hAL] at bL ⊢
  rw [hIB] at bC bL ⊢
  have hO2 : R < IB ∧ IB < AL := by omega
  clear hW2 HB
  clear hAL o1 o4
  clear hIB
  refine (callsIn_wide.2 (places10 t l b r _)).mono ?_
  rw [places_count]
  rintro e w3 ⟨rfl, hb3⟩
  have hbase : Base w A S I0 R IB AL w3.heap.size t l b r stop within (count t l b r : Int) (w3.alloc (.cells #[.int .i64 (count t l b r : Int)] 3)) :=
    ⟨RowAt.alloc (hb3.row bA bA.lt) _, Boxed.alloc (hb3.row bS bS.lt) _, Boxed.alloc (hb3.row bI bI.lt) _, Boxed.alloc (hb3.row bR bR.lt) _, RowAt.alloc (hb3.row bC bC.lt) _, Boxed.alloc (hb3.row bL bL.lt) _, Boxed.new w3 3 _, (hB2.trans (hb3.mono hB2.size)).alloc (Nat.le_trans hB2.size hb3.size) _⟩
  have hord : Ord w A S I0 R IB AL w3.heap.size := by
    have h1 := HO1.out
    have h2 := hb3.size
    have h3 := bL.lt
    refine ⟨?_, ?_, ?_, ?_, ?_, ?_, ?_⟩ <;> omega
  have Hord := Lib.hid hord
  have hbase0 := hbase.alloc (.cells #[.int .i64 0] 3)
  have bP0 := Boxed.new (w3.alloc (.cells #[.int .i64 (count t l b r : Int)] 3)) 3 (.int .i64 0)
  simp only [World.size_alloc] at bP0
  have Hbase := Lib.hid hbase0
  have HP0 := Lib.hid bP0
  clear hbase hbase0 bA bS bI bR bC bL hB2 hb3 hO2 HO1 hord bP0
  gi_wp2_with fail
  obtain ⟨NB, hNB⟩ : ∃ NB, w3.heap.size = NB := ⟨_, rfl⟩
  obtain ⟨PB0, hPB⟩ : ∃ PB0, NB + 1 = PB0 := ⟨_, rfl⟩
  have hNP : NB < PB0 := by omega
  rw [hNB] at HP0 Hbase Hord ⊢
  rw [hPB] at HP0 ⊢
  obtain ⟨W4, hW4⟩ : ∃ W4, (w3.alloc (.cells #[.int .i64 (count t l b r : Int)] 3)).alloc (.cells #[.int .i64 0] 3) = W4 := ⟨_, rfl⟩
  rw [hW4] at HP0 Hbase ⊢
  obtain ⟨N, hN⟩ : ∃ N : Nat, count t l b r = N := ⟨_, rfl⟩
  rw [hN] at Hbase ⊢
  clear hW4 hPB
  clear hNB
  refine wpIn_loop (LInv w A S I0 R IB AL NB t l b r stop within N)
    (fun a' _ => 2 - a'.defers.length) ⟨0, PB0, undef, undef, undef, undef, undef, undef, undef, undef, undef, undef, undef, undef, undef, undef, undef, undef, undef, undef, undef, undef, undef, undef, [], rfl, rfl, by omega, hNP, Hbase.out, HP0.out, fun D hD => by simp at hD, fun D hD => by simp at hD, by simp⟩ ?_
  rintro _ W ⟨k, PB, u10, u16, u25, u26, u27, u28, u29, u72, u73, u74, u75, u76, u77, u78, u79, u80, u81, u82, u83, u84, u85, u86, Ds, rfl, hk, hk2, hNP', hbs, bP, hDs, hDw, hDn⟩
  dsimp only
  clear HP0 Hbase
  clear hNP PB0
  have cP := bP.cell
  have cR := hbs.fr.cell
  have fR := hbs.fr.frozen
  have cL := hbs.fl.cell
  have sP := bP.lt
  have sL := hbs.fl.lt
  by_cases hk3 : k = 2
  · subst hk3
    have HS := Lib.hid (And.intro hbs hDs)
    clear hbs hDs bP
    gi_wp2_with fail
    obtain ⟨hbs, hDs⟩ := HS.out
    match Ds, hk with
    | [D2, D1], _ =>
      have h2 := (KeepsOthers.setCell W ⟨R, 0, none⟩ (.bool true)).same D2 _ (hDs D2 (by simp)) rfl
      have h1 := (KeepsOthers.setCell W ⟨R, 0, none⟩ (.bool true)).same D1 _ (hDs D1 (by simp)) rfl
      have n2 : w.heap.size ≤ D2 := hDw D2 (by simp)
      have n1 : w.heap.size ≤ D1 := hDw D1 (by simp)
      have h12 : D1 ≠ D2 := by simp at hDn; exact fun e => hDn e.symm
      have h1' : ((W.setCell ⟨R, 0, none⟩ (.bool true)).putObj D2 (.deferred none)).heap[D1]? = some (.deferred (some [])) := (World.putObj_heap_other h12).trans h1
      refine ⟨by simp, .inl ⟨_, _, rfl, run_takeDeferred h2, by simp, .inl ⟨_, _, rfl, run_takeDeferred h1', ?_⟩⟩⟩
      have hc4 := cell_kept (hbs.fr.set (.bool true)).cell (grownBy_putObj' _ D2 (.deferred none)) (fun r e => by cases e; exact ⟨_, h2, rfl⟩)
      have hc5 := cell_kept hc4 (grownBy_putObj' _ D1 (.deferred none)) (fun r e => by cases e; exact ⟨_, h1', rfl⟩)
      refine ⟨.bool true, ?_, rfl, ((hbs.fb.setCell (p := ⟨R, 0, none⟩) (by simp; exact hRw.out) _).trans (belowK_b (w := w) (Nat.le_refl _) _ D2 _ _ n2 h2 rfl rfl)).trans (belowK_b (w := w) (Nat.le_refl _) _ D1 _ _ n1 h1' rfl rfl)⟩
      simp [results, Try.results3, go_sem, hc5]
  · have hk4 : k < 2 := by omega
    have hk5 : (k : Int) < 2 := by omega
    have HS := Lib.hid (And.intro hbs (And.intro bP hDs))
    clear hbs hDs bP
    gi_wp2_with fail
    obtain ⟨hbs, bP, hDs⟩ := HS.out
    clear HS
    obtain ⟨IX, hIX⟩ : ∃ IX, W.heap.size = IX := ⟨_, rfl⟩
    have hbx := hbs.alloc (.cells #[.int .i64 0] 3)
    have bPx := bP.alloc (.cells #[.int .i64 0] 3)
    have hDx := hDs.others (KeepsOthers.alloc W (.cells #[.int .i64 0] 3))
    have bX := Boxed.new W 3 (.int .i64 0)
    have hDl := hDs.lt
    rw [hIX] at bX sP sL hDl ⊢
    have hXsz : (W.alloc (.cells #[.int .i64 0] 3)).heap.size = IX + 1 := by simp [hIX]
    have hNI : NB < IX := by have := hbs.fn.lt; omega
    obtain ⟨X, hX⟩ : ∃ X, W.alloc (.cells #[.int .i64 0] 3) = X := ⟨_, rfl⟩
    rw [hX] at hbx bPx hDx bX hXsz ⊢
    clear hX hbs bP hDs cP cR fR cL
    clear hIX
    have hord := Hord.out
    have hIBX : IB < X.heap.size := hbx.fc.lt
    obtain ⟨M, hM⟩ : ∃ M, (r - l + 1).toNat = M := ⟨_, rfl⟩
    have hpl : placesL t l b r = upto t l M N := by rw [placesL, hM, hN]
    have AI : AreaAt X IB t l b r := by obtain ⟨a, b, c, d⟩ := cells4 hbx.fc; exact ⟨a, b, c, d⟩
    refine wpIn_rangeFunc_ownH rfl (by decide) (gf := 20) (lb := #[.pointer (some ⟨IB, 0, none⟩)]) rfl trivial (enters_of Try.func20 (by kernel_rfl) rfl)
      (all_stops 7 (by decide) IB t l b r X hIBX AI) KeepBlock.trans (keepBlock_put hIBX) (Below.refl _ _) (fun _ => rfl)
      (OInv w A S I0 R IB AL NB t l b r stop within N k PB IX M Ds)
      (OIx w A S I0 R IB AL NB t l b r stop within N k PB IX M Ds)
      (OInv.own _ _ _ _ _ _ _ _ _ _ _ _ _ _ _ _ _ _ _ _ _ hbx.fb.size (fun D hD => by have := hDl D hD; omega))
      (OIx.own _ _ _ _ _ _ _ _ _ _ _ _ _ _ _ _ _ _ _ _ _ hbx.fb.size (fun D hD => by have := hDl D hD; omega))
      (.of ⟨⟨⟨⟨⟨rfl, by simp, fun _ => by simp; omega⟩, hbx⟩, bPx⟩, bX⟩, hDx⟩)
      (fun x a' W' => ∃ Bx, IX < Bx ∧ RowAt W' Bx #[.int .i64 x.1, .int .i64 x.2] 30 ∧ a' = { tmps := #[.agg #[.int .i64 t, .int .i64 l, .int .i64 b, .int .i64 r], .int .i64 stop, .int .i64 within, .pointer (some ⟨A, 0, none⟩), .pointer (some ⟨S, 0, none⟩), .pointer (some ⟨I0, 0, none⟩), .pointer (some ⟨R, 0, none⟩), .pointer (some ⟨AL, 0, none⟩), .pointer (some ⟨NB, 0, none⟩), .pointer (some ⟨PB, 0, none⟩), .pointer (some ⟨IX, 0, none⟩), .pointer (some ⟨Bx, 0, none⟩), undef, undef, undef, undef, u16, .bool true, .bool false, .agg #[.int .i64 t, .int .i64 l, .int .i64 b, .int .i64 r], .func (.func 20) #[] #[.pointer (some ⟨IB, 0, none⟩)], .func (.func 20) #[] #[.pointer (some ⟨IB, 0, none⟩)], .bool false, .agg #[.int .i64 t, .int .i64 l, .int .i64 b, .int .i64 r], .int .i64 (N : Int), .int .i64 k, .bool true, u27, u28, .func (.func 20) #[] #[.pointer (some ⟨IB, 0, none⟩)], .agg #[.int .i64 x.1, .int .i64 x.2], undef, undef, undef, undef, undef, undef, undef, undef, undef, undef, undef, undef, undef, undef, undef, undef, undef, undef, undef, undef, undef, undef, undef, undef, undef, undef, undef, undef, undef, undef, undef, undef, undef, undef, undef, undef, undef, undef, undef, undef, undef, u72, u73, u74, u75, u76, u77, u78, u79, u80, u81, u82, u83, u84, u85, u86], defers := [] })
      (fun x a' _ Y Z row hs hg hr => by obtain ⟨Bx, e1, e2, e3⟩ := hs; exact ⟨Bx, e1, rowAt_own Bx (fun (_ : Unit) => #[.int .i64 x.1, .int .i64 x.2]) 30 () Y Z row e2 hg (fun r e => (hr r e).2), e3⟩)
      ?assign ?body ?done ?stop
    case assign =>
      rintro lp pre x W' K ⟨⟨⟨⟨hp, hb1⟩, bP1⟩, bI1⟩, hD1⟩ hK
      gi_wp2
      exact hK _ _ ((KeepsOthers.alloc _ _).from _) (Below.heap_alloc W' _ _ hb1.fc.lt) (.of ⟨⟨⟨⟨hp, hb1.alloc _⟩, bP1.alloc _⟩, bI1.alloc _⟩, hD1.others (KeepsOthers.alloc _ _)⟩) ⟨W'.heap.size, bI1.lt, World.alloc_heap_new W' _, rfl⟩
    case body =>
      rintro lp pre x a' W' hlp ⟨rc, hrc⟩ ⟨⟨⟨⟨⟨hp, hp1, hp2⟩, hb1⟩, bP1⟩, bI1⟩, hD1⟩ ⟨Bx, hBx, bX1, rfl⟩ hlt
      dsimp only
      clear hXsz AI bX hDx hbx bPx
      rw [hN] at hlt
      have hNle : N ≤ 46006272 := hN ▸ count_le t l b r
      have ha : areaB t l b r = true := count_pos (by omega)
      have hMM : r - l + 1 = (M : Int) := hM ▸ areaB_m ha
      have hk01 : k = 0 ∨ k = 1 := by omega
      have hp2 := Lib.hid hp2
      have HC := Lib.hid hb1.fc
      have hWs := hb1.fc.lt
      obtain ⟨j, hj⟩ : ∃ j, pre.length = j := ⟨_, rfl⟩
      rw [hj] at hlt hp1 bI1 hp2
      have hjN : (j : Int) < N := by omega
      obtain ⟨x1, x2⟩ := x
      obtain ⟨p1, e1⟩ : ∃ p1, (placeAt t l M j).1 = p1 := ⟨_, rfl⟩
      obtain ⟨p2, e2⟩ : ∃ p2, (placeAt t l M j).2 = p2 := ⟨_, rfl⟩
      have HU : Hid ((x1, x2) = (p1, p2) → pre ++ [(x1, x2)] = upto t l M (pre ++ [(x1, x2)]).length) := fun h => upto_step'.2 ⟨hp, by rw [h, hj, ← e1, ← e2]⟩
      have HV : Hid (pre ++ [(x1, x2)] = upto t l M (pre ++ [(x1, x2)]).length → (x1, x2) = (p1, p2)) := fun h => by rw [(upto_step'.1 h).2, hj, ← e1, ← e2]
      have AT := at11n t l b r M j
      rw [e1, e2] at AT
      have hb2 := Lib.hid (And.intro hb1 (And.intro bP1 (And.intro bI1 (And.intro bX1 hD1))))
      obtain ⟨cA0, cA1, cA2, cA3⟩ := cells4 hb1.fa
      have cI := bI1.cell
      have cN := hb1.fn.cell
      have sA := hb1.fa.lt
      have sI := bI1.lt
      have sN := hb1.fn.lt
      clear hb1 bP1 bI1 bX1 hD1 hp
      gi_wp2_with fail
      refine ⟨trivial, ?_⟩
      refine (CallsIn.inRound lp (callsIn_wide.2 (AT W' ha hMM (by omega)))).mono ?_
      rintro e w5 ⟨rfl, hb5⟩
      obtain ⟨hb1, bP1, bI1, bX1, hD1⟩ := hb2.out
      replace hb1 := hb1.below hb5
      replace bP1 : Boxed w5 PB 3 (.int .i64 (k : Int)) := hb5.row bP1 bP1.lt
      replace bI1 : Boxed w5 IX 3 (.int .i64 (j : Int)) := hb5.row bI1 bI1.lt
      replace bX1 : RowAt w5 Bx #[.int .i64 x1, .int .i64 x2] 30 := hb5.row bX1 bX1.lt
      replace hD1 := hD1.others (others_below hb5)
      have KW := others_below hb5
      clear hb2 hb5 cA0 cA1 cA2 cA3 cI cN sA sI sN
      obtain ⟨cx0, cx1⟩ := cells2 bX1
      have cI := bI1.cell
      have fI := bI1.frozen
      have cR := hb1.fr.cell
      have fR := hb1.fr.frozen
      have cW := hb1.fi.cell
      have sI := bI1.lt
      have sR := hb1.fr.lt
      have sW := hb1.fi.lt
      have n0 : R ≠ IX := by have := hord.2.2.2.1; omega
      have sX := bX1.lt
      have hb2 := Lib.hid (And.intro hb1 (And.intro bP1 (And.intro bI1 (And.intro hD1 KW))))
      clear hb1 bP1 bI1 bX1 hD1 KW AT
      by_cases ex : (x1, x2) = (p1, p2)
      · obtain ⟨ex1, ex2⟩ := Prod.mk.inj ex
        subst ex1 ex2
        clear ex
        replace HU := Lib.hid (HU.out rfl)
        clear HV
        obtain ⟨hb1, bP1, bI1, hD1, KW⟩ := hb2.out
        clear hb2
        have cP := bP1.cell
        have cS := hb1.fs.cell
        have cL := hb1.fl.cell
        have sP := bP1.lt
        have sS := hb1.fs.lt
        have sL := hb1.fl.lt
        have tb : Base w A S I0 R IB AL NB t l b r stop within (N : Int) ((w5.setCell ⟨IX, 0, none⟩ (.int .i64 ((j : Int) + 1))).alloc (.cells #[.int .i64 x1, .int .i64 x2] 30)) := (hb1.set hord hNI _).alloc _
        have tP : Boxed ((w5.setCell ⟨IX, 0, none⟩ (.int .i64 ((j : Int) + 1))).alloc (.cells #[.int .i64 x1, .int .i64 x2] 30)) PB 3 (.int .i64 (k : Int)) := (bP1.other (by omega) _).alloc _
        have tI : Boxed ((w5.setCell ⟨IX, 0, none⟩ (.int .i64 ((j : Int) + 1))).alloc (.cells #[.int .i64 x1, .int .i64 x2] 30)) IX 3 (.int .i64 ((j : Int) + 1)) := (bI1.set _).alloc _
        have tD := hD1.others ((KeepsOthers.setCell w5 ⟨IX, 0, none⟩ (.int .i64 ((j : Int) + 1))).trans (KeepsOthers.alloc _ (.cells #[.int .i64 x1, .int .i64 x2] 30)))
        have KY := KW.trans ((KeepsOthers.setCell w5 ⟨IX, 0, none⟩ (.int .i64 ((j : Int) + 1))).trans (KeepsOthers.alloc _ (.cells #[.int .i64 x1, .int .i64 x2] 30)))
        clear hb1 bP1 bI1 hD1 KW
        have n1 : I0 ≠ IX := by have := hord.2.2.1; omega
        have n2 : S ≠ IX := by have := hord.2.1; omega
        have n3 : AL ≠ IX := by have := hord.2.2.2.2.2.1; omega
        have n4 : PB ≠ IX := by omega
        by_cases hw : within = (j : Int) + 1
        · subst hw
          have HT := Lib.hid (And.intro tb (And.intro tP (And.intro tI (And.intro tD KY))))
          clear tb tP tI tD KY
          gi_wp2_with fail
          obtain ⟨KX, hKX⟩ : ∃ KX, ((w5.setCell ⟨IX, 0, none⟩ (.int .i64 ((j : Int) + 1))).alloc (.cells #[.int .i64 x1, .int .i64 x2] 30)).heap.size = KX := ⟨_, rfl⟩
          have hKX' : w5.heap.size + 1 = KX := by rw [← hKX]; simp
          obtain ⟨tb, tP, tI, tD, KY⟩ := HT.out
          clear HT
          have bK := Boxed.new ((w5.setCell ⟨IX, 0, none⟩ (.int .i64 ((j : Int) + 1))).alloc (.cells #[.int .i64 x1, .int .i64 x2] 30)) 3 (.int .i64 0)
          replace tb := tb.alloc (.cells #[.int .i64 0] 3)
          replace tP := tP.alloc (.cells #[.int .i64 0] 3)
          have hIK : IX < KX := by have := tI.lt; omega
          replace tI := tI.alloc (.cells #[.int .i64 0] 3)
          replace tD := tD.others (KeepsOthers.alloc _ (.cells #[.int .i64 0] 3))
          replace KY := KY.trans (KeepsOthers.alloc _ (.cells #[.int .i64 0] 3))
          rw [hKX] at bK
          rw [hKX']
          obtain ⟨Z, hZ⟩ : ∃ Z, ((w5.setCell ⟨IX, 0, none⟩ (.int .i64 ((j : Int) + 1))).alloc (.cells #[.int .i64 x1, .int .i64 x2] 30)).alloc (.cells #[.int .i64 0] 3) = Z := ⟨_, rfl⟩
          rw [hZ] at tb tP tI tD KY bK ⊢
          clear hZ hKX cI fI cR fR cW sI sR sW sX cx0 cx1 cP cS cL sP sS sL n0
          clear hKX'
          have hrZ : Z.heap[lp]? = some (.loop rc) := KY.same lp _ hrc rfl
          have hIBZ : IB < Z.heap.size := tb.fc.lt
          have AZ : AreaAt Z IB t l b r := by obtain ⟨a, b, c, d⟩ := cells4 tb.fc; exact ⟨a, b, c, d⟩
          refine wpIn_rangeFunc_ownN (l₀ := lp) (r₀ := rc) rfl hrZ (by decide) (gf := 20) (lb := #[.pointer (some ⟨IB, 0, none⟩)]) rfl trivial (enters_of Try.func20 (by kernel_rfl) rfl)
            ((all_stops 5 (by decide) IB t l b r Z hIBZ AZ).inRound lp) KeepBlock.trans (keepBlock_put hIBZ) (Below.refl _ _) (fun _ => rfl)
            (IInv w A S I0 R IB AL NB t l b r stop ((j : Int) + 1) N k PB IX M Ds X W' KX) (IIx w A S I0 R IB AL NB t l b r stop ((j : Int) + 1) N k PB IX M Ds X W' KX)
            (IInv.own _ _ _ _ _ _ _ _ _ _ _ _ _ _ _ _ _ _ _ _ _ _ _ _ tb.fb.size tD.lt KY.size)
            (IIx.own _ _ _ _ _ _ _ _ _ _ _ _ _ _ _ _ _ _ _ _ _ _ _ _ tb.fb.size tD.lt KY.size)
            (.of ⟨⟨⟨⟨⟨⟨⟨rfl, by simp⟩, tb⟩, tP⟩, tI⟩, bK⟩, tD⟩, KY.from _⟩)
            (fun y a'' V => ∃ (By : Nat) (v11 v12 v30 v31 v32 v33 v34 v35 v36 v37 v38 v39 v40 v41 v42 v43 v44 : Value), KX < By ∧ RowAt V By #[.int .i64 y.1, .int .i64 y.2] 30 ∧ a'' = { tmps := #[.agg #[.int .i64 t, .int .i64 l, .int .i64 b, .int .i64 r], .int .i64 stop, .int .i64 ((j : Int) + 1), .pointer (some ⟨A, 0, none⟩), .pointer (some ⟨S, 0, none⟩), .pointer (some ⟨I0, 0, none⟩), .pointer (some ⟨R, 0, none⟩), .pointer (some ⟨AL, 0, none⟩), .pointer (some ⟨NB, 0, none⟩), .pointer (some ⟨PB, 0, none⟩), .pointer (some ⟨IX, 0, none⟩), v11, v12, .pointer (some ⟨KX, 0, none⟩), .pointer (some ⟨By, 0, none⟩), undef, u16, .bool true, .bool false, .agg #[.int .i64 t, .int .i64 l, .int .i64 b, .int .i64 r], .func (.func 20) #[] #[.pointer (some ⟨IB, 0, none⟩)], .func (.func 20) #[] #[.pointer (some ⟨IB, 0, none⟩)], .bool false, .agg #[.int .i64 t, .int .i64 l, .int .i64 b, .int .i64 r], .int .i64 (N : Int), .int .i64 k, .bool true, u27, u28, .func (.func 20) #[] #[.pointer (some ⟨IB, 0, none⟩)], v30, v31, v32, v33, v34, v35, v36, v37, v38, v39, v40, v41, v42, v43, v44, .func (.func 20) #[] #[.pointer (some ⟨IB, 0, none⟩)], .agg #[.int .i64 y.1, .int .i64 y.2], undef, undef, undef, undef, undef, undef, undef, undef, undef, undef, undef, undef, undef, undef, undef, undef, undef, undef, undef, undef, undef, undef, undef, undef, undef, u72, u73, u74, u75, u76, u77, u78, u79, u80, u81, u82, u83, u84, u85, u86], defers := [] })
            (fun y a'' _ Y1 Z1 row hs hg hr => by obtain ⟨By, v11, v12, v30, v31, v32, v33, v34, v35, v36, v37, v38, v39, v40, v41, v42, v43, v44, e1, e2, e3⟩ := hs; exact ⟨By, v11, v12, v30, v31, v32, v33, v34, v35, v36, v37, v38, v39, v40, v41, v42, v43, v44, e1, rowAt_own By (fun (_ : Unit) => #[.int .i64 y.1, .int .i64 y.2]) 30 () Y1 Z1 row e2 hg (fun r e => (hr r e).2), e3⟩)
            ?assign2 ?body2 ?done2 ?stop2
          case assign2 =>
            rintro l2 pre' y V K ⟨⟨⟨⟨⟨⟨hq, ub⟩, uP⟩, uI⟩, uB⟩, uD⟩, uK⟩ hK
            gi_wp2
            exact hK _ _ ((KeepsOthers.alloc _ _).from _) (Below.heap_alloc V _ _ ub.fc.lt) (.of ⟨⟨⟨⟨⟨⟨hq, ub.alloc _⟩, uP.alloc _⟩, uI.alloc _⟩, uB.alloc _⟩, uD.others (KeepsOthers.alloc _ _)⟩, uK.trans ((KeepsOthers.alloc _ _).from _)⟩) ⟨V.heap.size, _, _, _, _, _, _, _, _, _, _, _, _, _, _, _, _, _, uB.lt, World.alloc_heap_new V _, rfl⟩
          case body2 =>
            rintro l2 pre' y a'' V hl2 hr2 ⟨⟨⟨⟨⟨⟨⟨hq, hq2⟩, ub⟩, uP⟩, uI⟩, uB⟩, uD⟩, uK⟩ ⟨By, v11, v12, v30, v31, v32, v33, v34, v35, v36, v37, v38, v39, v40, v41, v42, v43, v44, hBy, bY, rfl⟩ hlt2
            dsimp only
            rw [hN] at hlt2
            obtain ⟨i, hi⟩ : ∃ i, pre'.length = i := ⟨_, rfl⟩
            rw [hi] at hlt2 hq2 uB
            have hiN : (i : Int) < N := by omega
            have hi49 : (i : Int) ≤ 49 := by omega
            obtain ⟨y1, y2⟩ := y
            obtain ⟨p1, e1⟩ : ∃ p1, (placeAt t l M i).1 = p1 := ⟨_, rfl⟩
            obtain ⟨p2, e2⟩ : ∃ p2, (placeAt t l M i).2 = p2 := ⟨_, rfl⟩
            have HU2 : Hid ((y1, y2) = (p1, p2) → pre' ++ [(y1, y2)] = upto t l M (pre' ++ [(y1, y2)]).length) := fun h => upto_step'.2 ⟨hq, by rw [h, hi, ← e1, ← e2]⟩
            have HV2 : Hid (pre' ++ [(y1, y2)] = upto t l M (pre' ++ [(y1, y2)]).length → (y1, y2) = (p1, p2)) := fun h => by rw [(upto_step'.1 h).2, hi, ← e1, ← e2]
            have AT2 := at11n t l b r M i
            rw [e1, e2] at AT2
            have HC2 := Lib.hid ub.fc
            have hb2 := Lib.hid (And.intro ub (And.intro uP (And.intro uI (And.intro uB (And.intro bY (And.intro uD uK))))))
            obtain ⟨cA0, cA1, cA2, cA3⟩ := cells4 ub.fa
            have cK := uB.cell
            have sA := ub.fa.lt
            have sK := uB.lt
            clear ub uP uI uB bY uD uK hq e1 e2
            gi_wp2_with fail
            refine ⟨trivial, ?_⟩
            refine (CallsIn.inRound l2 (CallsIn.inRound lp (callsIn_wide.2 (AT2 V ha hMM (by omega))))).mono ?_
            rintro e w6 ⟨rfl, hb5⟩
            obtain ⟨ub, uP, uI, uB, bY, uD, uK⟩ := hb2.out
            replace ub := ub.below hb5
            replace uP : Boxed w6 PB 3 (.int .i64 (k : Int)) := hb5.row uP uP.lt
            replace uI : Boxed w6 IX 3 (.int .i64 ((j : Int) + 1)) := hb5.row uI uI.lt
            replace uB : Boxed w6 KX 3 (.int .i64 (i : Int)) := hb5.row uB uB.lt
            replace bY : RowAt w6 By #[.int .i64 y1, .int .i64 y2] 30 := hb5.row bY bY.lt
            replace uD := uD.others (others_below hb5)
            have KV := others_below hb5
            clear hb2 hb5 cA0 cA1 cA2 cA3 cK sA sK AT2
            obtain ⟨cy0, cy1⟩ := cells2 bY
            have cK := uB.cell
            have fK := uB.frozen
            have cR := ub.fr.cell
            have fR := ub.fr.frozen
            have sK := uB.lt
            have sR := ub.fr.lt
            have sY := bY.lt
            by_cases ey : (y1, y2) = (p1, p2)
            · obtain ⟨ey1, ey2⟩ := Prod.mk.inj ey
              subst ey1 ey2
              clear ey
              replace HU2 := Lib.hid (HU2.out rfl)
              have KX2 := (KeepsOthers.setCell w6 ⟨KX, 0, none⟩ (.int .i64 ((i : Int) + 1))).trans (KeepsOthers.alloc _ (.cells #[.int .i64 y1, .int .i64 y2] 30))
              have vb : Base w A S I0 R IB AL NB t l b r stop ((j : Int) + 1) (N : Int) ((w6.setCell ⟨KX, 0, none⟩ (.int .i64 ((i : Int) + 1))).alloc (.cells #[.int .i64 y1, .int .i64 y2] 30)) := (ub.set hord (by omega) _).alloc _
              have vP : Boxed ((w6.setCell ⟨KX, 0, none⟩ (.int .i64 ((i : Int) + 1))).alloc (.cells #[.int .i64 y1, .int .i64 y2] 30)) PB 3 (.int .i64 (k : Int)) := (uP.other (by omega) _).alloc _
              have vI : Boxed ((w6.setCell ⟨KX, 0, none⟩ (.int .i64 ((i : Int) + 1))).alloc (.cells #[.int .i64 y1, .int .i64 y2] 30)) IX 3 (.int .i64 ((j : Int) + 1)) := (uI.other (by omega) _).alloc _
              have vB : Boxed ((w6.setCell ⟨KX, 0, none⟩ (.int .i64 ((i : Int) + 1))).alloc (.cells #[.int .i64 y1, .int .i64 y2] 30)) KX 3 (.int .i64 ((i : Int) + 1)) := (uB.set _).alloc _
              have vD := uD.others KX2
              have vK := KV.trans KX2
              have HT := Lib.hid (And.intro vb (And.intro vP (And.intro vI (And.intro vB (And.intro vD (And.intro uK vK))))))
              clear vb vP vI vB vD vK KX2 ub uP uI uB bY uD uK KV HV2
              by_cases h50 : (50 : Int) ≤ (i : Int) + 1
              · gi_wp2_with fail
                obtain ⟨vb, vP, vI, vB, vD, uK, vK⟩ := HT.out
                exact ⟨vK.from _, .of (.inr ⟨⟨⟨⟨⟨⟨⟨rfl, by simp; omega⟩, vb⟩, vP⟩, vI⟩, by simpa [hi] using vB⟩, vD⟩, uK.trans (vK.from _)⟩)⟩
              · gi_wp2_with fail
                obtain ⟨vb, vP, vI, vB, vD, uK, vK⟩ := HT.out
                exact ⟨vK.from _, vb.fc.trans HC2.out.symm, .of ⟨⟨⟨⟨⟨⟨⟨HU2.out, by simp; omega⟩, vb⟩, vP⟩, vI⟩, by simpa [hi] using vB⟩, vD⟩, uK.trans (vK.from _)⟩⟩
            · have HN := Lib.hid (fun h => ey (HV2.out h))
              have KZ := Lib.hid (KV.trans ((KeepsOthers.setCell w6 ⟨R, 0, none⟩ (.bool false)).trans (KeepsOthers.alloc _ (.cells #[.int .i64 p1, .int .i64 p2] 30))))
              clear ub uP uI uB bY uD uK KV HU2 HV2
              by_cases ey1 : y1 = p1
              · have ey2 : y2 ≠ p2 := fun h => ey (by rw [ey1, h])
                subst ey1
                clear ey
                gi_wp2_with fail
                exact ⟨KZ.out.from _, .of (.inl HN.out)⟩
              · clear ey
                gi_wp2_with fail
                exact ⟨KZ.out.from _, .of (.inl HN.out)⟩
          case done2 =>
            rintro ys V rfl ⟨⟨⟨⟨⟨⟨hq, ub⟩, uP⟩, uI⟩, uB⟩, uD⟩, uK⟩
            rw [hpl, upto_length] at hq uB
            have hq2 : (N : Int) ≤ 49 := by omega
            clear hq
            have HT := Lib.hid (And.intro ub (And.intro uP (And.intro uI (And.intro uD uK))))
            clear uK uD
            have cK := uB.cell
            have cN := ub.fn.cell
            have cI := uI.cell
            have cP := uP.cell
            have cS := ub.fs.cell
            have sK := uB.lt
            have sN := ub.fn.lt
            have sI := uI.lt
            have sP := uP.lt
            have sS := ub.fs.lt
            clear ub uP uI uB
            try dsimp only
            by_cases h9 : (9000 : Int) ≤ (j : Int) + 1
            · gi_wp2_with fail
              all_goals (obtain ⟨tb, tP, tI, tD, tK⟩ := HT.out; exact ⟨tK, .of (.inr ⟨⟨⟨⟨⟨rfl, by simp, HU.out, by simp; omega, by simp; omega, by simp; omega⟩, tb⟩, tP⟩, by simpa [hj] using tI⟩, tD⟩)⟩)
            · rcases hk01 with rfl | rfl
              · by_cases hs9 : stop = (j : Int) + 1
                · subst hs9
                  gi_wp2_with fail
                  all_goals (obtain ⟨tb, tP, tI, tD, tK⟩ := HT.out; exact ⟨tK, .of (.inr ⟨⟨⟨⟨⟨rfl, by simp, HU.out, by simp; omega, by simp; omega, by simp; omega⟩, tb⟩, tP⟩, by simpa [hj] using tI⟩, tD⟩)⟩)
                · have hs8 : stop < 1 ∨ (j : Int) + 1 < stop := by have := hp2.out rfl; omega
                  have hs7 : ¬ ((j : Int) + 1 = stop) := by omega
                  gi_wp2_with fail
                  all_goals (obtain ⟨tb, tP, tI, tD, tK⟩ := HT.out; exact ⟨tK, tb.fc.trans HC.out.symm, .of ⟨⟨⟨⟨⟨HU.out, by simp; omega, fun _ => by simp; omega⟩, tb⟩, tP⟩, by simpa [hj] using tI⟩, tD⟩⟩)
              · gi_wp2_with fail
                all_goals (obtain ⟨tb, tP, tI, tD, tK⟩ := HT.out; exact ⟨tK, tb.fc.trans HC.out.symm, .of ⟨⟨⟨⟨⟨HU.out, by simp; omega, fun h => by simp at h⟩, tb⟩, tP⟩, by simpa [hj] using tI⟩, tD⟩⟩)
          case stop2 =>
            rintro c pre' V hpre (hne | ⟨⟨⟨⟨⟨⟨⟨rfl, h50⟩, ub⟩, uP⟩, uI⟩, uB⟩, uD⟩, uK⟩)
            · exact absurd (prefix_upto (hpl ▸ hpre)) hne
            · have hjN : pre'.length ≤ N := by have := hpre.length_le; rw [hpl, upto_length] at this; exact this
              clear hpre
              rw [h50] at uB hjN
              have hN50 : ((N : Int) ≤ 50 ∧ 50 ≤ (N : Int)) ∨ 50 < (N : Int) := by omega
              have HT := Lib.hid (And.intro ub (And.intro uP (And.intro uI (And.intro uD uK))))
              clear uK uD
              have cK := uB.cell
              have cN := ub.fn.cell
              have cI := uI.cell
              have cP := uP.cell
              have cS := ub.fs.cell
              have sK := uB.lt
              have sN := ub.fn.lt
              have sI := uI.lt
              have sP := uP.lt
              have sS := ub.fs.lt
              clear ub uP uI uB
              try dsimp only
              rcases hN50 with hN50 | hN50
              · by_cases h9 : (9000 : Int) ≤ (j : Int) + 1
                · gi_wp2_with fail
                  all_goals (obtain ⟨tb, tP, tI, tD, tK⟩ := HT.out; exact ⟨tK, .of (.inr ⟨⟨⟨⟨⟨rfl, by simp, HU.out, by simp; omega, by simp; omega, by simp; omega⟩, tb⟩, tP⟩, by simpa [hj] using tI⟩, tD⟩)⟩)
                · rcases hk01 with rfl | rfl
                  · by_cases hs9 : stop = (j : Int) + 1
                    · subst hs9
                      gi_wp2_with fail
                      all_goals (obtain ⟨tb, tP, tI, tD, tK⟩ := HT.out; exact ⟨tK, .of (.inr ⟨⟨⟨⟨⟨rfl, by simp, HU.out, by simp; omega, by simp; omega, by simp; omega⟩, tb⟩, tP⟩, by simpa [hj] using tI⟩, tD⟩)⟩)
                    · have hs8 : stop < 1 ∨ (j : Int) + 1 < stop := by have := hp2.out rfl; omega
                      have hs7 : ¬ ((j : Int) + 1 = stop) := by omega
                      gi_wp2_with fail
                      all_goals (obtain ⟨tb, tP, tI, tD, tK⟩ := HT.out; exact ⟨tK, tb.fc.trans HC.out.symm, .of ⟨⟨⟨⟨⟨HU.out, by simp; omega, fun _ => by simp; omega⟩, tb⟩, tP⟩, by simpa [hj] using tI⟩, tD⟩⟩)
                  · gi_wp2_with fail
                    all_goals (obtain ⟨tb, tP, tI, tD, tK⟩ := HT.out; exact ⟨tK, tb.fc.trans HC.out.symm, .of ⟨⟨⟨⟨⟨HU.out, by simp; omega, fun h => by simp at h⟩, tb⟩, tP⟩, by simpa [hj] using tI⟩, tD⟩⟩)
              · by_cases h9 : (9000 : Int) ≤ (j : Int) + 1
                · gi_wp2_with fail
                  all_goals (obtain ⟨tb, tP, tI, tD, tK⟩ := HT.out; exact ⟨tK, .of (.inr ⟨⟨⟨⟨⟨rfl, by simp, HU.out, by simp; omega, by simp; omega, by simp; omega⟩, tb⟩, tP⟩, by simpa [hj] using tI⟩, tD⟩)⟩)
                · rcases hk01 with rfl | rfl
                  · by_cases hs9 : stop = (j : Int) + 1
                    · subst hs9
                      gi_wp2_with fail
                      all_goals (obtain ⟨tb, tP, tI, tD, tK⟩ := HT.out; exact ⟨tK, .of (.inr ⟨⟨⟨⟨⟨rfl, by simp, HU.out, by simp; omega, by simp; omega, by simp; omega⟩, tb⟩, tP⟩, by simpa [hj] using tI⟩, tD⟩)⟩)
                    · have hs8 : stop < 1 ∨ (j : Int) + 1 < stop := by have := hp2.out rfl; omega
                      have hs7 : ¬ ((j : Int) + 1 = stop) := by omega
                      gi_wp2_with fail
                      all_goals (obtain ⟨tb, tP, tI, tD, tK⟩ := HT.out; exact ⟨tK, tb.fc.trans HC.out.symm, .of ⟨⟨⟨⟨⟨HU.out, by simp; omega, fun _ => by simp; omega⟩, tb⟩, tP⟩, by simpa [hj] using tI⟩, tD⟩⟩)
                  · gi_wp2_with fail
                    all_goals (obtain ⟨tb, tP, tI, tD, tK⟩ := HT.out; exact ⟨tK, tb.fc.trans HC.out.symm, .of ⟨⟨⟨⟨⟨HU.out, by simp; omega, fun h => by simp at h⟩, tb⟩, tP⟩, by simpa [hj] using tI⟩, tD⟩⟩)
        · have HT := Lib.hid (And.intro tb (And.intro tP (And.intro tI (And.intro tD (KY.from X.heap.size)))))
          have hw' : ¬ ((j : Int) + 1 = within) := fun h => hw h.symm
          clear tb tP tI tD KY hw
          by_cases h9 : (9000 : Int) ≤ (j : Int) + 1
          · gi_wp2_with fail
            all_goals (obtain ⟨tb, tP, tI, tD, tK⟩ := HT.out; exact ⟨tK, .of (.inr ⟨⟨⟨⟨⟨rfl, by simp, HU.out, by simp; omega, by simp; omega, by simp; omega⟩, tb⟩, tP⟩, by simpa [hj] using tI⟩, tD⟩)⟩)
          · rcases hk01 with rfl | rfl
            · by_cases hs9 : stop = (j : Int) + 1
              · subst hs9
                gi_wp2_with fail
                all_goals (obtain ⟨tb, tP, tI, tD, tK⟩ := HT.out; exact ⟨tK, .of (.inr ⟨⟨⟨⟨⟨rfl, by simp, HU.out, by simp; omega, by simp; omega, by simp; omega⟩, tb⟩, tP⟩, by simpa [hj] using tI⟩, tD⟩)⟩)
              · have hs8 : stop < 1 ∨ (j : Int) + 1 < stop := by have := hp2.out rfl; omega
                have hs7 : ¬ ((j : Int) + 1 = stop) := by omega
                gi_wp2_with fail
                all_goals first | (obtain ⟨tb, tP, tI, tD, tK⟩ := HT.out; exact ⟨tK, tb.fc.trans HC.out.symm, .of ⟨⟨⟨⟨⟨HU.out, by simp; omega, fun _ => by simp; omega⟩, tb⟩, tP⟩, by simpa [hj] using tI⟩, tD⟩⟩) | (exfalso; omega) | (rename_i hh; revert hh; simp; omega)
            · gi_wp2_with fail
              all_goals (obtain ⟨tb, tP, tI, tD, tK⟩ := HT.out; exact ⟨tK, tb.fc.trans HC.out.symm, .of ⟨⟨⟨⟨⟨HU.out, by simp; omega, fun h => by simp at h⟩, tb⟩, tP⟩, by simpa [hj] using tI⟩, tD⟩⟩)
      · have HN := Lib.hid (fun h => ex (HV.out h))
        obtain ⟨hb1, bP1, bI1, hD1, KW⟩ := hb2.out
        have KZ := Lib.hid (KW.trans ((KeepsOthers.setCell w5 ⟨R, 0, none⟩ (.bool false)).trans (KeepsOthers.alloc _ (.cells #[.int .i64 p1, .int .i64 p2] 30))))
        clear hb2 hb1 bP1 bI1 hD1 KW
        by_cases ex1 : x1 = p1
        · have ex2 : x2 ≠ p2 := fun h => ex (by rw [ex1, h])
          subst ex1
          clear ex HU HV
          gi_wp2_with fail
          exact ⟨KZ.out.from _, .of (.inl HN.out)⟩
        · clear ex HU HV
          gi_wp2_with fail
          exact ⟨KZ.out.from _, .of (.inl HN.out)⟩
    case done =>
      rintro D xs W' hD rfl ⟨⟨⟨⟨⟨hp, hp1, hp2⟩, hb1⟩, bP1⟩, bI1⟩, hD1⟩ hK
      rw [hpl, upto_length] at hp1 hp2 bI1
      have cP := bP1.cell
      have cI := bI1.cell
      have cN := hb1.fn.cell
      have cS := hb1.fs.cell
      have hNle : N ≤ 46006272 := hN ▸ count_le t l b r
      dsimp only
      have sP1 := bP1.lt
      have sN1 := hb1.fn.lt
      have sS1 := hb1.fs.lt
      have sI1 := bI1.lt
      have hN9 : (N : Int) ≤ 8999 := by omega
      have hN0 : (0 : Int) ≤ N := by omega
      have HS := Lib.hid (And.intro hb1 (And.intro bP1 (And.intro hD1 hK)))
      have hDD : (∀ E ∈ D :: Ds, w.heap.size ≤ E) ∧ (D :: Ds).Nodup := by
        have := hbx.fb.size
        refine ⟨fun E hE => ?_, ?_⟩
        · rcases List.mem_cons.1 hE with rfl | hE
          · omega
          · exact hDw E hE
        · exact List.nodup_cons.2 ⟨fun hE => by have := hDl D hE; omega, hDn⟩
      clear hb1 bP1 bI1 hD1 hp hK
      have hk01 : k = 0 ∨ k = 1 := by omega
      rcases hk01 with rfl | rfl
      · by_cases hs1 : 1 ≤ stop
        · have hs2 : (N : Int) < stop := by have := hp2 rfl; omega
          clear hp2
          gi_wp2_with fail
          obtain ⟨hb1, bP1, hD1, hK⟩ := HS.out
          (first | refine ⟨LInv.of ?_, by simp [hk]⟩ | refine LInv.of ?_); exact ⟨1, W'.heap.size, _, _, _, _, _, _, _, _, _, _, _, _, _, _, _, _, _, _, _, _, _, _, D :: Ds, rfl, by simp [hk], by omega, by omega, hb1.alloc _, Boxed.new W' 3 _, Defs.cons ((KeepsOthers.alloc _ _).same D _ hK rfl) (hD1.others (KeepsOthers.alloc _ _)), hDD.1, hDD.2⟩
        · have hs2 : stop < 1 := by omega
          clear hp2
          gi_wp2_with fail
          obtain ⟨hb1, bP1, hD1, hK⟩ := HS.out
          (first | refine ⟨LInv.of ?_, by simp [hk]⟩ | refine LInv.of ?_); exact ⟨1, W'.heap.size, _, _, _, _, _, _, _, _, _, _, _, _, _, _, _, _, _, _, _, _, _, _, D :: Ds, rfl, by simp [hk], by omega, by omega, hb1.alloc _, Boxed.new W' 3 _, Defs.cons ((KeepsOthers.alloc _ _).same D _ hK rfl) (hD1.others (KeepsOthers.alloc _ _)), hDD.1, hDD.2⟩
      · clear hp2
        gi_wp2_with fail
        obtain ⟨hb1, bP1, hD1, hK⟩ := HS.out
        (first | refine ⟨LInv.of ?_, by simp [hk]⟩ | refine LInv.of ?_); exact ⟨2, W'.heap.size, _, _, _, _, _, _, _, _, _, _, _, _, _, _, _, _, _, _, _, _, _, _, D :: Ds, rfl, by simp [hk], by omega, by omega, hb1.alloc _, Boxed.new W' 3 _, Defs.cons ((KeepsOthers.alloc _ _).same D _ hK rfl) (hD1.others (KeepsOthers.alloc _ _)), hDD.1, hDD.2⟩
    case stop =>
      rintro D c pre W' hD hpre (hne | ⟨⟨⟨⟨⟨rfl, hp0, hp, h9, h8, hs⟩, hb1⟩, bP1⟩, bI1⟩, hD1⟩) hK
      · exact absurd (prefix_upto (hpl ▸ hpre)) hne
      · have hjN : pre.length ≤ N := by have := hpre.length_le; rw [hpl, upto_length] at this; exact this
        clear hp hpre
        generalize pre.length = j at *
        have cP := bP1.cell
        have cI := bI1.cell
        have cN := hb1.fn.cell
        have cS := hb1.fs.cell
        have hNle : N ≤ 46006272 := hN ▸ count_le t l b r
        have sP1 := bP1.lt
        have sN1 := hb1.fn.lt
        have sS1 := hb1.fs.lt
        have sI1 := bI1.lt
        have HS := Lib.hid (And.intro hb1 (And.intro bP1 (And.intro hD1 hK)))
        have hDD : (∀ E ∈ D :: Ds, w.heap.size ≤ E) ∧ (D :: Ds).Nodup := by
          have := hbx.fb.size
          refine ⟨fun E hE => ?_, ?_⟩
          · rcases List.mem_cons.1 hE with rfl | hE
            · omega
            · exact hDw E hE
          · exact List.nodup_cons.2 ⟨fun hE => by have := hDl D hE; omega, hDn⟩
        clear hb1 bP1 bI1 hD1 hK
        have hk01 : k = 0 ∨ k = 1 := by omega
        rcases hk01 with rfl | rfl
        · replace hs := hs rfl
          by_cases hs1 : 1 ≤ stop
          · have hcase : ((N : Int) < 9000 ∨ ((N : Int) ≤ 9000 ∧ 9000 ≤ (N : Int)) ∨ 9000 < (N : Int)) ∧ ((N : Int) < 9000 → stop < (N : Int) ∨ (stop ≤ N ∧ N ≤ stop) ∨ (N : Int) < stop) ∧ (9000 ≤ (N : Int) → stop < 9000 ∨ (stop ≤ 9000 ∧ 9000 ≤ stop) ∨ 9000 < stop) := by omega
            obtain ⟨h1 | h1 | h1, h2, h3⟩ := hcase
            · rcases h2 h1 with h4 | h4 | h4
              all_goals
                have h5 : (j : Int) = stop := by omega
                clear h2 h3 h9 hs
                first
                | (exfalso; omega)
                | (gi_wp2_with fail
                   obtain ⟨hb1, bP1, hD1, hK⟩ := HS.out
                   (first | refine ⟨LInv.of ?_, by simp [hk]⟩ | refine LInv.of ?_); exact ⟨1, W'.heap.size, _, _, _, _, _, _, _, _, _, _, _, _, _, _, _, _, _, _, _, _, _, _, D :: Ds, rfl, by simp [hk], by omega, by omega, hb1.alloc _, Boxed.new W' 3 _, Defs.cons ((KeepsOthers.alloc _ _).same D _ hK rfl) (hD1.others (KeepsOthers.alloc _ _)), hDD.1, hDD.2⟩)
            · rcases h3 (by omega) with h4 | h4 | h4
              · have h5 : (j : Int) = stop := by omega
                clear h2 h3 h9 hs
                gi_wp2_with fail
                obtain ⟨hb1, bP1, hD1, hK⟩ := HS.out
                (first | refine ⟨LInv.of ?_, by simp [hk]⟩ | refine LInv.of ?_); exact ⟨1, W'.heap.size, _, _, _, _, _, _, _, _, _, _, _, _, _, _, _, _, _, _, _, _, _, _, D :: Ds, rfl, by simp [hk], by omega, by omega, hb1.alloc _, Boxed.new W' 3 _, Defs.cons ((KeepsOthers.alloc _ _).same D _ hK rfl) (hD1.others (KeepsOthers.alloc _ _)), hDD.1, hDD.2⟩
              · have h5 : (j : Int) = 9000 := by omega
                clear h2 h3 h9 hs
                gi_wp2_with fail
                obtain ⟨hb1, bP1, hD1, hK⟩ := HS.out
                (first | refine ⟨LInv.of ?_, by simp [hk]⟩ | refine LInv.of ?_); exact ⟨1, W'.heap.size, _, _, _, _, _, _, _, _, _, _, _, _, _, _, _, _, _, _, _, _, _, _, D :: Ds, rfl, by simp [hk], by omega, by omega, hb1.alloc _, Boxed.new W' 3 _, Defs.cons ((KeepsOthers.alloc _ _).same D _ hK rfl) (hD1.others (KeepsOthers.alloc _ _)), hDD.1, hDD.2⟩
              · have h5 : (j : Int) = 9000 := by omega
                clear h2 h3 h9 hs
                gi_wp2_with fail
                obtain ⟨hb1, bP1, hD1, hK⟩ := HS.out
                (first | refine ⟨LInv.of ?_, by simp [hk]⟩ | refine LInv.of ?_); exact ⟨1, W'.heap.size, _, _, _, _, _, _, _, _, _, _, _, _, _, _, _, _, _, _, _, _, _, _, D :: Ds, rfl, by simp [hk], by omega, by omega, hb1.alloc _, Boxed.new W' 3 _, Defs.cons ((KeepsOthers.alloc _ _).same D _ hK rfl) (hD1.others (KeepsOthers.alloc _ _)), hDD.1, hDD.2⟩
            · rcases h3 (by omega) with h4 | h4 | h4
              · have h5 : (j : Int) = stop := by omega
                clear h2 h3 h9 hs
                gi_wp2_with fail
                obtain ⟨hb1, bP1, hD1, hK⟩ := HS.out
                (first | refine ⟨LInv.of ?_, by simp [hk]⟩ | refine LInv.of ?_); exact ⟨1, W'.heap.size, _, _, _, _, _, _, _, _, _, _, _, _, _, _, _, _, _, _, _, _, _, _, D :: Ds, rfl, by simp [hk], by omega, by omega, hb1.alloc _, Boxed.new W' 3 _, Defs.cons ((KeepsOthers.alloc _ _).same D _ hK rfl) (hD1.others (KeepsOthers.alloc _ _)), hDD.1, hDD.2⟩
              · have h5 : (j : Int) = 9000 := by omega
                clear h2 h3 h9 hs
                gi_wp2_with fail
                obtain ⟨hb1, bP1, hD1, hK⟩ := HS.out
                (first | refine ⟨LInv.of ?_, by simp [hk]⟩ | refine LInv.of ?_); exact ⟨1, W'.heap.size, _, _, _, _, _, _, _, _, _, _, _, _, _, _, _, _, _, _, _, _, _, _, D :: Ds, rfl, by simp [hk], by omega, by omega, hb1.alloc _, Boxed.new W' 3 _, Defs.cons ((KeepsOthers.alloc _ _).same D _ hK rfl) (hD1.others (KeepsOthers.alloc _ _)), hDD.1, hDD.2⟩
              · have h5 : (j : Int) = 9000 := by omega
                clear h2 h3 h9 hs
                gi_wp2_with fail
                obtain ⟨hb1, bP1, hD1, hK⟩ := HS.out
                (first | refine ⟨LInv.of ?_, by simp [hk]⟩ | refine LInv.of ?_); exact ⟨1, W'.heap.size, _, _, _, _, _, _, _, _, _, _, _, _, _, _, _, _, _, _, _, _, _, _, D :: Ds, rfl, by simp [hk], by omega, by omega, hb1.alloc _, Boxed.new W' 3 _, Defs.cons ((KeepsOthers.alloc _ _).same D _ hK rfl) (hD1.others (KeepsOthers.alloc _ _)), hDD.1, hDD.2⟩
          · have hs2 : stop < 1 := by omega
            have h5 : (j : Int) = 9000 := by omega
            clear h9 hs
            have h1 : ((N : Int) ≤ 9000 ∧ 9000 ≤ (N : Int)) ∨ 9000 < (N : Int) := by omega
            rcases h1 with h1 | h1
            · gi_wp2_with fail
              obtain ⟨hb1, bP1, hD1, hK⟩ := HS.out
              (first | refine ⟨LInv.of ?_, by simp [hk]⟩ | refine LInv.of ?_); exact ⟨1, W'.heap.size, _, _, _, _, _, _, _, _, _, _, _, _, _, _, _, _, _, _, _, _, _, _, D :: Ds, rfl, by simp [hk], by omega, by omega, hb1.alloc _, Boxed.new W' 3 _, Defs.cons ((KeepsOthers.alloc _ _).same D _ hK rfl) (hD1.others (KeepsOthers.alloc _ _)), hDD.1, hDD.2⟩
            · gi_wp2_with fail
              obtain ⟨hb1, bP1, hD1, hK⟩ := HS.out
              (first | refine ⟨LInv.of ?_, by simp [hk]⟩ | refine LInv.of ?_); exact ⟨1, W'.heap.size, _, _, _, _, _, _, _, _, _, _, _, _, _, _, _, _, _, _, _, _, _, _, D :: Ds, rfl, by simp [hk], by omega, by omega, hb1.alloc _, Boxed.new W' 3 _, Defs.cons ((KeepsOthers.alloc _ _).same D _ hK rfl) (hD1.others (KeepsOthers.alloc _ _)), hDD.1, hDD.2⟩
        · have h5 : (j : Int) = 9000 := by omega
          clear h9 hs
          have h1 : ((N : Int) ≤ 9000 ∧ 9000 ≤ (N : Int)) ∨ 9000 < (N : Int) := by omega
          rcases h1 with h1 | h1
          · gi_wp2_with fail
            obtain ⟨hb1, bP1, hD1, hK⟩ := HS.out
            (first | refine ⟨LInv.of ?_, by simp [hk]⟩ | refine LInv.of ?_); exact ⟨2, W'.heap.size, _, _, _, _, _, _, _, _, _, _, _, _, _, _, _, _, _, _, _, _, _, _, D :: Ds, rfl, by simp [hk], by omega, by omega, hb1.alloc _, Boxed.new W' 3 _, Defs.cons ((KeepsOthers.alloc _ _).same D _ hK rfl) (hD1.others (KeepsOthers.alloc _ _)), hDD.1, hDD.2⟩
          · gi_wp2_with fail
            obtain ⟨hb1, bP1, hD1, hK⟩ := HS.out
            (first | refine ⟨LInv.of ?_, by simp [hk]⟩ | refine LInv.of ?_); exact ⟨2, W'.heap.size, _, _, _, _, _, _, _, _, _, _, _, _, _, _, _, _, _, _, _, _, _, _, D :: Ds, rfl, by simp [hk], by omega, by omega, hb1.alloc _, Boxed.new W' 3 _, Defs.cons ((KeepsOthers.alloc _ _).same D _ hK rfl) (hD1.others (KeepsOthers.alloc _ _)), hDD.1, hDD.2⟩
end Go.Proofs.Ythcogckkeegokaa
