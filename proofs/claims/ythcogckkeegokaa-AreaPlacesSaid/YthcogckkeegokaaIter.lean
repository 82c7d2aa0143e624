/- area.All: the iterator gives the places of an area in row order, to every loop body that keeps what lay below a bound. -/
import Derived.RangeFuncNested
import Derived.RangeFuncBound
import Derived.RangeFuncCalls
import Derived.RangeFuncLeaves
import Derived.Shelf.Abstract
import Derived.Shelf.RegionOpen
import Derived.OwnWalkIn
import Derived.TacticsInMore
import Derived.LoopNIn
import Derived.LoopIn
import Derived.Test.YthcogckkeegokaaMove
namespace Go.Proofs.Ythcogckkeegokaa
set_option linter.unusedVariables false
set_option linter.unusedSimpArgs false
open Go.RowKit Go.Shelf

attribute [local go_sem] Oper.semAt_some

/-- The i-th place of an area whose first place is (t, l) and whose rows have m places. -/
def placeAt (t l : Int) (m : Nat) (i : Nat) : Int × Int := (t + ((i / m : Nat) : Int), l + ((i % m : Nat) : Int))
def upto (t l : Int) (m k : Nat) : List (Int × Int) := (List.range k).map (placeAt t l m)
/-- How many places. -/
def count (t l b r : Int) : Nat := if areaB t l b r = true then (b - t + 1).toNat * (r - l + 1).toNat else 0
/-- All places in row order. -/
def placesL (t l b r : Int) : List (Int × Int) := upto t l (r - l + 1).toNat (count t l b r)

theorem upto_succ (t l : Int) (m k : Nat) : upto t l m (k + 1) = upto t l m k ++ [placeAt t l m k] := by simp [upto, List.range_succ]
theorem upto_length (t l : Int) (m k : Nat) : (upto t l m k).length = k := by simp [upto]
theorem upto_prefix (t l : Int) (m k n : Nat) (h : k ≤ n) : upto t l m k <+: upto t l m n := by
  obtain ⟨d, rfl⟩ := Nat.exists_eq_add_of_le h
  refine ⟨(List.range d).map fun i => placeAt t l m (k + i), ?_⟩
  simp [upto, List.range_add, List.map_map]
theorem placeAt_rc (t l : Int) (m i j : Nat) (hj : j < m) : placeAt t l m (i * m + j) = (t + i, l + j) := by
  have hm : 0 < m := by omega
  have e1 : (i * m + j) / m = i := by rw [Nat.mul_comm, Nat.mul_add_div hm, Nat.div_eq_of_lt hj, Nat.add_zero]
  have e2 : (i * m + j) % m = j := by rw [Nat.mul_comm, Nat.mul_add_mod, Nat.mod_eq_of_lt hj]
  rw [placeAt, e1, e2]

/-- The four numbers of an area in block Bn. -/
def AreaAt (W : World) (Bn : Nat) (t l b r : Int) : Prop :=
  W.cell? ⟨Bn, 0, none⟩ = some (.int .i64 t) ∧ W.cell? ⟨Bn, 1, none⟩ = some (.int .i64 l) ∧ W.cell? ⟨Bn, 2, none⟩ = some (.int .i64 b) ∧ W.cell? ⟨Bn, 3, none⟩ = some (.int .i64 r)
theorem AreaAt.below {W W' : World} {B Bn : Nat} {t l b r : Int} (h : AreaAt W Bn t l b r) (hb : Below B W W') (hlt : Bn < B) : AreaAt W' Bn t l b r :=
  ⟨(hb.cell (p := ⟨Bn, 0, none⟩) hlt).trans h.1, (hb.cell (p := ⟨Bn, 1, none⟩) hlt).trans h.2.1, (hb.cell (p := ⟨Bn, 2, none⟩) hlt).trans h.2.2.1, (hb.cell (p := ⟨Bn, 3, none⟩) hlt).trans h.2.2.2⟩

/-- Block Bn is as it was. -/
def KeepBlock (Bn : Nat) (W W' : World) : Prop := W'.heap[Bn]? = W.heap[Bn]?
theorem AreaAt.keep {W W' : World} {Bn : Nat} {t l b r : Int} (h : AreaAt W Bn t l b r) (hk : KeepBlock Bn W W') : AreaAt W' Bn t l b r :=
  ⟨(World.cell?_of_block (a := ⟨Bn, 0, none⟩) hk).trans h.1, (World.cell?_of_block (a := ⟨Bn, 1, none⟩) hk).trans h.2.1, (World.cell?_of_block (a := ⟨Bn, 2, none⟩) hk).trans h.2.2.1, (World.cell?_of_block (a := ⟨Bn, 3, none⟩) hk).trans h.2.2.2⟩
theorem KeepBlock.trans {Bn : Nat} {A B C : World} (h : KeepBlock Bn A B) (k : KeepBlock Bn B C) : KeepBlock Bn A C := Eq.trans k h
theorem keepBlock_put {Bn : Nat} {w : World} (hB : Bn < w.heap.size) (W : World) (l : Nat) (o o' : Obj) (hl : w.heap.size ≤ l) (_ : W.heap[l]? = some o) (_ : o.isCells = false) (_ : o.isWalk = false) : KeepBlock Bn W (W.putObj l o') :=
  World.putObj_heap_other (by omega)
theorem grown_of_below {W W' : World} (h : Below W.heap.size W W') : W.grownBy W' none := ⟨h.os, h.tape, h.output, h.size, fun k hk _ => h.block k hk⟩

set_option maxRecDepth 100000 in
set_option maxHeartbeats 1000000 in
theorem iter_bad (n : Nat) (hn : 1 ≤ n) (l0 Bn : Nat) (t l b r : Int) (ha : areaB t l b r = false) (J Jx : List (Int × Int) → World → Prop)
    (W : World) (hJ : AbidesFrom W.heap.size J) (hc : AreaAt W Bn t l b r) (h0 : J [] W) :
    CallsIn Fence.wide n Try.prog 20 #[.func (.yield l0) #[] #[], .pointer (some ⟨Bn, 0, none⟩)] W fun e W' => (∃ v, e = .returned v) ∧
      ((∃ ys, ys = ([] : List (Int × Int)) ∧ J ys W') ∨ (∃ pre, pre <+: ([] : List (Int × Int)) ∧ Jx pre W')) := by
  obtain ⟨c0, c1, c2, c3⟩ := hc
  refine callsIn_of_wp Try.func20 rfl trivial ?_ rfl
  simp only [Try.ntmps20, List.size_toArray, List.length_cons, List.length_nil, Nat.reduceAdd, Nat.reduceSub, Array.replicate_succ, Array.replicate_zero, List.push_toArray, List.append_toArray, List.nil_append, List.cons_append]
  gi_wp2_with (refine ⟨trivial, ?_⟩; gi_at_call 13; refine (callsIn_wide.2 (may13 t l b r _)).mono ?_; rw [areaE_no ha]; rintro e w1 ⟨rfl, hb1⟩)
  refine bodyPost_ret (results_none rfl _ _ _) rfl ?_
  exact ⟨⟨_, rfl⟩, .inl ⟨[], rfl, hJ [] W w1 none h0 (grown_of_below hb1) (fun r e => by cases e)⟩⟩

set_option maxRecDepth 100000 in
set_option maxHeartbeats 2000000 in
theorem iter_good (n : Nat) (hn : 1 ≤ n) (l0 Bn : Nat) (t l b r : Int) (ha : areaB t l b r = true) (J Jx : List (Int × Int) → World → Prop)
    (W : World) (hJ : AbidesFrom W.heap.size J)
    (hY : ∀ pre x W1, J pre W1 → pre.length < count t l b r → YieldAt Fence.wide (n - 1) Try.prog l0 #[.agg #[.int .i64 x.1, .int .i64 x.2]] W1 fun e W' =>
      (e = .returned (.bool true) ∧ J (pre ++ [x]) W' ∧ KeepBlock Bn W1 W') ∨ (e = .returned (.bool false) ∧ Jx (pre ++ [x]) W'))
    (hc : AreaAt W Bn t l b r) (h0 : J [] W) :
    CallsIn Fence.wide n Try.prog 20 #[.func (.yield l0) #[] #[], .pointer (some ⟨Bn, 0, none⟩)] W fun e W' => (∃ v, e = .returned v) ∧
      ((∃ ys, ys = placesL t l b r ∧ J ys W') ∨ (∃ pre, pre <+: placesL t l b r ∧ Jx pre W')) := by
  obtain ⟨a1, a2, a3, a4, a5, a6⟩ := areaB_bd ha
  have hcnt : count t l b r = (b - t + 1).toNat * (r - l + 1).toNat := by simp [count, ha]
  obtain ⟨H, hH⟩ : ∃ H : Nat, (b - t + 1).toNat = H := ⟨_, rfl⟩
  obtain ⟨M, hM⟩ : ∃ M : Nat, (r - l + 1).toNat = M := ⟨_, rfl⟩
  have hpl : placesL t l b r = upto t l M (H * M) := by rw [placesL, hcnt, hH, hM]
  rw [hH, hM] at hcnt
  rw [hcnt] at hY
  rw [hpl]
  have hb' : b = t + H - 1 := by omega
  have hr' : r = l + M - 1 := by omega
  have HY := Lib.hid hY
  have HJ := Lib.hid hJ
  clear hY hJ hcnt hpl
  obtain ⟨c0, c1, c2, c3⟩ := hc
  refine callsIn_of_wp Try.func20 rfl trivial ?_ rfl
  simp only [Try.ntmps20, List.size_toArray, List.length_cons, List.length_nil, Nat.reduceAdd, Nat.reduceSub, Array.replicate_succ, Array.replicate_zero, List.push_toArray, List.append_toArray, List.nil_append, List.cons_append]
  have Hb := Lib.hid hb'
  have Hr := Lib.hid hr'
  have HH := Lib.hid hH
  have HM := Lib.hid hM
  clear hb' hr' hH hM
  gi_wp2_with (refine ⟨trivial, ?_⟩; gi_at_call 13; refine (callsIn_wide.2 (may13 t l b r _)).mono ?_; rw [areaE_yes ha]; rintro e w1 ⟨rfl, hb1⟩; replace c0 := cell_below c0 hb1; replace c1 := cell_below c1 hb1; replace c2 := cell_below c2 hb1; replace c3 := cell_below c3 hb1)
  have h0' : J [] w1 := HJ.out [] W w1 none h0 (grown_of_below hb1) (fun r e => by cases e)
  clear h0 hb1 ha
  gi_loopw [3] (fun p wr => ∃ i : Nat, i ≤ H ∧ p = .int .i64 (t + i) ∧ J (upto t l M (i * M)) wr ∧ AreaAt wr Bn t l b r) (fun p _ => H - (intOf p - t).toNat)
  case atStart => exact ⟨0, by omega, by simp, by simpa [upto] using h0', c0, c1, c2, c3⟩
  case round =>
    obtain ⟨i, hi, rfl, hj, hc⟩ := hrel
    have hb' := Hb.out
    have hr' := Hr.out
    clear c0 c1 c2 c3 h0'
    obtain ⟨c0, c1, c2, c3⟩ := hc
    by_cases hlt : i < H
    · have hle : t + (i : Int) ≤ b := by omega
      clear hb' hr'
      gi_wp2
      obtain ⟨wo, rfl⟩ : ∃ wo : World, wo = wr := ⟨_, rfl⟩
      gi_loopw [4] (fun p wr => ∃ j : Nat, j ≤ M ∧ p = .int .i64 (l + j) ∧ J (upto t l M (i * M + j)) wr ∧ AreaAt wr Bn t l b r) (fun p _ => M - (intOf p - l).toNat)
      case atStart => exact ⟨0, by omega, by simp, hj, c0, c1, c2, c3⟩
      case round =>
        obtain ⟨j, hjM, rfl, hj', hc⟩ := hrel
        have hr' := Hr.out
        clear c0 c1 c2 c3 hj
        obtain ⟨c0, c1, c2, c3⟩ := hc
        by_cases hlt2 : j < M
        · have hle2 : l + (j : Int) ≤ r := by omega
          clear hr'
          have hx := placeAt_rc t l M i j hlt2
          have hlen : (upto t l M (i * M + j)).length < H * M := by
            rw [upto_length]
            have h1 : i * M + M ≤ H * M := by
              rw [← Nat.succ_mul]
              exact Nat.mul_le_mul_right M hlt
            omega
          obtain ⟨fn, tmps, assign, body, hy, hR⟩ := HY.out _ (t + (i : Int), l + (j : Int)) wr hj' hlen
          rw [← hx, ← upto_succ] at hR
          have HR := Lib.hid hR
          clear hx hlen hR
          dsimp only at hy
          gi_wp2
          refine HR.out.mono ?_
          rintro e W3 (⟨rfl, hJ3, hk3⟩ | ⟨rfl, hJx3⟩)
          · have hA3 : AreaAt W3 Bn t l b r := AreaAt.keep (W := wr) ⟨c0, c1, c2, c3⟩ hk3
            obtain ⟨d0, d1, d2, d3⟩ := hA3
            clear c0 c1 c2 c3 hk3 hj'
            gi_wp2
            go_roundw
            case rel => exact ⟨j + 1, by omega, by go_num, hJ3, d0, d1, d2, d3⟩
            case measure => simp [intOf]; omega
          · have hpf : upto t l M (i * M + j + 1) <+: upto t l M (H * M) := upto_prefix t l M _ _ (by
              have h1 : i * M + M ≤ H * M := by
                rw [← Nat.succ_mul]
                exact Nat.mul_le_mul_right M hlt
              omega)
            have HP := Lib.hid hpf
            clear hpf
            gi_wp2
            refine bodyPost_ret (results_none rfl _ _ _) rfl ?_
            exact ⟨⟨_, rfl⟩, .inr ⟨_, HP.out, hJx3⟩⟩
        · obtain rfl : j = M := by omega
          have hgt : ¬ l + (j : Int) ≤ r := by omega
          clear hr'
          have hj2 : J (upto t l j ((i + 1) * j)) wr := by rw [Nat.succ_mul]; exact hj'
          clear hj'
          gi_wp2
          go_roundw
          case rel => exact ⟨i + 1, by omega, by go_num, hj2, c0, c1, c2, c3⟩
          case measure => simp [intOf]; omega
    · obtain rfl : i = H := by omega
      have hgt : ¬ t + (i : Int) ≤ b := by omega
      clear hb' hr'
      gi_wp2
      go_end0
      exact ⟨⟨_, rfl⟩, .inl hj⟩

/-- area.All(a)'s value: all the area's places, in row order; or a prefix of them, where a round has said no more. -/
theorem all_stops (n : Nat) (hn : 1 ≤ n) (Bn : Nat) (t l b r : Int) (w : World) (hBn : Bn < w.heap.size) (hc : AreaAt w Bn t l b r) :
    SeqStopsK Fence.wide n Try.prog 20 #[.pointer (some ⟨Bn, 0, none⟩)] (fun x : Int × Int => #[.agg #[.int .i64 x.1, .int .i64 x.2]]) (KeepBlock Bn) (fun ys => ys = placesL t l b r) (fun pre => pre <+: placesL t l b r) (count t l b r) w :=
  fun l0 J Jx W hW hJ _ hY h0 => by
    have hc' : AreaAt W Bn t l b r := hc.below hW hBn
    cases ha : areaB t l b r
    · have e1 : placesL t l b r = [] := by simp [placesL, count, ha, upto]
      rw [e1]
      exact iter_bad n hn l0 Bn t l b r ha J Jx W hJ hc' h0
    · exact iter_good n hn l0 Bn t l b r ha J Jx W hJ hY hc' h0

set_option maxHeartbeats 400000 in
theorem all9 (t l b r : Int) (w : World) :
    Calls Try.prog 9 #[.agg #[.int .i64 t, .int .i64 l, .int .i64 b, .int .i64 r]] w fun e w' => e = .returned (.func (.func 20) #[] #[.pointer (some ⟨w.heap.size, 0, none⟩)]) ∧
      w' = w.alloc (.cells #[.int .i64 t, .int .i64 l, .int .i64 b, .int .i64 r] 23) := by
  go_enter Try.func9, Try.ntmps9
  go_wp2
  go_ret
  exact ⟨rfl, rfl⟩
end Go.Proofs.Ythcogckkeegokaa
