/- quadrillelaw6.HashLow answers true at every input, and leaves its arguments as they were. No condition. -/
import Derived.Test.YtdifbfhmeljblaaFrame
import Derived.Test.YtdifbfhmeljblaaBegun
namespace Go.Proofs.Ytdifbfhmeljblaa
set_option linter.unusedVariables false
set_option linter.unusedSimpArgs false
open Go.RowKit

theorem low_step (x : Int) (i : Nat) (h0 : 0 ≤ x) (h1 : x < 18446744073709551616) (hi : i < 64) :
    bits .or .u64 (x % 2 ^ i) (bits .and .u64 x (IntKind.u64.wrap (2 ^ i))) = x % 2 ^ (i + 1) := by
  obtain ⟨y, rfl⟩ := Int.eq_ofNat_of_zero_le h0
  have hp := pow_lt i hi
  have hp1 : 2 ^ (i + 1) ≤ 18446744073709551616 := by rw [Nat.pow_succ]; omega
  have e : IntKind.u64.wrap (2 ^ i) = ((2 ^ i : Nat) : Int) := by
    rw [int_pow, IntKind.wrap_u64]
    generalize 2 ^ i = p at hp
    omega
  rw [e, u64_and_nat y _ (by omega) (by omega), int_pow, int_pow, ← Int.natCast_emod, ← Int.natCast_emod]
  have hb : y &&& 2 ^ i ≤ 2 ^ i := Nat.and_le_right
  have hm : y % 2 ^ i < 2 ^ i := Nat.mod_lt _ (Nat.two_pow_pos i)
  rw [u64_or_nat _ _ (by omega) (by omega)]
  congr 1
  rw [nat_bit, Nat.or_comm, nat_join i _ _ (by simp) hm, Nat.mod_pow_succ]
  rw [Nat.mul_comm, Nat.add_comm]

set_option maxRecDepth 100000 in
set_option maxHeartbeats 1000000 in
theorem hashLow_walk (k n : Int) (s : ByteArray) (wd : Int) (w : World) (hn : -9223372036854775808 ≤ n ∧ n ≤ 9223372036854775807) (hs : s.size ≤ maxLen) :
    Calls Try.prog 5 #[.agg #[.int .i64 k, .int .i64 n, .string s], .int .i64 wd] w fun e w' => e = .returned (.bool true) ∧ Below w.heap.size w w' := by
  have HN := Lib.hid hn
  have HS := Lib.hid hs
  clear hn hs
  go_enter Try.func5, Try.ntmps5
  go_wp2_with fail
  refine (begun9 _).mono ?_
  rintro e w1 ⟨rfl, hb1⟩
  obtain ⟨⟨hc0, hc1, hc2⟩, _, hb0, hsz⟩ := box3 hb1
  by_cases hwd : wd < 0 ∨ 64 < wd
  · go_wp2_with fail
    refine (sum13_bad k n s wd _ hwd).mono ?_
    rintro e w2 ⟨rfl, hb2⟩
    have HB := Lib.hid (hb0.trans (hb2.mono (Nat.le_of_lt hsz)))
    clear hb0 hb1 hb2 hc0 hc1 hc2
    rcases hwd with h | h
    · go_wp2_with fail
      go_ret
      exact ⟨rfl, HB.out⟩
    · have h' : ¬ wd < 0 := by omega
      go_wp2_with fail
      go_ret
      exact ⟨rfl, HB.out⟩
  · have h0 : ¬ wd < 0 := by omega
    have h1 : ¬ 64 < wd := by omega
    go_wp2_with fail
    refine (sum13 k n s wd _ (by omega) (by omega) HN.out HS.out).mono ?_
    rintro e w2 ⟨rfl, hb2⟩
    obtain ⟨⟨hc0, hc1, hc2⟩, _, hb0, hsz⟩ := box3 (hb1.trans (hb2.mono hb1.size))
    have HB1 := Lib.hid hb1
    have HB2 := Lib.hid hb2
    clear hb1 hb2
    go_wp2_with fail
    refine (sum13 k n s 64 _ (by omega) (by omega) HN.out HS.out).mono ?_
    have e64 : fnv (bytesV k n s) % 2 ^ (64 : Int).toNat = fnv (bytesV k n s) := Int.emod_eq_of_lt (fnv_bd _).1 (fnv_bd _).2
    rw [e64]
    clear e64
    rintro e w3 ⟨rfl, hb3⟩
    obtain ⟨⟨hc0, hc1, hc2⟩, _, hb0, hsz⟩ := box3 ((HB1.out.trans (HB2.out.mono HB1.out.size)).trans (hb3.mono (Nat.le_trans HB1.out.size HB2.out.size)))
    clear hb3 HB1 HB2
    go_wp2_with fail
    refine (bytes11 k n s _ HN.out HS.out).mono ?_
    have hlen := bytes_len k n s
    generalize bytesV k n s = l at hlen
    rintro e w4 ⟨g, cap, rfl, hown, hb4⟩
    have hh := Has.of_own hown
    have HB := Lib.hid (hb0.trans (hb4.mono (Nat.le_of_lt hsz)))
    clear hown hb4 hb0 hc0 hc1 hc2
    have hne : ((l.length : Int) == 0) = false := beq_eq_false_iff_ne.2 (by omega)
    go_wp2_with fail
    go_loop [10, 11] (fun h i => ∃ j : Nat, j ≤ l.length ∧ i = .int .i64 j ∧ h = .int .u64 (fnv (l.take j))) (fun _ i => l.length - (intOf i).toNat)
    case atStart => exact ⟨0, Nat.zero_le _, rfl, rfl⟩
    case round =>
      obtain ⟨j, hj, rfl, rfl⟩ := hrel
      by_cases hlt : j < l.length
      · have hc := hh j hlt
        clear hh
        go_wp2
        go_round
        case rel => exact ⟨j + 1, by omega, by go_num, by rw [fnv_snoc l j hlt]; rfl⟩
        case measure => simp [intOf]; omega
      · obtain rfl : j = l.length := by omega
        clear hh
        go_wp2_with fail
        go_loop [12, 13] (fun h i => ∃ j : Nat, j ≤ wd.toNat ∧ i = .int .i64 j ∧ h = .int .u64 (fnv l % 2 ^ j)) (fun _ i => wd.toNat - (intOf i).toNat)
        case atStart => exact ⟨0, Nat.zero_le _, rfl, by simp⟩
        case round =>
          obtain ⟨j, hj, rfl, rfl⟩ := hrel
          by_cases hlt2 : (j : Int) < wd
          · go_wp2
            go_round
            case rel => exact ⟨j + 1, by omega, by go_num, by rw [low_step _ j (fnv_bd l).1 (fnv_bd l).2 (by omega)]⟩
            case measure => simp [intOf]; omega
          · obtain rfl : j = wd.toNat := by omega
            go_wp2_with fail
            go_ret
            exact ⟨rfl, HB.out⟩

open Go.ChangeShapes Go.WideShapes Go.ChangeAt

set_option maxRecDepth 100000 in
theorem hashLow_lifted (os : Os) (started : os.Started) (H : Type) (enc : TypeId × Value → H) :
    ReturnsInHanded {} Try.checked os 5 .any (Rows.hashLowSpec.pre6 enc Try.prog Try.f5 Rows.hashLowRow.domain false) (Rows.hashLowSpec.post enc Try.prog Try.f5 false true false false) := by
  refine returnsInHanded_of_change (C := Try.checked) own_knob started (by kernel_rfl) Try.func5
    (ChangeSpec.witness6 (enc := enc) (C := Try.checked) false ⟨#[], #[.agg #[.int .i64 0, .int .i64 0, .string ⟨#[]⟩], .int .i64 0], []⟩ 8 (by kernel_rfl) (by kernel_rfl) (by kernel_rfl) (by kernel_rfl)) ?_
  intro W base args ds gs before hval0 hW _ _
  have hval : ∀ (j : Nat) t v, Try.f5.params[j]? = some t → args[j]? = some v → Value.okWide Try.prog W .any base t v := hval0
  have hW' := hW
  obtain ⟨p, q, hA0, hV, rfl, _, _⟩ := hW
  have hA : DataW.TrodAll enc Try.prog W 0 (fun _ => true) true Try.f5.params.toList args.toList ds p := hA0
  rw [Try.params5] at hA hval
  obtain ⟨v0, v1, d0, d1, p0, p1, rfl, rfl, rfl, h0, h1⟩ := trodAll_two hA
  obtain ⟨u, rfl, _, _, wn, hs⟩ := open_val (hval 0 28 v0 rfl rfl) h0
  obtain ⟨wd, rfl, _, _, _⟩ := open_int Try.underlying3 (hval 1 3 v1 rfl rfl) h1
  exact calls_law laidOut (by kernel_rfl) rfl Try.underlying4 rfl hW' ⟨rfl, rfl, rfl⟩ (hashLow_walk u.k u.n u.s wd W (wf64 wn) hs)

theorem hashLow_over : Rows.hashLowRow.holds Try.pinned (OpenSpec.ofChange Rows.hashLowSpec) :=
  OpenClaim.holds_of_wide 5 Try.f5 rfl rfl rfl rfl rfl rfl rfl ⟨rfl, rfl, rfl, rfl, rfl⟩ rfl rfl rfl rfl rfl (by kernel_rfl) Try.func5 (by kernel_rfl)
    (of_decide_eq_true (by kernel_rfl)) (by unfold Func.isWrapper; first | (rw [if_pos (by decide +kernel)]; kernel_rfl) | (rw [if_neg (by decide +kernel)]; exact ⟨rfl, rfl⟩))
    (fun os started H enc _ => hashLow_lifted os started H enc)

theorem hashLow_proved : Rows.HashLowSaid := hashLow_over
#print axioms hashLow_proved
end Go.Proofs.Ytdifbfhmeljblaa
