/- quadrillelaw23.FrameApart answers true at every input: the walk. -/
import Derived.Test.YtfbmfcipaikaoaaBegun
import Derived.Test.YtfbmfcipaikaoaaLists
import Derived.Test.YtfbmfcipaikaoaaFrame
import Derived.Deep.Cut
import Derived.Deep.CutRange
import Derived.Deep.CutBlock
import Derived.Deep.DeepMust
import Derived.Deep.AppendLies
namespace Go.Proofs.Ytfbmfcipaikaoaa
set_option linter.unusedVariables false
set_option linter.unusedSimpArgs false
open Go.RowKit Go.Maps

/-- The places at a slice. -/
def SpotsAt (W : World) (A : Option Addr) (ss : List (Int × Int)) : Prop := ∀ i s, ss[i]? = some s → ∃ b off, A = some ⟨b, off, none⟩ ∧ b < W.heap.size ∧
  W.cell? ⟨b, off + i * 2, none⟩ = some (.int .i64 s.1) ∧ W.cell? ⟨b, off + i * 2 + 1, none⟩ = some (.int .i64 s.2)
theorem SpotsAt.below {W W' : World} {A : Option Addr} {ss : List (Int × Int)} (h : SpotsAt W A ss) (hb : Below W.heap.size W W') : SpotsAt W' A ss := fun i s hi => by
  obtain ⟨b, off, e, hl, h0, h1⟩ := h i s hi
  exact ⟨b, off, e, Nat.lt_of_lt_of_le hl hb.size, cell_below h0 hb, cell_below h1 hb⟩
theorem SpotsAt.take {W : World} {A : Option Addr} {ss : List (Int × Int)} (h : SpotsAt W A ss) (k : Nat) : SpotsAt W A (ss.take k) := fun i f hi => h i f (by
  rw [List.getElem?_take] at hi
  split at hi
  · exact hi
  · cases hi)

/-- What stands between the rounds: both stacks are empty. -/
def St2 (W0 : World) (B2 : Nat) (S1 M1 S2 M2 : Nat) (W : World) (rs : List RowD) : Prop := ∃ m1 m2, Sta W0 B2 W S1 M1 (.slice none 0 0) [] m1 S2 M2 m2 rs
def Rs (L Wt : Value) (P : List Fr) (ms : List Hd) : List RowD := lRow L ms :: fRow Wt P :: marked ms

theorem own_framesB {w : World} {B n : Nat} {A : Option Addr} {cap : Nat} {fs : List Fr} (h : w.ownsRow B 36 4 (.slice A n cap) n (cellsF fs)) {i : Nat} {f : Fr} (hi : fs[i]? = some f) :
    ∃ g, A = some ⟨g, 0, none⟩ ∧ w.cell? ⟨g, i * 4, none⟩ = some (.int .i64 f.r) ∧ w.cell? ⟨g, i * 4 + 1, none⟩ = some (.int .i64 f.c) ∧ w.cell? ⟨g, i * 4 + 2, none⟩ = some (.int .i64 f.k) ∧ w.cell? ⟨g, i * 4 + 3, none⟩ = some (.int .i64 f.x) := by
  rcases h.2 with ⟨e, h0⟩ | ⟨g, c, cur, e, _⟩
  · have := h.1
    rw [h0, cellsF_len] at this
    have h1 := (List.getElem?_eq_some_iff.1 hi).1
    omega
  · obtain ⟨rfl, rfl⟩ : A = some ⟨g, 0, none⟩ ∧ cap = c := by simpa using e
    exact ⟨g, rfl, own_frame h hi⟩
theorem cell_new0 (w : World) (v : Value) (t : TypeId) : (w.alloc (.cells #[v] t)).cell? ⟨w.heap.size, 0, none⟩ = some v := by
  rw [cell_of_row _ _ _ _ _ _ (heap_alloc_new w (.cells #[v] t))]
  rfl
theorem info30 : (Try.prog.info? 30).map (fun i => (i.zero, i.size, i.bytes)) = some (some (.slice none 0 0), 1, 24) := by kernel_rfl
/-- A list goes to the list of lists. -/
theorem wpList_app {ops : Array Oper} {rest : List Oper} {o : Oper} {a : Act} {Q : Exit → Act → World → Prop} {W0 W : World} {B2 S M : Nat} {F : Value} {fs : List Fr} {most S' M' most' : Nat} {rs : List RowD} {v : Value} {ms : List Hd}
    (hgd : o.guard = none) (s x : Operand) (ho : o.op = .call { callee := .builtin .append, args := #[s, x], argTypes := #[46, 46] })
    (hs : Sta W0 B2 W S M F fs most S' M' most' (lRow v ms :: rs)) (hv : a.eval s = v) (X : Nat) (h : Hd) (hx : a.eval x = .slice (some ⟨X, 0, none⟩) 1 1) (hX : W.cell? ⟨X, 0, none⟩ = some (hdV h)) (hm : ms.length ≤ 1000)
    (hk : ∀ g cap w', Sta W0 B2 w' S M F fs most S' M' most' (lRow (.slice (some ⟨g, 0, none⟩) (ms.length + 1) cap) (ms ++ [h]) :: rs) → wpList Try.prog ops Q rest (a.put o.dst (.slice (some ⟨g, 0, none⟩) (ms.length + 1) cap)) w') : wpList Try.prog ops Q (o :: rest) a W := by
  obtain ⟨i1, hi, hz0, hz1, hz2⟩ := info_parts info30
  refine wpList_append_lies W hgd s x 46 ho B2 30 i1 (.slice none 0 0) 1 24 Try.underlying46 hi hz0 hz1 hz2 rfl (by decide) v ms.length (ms.map hdV) hv (hs.mem (r := lRow v ms) (by simp)) ⟨X, 0, none⟩ 1 1 [hdV h] hx rfl (fun j u hu => ?_) (fun u hu => ?_) (by decide) (by unfold maxLen; omega) (by omega) hs.hb.1 _ rfl ?_
  · cases j with
    | zero => cases hu; rw [Addr.add_lit]; exact hX
    | succ j => cases hu
  · simp at hu; subst hu; rfl
  · intro g cap w' hown hgrow hat hlt
    refine hk g cap w' (hs.grow (r' := lRow (.slice (some ⟨g, 0, none⟩) (ms.length + 1) cap) (ms ++ [h])) hgrow ?_ ?_)
    · simpa [lRow] using hown
    · rcases hat with e | e
      · exact .inl e.symm
      · exact .inr (fun b hb => by have : some g = some b := hb
                                   cases this; omega)
theorem perm_mark (g m l f : RowD) (X K : List RowD) : (m :: l :: g :: (X ++ f :: K)).Perm (g :: (X ++ l :: f :: (K ++ [m]))) := by
  refine List.Perm.symm ?_
  have h1 : (g :: (X ++ l :: f :: (K ++ [m]))).Perm (l :: (g :: X ++ (f :: K ++ [m]))) := List.perm_middle (l₁ := g :: X)
  refine h1.trans ?_
  refine List.Perm.trans ?_ (List.Perm.swap _ _ _)
  refine List.Perm.cons _ ?_
  rw [← List.append_assoc]
  exact List.perm_append_singleton _ _
theorem own_cap {w : World} {base n cap : Nat} {e : TypeId} {size : Nat} {A : Option Addr} {xs : List Value} (h : w.ownsRow base e size (.slice A n cap) n xs) : n ≤ cap ∧ cap ≤ 9223372036854775807 := by
  rcases h.2 with ⟨e, h0⟩ | ⟨g, c, cur, e, _, _, hc, hm, _⟩
  · cases e; exact ⟨Nat.le_refl _, by omega⟩
  · cases e; unfold maxLen at hm; exact ⟨hc, by omega⟩
theorem slice_hi (g n c R : Nat) (X : Int) (hX : X = (R : Int)) (h : R ≤ c) (w : World) : (Instr.slice 30 (.slice (some ⟨g, 0, none⟩) n c) none (some (.int .i64 X)) none).run Try.prog w = .ok (.slice (some ⟨g, 0, none⟩) R c) w := by
  subst hX
  rw [run_slice_h (P := Try.prog) (w := w) (t := 30) (a := some ⟨g, 0, none⟩) (len := n) (cap := c) Try.underlying30 .i64 (R : Int) (by omega) (by omega)]
  have e : (sizeOf (Try.prog.elem 30)).run Try.prog w = .ok 4 w := by
    simp [go_sem, Program.elem, Try.underlying30]
  rw [e]
  simp [Result.andThen, sliced, Addr.add_lit]
theorem min_hi (x y : Int) (R : Nat) (h : min x y = (R : Int)) (ts : Array TypeId) (ty : TypeId) (w : World) : (Builtin.min_ ts ty #[.int .i64 x, .int .i64 y]).run Try.prog w = .ok (.int .i64 (R : Int)) w := by
  have e : (if y < x then y else x) = (R : Int) := by split <;> omega
  simp [Builtin.min_, Builtin.min2, e]
theorem neg_wrap (n : Nat) (h : n ≤ 1000000) : wrap64 (-((n : Int) + 1)) = -((n : Int) + 1) := by unfold wrap64; omega
def wantF (k : Nat) (P : List Fr) : List Fr := if k = 0 then [] else P
theorem wantF_zero (P : List Fr) : wantF 0 P = [] := rfl
theorem wantF_pos {k : Nat} (P : List Fr) (h : k ≠ 0) : wantF k P = P := if_neg h

set_option maxRecDepth 100000 in
set_option maxHeartbeats 4000000 in
theorem frameApart_walk (A : Option Addr) (C n : Nat) (ss : List (Int × Int)) (kd : Int) (w : World) (hs : SpotsAt w A ss) (hf : ∀ s ∈ ss, I64 s.1 ∧ I64 s.2) (hn : ss.length = n) (hl : n ≤ 70368744177664) (hnc : n ≤ C) (hk : I64 kd) :
    Calls Try.prog 4 #[.slice A n C, .int .i64 kd] w fun e w' => e = .returned (.bool true) ∧ Below w.heap.size w w' := by
  have HO := Lib.hid hs
  have HF := Lib.hid hf
  clear hs hf
  go_enter Try.func4, Try.ntmps4
  go_upto_if 28 with (first | (go_at_call 7; refine (begun7 _).mono ?_; rintro e w1 ⟨rfl, hb1⟩))
  have HB1 := Lib.hid hb1
  clear hb1
  go_cut [0] from 26 to 30 (fun v wc => wc = w1 ∧ ∃ m, m ≤ 200 ∧ m ≤ n ∧ v = .slice A m C)
  case first =>
    by_cases hbig : 200 < n
    · obtain ⟨b, off, e0, _⟩ := HO.out 0 (ss[0]'(by omega)) (by simp)
      subst e0
      go_wp2_with fail
      go_meet
      case rel => exact ⟨rfl, 200, by omega, by omega, rfl⟩
    · go_wp2_with fail
      go_meet
      case rel => exact ⟨rfl, n, by omega, by omega, rfl⟩
  case rest =>
    obtain ⟨rfl, m, hm, hmn, rfl⟩ := hcut
    go_wp2_with fail
    refine (new8 _).mono ?_
    rintro e w2 ⟨S1, M1, rfl, hst1, hb2⟩
    go_wp2_with fail
    refine (new8 _).mono ?_
    rintro e w3 ⟨S2, M2, rfl, hst2, hb3⟩
    have HST : Hid (St2 w w3.heap.size S1 M1 S2 M2 w3 (Rs (.slice none 0 0) (.slice none 0 0) [] [])) := by
      have hs1 := hst1.below hb3
      have hl1 := hst1.lt
      have hl2 := hst2.lt
      have hbS := hst2.bS
      have hbM := hst2.bM
      have hz := HB1.out.size
      have hz2 := hb2.size
      refine ⟨0, 0, HB1.out.trans ((hb2.trans (hb3.mono hz2)).mono hz), ⟨hs1.blk, own_base hs1.row hz, hs1.map, hs1.sm, hs1.fS, hs1.fM, Nat.le_trans hz hs1.bS, Nat.le_trans hz hs1.bM, hs1.uq, hs1.ft, hs1.mo⟩, ⟨hst2.blk, own_base hst2.row (by omega), hst2.map, hst2.sm, hst2.fS, hst2.fM, by omega, by omega, hst2.uq, hst2.ft, hst2.mo⟩, ⟨by omega, by omega, by omega, by omega⟩, ?_, (fun k hk => by cases hk), ⟨Nat.le_refl _, ?_⟩, ⟨?_, ?_⟩, fun r hr => .inl rfl⟩
      · have := hb3.size; omega
      · have := hb3.size; omega
      · intro r hr
        simp [Rs, marked] at hr
        rcases hr with rfl | rfl <;> exact World.ownsRow_nil _ _ _ _
      · simp only [Rs, marked, List.mapIdx_nil]
        exact List.pairwise_cons.2 ⟨fun s hs => .inl rfl, List.pairwise_cons.2 ⟨fun s hs => .inl rfl, .nil⟩⟩
    clear hst1 hst2 hb2 hb3
    obtain ⟨B2, hB2⟩ : ∃ B2, w3.heap.size = B2 := ⟨_, rfl⟩
    rw [hB2] at HST
    go_wp2_with fail
    obtain ⟨q, hq⟩ : ∃ q, wrap64 (1 + bits .and .i64 kd 1) = q := ⟨_, rfl⟩
    obtain ⟨P, hP⟩ : ∃ P, pushAll q (ss.take m) = P := ⟨_, rfl⟩
    have hPl : P.length ≤ 200 := by rw [← hP]; have := pushAll_len q (ss.take m); rw [List.length_take] at this; omega
    have HQ := Lib.hid hq
    have HP := Lib.hid hP
    clear hq hP
    go_loopw [9, 7, 8] (fun i l wv wr => ∃ (k : Nat) (ms : List Hd), k ≤ 4 ∧ i = .int .i64 k ∧ ms.length ≤ 4 * k ∧ (∀ h ∈ ms, h.2.1 ≤ 200 ∧ h.2.1 ≤ h.2.2) ∧ St2 w B2 S1 M1 S2 M2 wr (Rs l wv (wantF k P) ms)) (fun i _ _ _ => 4 - (intOf i).toNat)
    case atStart => exact ⟨0, [], by omega, rfl, by simp, by simp, HST.out⟩
    case round =>
      obtain ⟨k, ms, hk4, rfl, hml, hok, hst⟩ := hrel
      have HST := Lib.hid hst
      have HOK := Lib.hid hok
      clear hst hok
      by_cases hlt : k < 4
      · have hki : (k : Int) < 4 := by omega
        go_upto_if 45 with fail
        go_cut [10] from 43 to 158 (fun v wc => ∃ S M S' M', v = .pointer (some ⟨S, 0, none⟩) ∧ (∃ m1 m2, Sta w B2 wc S M (.slice none 0 0) [] m1 S' M' m2 (Rs u7 u8 (wantF k P) ms)) ∧ ∀ W' rs' m1 m2, Sta w B2 W' S M (.slice none 0 0) [] m1 S' M' m2 rs' → St2 w B2 S1 M1 S2 M2 W' rs')
        case first =>
          by_cases hk2 : k = 2
          · subst hk2
            go_wp2_with fail
            go_meet
            case rel =>
              refine ⟨S2, M2, S1, M1, rfl, ?_, fun W' rs' m1 m2 h => ⟨m2, m1, h.swap⟩⟩
              obtain ⟨m1, m2, h⟩ := HST.out
              exact ⟨m2, m1, h.swap⟩
          · have hb : ((k : Int) == 2) = false := beq_eq_false_iff_ne.2 (by omega)
            go_wp2_with fail
            go_meet
            case rel =>
              refine ⟨S1, M1, S2, M2, rfl, ?_, fun W' rs' m1 m2 h => ⟨m1, m2, h⟩⟩
              exact HST.out
        case rest =>
          obtain ⟨S, M, S', M', rfl, ⟨m1, m2, hst⟩, hback⟩ := hcut
          have HB := Lib.hid hback
          have HS := Lib.hid hst
          clear hst hback HST
          go_wp2_with fail
          go_loopw [11] (fun i wr => ∃ (j : Nat) (F : Value) (m1 m2 : Nat), j ≤ m ∧ i = .int .i64 j ∧ Sta w B2 wr S M F (pushAll q ((ss.take m).take j)) m1 S' M' m2 (Rs u7 u8 (wantF k P) ms)) (fun i _ => m - (intOf i).toNat)
          case atStart => exact ⟨0, _, m1, m2, by omega, rfl, by rw [List.take_zero]; exact HS.out⟩
          case round =>
            obtain ⟨j, F, m1, m2, hj, rfl, hst⟩ := hrel
            by_cases hjm : j < m
            · as_aux_lemma =>
                have hsj : (ss.take m)[j]? = some (ss[j]'(by omega)) := by rw [List.getElem?_take, if_pos hjm]; exact List.getElem?_eq_getElem _
                obtain ⟨⟨r, c⟩, hsv⟩ : ∃ s, ss[j]'(by omega) = s := ⟨_, rfl⟩
                rw [hsv] at hsj
                have hfit := HF.out _ (List.mem_of_mem_take (List.mem_of_getElem? hsj))
                obtain ⟨b, off, rfl, hbl, c0, c1⟩ := (HO.out.take m).below hst.bl _ _ hsj
                have HST := Lib.hid hst
                clear hsv hst
                go_wp2_with fail
                rw [HQ.out]
                by_cases hpk : pushOk (pushAll q ((ss.take m).take j)) r c q
                · have hpo := hpk
                  obtain ⟨hm1, hk12, hp⟩ := hpk
                  refine (push10_ok HST.out.a r c q hm1 hk12 hp (by have := pushAll_len q ((ss.take m).take j); rw [List.length_take, List.length_take] at this; omega)).mono ?_
                  rintro e w4 ⟨rfl, F4, hst4, hap4, hfr4⟩
                  have HS4 := Lib.hid (HST.out.push hap4 hst4 hfr4)
                  have hE : pushAll q ((ss.take m).take (j + 1)) = pushAll q ((ss.take m).take j) ++ [⟨r, c, q, 0⟩] := by
                    rw [pushAll_take hsj]; exact if_pos hpo
                  have HE := Lib.hid hE
                  clear hst4 hap4 hfr4 hpo hm1 hk12 hp hE hsj c0 c1 hfit
                  go_wp2_with fail
                  go_roundw
                  case rel => exact ⟨j + 1, F4, _, m2, by omega, by go_num, by rw [HE.out]; exact HS4.out⟩
                  case measure => simp [intOf]; omega
                · refine (push10_no HST.out.a r c q hfit.1 hfit.2 hpk).mono ?_
                  rintro e w4 ⟨rfl, hb4⟩
                  have HS4 := Lib.hid (HST.out.below hb4)
                  have hE : pushAll q ((ss.take m).take (j + 1)) = pushAll q ((ss.take m).take j) := by
                    rw [pushAll_take hsj]; exact if_neg hpk
                  have HE := Lib.hid hE
                  clear hb4 hpk hE hsj c0 c1 hfit
                  generalize pushErr (pushAll q ((ss.take m).take j)) r c q = pe
                  go_wp2_with fail
                  go_roundw
                  case rel => exact ⟨j + 1, F, m1, m2, by omega, by go_num, by rw [HE.out]; exact HS4.out⟩
                  case measure => simp [intOf]; omega
            · obtain rfl : j = m := by omega
              rw [List.take_take, Nat.min_self, HP.out] at hst
              clear HS
              have HS := Lib.hid hst
              clear hst
              go_wp2_with fail
              refine (all9 HS.out.a).mono ?_
              rintro e w4 ⟨v12, rfl, hown, hb4⟩
              obtain ⟨a12, c12, hv12⟩ := row_any hown
              subst hv12
              have HS4 := Lib.hid (HS.out.cons (r := fRow (.slice a12 P.length c12) P) hb4 hown)
              clear hown hb4 HS
              go_wp2_with fail
              refine (all9 HS4.out.a).mono ?_
              rintro e w5 ⟨v13, rfl, hown, hb5⟩
              obtain ⟨a13, c13, hv13⟩ := row_any hown
              subst hv13
              have HS5 := Lib.hid (HS4.out.cons (r := fRow (.slice a13 P.length c13) P) hb5 hown)
              clear hown hb5 HS4
              go_upto_if 67 with fail
              go_cut [8] from 67 to 158 (fun v wc => ∃ aW cW, v = .slice aW P.length cW ∧ Sta w B2 wc S M F P m1 S' M' m2 (fRow (.slice a13 P.length c13) P :: fRow (.slice a12 P.length c12) P :: lRow u7 ms :: fRow (.slice aW P.length cW) P :: marked ms))
              case first =>
                by_cases hk0 : k = 0
                · subst hk0
                  obtain ⟨i0, hi, hz0, hz1, hz2⟩ := info_parts info36
                  have hsrc := src_all (HS5.out.mem (r := fRow (.slice a12 P.length c12) P) (by simp))
                  go_wp2_with (at_builtin; refine wpList_append_any rfl _ _ 30 rfl w5.heap.size 36 i0 _ 4 32 Try.underlying30 hi hz0 hz1 hz2 rfl (by decide) (.slice none 0 0) 0 [] rfl (World.ownsRow_nil _ _ _ _) a12 P.length c12 (cellsF P) rfl hsrc.2 (by rw [cellsF_len]) hsrc.1 (cellsF_one P) (by unfold maxLen; omega) (by omega) (Nat.le_refl _) ?_)
                  intro v8 w6 hown8 hg8
                  try simp only [Nat.zero_add, List.nil_append] at hown8
                  obtain ⟨aW, cW, hv8⟩ := row_any hown8
                  subst hv8
                  have hb6 : Below w5.heap.size w5 w6 := (Below.refl _ w5).grown hg8 (Nat.le_refl _) (fun k hk => by cases hk)
                  have hS6 := (HS5.out.cons (r := fRow (.slice aW P.length cW) P) hb6 hown8)
                  have HS6 : Hid (Sta w B2 w6 S M F P m1 S' M' m2 (fRow (.slice a13 P.length c13) P :: fRow (.slice a12 P.length c12) P :: lRow u7 ms :: fRow (.slice aW P.length cW) P :: marked ms)) :=
                    (hS6.perm (List.perm_middle (l₁ := [fRow (.slice aW P.length cW) P, fRow (.slice a13 P.length c13) P, fRow (.slice a12 P.length c12) P, lRow u7 ms]))).tail.perm
                      (List.perm_middle (l₁ := [fRow (.slice a13 P.length c13) P, fRow (.slice a12 P.length c12) P, lRow u7 ms])).symm
                  clear hown8 hg8 hb6 hS6 hsrc
                  go_wp2_with fail
                  go_meet
                  case rel => exact ⟨aW, cW, rfl, HS6.out⟩
                · have hb : ((k : Int) == 0) = false := beq_eq_false_iff_ne.2 (by omega)
                  have hrw := HS5.out.mem (r := fRow u8 (wantF k P)) (by simp [Rs])
                  rw [wantF_pos P hk0] at hrw
                  obtain ⟨aW, cW, hv⟩ := row_any hrw
                  have hv' : u8 = .slice aW P.length cW := hv
                  subst hv'
                  clear hrw hv
                  go_wp2_with fail
                  go_meet
                  case rel => exact ⟨aW, cW, rfl, by have := HS5.out; rw [wantF_pos P hk0] at this; exact this⟩
              case rest =>
                as_aux_lemma =>
                  obtain ⟨aW, cW, rfl, hst⟩ := hcut
                  have HS6 := Lib.hid hst
                  clear hst HS5
                  go_wp2_with fail
                  refine (eq11 a12 aW c12 cW P.length P _ (frs_own (HS6.out.mem (r := fRow (.slice a12 P.length c12) P) (by simp))) (frs_own (HS6.out.mem (r := fRow (.slice aW P.length cW) P) (by simp))) rfl (by omega)).mono ?_
                  rintro e w7 ⟨rfl, hb7⟩
                  have HS7 := Lib.hid (HS6.out.below hb7)
                  clear HS6 hb7
                  go_wp2_with fail
                  refine (eq11 a13 aW c13 cW P.length P _ (frs_own (HS7.out.mem (r := fRow (.slice a13 P.length c13) P) (by simp))) (frs_own (HS7.out.mem (r := fRow (.slice aW P.length cW) P) (by simp))) rfl (by omega)).mono ?_
                  rintro e w8 ⟨rfl, hb8⟩
                  have HS8 := Lib.hid (HS7.out.below hb8)
                  clear HS7 hb8
                  go_upto_if 85 with fail
                  obtain ⟨X, hX⟩ : ∃ X, w8.alloc (.cells #[.slice a12 P.length c12, .slice a13 P.length c13] 30) = X := ⟨_, rfl⟩
                  obtain ⟨g14, hg14⟩ : ∃ g, w8.heap.size = g := ⟨_, rfl⟩
                  have HS9 : Hid (Sta w B2 X S M F P m1 S' M' m2 (lRow (.slice (some ⟨g14, 0, none⟩) 2 2) [(a12, P.length, c12), (a13, P.length, c13)] :: fRow (.slice a13 P.length c13) P :: fRow (.slice a12 P.length c12) P :: lRow u7 ms :: fRow (.slice aW P.length cW) P :: marked ms)) := by
                    rw [← hX, ← hg14]
                    exact HS8.out.cons (r := lRow (.slice (some ⟨w8.heap.size, 0, none⟩) 2 2) [(a12, P.length, c12), (a13, P.length, c13)]) ((Below.refl _ _).alloc (Nat.le_refl _) _) (World.ownsRow_lit w8 #[.slice a12 P.length c12, .slice a13 P.length c13] 2 (Nat.le_refl _) (by unfold maxLen; omega) rfl)
                  rw [hX, hg14]
                  clear HS8 hX hg14
                  go_cut [14] from 85 to 158 (fun v wc => ∃ (us : List (Hd × List Fr)) (g c : Nat), us.length ≤ 3 ∧ (∀ u ∈ us, u.1.2.1 = u.2.length ∧ u.2.length ≤ 200) ∧ v = .slice (some ⟨g, 0, none⟩) us.length c ∧ Sta w B2 wc S M F P m1 S' M' m2 (lRow (.slice (some ⟨g, 0, none⟩) us.length c) (us.map (·.1)) :: (us.map unm ++ (lRow u7 ms :: fRow (.slice aW P.length cW) P :: marked ms))))
                  case first =>
                    by_cases hP0 : P = []
                    · subst hP0
                      go_wp2_with fail
                      go_meet
                      case rel =>
                        exact ⟨[((a12, 0, c12), []), ((a13, 0, c13), [])], g14, 2, by simp, by simp, rfl, HS9.out.perm (((List.Perm.swap _ _ _).cons _))⟩
                    · have hp0 : 0 < P.length := List.length_pos_iff.2 hP0
                      have hpi : (0 : Int) < (P.length : Int) := by omega
                      obtain ⟨hq2, hql⟩ : ∃ h : P.length / 2 < P.length, True := ⟨by omega, trivial⟩
                      have hPq : P[P.length / 2]? = some P[P.length / 2] := List.getElem?_eq_getElem hq2
                      obtain ⟨f, hf⟩ : ∃ f, P[P.length / 2] = f := ⟨_, rfl⟩
                      rw [hf] at hPq
                      have hposf := pos_uq HS9.out.a.uq hPq
                      have hftf := HS9.out.a.ft f (List.mem_of_getElem? hPq)
                      have hWr := HS9.out.mem (r := fRow (.slice aW P.length cW) P) (by simp)
                      obtain ⟨gW, eW, u0, u1, u2, u3⟩ := own_framesB hWr hPq
                      subst eW
                      have HF2 := Lib.hid (And.intro hposf hftf)
                      have HWR := Lib.hid (And.intro hWr hPq)
                      clear hposf hftf hWr hPq hf
                      go_wp2_with fail
                      refine (from17_some HS9.out.a f.r f.c HF2.out.2.1.1 HF2.out.2.1.2 (P.length / 2) HF2.out.1).mono ?_
                      rintro e w10 ⟨v15, rfl, hown15, hb10⟩
                      obtain ⟨a15, c15, hv15⟩ := row_any hown15
                      subst hv15
                      have hlD : (P.drop (P.length / 2)).length = P.length - P.length / 2 := List.length_drop
                      have HS10 : Hid (Sta w B2 w10 S M F P m1 S' M' m2 (fRow (.slice a15 (P.length - P.length / 2) c15) (P.drop (P.length / 2)) :: lRow (.slice (some ⟨g14, 0, none⟩) 2 2) [(a12, P.length, c12), (a13, P.length, c13)] :: fRow (.slice a13 P.length c13) P :: fRow (.slice a12 P.length c12) P :: lRow u7 ms :: fRow (.slice (some ⟨gW, 0, none⟩) P.length cW) P :: marked ms)) :=
                        HS9.out.cons (r := fRow (.slice a15 (P.length - P.length / 2) c15) (P.drop (P.length / 2))) hb10 (by rw [← hlD] at hown15 ⊢; exact hown15)
                      have hcW : P.length ≤ cW := by
                        rcases row_cases HWR.out.1 with ⟨e, _⟩ | ⟨g', c', hc, e⟩
                        · cases e
                        · cases e; exact hc
                      clear hown15 hb10 HS9 HF2 HWR u0 u1 u2 u3
                      go_wp2_with fail
                      refine (eq11 a15 _ c15 _ (P.length - P.length / 2) (P.drop (P.length / 2)) _ (frs_own (n := P.length - P.length / 2) (by have := HS10.out.mem (r := fRow (.slice a15 (P.length - P.length / 2) c15) (P.drop (P.length / 2))) (by simp); simpa [fRow, hlD] using this)) (by have := (frs_own (HS10.out.mem (r := fRow (.slice (some ⟨gW, 0, none⟩) P.length cW) P) (by simp))).drop (P.length / 2); rw [Nat.zero_add] at this; exact this) hlD (by omega)).mono ?_
                      rintro e w11 ⟨rfl, hb11⟩
                      have HS11 := Lib.hid ((HS10.out.below hb11).perm (List.Perm.swap _ _ _))
                      have HS12 := Lib.hid (HS11.out.below ((Below.refl _ w11).alloc (Nat.le_refl _) (.cells #[.slice a15 (P.length - P.length / 2) c15] 30)))
                      clear HS10 hb11
                      have hX := cell_new0 w11 (.slice a15 (P.length - P.length / 2) c15) 30
                      go_wp2_with (at_builtin; go_loud (refine wpList_app rfl _ _ rfl HS12.out rfl w11.heap.size (a15, P.length - P.length / 2, c15) rfl hX (by simp) ?_))
                      intro g cap w12 hs12
                      have HS13 := Lib.hid hs12
                      clear hs12 HS11 HS12 hX
                      go_wp2_with fail
                      go_meet
                      case rel =>
                        exact ⟨[((a12, P.length, c12), P), ((a13, P.length, c13), P), ((a15, P.length - P.length / 2, c15), P.drop (P.length / 2))], g, cap, by simp, by simp [hlD]; omega, rfl, HS13.out.perm (by
                          refine List.Perm.cons _ ?_
                          refine (List.perm_middle (l₁ := [fRow (.slice a13 P.length c13) P, fRow (.slice a12 P.length c12) P])).symm.trans ?_
                          exact List.Perm.swap _ _ _)⟩
                  case rest =>
                    obtain ⟨us, gG, cG, hul, huf, rfl, hst⟩ := hcut
                    have HS14 := Lib.hid hst
                    have huf2 : ∀ u ∈ us, u.1.2.1 = u.2.length ∧ u.2.length ≤ 200 ∧ u.1.2.1 ≤ u.1.2.2 := fun u hu => by
                      obtain ⟨h1, h2⟩ := huf u hu
                      have hr : wc.ownsRow B2 36 4 (.slice u.1.1 u.1.2.1 u.1.2.2) u.2.length (cellsF u.2) := hst.mem (r := unm u) (by simp; exact .inr (.inl ⟨_, _, _, _, hu, rfl⟩))
                      rw [← h1] at hr
                      exact ⟨h1, h2, (own_cap hr).1⟩
                    have HU := Lib.hid huf2
                    clear hst huf huf2 HS9
                    go_wp2_with fail
                    go_loopw [17, 7] (fun i lv wr => ∃ (t : Nat), t ≤ us.length ∧ i = .int .i64 t ∧ Sta w B2 wr S M F P m1 S' M' m2 (lRow (.slice (some ⟨gG, 0, none⟩) us.length cG) (us.map (·.1)) :: ((us.drop t).map unm ++ (lRow lv (ms ++ (us.take t).map (·.1)) :: fRow (.slice aW P.length cW) P :: marked (ms ++ (us.take t).map (·.1)))))) (fun i _ _ => us.length - (intOf i).toNat)
                    case atStart => exact ⟨0, by omega, rfl, by simpa using HS14.out⟩
                    case round =>
                      obtain ⟨t, ht, rfl, hst⟩ := hrel
                      by_cases htu : t < us.length
                      · as_aux_lemma =>
                          obtain ⟨⟨hd, fs⟩, hu⟩ : ∃ u, us[t]? = some u := ⟨_, List.getElem?_eq_getElem htu⟩
                          obtain ⟨aH, nH, cH⟩ := hd
                          obtain ⟨hfl1, hfl2, _⟩ := HU.out _ (List.mem_of_getElem? hu)
                          simp only at hfl1 hfl2
                          subst hfl1
                          have HFL := Lib.hid hfl2
                          have hcell : wr.cell? ⟨gG, t, none⟩ = some (.slice aH fs.length cH) := by
                            have ho := hst.mem (r := lRow (.slice (some ⟨gG, 0, none⟩) us.length cG) (us.map (·.1))) (by simp)
                            have ho' : wr.ownsRow B2 30 1 (.slice (some ⟨gG, 0, none⟩) us.length cG) us.length ((us.map (·.1)).map hdV) := by simpa [lRow] using ho
                            rw [ho'.cellAt t (by omega)]
                            simp [hu, hdV]
                          have hd : us.drop t = ((aH, fs.length, cH), fs) :: us.drop (t + 1) := by
                            rw [← List.getElem_cons_drop htu]
                            have : us[t] = ((aH, fs.length, cH), fs) := by simpa [List.getElem?_eq_getElem htu] using hu
                            rw [this]
                          have htk : us.take (t + 1) = us.take t ++ [((aH, fs.length, cH), fs)] := by rw [List.take_add_one, hu]; rfl
                          rw [hd, List.map_cons, List.cons_append] at hst
                          obtain ⟨ms', hms⟩ : ∃ ms', ms ++ (us.take t).map (·.1) = ms' := ⟨_, rfl⟩
                          obtain ⟨X', hX'⟩ : ∃ X', (us.drop (t + 1)).map unm = X' := ⟨_, rfl⟩
                          obtain ⟨G, hG⟩ : ∃ G, us.map (·.1) = G := ⟨_, rfl⟩
                          obtain ⟨K', hK'⟩ : ∃ K', marked ms' = K' := ⟨_, rfl⟩
                          rw [hms, hX', hG, hK'] at hst
                          have hlen : ms'.length = ms.length + t := by rw [← hms]; simp; omega
                          have hGt : (G.map hdV)[t]? = some (.slice aH fs.length cH) := by rw [← hG]; simp [hu, hdV]
                          have HEQ := Lib.hid (And.intro (And.intro htk hms) (And.intro hX' (And.intro hG hK')))
                          obtain ⟨aL, cL, hlv⟩ := row_any (hst.mem (r := lRow u7 ms') (by simp))
                          have hlv' : u7 = .slice aL ms'.length cL := hlv
                          subst hlv'
                          have HLN := Lib.hid hlen
                          have HST := Lib.hid (hst.perm (List.perm_middle (l₁ := lRow (.slice (some ⟨gG, 0, none⟩) us.length cG) G :: unm ((aH, fs.length, cH), fs) :: X')))
                          have HS15 := Lib.hid (HST.out.below ((Below.refl _ wr).alloc (Nat.le_refl _) (.cells #[.slice aH fs.length cH] 30)))
                          have hX := cell_new0 wr (.slice aH fs.length cH) 30
                          have hti : (t : Int) < (us.length : Int) := by omega
                          have hGn : us.length = G.length := by rw [← hG]; simp
                          have HGN := Lib.hid (And.intro hGt hGn)
                          clear hst hd htk hlv hlen hms hX' hG hK' hGt hGn
                          go_wp2_with (at_builtin; go_loud (refine wpList_app rfl _ _ rfl HS15.out rfl wr.heap.size (aH, fs.length, cH) rfl hX (by rw [HLN.out]; omega) ?_))
                          intro g cap w12 hs12
                          have HS16 := Lib.hid hs12
                          have hcell2 : w12.cell? ⟨gG, t, none⟩ = some (.slice aH fs.length cH) := by
                            have ho := hs12.mem (r := lRow (.slice (some ⟨gG, 0, none⟩) us.length cG) G) (by simp)
                            have ho' : w12.ownsRow B2 30 1 (.slice (some ⟨gG, 0, none⟩) us.length cG) us.length (G.map hdV) := by rw [HGN.out.2]; rw [HGN.out.2] at ho; exact ho
                            rw [ho'.cellAt t (by omega)]
                            exact HGN.out.1
                          clear hs12 HST HS15 hX hcell
                          go_wp2_with fail
                          rw [neg_wrap ms'.length (by rw [HLN.out]; omega)]
                          have hrow : w12.ownsRow B2 36 4 (.slice aH fs.length cH) fs.length (cellsF fs) := HS16.out.mem (r := unm ((aH, fs.length, cH), fs)) (by simp)
                          have hnc2 := (own_cap (n := fs.length) (cap := cH) (A := aH) hrow).1
                          refine (mark18 (-((ms'.length : Int) + 1)) (B := B2) (fs := fs) hrow (by have := HFL.out; omega) HS16.out.hb.1).mono ?_
                          rintro e w13 ⟨rfl, hown13, hg13⟩
                          have HS17 := Lib.hid (((HS16.out.perm (List.perm_middle (l₁ := [lRow (.slice (some ⟨g, 0, none⟩) (ms'.length + 1) cap) (ms' ++ [(aH, fs.length, cH)]), lRow (.slice (some ⟨gG, 0, none⟩) us.length cG) G]))).grow (r' := mkR ms'.length (aH, fs.length, cH)) hg13 (by simpa [mkR, fRow, zs_len] using hown13) (.inl (by cases aH <;> rfl))).perm (perm_mark _ _ _ _ _ _))
                          clear hown13 hg13 hrow hcell2 HS16
                          go_wp2_with fail
                          go_roundw
                          case rel =>
                            have e : ms ++ (us.take (t + 1)).map (·.1) = ms' ++ [(aH, fs.length, cH)] := by rw [HEQ.out.1.1, List.map_append, ← List.append_assoc, HEQ.out.1.2]; rfl
                            refine ⟨t + 1, by omega, by go_num, ?_⟩
                            rw [e, marked_snoc, HEQ.out.2.1, HEQ.out.2.2.1, HEQ.out.2.2.2]
                            exact HS17.out
                          case measure => simp [intOf]; omega
                      · as_aux_lemma =>
                          obtain rfl : t = us.length := by omega
                          obtain ⟨ms', hms⟩ : ∃ ms', ms ++ us.map (·.1) = ms' := ⟨_, rfl⟩
                          rw [List.drop_length, List.take_length, hms, List.map_nil, List.nil_append] at hst
                          have hml2 : ms'.length = ms.length + us.length := by rw [← hms]; simp
                          have hok2 : ∀ h ∈ ms', h.2.1 ≤ 200 ∧ h.2.1 ≤ h.2.2 := fun h hh => by
                            rw [← hms] at hh
                            rcases List.mem_append.1 hh with h1 | h1
                            · exact HOK.out h h1
                            · obtain ⟨u, hu, rfl⟩ := List.mem_map.1 h1
                              have := HU.out u hu; exact ⟨by omega, this.2.2⟩
                          have HM2 := Lib.hid (And.intro hml2 hok2)
                          obtain ⟨aF, cF, hF⟩ := row_any hst.a.row
                          subst hF
                          have HCF := Lib.hid (own_cap hst.a.row).1
                          obtain ⟨aL, cL, hlv⟩ := row_any (hst.mem (r := lRow u7 ms') (by simp))
                          have hlv' : u7 = .slice aL ms'.length cL := hlv
                          subst hlv'
                          have HS15 := Lib.hid hst.tail
                          clear hst hms hlv hml2 hok2 HS14
                          go_wp2_with fail
                          refine (clear14 HS15.out.a).mono ?_
                          rintro e w14 ⟨rfl, hst14, hap14, hrow14⟩
                          have HS16 := Lib.hid (HS15.out.clear hap14 hst14 hrow14)
                          clear hst14 hap14 hrow14 HS15
                          go_wp2_with fail
                          refine (height15 HS16.out.a).mono ?_
                          rintro e w15 ⟨rfl, hb15⟩
                          have HS17 := Lib.hid (HS16.out.below hb15)
                          clear hb15 HS16
                          rw [show ([] : List Fr).length = 0 from rfl]
                          go_wp2_with fail
                          refine (eq11 aF aW cF cW P.length P _ (frs_own (HS17.out.mem (r := ⟨36, 4, .slice aF P.length cF, P.length, cellsF P⟩) (by simp))) (frs_own (HS17.out.mem (r := fRow (.slice aW P.length cW) P) (by simp))) rfl (by omega)).mono ?_
                          rintro e w16 ⟨rfl, hb16⟩
                          have HS18 := Lib.hid ((HS17.out.below hb16).perm (List.Perm.swap _ _ _))
                          have HS19 := Lib.hid (HS18.out.below ((Below.refl _ w16).alloc (Nat.le_refl _) (.cells #[.slice aF P.length cF] 30)))
                          have hX := cell_new0 w16 (.slice aF P.length cF) 30
                          clear hb16 HS17
                          go_wp2_with (at_builtin; go_loud (refine wpList_app rfl _ _ rfl HS19.out rfl w16.heap.size (aF, P.length, cF) rfl hX (by rw [HM2.out.1]; omega) ?_))
                          intro g cap w17 hs17
                          have HS20 := Lib.hid hs17
                          clear hs17 hX HS18 HS19
                          go_wp2_with fail
                          rw [neg_wrap ms'.length (by rw [HM2.out.1]; omega)]
                          have hrow : w17.ownsRow B2 36 4 (.slice aF P.length cF) P.length (cellsF P) := HS20.out.mem (r := ⟨36, 4, .slice aF P.length cF, P.length, cellsF P⟩) (by simp)
                          refine (mark18 (-((ms'.length : Int) + 1)) (B := B2) (fs := P) hrow (by omega) HS20.out.hb.1).mono ?_
                          rintro e w18 ⟨rfl, hown18, hg18⟩
                          have HS21 := Lib.hid (((HS20.out.perm (List.Perm.swap _ _ _)).grow (r' := mkR ms'.length (aF, P.length, cF)) hg18 (by simpa [mkR, fRow, zs_len] using hown18) (.inl (by cases aF <;> rfl))).perm (List.perm_append_singleton _ _).symm)
                          clear hown18 hg18 hrow HS20
                          go_wp2_with fail
                          go_roundw
                          case rel =>
                            refine ⟨k + 1, ms' ++ [(aF, P.length, cF)], by omega, by go_num, by have := HM2.out.1; simp; omega, ?_, HB.out _ _ m1 m2 ?_⟩
                            · intro h hh
                              rcases List.mem_append.1 hh with h1 | h1
                              · exact HM2.out.2 h h1
                              · simp at h1; subst h1; exact ⟨hPl, HCF.out⟩
                            · rw [wantF_pos P (by omega)]
                              unfold Rs
                              rw [marked_snoc]
                              simpa [lRow] using HS21.out
                          case measure => simp [intOf]; omega
      · as_aux_lemma =>
          obtain rfl : k = 4 := by omega
          obtain ⟨W4, rfl⟩ : ∃ W4 : World, W4 = wr := ⟨_, rfl⟩
          obtain ⟨m1, m2, hst⟩ := HST.out
          obtain ⟨aL, cL, hlv⟩ := row_any (hst.mem (r := lRow u7 ms) (by simp [Rs]))
          have hlv' : u7 = .slice aL ms.length cL := hlv
          subst hlv'
          have HS := Lib.hid hst
          have hm16 : ms.length ≤ 16 := by omega
          clear hst HST hlv
          rw [show (((4 : Nat) : Int)) = (4 : Int) from rfl]
          go_wp2_with fail
          go_loopw [21] (fun i wx => ∃ t : Nat, t ≤ ms.length ∧ i = .int .i64 t ∧ Below W4.heap.size W4 wx) (fun i _ => ms.length - (intOf i).toNat)
          case atStart => exact ⟨0, by omega, rfl, Below.refl _ _⟩
          case round =>
            obtain ⟨t, ht, rfl, hbx⟩ := hrel
            obtain ⟨W5, rfl⟩ : ∃ W5 : World, W5 = wr := ⟨_, rfl⟩
            by_cases htm : t < ms.length
            · obtain ⟨⟨aH, nH, cH⟩, hh⟩ : ∃ h, ms[t]? = some h := ⟨_, List.getElem?_eq_getElem htm⟩
              have hst := HS.out.below hbx
              have hbd := HOK.out _ (List.mem_of_getElem? hh)
              simp only at hbd
              have hLr : W5.ownsRow B2 30 1 (.slice aL ms.length cL) ms.length (ms.map hdV) := hst.mem (r := lRow (.slice aL ms.length cL) ms) (by simp [Rs])
              obtain ⟨gL, eL⟩ : ∃ gL, aL = some ⟨gL, 0, none⟩ := by
                rcases row_cases hLr with ⟨_, e⟩ | ⟨g, c, _, e⟩
                · omega
                · cases e; exact ⟨g, rfl⟩
              subst eL
              have hcell : W5.cell? ⟨gL, t, none⟩ = some (.slice aH nH cH) := by
                rw [hLr.cellAt t (by omega)]
                simp [hh, hdV]
              have hmk : W5.ownsRow B2 36 4 (.slice aH (room nH cH) cH) (room nH cH) (cellsF (zs (room nH cH) (-((t : Int) + 1)))) := by
                have := hst.mem (r := mkR t (aH, nH, cH)) (by simp [Rs, marked_get hh])
                simpa [mkR, fRow, zs_len] using this
              have HMK := Lib.hid hmk
              have hti : (t : Int) < (ms.length : Int) := by omega
              have HBX := Lib.hid hbx
              have hcc2 := own_cap hmk
              obtain ⟨R, hR⟩ : ∃ R, room nH cH = R := ⟨_, rfl⟩
              have hR2 := hR
              rw [room_eq] at hR2
              rw [hR] at hmk hcc2 HMK
              have HRR := Lib.hid hR
              rcases row_cases hmk with ⟨e, hR0⟩ | ⟨gH, c', hc', e⟩
              · obtain ⟨rfl, rfl⟩ : aH = none ∧ cH = 0 := by cases e; exact ⟨rfl, rfl⟩
                obtain rfl : nH = 0 := by omega
                clear hR hR2 hR0 hmk e hLr hst hbx hh
                have hw0 : IntKind.i64.wrap ((0 : Int) + 9000) = 9000 := by decide
                have hw1 : IntKind.i64.wrap (9000 : Int) = 9000 := by decide
                have hw2 : IntKind.i64.wrap (((0 : Nat) : Int) + 9000) = 9000 := by decide
                go_wp2_with fail
                go_region_held3 (fun w' => w'.cell? ⟨gL, t, none⟩ = some (.slice none 0 0)) (first | exact hcell | go_keep) (fail)
                clear hcell hw0 hw1 hw2
                go_wp2_with fail
                go_loopw [23] (fun i wy => i = .int .i64 0 ∧ Below W5.heap.size W5 wy) (fun i _ => 0)
                case atStart => exact ⟨rfl, (Below.refl _ _).drew⟩
                case round =>
                  obtain ⟨rfl, hby⟩ := hrel
                  have HBY := Lib.hid (HBX.out.trans (hby.mono HBX.out.size))
                  clear hby
                  go_wp2_with fail
                  go_roundw
                  case rel => exact ⟨t + 1, by omega, by go_num, HBY.out⟩
                  case measure => simp [intOf]; omega
              · obtain ⟨rfl, rfl⟩ : aH = some ⟨gH, 0, none⟩ ∧ cH = c' := by cases e; exact ⟨rfl, rfl⟩
                have hwr : IntKind.i64.wrap ((nH : Int) + 9000) = (nH : Int) + 9000 := by simp [IntKind.wrap, IntKind.signed, IntKind.bits]; omega
                have hmn := min_hi (cH : Int) ((nH : Int) + 9000) R (by omega)
                have hsl := slice_hi gH nH cH R _ rfl (by omega)
                clear hR hR2 hmk e hLr hst hbx hh hc'
                go_wp2_with fail
                go_region_held3 (fun w' => w'.cell? ⟨gL, t, none⟩ = some (.slice (some ⟨gH, 0, none⟩) nH cH)) (first | exact hcell | go_keep) (fail)
                clear hcell hmn hsl
                have hwz : IntKind.i64.wrap (-1 - (t : Int)) = -1 - (t : Int) := by simp [IntKind.wrap, IntKind.signed, IntKind.bits]; omega
                go_wp2_with fail
                go_loopw [23] (fun i wy => ∃ y : Nat, y ≤ R ∧ i = .int .i64 y ∧ Below W5.heap.size W5 wy) (fun i _ => R - (intOf i).toNat)
                case atStart => exact ⟨0, by omega, rfl, (Below.refl _ _).drew⟩
                case round =>
                  obtain ⟨y, hy, rfl, hby⟩ := hrel
                  by_cases hyR : y < R
                  · have hfr := own_frame HMK.out (i := y) (f := zF (-((t : Int) + 1))) (by simp [zs, hyR])
                    have c2 : wr.cell? ⟨gH, y * 4 + 2, none⟩ = some (.int .i64 (-1 - (t : Int))) := by
                      have h2 := cell_below hfr.2.2.1 hby
                      have ez : (zF (-((t : Int) + 1))).k = -1 - (t : Int) := by show -((t : Int) + 1) = _; omega
                      rw [ez] at h2
                      exact h2
                    have HBY := Lib.hid hby
                    have hyi : (y : Int) < (R : Int) := by omega
                    clear hby hfr
                    go_wp2_with fail
                    go_roundw
                    case rel => exact ⟨y + 1, by omega, by go_num, HBY.out⟩
                    case measure => simp [intOf]; omega
                  · obtain rfl : y = R := by omega
                    have HBY := Lib.hid (HBX.out.trans (hby.mono HBX.out.size))
                    clear hby
                    go_wp2_with fail
                    go_roundw
                    case rel => exact ⟨t + 1, by omega, by go_num, HBY.out⟩
                    case measure => simp [intOf]; omega
            · obtain rfl : t = ms.length := by omega
              have hbl := HS.out.bl.trans (hbx.mono HS.out.bl.size)
              have HBL := Lib.hid hbl
              clear hbl hbx
              go_wp2_with fail
              go_ret
              exact ⟨rfl, HBL.out⟩
end Go.Proofs.Ytfbmfcipaikaoaa
