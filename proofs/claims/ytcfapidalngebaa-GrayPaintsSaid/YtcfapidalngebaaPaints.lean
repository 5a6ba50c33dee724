/-
  turnrowlaw14.GrayPaints: the walk.
-/
import Derived.Test.YtcfapidalngebaaPaintsPlain
import Derived.Test.YtcfapidalngebaaAlive14
import Derived.Test.YtcfapidalngebaaGray4
import Derived.Test.YtcfapidalngebaaSort
import Derived.Test.YtcfapidalngebaaHas
import Derived.Maps.AppendAt
set_option linter.unusedSimpArgs false
set_option linter.unusedVariables false
namespace Go.Proofs.Ytcfapidalngebaa
open Go.RowKit Go.Tr

set_option maxRecDepth 100000 in
set_option maxHeartbeats 1000000 in
theorem paints_any (la : Option Addr) (ln lc : Nat) (L0 : List Int) (x : Int) (w : World) (hla : SeqAt w la (ints L0)) (hl : L0.length = ln) (hlc : ln ≤ lc) (hm1 : lc ≤ 9223372036854775807) :
    Calls Try.prog 10 #[.slice la ln lc, .int .i64 x] w fun e w' => e = .returned (.bool true) ∧ Below w.heap.size w w' := by
  obtain ⟨i0, hi, hz0, hz1, hz2⟩ := info_parts infoInt4
  have HL := Lib.hid hla; clear hla
  have HLN := Lib.hid hl; clear hl
  obtain ⟨l1, hl1⟩ : ∃ l1 : Nat, l1 = min ln 100 := ⟨_, rfl⟩
  have hlm : min (ln : Int) 100 = (l1 : Int) := by omega
  have hl2 : l1 ≤ lc := by omega
  have HL1 := Lib.hid hl1; clear hl1
  have hLl : (L0.take l1).length = l1 := by have := HL1.out; have := HLN.out; simp; omega
  have HL2 : Hid (SeqAt w la (ints (L0.take l1))) := HL.out.takeI _
  have hl100 : l1 ≤ 100 := by have := HL1.out; omega
  generalize L0.take l1 = L at *
  have HLL := Lib.hid hLl
  clear hLl HL HL1 HLN
  obtain ⟨q1, q2, q3, q4, q5⟩ := paints0 L x (by rw [HLL.out]; exact hl100)
  have Q1 := Lib.hid q1
  have Q2 := Lib.hid q2
  have Q3 := Lib.hid q3
  have Q4 := Lib.hid q4
  have Q5 := Lib.hid q5
  clear q1 q2 q3 q4 q5
  go_enter Try.func10, Try.ntmps10
  go_wp2_with fail
  refine (newS _).mono ?_
  rintro e w1 ⟨g, rfl, hg⟩
  have HI := Lib.hid hg; clear hg
  go_wp2_with fail
  refine (alive14_any _).mono ?_
  rintro e w2 ⟨rfl, hb⟩
  have HI2 := Lib.hid (HI.out.below hb)
  clear HI hb
  go_wp2_with fail
  refine (putS la l1 lc L _ HI2.out (HL2.out.below HI2.out.toBelow (Nat.le_refl _)) HLL.out ?hn ?hsm).mono ?_
  case hn =>
    intro h0 b o e
    obtain ⟨b', o', e', hc⟩ := HL2.out (by rw [ints_length, HLL.out]; exact h0)
    rw [e] at e'
    cases e'
    exact World.block_lt_of_cell? w _ (hc 0 (by rw [ints_length, HLL.out]; exact h0))
  case hsm => refine ⟨?_, ?_, ?_, ?_, ?_⟩ <;> simp [GS.new] <;> omega
  rintro e w3 ⟨rfl, hg⟩
  have HI3 := Lib.hid hg
  clear HI2 hg
  generalize GS.new.putN L = q0
  generalize GS.new.put L = S0 at *
  go_wp2_with fail
  have hwlo : -1000000 ≤ S0.wait := Q2.out.2.2.1
  have hwhi : S0.wait ≤ 1000000 := Q2.out.2.2.2.1
  have hsplit : (hasL L x = true ∧ (S0.paint x).wait = S0.wait - 1) ∨ (hasL L x = false ∧ (S0.paint x).wait = S0.wait) := by
    have h4 := Q4.out
    by_cases hh : hasL L x = true
    · rw [if_pos hh] at h4; exact Or.inl ⟨hh, h4⟩
    · rw [if_neg hh] at h4; exact Or.inr ⟨by simpa using hh, h4⟩
  rcases hsplit with ⟨hh, hw⟩ | ⟨hh, hw⟩
  all_goals
    have HH := Lib.hid hh
    have HW := Lib.hid hw
    clear hh hw
    refine (has_any la l1 lc L x _ (HL2.out.below HI3.out.toBelow (Nat.le_refl _)) HLL.out (by omega)).mono ?_
    rintro e w' ⟨rfl, rfl⟩
    rw [HH.out]
    go_wp2_with fail
    refine (lenS _ HI3.out).mono ?_
    rintro e w' ⟨rfl, rfl⟩
    go_wp2_with fail
    refine (paintS x _ HI3.out Q2.out).mono ?_
    rintro e w4 ⟨rfl, hg⟩
    rw [show decide (S0.color x ≠ 2) = true by simpa using Q1.out]
    have HI4 := Lib.hid hg; clear hg
    go_wp2_with fail
    refine (colorS x _ HI4.out).mono ?_
    rintro e w' ⟨rfl, rfl⟩
    rw [Q3.out]
    go_wp2_with fail
    refine (lenS _ HI4.out).mono ?_
    rintro e w' ⟨rfl, rfl⟩
    rw [HW.out]
    have HX0 : Hid (GX w g (fun b => (Value.slice none 0 0).ownBlock = some b) w4 (S0.paint x)) := HI4.out.toX (by simp [Value.ownBlock])
    have HB4 := Lib.hid HI4.out.toBelow
    generalize S0.paint x = S1 at *
    clear Q1 Q2 Q3 Q4 HI3
    go_wp2_with fail
    go_loopw [8, 69] (fun v i wr => ∃ j : Nat, j ≤ l1 ∧ i = .int .i64 j ∧ Hid (own3 wr 3 w.heap.size v (wantL (L.take j) [x])) ∧ Hid (GX w g (fun b => v.ownBlock = some b) wr S1) ∧ Hid (Below w.heap.size w wr)) (fun _ i _ => l1 - (intOf i).toNat)
    case atStart => exact ⟨0, Nat.zero_le _, rfl, World.ownsRow_nil _ _ _ _, HX0, HB4⟩
    case round =>
      clear HX0 HB4 HI4
      obtain ⟨j, hj, rfl, HV, HX, HB⟩ := hrel
      by_cases hlj : j < l1
      · obtain ⟨b, off, y, rfl, hc, HXX⟩ := (HL2.out.below HB.out (Nat.le_refl _)).ints (k := j) (by rw [HLL.out]; exact hlj)
        have HT := Lib.hid (wantL_take (P := [x]) HXX.out)
        have hwl : (wantL (L.take j) [x]).length ≤ j := by have := wantL_length (L.take j) [x]; simp at this; omega
        have HLt := Lib.hid ((HL2.out.below HB.out (Nat.le_refl _)).takeI j)
        have HLtl : Hid ((L.take j).length = j) := by show _ = _; rw [List.length_take, HLL.out]; omega
        obtain ⟨M, hM⟩ : ∃ M, M = wantL (L.take j) [x] := ⟨_, rfl⟩
        rw [← hM] at HV HT hwl
        clear hM HXX
        obtain ⟨mn, hmn⟩ : ∃ mn, mn = M.length := ⟨_, rfl⟩
        have HV' : Hid (wr.ownsRow w.heap.size 3 1 u8 mn (ints M)) := by rw [hmn]; exact HV.out
        rw [← hmn] at hwl
        have HMN := Lib.hid hmn.symm; clear hmn
        by_cases h2 : y = x
        · have HV2 : Hid (own3 wr 3 w.heap.size u8 (wantL (L.take (j + 1)) [x])) := by rw [HT.out, if_pos (Or.inr (by simp [hasL, h2]))]; exact HV.out
          subst h2
          go_wp2
          go_roundw
          case rel => exact ⟨j + 1, by omega, by go_num, HV2, HX, HB⟩
          case measure => simp [intOf]; omega
        · have d2 : (y == x) = false := by simpa using h2
          have H2 := Lib.hid h2; clear h2
          by_cases h1 : hasL (L.take j) y = true
          · have H1 := Lib.hid h1; clear h1
            have HV2 : Hid (own3 wr 3 w.heap.size u8 (wantL (L.take (j + 1)) [x])) := by rw [HT.out, if_pos (Or.inl H1.out)]; exact HV.out
            go_wp2_with fail
            refine (has_any _ j lc (L.take j) y _ HLt.out HLtl.out (by omega)).mono ?_
            rintro e w' ⟨rfl, rfl⟩
            rw [H1.out]
            go_wp2
            go_roundw
            case rel => exact ⟨j + 1, by omega, by go_num, HV2, HX, HB⟩
            case measure => simp [intOf]; omega
          · have H1 : Hid (hasL (L.take j) y = false) := by simpa [Hid] using h1
            clear h1
            obtain ⟨ma, mc, rfl, -, -, -⟩ := ownsRow_seq HV'.out
            go_wp2_with fail
            refine (has_any _ j lc (L.take j) y _ HLt.out HLtl.out (by omega)).mono ?_
            rintro e w' ⟨rfl, rfl⟩
            rw [H1.out]
            go_wp2_with (first
              | (at_builtin; refine wpList_append_own_at _ rfl (.tmp 85) (.tmp 87) 22 rfl w.heap.size 3 i0 _ 1 8 Try.underlying22 hi hz0 hz1 hz2 rfl (by decide) _ _ _ rfl (HV'.out.alloc _) ⟨wr.heap.size, 0, none⟩ 1 1 (ints [y]) rfl rfl ?_ (ints_oneCell .i64 [y]) (by unfold maxLen; omega) (by omega) (by have := HB.out.size; simp; omega) ?_)
              | fail)
            · intro j u hu
              exact news_block wr (ints [y]) 3 j u hu
            · intro v' w5 hown hgrow _ hat
              have HV5 : Hid (own3 w5 3 w.heap.size v' (wantL (L.take (j + 1)) [x])) := by
                rw [HT.out, if_neg (by have := H2.out; rw [H1.out]; simp [hasL, this])]
                have := hown
                rw [← HMN.out] at this
                show w5.ownsRow _ _ _ _ _ _
                simpa [ints] using this
              have HB5 : Hid (Below w.heap.size w w5) := (HB.out.alloc HB.out.size _).grown hgrow (by have := HB.out.size; simp; omega) (fun j hj => (HV'.out.lt j hj).1)
              have HX5 : Hid (GX w g (fun b => v'.ownBlock = some b) w5 S1) := by
                refine GX.turn (X := fun b => (Value.slice ma mn mc).ownBlock = some b) (HX.out.alloc _) ⟨hgrow.os, hgrow.tape, hgrow.output, hgrow.size, fun j hj hn => hgrow.block j hj (fun e => hn e.symm)⟩ (fun b hb => ?_)
                rcases hat with h | h
                · exact Or.inl (h ▸ hb)
                · rw [h] at hb; cases hb; exact Or.inr (by simp)
              clear hown hgrow hat HX HV' HV HB
              go_wp2
              go_roundw
              case rel => exact ⟨j + 1, by omega, by go_num, HV5, HX5, HB5⟩
              case measure => simp [intOf]; omega
      · have ht : L.take j = L := List.take_of_length_le (by rw [HLL.out]; omega)
        rw [ht] at HV
        obtain ⟨wa, wc, rfl, hsw, hwc, -⟩ := ownsRow_seq HV.out
        have hwl := wantL_length L [x]
        rw [HLL.out] at hwl
        obtain ⟨wn, hwn⟩ : ∃ wn, wn = (wantL L [x]).length := ⟨_, rfl⟩
        rw [← hwn] at hwl hwc
        have HVW : Hid (wr.ownsRow w.heap.size 3 1 (.slice wa wn wc) wn (ints (wantL L [x]))) := by rw [hwn]; exact HV.out
        have HXW : Hid (GX w g (fun b => (Value.slice wa wn wc).ownBlock = some b) wr S1) := by rw [hwn]; exact HX.out
        simp only [← hwn]
        have HWN := Lib.hid hwn.symm; clear hwn hsw HV HX
        go_wp2_with fail
        go_loopw [92] (fun i wr => ∃ (j : Nat) (S : GS), j ≤ wn ∧ i = .int .i64 j ∧ Hid (PaintN S L x j) ∧ Hid (wr.ownsRow w.heap.size 3 1 (.slice wa wn wc) wn (ints (wantL L [x]))) ∧ Hid (GX w g (fun b => (Value.slice wa wn wc).ownBlock = some b) wr S) ∧ Hid (Below w.heap.size w wr)) (fun i _ => wn - (intOf i).toNat)
        case atStart => exact ⟨0, S1, Nat.zero_le _, rfl, Q5, HVW, HXW, HB⟩
        case round =>
          clear Q5 HVW HXW HB hj hlj
          obtain ⟨j, S, hj, rfl, HPN, HVW, HX, HB⟩ := hrel
          have HSM := Lib.hid (HPN.out.small (by omega))
          have HXL : Hid (∀ b, (Value.slice wa wn wc).ownBlock = some b → b < wr.heap.size) := fun b hb => (HVW.out.lt b hb).2
          by_cases hlj : j < wn
          · have HSW : Hid (SeqAt wr wa (ints (wantL L [x]))) := by obtain ⟨a, c, e, h, _⟩ := ownsRow_seq HVW.out; cases e; exact h
            obtain ⟨b, off, y, rfl, hc, HY⟩ := HSW.out.ints (k := j) (by rw [HWN.out]; exact hlj)
            obtain ⟨n1, n2⟩ := HPN.out.step HY.out
            have HNV : Hid (nextV S.next = .tuple #[.int .i64 y, .bool true]) := by show _ = _; rw [nextV, n1]; rfl
            have N2 := Lib.hid n2
            clear n1 n2 HY HSW
            go_wp2_with fail
            refine (nextX _ HX.out HSM.out HB.out.size HXL.out).mono ?_
            rintro e w6 ⟨rfl, hx6, ho6⟩
            rw [HNV.out]
            have HX6 := Lib.hid hx6
            have HVW6 := Lib.hid (may_row ho6 HVW.out (fun k hk => hk))
            have HB6 : Hid (Below w.heap.size w w6) := may_below ho6 HB.out HB.out.size
            clear hx6 ho6 HX HVW HB
            go_wp2
            go_roundw
            case rel => exact ⟨j + 1, _, by omega, by go_num, N2, HVW6, HX6, HB6⟩
            case measure => simp [intOf]; omega
          · have hPN : PaintN S L x (wantL L [x]).length := by rw [HWN.out]; rw [show wn = j by omega]; exact HPN.out
            obtain ⟨n1, n2, n3⟩ := hPN.fin (by rw [HLL.out]; exact hl100)
            have HNV : Hid (nextV S.next = .tuple #[.int .i64 0, .bool false]) := by show _ = _; rw [nextV, n1]; rfl
            have N2 := Lib.hid n2
            have N3 := Lib.hid n3
            clear n1 n2 n3 hPN
            go_wp2_with fail
            refine (nextX _ HX.out HSM.out HB.out.size HXL.out).mono ?_
            rintro e w6 ⟨rfl, hx6, ho6⟩
            rw [HNV.out]
            have HX6 := Lib.hid hx6
            have HB6 : Hid (Below w.heap.size w w6) := may_below ho6 HB.out HB.out.size
            clear hx6 ho6 HX HVW HB
            generalize S.next.2 = S9 at *
            go_wp2_with fail
            obtain ⟨F, hF, -⟩ := HX6.out
            have HF := Lib.hid hF; clear hF
            refine (done_any _ HF.out N3.out).mono ?_
            rintro e w7 ⟨vd, zs, rfl, ho7, hr7, hm7, hb7⟩
            obtain ⟨da, dc, rfl, hsd, hdc, hdm⟩ := ownsRow_seq ho7
            have HD7 := Lib.hid hsd
            have HM7 : Hid (hasL zs x = true) := (hasL_iff _ _).2 ((hm7 x).2 N2.out)
            have HB7 : Hid (Below w.heap.size w w7) := HB6.out.trans (hb7.mono HB6.out.size)
            generalize hzn : zs.length = zn at *
            have HZN := Lib.hid hzn
            have hzle : zn ≤ 9223372036854775807 := by unfold maxLen at hdm; omega
            clear ho7 hr7 hm7 hb7 hsd HF HX6 hzn hdm
            go_wp2_with fail
            refine (has_any da zn dc zs x _ HD7.out HZN.out hzle).mono ?_
            rintro e w' ⟨rfl, rfl⟩
            rw [HM7.out]
            go_wp2
            go_ret
            exact ⟨rfl, HB7.out⟩

theorem paints_row (a0 : Option Addr) (n0 c0 : Nat) (z0 : List Int) (x : Int) (w : World) (hz0 : SeqAt w a0 (ints z0)) (hl0 : z0.length = n0) (hc0 : n0 ≤ c0) (hm0 : n0 ≤ maxLen) (hw0 : ∀ z ∈ z0, (Lit.int .i64 z).wf = true) (hn0 : a0 = none → n0 = 0 ∧ c0 = 0) (hb0 : c0 ≤ maxLen) (_ : (Lit.int .i64 x).wf = true) :
    Calls Try.prog 10 #[.slice a0 n0 c0, .int .i64 x] w fun e w' => e = .returned (.bool true) ∧ Below w.heap.size w w' :=
  paints_any a0 n0 c0 z0 x w hz0 hl0 hc0 (by unfold maxLen at hb0; omega)
end Go.Proofs.Ytcfapidalngebaa
