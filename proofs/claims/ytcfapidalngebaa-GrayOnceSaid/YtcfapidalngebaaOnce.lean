/-
  turnrowlaw14.GrayOnce: the walk.
-/
import Derived.Test.YtcfapidalngebaaOncePlain
import Derived.Test.YtcfapidalngebaaAlive14
import Derived.Test.YtcfapidalngebaaGray4
import Derived.Test.YtcfapidalngebaaSorted13
import Derived.Test.YtcfapidalngebaaSame
import Derived.Test.YtcfapidalngebaaAppSeq
set_option linter.unusedSimpArgs false
set_option linter.unusedVariables false
namespace Go.Proofs.Ytcfapidalngebaa
open Go.RowKit Go.Tr

set_option maxRecDepth 100000 in
set_option maxHeartbeats 1000000 in
theorem once_any (la pa : Option Addr) (ln lc pn pc : Nat) (L0 P0 : List Int) (w : World) (hla : SeqAt w la (ints L0)) (hpa : SeqAt w pa (ints P0)) (hl : L0.length = ln) (hp : P0.length = pn) (hlc : ln ≤ lc) (hpc : pn ≤ pc) (hm1 : lc ≤ 9223372036854775807) (hm2 : pc ≤ 9223372036854775807) (hnl : la = none → ln = 0 ∧ lc = 0) (hnp : pa = none → pn = 0 ∧ pc = 0) :
    Calls Try.prog 9 #[.slice la ln lc, .slice pa pn pc] w fun e w' => e = .returned (.bool true) ∧ Below w.heap.size w w' := by
  obtain ⟨i0, hi, hz0, hz1, hz2⟩ := info_parts infoIntS
  have HL := Lib.hid hla; clear hla
  have HP := Lib.hid hpa; clear hpa
  have HLN := Lib.hid hl; clear hl
  have HPN := Lib.hid hp; clear hp
  go_enter Try.func9, Try.ntmps9
  go_wp2_with fail
  obtain ⟨l1, hl1⟩ : ∃ l1 : Nat, l1 = min ln 100 := ⟨_, rfl⟩
  obtain ⟨p1, hp1⟩ : ∃ p1 : Nat, p1 = min pn 50 := ⟨_, rfl⟩
  have hlm : min (ln : Int) 100 = (l1 : Int) := by omega
  have hpm : min (pn : Int) 50 = (p1 : Int) := by omega
  have hl2 : l1 ≤ lc := by omega
  have hp2 : p1 ≤ pc := by omega
  have HNL : Hid (la = none → l1 = 0 ∧ lc = 0) := fun e => by have := hnl e; omega
  have HNP : Hid (pa = none → p1 = 0 ∧ pc = 0) := fun e => by have := hnp e; omega
  clear hnl hnp
  have HL1 := Lib.hid hl1
  have HP1 := Lib.hid hp1
  clear hl1 hp1
  go_quiet (fail)
  obtain ⟨w0, hw0⟩ : ∃ w0, w0 = w.drewN nq := ⟨_, rfl⟩
  rw [← hw0]
  have HB0 : Hid (Below w.heap.size w w0) := by rw [hw0]; exact Drawn.below ⟨_, rfl⟩ _
  have HSZ : Hid (w0.heap.size = w.heap.size) := by rw [hw0]; rfl
  have hLl : (L0.take l1).length = l1 := by have := HL1.out; have := HLN.out; simp; omega
  have hPl : (P0.take p1).length = p1 := by have := HP1.out; have := HPN.out; simp; omega
  have HL2 : Hid (SeqAt w0 la (ints (L0.take l1))) := by rw [hw0]; exact (HL.out.takeI _).drawn ⟨_, rfl⟩
  have HP2 : Hid (SeqAt w0 pa (ints (P0.take p1))) := by rw [hw0]; exact (HP.out.takeI _).drawn ⟨_, rfl⟩
  have hl100 : l1 ≤ 100 := by have := HL1.out; omega
  have hp50 : p1 ≤ 50 := by have := HP1.out; omega
  generalize L0.take l1 = L at *
  generalize P0.take p1 = P at *
  have HLL := Lib.hid hLl
  have HPL := Lib.hid hPl
  clear hw0 hLl hPl HL HP HL1 HP1 HLN HPN hlm hpm
  go_wp2_with fail
  refine (newS _).mono ?_
  rintro e w1 ⟨g, rfl, hg⟩
  have HI := Lib.hid hg; clear hg
  go_wp2_with fail
  refine (alive14_any _).mono ?_
  rintro e w2 ⟨rfl, hb⟩
  have HI2 := Lib.hid (HI.out.below hb)
  clear HI hb
  go_wp2_with fail
  refine (putS la l1 lc L _ HI2.out (HL2.out.below HI2.out.toBelow (Nat.le_refl _)) HLL.out ?hn ?hsm).mono ?_
  case hn =>
    intro h0 b o e
    obtain ⟨b', o', e', hc⟩ := HL2.out (by rw [ints_length, HLL.out]; exact h0)
    rw [e] at e'
    cases e'
    exact World.block_lt_of_cell? w0 _ (hc 0 (by rw [ints_length, HLL.out]; exact h0))
  case hsm => refine ⟨?_, ?_, ?_, ?_, ?_⟩ <;> simp [GS.new] <;> omega
  rintro e w3 ⟨rfl, hg⟩
  have HI3 := Lib.hid hg
  have HO3 := Lib.hid (once0 L P (by rw [HLL.out]; exact hl100))
  clear HI2 hg
  generalize GS.new.putN L = q0
  generalize GS.new.put L = S0 at *
  go_wp2_with fail
  go_loopw [38] (fun i wr => ∃ (k : Nat) (S : GS), k ≤ p1 ∧ i = .int .i64 k ∧ Hid (OnceP S L P k) ∧ Hid (GInv w0 g wr S)) (fun i _ => p1 - (intOf i).toNat)
  case atStart => exact ⟨0, S0, Nat.zero_le _, rfl, HO3, HI3⟩
  case round =>
    clear HO3 HI3
    obtain ⟨k, S, hk, rfl, HO, HI⟩ := hrel
    by_cases hlt : k < p1
    · obtain ⟨b, off, x, rfl, hc, HX⟩ := (HP2.out.below HI.out.toBelow (Nat.le_refl _)).ints (k := k) (by rw [HPL.out]; exact hlt)
      have HO2 := Lib.hid (HO.out.step HX.out)
      have HSM := Lib.hid (HO.out.2.1.mono (M := 1000000) (by omega))
      clear HX
      go_wp2_with fail
      refine (paintS x _ HI.out HSM.out).mono ?_
      rintro e w4 ⟨rfl, hg⟩
      have HI4 := Lib.hid hg; clear hg
      go_wp2
      go_roundw
      case rel => exact ⟨k + 1, _, by omega, by go_num, HO2, HI4⟩
      case measure => simp [intOf]; omega
    · have hkp : k = p1 := by omega
      subst hkp
      have hOP : OnceP S L P P.length := by rw [HPL.out]; exact HO.out
      obtain ⟨ho1, hwait⟩ := hOP.turn (by rw [HPL.out]; exact hp50)
      have HON := Lib.hid ho1
      have HWAIT := Lib.hid hwait
      clear hOP ho1 hwait HO
      have HX0 : Hid (GX w0 g (fun b => (Value.slice none 0 0).ownBlock = some b) wr S) := HI.out.toX (by simp [Value.ownBlock])
      have HBX := Lib.hid HI.out.toBelow
      go_wp2_with fail
      go_loopw [8, 48] (fun v i wr => ∃ j : Nat, j ≤ l1 ∧ i = .int .i64 j ∧ Hid (own3 wr 3 w0.heap.size v (wantL (L.take j) P)) ∧ Hid (GX w0 g (fun b => v.ownBlock = some b) wr S) ∧ Hid (Below w0.heap.size w0 wr)) (fun _ i _ => l1 - (intOf i).toNat)
      case atStart => exact ⟨0, Nat.zero_le _, rfl, World.ownsRow_nil _ _ _ _, HX0, HBX⟩
      case round =>
        clear HX0 HBX HI
        obtain ⟨j, hj, rfl, HV, HX, HB⟩ := hrel
        by_cases hlj : j < l1
        · obtain ⟨b, off, x, rfl, hc, HXX⟩ := (HL2.out.below HB.out (Nat.le_refl _)).ints (k := j) (by rw [HLL.out]; exact hlj)
          have HT := Lib.hid (wantL_take (P := P) HXX.out)
          have hwl : (wantL (L.take j) P).length ≤ j := by have := wantL_length (L.take j) P; simp at this; omega
          have HLt := Lib.hid ((HL2.out.below HB.out (Nat.le_refl _)).takeI j)
          have HPt := Lib.hid (HP2.out.below HB.out (Nat.le_refl _))
          have HLtl : Hid ((L.take j).length = j) := by show _ = _; rw [List.length_take, HLL.out]; omega
          obtain ⟨M, hM⟩ : ∃ M, M = wantL (L.take j) P := ⟨_, rfl⟩
          rw [← hM] at HV HT hwl
          clear hM HXX
          obtain ⟨mn, hmn⟩ : ∃ mn, mn = M.length := ⟨_, rfl⟩
          have HV' : Hid (wr.ownsRow w0.heap.size 3 1 u8 mn (ints M)) := by rw [hmn]; exact HV.out
          rw [← hmn] at hwl
          have HMN := Lib.hid hmn.symm; clear hmn
          by_cases h1 : hasL (L.take j) x = true
          · have H1 := Lib.hid h1; clear h1
            have HV2 : Hid (own3 wr 3 w0.heap.size u8 (wantL (L.take (j + 1)) P)) := by rw [HT.out, if_pos (Or.inl H1.out)]; exact HV.out
            go_wp2_with fail
            refine (has_any _ j lc (L.take j) x _ HLt.out HLtl.out (by omega)).mono ?_
            rintro e w' ⟨rfl, rfl⟩
            rw [H1.out]
            go_wp2
            go_roundw
            case rel => exact ⟨j + 1, by omega, by go_num, HV2, HX, HB⟩
            case measure => simp [intOf]; omega
          · have H1 : Hid (hasL (L.take j) x = false) := by simpa [Hid] using h1
            clear h1
            by_cases h2 : hasL P x = true
            · have H2 := Lib.hid h2; clear h2
              have HV2 : Hid (own3 wr 3 w0.heap.size u8 (wantL (L.take (j + 1)) P)) := by rw [HT.out, if_pos (Or.inr H2.out)]; exact HV.out
              go_wp2_with fail
              refine (has_any _ j lc (L.take j) x _ HLt.out HLtl.out (by omega)).mono ?_
              rintro e w' ⟨rfl, rfl⟩
              rw [H1.out]
              go_wp2_with fail
              refine (has_any _ _ pc P x _ HPt.out HPL.out (by omega)).mono ?_
              rintro e w' ⟨rfl, rfl⟩
              rw [H2.out]
              go_wp2
              go_roundw
              case rel => exact ⟨j + 1, by omega, by go_num, HV2, HX, HB⟩
              case measure => simp [intOf]; omega
            · have H2 : Hid (hasL P x = false) := by simpa [Hid] using h2
              clear h2
              obtain ⟨ma, mc, rfl, -, -, -⟩ := ownsRow_seq HV'.out
              go_wp2_with fail
              refine (has_any _ j lc (L.take j) x _ HLt.out HLtl.out (by omega)).mono ?_
              rintro e w' ⟨rfl, rfl⟩
              rw [H1.out]
              go_wp2_with fail
              refine (has_any _ _ pc P x _ HPt.out HPL.out (by omega)).mono ?_
              rintro e w' ⟨rfl, rfl⟩
              rw [H2.out]
              go_wp2_with (first
                | (at_builtin; refine wpList_append_own_at _ rfl (.tmp 65) (.tmp 67) 22 rfl w0.heap.size 3 i0 _ 1 8 Try.underlying22 hi hz0 hz1 hz2 rfl (by decide) _ _ _ rfl (HV'.out.alloc _) ⟨wr.heap.size, 0, none⟩ 1 1 (ints [x]) rfl rfl ?_ (ints_oneCell .i64 [x]) (by unfold maxLen; omega) (by omega) (by have := HB.out.size; simp; omega) ?_)
                | fail)
              · intro j u hu
                exact news_block wr (ints [x]) 3 j u hu
              · intro v' w5 hown hgrow _ hat
                have HV5 : Hid (own3 w5 3 w0.heap.size v' (wantL (L.take (j + 1)) P)) := by
                  rw [HT.out, if_neg (by rw [H1.out, H2.out]; simp)]
                  have := hown
                  rw [← HMN.out] at this
                  show w5.ownsRow _ _ _ _ _ _
                  simpa [ints] using this
                have HB5 : Hid (Below w0.heap.size w0 w5) := (HB.out.alloc HB.out.size _).grown hgrow (by have := HB.out.size; simp; omega) (fun j hj => (HV'.out.lt j hj).1)
                have HX5 : Hid (GX w0 g (fun b => v'.ownBlock = some b) w5 S) := by
                  refine GX.turn (X := fun b => (Value.slice ma mn mc).ownBlock = some b) (HX.out.alloc _) ⟨hgrow.os, hgrow.tape, hgrow.output, hgrow.size, fun j hj hn => hgrow.block j hj (fun e => hn e.symm)⟩ (fun b hb => ?_)
                  rcases hat with h | h
                  · exact Or.inl (h ▸ hb)
                  · rw [h] at hb; cases hb; exact Or.inr (by simp)
                clear hown hgrow hat HX HV' HV HB
                go_wp2
                go_roundw
                case rel => exact ⟨j + 1, by omega, by go_num, HV5, HX5, HB5⟩
                case measure => simp [intOf]; omega
        · have ht : L.take j = L := List.take_of_length_le (by rw [HLL.out]; omega)
          rw [ht] at HV
          obtain ⟨wa, wc, rfl, hsw, hwc, -⟩ := ownsRow_seq HV.out
          have hwl := wantL_length L P
          rw [HLL.out] at hwl
          obtain ⟨wn, hwn⟩ : ∃ wn, wn = (wantL L P).length := ⟨_, rfl⟩
          rw [← hwn] at hwl hwc HWAIT
          have HVW : Hid (wr.ownsRow w0.heap.size 3 1 (.slice wa wn wc) wn (ints (wantL L P))) := by rw [hwn]; exact HV.out
          have HXW : Hid (GX w0 g (fun b => (Value.slice wa wn wc).ownBlock = some b ∨ (Value.slice none 0 0).ownBlock = some b) wr S) := by
            rw [hwn]
            exact HX.out.turn (Only.refl _ _) (fun b hb => Or.inl (hb.resolve_right (by simp [Value.ownBlock])))
          simp only [← hwn]
          have HWN := Lib.hid hwn.symm; clear hwn hsw HV HX
          go_wp2_with fail
          refine (lenX _ HXW.out).mono ?_
          rintro e w' ⟨rfl, rfl⟩
          rw [HWAIT.out]
          go_wp2_with fail
          go_loopw [9, 77] (fun v i wr => ∃ (j : Nat) (S : GS) (got : List Int), j ≤ l1 ∧ i = .int .i64 j ∧ Hid (OnceN S L P got j) ∧ Hid (wr.ownsRow w0.heap.size 3 1 (.slice wa wn wc) wn (ints (wantL L P))) ∧ Hid (own3 wr 3 w0.heap.size v got) ∧ Hid (Value.ownBlock (.slice wa wn wc) = none ∨ v.ownBlock ≠ Value.ownBlock (.slice wa wn wc)) ∧ Hid (GX w0 g (fun b => (Value.slice wa wn wc).ownBlock = some b ∨ v.ownBlock = some b) wr S) ∧ Hid (Below w0.heap.size w0 wr)) (fun _ i _ => l1 - (intOf i).toNat)
          case atStart => exact ⟨0, S, [], Nat.zero_le _, rfl, HON, HVW, World.ownsRow_nil _ _ _ _, by
            show _ ∨ _
            cases hb : (Value.slice wa wn wc).ownBlock with
            | none => exact Or.inl rfl
            | some b => exact Or.inr (by simp [Value.ownBlock]), HXW, HB⟩
          case round =>
            clear HON HVW HXW HB HWAIT hj hlj
            obtain ⟨j, S, got, hj, rfl, HON, HVW, HV, HD, HX, HB⟩ := hrel
            have HSM : Hid (S.Small 1000000) := by
              obtain ⟨wl, bl, _, _, _, _, h5, _⟩ := HON.out
              exact h5.mono (by omega)
            have hXlt : ∀ b, (Value.slice wa wn wc).ownBlock = some b ∨ u9.ownBlock = some b → b < wr.heap.size := fun b hb => hb.elim (fun h => (HVW.out.lt b h).2) (fun h => (HV.out.lt b h).2)
            have HXL := Lib.hid hXlt; clear hXlt
            by_cases hlj : j < l1
            · cases hn : S.next.1 with
              | none =>
                have HON2 := Lib.hid (HON.out.none (by rw [HLL.out]; exact hlj) hn)
                have HNV : Hid (nextV S.next = .tuple #[.int .i64 0, .bool false]) := by show _ = _; rw [nextV, hn]; rfl
                clear hn
                go_wp2_with fail
                refine (nextX _ HX.out HSM.out HB.out.size HXL.out).mono ?_
                rintro e w4 ⟨rfl, hx4, ho4⟩
                rw [HNV.out]
                have HX4 := Lib.hid hx4
                have HVW4 := Lib.hid (may_row ho4 HVW.out (fun k hk => Or.inl hk))
                have HV4 : Hid (own3 w4 3 w0.heap.size u9 got) := may_row ho4 HV.out (fun k hk => Or.inr hk)
                have HB4 : Hid (Below w0.heap.size w0 w4) := may_below ho4 HB.out HB.out.size
                clear hx4 ho4
                go_wp2
                go_roundw
                case rel => exact ⟨j + 1, _, got, by omega, by go_num, HON2, HVW4, HV4, HD, HX4, HB4⟩
                case measure => simp [intOf]; omega
              | some x =>
                obtain ⟨n1, n2, n3, n4⟩ := HON.out.some (by rw [HLL.out]; exact hl100) hn
                have N1 := Lib.hid n1
                have N2 := Lib.hid n2
                have N4 := Lib.hid n4
                have HNV : Hid (nextV S.next = .tuple #[.int .i64 x, .bool true]) := by show _ = _; rw [nextV, hn]; rfl
                clear hn n1 n2 n3 n4
                go_wp2_with fail
                refine (nextX _ HX.out HSM.out HB.out.size HXL.out).mono ?_
                rintro e w4 ⟨rfl, hx4, ho4⟩
                rw [HNV.out]
                have HX4 := Lib.hid hx4
                have HVW4 := Lib.hid (may_row ho4 HVW.out (fun k hk => Or.inl hk))
                have HV4 : Hid (own3 w4 3 w0.heap.size u9 got) := may_row ho4 HV.out (fun k hk => Or.inr hk)
                have HB4 : Hid (Below w0.heap.size w0 w4) := may_below ho4 HB.out HB.out.size
                clear hx4 ho4 HX HV HB HVW HSM HXL
                generalize S.next.2 = S4 at *
                have hgl : got.length < 100 := by
                  obtain ⟨wl, bl, _, h2, _, _, _, _⟩ := N2.out
                  have h3 := congrArg List.length h2
                  have h4 := wantL_length L P
                  rw [HLL.out] at h4
                  simp at h3; omega
                obtain ⟨gn, hgn⟩ : ∃ gn, gn = got.length := ⟨_, rfl⟩
                have HV4' : Hid (w4.ownsRow w0.heap.size 3 1 u9 gn (ints got)) := by rw [hgn]; exact HV4.out
                rw [← hgn] at hgl
                have HGN := Lib.hid hgn.symm; clear hgn
                obtain ⟨ga, gc, rfl, -, -, -⟩ := ownsRow_seq HV4'.out
                clear HV4
                go_wp2_with (first
                  | (at_builtin; refine wpList_append_own_at _ rfl (.tmp 85) (.tmp 87) 22 rfl w0.heap.size 3 i0 _ 1 8 Try.underlying22 hi hz0 hz1 hz2 rfl (by decide) _ _ _ rfl (HV4'.out.alloc _) ⟨w4.heap.size, 0, none⟩ 1 1 (ints [x]) rfl rfl ?_ (ints_oneCell .i64 [x]) (by unfold maxLen; omega) (by omega) (by have := HB4.out.size; simp; omega) ?_)
                  | fail)
                · intro j u hu
                  exact news_block w4 (ints [x]) 3 j u hu
                · intro v' w5 hown hgrow _ hat
                  have HV5 : Hid (own3 w5 3 w0.heap.size v' (got ++ [x])) := by
                    have := hown
                    rw [← HGN.out] at this
                    show w5.ownsRow _ _ _ _ _ _
                    simpa [ints] using this
                  have HB5 : Hid (Below w0.heap.size w0 w5) := (HB4.out.alloc HB4.out.size _).grown hgrow (by have := HB4.out.size; simp; omega) (fun j hj => (HV4'.out.lt j hj).1)
                  have hwb : ∀ b, (Value.slice wa wn wc).ownBlock = some b → b < w4.heap.size ∧ (Value.slice ga gn gc).ownBlock ≠ some b := fun b hb => by
                    refine ⟨(HVW4.out.lt b hb).2, fun e => ?_⟩
                    rcases HD.out with h | h
                    · rw [hb] at h; cases h
                    · exact h (e.trans hb.symm)
                  have HVW5 : Hid (w5.ownsRow w0.heap.size 3 1 (.slice wa wn wc) wn (ints (wantL L P))) :=
                    ownsRow_kept HVW4.out (fun b hb => (hgrow.block b (by have := (hwb b hb).1; simp; omega) (fun e => (hwb b hb).2 e.symm)).trans (Below.heap_alloc _ _ _ (hwb b hb).1))
                  have HD5 : Hid (Value.ownBlock (.slice wa wn wc) = none ∨ v'.ownBlock ≠ Value.ownBlock (.slice wa wn wc)) := by
                    show _ ∨ _
                    cases hb : (Value.slice wa wn wc).ownBlock with
                    | none => exact Or.inl rfl
                    | some b =>
                      refine Or.inr (fun e => ?_)
                      have h1 := hwb b hb
                      rcases hat with h | h
                      · exact h1.2 (h ▸ e)
                      · rw [h] at e; cases e; have := h1.1; (try simp at this); omega
                  have HX5 : Hid (GX w0 g (fun b => (Value.slice wa wn wc).ownBlock = some b ∨ v'.ownBlock = some b) w5 S4) := by
                    refine GX.turn (X := fun b => (Value.slice wa wn wc).ownBlock = some b ∨ (Value.slice ga gn gc).ownBlock = some b) (HX4.out.alloc _) ⟨hgrow.os, hgrow.tape, hgrow.output, hgrow.size, fun j hj hn => hgrow.block j hj (fun e => hn (Or.inr e.symm))⟩ (fun b hb => ?_)
                    rcases hb with hb | hb
                    · exact Or.inl (Or.inl hb)
                    · rcases hat with h | h
                      · exact Or.inl (Or.inr (h ▸ hb))
                      · rw [h] at hb; cases hb; exact Or.inr (by simp)
                  have HPUT := Lib.hid (putXA 1 [x] 3 w5 #[.int .i64 x] rfl HX5.out rfl N4.out HB5.out.size (fun b hb => hb.elim (fun h => (HVW5.out.lt b h).2) (fun h => (HV5.out.lt b h).2)))
                  clear hown hgrow hat hwb HX4 HV4' HVW4 HB4 HD
                  go_wp2_with fail
                  refine HPUT.out.mono ?_
                  rintro e w6 ⟨rfl, hx6, ho6⟩
                  rw [N1.out]
                  have HX6 := Lib.hid hx6
                  have HVW6 := Lib.hid (may_row ho6 HVW5.out (fun k hk => Or.inl hk))
                  have HV6 : Hid (own3 w6 3 w0.heap.size v' (got ++ [x])) := may_row ho6 HV5.out (fun k hk => Or.inr hk)
                  have HB6 : Hid (Below w0.heap.size w0 w6) := may_below ho6 HB5.out HB5.out.size
                  clear hx6 ho6 HPUT HX5 HV5 HVW5 HB5
                  go_wp2
                  go_roundw
                  case rel => exact ⟨j + 1, _, _, by omega, by go_num, N2, HVW6, HV6, HD5, HX6, HB6⟩
                  case measure => simp [intOf]; omega
            · have hjl : j = L.length := by rw [HLL.out]; omega
              have hON : OnceN S L P got L.length := hjl ▸ HON.out
              obtain ⟨f1, f2, f3, f4, f5⟩ := hON.fin (by rw [HLL.out]; exact hl100)
              have HNV : Hid (nextV S.next = .tuple #[.int .i64 0, .bool false]) := by show _ = _; rw [nextV, f1]; rfl
              have F2 := Lib.hid f2
              have F3 := Lib.hid f3
              have F4 := Lib.hid f4
              have F5 := Lib.hid f5
              clear hON f1 f2 f3 f4 f5 hjl HON
              have hgl := congrArg List.length F3.out
              rw [HWN.out] at hgl
              have HV' : Hid (wr.ownsRow w0.heap.size 3 1 u9 wn (ints got)) := by have := HV.out; unfold own3 at this; rwa [hgl] at this
              have HGN := Lib.hid hgl; clear hgl HV
              obtain ⟨ga, gc, rfl, -, -, -⟩ := ownsRow_seq HV'.out
              go_wp2_with fail
              refine (nextX _ HX.out HSM.out HB.out.size HXL.out).mono ?_
              rintro e w4 ⟨rfl, hx4, ho4⟩
              rw [HNV.out]
              have HX4 := Lib.hid hx4
              have HVW4 := Lib.hid (may_row ho4 HVW.out (fun k hk => Or.inl hk))
              have HV4 := Lib.hid (may_row ho4 HV'.out (fun k hk => Or.inr hk))
              have HB4 : Hid (Below w0.heap.size w0 w4) := may_below ho4 HB.out HB.out.size
              clear hx4 ho4 HX HV' HVW HB HSM HXL
              generalize S.next.2 = S4 at *
              go_wp2_with fail
              refine (lenX _ HX4.out).mono ?_
              rintro e w' ⟨rfl, rfl⟩
              rw [F2.out]
              have HSG : Hid (SeqAt w4 ga (ints got)) := by obtain ⟨a, c, e, h, _⟩ := ownsRow_seq HV4.out; cases e; exact h
              have HSW : Hid (SeqAt w4 wa (ints (wantL L P))) := by obtain ⟨a, c, e, h, _⟩ := ownsRow_seq HVW4.out; cases e; exact h
              go_wp2_with fail
              refine (same_any ga wa wn gc wn wc got (wantL L P) _ HSG.out HSW.out HGN.out HWN.out (by omega)).mono ?_
              rintro e w5 ⟨rfl, hd⟩
              rw [show sameL got (wantL L P) = true from (sameL_iff _ _).2 F3.out]
              have HX5 := Lib.hid (HX4.out.drawn hd)
              have HB5 : Hid (Below w0.heap.size w0 w5) := HB4.out.trans (hd.below _)
              clear hd HX4 HB4 HV4 HVW4 HSG HSW
              go_wp2_with fail
              obtain ⟨F, hF, -⟩ := HX5.out
              have HF := Lib.hid hF; clear hF
              refine (done_any _ HF.out F5.out).mono ?_
              rintro e w6 ⟨vd, zs, rfl, ho6, hr6, hm6, hb6⟩
              obtain ⟨da, dc, rfl, hsd, hdc, -⟩ := ownsRow_seq ho6
              have HD6 := Lib.hid hsd
              have HR6 := Lib.hid hr6
              have HM6 : Hid (∀ y, y ∈ zs ↔ y ∈ L ++ P) := fun y => (hm6 y).trans (F4.out y)
              have HB6 : Hid (Below w0.heap.size w0 w6) := HB5.out.trans (hb6.mono HB5.out.size)
              generalize hzn : zs.length = zn at *
              have HZN := Lib.hid hzn
              clear ho6 hr6 hm6 hb6 hsd HX5 HB5 HF hzn
              have hown0 : Hid ((w6.alloc (.cells #[] 3)).ownsRow w6.heap.size 3 1 (.slice (some ⟨w6.heap.size, 0, none⟩) 0 0) 0 []) :=
                ⟨rfl, Or.inr ⟨w6.heap.size, 0, #[], rfl, Nat.le_refl _, heap_alloc_new w6 _, Nat.le_refl _, Nat.zero_le _, rfl, rfl⟩⟩
              have HB7 : Hid (Below w0.heap.size w0 (w6.alloc (.cells #[] 3))) := HB6.out.alloc HB6.out.size _
              have HL7 := Lib.hid (HL2.out.below HB7.out (Nat.le_refl _))
              go_wp2_with (first
                | (at_builtin; refine wpList_append_seqG (by rfl) (.tmp 115) (.tmp 116) 22 rfl w6.heap.size 3 i0 _ 1 8 Try.underlying22 hi hz0 hz1 hz2 rfl (by decide) (.slice (some ⟨w6.heap.size, 0, none⟩) 0 0) 0 [] rfl hown0.out la l1 lc (ints L) rfl HNL.out (by rw [ints_length, HLL.out]; omega) HL7.out (ints_oneCell .i64 L) (by unfold maxLen; omega) (by omega) (by simp) ?_
                   intro v8 w8 hown8 hgrow8 hat8
                   simp only [List.nil_append, Nat.zero_add] at hown8
                   obtain ⟨a8, c8, rfl, hso8, hc8, hm8⟩ := ownsRow_seq hown8
                   have HV8 := Lib.hid hown8
                   have HB8 : Hid (Below w6.heap.size w6 w8) := ((Below.refl _ w6).alloc (Nat.le_refl _) _).grown hgrow8 (by simp) (fun j hj => by cases hj; exact Nat.le_refl _)
                   have HP8 := Lib.hid (HP2.out.below (HB6.out.trans (HB8.out.mono HB6.out.size)) (Nat.le_refl _))
                   clear hown8 hgrow8 hat8 hso8 hc8 hm8 hown0 HL7 HB7)
                | (at_builtin; refine wpList_append_seqG (by rfl) (.tmp 117) (.tmp 118) 22 rfl w6.heap.size 3 i0 _ 1 8 Try.underlying22 hi hz0 hz1 hz2 rfl (by decide) (.slice a8 l1 c8) l1 (ints L) rfl HV8.out pa _ pc (ints P) rfl HNP.out (by rw [ints_length, HPL.out]; omega) HP8.out (ints_oneCell .i64 P) (by unfold maxLen; omega) (by omega) HB8.out.size ?_
                   intro v9 w9 hown9 hgrow9 hat9
                   obtain ⟨a9, c9, rfl, hso9, hc9, hm9⟩ := ownsRow_seq hown9
                   have HJ9 : Hid (SeqAt w9 a9 (ints (L ++ P))) := by rw [show ints (L ++ P) = ints L ++ ints P by simp [ints]]; exact hso9
                   have HB9 : Hid (Below w6.heap.size w6 w9) := HB8.out.grown hgrow9 HB8.out.size (fun j hj => (HV8.out.lt j hj).1)
                   clear hown9 hgrow9 hat9 hso9 hc9 hm9 HV8 HB8 HP8)
                | fail)
              have hjl : (L ++ P).length = l1 + k := by rw [List.length_append, HLL.out, HPL.out]
              have HD9 := Lib.hid (HD6.out.below HB9.out (Nat.le_refl _))
              refine (sorted13_any a9 (l1 + k) c9 (L ++ P) _ HJ9.out hjl (by omega)).mono ?_
              rintro e w10 ⟨vs, zs2, rfl, ho10, hr10, hm10, hb10⟩
              obtain ⟨sa, sc, rfl, hss, hsc, -⟩ := ownsRow_seq ho10
              have hzz : zs2 = zs := rises_eq hr10 HR6.out (fun z => (hm10 z).trans (HM6.out z).symm)
              subst hzz
              have HS10 := Lib.hid hss
              have HD10 := Lib.hid (HD9.out.below hb10 (Nat.le_refl _))
              have HB10 : Hid (Below w0.heap.size w0 w10) := HB6.out.trans ((HB9.out.trans (hb10.mono HB9.out.size)).mono HB6.out.size)
              have hzle : zn ≤ 1000 := by
                have h1 := length_of_sub (hr10.imp (fun {a b} (h : a < b) => (by omega : a ≠ b))) (fun y hy => (hm10 y).1 hy)
                rw [HZN.out, hjl] at h1
                omega
              clear ho10 hr10 hm10 hb10 hss hjl HD9 HD6 HB9
              simp only [HZN.out]
              go_wp2_with fail
              refine (same_any da sa zn dc zn sc zs2 zs2 _ HD10.out HS10.out HZN.out HZN.out (by omega)).mono ?_
              rintro e w11 ⟨rfl, hd⟩
              rw [show sameL zs2 zs2 = true from (sameL_iff _ _).2 rfl]
              have HB11 : Hid (Below w0.heap.size w0 w11) := HB10.out.trans (hd.below _)
              clear hd
              go_wp2
              go_ret
              exact ⟨rfl, HB0.out.trans (HB11.out.mono (Nat.le_of_eq HSZ.out.symm))⟩

theorem once_row (a0 : Option Addr) (n0 c0 : Nat) (z0 : List Int) (a1 : Option Addr) (n1 c1 : Nat) (z1 : List Int) (w : World) (hz0 : SeqAt w a0 (ints z0)) (hl0 : z0.length = n0) (hc0 : n0 ≤ c0) (hm0 : n0 ≤ maxLen) (hw0 : ∀ z ∈ z0, (Lit.int .i64 z).wf = true) (hn0 : a0 = none → n0 = 0 ∧ c0 = 0) (hb0 : c0 ≤ maxLen)
    (hz1 : SeqAt w a1 (ints z1)) (hl1 : z1.length = n1) (hc1 : n1 ≤ c1) (hm1 : n1 ≤ maxLen) (hw1 : ∀ z ∈ z1, (Lit.int .i64 z).wf = true) (hn1 : a1 = none → n1 = 0 ∧ c1 = 0) (hb1 : c1 ≤ maxLen) :
    Calls Try.prog 9 #[.slice a0 n0 c0, .slice a1 n1 c1] w fun e w' => e = .returned (.bool true) ∧ Below w.heap.size w w' :=
  once_any a0 a1 n0 c0 n1 c1 z0 z1 w hz0 hz1 hl0 hl1 hc0 hc1 (by unfold maxLen at hb0; omega) (by unfold maxLen at hb1; omega) hn0 hn1
end Go.Proofs.Ytcfapidalngebaa
