/-
  turnrowref13.Order: what is reached, in order. The walk.
-/
import Derived.Test.YtcfapidalngebaaOrderParts
import Derived.Test.YtcfapidalngebaaHas
import Derived.StillTailTactics
import Derived.Deep.QuietTactic
import Derived.BigQuiet
set_option linter.unusedSimpArgs false
set_option linter.unusedVariables false
namespace Go.Proofs.Ytcfapidalngebaa
open Go.RowKit Go.Tr

theorem infoInt13 : (Try.prog.info? 3).map (fun i => (i.zero, i.size, i.bytes)) = some (some (.int .i64 0), 1, 8) := by kernel_rfl

set_option maxRecDepth 100000 in
set_option maxHeartbeats 1000000 in
theorem order13_any (ra ea : Option Addr) (rn rc en ec : Nat) (roots : List Int) (E : Edges) (w : World) (hr : SeqAt w ra (ints roots)) (he : SeqAt w ea (ecells E)) (hrn : roots.length = rn) (hen : E.length = en) (hs : rn + en ≤ 1000000) :
    Calls Try.prog 23 #[.slice ra rn rc, .slice ea en ec] w fun e w' => ∃ v, e = .returned v ∧ own3 w' 3 w.heap.size v (orderL roots E) ∧ Below w.heap.size w w' := by
  obtain ⟨i0, hi, hz0, hz1, hz2⟩ := info_parts infoInt13
  have HR := Lib.hid hr; clear hr
  have HE := Lib.hid he; clear he
  have HRN := Lib.hid hrn; clear hrn
  have HEN := Lib.hid hen; clear hen
  go_enter Try.func23, Try.ntmps23
  go_wp2_with fail
  go_loopw [5, 6] (fun v i wr => ∃ k : Nat, k ≤ rn ∧ i = .int .i64 k ∧ Hid (own3 wr 3 w.heap.size v (addAll [] (roots.take k))) ∧ Hid (Below w.heap.size w wr)) (fun _ i _ => rn - (intOf i).toNat)
  case atStart => exact ⟨0, Nat.zero_le _, rfl, World.ownsRow_nil _ _ _ _, Below.refl _ _⟩
  case round =>
    obtain ⟨k, hk, rfl, HV, HB⟩ := hrel
    by_cases hlt : k < rn
    · obtain ⟨b, off, z, rfl, hc, HZ⟩ := (HR.out.below HB.out (Nat.le_refl _)).ints (k := k) (by rw [HRN.out]; exact hlt)
      have HT := Lib.hid (take_snoc HZ.out)
      have hLl : (addAll [] (roots.take k)).length ≤ k := by
        have := addAll_length [] (roots.take k)
        simp at this; omega
      obtain ⟨L, hL⟩ : ∃ L, L = addAll [] (roots.take k) := ⟨_, rfl⟩
      rw [← hL] at HV hLl
      have HL := Lib.hid hL; clear hL
      obtain ⟨ln, hln⟩ : ∃ ln, ln = L.length := ⟨_, rfl⟩
      have HV' : Hid (wr.ownsRow w.heap.size 3 1 u5 ln (ints L)) := by rw [hln]; exact HV.out
      rw [← hln] at hLl
      have HLN := Lib.hid hln.symm; clear hln
      obtain ⟨oa, oc, rfl, hso, hoc, -⟩ := ownsRow_seq HV'.out
      have HO := Lib.hid hso; clear hso
      by_cases hf : hasL L z = true
      · have HF := Lib.hid hf; clear hf
        have HV2 : Hid (own3 wr 3 w.heap.size (.slice oa ln oc) (addAll [] (roots.take (k + 1)))) := by
          rw [HT.out, addAll_snoc, ← HL.out, add1_old HF.out]; exact HV.out
        go_wp2_with fail
        refine (has_any oa ln oc L z _ HO.out HLN.out (by omega)).mono ?_
        rintro e w' ⟨rfl, rfl⟩
        rw [HF.out]
        go_wp2_with fail
        go_roundw
        case rel => exact ⟨k + 1, by omega, by go_num, HV2, HB⟩
        case measure => simp [intOf]; omega
      · have HF : Hid (hasL L z = false) := by simpa [Hid] using hf
        clear hf
        go_wp2_with fail
        refine (has_any oa ln oc L z _ HO.out HLN.out (by omega)).mono ?_
        rintro e w' ⟨rfl, rfl⟩
        rw [HF.out]
        go_wp2_with (first
          | (at_builtin; refine wpList_append_own _ rfl (.tmp 25) (.tmp 30) 22 rfl w.heap.size 3 i0 _ 1 8 Try.underlying22 hi hz0 hz1 hz2 rfl (by decide) _ _ _ rfl (HV'.out.alloc _) ⟨wr.heap.size, 0, none⟩ 1 1 (ints [z]) rfl rfl ?_ (ints_oneCell .i64 [z]) (by unfold maxLen; omega) (by omega) (by have := HB.out.size; simp; omega) ?_))
        · intro j u hu
          exact news_block wr (ints [z]) 3 j u hu
        · intro v' w4 hown hgrow _
          have HV4 : Hid (own3 w4 3 w.heap.size v' (addAll [] (roots.take (k + 1)))) := by
            rw [HT.out, addAll_snoc, ← HL.out, add1_new HF.out]
            unfold own3
            have := hown
            rw [← HLN.out] at this
            show w4.ownsRow _ _ _ _ _ _
            simpa [ints] using this
          have HB4 : Hid (Below w.heap.size w w4) := (HB.out.alloc HB.out.size _).grown hgrow (by have := HB.out.size; simp; omega) (fun j hj => (HV'.out.lt j hj).1)
          clear hown hgrow
          go_wp2
          go_roundw
          case rel => exact ⟨k + 1, by omega, by go_num, HV4, HB4⟩
          case measure => simp [intOf]; omega
    · have HV1 : Hid (own3 wr 3 w.heap.size u5 (stO roots E 1)) := by
        have := HV.out
        rw [List.take_of_length_le (by rw [HRN.out]; omega)] at this
        exact this
      clear HV
      go_wp2_with fail
      go_loopw [5, 8] (fun v i wr => ∃ k : Nat, k ≤ (stO roots E (k + 1)).length ∧ k ≤ rn + en ∧ i = .int .i64 k ∧ Hid (own3 wr 3 w.heap.size v (stO roots E (k + 1))) ∧ Hid (Below w.heap.size w wr)) (fun _ i _ => rn + en + 1 - (intOf i).toNat)
      case atStart => exact ⟨0, Nat.zero_le _, Nat.zero_le _, rfl, HV1, HB⟩
      case round =>
        clear HV1 HB
        obtain ⟨k, hk, hk2, rfl, HV, HB⟩ := hrel
        have hs1 := stO_length roots E (k + 1)
        rw [HRN.out, HEN.out] at hs1
        have HST := Lib.hid (stO_order roots E (n := k + 1))
        rw [HRN.out, HEN.out] at HST
        have hso : ∀ x, (stO roots E (k + 1))[k]? = some x → stO roots E (k + 2) = addAll (stO roots E (k + 1)) (adj E x) := fun x h => stO_step h
        have HSO := Lib.hid hso; clear hso
        have hpl := fun j x => partO_length roots E (k + 1) j x
        rw [HRN.out, HEN.out] at hpl
        obtain ⟨L, hL⟩ : ∃ L, L = stO roots E (k + 1) := ⟨_, rfl⟩
        rw [← hL] at hk HV hs1 HST HSO hpl
        have HPL := Lib.hid hpl
        have HL := Lib.hid hL
        clear hL hpl
        obtain ⟨ln, hln⟩ : ∃ ln, ln = L.length := ⟨_, rfl⟩
        have HV' : Hid (wr.ownsRow w.heap.size 3 1 u5 ln (ints L)) := by rw [hln]; exact HV.out
        rw [← hln] at hk hs1 HST
        have HLN := Lib.hid hln.symm; clear hln
        obtain ⟨oa, oc, rfl, hso, hoc, -⟩ := ownsRow_seq HV'.out
        have HO := Lib.hid hso; clear hso
        by_cases hlt : k < ln
        · have hx : ∃ x, L[k]? = some x := ⟨L[k]'(by rw [HLN.out]; exact hlt), List.getElem?_eq_getElem _⟩
          obtain ⟨x, hx⟩ := hx
          have HX := Lib.hid hx
          have HNX := Lib.hid (HSO.out x hx)
          clear hx HSO HST HV' HO
          go_wp2_with fail
          go_loopw [5, 9] (fun v i wr => ∃ j : Nat, j ≤ en ∧ i = .int .i64 j ∧ Hid (own3 wr 3 w.heap.size v (addAll L (adj (E.take j) x))) ∧ Hid (Below w.heap.size w wr)) (fun _ i _ => en - (intOf i).toNat)
          case atStart => exact ⟨0, Nat.zero_le _, rfl, HV, HB⟩
          case round =>
            clear HV HB
            obtain ⟨j, hj, rfl, HV, HB⟩ := hrel
            have hml := HPL.out j x
            have hat := addAll_at (xs := adj (E.take j) x) HX.out
            obtain ⟨M, hM⟩ : ∃ M, M = addAll L (adj (E.take j) x) := ⟨_, rfl⟩
            rw [← hM] at HV hml hat
            have HAT := Lib.hid hat
            have HM := Lib.hid hM; clear hM hat
            obtain ⟨mn, hmn⟩ : ∃ mn, mn = M.length := ⟨_, rfl⟩
            have HV' : Hid (wr.ownsRow w.heap.size 3 1 u5 mn (ints M)) := by rw [hmn]; exact HV.out
            rw [← hmn] at hml
            have HMN := Lib.hid hmn.symm; clear hmn
            obtain ⟨ma, mc, rfl, hso, hoc, -⟩ := ownsRow_seq HV'.out
            have HO := Lib.hid hso; clear hso
            have hkm : k < mn := by have := (List.getElem?_eq_some_iff.1 HAT.out).1; rw [HMN.out] at this; exact this
            by_cases hje : j < en
            · obtain ⟨b, off, e1, e2, rfl, hc1, hc2, HK⟩ := (HE.out.below HB.out (Nat.le_refl _)).edge (k := j) (by rw [HEN.out]; exact hje)
              obtain ⟨b2, off2, z, rfl, hc3, HZ⟩ := HO.out.ints (k := k) (by rw [HMN.out]; exact hkm)
              obtain rfl : z = x := by have := HZ.out.symm.trans HAT.out; exact Option.some.inj this
              have HT := Lib.hid (take_snoc HK.out)
              clear HZ HAT
              go_wp2
              go_quiet (fail)
              by_cases he : e1 = z
              · subst he
                have HA : Hid (addAll L (adj (E.take (j + 1)) e1) = add1 M e2) := by
                  show _ = _
                  rw [HT.out, adj_snoc, if_pos rfl, addAll_snoc, ← HM.out]
                clear HT
                by_cases hf : hasL M e2 = true
                · have HF := Lib.hid hf; clear hf
                  go_wp2_with fail
                  refine (has_any _ mn mc M e2 _ ?hseq HMN.out (by omega)).mono ?_
                  case hseq => exact HO.out.drawn ⟨_, rfl⟩
                  rintro e w' ⟨rfl, rfl⟩
                  rw [HF.out]
                  go_wp2
                  go_roundw
                  case rel => exact ⟨j + 1, by omega, by go_num, by rw [HA.out, add1_old HF.out]; exact HV, HB.out.trans (Drawn.below ⟨_, rfl⟩ _)⟩
                  case measure => simp [intOf]; omega
                · have HF : Hid (hasL M e2 = false) := by simpa [Hid] using hf
                  clear hf
                  go_wp2_with fail
                  refine (has_any _ mn mc M e2 _ ?hseq HMN.out (by omega)).mono ?_
                  case hseq => exact HO.out.drawn ⟨_, rfl⟩
                  rintro e w' ⟨rfl, hw'⟩
                  rw [HF.out]
                  have HVw : Hid (w'.ownsRow w.heap.size 3 1 (.slice (some ⟨b2, off2, none⟩) mn mc) mn (ints M)) := by rw [← hw']; exact HV'.out
                  have HBw : Hid (Below w.heap.size w w') := by rw [← hw']; exact HB.out.trans (Drawn.below ⟨_, rfl⟩ _)
                  have hd2 := hc2; rw [show wr.cell? = w'.cell? by rw [← hw']; rfl] at hd2
                  clear hw' hc1 hc2 hc3 HV' HV HB HO
                  go_wp2_with (first
                    | (at_builtin; refine wpList_append_own _ rfl (.tmp 63) (.tmp 69) 22 rfl w.heap.size 3 i0 _ 1 8 Try.underlying22 hi hz0 hz1 hz2 rfl (by decide) _ _ _ rfl (HVw.out.alloc _) ⟨w'.heap.size, 0, none⟩ 1 1 (ints [e2]) rfl rfl ?_ (ints_oneCell .i64 [e2]) (by unfold maxLen; omega) (by omega) (by have := HBw.out.size; simp; omega) ?_))
                  · intro j u hu
                    exact news_block w' (ints [e2]) 3 j u hu
                  · intro v' w4 hown hgrow _
                    have HV4 : Hid (own3 w4 3 w.heap.size v' (addAll L (adj (E.take (j + 1)) e1))) := by
                      rw [HA.out, add1_new HF.out]
                      have := hown
                      rw [← HMN.out] at this
                      show w4.ownsRow _ _ _ _ _ _
                      simpa [ints] using this
                    have HB4 : Hid (Below w.heap.size w w4) := (HBw.out.alloc HBw.out.size _).grown hgrow (by have := HBw.out.size; simp; omega) (fun j hj => (HVw.out.lt j hj).1)
                    clear hown hgrow
                    go_wp2
                    go_roundw
                    case rel => exact ⟨j + 1, by omega, by go_num, HV4, HB4⟩
                    case measure => simp [intOf]; omega
              · have HA : Hid (addAll L (adj (E.take (j + 1)) z) = M) := by
                  show _ = _
                  rw [HT.out, adj_snoc, if_neg he, List.append_nil, ← HM.out]
                clear HT
                go_wp2
                go_roundw
                case rel => exact ⟨j + 1, by omega, by go_num, by rw [HA.out]; exact HV, HB.out.trans (Drawn.below ⟨_, rfl⟩ _)⟩
                case measure => simp [intOf]; omega
            · have HVE : Hid (own3 wr 3 w.heap.size (.slice ma mn mc) (stO roots E (k + 2)) ∧ k + 1 ≤ (stO roots E (k + 2)).length) := by
                have h1 := HM.out
                rw [List.take_of_length_le (by rw [HEN.out]; omega), ← HNX.out] at h1
                rw [← h1]
                exact ⟨HV.out, by rw [HMN.out]; exact hkm⟩
              go_wp2
              go_roundw
              case rel => exact ⟨k + 1, HVE.out.2, by omega, by go_num, HVE.out.1, HB⟩
              case measure => simp [intOf]; omega
        · have HE2 : Hid (own3 wr 3 w.heap.size (.slice oa ln oc) (orderL roots E)) := by
            have := HST.out (by omega) (by omega)
            rw [← this]; exact HV.out
          go_wp2
          go_ret
          exact ⟨_, rfl, HE2.out, HB.out⟩
end Go.Proofs.Ytcfapidalngebaa
