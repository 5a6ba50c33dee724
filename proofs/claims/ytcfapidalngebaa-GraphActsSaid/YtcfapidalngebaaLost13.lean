/-
  turnrowref13.Lost, and the edges as the reference has them. The walks.
-/
import Derived.Test.YtcfapidalngebaaLost
import Derived.Test.YtcfapidalngebaaSorted13
import Derived.Test.YtcfapidalngebaaOrder13
set_option linter.unusedSimpArgs false
set_option linter.unusedVariables false
namespace Go.Proofs.Ytcfapidalngebaa
open Go.RowKit Go.Tr

set_option maxRecDepth 100000 in
set_option maxHeartbeats 1000000 in
theorem lost13_any (na ra ea : Option Addr) (nn nc rn rc en ec : Nat) (nodes roots : List Int) (E : Edges) (w : World) (hn : SeqAt w na (ints nodes)) (hr : SeqAt w ra (ints roots)) (he : SeqAt w ea (ecells E)) (hnn : nodes.length = nn) (hrn : roots.length = rn) (hen : E.length = en) (hs : rn + en ≤ 1000000) (hs2 : nn ≤ 1000000) :
    Calls Try.prog 39 #[.slice na nn nc, .slice ra rn rc, .slice ea en ec] w fun e w' => ∃ v zs, e = .returned v ∧ own3 w' 3 w.heap.size v zs ∧ zs.Pairwise (· < ·) ∧ (∀ x, x ∈ zs ↔ x ∈ nodes ∧ x ∉ orderL roots E) ∧ Below w.heap.size w w' := by
  obtain ⟨i0, hi, hz0, hz1, hz2⟩ := info_parts infoIntL
  have HN := Lib.hid hn
  have HNN := Lib.hid hnn
  have HRE := Lib.hid (order13_any ra ea rn rc en ec roots E w hr he hrn hen hs)
  have hrl := order_length roots E
  rw [hrn, hen] at hrl
  clear hn hr he hnn hrn hen
  go_enter Try.func39, Try.ntmps39
  go_wp2_with fail
  refine HRE.out.mono ?_
  rintro e w1 ⟨v, rfl, ho, hb⟩
  obtain ⟨oa, oc, rfl, hso, -, -⟩ := ownsRow_seq ho
  have HR1 := Lib.hid hso
  have HB1 := Lib.hid hb
  obtain ⟨R, hR⟩ : ∃ R, R = orderL roots E := ⟨_, rfl⟩
  rw [← hR] at HR1 hrl
  simp only [← hR]
  have HRQ := Lib.hid hR; clear hR
  obtain ⟨rl, hrr⟩ : ∃ rl, rl = R.length := ⟨_, rfl⟩
  rw [← hrr] at hrl
  simp only [← hrr]
  have HRL := Lib.hid hrr.symm
  clear ho hb hso HRE hrr
  go_wp2_with fail
  have HN1 := Lib.hid (HN.out.below HB1.out (Nat.le_refl _))
  go_loopw [8, 9] (fun v i wr => ∃ k : Nat, k ≤ nn ∧ i = .int .i64 k ∧ Hid (own3 wr 3 w1.heap.size v (missL R (nodes.take k))) ∧ Hid (Below w1.heap.size w1 wr)) (fun _ i _ => nn - (intOf i).toNat)
  case atStart => exact ⟨0, Nat.zero_le _, rfl, World.ownsRow_nil _ _ _ _, Below.refl _ _⟩
  case round =>
    obtain ⟨k, hk, rfl, HV, HB⟩ := hrel
    by_cases hlt : k < nn
    · obtain ⟨b, off, x, rfl, hc, HX⟩ := (HN1.out.below HB.out (Nat.le_refl _)).ints (k := k) (by rw [HNN.out]; exact hlt)
      have HT := Lib.hid (take_snoc HX.out)
      clear HX
      have hLl : (missL R (nodes.take k)).length ≤ k := by
        have := missL_length R (nodes.take k)
        simp at this; omega
      obtain ⟨M, hM⟩ : ∃ M, M = missL R (nodes.take k) := ⟨_, rfl⟩
      rw [← hM] at HV hLl
      have HM := Lib.hid hM; clear hM
      obtain ⟨mn, hmn⟩ : ∃ mn, mn = M.length := ⟨_, rfl⟩
      have HV' : Hid (wr.ownsRow w1.heap.size 3 1 u8 mn (ints M)) := by rw [hmn]; exact HV.out
      rw [← hmn] at hLl
      have HMN := Lib.hid hmn.symm; clear hmn
      obtain ⟨oa8, oc8, rfl, -, hoc8, -⟩ := ownsRow_seq HV'.out
      by_cases hf : hasL R x = true
      · have HF := Lib.hid hf; clear hf
        have HV2 : Hid (own3 wr 3 w1.heap.size (.slice oa8 mn oc8) (missL R (nodes.take (k + 1)))) := by
          rw [HT.out, missL_snoc, if_pos HF.out, List.append_nil, ← HM.out]; exact HV.out
        go_wp2_with fail
        refine (has_any oa rl oc R x _ (HR1.out.below HB.out (Nat.le_refl _)) HRL.out (by omega)).mono ?_
        rintro e w' ⟨rfl, rfl⟩
        rw [HF.out]
        go_wp2_with fail
        go_roundw
        case rel => exact ⟨k + 1, by omega, by go_num, HV2, HB⟩
        case measure => simp [intOf]; omega
      · have HF : Hid (hasL R x = false) := by simpa [Hid] using hf
        clear hf
        go_wp2_with fail
        refine (has_any oa rl oc R x _ (HR1.out.below HB.out (Nat.le_refl _)) HRL.out (by omega)).mono ?_
        rintro e w' ⟨rfl, rfl⟩
        rw [HF.out]
        go_wp2_with (first
          | (at_builtin; refine wpList_append_own _ rfl (.tmp 28) (.tmp 33) 22 rfl w1.heap.size 3 i0 _ 1 8 Try.underlying22 hi hz0 hz1 hz2 rfl (by decide) _ _ _ rfl (HV'.out.alloc _) ⟨wr.heap.size, 0, none⟩ 1 1 (ints [x]) rfl rfl ?_ (ints_oneCell .i64 [x]) (by unfold maxLen; omega) (by omega) (by have := HB.out.size; simp; omega) ?_)
          | fail)
        · intro j u hu
          exact news_block wr (ints [x]) 3 j u hu
        · intro v' w4 hown hgrow _
          have HV4 : Hid (own3 w4 3 w1.heap.size v' (missL R (nodes.take (k + 1)))) := by
            rw [HT.out, missL_snoc, if_neg (by rw [HF.out]; decide), ← HM.out]
            unfold own3
            have := hown
            rw [← HMN.out] at this
            show w4.ownsRow _ _ _ _ _ _
            simpa [ints] using this
          have HB4 : Hid (Below w1.heap.size w1 w4) := (HB.out.alloc HB.out.size _).grown hgrow (by have := HB.out.size; simp; omega) (fun j hj => (HV'.out.lt j hj).1)
          clear hown hgrow
          go_wp2
          go_roundw
          case rel => exact ⟨k + 1, by omega, by go_num, HV4, HB4⟩
          case measure => simp [intOf]; omega
    · have HKN : Hid (nodes.take k = nodes) := List.take_of_length_le (by rw [HNN.out]; omega)
      have HV' : Hid (own3 wr 3 w1.heap.size u8 (missL R nodes)) := by have := HV.out; rw [HKN.out] at this; exact this
      have hml : (missL R nodes).length ≤ nn := by have := missL_length R nodes; rw [HNN.out] at this; exact this
      obtain ⟨M, hM⟩ : ∃ M, M = missL R nodes := ⟨_, rfl⟩
      rw [← hM] at HV' hml
      have HM := Lib.hid hM; clear hM
      obtain ⟨mn, hmn⟩ : ∃ mn, mn = M.length := ⟨_, rfl⟩
      rw [← hmn] at hml
      have HMN := Lib.hid hmn.symm
      have HV2' : Hid (wr.ownsRow w1.heap.size 3 1 u8 mn (ints M)) := by rw [hmn]; exact HV'.out
      clear HV HKN hmn HV'
      obtain ⟨oa8, oc8, rfl, hs8, hoc8, -⟩ := ownsRow_seq HV2'.out
      have HS8 := Lib.hid hs8; clear hs8
      go_wp2_with fail
      refine (sorted13_any oa8 mn oc8 M _ HS8.out HMN.out (by omega)).mono ?_
      rintro e w2 ⟨v, zs, rfl, ho, hp, hmem, hb⟩
      have HV3 := Lib.hid ho
      have HP := Lib.hid hp
      have HME := Lib.hid hmem
      have HB3 : Hid (Below w1.heap.size w1 w2) := HB.out.trans (hb.mono HB.out.size)
      clear ho hp hmem hb
      go_wp2
      go_ret
      exact ⟨_, _, rfl, own_mono HV3.out (by have := HB1.out.size; have := HB.out.size; omega), HP.out, fun x => by rw [HME.out x, HM.out, mem_missL, HRQ.out], HB1.out.trans (HB3.out.mono HB1.out.size)⟩

theorem infoEdge13 : (Try.prog.info? 39).map (fun i => (i.zero, i.size, i.bytes)) = some (some (.agg #[.int .i64 0, .int .i64 0]), 2, 16) := by kernel_rfl

set_option maxRecDepth 100000 in
theorem edges13_any (ea : Option Addr) (en ec : Nat) (E : Edges) (w : World) (he : SeqAt w ea (ecells E)) (hen : E.length = en) (hs : en ≤ 1000000) :
    Calls Try.prog 37 #[.slice ea en ec] w fun e w' => ∃ a c, e = .returned (.slice a en c) ∧ SeqAt w' a (ecells E) ∧ Below w.heap.size w w' := by
  obtain ⟨i0, hi, hz0, hz1, hz2⟩ := info_parts infoEdge13
  have HE := Lib.hid he; clear he
  have HEN := Lib.hid hen; clear hen
  go_enter Try.func37, Try.ntmps37
  go_wp2_with fail
  go_loopw [3, 8] (fun v i wr => ∃ k : Nat, k ≤ en ∧ i = .int .i64 k ∧ Hid (wr.ownsRow w.heap.size 39 2 v k (ecells (E.take k))) ∧ Hid (Below w.heap.size w wr)) (fun _ i _ => en - (intOf i).toNat)
  case atStart => exact ⟨0, Nat.zero_le _, rfl, World.ownsRow_nil _ _ _ _, Below.refl _ _⟩
  case round =>
    obtain ⟨k, hk, rfl, HV, HB⟩ := hrel
    by_cases hlt : k < en
    · obtain ⟨b, off, x, y, rfl, hc1, hc2, HK⟩ := (HE.out.below HB.out (Nat.le_refl _)).edge (k := k) (by rw [HEN.out]; exact hlt)
      obtain ⟨oa8, oc8, rfl, -, hoc8, -⟩ := ownsRow_seq HV.out
      go_wp2_with (first
        | (at_builtin; refine wpList_append_own _ rfl (.tmp 12) (.tmp 18) 33 rfl w.heap.size 39 i0 _ 2 16 Try.underlying33 hi hz0 hz1 hz2 rfl (by decide) _ _ _ rfl ((HV.out.alloc _).alloc _) ⟨wr.heap.size + 1, 0, none⟩ 1 1 (ecells [(x, y)]) rfl rfl ?_ (ecells_one _) (by unfold maxLen; omega) (by omega) (by have := HB.out.size; simp; omega) ?_)
        | fail)
      · intro j u hu
        have := news_block (wr.alloc (.cells #[.int .i64 x, .int .i64 y] 29)) (ecells [(x, y)]) 39 j u hu
        simpa [ecells, iv] using this
      · intro v' w4 hown hgrow _
        have HV4 : Hid (w4.ownsRow w.heap.size 39 2 v' (k + 1) (ecells (E.take (k + 1)))) := by
          rw [take_snoc HK.out, ecells_append]; exact hown
        have HB4 : Hid (Below w.heap.size w w4) := ((HB.out.alloc HB.out.size _).alloc (by have := HB.out.size; simp; omega) _).grown hgrow (by have := HB.out.size; simp; omega) (fun j hj => (HV.out.lt j hj).1)
        clear hown hgrow
        go_wp2
        go_roundw
        case rel => exact ⟨k + 1, by omega, by go_num, HV4, HB4⟩
        case measure => simp [intOf]; omega
    · have hke : k = en := by omega
      have HV4 : Hid (wr.ownsRow w.heap.size 39 2 u3 en (ecells E)) := by
        have := HV.out; rw [List.take_of_length_le (by rw [HEN.out]; omega), hke] at this; exact this
      clear HV hke
      obtain ⟨oa8, oc8, rfl, hs8, hoc8, -⟩ := ownsRow_seq HV4.out
      have HS8 := Lib.hid hs8; clear hs8
      go_wp2
      go_ret
      exact ⟨_, _, rfl, HS8.out, HB.out⟩
end Go.Proofs.Ytcfapidalngebaa
