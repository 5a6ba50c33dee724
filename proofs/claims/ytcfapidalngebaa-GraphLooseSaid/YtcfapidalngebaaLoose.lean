/-
  turnrowlaw13.GraphLoose: the walk.
-/
import Derived.Test.YtcfapidalngebaaLoosePlain
import Derived.Test.YtcfapidalngebaaAlive13
import Derived.Test.YtcfapidalngebaaGreat13
import Derived.Test.YtcfapidalngebaaHas
set_option linter.unusedSimpArgs false
set_option linter.unusedVariables false
namespace Go.Proofs.Ytcfapidalngebaa
open Go.RowKit Go.Tr

theorem infoEdge : (Try.prog.info? 29).map (fun i => (i.zero, i.size, i.bytes)) = some (some (.agg #[.int .i64 0, .int .i64 0]), 2, 16) := by kernel_rfl

set_option maxRecDepth 100000 in
theorem loose_big (ra ea ma : Option Addr) (rn rc en ec mn mc : Nat) (w : World) (hbig : 80 < rn ∨ 80 < en ∨ 80 < mn) (hrn : rn ≤ 9223372036854775807) (hen : en ≤ 9223372036854775807) (hmn : mn ≤ 9223372036854775807) :
    Calls Try.prog 4 #[.slice ra rn rc, .slice ea en ec, .slice ma mn mc] w fun e w' => e = .returned (.bool true) ∧ Below w.heap.size w w' := by
  have hg : great80 [(rn : Int), (en : Int), (mn : Int)] = true := by simp [great80]; omega
  have HG := Lib.hid hg; clear hg hbig
  go_enter Try.func4, Try.ntmps4
  go_wp2_with fail
  refine (alive13_any _).mono ?_
  rintro e w1 ⟨rfl, hb1⟩
  have HB1 := Lib.hid hb1; clear hb1
  go_wp2_with fail
  refine (great13_any _ 3 3 [(rn : Int), (en : Int), (mn : Int)] _ ?h1 rfl (by decide)).mono ?_
  case h1 => exact seqAt_block (cs := #[iv rn, iv en, iv mn]) (heap_alloc_new w1 _)
  rintro e w2 ⟨rfl, hw⟩
  rw [HG.out]
  subst hw
  go_wp2_with fail
  refine (alive13_any _).mono ?_
  rintro e w3 ⟨rfl, hb3⟩
  have HB3 := Lib.hid hb3; clear hb3
  go_wp2
  go_ret
  exact ⟨rfl, (HB1.out.alloc HB1.out.size _).trans (HB3.out.mono (by have := HB1.out.size; simp; omega))⟩

set_option maxRecDepth 100000 in
set_option maxHeartbeats 1000000 in
theorem loose_small (ra ea ma : Option Addr) (rn rc en ec mn mc : Nat) (roots : List Int) (E M : Edges) (w : World) (hr : SeqAt w ra (ints roots)) (he : SeqAt w ea (ecells E)) (hma : SeqAt w ma (ecells M))
    (hrn : roots.length = rn) (hen : E.length = en) (hmn : M.length = mn) (hs1 : rn ≤ 80) (hs2 : en ≤ 80) (hs3 : mn ≤ 80) :
    Calls Try.prog 4 #[.slice ra rn rc, .slice ea en ec, .slice ma mn mc] w fun e w' => e = .returned (.bool true) ∧ Below w.heap.size w w' := by
  have hg : great80 [(rn : Int), (en : Int), (mn : Int)] = false := by simp [great80]; omega
  have HG := Lib.hid hg; clear hg
  have HR := Lib.hid hr; clear hr
  have HE := Lib.hid he; clear he
  have HM := Lib.hid hma; clear hma
  have HRN := Lib.hid hrn; clear hrn
  have HEN := Lib.hid hen; clear hen
  have HMN := Lib.hid hmn; clear hmn
  obtain ⟨i0, hi, hz0, hz1, hz2⟩ := info_parts infoEdge
  go_enter Try.func4, Try.ntmps4
  go_wp2_with fail
  refine (alive13_any _).mono ?_
  rintro e w1 ⟨rfl, hb1⟩
  have HB1 := Lib.hid hb1; clear hb1
  go_wp2_with fail
  refine (great13_any _ 3 3 [(rn : Int), (en : Int), (mn : Int)] _ ?h1 rfl (by decide)).mono ?_
  case h1 => exact seqAt_block (cs := #[iv rn, iv en, iv mn]) (heap_alloc_new w1 _)
  rintro e w2 ⟨rfl, hw⟩
  rw [HG.out]
  have HB2 : Hid (Below w.heap.size w w2) := by subst hw; exact HB1.out.alloc HB1.out.size _
  clear hw HB1
  have HR2 := Lib.hid (HR.out.below HB2.out (Nat.le_refl _))
  have HE2 := Lib.hid (HE.out.below HB2.out (Nat.le_refl _))
  go_wp2_with fail
  refine (order_any ra ea rn rc en ec roots E _ HR2.out HE2.out HRN.out HEN.out (by omega)).mono ?_
  rintro e w3 ⟨v, rfl, ho, hb3⟩
  obtain ⟨oa, oc, rfl, hso, hoc, -⟩ := ownsRow_seq ho
  have HO := Lib.hid hso
  have HB3 : Hid (Below w.heap.size w w3) := HB2.out.trans (hb3.mono HB2.out.size)
  have HR3 := Lib.hid (HR.out.below HB3.out (Nat.le_refl _))
  have HE3 := Lib.hid (HE.out.below HB3.out (Nat.le_refl _))
  have HM3 := Lib.hid (HM.out.below HB3.out (Nat.le_refl _))
  clear hso hb3 ho HR2 HE2 HB2
  have hol := order_length roots E
  rw [HRN.out, HEN.out] at hol
  obtain ⟨o, hoo⟩ : ∃ o, o = orderL roots E := ⟨_, rfl⟩
  obtain ⟨on, hon⟩ : ∃ on, on = o.length := ⟨_, rfl⟩
  rw [← hoo, ← hon] at hol hoc
  rw [← hoo] at HO
  simp only [← hoo, ← hon]
  have HOO := Lib.hid hoo; clear hoo
  have HON := Lib.hid hon.symm; clear hon
  go_wp2
  go_loopw [8, 31] (fun v i wr => ∃ k : Nat, k ≤ en ∧ i = .int .i64 k ∧ Hid (wr.ownsRow w3.heap.size 29 2 v (3 * k) (ecells (thrice (E.take k)))) ∧ Hid (Below w3.heap.size w3 wr)) (fun _ i _ => en - (intOf i).toNat)
  case atStart => exact ⟨0, Nat.zero_le _, rfl, World.ownsRow_nil _ _ _ _, Below.refl _ _⟩
  case round =>
    obtain ⟨k, hk, rfl, HV, HB⟩ := hrel
    by_cases hlt : k < en
    · obtain ⟨b, off, x, y, rfl, hc1, hc2, HK⟩ := (HE3.out.below HB.out (Nat.le_refl _)).edge (k := k) (by rw [HEN.out]; exact hlt)
      go_wp2_with (first
        | (at_builtin; refine wpList_append_own _ rfl (.tmp 35) (.tmp 43) 23 rfl w3.heap.size 29 i0 _ 2 16 Try.underlying23 hi hz0 hz1 hz2 rfl (by decide) _ _ _ rfl ((HV.out.alloc _).alloc _) ⟨wr.heap.size + 1, 0, none⟩ 3 3 (ecells [(x, y), (x, y), (y, y)]) rfl rfl ?_ (ecells_one _) (by unfold maxLen; omega) (by omega) (by have := HB.out.size; simp; omega) ?_))
      · intro j u hu
        have := news_block (wr.alloc (.cells #[.int .i64 x, .int .i64 y] 29)) (ecells [(x, y), (x, y), (y, y)]) 29 j u hu
        simpa [ecells, iv] using this
      · intro v' w4 hown hgrow _
        have HV4 : Hid (w4.ownsRow w3.heap.size 29 2 v' (3 * (k + 1)) (ecells (thrice (E.take (k + 1))))) := by
          rw [take_snoc HK.out, thrice_snoc, ecells_append]; exact hown
        have HB4 : Hid (Below w3.heap.size w3 w4) := ((HB.out.alloc HB.out.size _).alloc (by have := HB.out.size; simp; omega) _).grown hgrow (by have := HB.out.size; simp; omega) (fun j hj => (HV.out.lt j hj).1)
        clear hown hgrow
        go_wp2
        go_roundw
        case rel => exact ⟨k + 1, by omega, by go_num, HV4, HB4⟩
        case measure => simp [intOf]; omega
    · have HVE : Hid (wr.ownsRow w3.heap.size 29 2 u8 ((thrice E ++ loose o (M.take 0)).length) (ecells (thrice E ++ loose o (M.take 0)))) := by
        have h1 := HV.out
        rw [List.take_of_length_le (by rw [HEN.out]; omega)] at h1
        have h2 : (thrice E ++ loose o (M.take 0)) = thrice E := by simp [loose]
        rw [h2, thrice_length, HEN.out]
        have h3 : k = en := by omega
        rw [← h3]; exact h1
      go_wp2
      go_loopw [8, 48] (fun v i wr => ∃ k : Nat, k ≤ mn ∧ i = .int .i64 k ∧ Hid (wr.ownsRow w3.heap.size 29 2 v ((thrice E ++ loose o (M.take k)).length) (ecells (thrice E ++ loose o (M.take k)))) ∧ Hid (Below w3.heap.size w3 wr)) (fun _ i _ => mn - (intOf i).toNat)
      case atStart => exact ⟨0, Nat.zero_le _, rfl, HVE, HB⟩
      case round =>
        clear HV HVE HB
        obtain ⟨k, hk, rfl, HV, HB⟩ := hrel
        by_cases hlt : k < mn
        · obtain ⟨b, off, x, y, rfl, hc1, hc2, HK⟩ := (HM3.out.below HB.out (Nat.le_refl _)).edge (k := k) (by rw [HMN.out]; exact hlt)
          have HN : Hid (Below w3.heap.size w3 (wr.alloc (.cells #[.int .i64 x, .int .i64 y] 29))) := HB.out.alloc HB.out.size _
          have HOn := Lib.hid (HO.out.below HN.out (Nat.le_refl _))
          by_cases hf : hasL o x = true
          · have HF := Lib.hid hf; clear hf
            have HV4 : Hid ((wr.alloc (.cells #[.int .i64 x, .int .i64 y] 29)).ownsRow w3.heap.size 29 2 u8 ((thrice E ++ loose o (M.take (k + 1))).length) (ecells (thrice E ++ loose o (M.take (k + 1))))) := by
              rw [take_snoc HK.out, loose_snoc_in HF.out]; exact HV.out.alloc _
            go_wp2_with fail
            refine (has_any oa on oc o x _ HOn.out HON.out (by omega)).mono ?_
            rintro e w' ⟨rfl, hw'⟩
            rw [HF.out]
            subst hw'
            go_wp2
            go_roundw
            case rel => exact ⟨k + 1, by omega, by go_num, HV4, HN⟩
            case measure => simp [intOf]; omega
          · have HF : Hid (hasL o x = false) := by simpa [Hid] using hf
            clear hf
            have hal : (thrice E ++ loose o (M.take k)).length ≤ 320 := by
              rw [List.length_append, thrice_length, HEN.out]
              have := loose_length o (M.take k)
              have := List.length_take_le k M
              omega
            go_wp2_with fail
            refine (has_any oa on oc o x _ HOn.out HON.out (by omega)).mono ?_
            rintro e w' ⟨rfl, hw'⟩
            rw [HF.out]
            subst hw'
            obtain ⟨al, hal'⟩ : ∃ al, al = (thrice E ++ loose o (M.take k)).length := ⟨_, rfl⟩
            rw [← hal'] at hal HV
            have HAL := Lib.hid hal'; clear hal'
            go_wp2_with (first
              | (at_builtin; refine wpList_append_own _ rfl (.tmp 57) (.tmp 59) 23 rfl w3.heap.size 29 i0 _ 2 16 Try.underlying23 hi hz0 hz1 hz2 rfl (by decide) _ _ _ rfl ((HV.out.alloc _).alloc _) ⟨wr.heap.size + 1, 0, none⟩ 1 1 (ecells [(x, y)]) rfl rfl ?_ (ecells_one _) (by unfold maxLen; omega) (by omega) (by have := HB.out.size; simp; omega) ?_))
            · intro j u hu
              have := news_block (wr.alloc (.cells #[.int .i64 x, .int .i64 y] 29)) (ecells [(x, y)]) 29 j u hu
              simpa [ecells, iv] using this
            · intro v' w4 hown hgrow _
              have HV4 : Hid (w4.ownsRow w3.heap.size 29 2 v' ((thrice E ++ loose o (M.take (k + 1))).length) (ecells (thrice E ++ loose o (M.take (k + 1))))) := by
                rw [take_snoc HK.out, loose_snoc_out HF.out, ← List.append_assoc, ecells_append, List.length_append, ← HAL.out]; exact hown
              have HB4 : Hid (Below w3.heap.size w3 w4) := ((HB.out.alloc HB.out.size _).alloc (by have := HB.out.size; simp; omega) _).grown hgrow (by have := HB.out.size; simp; omega) (fun j hj => (HV.out.lt j hj).1)
              clear hown hgrow
              go_wp2
              go_roundw
              case rel => exact ⟨k + 1, by omega, by go_num, HV4, HB4⟩
              case measure => simp [intOf]; omega
        · have HVE : Hid (wr.ownsRow w3.heap.size 29 2 u8 ((thrice E ++ loose o M).length) (ecells (thrice E ++ loose o M))) := by
            have h1 := HV.out
            rw [List.take_of_length_le (by rw [HMN.out]; omega)] at h1
            exact h1
          obtain ⟨va, vc, hva, hsa, hvc, -⟩ := ownsRow_seq HVE.out
          have hal : (thrice E ++ loose o M).length ≤ 320 := by
            rw [List.length_append, thrice_length, HEN.out]
            have := loose_length o M
            have := HMN.out
            omega
          obtain ⟨al, hal'⟩ : ∃ al, al = (thrice E ++ loose o M).length := ⟨_, rfl⟩
          rw [← hal'] at hal hvc hva
          have HAL := Lib.hid hal'; clear hal'
          subst hva
          have HSA := Lib.hid hsa; clear hsa
          have HR4 := Lib.hid (HR3.out.below HB.out (Nat.le_refl _))
          have HO4 := Lib.hid (HO.out.below HB.out (Nat.le_refl _))
          have HX : Hid (orderL roots (thrice E ++ loose o M) = o) := by rw [HOO.out]; exact order_loose roots E M
          go_wp2_with fail
          refine (order_any ra va rn rc al vc roots (thrice E ++ loose o M) _ HR4.out HSA.out HRN.out HAL.out.symm (by omega)).mono ?_
          rintro e w5 ⟨v, rfl, ho5, hb5⟩
          obtain ⟨qa, qc, rfl, hs5, hq5, -⟩ := ownsRow_seq ho5
          rw [HX.out] at hs5
          simp only [HX.out, HON.out]
          have HS5 := Lib.hid hs5; clear hs5
          have HB5 := Lib.hid hb5; clear hb5
          have HO5 := Lib.hid (HO4.out.below HB5.out (Nat.le_refl _))
          go_wp2_with fail
          refine (same_any qa oa on qc on oc o o _ HS5.out HO5.out HON.out HON.out (by omega)).mono ?_
          rintro e w6 ⟨rfl, hd⟩
          have HD := Lib.hid hd; clear hd
          have HT : Hid (sameL o o = true) := (sameL_iff _ _).2 rfl
          rw [HT.out]
          go_wp2
          go_ret
          exact ⟨rfl, HB3.out.trans ((HB.out.mono HB3.out.size).trans ((HB5.out.mono (by have := HB3.out.size; have := HB.out.size; omega)).trans (HD.out.below _)))⟩

theorem loose_any (ra : Option Addr) (rn rc : Nat) (roots : List Int) (ea : Option Addr) (en ec : Nat) (E : Edges) (ma : Option Addr) (mn mc : Nat) (M : Edges) (w : World)
    (hr : SeqAt w ra (ints roots)) (hrn : roots.length = rn) (_ : rn ≤ rc) (h1 : rn ≤ maxLen) (_ : ∀ z ∈ roots, (Lit.int .i64 z).wf = true) (he : SeqAt w ea (ecells E)) (hen : E.length = en) (_ : en ≤ ec) (h2 : en ≤ maxLen)
    (hma : SeqAt w ma (ecells M)) (hmn : M.length = mn) (_ : mn ≤ mc) (h3 : mn ≤ maxLen) :
    Calls Try.prog 4 #[.slice ra rn rc, .slice ea en ec, .slice ma mn mc] w fun e w' => e = .returned (.bool true) ∧ Below w.heap.size w w' := by
  by_cases h : 80 < rn ∨ 80 < en ∨ 80 < mn
  · unfold maxLen at h1 h2 h3; exact loose_big ra ea ma rn rc en ec mn mc w h h1 h2 h3
  · exact loose_small ra ea ma rn rc en ec mn mc roots E M w hr he hma hrn hen hmn (by omega) (by omega) (by omega)
end Go.Proofs.Ytcfapidalngebaa
