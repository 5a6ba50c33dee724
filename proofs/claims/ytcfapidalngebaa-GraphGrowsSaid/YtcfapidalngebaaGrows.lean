/-
  turnrowlaw13.GraphGrows: the walk.
-/
import Derived.Test.YtcfapidalngebaaGrowsPlain
import Derived.Test.YtcfapidalngebaaAppSeq
import Derived.Test.YtcfapidalngebaaAlive13
import Derived.Test.YtcfapidalngebaaGreat13
import Derived.Test.YtcfapidalngebaaHas
import Derived.Deep.QuietTactic
import Derived.BigQuiet
set_option linter.unusedSimpArgs false
set_option linter.unusedVariables false
namespace Go.Proofs.Ytcfapidalngebaa
open Go.RowKit Go.Tr

theorem infoEdgeG : (Try.prog.info? 29).map (fun i => (i.zero, i.size, i.bytes)) = some (some (.agg #[.int .i64 0, .int .i64 0]), 2, 16) := by kernel_rfl

set_option maxRecDepth 100000 in
set_option maxHeartbeats 1000000 in
theorem grows_small (ra ea ma : Option Addr) (rn rc en ec mn mc : Nat) (roots : List Int) (E M : Edges) (w : World) (hr : SeqAt w ra (ints roots)) (he : SeqAt w ea (ecells E)) (hma : SeqAt w ma (ecells M))
    (hrn : roots.length = rn) (hen : E.length = en) (hmn : M.length = mn) (hs1 : rn ≤ 80) (hs2 : en ≤ 80) (hs3 : mn ≤ 80) (hne : ea = none → en = 0 ∧ ec = 0) (hnm : ma = none → mn = 0 ∧ mc = 0) :
    Calls Try.prog 7 #[.slice ra rn rc, .slice ea en ec, .slice ma mn mc] w fun e w' => e = .returned (.bool true) ∧ Below w.heap.size w w' := by
  have hg : great80 [(rn : Int), (en : Int), (mn : Int)] = false := by simp [great80]; omega
  have HG := Lib.hid hg; clear hg
  have HR := Lib.hid hr; clear hr
  have HE := Lib.hid he; clear he
  have HM := Lib.hid hma; clear hma
  have HRN := Lib.hid hrn; clear hrn
  have HEN := Lib.hid hen; clear hen
  have HMN := Lib.hid hmn; clear hmn
  have HNE := Lib.hid hne; clear hne
  have HNM := Lib.hid hnm; clear hnm
  obtain ⟨i0, hi, hz0, hz1, hz2⟩ := info_parts infoEdgeG
  go_enter Try.func7, Try.ntmps7
  go_wp2_with fail
  refine (alive13_any _).mono ?_
  rintro e w1 ⟨rfl, hb1⟩
  have HB1 := Lib.hid hb1; clear hb1
  go_wp2_with fail
  refine (great13_any _ 3 3 [(rn : Int), (en : Int), (mn : Int)] _ ?h1 rfl (by decide)).mono ?_
  case h1 => exact seqAt_block (cs := #[iv rn, iv en, iv mn]) (heap_alloc_new w1 _)
  rintro e w2 ⟨rfl, hw⟩
  rw [HG.out]
  have HB2 : Hid (Below w.heap.size w w2) := by subst hw; exact HB1.out.alloc HB1.out.size _
  clear hw HB1
  go_wp2_with fail
  refine (reach_any ra ea rn rc en ec roots E _ (HR.out.below HB2.out (Nat.le_refl _)) (HE.out.below HB2.out (Nat.le_refl _)) HRN.out HEN.out (by omega)).mono ?_
  rintro e w3 ⟨va, rfl, ho, hb⟩
  obtain ⟨aa, ac, rfl, hso, hac, -⟩ := ownsRow_seq ho
  have HA := Lib.hid hso
  have HB3 : Hid (Below w.heap.size w w3) := HB2.out.trans (hb.mono HB2.out.size)
  have hal := reachL_length roots E
  rw [HRN.out, HEN.out] at hal
  clear ho hb hso HB2
  generalize han : (reachL roots E).length = an at *
  have HAN := Lib.hid han; clear han
  have hown0 : Hid ((w3.alloc (.cells #[] 29)).ownsRow w3.heap.size 29 2 (.slice (some ⟨w3.heap.size, 0, none⟩) 0 0) 0 []) :=
    ⟨rfl, Or.inr ⟨w3.heap.size, 0, #[], rfl, Nat.le_refl _, heap_alloc_new w3 _, Nat.le_refl _, Nat.zero_le _, rfl, rfl⟩⟩
  have HB4 : Hid (Below w.heap.size w (w3.alloc (.cells #[] 29))) := HB3.out.alloc HB3.out.size _
  have HE4 := Lib.hid (HE.out.below HB4.out (Nat.le_refl _))
  go_wp2_with (first
    | (at_builtin; refine wpList_append_seq rfl (.tmp 31) (.tmp 32) 23 rfl w3.heap.size 29 i0 _ 2 16 Try.underlying23 hi hz0 hz1 hz2 rfl (by decide) (.slice (some ⟨w3.heap.size, 0, none⟩) 0 0) 0 [] rfl hown0.out ea en ec (ecells E) rfl HNE.out (by rw [ecells_length, HEN.out]; omega) HE4.out (ecells_one _) (by unfold maxLen; omega) (by omega) (by simp) ?_
       intro v5 w5 hown5 hgrow5 hat5
       simp only [List.nil_append, Nat.zero_add] at hown5
       obtain ⟨a5, c5, rfl, hso5, hc5, hm5⟩ := ownsRow_seq hown5
       have HV5 := Lib.hid hown5
       have HB5 : Hid (Below w3.heap.size w3 w5) := ((Below.refl _ w3).alloc (Nat.le_refl _) _).grown hgrow5 (by simp) (fun j hj => by cases hj; exact Nat.le_refl _)
       have HM5 := Lib.hid (HM.out.below (HB3.out.trans (HB5.out.mono HB3.out.size)) (Nat.le_refl _))
       clear hown5 hgrow5 hat5 hso5 hc5 hm5 hown0 HE4 HB4)
    | (at_builtin; refine wpList_append_seq rfl (.tmp 33) (.tmp 34) 23 rfl w3.heap.size 29 i0 _ 2 16 Try.underlying23 hi hz0 hz1 hz2 rfl (by decide) (.slice a5 en c5) en (ecells E) rfl HV5.out ma mn mc (ecells M) rfl HNM.out (by rw [ecells_length, HMN.out]; omega) HM5.out (ecells_one _) (by unfold maxLen; omega) (by omega) HB5.out.size ?_
       intro v6 w6 hown6 hgrow6 hat6
       obtain ⟨a6, c6, rfl, hso6, hc6, hm6⟩ := ownsRow_seq hown6
       have HJ6 : Hid (SeqAt w6 a6 (ecells (E ++ M))) := by rw [ecells_append]; exact hso6
       have HB6 : Hid (Below w3.heap.size w3 w6) := HB5.out.grown hgrow6 HB5.out.size (fun j hj => (HV5.out.lt j hj).1)
       clear hown6 hgrow6 hat6 hso6 hc6 hm6 HV5 HB5 HM5)
    | fail)
  have HR6 := Lib.hid (HR.out.below (HB3.out.trans (HB6.out.mono HB3.out.size)) (Nat.le_refl _))
  refine (reach_any ra a6 rn rc (en + mn) c6 roots (E ++ M) _ HR6.out HJ6.out HRN.out (by rw [List.length_append, HEN.out, HMN.out]) (by omega)).mono ?_
  rintro e w7 ⟨vb, rfl, ho, hb⟩
  obtain ⟨ba, bc, rfl, hso, hbc, -⟩ := ownsRow_seq ho
  have HBQ := Lib.hid hso
  have HB7 : Hid (Below w3.heap.size w3 w7) := HB6.out.trans (hb.mono HB6.out.size)
  have hbl := reachL_length roots (E ++ M)
  rw [List.length_append, HRN.out, HEN.out, HMN.out] at hbl
  have HA7 := Lib.hid (HA.out.below HB7.out (Nat.le_refl _))
  have HW7 : Hid (Below w.heap.size w w7) := HB3.out.trans (HB7.out.mono HB3.out.size)
  have HM7 := Lib.hid (HM.out.below HW7.out (Nat.le_refl _))
  clear ho hb hso HB6 HJ6 HR6 HA HB3 HB7
  generalize hbn : (reachL roots (E ++ M)).length = bn at *
  have HBN := Lib.hid hbn; clear hbn
  go_wp2_with fail
  go_loop [39] (fun i => ∃ k : Nat, k ≤ an ∧ i = .int .i64 k) (fun i => an - (intOf i).toNat)
  case atStart => exact ⟨0, Nat.zero_le _, rfl⟩
  case round =>
    obtain ⟨k, hk, rfl⟩ := hrel
    by_cases hlt : k < an
    · obtain ⟨b, off, x, rfl, hc, HX⟩ := HA7.out.ints (k := k) (by rw [HAN.out]; exact hlt)
      have HF : Hid (hasL (reachL roots (E ++ M)) x = true) := (hasL_iff _ _).2 (grows_sub (List.mem_of_getElem? HX.out))
      clear HX
      go_wp2_with fail
      refine (has_any ba bn bc _ x _ HBQ.out HBN.out (by omega)).mono ?_
      rintro e w8 ⟨rfl, rfl⟩
      rw [HF.out]
      go_wp2
      go_round
      case rel => exact ⟨k + 1, by omega, by go_num⟩
      case measure => simp [intOf]; omega
    · go_wp2_with fail
      go_loopw [50] (fun i wr => ∃ k : Nat, k ≤ mn ∧ i = .int .i64 k ∧ Hid (Below w7.heap.size w7 wr)) (fun i _ => mn - (intOf i).toNat)
      case atStart => exact ⟨0, Nat.zero_le _, rfl, Below.refl _ _⟩
      case round =>
        clear hk hlt
        obtain ⟨k, hk, rfl, HB⟩ := hrel
        by_cases hlt : k < mn
        · obtain ⟨b, off, x, y, rfl, hc1, hc2, HK⟩ := (HM7.out.below HB.out (Nat.le_refl _)).edge (k := k) (by rw [HMN.out]; exact hlt)
          have HN : Hid (Below w7.heap.size w7 (wr.alloc (.cells #[.int .i64 x, .int .i64 y] 29))) := HB.out.alloc HB.out.size _
          have HAn := Lib.hid (HA7.out.below HN.out (Nat.le_refl _))
          have HBn := Lib.hid (HBQ.out.below HN.out (Nat.le_refl _))
          by_cases hf : hasL (reachL roots E) x = true
          · have HF := Lib.hid hf
            have HF2 : Hid (hasL (reachL roots (E ++ M)) y = true) := (hasL_iff _ _).2 (grows_edge ((hasL_iff _ _).1 hf) (List.mem_of_getElem? HK.out))
            clear hf HK
            go_wp2_with fail
            refine (has_any aa an ac _ x _ HAn.out HAN.out (by omega)).mono ?_
            rintro e w' ⟨rfl, hw'⟩
            rw [HF.out]
            subst hw'
            go_wp2_with fail
            refine (has_any ba bn bc _ y _ HBn.out HBN.out (by omega)).mono ?_
            rintro e w' ⟨rfl, hw'⟩
            rw [HF2.out]
            subst hw'
            go_wp2
            go_roundw
            case rel => exact ⟨k + 1, by omega, by go_num, HN⟩
            case measure => simp [intOf]; omega
          · have HF : Hid (hasL (reachL roots E) x = false) := by simpa [Hid] using hf
            clear hf HK
            go_wp2_with fail
            refine (has_any aa an ac _ x _ HAn.out HAN.out (by omega)).mono ?_
            rintro e w' ⟨rfl, hw'⟩
            rw [HF.out]
            subst hw'
            go_wp2
            go_roundw
            case rel => exact ⟨k + 1, by omega, by go_num, HN⟩
            case measure => simp [intOf]; omega
        · go_wp2_with fail
          have HBN0 : Hid (Below w7.heap.size w7 wr) := HB
          go_loopw [13] (fun i wr => ∃ k : Nat, i = .int .i64 ((k : Int) + 1) ∧ (k = 0 ∨ k < bn) ∧ Hid (Below w7.heap.size w7 wr)) (fun i _ => bn + 1 - (intOf i).toNat)
          case atStart => exact ⟨0, rfl, Or.inl rfl, HBN0⟩
          case round =>
            clear hk hlt HB HBN0
            obtain ⟨k, rfl, hk, HB⟩ := hrel
            have hk2 : k ≤ 1000 := by omega
            by_cases hlt : k + 1 < bn
            · have HBw := Lib.hid (HBQ.out.below HB.out (Nat.le_refl _))
              obtain ⟨b, off, x, hba, hc, HX⟩ := HBw.out.ints (k := k) (by rw [HBN.out]; omega)
              obtain ⟨b', off', y, hbb, hc', HY⟩ := HBw.out.ints (k := k + 1) (by rw [HBN.out]; omega)
              rw [hba] at hbb
              cases hbb
              subst hba
              have hxy := rises_at (reachL_rises roots (E ++ M)) HX.out HY.out
              have hi1 : (k : Int) + 1 < (bn : Int) := by omega
              clear HX HY
              go_wp2
              go_quiet (fail)
              go_wp2
              go_roundw
              case rel => exact ⟨k + 1, by go_num, Or.inr (by omega), HB.out.trans (Drawn.below ⟨_, rfl⟩ _)⟩
              case measure => simp [intOf]; omega
            · have hi1 : ¬ ((k : Int) + 1 < (bn : Int)) := by omega
              go_wp2
              go_ret
              exact ⟨rfl, HW7.out.trans (HB.out.mono HW7.out.size)⟩

set_option maxRecDepth 100000 in
theorem grows_big (ra ea ma : Option Addr) (rn rc en ec mn mc : Nat) (w : World) (hbig : 80 < rn ∨ 80 < en ∨ 80 < mn) (hrn : rn ≤ 9223372036854775807) (hen : en ≤ 9223372036854775807) (hmn : mn ≤ 9223372036854775807) :
    Calls Try.prog 7 #[.slice ra rn rc, .slice ea en ec, .slice ma mn mc] w fun e w' => e = .returned (.bool true) ∧ Below w.heap.size w w' := by
  have hg : great80 [(rn : Int), (en : Int), (mn : Int)] = true := by simp [great80]; omega
  have HG := Lib.hid hg; clear hg hbig
  go_enter Try.func7, Try.ntmps7
  go_wp2_with fail
  refine (alive13_any _).mono ?_
  rintro e w1 ⟨rfl, hb1⟩
  have HB1 := Lib.hid hb1; clear hb1
  go_wp2_with fail
  refine (great13_any _ 3 3 [(rn : Int), (en : Int), (mn : Int)] _ ?h1 rfl (by decide)).mono ?_
  case h1 => exact seqAt_block (cs := #[iv rn, iv en, iv mn]) (heap_alloc_new w1 _)
  rintro e w2 ⟨rfl, hw⟩
  rw [HG.out]
  subst hw
  go_wp2_with fail
  refine (alive13_any _).mono ?_
  rintro e w3 ⟨rfl, hb3⟩
  have HB3 := Lib.hid hb3; clear hb3
  go_wp2
  go_ret
  exact ⟨rfl, (HB1.out.alloc HB1.out.size _).trans (HB3.out.mono (by have := HB1.out.size; simp; omega))⟩

theorem grows_row (a0 : Option Addr) (n0 c0 : Nat) (z0 : List Int) (a1 : Option Addr) (n1 c1 : Nat) (z1 : Edges) (a2 : Option Addr) (n2 c2 : Nat) (z2 : Edges) (w : World) (hz0 : SeqAt w a0 (ints z0)) (hl0 : z0.length = n0) (hc0 : n0 ≤ c0) (hm0 : n0 ≤ maxLen) (hw0 : ∀ z ∈ z0, (Lit.int .i64 z).wf = true)
    (hz1 : SeqAt w a1 (ecells z1)) (hl1 : z1.length = n1) (hc1 : n1 ≤ c1) (hm1 : n1 ≤ maxLen) (hn1 : a1 = none → n1 = 0 ∧ c1 = 0) (hz2 : SeqAt w a2 (ecells z2)) (hl2 : z2.length = n2) (hc2 : n2 ≤ c2) (hm2 : n2 ≤ maxLen) (hn2 : a2 = none → n2 = 0 ∧ c2 = 0) :
    Calls Try.prog 7 #[.slice a0 n0 c0, .slice a1 n1 c1, .slice a2 n2 c2] w fun e w' => e = .returned (.bool true) ∧ Below w.heap.size w w' := by
  unfold maxLen at hm0 hm1 hm2
  by_cases hbig : 80 < n0 ∨ 80 < n1 ∨ 80 < n2
  · exact grows_big a0 a1 a2 n0 c0 n1 c1 n2 c2 w hbig (by omega) (by omega) (by omega)
  · exact grows_small a0 a1 a2 n0 c0 n1 c1 n2 c2 z0 z1 z2 w hz0 hz1 hz2 hl0 hl1 hl2 (by omega) (by omega) (by omega) hn1 hn2
end Go.Proofs.Ytcfapidalngebaa
