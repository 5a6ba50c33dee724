/-
  turnrowlaw13.GraphParts: the walk.
-/
import Derived.Test.YtcfapidalngebaaLost
import Derived.Test.YtcfapidalngebaaGrowsPlain
import Derived.Test.YtcfapidalngebaaHas
import Derived.Test.YtcfapidalngebaaAlive13
import Derived.Test.YtcfapidalngebaaGreat13
import Derived.Deep.QuietTactic
import Derived.BigQuiet
set_option linter.unusedSimpArgs false
set_option linter.unusedVariables false
namespace Go.Proofs.Ytcfapidalngebaa
open Go.RowKit Go.Tr

theorem parts_part {Q ls nodes O : List Int} (hq : ∀ x, x ∈ Q ↔ x ∈ O) (hl : ∀ x, x ∈ ls ↔ x ∈ nodes ∧ x ∉ O) {x : Int} (hx : x ∈ nodes) : hasL ls x = !hasL Q x := by
  rw [Bool.eq_iff_iff, hasL_iff, hl]
  simp [hasL, hq, hx]
theorem has_yes (a : Option Addr) (len cap : Nat) (zs : List Int) (x : Int) (w : World) (h : SeqAt w a (ints zs)) (hl : zs.length = len) (hm : len ≤ 9223372036854775807) (hx : hasL zs x = true) :
    Calls Try.prog 17 #[.slice a len cap, .int .i64 x] w fun e w' => e = .returned (.bool true) ∧ w = w' := by
  have := has_any a len cap zs x w h hl hm; rw [hx] at this; exact this
theorem parts_none {ls roots : List Int} {E : Edges} (hl : ∀ x, x ∈ ls ↔ x ∈ roots ∧ x ∉ orderL roots E) : ls = [] := by
  cases ls with
  | nil => rfl
  | cons x t =>
    have := (hl x).1 (by simp)
    exact absurd (order_roots _ _ x this.1) this.2

set_option maxRecDepth 100000 in
theorem parts_big (na ra ea : Option Addr) (nn nc rn rc en ec : Nat) (w : World) (hbig : 80 < nn ∨ 80 < rn ∨ 80 < en) (hn : nn ≤ 9223372036854775807) (hr : rn ≤ 9223372036854775807) (he : en ≤ 9223372036854775807) :
    Calls Try.prog 13 #[.slice na nn nc, .slice ra rn rc, .slice ea en ec] w fun e w' => e = .returned (.bool true) ∧ Below w.heap.size w w' := by
  have hg : great80 [(nn : Int), (rn : Int), (en : Int)] = true := by simp [great80]; omega
  have HG := Lib.hid hg; clear hg hbig
  go_enter Try.func13, Try.ntmps13
  go_wp2_with fail
  refine (alive13_any _).mono ?_
  rintro e w1 ⟨rfl, hb1⟩
  have HB1 := Lib.hid hb1; clear hb1
  go_wp2_with fail
  refine (great13_any _ 3 3 [(nn : Int), (rn : Int), (en : Int)] _ ?h1 rfl (by decide)).mono ?_
  case h1 => exact seqAt_block (cs := #[iv nn, iv rn, iv en]) (heap_alloc_new w1 _)
  rintro e w2 ⟨rfl, hw⟩
  rw [HG.out]
  subst hw
  go_wp2_with fail
  refine (alive13_any _).mono ?_
  rintro e w3 ⟨rfl, hb3⟩
  have HB3 := Lib.hid hb3; clear hb3
  go_wp2
  go_ret
  exact ⟨rfl, (HB1.out.alloc HB1.out.size _).trans (HB3.out.mono (by have := HB1.out.size; simp; omega))⟩

set_option maxRecDepth 100000 in
set_option maxHeartbeats 1000000 in
theorem parts_small (na ra ea : Option Addr) (nn nc rn rc en ec : Nat) (ln : List Int) (lr : List Int) (E : Edges) (w : World) (hn : SeqAt w na (ints ln)) (hnn : ln.length = nn) (hns : nn ≤ 80) (hr : SeqAt w ra (ints lr)) (hrn : lr.length = rn) (hrs : rn ≤ 80) (he : SeqAt w ea (ecells E)) (hen : E.length = en) (hes : en ≤ 80) :
    Calls Try.prog 13 #[.slice na nn nc, .slice ra rn rc, .slice ea en ec] w fun e w' => e = .returned (.bool true) ∧ Below w.heap.size w w' := by
  have hg : great80 [(nn : Int), (rn : Int), (en : Int)] = false := by simp [great80]; omega
  have HG := Lib.hid hg; clear hg
  have HN := Lib.hid hn; clear hn
  have HNN := Lib.hid hnn; clear hnn
  have HR := Lib.hid hr; clear hr
  have HRN := Lib.hid hrn; clear hrn
  have HE := Lib.hid he; clear he
  have HEN := Lib.hid hen; clear hen
  obtain ⟨i0, hi, hz0, hz1, hz2⟩ := info_parts infoIntL
  go_enter Try.func13, Try.ntmps13
  go_wp2_with fail
  refine (alive13_any _).mono ?_
  rintro e w1 ⟨rfl, hb1⟩
  have HB1 := Lib.hid hb1; clear hb1
  go_wp2_with fail
  refine (great13_any _ 3 3 [(nn : Int), (rn : Int), (en : Int)] _ ?h1 rfl (by decide)).mono ?_
  case h1 => exact seqAt_block (cs := #[iv nn, iv rn, iv en]) (heap_alloc_new w1 _)
  rintro e w2 ⟨rfl, hw⟩
  rw [HG.out]
  have HB2 : Hid (Below w.heap.size w w2) := by subst hw; exact HB1.out.alloc HB1.out.size _
  clear hw HB1
  have HN2 := Lib.hid (HN.out.below HB2.out (Nat.le_refl _))
  have HR2 := Lib.hid (HR.out.below HB2.out (Nat.le_refl _))
  have HE2 := Lib.hid (HE.out.below HB2.out (Nat.le_refl _))
  go_wp2_with fail
  refine (lost_any na ra ea nn nc rn rc en ec ln lr E _ HN2.out HR2.out HE2.out HNN.out HRN.out HEN.out (by omega) (by omega)).mono ?_
  rintro e w3 ⟨v, ls, rfl, ho, hp, hmem, hlen, hb⟩
  obtain ⟨kn, hkn⟩ : ∃ kn, kn = ls.length := ⟨_, rfl⟩
  have ho' : w3.ownsRow w2.heap.size 3 1 v kn (ints ls) := by rw [hkn]; exact ho
  rw [← hkn] at hlen
  have HKN := Lib.hid hkn.symm
  obtain ⟨ka, kc, rfl, hks, hkc, -⟩ := ownsRow_seq ho'
  have HK3 := Lib.hid hks
  have HLP := Lib.hid hp
  have HLM := Lib.hid hmem
  have HB3 : Hid (Below w.heap.size w w3) := HB2.out.trans (hb.mono HB2.out.size)
  clear hks hb ho ho' hp hmem hkn HB2 HR2 HE2 HN2
  have HR3 := Lib.hid (HR.out.below HB3.out (Nat.le_refl _))
  have HE3 := Lib.hid (HE.out.below HB3.out (Nat.le_refl _))
  go_wp2_with fail
  refine (reach_any ra ea rn rc en ec lr E _ HR3.out HE3.out HRN.out HEN.out (by omega)).mono ?_
  rintro e w4 ⟨v, rfl, ho, hb⟩
  have hm7 : ∀ x, x ∈ reachL lr E ↔ x ∈ orderL lr E := fun x => mem_reachL
  have hrl := reachL_length lr E
  rw [HRN.out, HEN.out] at hrl
  obtain ⟨Q, hQ⟩ : ∃ Q, Q = reachL lr E := ⟨_, rfl⟩
  rw [← hQ] at ho hm7 hrl
  clear hQ
  obtain ⟨qn, hqn⟩ : ∃ qn, qn = Q.length := ⟨_, rfl⟩
  have ho' : w4.ownsRow w3.heap.size 3 1 v qn (ints Q) := by rw [hqn]; exact ho
  rw [← hqn] at hrl
  have HQN := Lib.hid hqn.symm
  obtain ⟨qa, qc, rfl, hso, -, -⟩ := ownsRow_seq ho'
  have HQ4 := Lib.hid hso
  have HM4 := Lib.hid hm7
  have HK4 := Lib.hid (HK3.out.below hb (Nat.le_refl _))
  have HB4 : Hid (Below w.heap.size w w4) := HB3.out.trans (hb.mono HB3.out.size)
  have HN4 := Lib.hid (HN.out.below HB4.out (Nat.le_refl _))
  clear hso hb ho ho' hm7 hqn HB3 HK3 HR3 HE3
  go_wp2_with fail
  go_loop [35] (fun i => ∃ k : Nat, k ≤ nn ∧ i = .int .i64 k) (fun i => nn - (intOf i).toNat)
  case atStart => exact ⟨0, Nat.zero_le _, rfl⟩
  case round =>
    obtain ⟨k, hk, rfl⟩ := hrel
    by_cases hlt : k < nn
    · obtain ⟨b, off, x, rfl, hc, HX⟩ := HN4.out.ints (k := k) (by rw [HNN.out]; exact hlt)
      have HF := Lib.hid (parts_part HM4.out HLM.out (List.mem_of_getElem? HX.out))
      clear HX
      go_wp2_with fail
      refine (has_any ka kn kc ls x _ HK4.out HKN.out (by omega)).mono ?_
      rintro e w' ⟨rfl, rfl⟩
      rw [HF.out]
      go_wp2_with fail
      refine (has_any qa qn qc Q x _ HQ4.out HQN.out (by omega)).mono ?_
      rintro e w' ⟨rfl, rfl⟩
      have HE0 : Hid (∀ b : Bool, ((!b) == b) = false) := by intro b; cases b <;> rfl
      clear HF
      generalize hasL Q x = qb
      cases qb
      all_goals
        go_wp2
        go_round
        case rel => exact ⟨k + 1, by omega, by go_num⟩
        case measure => simp [intOf]; omega
    · go_wp2_with fail
      go_loopw [49] (fun i wr => ∃ k : Nat, k ≤ kn ∧ i = .int .i64 k ∧ Hid (Drawn w4 wr)) (fun i _ => kn - (intOf i).toNat)
      case atStart => exact ⟨0, Nat.zero_le _, rfl, Drawn.refl _⟩
      case round =>
        clear hk hlt
        obtain ⟨k, hk, rfl, HD⟩ := hrel
        by_cases hlt : k < kn
        · obtain ⟨b, off, x, rfl, hc, HX⟩ := (HK4.out.drawn HD.out).ints (k := k) (by rw [HKN.out]; exact hlt)
          have HF : Hid (hasL ln x = true) := (hasL_iff _ _).2 ((HLM.out x).1 (List.mem_of_getElem? HX.out)).1
          have HN5 := Lib.hid (HN4.out.drawn HD.out)
          cases k with
          | zero =>
            have h00 : decide ((0 : Int) < 0) = false := by decide
            simp only [Int.natCast_zero, Int.ofNat_zero, Nat.add_zero] at *
            clear HX
            go_wp2_with fail
            refine (has_yes na nn nc ln x _ HN5.out HNN.out (by omega) HF.out).mono ?_
            rintro e w' ⟨rfl, rfl⟩
            go_wp2
            go_roundw
            case rel => exact ⟨1, by omega, by go_num, HD⟩
            case measure => simp [intOf]; omega
          | succ m =>
            obtain ⟨b', off', p, hba, hcp, HP⟩ := (HK4.out.drawn HD.out).ints (k := m) (by rw [HKN.out]; omega)
            cases hba
            have hxy := rises_at HLP.out HP.out HX.out
            have hm1 : (m : Int) + 1 < (kn : Int) := by omega
            have hm2 : ((m + 1 : Nat) : Int) = (m : Int) + 1 := by omega
            rw [hm2]
            have hc2 : wr.cell? ⟨b, off + (m + 1), none⟩ = some (.int .i64 x) := hc
            clear hm2 HX HP
            go_wp2_with fail
            refine (has_yes na nn nc ln x _ HN5.out HNN.out (by omega) HF.out).mono ?_
            rintro e w' ⟨rfl, rfl⟩
            go_wp2
            go_roundw
            case rel => exact ⟨m + 1 + 1, by omega, by go_num, HD⟩
            case measure => simp [intOf]; omega
        · have HB5 : Hid (Below w.heap.size w wr) := HB4.out.trans (HD.out.below _)
          have HR5 := Lib.hid (HR.out.below HB5.out (Nat.le_refl _))
          have HE5 := Lib.hid (HE.out.below HB5.out (Nat.le_refl _))
          go_wp2_with fail
          refine (lost_any ra ra ea rn rc rn rc en ec lr lr E _ HR5.out HR5.out HE5.out HRN.out HRN.out HEN.out (by omega) (by omega)).mono ?_
          rintro e w6 ⟨v, zs, rfl, ho, hp, hmem, hl6, hb⟩
          have hz := parts_none hmem
          subst hz
          obtain ⟨za, zc, rfl, -, -, -⟩ := ownsRow_seq ho
          have HB6 : Hid (Below w.heap.size w w6) := HB5.out.trans (hb.mono HB5.out.size)
          clear ho hp hmem hl6 hb
          go_wp2
          go_ret
          exact ⟨rfl, HB6.out⟩

theorem parts_row (a0 : Option Addr) (n0 c0 : Nat) (z0 : List Int) (a1 : Option Addr) (n1 c1 : Nat) (z1 : List Int) (a2 : Option Addr) (n2 c2 : Nat) (z2 : Edges) (w : World) (hz0 : SeqAt w a0 (ints z0)) (hl0 : z0.length = n0) (hc0 : n0 ≤ c0) (hm0 : n0 ≤ maxLen) (hw0 : ∀ z ∈ z0, (Lit.int .i64 z).wf = true)
    (hz1 : SeqAt w a1 (ints z1)) (hl1 : z1.length = n1) (hc1 : n1 ≤ c1) (hm1 : n1 ≤ maxLen) (hw1 : ∀ z ∈ z1, (Lit.int .i64 z).wf = true) (hz2 : SeqAt w a2 (ecells z2)) (hl2 : z2.length = n2) (hc2 : n2 ≤ c2) (hm2 : n2 ≤ maxLen) :
    Calls Try.prog 13 #[.slice a0 n0 c0, .slice a1 n1 c1, .slice a2 n2 c2] w fun e w' => e = .returned (.bool true) ∧ Below w.heap.size w w' := by
  unfold maxLen at hm0 hm1 hm2
  by_cases hbig : 80 < n0 ∨ 80 < n1 ∨ 80 < n2
  · exact parts_big a0 a1 a2 n0 c0 n1 c1 n2 c2 w hbig (by omega) (by omega) (by omega)
  · exact parts_small a0 a1 a2 n0 c0 n1 c1 n2 c2 z0 z1 z2 w hz0 hl0 (by omega) hz1 hl1 (by omega) hz2 hl2 (by omega)
end Go.Proofs.Ytcfapidalngebaa
