/-
  turnrowlaw14.GrayAgain: the walk.
-/
import Derived.Test.YtcfapidalngebaaAlive14
import Derived.Test.YtcfapidalngebaaAgainPlain
import Derived.Test.YtcfapidalngebaaGreat14
set_option linter.unusedSimpArgs false
set_option linter.unusedVariables false
namespace Go.Proofs.Ytcfapidalngebaa
open Go.RowKit Go.Tr

set_option maxRecDepth 100000 in
set_option maxHeartbeats 1000000 in
theorem again14_any (a : Option Addr) (n c : Nat) (L : List AV) (x : Int) (w : World) (h : SeqAt w a (acells L)) (hl : L.length = n) (hm : n ≤ 9223372036854775807) (hA : ∀ A ∈ L, A.ok w) :
    Calls Try.prog 6 #[.slice a n c, .int .i64 x] w fun e w' => e = .returned (.bool true) ∧ Below w.heap.size w w' := by
  have H := Lib.hid h; clear h
  have HL := Lib.hid hl; clear hl
  have HAN : Hid (∀ A ∈ L, A.n ≤ 9223372036854775807) := fun A hm => by have := (hA A hm).2.2.2; unfold maxLen at this; omega
  have HA := Lib.hid hA; clear hA
  by_cases hg : greatA L = true
  · have HG := Lib.hid hg; clear hg
    go_enter Try.func6, Try.ntmps6
    go_wp2_with fail
    refine (newS _).mono ?_
    rintro e w1 ⟨g, rfl, hg⟩
    have HI := Lib.hid hg; clear hg
    go_wp2_with fail
    refine (alive14_any _).mono ?_
    rintro e w2 ⟨rfl, hb⟩
    have HI2 := Lib.hid (HI.out.below hb)
    clear HI hb
    go_wp2_with fail
    refine (great14_any a n c L _ (H.out.below HI2.out.toBelow (Nat.le_refl _)) HL.out hm HAN.out).mono ?_
    rintro e w3 ⟨rfl, hb⟩
    rw [HG.out]
    have HI3 := Lib.hid (HI2.out.below hb)
    clear HI2 hb
    go_wp2_with fail
    refine (alive14_any _).mono ?_
    rintro e w4 ⟨rfl, hb⟩
    have HI4 := Lib.hid (HI3.out.below hb)
    clear HI3 hb
    go_wp2_with fail
    go_ret
    exact ⟨rfl, HI4.out.toBelow⟩
  · have hg2 : greatA L = false := by simpa using hg
    have hn80 : n ≤ 80 ∧ ∀ A ∈ L, A.n ≤ 40 := by
      unfold greatA at hg2
      rw [HL.out] at hg2
      simp at hg2
      exact ⟨hg2.1, fun A hA => by have := hg2.2 A hA; omega⟩
    obtain ⟨hn8, hA4⟩ := hn80
    have HG := Lib.hid hg2
    have HA4 := Lib.hid hA4
    clear hg hg2 hA4
    go_enter Try.func6, Try.ntmps6
    go_wp2_with fail
    refine (newS _).mono ?_
    rintro e w1 ⟨g, rfl, hg⟩
    have HI := Lib.hid hg; clear hg
    go_wp2_with fail
    refine (alive14_any _).mono ?_
    rintro e w2 ⟨rfl, hb⟩
    have HI2 := Lib.hid (HI.out.below hb)
    clear HI hb
    go_wp2_with fail
    refine (great14_any a n c L _ (H.out.below HI2.out.toBelow (Nat.le_refl _)) HL.out hm HAN.out).mono ?_
    rintro e w3 ⟨rfl, hb⟩
    rw [HG.out]
    have HI3 := Lib.hid (HI2.out.below hb)
    clear HI2 hb
    go_wp2_with fail
    have HI3' : Hid (GInv w g w3 GS.new) := HI3
    go_loopw [31] (fun i wr => ∃ (k : Nat) (S : GS), k ≤ n ∧ i = .int .i64 k ∧ Hid (AgAt S k) ∧ Hid (GInv w g wr S)) (fun i _ => n - (intOf i).toNat)
    case atStart => exact ⟨0, GS.new, Nat.zero_le _, rfl, AgAt.zero, HI3'⟩
    case round =>
      clear HI3 HI3'
      obtain ⟨k, S, hk, rfl, HS, HI⟩ := hrel
      by_cases hlt : k < n
      · obtain ⟨b, off, A, rfl, hc0, hc1, hc2, HK⟩ := (H.out.below HI.out.toBelow (Nat.le_refl _)).act (k := k) (by rw [HL.out]; exact hlt)
        have hmem : A ∈ L := List.mem_of_getElem? HK.out
        have hA40 := HA4.out A hmem
        have HOK := Lib.hid (HA.out A hmem)
        have HIA := fun o => Lib.hid (HI.out.alloc o)
        obtain ⟨Ak, Ax, Aa, An, Ac, Al⟩ := A
        simp only [] at hA40 hc0 hc1 hc2
        have hm0 : Hid (S.Small 1000000) := by show S.Small 1000000; have := HS.out.small (by omega) (n := 0) (by omega); simpa using this
        by_cases e0 : Ak = 0
        · subst e0
          have HS2 := Lib.hid (HS.out.put (l := Al) (by have := HOK.out.2.1; simp only [] at this; omega))
          go_wp2_with fail
          refine (putS Aa An Ac Al _ (HIA _).out ((HOK.out.1 : SeqAt w Aa (ints Al)).below (HIA _).out.toBelow (Nat.le_refl _)) HOK.out.2.1 ?hn (HS.out.small (by omega) (by omega))).mono ?_
          case hn =>
            intro h0 b o e
            have hl2 : (ints Al).length = An := by rw [ints_length]; exact HOK.out.2.1
            obtain ⟨b', o', e', hc⟩ := HOK.out.1 (by show 0 < (ints Al).length; omega)
            rw [show (AV.mk 0 Ax Aa An Ac Al).a = Aa from rfl, e] at e'
            cases e'
            exact World.block_lt_of_cell? w _ (hc 0 (by show 0 < (ints Al).length; omega))
          rintro e w4 ⟨rfl, hg4⟩
          have HI4 := Lib.hid hg4; clear hg4
          go_wp2
          go_roundw
          case rel => exact ⟨k + 1, _, by omega, by go_num, HS2, HI4⟩
          case measure => simp [intOf]; omega
        · have d0 : (Ak == 0) = false := by simpa using e0
          by_cases e1 : Ak = 1
          · subst e1
            have HS2 := Lib.hid (HS.out.again Ax)
            go_wp2_with fail
            refine (againS Ax _ (HIA _).out hm0.out).mono ?_
            rintro e w4 ⟨rfl, hg4⟩
            have HI4 := Lib.hid hg4; clear hg4
            go_wp2
            go_roundw
            case rel => exact ⟨k + 1, _, by omega, by go_num, HS2, HI4⟩
            case measure => simp [intOf]; omega
          · have d1 : (Ak == 1) = false := by simpa using e1
            by_cases e2 : Ak = 2
            · subst e2
              have HS2 := Lib.hid HS.out.next
              go_wp2_with fail
              refine (nextS _ (HIA _).out hm0.out).mono ?_
              rintro e w4 ⟨rfl, hg4⟩
              have HI4 := Lib.hid hg4; clear hg4
              go_wp2
              go_roundw
              case rel => exact ⟨k + 1, _, by omega, by go_num, HS2, HI4⟩
              case measure => simp [intOf]; omega
            · have d2 : (Ak == 2) = false := by simpa using e2
              by_cases e3 : Ak = 3
              · subst e3
                have HS2 := Lib.hid (HS.out.paint Ax)
                go_wp2_with fail
                refine (paintS Ax _ (HIA _).out hm0.out).mono ?_
                rintro e w4 ⟨rfl, hg4⟩
                have HI4 := Lib.hid hg4; clear hg4
                go_wp2
                go_roundw
                case rel => exact ⟨k + 1, _, by omega, by go_num, HS2, HI4⟩
                case measure => simp [intOf]; omega
              · have d3 : (Ak == 3) = false := by simpa using e3
                clear e0 e1 e2 e3
                go_wp2
                go_roundw
                case rel => exact ⟨k + 1, _, by omega, by go_num, HS.out.none, HIA _⟩
                case measure => simp [intOf]; omega
      · have hm0 : Hid (S.Small 1000000) := by show S.Small 1000000; have := HS.out.small (by omega) (n := 0) (by omega); simpa using this
        obtain ⟨m, hm4, q1, q2, q3, q4, q5, q6, q7⟩ := HS.out.painted (by omega) x
        have Q1 := Lib.hid q1
        have Q2 := Lib.hid q2
        have Q3 := Lib.hid q3
        have Q4 := Lib.hid q4
        have Q5 := Lib.hid q5
        have Q6 := Lib.hid q6
        have Q7 := Lib.hid q7
        clear q1 q2 q3 q4 q5 q6 q7
        go_wp2_with fail
        refine (paintS x _ HI.out hm0.out).mono ?_
        rintro e w4 ⟨rfl, hg4⟩
        obtain ⟨S1, hS1⟩ : ∃ S1, S1 = S.paint x := ⟨_, rfl⟩
        rw [← hS1] at hg4 Q1 Q2 Q3 Q4 Q5 Q6 Q7
        have HI4 := Lib.hid hg4
        clear hg4 hS1 hm0 HS HI
        go_wp2_with fail
        refine (lenS _ HI4.out).mono ?_
        rintro e w5 ⟨rfl, rfl⟩
        rw [Q1.out]
        go_wp2_with fail
        refine (colorS x _ HI4.out).mono ?_
        rintro e w5 ⟨rfl, rfl⟩
        rw [Q2.out]
        go_wp2_with fail
        refine (againS x _ HI4.out Q6.out).mono ?_
        rintro e w5 ⟨rfl, hg5⟩
        rw [Q2.out]
        obtain ⟨S2, hS2⟩ : ∃ S2, S2 = S1.again x := ⟨_, rfl⟩
        rw [← hS2] at hg5 Q3 Q4 Q5 Q7
        have HI5 := Lib.hid hg5
        clear hg5 hS2 HI4
        go_wp2_with fail
        refine (againS x _ HI5.out Q7.out).mono ?_
        rintro e w6 ⟨rfl, hg6⟩
        rw [again_gray Q3.out] at hg6
        rw [Q3.out]
        have HI6 := Lib.hid hg6
        clear hg6 HI5
        go_wp2_with fail
        refine (colorS x _ HI6.out).mono ?_
        rintro e w7 ⟨rfl, rfl⟩
        rw [Q3.out]
        go_wp2_with fail
        refine (lenS _ HI6.out).mono ?_
        rintro e w7 ⟨rfl, rfl⟩
        rw [Q4.out]
        go_wp2_with fail
        go_loopw [94] (fun i wr => ∃ (k : Nat) (S : GS), k ≤ m ∧ i = .int .i64 k ∧ Hid (AgIn S x m k) ∧ Hid (GInv w g wr S)) (fun i _ => m - (intOf i).toNat)
        case atStart => exact ⟨0, S2, Nat.zero_le _, rfl, Q5, HI6⟩
        case round =>
          clear Q5 HI6
          obtain ⟨k, S, hk, rfl, HS, HI⟩ := hrel
          have HM := Lib.hid (HS.out.small hm4)
          by_cases hlt : k < m
          · obtain ⟨y, hy1, hy2, hy3⟩ := HS.out.step hlt
            have HY := Lib.hid hy1
            have HS2 := Lib.hid hy3
            have dy : (y == x) = false := by simpa using hy2
            clear hy1 hy2 hy3
            go_wp2_with fail
            refine (nextS _ HI.out HM.out).mono ?_
            rintro e w8 ⟨rfl, hg8⟩
            rw [show nextV S.next = .tuple #[.int .i64 y, .bool true] by rw [nextV, HY.out]; rfl]
            have HI8 := Lib.hid hg8; clear hg8
            go_wp2
            go_roundw
            case rel => exact ⟨k + 1, _, by omega, by go_num, HS2, HI8⟩
            case measure => simp [intOf]; omega
          · have hkm : k = m := by omega
            subst hkm
            obtain ⟨q1, q2, q3⟩ := HS.out.last
            have Q1 := Lib.hid q1
            have Q2 := Lib.hid q2
            have Q3 := Lib.hid q3
            clear q1 q2 q3
            go_wp2_with fail
            refine (nextS _ HI.out HM.out).mono ?_
            rintro e w8 ⟨rfl, hg8⟩
            rw [show nextV S.next = .tuple #[.int .i64 x, .bool true] by rw [nextV, Q1.out]; rfl]
            obtain ⟨S9, hS9⟩ : ∃ S9, S9 = S.next.2 := ⟨_, rfl⟩
            rw [← hS9] at hg8 Q2 Q3
            have HI8 := Lib.hid hg8; clear hg8 hS9
            go_wp2_with fail
            refine (lenS _ HI8.out).mono ?_
            rintro e w9 ⟨rfl, rfl⟩
            rw [Q2.out]
            go_wp2_with fail
            refine (colorS x _ HI8.out).mono ?_
            rintro e w9 ⟨rfl, rfl⟩
            rw [Q3.out]
            go_wp2_with fail
            go_ret
            exact ⟨rfl, HI8.out.toBelow⟩

theorem again_row (a0 : Option Addr) (n0 c0 : Nat) (z0 : List AV) (x : Int) (w : World) (hz0 : SeqAt w a0 (acells z0)) (hl0 : z0.length = n0) (hc0 : n0 ≤ c0) (hm0 : n0 ≤ maxLen) (hA0 : ∀ A ∈ z0, A.ok w) (_ : (Lit.int .i64 x).wf = true) :
    Calls Try.prog 6 #[.slice a0 n0 c0, .int .i64 x] w fun e w' => e = .returned (.bool true) ∧ Below w.heap.size w w' :=
  again14_any a0 n0 c0 z0 x w hz0 hl0 (by unfold maxLen at hm0; omega) hA0
end Go.Proofs.Ytcfapidalngebaa
