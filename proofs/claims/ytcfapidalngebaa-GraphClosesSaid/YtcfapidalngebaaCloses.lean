/-
  turnrowlaw13.GraphCloses: the walk.
-/
import Derived.Test.YtcfapidalngebaaClosesPlain
import Derived.Test.YtcfapidalngebaaAlive13
import Derived.Test.YtcfapidalngebaaGreat13
import Derived.Test.YtcfapidalngebaaHas
import Derived.Deep.QuietTactic
import Derived.BigQuiet
set_option linter.unusedSimpArgs false
set_option linter.unusedVariables false
namespace Go.Proofs.Ytcfapidalngebaa
open Go.RowKit Go.Tr

set_option maxRecDepth 100000 in
theorem closes_big (ra ea : Option Addr) (rn rc en ec : Nat) (w : World) (hbig : 80 < rn ∨ 80 < en) (hrn : rn ≤ 9223372036854775807) (hen : en ≤ 9223372036854775807) :
    Calls Try.prog 3 #[.slice ra rn rc, .slice ea en ec] w fun e w' => e = .returned (.bool true) ∧ Below w.heap.size w w' := by
  have hg : great80 [(rn : Int), (en : Int)] = true := by simp [great80]; omega
  have HG := Lib.hid hg; clear hg hbig
  go_enter Try.func3, Try.ntmps3
  go_wp2_with fail
  refine (alive13_any _).mono ?_
  rintro e w1 ⟨rfl, hb1⟩
  have HB1 := Lib.hid hb1; clear hb1
  go_wp2_with fail
  refine (great13_any _ 2 2 [(rn : Int), (en : Int)] _ ?h1 rfl (by decide)).mono ?_
  case h1 => exact seqAt_block (cs := #[iv rn, iv en]) (heap_alloc_new w1 _)
  rintro e w2 ⟨rfl, hw⟩
  rw [HG.out]
  subst hw
  go_wp2_with fail
  refine (alive13_any _).mono ?_
  rintro e w3 ⟨rfl, hb3⟩
  have HB3 := Lib.hid hb3; clear hb3
  go_wp2
  go_ret
  exact ⟨rfl, (HB1.out.alloc HB1.out.size _).trans (HB3.out.mono (by have := HB1.out.size; simp; omega))⟩

set_option maxRecDepth 100000 in
set_option maxHeartbeats 1000000 in
theorem closes_small (ra ea : Option Addr) (rn rc en ec : Nat) (roots : List Int) (E : Edges) (w : World) (hr : SeqAt w ra (ints roots)) (he : SeqAt w ea (ecells E)) (hrn : roots.length = rn) (hen : E.length = en) (hs1 : rn ≤ 80) (hs2 : en ≤ 80) :
    Calls Try.prog 3 #[.slice ra rn rc, .slice ea en ec] w fun e w' => e = .returned (.bool true) ∧ Below w.heap.size w w' := by
  have hg : great80 [(rn : Int), (en : Int)] = false := by simp [great80]; omega
  have HG := Lib.hid hg; clear hg
  have HR := Lib.hid hr; clear hr
  have HE := Lib.hid he; clear he
  have HRN := Lib.hid hrn; clear hrn
  have HEN := Lib.hid hen; clear hen
  go_enter Try.func3, Try.ntmps3
  go_wp2_with fail
  refine (alive13_any _).mono ?_
  rintro e w1 ⟨rfl, hb1⟩
  have HB1 := Lib.hid hb1; clear hb1
  go_wp2_with fail
  refine (great13_any _ 2 2 [(rn : Int), (en : Int)] _ ?h1 rfl (by decide)).mono ?_
  case h1 => exact seqAt_block (cs := #[iv rn, iv en]) (heap_alloc_new w1 _)
  rintro e w2 ⟨rfl, hw⟩
  rw [HG.out]
  have HB2 : Hid (Below w.heap.size w w2) := by subst hw; exact HB1.out.alloc HB1.out.size _
  clear hw HB1
  have HR2 := Lib.hid (HR.out.below HB2.out (Nat.le_refl _))
  have HE2 := Lib.hid (HE.out.below HB2.out (Nat.le_refl _))
  go_wp2_with fail
  refine (order_any ra ea rn rc en ec roots E _ HR2.out HE2.out HRN.out HEN.out (by omega)).mono ?_
  rintro e w3 ⟨v, rfl, ho, hb3⟩
  obtain ⟨oa, oc, rfl, hso, hoc, -⟩ := ownsRow_seq ho
  have HO := Lib.hid hso
  have HB3 : Hid (Below w.heap.size w w3) := HB2.out.trans (hb3.mono HB2.out.size)
  have HR3 := Lib.hid (HR.out.below HB3.out (Nat.le_refl _))
  have HE3 := Lib.hid (HE.out.below HB3.out (Nat.le_refl _))
  clear hso hb3 ho HR2 HE2 HB2
  have hol := order_length roots E
  rw [HRN.out, HEN.out] at hol
  obtain ⟨o, hoo⟩ : ∃ o, o = orderL roots E := ⟨_, rfl⟩
  obtain ⟨on, hon⟩ : ∃ on, on = o.length := ⟨_, rfl⟩
  rw [← hoo, ← hon] at hol hoc
  rw [← hoo] at HO
  simp only [← hoo, ← hon]
  have HOO := Lib.hid hoo; clear hoo
  have HON := Lib.hid hon.symm; clear hon
  go_wp2
  -- all roots are on it
  go_loop [31] (fun i => ∃ k : Nat, k ≤ rn ∧ i = .int .i64 k) (fun i => rn - (intOf i).toNat)
  case atStart => exact ⟨0, Nat.zero_le _, rfl⟩
  case round =>
    obtain ⟨k, hk, rfl⟩ := hrel
    by_cases hlt : k < rn
    · obtain ⟨b, off, z, rfl, hc, HZ⟩ := HR3.out.ints (k := k) (by rw [HRN.out]; exact hlt)
      have HH : Hid (hasL o z = true) := (hasL_iff _ _).2 (by rw [HOO.out]; exact order_roots roots E z (List.mem_of_getElem? HZ.out))
      go_wp2_with (go_at_call 17; refine (has_any oa on oc o z _ HO.out HON.out (by omega)).mono ?_; rintro e w' ⟨rfl, rfl⟩; rw [HH.out])
      go_round
      case rel => exact ⟨k + 1, by omega, by go_num⟩
      case measure => simp [intOf]; omega
    · go_wp2
      -- it is closed under the edges
      go_loopw [42] (fun i wr => ∃ k : Nat, k ≤ en ∧ i = .int .i64 k ∧ Hid (Below w3.heap.size w3 wr)) (fun i _ => en - (intOf i).toNat)
      case atStart => exact ⟨0, Nat.zero_le _, rfl, Below.refl _ _⟩
      case round =>
        obtain ⟨k, hk, rfl, HB⟩ := hrel
        by_cases hlt : k < en
        · obtain ⟨b, off, x, y, rfl, hc1, hc2, HK⟩ := (HE3.out.below HB.out (Nat.le_refl _)).edge (k := k) (by rw [HEN.out]; exact hlt)
          have HOr := Lib.hid (HO.out.below HB.out (Nat.le_refl _))
          have HN : Hid (Below w3.heap.size w3 (wr.alloc (.cells #[.int .i64 x, .int .i64 y] 29))) := HB.out.alloc HB.out.size _
          have HOn := Lib.hid (HO.out.below HN.out (Nat.le_refl _))
          by_cases hf : hasL o x = true
          · have HF := Lib.hid hf
            have HT : Hid (hasL o y = true) := (hasL_iff _ _).2 (by rw [HOO.out]; exact order_closed roots E (by rw [← HOO.out]; exact (hasL_iff _ _).1 hf) (List.mem_of_getElem? HK.out))
            clear hf
            go_wp2_with fail
            refine (has_any oa on oc o x _ HOn.out HON.out (by omega)).mono ?_
            rintro e w' ⟨rfl, hw'⟩
            rw [HF.out]
            subst hw'
            go_wp2_with fail
            refine (has_any oa on oc o y _ HOn.out HON.out (by omega)).mono ?_
            rintro e w' ⟨rfl, hw'⟩
            rw [HT.out]
            subst hw'
            go_wp2
            go_roundw
            case rel => exact ⟨k + 1, by omega, by go_num, HN⟩
            case measure => simp [intOf]; omega
          · have HF : Hid (hasL o x = false) := by simpa [Hid] using hf
            clear hf
            go_wp2_with fail
            refine (has_any oa on oc o x _ HOn.out HON.out (by omega)).mono ?_
            rintro e w' ⟨rfl, hw'⟩
            rw [HF.out]
            subst hw'
            go_wp2
            go_roundw
            case rel => exact ⟨k + 1, by omega, by go_num, HN⟩
            case measure => simp [intOf]; omega
        · go_wp2
          -- each one has its reason
          go_loopw [60] (fun i wr => ∃ k : Nat, k ≤ on ∧ i = .int .i64 k ∧ Hid (Below w3.heap.size w3 wr)) (fun i _ => on - (intOf i).toNat)
          case atStart => exact ⟨0, Nat.zero_le _, rfl, HB⟩
          case round =>
            obtain ⟨k, hk, rfl, HC⟩ := hrel
            by_cases hlt : k < on
            · have HOr := Lib.hid (HO.out.below HC.out (Nat.le_refl _))
              obtain ⟨b, off, x, rfl, hc, HX⟩ := HOr.out.ints (k := k) (by rw [HON.out]; exact hlt)
              have HRr := Lib.hid (HR3.out.below HC.out (Nat.le_refl _))
              go_wp2_with (go_at_call 17; refine (has_any ra rn rc roots x _ HRr.out HRN.out (by omega)).mono ?_; rintro e w' ⟨rfl, rfl⟩)
              go_loopw [12, 70] (fun y i wr => ∃ (j : Nat) (yb : Bool), j ≤ en ∧ i = .int .i64 j ∧ y = .bool yb ∧ Hid (yb = whyB roots E o k x j) ∧ Hid (Below w3.heap.size w3 wr)) (fun _ i _ => en - (intOf i).toNat)
              case atStart => exact ⟨0, _, Nat.zero_le _, rfl, rfl, (whyB_start roots E o k x).symm, HC⟩
              case round =>
                obtain ⟨j, yb, hj, rfl, rfl, HY, HC2⟩ := hrel
                by_cases hjt : j < en
                · obtain ⟨b2, off2, e1, e2, rfl, hc1, hc2, HK⟩ := (HE3.out.below HC2.out (Nat.le_refl _)).edge (k := j) (by rw [HEN.out]; exact hjt)
                  have HNW : Hid (Below w3.heap.size w3 (wr.alloc (.cells #[.int .i64 e1, .int .i64 e2] 29))) := HC2.out.alloc HC2.out.size _
                  have HOt := Lib.hid ((HO.out.below HNW.out (Nat.le_refl _)).takeI k)
                  have HTL : Hid ((o.take k).length = k) := by show _ = _; rw [List.length_take, HON.out]; omega
                  have hkc : (k : Int) ≤ (oc : Int) := by omega
                  have hk0 : (0 : Int) ≤ (k : Int) := by omega
                  have HSN := Lib.hid (whyB_snoc (roots := roots) (o := o) (i := k) (x := x) HK.out)
                  cases yb with
                  | true =>
                    go_wp2
                    go_quiet (fail)
                    go_wp2
                    go_roundw
                    case rel => exact ⟨j + 1, true, by omega, by go_num, rfl, by show _ = _; rw [HSN.out, ← HY.out]; rfl, HNW.out.trans ((Drawn.refl _).step _ |>.below _)⟩
                    case measure => simp [intOf]; omega
                  | false =>
                    by_cases hx2 : e2 = x
                    · subst hx2
                      go_wp2
                      go_quiet ((go_at_call 17; exact quiet_same (has_any (some ⟨b, off, none⟩) k oc (o.take k) e1 _ (HOt.out.drawn ⟨_, rfl⟩) HTL.out (by omega))))
                      go_wp2
                      go_roundw
                      case rel => exact ⟨j + 1, _, by omega, by go_num, rfl, by show _ = _; rw [HSN.out, ← HY.out]; simp, HNW.out.trans ((Drawn.refl _).step _ |>.below _)⟩
                      case measure => simp [intOf]; omega
                    · have hx3 : (e2 == x) = false := by simpa using hx2
                      have HX3 := Lib.hid hx3
                      go_wp2
                      go_quiet (fail)
                      go_wp2
                      go_roundw
                      case rel => exact ⟨j + 1, false, by omega, by go_num, rfl, by show _ = _; rw [HSN.out, ← HY.out, HX3.out]; rfl, HNW.out.trans ((Drawn.refl _).step _ |>.below _)⟩
                      case measure => simp [intOf]; omega
                · have HYT : Hid (yb = true) := by
                    have h1 := HY.out
                    rw [HOO.out] at h1
                    rw [h1]; exact whyB_true (by rw [← HOO.out]; exact HX.out) (by rw [HEN.out]; omega)
                  have hyt := HYT.out
                  subst hyt
                  have HOt := Lib.hid ((HO.out.below HC2.out (Nat.le_refl _)).takeI k)
                  have HTL : Hid ((o.take k).length = k) := by show _ = _; rw [List.length_take, HON.out]; omega
                  have hkc : (k : Int) ≤ (oc : Int) := by omega
                  have HON1 : Hid (hasL (o.take k) x = false) := by rw [HOO.out]; exact order_once (by rw [← HOO.out]; exact HX.out)
                  go_wp2_with (go_at_call 17; refine (has_any (some ⟨b, off, none⟩) k oc (o.take k) x _ HOt.out HTL.out (by omega)).mono ?_; rintro e w' ⟨rfl, rfl⟩; rw [HON1.out])
                  go_roundw
                  case rel => exact ⟨k + 1, by omega, by go_num, HC2⟩
                  case measure => simp [intOf]; omega
            · go_wp2
              go_ret
              exact ⟨rfl, HB3.out.trans (HC.out.mono HB3.out.size)⟩

end Go.Proofs.Ytcfapidalngebaa
