/-
  turnrowlaw13.GraphActs: the walk.
-/
import Derived.Test.YtcfapidalngebaaLost13
import Derived.Test.YtcfapidalngebaaAlive13
import Derived.Test.YtcfapidalngebaaGreat13
set_option linter.unusedSimpArgs false
set_option linter.unusedVariables false
namespace Go.Proofs.Ytcfapidalngebaa
open Go.RowKit Go.Tr

set_option maxRecDepth 100000 in
theorem gacts_big (ra ea na : Option Addr) (rn rc en ec nn nc : Nat) (w : World) (hbig : 80 < rn ∨ 80 < en ∨ 80 < nn) (hr : rn ≤ 9223372036854775807) (he : en ≤ 9223372036854775807) (hn : nn ≤ 9223372036854775807) :
    Calls Try.prog 11 #[.slice ra rn rc, .slice ea en ec, .slice na nn nc] w fun e w' => e = .returned (.bool true) ∧ Below w.heap.size w w' := by
  have hg : great80 [(rn : Int), (en : Int), (nn : Int)] = true := by simp [great80]; omega
  have HG := Lib.hid hg; clear hg hbig
  go_enter Try.func11, Try.ntmps11
  go_wp2_with fail
  refine (alive13_any _).mono ?_
  rintro e w1 ⟨rfl, hb1⟩
  have HB1 := Lib.hid hb1; clear hb1
  go_wp2_with fail
  refine (great13_any _ 3 3 [(rn : Int), (en : Int), (nn : Int)] _ ?h1 rfl (by decide)).mono ?_
  case h1 => exact seqAt_block (cs := #[iv rn, iv en, iv nn]) (heap_alloc_new w1 _)
  rintro e w2 ⟨rfl, hw⟩
  rw [HG.out]
  subst hw
  go_wp2_with fail
  refine (alive13_any _).mono ?_
  rintro e w3 ⟨rfl, hb3⟩
  have HB3 := Lib.hid hb3; clear hb3
  go_wp2
  go_ret
  exact ⟨rfl, (HB1.out.alloc HB1.out.size _).trans (HB3.out.mono (by have := HB1.out.size; simp; omega))⟩

set_option maxRecDepth 100000 in
set_option maxHeartbeats 1000000 in
theorem gacts_small (ra ea na : Option Addr) (rn rc en ec nn nc : Nat) (lr : List Int) (E : Edges) (ln : List Int) (w : World) (hr : SeqAt w ra (ints lr)) (hrn : lr.length = rn) (hrs : rn ≤ 80) (he : SeqAt w ea (ecells E)) (hen : E.length = en) (hes : en ≤ 80) (hn : SeqAt w na (ints ln)) (hnn : ln.length = nn) (hns : nn ≤ 80) :
    Calls Try.prog 11 #[.slice ra rn rc, .slice ea en ec, .slice na nn nc] w fun e w' => e = .returned (.bool true) ∧ Below w.heap.size w w' := by
  have hg : great80 [(rn : Int), (en : Int), (nn : Int)] = false := by simp [great80]; omega
  have HG := Lib.hid hg; clear hg
  have HR := Lib.hid hr; clear hr
  have HRN := Lib.hid hrn; clear hrn
  have HE := Lib.hid he; clear he
  have HEN := Lib.hid hen; clear hen
  have HN := Lib.hid hn; clear hn
  have HNN := Lib.hid hnn; clear hnn
  obtain ⟨i0, hi, hz0, hz1, hz2⟩ := info_parts infoIntL
  go_enter Try.func11, Try.ntmps11
  go_wp2_with fail
  refine (alive13_any _).mono ?_
  rintro e w1 ⟨rfl, hb1⟩
  have HB1 := Lib.hid hb1; clear hb1
  go_wp2_with fail
  refine (great13_any _ 3 3 [(rn : Int), (en : Int), (nn : Int)] _ ?h1 rfl (by decide)).mono ?_
  case h1 => exact seqAt_block (cs := #[iv rn, iv en, iv nn]) (heap_alloc_new w1 _)
  rintro e w2 ⟨rfl, hw⟩
  rw [HG.out]
  have HB2 : Hid (Below w.heap.size w w2) := by subst hw; exact HB1.out.alloc HB1.out.size _
  clear hw HB1
  have HR2 := Lib.hid (HR.out.below HB2.out (Nat.le_refl _))
  have HE2 := Lib.hid (HE.out.below HB2.out (Nat.le_refl _))
  have HN2 := Lib.hid (HN.out.below HB2.out (Nat.le_refl _))
  go_wp2_with fail
  refine (edges13_any ea en ec E _ HE2.out HEN.out (by omega)).mono ?_
  rintro e w3 ⟨e3, c3, rfl, hs3, hb3⟩
  have HX3 := Lib.hid hs3
  have HB3 : Hid (Below w.heap.size w w3) := HB2.out.trans (hb3.mono HB2.out.size)
  clear hs3 hb3 HR2 HE2 HN2 HB2
  have HR3 := Lib.hid (HR.out.below HB3.out (Nat.le_refl _))
  go_wp2_with fail
  refine (order13_any ra e3 rn rc en c3 lr E _ HR3.out HX3.out HRN.out HEN.out (by omega)).mono ?_
  rintro e w4 ⟨v, rfl, ho, hb4⟩
  have hol := order_length lr E
  rw [HRN.out, HEN.out] at hol
  obtain ⟨O, hO⟩ : ∃ O, O = orderL lr E := ⟨_, rfl⟩
  rw [← hO] at hol ho
  have HO := Lib.hid hO; clear hO
  obtain ⟨oa, oc, rfl, hso, -, -⟩ := ownsRow_seq ho
  have HO4 := Lib.hid hso
  have HB4 : Hid (Below w.heap.size w w4) := HB3.out.trans (hb4.mono HB3.out.size)
  obtain ⟨on, hon⟩ : ∃ on, on = O.length := ⟨_, rfl⟩
  rw [← hon] at hol
  simp only [← hon]
  have HON := Lib.hid hon.symm
  clear hso hb4 ho HB3 HX3 HR3 hon
  have HR4 := Lib.hid (HR.out.below HB4.out (Nat.le_refl _))
  have HE4 := Lib.hid (HE.out.below HB4.out (Nat.le_refl _))
  go_wp2_with fail
  refine (order_any ra ea rn rc en ec lr E _ HR4.out HE4.out HRN.out HEN.out (by omega)).mono ?_
  rintro e w5 ⟨v, rfl, ho, hb5⟩
  rw [← HO.out] at ho
  obtain ⟨pa, pc, rfl, hso, -, -⟩ := ownsRow_seq ho
  have HP5 := Lib.hid hso
  have HO5 := Lib.hid (HO4.out.below hb5 (Nat.le_refl _))
  have HB5 : Hid (Below w.heap.size w w5) := HB4.out.trans (hb5.mono HB4.out.size)
  simp only [HON.out]
  clear hso hb5 ho HB4 HO4 HR4 HE4
  go_wp2_with fail
  refine (same_any pa oa on pc on oc O O _ HP5.out HO5.out HON.out HON.out (by omega)).mono ?_
  rintro e w6 ⟨rfl, hd⟩
  rw [show sameL O O = true from (sameL_iff _ _).2 rfl]
  have HB6 : Hid (Below w.heap.size w w6) := HB5.out.trans (hd.below _)
  have HO6 := Lib.hid (HO5.out.drawn hd)
  clear hd HB5 HO5 HP5
  have HR6 := Lib.hid (HR.out.below HB6.out (Nat.le_refl _))
  have HE6 := Lib.hid (HE.out.below HB6.out (Nat.le_refl _))
  go_wp2_with fail
  refine (reach_any ra ea rn rc en ec lr E _ HR6.out HE6.out HRN.out HEN.out (by omega)).mono ?_
  rintro e w7 ⟨v, rfl, ho, hb7⟩
  have hr7 := reachL_rises lr E
  have hm7 : ∀ x, x ∈ reachL lr E ↔ x ∈ O := fun x => by rw [HO.out]; exact mem_reachL
  have hrl := reachL_length lr E
  rw [HRN.out, HEN.out] at hrl
  obtain ⟨Q, hQ⟩ : ∃ Q, Q = reachL lr E := ⟨_, rfl⟩
  rw [← hQ] at ho hr7 hm7 hrl
  clear hQ
  obtain ⟨qn, hqn⟩ : ∃ qn, qn = Q.length := ⟨_, rfl⟩
  have ho' : w7.ownsRow w6.heap.size 3 1 v qn (ints Q) := by rw [hqn]; exact ho
  rw [← hqn] at hrl
  have HQN := Lib.hid hqn.symm
  obtain ⟨qa, qc, rfl, hso, -, -⟩ := ownsRow_seq ho'
  have HQ7 := Lib.hid hso
  have HR7 := Lib.hid hr7
  have HM7 := Lib.hid hm7
  have HO7 := Lib.hid (HO6.out.below hb7 (Nat.le_refl _))
  have HB7 : Hid (Below w.heap.size w w7) := HB6.out.trans (hb7.mono HB6.out.size)
  clear hso hb7 ho ho' hr7 hm7 hqn HB6 HO6 HR6 HE6
  go_wp2_with fail
  refine (sorted13_any oa on oc O _ HO7.out HON.out (by omega)).mono ?_
  rintro e w8 ⟨v, zs, rfl, ho, hp, hmem, hb⟩
  have hzz : zs = Q := rises_eq hp HR7.out (fun z => (hmem z).trans (HM7.out z).symm)
  subst hzz
  have ho' : w8.ownsRow w7.heap.size 3 1 v qn (ints zs) := by rw [← HQN.out]; exact ho
  obtain ⟨sa, sc, rfl, hss, hsc, -⟩ := ownsRow_seq ho'
  have HS8 := Lib.hid hss
  have HQ8 := Lib.hid (HQ7.out.below hb (Nat.le_refl _))
  have HB8 : Hid (Below w.heap.size w w8) := HB7.out.trans (hb.mono HB7.out.size)
  clear hss hb ho ho' hp hmem HB7 HO7 HQ7 HR7 HM7
  go_wp2_with fail
  refine (same_any qa sa qn qc qn sc zs zs _ HQ8.out HS8.out HQN.out HQN.out (by omega)).mono ?_
  rintro e w9 ⟨rfl, hd⟩
  rw [show sameL zs zs = true from (sameL_iff _ _).2 rfl]
  have HB9 : Hid (Below w.heap.size w w9) := HB8.out.trans (hd.below _)
  clear hd HB8 HS8 HQ8
  have HR9 := Lib.hid (HR.out.below HB9.out (Nat.le_refl _))
  have HE9 := Lib.hid (HE.out.below HB9.out (Nat.le_refl _))
  have HN9 := Lib.hid (HN.out.below HB9.out (Nat.le_refl _))
  go_wp2_with fail
  refine (lost_any na ra ea nn nc rn rc en ec ln lr E _ HN9.out HR9.out HE9.out HNN.out HRN.out HEN.out (by omega) (by omega)).mono ?_
  rintro e w10 ⟨v, ls, rfl, ho, hp, hmem, hlen, hb⟩
  obtain ⟨kn, hkn⟩ : ∃ kn, kn = ls.length := ⟨_, rfl⟩
  have ho' : w10.ownsRow w9.heap.size 3 1 v kn (ints ls) := by rw [hkn]; exact ho
  rw [← hkn] at hlen
  have HKN := Lib.hid hkn.symm
  obtain ⟨ka, kc, rfl, hks, hkc, -⟩ := ownsRow_seq ho'
  have HK10 := Lib.hid hks
  have HLP := Lib.hid hp
  have HLM := Lib.hid hmem
  have HB10 : Hid (Below w.heap.size w w10) := HB9.out.trans (hb.mono HB9.out.size)
  clear hks hb ho ho' hp hmem hkn HB9 HR9 HE9 HN9
  have HE10 := Lib.hid (HE.out.below HB10.out (Nat.le_refl _))
  go_wp2_with fail
  refine (edges13_any ea en ec E _ HE10.out HEN.out (by omega)).mono ?_
  rintro e w11 ⟨e11, c11, rfl, hs11, hb11⟩
  have HX11 := Lib.hid hs11
  have HK11 := Lib.hid (HK10.out.below hb11 (Nat.le_refl _))
  have HB11 : Hid (Below w.heap.size w w11) := HB10.out.trans (hb11.mono HB10.out.size)
  clear hs11 hb11 HB10 HK10 HE10
  have HR11 := Lib.hid (HR.out.below HB11.out (Nat.le_refl _))
  have HN11 := Lib.hid (HN.out.below HB11.out (Nat.le_refl _))
  go_wp2_with fail
  refine (lost13_any na ra e11 nn nc rn rc en c11 ln lr E _ HN11.out HR11.out HX11.out HNN.out HRN.out HEN.out (by omega) (by omega)).mono ?_
  rintro e w12 ⟨v, ms, rfl, ho, hp, hmem, hb⟩
  have hzz : ms = ls := rises_eq hp HLP.out (fun z => (hmem z).trans (HLM.out z).symm)
  subst hzz
  have ho' : w12.ownsRow w11.heap.size 3 1 v kn (ints ms) := by rw [← HKN.out]; exact ho
  obtain ⟨ja, jc, rfl, hjs, hjc, -⟩ := ownsRow_seq ho'
  have HJ12 := Lib.hid hjs
  have HK12 := Lib.hid (HK11.out.below hb (Nat.le_refl _))
  have HB12 : Hid (Below w.heap.size w w12) := HB11.out.trans (hb.mono HB11.out.size)
  clear hjs hb ho ho' hp hmem HB11 HK11 HR11 HN11 HX11
  go_wp2_with fail
  refine (same_any ka ja kn kc kn jc ms ms _ HK12.out HJ12.out HKN.out HKN.out (by omega)).mono ?_
  rintro e w13 ⟨rfl, hd⟩
  rw [show sameL ms ms = true from (sameL_iff _ _).2 rfl]
  have HB13 : Hid (Below w.heap.size w w13) := HB12.out.trans (hd.below _)
  clear hd
  go_wp2
  go_ret
  exact ⟨rfl, HB13.out⟩

theorem gacts_row (a0 : Option Addr) (n0 c0 : Nat) (z0 : List Int) (a1 : Option Addr) (n1 c1 : Nat) (z1 : Edges) (a2 : Option Addr) (n2 c2 : Nat) (z2 : List Int) (w : World) (hz0 : SeqAt w a0 (ints z0)) (hl0 : z0.length = n0) (hc0 : n0 ≤ c0) (hm0 : n0 ≤ maxLen) (hw0 : ∀ z ∈ z0, (Lit.int .i64 z).wf = true)
    (hz1 : SeqAt w a1 (ecells z1)) (hl1 : z1.length = n1) (hc1 : n1 ≤ c1) (hm1 : n1 ≤ maxLen) (hz2 : SeqAt w a2 (ints z2)) (hl2 : z2.length = n2) (hc2 : n2 ≤ c2) (hm2 : n2 ≤ maxLen) (hw2 : ∀ z ∈ z2, (Lit.int .i64 z).wf = true) :
    Calls Try.prog 11 #[.slice a0 n0 c0, .slice a1 n1 c1, .slice a2 n2 c2] w fun e w' => e = .returned (.bool true) ∧ Below w.heap.size w w' := by
  unfold maxLen at hm0 hm1 hm2
  by_cases hbig : 80 < n0 ∨ 80 < n1 ∨ 80 < n2
  · exact gacts_big a0 a1 a2 n0 c0 n1 c1 n2 c2 w hbig (by omega) (by omega) (by omega)
  · exact gacts_small a0 a1 a2 n0 c0 n1 c1 n2 c2 z0 z1 z2 w hz0 hl0 (by omega) hz1 hl1 (by omega) hz2 hl2 (by omega)
end Go.Proofs.Ytcfapidalngebaa
