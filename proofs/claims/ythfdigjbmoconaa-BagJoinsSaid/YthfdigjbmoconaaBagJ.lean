/-
  turnrowlaw08.BagJoins: the walk.
-/
import Derived.Test.YthfdigjbmoconaaBag8
set_option linter.unusedSimpArgs false
set_option linter.unusedVariables false
namespace Go.Proofs.Ythfdigjbmoconaa
open Go.RowKit Go.Tr

set_option maxRecDepth 100000 in
set_option maxHeartbeats 8000000 in
theorem bjoins_row (aa : Option Addr) (an ac : Nat) (L : List Int) (ba : Option Addr) (bn bc : Nat) (O : List Int) (w : World) (ha : SeqAt w aa (ints L)) (hl : L.length = an) (hc : an ≤ ac) (hm : an ≤ maxLen) (hw : ∀ x ∈ L, (Lit.int .i64 x).wf = true) (hna : aa = none → an = 0 ∧ ac = 0) (hba : ac ≤ maxLen)
    (ha2 : SeqAt w ba (ints O)) (hl2 : O.length = bn) (hc2 : bn ≤ bc) (hm2 : bn ≤ maxLen) (hw2 : ∀ x ∈ O, (Lit.int .i64 x).wf = true) (hnb : ba = none → bn = 0 ∧ bc = 0) (hbb : bc ≤ maxLen) :
    Calls Try.prog 5 #[.slice aa an ac, .slice ba bn bc] w fun e w' => e = .returned (.bool true) ∧ Below w.heap.size w w' := by
  unfold maxLen at hm hm2 hba hbb
  obtain ⟨i0, hi, hz0, hz1, hz2⟩ := info_parts infoIntB
  obtain ⟨n, hn⟩ : ∃ n, n = min an 100 := ⟨_, rfl⟩
  obtain ⟨o, ho⟩ : ∃ o, o = min bn 100 := ⟨_, rfl⟩
  have hn1 : n ≤ an := by omega
  have hn2 : n ≤ 100 := by omega
  have hnc : n ≤ ac := by omega
  have ho1 : o ≤ bn := by omega
  have ho2 : o ≤ 100 := by omega
  have hoc : o ≤ bc := by omega
  have HA : Hid (SeqAt w aa (ints (L.take n))) := SeqAt.takeI ha n
  have HO : Hid (SeqAt w ba (ints (O.take o))) := SeqAt.takeI ha2 o
  have HAL : Hid ((L.take n).length = n) := by show _ = _; rw [List.length_take]; omega
  have HOL : Hid ((O.take o).length = o) := by show _ = _; rw [List.length_take]; omega
  have HNA : Hid (aa = none → n = 0 ∧ ac = 0) := fun h => ⟨by have := hna h; omega, (hna h).2⟩
  have HNB : Hid (ba = none → o = 0 ∧ bc = 0) := fun h => ⟨by have := hnb h; omega, (hnb h).2⟩
  have hnI : min (an : Int) 100 = (n : Int) := by omega
  have hoI : min (bn : Int) 100 = (o : Int) := by omega
  clear ha ha2 hl hl2 hw hw2 hn ho hna hnb
  generalize L.take n = l at *
  generalize O.take o = m at *
  go_enter Try.func5, Try.ntmps5
  go_wp2_with fail
  go_quiet (fail)
  have HB0 : Hid (Below w.heap.size w (w.drewN nq)) := Drawn.below ⟨_, rfl⟩ _
  generalize w.drewN nq = wa at *
  clear hnI hoI
  go_wp2_with fail
  refine (newB aa n ac l _ (HA.out.below HB0.out (Nat.le_refl _)) HAL.out (by omega) (Bags.none HB0.out)).mono ?_
  rintro e w1 ⟨ga, rfl, hi1, hb⟩
  have HI := Lib.hid hi1
  have HB1 := Lib.hid (HB0.out.trans (hb.mono HB0.out.size))
  clear hi1 hb HB0
  go_wp2_with fail
  refine (newB ba o bc m _ (HO.out.below HB1.out (Nat.le_refl _)) HOL.out (by omega) HI.out).mono ?_
  rintro e w2 ⟨gb, rfl, hi1, hb⟩
  have HI2 : Hid (Bags w w2 [(ga, setL l), (gb, setL m)]) := hi1
  clear hi1 hb HB1 HI
  have HAm : Hid (∀ y, y ∈ setL l ↔ y ∈ l) := fun y => mem_setL
  have HBm : Hid (∀ y, y ∈ setL m ↔ y ∈ m) := fun y => mem_setL
  have HAl : Hid ((setL l).length ≤ 100) := by have := setL_length l; have := HAL.out; show _ ≤ _; omega
  have HBl : Hid ((setL m).length ≤ 100) := by have := setL_length m; have := HOL.out; show _ ≤ _; omega
  generalize setL l = zA at *
  generalize setL m = zB at *
  go_wp2_with fail
  refine (alive08_any _).mono ?_
  rintro e w3 ⟨rfl, hb⟩
  have HI3 := Lib.hid (HI2.out.read hb)
  clear hb HI2
  go_wp2_with fail
  refine (allB 1 _ HI3.out rfl (by have := HBl.out; omega)).mono ?_
  rintro e w4 ⟨a7, c7, rfl, how, hi1, hb⟩
  obtain ⟨bl, hbl⟩ : ∃ bl, bl = zB.length := ⟨_, rfl⟩
  rw [← hbl] at how ⊢
  have HBL := Lib.hid hbl.symm
  have hbl1 : bl ≤ 100 := by rw [hbl]; exact HBl.out
  have HW := Lib.hid how
  have HI4 := Lib.hid (HI3.out.keep (by simp) hb how)
  clear how hi1 hb HI3 hbl
  have HY : ∀ (wx wy : World), Hid (wx.ownsRow w3.heap.size 3 1 (.slice a7 bl c7) bl (ints zB)) → (∀ k, (Value.slice a7 bl c7).ownBlock = some k → wy.heap[k]? = wx.heap[k]?) → Hid (wy.ownsRow w3.heap.size 3 1 (.slice a7 bl c7) bl (ints zB)) := fun wx wy h1 h2 => ownsRow_kept h1.out h2
  go_wp2_with fail
  refine (joinY 0 1 _ HI4.out rfl rfl (by have := HAl.out; omega) (by have := HBl.out; omega) (by decide)).mono ?_
  rintro e w5 ⟨rfl, hi1, hk⟩
  have HI5 : Hid (BagsY w w5 [(ga, setL (zA ++ zB)), (gb, zB)] (fun k => (Value.slice a7 bl c7).ownBlock = some k)) := hi1
  have HW5 := HY _ _ HW hk
  clear hi1 hk HI4 HW
  have HCm : Hid (∀ y, y ∈ setL (zA ++ zB) ↔ y ∈ l ∨ y ∈ m) := fun y => by rw [mem_setL, List.mem_append, HAm.out, HBm.out]
  have HCl : Hid ((setL (zA ++ zB)).length ≤ 200) := by have h1 := setL_length (zA ++ zB); rw [List.length_append] at h1; have := HAl.out; have := HBl.out; show _ ≤ _; omega
  generalize setL (zA ++ zB) = zC at *
  have HB5 := Lib.hid HI5.out.bags.below
  have hown0 : Hid ((w5.alloc (.cells #[] 3)).ownsRow w5.heap.size 3 1 (.slice (some ⟨w5.heap.size, 0, none⟩) 0 0) 0 []) :=
    ⟨rfl, Or.inr ⟨w5.heap.size, 0, #[], rfl, Nat.le_refl _, heap_alloc_new w5 _, Nat.le_refl _, Nat.zero_le _, rfl, rfl⟩⟩
  have HBe : Hid (Below w.heap.size w (w5.alloc (.cells #[] 3))) := HB5.out.alloc HB5.out.size _
  have HS1 := Lib.hid (HA.out.below HBe.out (Nat.le_refl _))
  go_wp2_with (first
    | (at_builtin; refine wpList_append_seq rfl (.tmp 48) (.tmp 49) 22 rfl w5.heap.size 3 i0 _ 1 8 Try.underlying22 hi hz0 hz1 hz2 rfl (by decide) (.slice (some ⟨w5.heap.size, 0, none⟩) 0 0) 0 [] rfl hown0.out aa n ac (ints l) rfl HNA.out (by rw [ints_length, HAL.out]; omega) HS1.out (ints_oneCell .i64 l) (by unfold maxLen; omega) (by omega) (by simp) ?_
       intro v8 w8 hown8 hgrow8 hat8
       simp only [List.nil_append, Nat.zero_add] at hown8
       obtain ⟨a8, c8, rfl, hso8, hc8, hm8⟩ := ownsRow_seq hown8
       have HV8 := Lib.hid hown8
       have HB8 : Hid (Below w5.heap.size w5 w8) := ((Below.refl _ w5).alloc (Nat.le_refl _) _).grown hgrow8 (by simp) (fun j hj => by cases hj; exact Nat.le_refl _)
       have HS2 := Lib.hid (HO.out.below (HB5.out.trans (HB8.out.mono HB5.out.size)) (Nat.le_refl _))
       clear hown8 hgrow8 hat8 hso8 hc8 hm8 hown0 HS1 HBe)
    | (at_builtin; refine wpList_append_seq rfl (.tmp 50) (.tmp 51) 22 rfl w5.heap.size 3 i0 _ 1 8 Try.underlying22 hi hz0 hz1 hz2 rfl (by decide) (.slice a8 n c8) n (ints l) rfl HV8.out ba o bc (ints m) rfl HNB.out (by rw [ints_length, HOL.out]; omega) HS2.out (ints_oneCell .i64 m) (by unfold maxLen; omega) (by omega) HB8.out.size ?_
       intro v9 w9 hown9 hgrow9 hat9
       obtain ⟨a9, c9, rfl, hso9, hc9, hm9⟩ := ownsRow_seq hown9
       have HJ9 : Hid (SeqAt w9 a9 (ints (l ++ m))) := by rw [show ints (l ++ m) = ints l ++ ints m by simp [ints]]; exact hso9
       have HB9 : Hid (Below w5.heap.size w5 w9) := HB8.out.grown hgrow9 HB8.out.size (fun j hj => (HV8.out.lt j hj).1)
       clear hown9 hgrow9 hat9 hso9 hc9 hm9 HV8 HB8 HS2)
    | fail)
  have HI9 := Lib.hid (HI5.out.read HB9.out)
  have HW9 := Lib.hid (ownsRow_below HW5.out HB9.out)
  have HJL : Hid ((l ++ m).length = n + o) := by show _ = _; rw [List.length_append, HAL.out, HOL.out]
  clear HB9 HI5 HW5 HB5
  go_wp2_with fail
  go_loopw [54] (fun i wr => ∃ k : Nat, k ≤ n + o ∧ i = .int .i64 k ∧ Hid (Drawn w9 wr)) (fun i _ => n + o - (intOf i).toNat)
  case atStart => exact ⟨0, Nat.zero_le _, rfl, Drawn.refl _⟩
  case round =>
    obtain ⟨k, hk, rfl, HD⟩ := hrel
    by_cases hlt : k < n + o
    · have hlt' : (k : Int) < ((n + o : Nat) : Int) := by omega
      have hlt'' : (k : Int) < (n : Int) + (o : Int) := by omega
      obtain ⟨b, off, x, rfl, hcx, HX⟩ := (HJ9.out.drawn HD.out).ints (k := k) (by rw [HJL.out]; exact hlt)
      have HX1 : Hid (hasL zC x = true) := hasL_true ((HCm.out x).2 (List.mem_append.1 (List.mem_of_getElem? HX.out)))
      clear HX
      go_wp2_with fail
      refine (hasY 0 x _ (HI9.out.read (HD.out.below _)) rfl (by have := HCl.out; omega)).mono ?_
      rintro e w10 ⟨rfl, hd⟩
      rw [HX1.out]
      have HD2 := Lib.hid (HD.out.trans hd)
      clear hd
      go_wp2_with fail
      go_roundw
      case rel => exact ⟨k + 1, by omega, by go_num, HD2⟩
      case measure => simp [intOf]; omega
    · have hlt' : ¬ ((k : Int) < ((n + o : Nat) : Int)) := by omega
      have hlt'' : ¬ ((k : Int) < (n : Int) + (o : Int)) := by omega
      have HI10 := Lib.hid (HI9.out.read (HD.out.below _))
      have HW10 := Lib.hid (ownsRow_below HW9.out (HD.out.below _))
      clear HI9 HW9 HJ9 HJL HD hlt hk
      go_wp2_with fail
      refine (allY 0 _ HI10.out rfl (by have := HCl.out; omega)).mono ?_
      rintro e w11 ⟨a11, c11, rfl, ho11, hb⟩
      obtain ⟨cl, hcl⟩ : ∃ cl, cl = zC.length := ⟨_, rfl⟩
      rw [← hcl] at ho11 ⊢
      have HCL := Lib.hid hcl.symm
      have hcl1 : cl ≤ 200 := by rw [hcl]; exact HCl.out
      have HO11 := Lib.hid ho11
      have HI11 := Lib.hid (HI10.out.read hb)
      have HW11 := Lib.hid (ownsRow_below HW10.out hb)
      clear ho11 hb hcl HI10 HW10 hlt' hlt''
      go_wp2_with fail
      go_loopw [66] (fun i wr => ∃ k : Nat, k ≤ cl ∧ i = .int .i64 k ∧ Hid (Drawn w11 wr)) (fun i _ => cl - (intOf i).toNat)
      case atStart => exact ⟨0, Nat.zero_le _, rfl, Drawn.refl _⟩
      case round =>
        obtain ⟨k, hk, rfl, HD⟩ := hrel
        by_cases hlt : k < cl
        · have hlt' : (k : Int) < (cl : Int) := by omega
          obtain ⟨b, off, x, rfl, hcx, HX⟩ := ((ownsRow_seq' HO11.out).drawn HD.out).ints (k := k) (by rw [HCL.out]; exact hlt)
          have HXC : Hid (x ∈ l ∨ x ∈ zB) := ((HCm.out x).1 (List.mem_of_getElem? HX.out)).imp id (fun h => (HBm.out x).2 h)
          clear HX
          go_wp2_with fail
          refine (hasY 1 x _ (HI11.out.read (HD.out.below _)) rfl (by have := HBl.out; omega)).mono ?_
          rintro e w12 ⟨rfl, hd⟩
          have HD2 := Lib.hid (HD.out.trans hd)
          clear hd
          obtain ⟨b0, hb0⟩ : ∃ b0, b0 = hasL zB x := ⟨_, rfl⟩
          rw [← hb0]
          have HXC2 : Hid (x ∈ l ∨ b0 = true) := HXC.out.imp id (fun h => by rw [hb0]; exact hasL_true h)
          clear HXC hb0
          have HAW := Lib.hid (HA.out.below (HI11.out.bags.below.trans (HD2.out.below _)) (Nat.le_refl _))
          go_wp2_with fail
          go_loopw [12, 75] (fun ag i wx => wx = w12 ∧ ∃ j : Nat, j ≤ n ∧ i = .int .i64 j ∧ ag = .bool (b0 || hasL (l.take j) x)) (fun _ i _ => n - (intOf i).toNat)
          case atStart => exact ⟨rfl, 0, Nat.zero_le _, rfl, by simp [hasL]⟩
          case round =>
            obtain ⟨rfl, j, hj, rfl, rfl⟩ := hrel
            by_cases hlt3 : j < n
            · have hlt3' : (j : Int) < (n : Int) := by omega
              obtain ⟨b', off', y, rfl, hcy, HYY⟩ := HAW.out.ints (k := j) (by rw [HAL.out]; omega)
              have HTY : Hid (hasL (l.take (j + 1)) x = (hasL (l.take j) x || (y == x))) := by
                show _ = _
                rw [take_snoc HYY.out, Bool.eq_iff_iff]
                simp [hasL]
                constructor
                · rintro (h | h); exact Or.inl h; exact Or.inr h.symm
                · rintro (h | h); exact Or.inl h; exact Or.inr h.symm
              clear HYY
              obtain ⟨bb, hbb⟩ : ∃ bb, bb = (b0 || hasL (l.take j) x) := ⟨_, rfl⟩
              have HBB : Hid ((b0 || hasL (l.take (j + 1)) x) = (bb || (y == x))) := by show _ = _; rw [HTY.out, hbb, Bool.or_assoc]
              rw [← hbb]
              clear hbb HTY
              cases bb
              · go_wp2_with fail
                go_roundw
                case rel => exact ⟨trivial, j + 1, by omega, by go_num, by rw [HBB.out]; simp⟩
                case measure => simp [intOf]; omega
              · go_wp2_with fail
                go_roundw
                case rel => exact ⟨trivial, j + 1, by omega, by go_num, by rw [HBB.out]; simp⟩
                case measure => simp [intOf]; omega
            · have hlt3' : ¬ ((j : Int) < (n : Int)) := by omega
              have HBT : Hid ((b0 || hasL (l.take j) x) = true) := by
                show _ = _
                rw [List.take_of_length_le (by rw [HAL.out]; omega)]
                rcases HXC2.out with h | h
                · rw [hasL_true h]; simp
                · rw [h]; rfl
              rw [HBT.out]
              go_wp2_with fail
              go_roundw
              case rel => exact ⟨k + 1, by omega, by go_num, HD2⟩
              case measure => simp [intOf]; omega
        · have hlt' : ¬ ((k : Int) < (cl : Int)) := by omega
          have HI12 := Lib.hid (HI11.out.read (HD.out.below _))
          have HW12 := Lib.hid (ownsRow_below HW11.out (HD.out.below _))
          clear HI11 HW11 HO11 HD hlt hk
          go_wp2_with fail
          refine (lessY 0 1 _ HI12.out rfl rfl (by have := HCl.out; omega) (by have := HBl.out; omega) (by decide)).mono ?_
          rintro e w13 ⟨rfl, hi1, hk⟩
          have HI13 : Hid (BagsY w w13 [(ga, lessL zC zB), (gb, zB)] (fun k => (Value.slice a7 bl c7).ownBlock = some k)) := hi1
          have HW13 := HY _ _ HW12 hk
          clear hi1 hk HI12 HW12
          have HDm : Hid (∀ y, y ∈ lessL zC zB ↔ (y ∈ l ∨ y ∈ m) ∧ y ∉ m) := fun y => by rw [mem_lessL, HCm.out, HBm.out]
          have HDl : Hid ((lessL zC zB).length ≤ 200) := by have := lessL_length zC zB; have := HCl.out; show _ ≤ _; omega
          generalize lessL zC zB = zD at *
          go_wp2_with fail
          go_loopw [94] (fun i wr => ∃ k : Nat, k ≤ o ∧ i = .int .i64 k ∧ Hid (Drawn w13 wr)) (fun i _ => o - (intOf i).toNat)
          case atStart => exact ⟨0, Nat.zero_le _, rfl, Drawn.refl _⟩
          case round =>
            obtain ⟨k, hk, rfl, HD⟩ := hrel
            by_cases hlt : k < o
            · have hlt2' : (k : Int) < (o : Int) := by omega
              obtain ⟨b, off, x, rfl, hcx, HX⟩ := (HO.out.below (HI13.out.bags.below.trans (HD.out.below _)) (Nat.le_refl _)).ints (k := k) (by rw [HOL.out]; exact hlt)
              have HX1 : Hid (hasL zD x = false) := hasL_false (fun h => ((HDm.out x).1 h).2 (List.mem_of_getElem? HX.out))
              clear HX
              go_wp2_with fail
              refine (hasY 0 x _ (HI13.out.read (HD.out.below _)) rfl (by have := HDl.out; omega)).mono ?_
              rintro e w14 ⟨rfl, hd⟩
              rw [HX1.out]
              have HD2 := Lib.hid (HD.out.trans hd)
              clear hd
              go_wp2_with fail
              go_roundw
              case rel => exact ⟨k + 1, by omega, by go_num, HD2⟩
              case measure => simp [intOf]; omega
            · have hlt2' : ¬ ((k : Int) < (o : Int)) := by omega
              have HI14 := Lib.hid (HI13.out.read (HD.out.below _))
              have HW14 := Lib.hid (ownsRow_below HW13.out (HD.out.below _))
              clear HI13 HW13 HD hlt hk
              go_wp2_with fail
              go_loopw [104] (fun i wx => ∃ k : Nat, k ≤ n ∧ i = .int .i64 k ∧ Hid (Drawn wr wx)) (fun i _ => n - (intOf i).toNat)
              case atStart => exact ⟨0, Nat.zero_le _, rfl, Drawn.refl _⟩
              case round =>
                obtain ⟨k, hk, rfl, HD⟩ := hrel
                by_cases hlt : k < n
                · have hlt3' : (k : Int) < (n : Int) := by omega
                  obtain ⟨b, off, x, rfl, hcx, HX⟩ := (HA.out.below (HI14.out.bags.below.trans (HD.out.below _)) (Nat.le_refl _)).ints (k := k) (by rw [HAL.out]; exact hlt)
                  have hxl := List.mem_of_getElem? HX.out
                  obtain ⟨b1, hb1⟩ : ∃ b1, b1 = hasL zB x := ⟨_, rfl⟩
                  have HX2 := Lib.hid hb1.symm
                  have HX1 : Hid (hasL zD x = !b1) := by
                    show _ = _
                    rw [hb1, Bool.eq_iff_iff, hasL_iff, HDm.out]
                    simp only [Bool.not_eq_true']
                    constructor
                    · rintro ⟨h1, h2⟩; exact hasL_false (fun h => h2 ((HBm.out x).1 h))
                    · intro h; exact ⟨Or.inl hxl, fun h2 => by rw [hasL_true ((HBm.out x).2 h2)] at h; cases h⟩
                  clear HX hxl hb1
                  go_wp2_with fail
                  refine (hasY 0 x _ (HI14.out.read (HD.out.below _)) rfl (by have := HDl.out; omega)).mono ?_
                  rintro e w15 ⟨rfl, hd⟩
                  rw [HX1.out]
                  have HD2 := Lib.hid (HD.out.trans hd)
                  clear hd
                  go_wp2_with fail
                  refine (hasY 1 x _ (HI14.out.read (HD2.out.below _)) rfl (by have := HBl.out; omega)).mono ?_
                  rintro e w16 ⟨rfl, hd⟩
                  rw [HX2.out]
                  have HD3 := Lib.hid (HD2.out.trans hd)
                  clear hd HD HD2
                  cases b1
                  · go_wp2_with fail
                    go_roundw
                    case rel => exact ⟨k + 1, by omega, by go_num, HD3⟩
                    case measure => simp [intOf]; omega
                  · go_wp2_with fail
                    go_roundw
                    case rel => exact ⟨k + 1, by omega, by go_num, HD3⟩
                    case measure => simp [intOf]; omega
                · have hlt3' : ¬ ((k : Int) < (n : Int)) := by omega
                  have HI15 := Lib.hid (HI14.out.read (HD.out.below _))
                  have HW15 := Lib.hid (ownsRow_below HW14.out (HD.out.below _))
                  have HZR := Lib.hid (HI15.out.bags.rises (i := 1) rfl)
                  have HJB : Hid (setL (zB ++ zB) = zB) := rises_eq (setL_rises _) HZR.out (fun y => by rw [mem_setL, List.mem_append]; exact ⟨fun h => h.elim id id, Or.inl⟩)
                  have HLB : Hid (lessL zB zB = []) := by
                    show _ = _
                    cases h : lessL zB zB with
                    | nil => rfl
                    | cons y t => have := (mem_lessL.1 (show y ∈ lessL zB zB by rw [h]; simp)); exact absurd this.1 this.2
                  have hm9 : bl ≤ 9223372036854775807 := by omega
                  clear HI14 HW14 HD hlt hk
                  go_wp2_with fail
                  refine (allY 1 _ HI15.out rfl (by have := HBl.out; omega)).mono ?_
                  rintro e w17 ⟨a17, c17, rfl, ho17, hb⟩
                  rw [HBL.out] at ho17 ⊢
                  have HI17 := Lib.hid (HI15.out.read hb)
                  have HW17 := Lib.hid (ownsRow_below HW15.out hb)
                  have HQ17 := Lib.hid (ownsRow_seq' ho17)
                  clear ho17 hb HI15 HW15
                  go_wp2_with fail
                  refine (same_self _ _ _ _ _ _ _ HQ17.out (ownsRow_seq' HW17.out) HBL.out hm9).mono ?_
                  rintro e w18 ⟨rfl, hd⟩
                  have HI18 := Lib.hid (HI17.out.read (hd.below _))
                  have HW18 := Lib.hid (ownsRow_below HW17.out (hd.below _))
                  clear hd HI17 HW17 HQ17
                  go_wp2_with fail
                  refine (joinY 1 1 _ HI18.out rfl rfl (by have := HBl.out; omega) (by have := HBl.out; omega) (by decide)).mono ?_
                  rintro e w19 ⟨rfl, hi1, hk⟩
                  have HI19 : Hid (BagsY w w19 [(ga, zD), (gb, zB)] (fun k => (Value.slice a7 bl c7).ownBlock = some k)) := by rw [HJB.out] at hi1; exact hi1
                  have HW19 := HY _ _ HW18 hk
                  clear hi1 hk HI18 HW18
                  go_wp2_with fail
                  refine (allY 1 _ HI19.out rfl (by have := HBl.out; omega)).mono ?_
                  rintro e w20 ⟨a20, c20, rfl, ho20, hb⟩
                  rw [HBL.out] at ho20 ⊢
                  have HI20 := Lib.hid (HI19.out.read hb)
                  have HW20 := Lib.hid (ownsRow_below HW19.out hb)
                  have HQ20 := Lib.hid (ownsRow_seq' ho20)
                  clear ho20 hb HI19 HW19
                  go_wp2_with fail
                  refine (same_self _ _ _ _ _ _ _ HQ20.out (ownsRow_seq' HW20.out) HBL.out hm9).mono ?_
                  rintro e w21 ⟨rfl, hd⟩
                  have HI21 := Lib.hid (HI20.out.read (hd.below _))
                  clear hd HI20 HW20 HQ20
                  go_wp2_with fail
                  refine (lessY 1 1 _ HI21.out rfl rfl (by have := HBl.out; omega) (by have := HBl.out; omega) (by decide)).mono ?_
                  rintro e w22 ⟨rfl, hi1, hk⟩
                  have HI22 : Hid (BagsY w w22 [(ga, zD), (gb, [])] (fun k => (Value.slice a7 bl c7).ownBlock = some k)) := by rw [HLB.out] at hi1; exact hi1
                  clear hi1 hk HI21
                  go_wp2_with fail
                  refine (lenY 1 _ HI22.out rfl).mono ?_
                  rintro e w23 ⟨rfl, rfl⟩
                  go_wp2_with fail
                  refine (allY 1 _ HI22.out rfl (by decide)).mono ?_
                  rintro e w24 ⟨a24, c24, rfl, ho24, hb⟩
                  have HI24 := Lib.hid (HI22.out.read hb)
                  clear ho24 hb HI22
                  go_wp2_with fail
                  go_ret
                  exact ⟨rfl, HI24.out.bags.below⟩
end Go.Proofs.Ythfdigjbmoconaa
