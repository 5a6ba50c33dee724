/-
  Package tree: the walks of Add and Merge.
-/
import Derived.Test.YtaljeadagiifnaaTree2
set_option linter.unusedSimpArgs false
set_option linter.unusedVariables false
namespace Go.Tr
def TS.addE (S : TS) (p : Int) : Int := if p ≠ 0 ∧ S.has p = false then 6 else if S.tab.length = 64 then 5 else 0
def TS.addX (S : TS) (p : Int) : Int := if S.addE p = 0 then S.last + 1 else 0
def TS.addS (S : TS) (p : Int) : TS := if S.addE p = 0 then S.add p else S
def TS.mergeE (S : TS) (id : Int) : Int := if S.has id = true then (if S.par id = 0 then 16 else 0) else 6
def TS.mergeS (S : TS) (id : Int) : TS := if S.has id = true ∧ S.par id ≠ 0 then S.merge id (S.par id) else S
theorem TS.WF.addS {S : TS} (h : S.WF) (p : Int) : (S.addS p).WF := by
  unfold TS.addS
  by_cases h0 : S.addE p = 0
  · rw [if_pos h0]
    unfold TS.addE at h0
    by_cases h1 : p ≠ 0 ∧ S.has p = false
    · rw [if_pos h1] at h0; omega
    · rw [if_neg h1] at h0
      by_cases h2 : S.tab.length = 64
      · rw [if_pos h2] at h0; omega
      · have := h.size
        refine h.add ?_ (by omega)
        by_cases hp : p = 0
        · exact Or.inl hp
        · refine Or.inr ?_
          cases hh : S.has p
          · exact absurd ⟨hp, hh⟩ h1
          · rfl
  · rw [if_neg h0]; exact h
theorem TS.WF.mergeS {S : TS} (h : S.WF) (id : Int) : (S.mergeS id).WF := by
  unfold TS.mergeS
  by_cases h0 : S.has id = true ∧ S.par id ≠ 0
  · rw [if_pos h0]
    obtain ⟨p, hp⟩ := hasA_some.1 h0.1
    have hpp : S.par id = p := by unfold TS.par; rw [hp]; rfl
    rw [hpp]
    exact h.merge hp (by rw [← hpp]; exact h0.2)
  · rw [if_neg h0]; exact h
theorem last_addS (S : TS) (p : Int) : S.last ≤ (S.addS p).last ∧ (S.addS p).last ≤ S.last + 1 := by
  unfold TS.addS; split
  · show S.last ≤ S.last + 1 ∧ S.last + 1 ≤ S.last + 1; omega
  · omega
theorem last_mergeS (S : TS) (id : Int) : (S.mergeS id).last = S.last := by unfold TS.mergeS; split <;> rfl
theorem keys_wf {S : TS} (h : S.WF) (hl : S.last ≤ 1000000) : ∀ x ∈ keysA (mapA iv S.tab), (Lit.int .i64 x).wf = true := by
  intro x hx
  rw [keysA_mapA, ← hasA_iff] at hx
  have := h.pos hx
  have h1 : IntKind.i64.min = -9223372036854775808 := rfl
  have h2 : IntKind.i64.max = 9223372036854775807 := rfl
  show (decide (IntKind.i64.min ≤ x) && decide (x ≤ IntKind.i64.max)) = true
  rw [h1, h2, Bool.and_eq_true]
  exact ⟨decide_eq_true (by omega), decide_eq_true (by omega)⟩
end Go.Tr
namespace Go.Proofs.Ytaljeadagiifnaa
open Go.RowKit Go.Tr
variable {g bm : Nat} {S : TS}
theorem tblock_set {w : World} {cs : Array Value} {T : TypeId} (h : w.heap[g]? = some (.cells cs T (0, 0))) (j : Nat) (v : Value) : (w.setCell ⟨g, j, none⟩ v).heap[g]? = some (.cells (cs.setIfInBounds j v) T (0, 0)) := by
  simp [World.setCell, Array.getElem?_modify, h]

set_option maxRecDepth 100000 in
set_option maxHeartbeats 1000000 in
theorem tadd_any (p : Int) (w : World) (h : TreeAt w g bm S) (hS : S.WF) (hl : S.last ≤ 1000000) :
    Calls Try.prog 16 #[.pointer (some ⟨g, 0, none⟩), .int .i64 p] w fun e w' => e = .returned (.tuple #[.int .i64 (S.addX p), .int .i64 (S.addE p)]) ∧ TreeAt w' g bm (S.addS p) ∧ Only (Fp g bm) w w' := by
  obtain ⟨⟨c0, f0⟩, c1, f1⟩ := h.cells
  have HT := Lib.hid h
  have HM := Lib.hid h.2.2
  have HLV := Lib.hid (tlive_any p w h)
  have HLN := Lib.hid (length_mapA iv S.tab)
  have hl0 := hS.last0
  clear h hS
  by_cases h1 : p ≠ 0 ∧ S.has p = false
  · have HE : Hid (S.addE p = 6) := by show _ = _; unfold TS.addE; rw [if_pos h1]
    have HX : Hid (S.addX p = 0) := by show _ = _; unfold TS.addX; rw [HE.out]; rfl
    have HSS : Hid (S.addS p = S) := by show _ = _; unfold TS.addS; rw [HE.out]; rfl
    have hp0 : (p == 0) = false := by simpa using h1.1
    have hp1 : (p != 0) = true := by simpa using h1.1
    have HP := Lib.hid h1.2
    clear h1
    go_enter Try.func16, Try.ntmps16
    go_wp2_with fail
    refine HLV.out.mono ?_
    rintro e w' ⟨rfl, rfl⟩
    rw [HP.out]
    go_wp2
    go_ret2
    rw [HSS.out]
    exact ⟨by rw [HX.out, HE.out]; rfl, HT.out, Only.refl _ _⟩
  · by_cases h2 : S.tab.length = 64
    · have HE : Hid (S.addE p = 5) := by show _ = _; unfold TS.addE; rw [if_neg h1, if_pos h2]
      have HX : Hid (S.addX p = 0) := by show _ = _; unfold TS.addX; rw [HE.out]; rfl
      have HSS : Hid (S.addS p = S) := by show _ = _; unfold TS.addS; rw [HE.out]; rfl
      have HL := Lib.hid h2
      clear h2
      by_cases hp : p = 0
      · subst hp
        clear h1
        go_enter Try.func16, Try.ntmps16
        go_wp2_with (first
          | (refine wpList_lenI _ rfl (.tmp 22) 50 rfl 3 3 Try.underlying50 bm _ rfl HM.out ?_; rw [HLN.out, HL.out])
          | fail)
        go_wp2
        go_ret2
        rw [HSS.out]
        exact ⟨by rw [HX.out, HE.out]; rfl, HT.out, Only.refl _ _⟩
      · have HP : Hid (S.has p = true) := by
          show _ = _
          cases hh : S.has p
          · exact absurd ⟨hp, hh⟩ h1
          · rfl
        have hp0 : (p == 0) = false := by simpa using hp
        have hp1 : (p != 0) = true := by simpa using hp
        clear h1 hp
        go_enter Try.func16, Try.ntmps16
        go_wp2_with fail
        refine HLV.out.mono ?_
        rintro e w' ⟨rfl, rfl⟩
        rw [HP.out]
        go_wp2_with (first
          | (refine wpList_lenI _ rfl (.tmp 22) 50 rfl 3 3 Try.underlying50 bm _ rfl HM.out ?_; rw [HLN.out, HL.out])
          | fail)
        go_wp2
        go_ret2
        rw [HSS.out]
        exact ⟨by rw [HX.out, HE.out]; rfl, HT.out, Only.refl _ _⟩
    · have HE : Hid (S.addE p = 0) := by show _ = _; unfold TS.addE; rw [if_neg h1, if_neg h2]
      have HX : Hid (S.addX p = S.last + 1) := by show _ = _; unfold TS.addX; rw [if_pos HE.out]
      have HSS : Hid (S.addS p = S.add p) := by show _ = _; unfold TS.addS; rw [if_pos HE.out]
      obtain ⟨ln, hln⟩ : ∃ ln, ln = S.tab.length := ⟨_, rfl⟩
      rw [← hln] at h2 HLN
      clear hln
      have hne : ((ln : Int) == 64) = false := by simp; omega
      have hfin : ∀ w1 w2, w1 = w.setCell ⟨g, 1, none⟩ (.int .i64 (S.last + 1)) → MapI w2 bm (putA (mapA iv S.tab) (S.last + 1) (.int .i64 p)) → (w1.drew).grownBy w2 (some bm) → TreeAt w2 g bm (S.add p) ∧ Only (Fp g bm) w w2 := by
        intro w1 w2 hw1 hm hg
        have hb1 : w1.heap[g]? = some (.cells #[.map (some bm), .int .i64 (S.last + 1)] 52 (0, 0)) := by rw [hw1]; exact tblock_set HT.out.1 1 _
        have hs1 : w1.heap.size = w.heap.size := by rw [hw1]; simp [World.setCell]
        have ho1 : Only (Fp g bm) w w1 := by rw [hw1]; exact (Only.refl _ w).setCell (Or.inl (Or.inl rfl)) _
        refine ⟨⟨(hg.block g (by show g < w1.heap.size; rw [hs1]; exact HT.out.lt.1) (by simp; exact fun e => HT.out.2.1 e.symm)).trans hb1, HT.out.2.1, ?_⟩, ho1.drew.grown hg (fun j hj => by cases hj; exact Or.inl (Or.inr rfl))⟩
        have := hm
        rw [show (Value.int .i64 p) = iv p from rfl, putA_mapA] at this
        exact this
      have HF := Lib.hid hfin
      clear hfin
      by_cases hp : p = 0
      · subst hp
        clear h1
        go_enter Try.func16, Try.ntmps16
        go_wp2_with (first
          | (refine wpList_lenI _ rfl (.tmp 22) 50 rfl 3 3 Try.underlying50 bm _ rfl HM.out ?_; rw [HLN.out])
          | fail)
        generalize hw1 : w.setCell ⟨g, 1, none⟩ (.int .i64 (S.last + 1)) = w1
        have hb1 : w1.heap[g]? = some (.cells #[.map (some bm), .int .i64 (S.last + 1)] 52 (0, 0)) := by rw [← hw1]; exact tblock_set HT.out.1 1 _
        have HM1 : Hid (MapI w1 bm (mapA iv S.tab)) := by rw [← hw1]; exact HM.out.kept (Below.heap_setCell _ _ _ _ HT.out.2.1)
        have HW1 := Lib.hid hw1
        clear hw1 c0 c1 f0 f1
        have d0 : w1.cell? ⟨g, 0, none⟩ = some (.map (some bm)) := cell_of_row w1 g 0 _ _ (0, 0) hb1
        have d1 : w1.cell? ⟨g, 1, none⟩ = some (.int .i64 (S.last + 1)) := cell_of_row w1 g 1 _ _ (0, 0) hb1
        clear hb1
        go_still_tail 9, (by kernel_rfl)
        refine wpList_putI _ rfl (.tmp 35) (.tmp 39) (.tmp 40) 50 rfl 3 3 Try.underlying50 Try.underlying3 bm _ rfl HM1.out (S.last + 1) rfl _ rfl ?_
        intro w2 hm2 hg2 hs2
        obtain ⟨ht2, ho2⟩ := HF.out _ w2 HW1.out.symm hm2 hg2
        have HT2 := Lib.hid ht2
        have HO2 := Lib.hid ho2
        clear ht2 ho2 hm2 hg2 hs2 d0 d1
        obtain ⟨⟨c0, f0⟩, c1, f1⟩ := HT2.out.cells
        have c1' : w2.cell? ⟨g, 1, none⟩ = some (.int .i64 (S.last + 1)) := c1
        clear c1
        go_wp2
        go_ret2
        rw [HSS.out]
        exact ⟨by rw [HX.out, HE.out]; rfl, HT2.out, HO2.out⟩
      · have HP : Hid (S.has p = true) := by
          show _ = _
          cases hh : S.has p
          · exact absurd ⟨hp, hh⟩ h1
          · rfl
        have hp0 : (p == 0) = false := by simpa using hp
        have hp1 : (p != 0) = true := by simpa using hp
        clear h1 hp
        go_enter Try.func16, Try.ntmps16
        go_wp2_with fail
        refine HLV.out.mono ?_
        rintro e w' ⟨rfl, rfl⟩
        rw [HP.out]
        go_wp2_with (first
          | (refine wpList_lenI _ rfl (.tmp 22) 50 rfl 3 3 Try.underlying50 bm _ rfl HM.out ?_; rw [HLN.out])
          | fail)
        generalize hw1 : w.setCell ⟨g, 1, none⟩ (.int .i64 (S.last + 1)) = w1
        have hb1 : w1.heap[g]? = some (.cells #[.map (some bm), .int .i64 (S.last + 1)] 52 (0, 0)) := by rw [← hw1]; exact tblock_set HT.out.1 1 _
        have HM1 : Hid (MapI w1 bm (mapA iv S.tab)) := by rw [← hw1]; exact HM.out.kept (Below.heap_setCell _ _ _ _ HT.out.2.1)
        have HW1 := Lib.hid hw1
        clear hw1 c0 c1 f0 f1
        have d0 : w1.cell? ⟨g, 0, none⟩ = some (.map (some bm)) := cell_of_row w1 g 0 _ _ (0, 0) hb1
        have d1 : w1.cell? ⟨g, 1, none⟩ = some (.int .i64 (S.last + 1)) := cell_of_row w1 g 1 _ _ (0, 0) hb1
        clear hb1
        go_still_tail 9, (by kernel_rfl)
        refine wpList_putI _ rfl (.tmp 35) (.tmp 39) (.tmp 40) 50 rfl 3 3 Try.underlying50 Try.underlying3 bm _ rfl HM1.out (S.last + 1) rfl _ rfl ?_
        intro w2 hm2 hg2 hs2
        obtain ⟨ht2, ho2⟩ := HF.out _ w2 HW1.out.symm hm2 hg2
        have HT2 := Lib.hid ht2
        have HO2 := Lib.hid ho2
        clear ht2 ho2 hm2 hg2 hs2 d0 d1
        obtain ⟨⟨c0, f0⟩, c1, f1⟩ := HT2.out.cells
        have c1' : w2.cell? ⟨g, 1, none⟩ = some (.int .i64 (S.last + 1)) := c1
        clear c1
        go_wp2
        go_ret2
        rw [HSS.out]
        exact ⟨by rw [HX.out, HE.out]; rfl, HT2.out, HO2.out⟩

set_option maxRecDepth 100000 in
set_option maxHeartbeats 1000000 in
theorem tmerge_any (id : Int) (w : World) (h : TreeAt w g bm S) (hS : S.WF) (hl : S.last ≤ 1000000) :
    Calls Try.prog 14 #[.pointer (some ⟨g, 0, none⟩), .int .i64 id] w fun e w' => e = .returned (.tuple #[.int .i64 (S.par id), .int .i64 (S.mergeE id)]) ∧ TreeAt w' g bm (S.mergeS id) ∧ Only (Fp g bm) w w' := by
  obtain ⟨⟨c0, f0⟩, c1, f1⟩ := h.cells
  have HT := Lib.hid h
  have HPA := Lib.hid (tparent_any id w h)
  clear h
  by_cases h1 : S.has id = true
  · have HNE : Hid (TS.needE S id = 0) := by show _ = _; unfold TS.needE; rw [if_pos h1]
    by_cases h2 : S.par id = 0
    · have HE : Hid (S.mergeE id = 16) := by show _ = _; unfold TS.mergeE; rw [if_pos h1, if_pos h2]
      have HSS : Hid (S.mergeS id = S) := by show _ = _; unfold TS.mergeS; rw [if_neg (fun h => h.2 h2)]
      have HP := Lib.hid h2
      clear h1 h2
      go_enter Try.func14, Try.ntmps14
      go_wp2_with fail
      refine HPA.out.mono ?_
      rintro e w' ⟨rfl, rfl⟩
      rw [HP.out, HNE.out]
      go_wp2
      go_ret2
      rw [HSS.out]
      exact ⟨by rw [HE.out, HP.out]; rfl, HT.out, Only.refl _ _⟩
    · have HE : Hid (S.mergeE id = 0) := by show _ = _; unfold TS.mergeE; rw [if_pos h1, if_neg h2]
      have HSS : Hid (S.mergeS id = S.merge id (S.par id)) := by show _ = _; unfold TS.mergeS; rw [if_pos ⟨h1, h2⟩]
      obtain ⟨p, hp⟩ : ∃ p, p = S.par id := ⟨_, rfl⟩
      rw [← hp] at h2 HSS HPA
      have HPP := Lib.hid hp
      have hne : (p == 0) = false := by simpa using h2
      have HWF := Lib.hid hS.nodup
      have hsz := hS.size
      have HMM := Lib.hid (collect_call HT.out.2.2 (keys_wf hS hl) (by rw [length_mapA]; omega))
      clear h1 h2 hp hS
      go_enter Try.func14, Try.ntmps14
      go_wp2_with fail
      refine HPA.out.mono ?_
      rintro e w' ⟨rfl, rfl⟩
      rw [HNE.out]
      go_wp2_with fail
      refine (keys_call (some bm) _).mono ?_
      rintro e w' ⟨rfl, rfl⟩
      go_wp2_with fail
      refine HMM.out.mono ?_
      rintro e w1 ⟨v, ss, rfl, hss, ho, hb⟩
      rw [keysA_mapA] at hss
      have HB1 : Hid (Below w.heap.size w w1) := ((Below.refl _ w).alloc (Nat.le_refl _) _).trans (hb.mono (by omega))
      have HSN : Hid ss.Nodup := hss.nodup_iff.2 HWF.out
      have HSM : Hid (∀ x, x ∈ ss ↔ x ∈ keysA S.tab) := fun x => hss.mem_iff
      have hsl : ss.length ≤ 64 := by rw [hss.length_eq]; simpa [keysA] using hsz
      obtain ⟨n, hn⟩ : ∃ n, n = ss.length := ⟨_, rfl⟩
      have HV1 : Hid (w1.ownsRow (w.heap.size + 1) 3 1 v n (ints ss)) := by rw [hn]; exact ho
      rw [← hn] at hsl
      have HN := Lib.hid hn.symm
      have HLT := Lib.hid HT.out.lt
      have HT1 := Lib.hid (HT.out.below HB1.out)
      obtain ⟨oa, oc, rfl, -, -, -⟩ := ownsRow_seq HV1.out
      have HM1 : Hid (MapI w1 bm (mapA iv (mergeK S.tab id p (ss.take 0)))) := by rw [List.take_zero, mergeK_nil]; exact HT1.out.2.2
      have HG1 : Hid (w1.heap[g]? = some (.cells #[.map (some bm), .int .i64 S.last] 52 (0, 0))) := HT1.out.1
      have HBG := Lib.hid HT.out.2.1
      have HO1 : Hid (Only (Fp g bm) w w1) := Only.of_below HB1.out _
      clear ho hb hss hn HMM HPA HT1 c0 c1 f0 f1 HB1
      go_wp2_with fail
      go_loopw [30] (fun iv0 wr => ∃ k : Nat, k ≤ n ∧ iv0 = .int .i64 k ∧ Hid (wr.ownsRow (w.heap.size + 1) 3 1 (.slice oa n oc) n (ints ss)) ∧ Hid (MapI wr bm (mapA iv (mergeK S.tab id p (ss.take k)))) ∧ Hid (wr.heap[g]? = some (.cells #[.map (some bm), .int .i64 S.last] 52 (0, 0))) ∧ Hid (Only (Fp g bm) w wr)) (fun iv0 _ => n - (intOf iv0).toNat)
      case atStart => exact ⟨0, Nat.zero_le _, rfl, HV1, HM1, HG1, HO1⟩
      case round =>
        clear HV1 HM1 HG1 HO1
        obtain ⟨k, hk, rfl, HV, HM, HG, HO⟩ := hrel
        have c0 : wr.cell? ⟨g, 0, none⟩ = some (.map (some bm)) := cell_of_row wr g 0 _ _ (0, 0) HG.out
        by_cases hlt : k < n
        · obtain ⟨oa', oc', e, hso, -, -⟩ := ownsRow_seq HV.out
          cases e
          obtain ⟨b, off, x, hoa, hc, HX⟩ := hso.ints (k := k) (by rw [HN.out]; exact hlt)
          subst hoa
          clear hso
          obtain ⟨pv, hlk, hy, hno⟩ := mergeK_step (id := id) (p := p) HWF.out HX.out HSN.out ((HSM.out x).1 (List.mem_of_getElem? HX.out))
          have HLK : Hid ((lookA (mapA iv (mergeK S.tab id p (ss.take k))) x).getD (.int .i64 0) = .int .i64 pv) := by show _ = _; rw [lookA_mapA, hlk]; rfl
          have HY := Lib.hid hy
          have HNO := Lib.hid hno
          clear hlk hy hno
          by_cases hq : pv = id
          · subst hq
            have HK2 := Lib.hid (HY.out rfl)
            clear HY HNO
            go_wp2_with (first
              | (refine wpList_lookI _ rfl (.tmp 37) (.tmp 38) 50 rfl 3 3 Try.underlying50 Try.underlying3 _ Try.zeroValue3 bm _ rfl HM.out x rfl ?_; rw [HLK.out])
              | (refine wpList_putI _ rfl (.tmp 45) (.tmp 46) (.tmp 47) 50 rfl 3 3 Try.underlying50 Try.underlying3 bm _ rfl HM.out x rfl (.int .i64 p) rfl ?_
                 intro w2 hm2 hg2 hs2
                 have HM2 : Hid (MapI w2 bm (mapA iv (mergeK S.tab pv p (ss.take (k + 1))))) := by
                   have := hm2
                   rw [show (Value.int .i64 p) = iv p from rfl, putA_mapA] at this
                   rw [HK2.out]; exact this
                 have HG2 : Hid (w2.heap[g]? = some (.cells #[.map (some bm), .int .i64 S.last] 52 (0, 0))) := (hg2.block g (Array.getElem?_eq_some_iff.1 HG.out).1 (by simp; exact fun e => HBG.out e.symm)).trans HG.out
                 have HO2 : Hid (Only (Fp g bm) w w2) := HO.out.grown hg2 (fun j hj => by cases hj; exact Or.inl (Or.inr rfl))
                 have HV2 : Hid (w2.ownsRow (w.heap.size + 1) 3 1 (.slice (some ⟨b, off, none⟩) n oc) n (ints ss)) := ownsRow_kept HV.out (fun j hj => hg2.block j (HV.out.lt j hj).2 (by simp; intro e; have := (HV.out.lt j hj).1; have := HLT.out.2; omega))
                 clear hm2 hg2 hs2)
              | fail)
            go_wp2
            go_roundw
            case rel => exact ⟨k + 1, by omega, by go_num, HV2, HM2, HG2, HO2⟩
            case measure => simp [intOf]; omega
          · have hqf : (pv == id) = false := by simpa using hq
            have HK2 := Lib.hid (HNO.out hq)
            have HM2 : Hid (MapI wr bm (mapA iv (mergeK S.tab id p (ss.take (k + 1))))) := by rw [HK2.out]; exact HM.out
            clear HY HNO hq
            go_wp2_with (first
              | (refine wpList_lookI _ rfl (.tmp 37) (.tmp 38) 50 rfl 3 3 Try.underlying50 Try.underlying3 _ Try.zeroValue3 bm _ rfl HM.out x rfl ?_; rw [HLK.out])
              | fail)
            go_wp2
            go_roundw
            case rel => exact ⟨k + 1, by omega, by go_num, HV, HM2, HG, HO⟩
            case measure => simp [intOf]; omega
        · have HE2 : Hid (ss.take k = ss) := List.take_of_length_le (by rw [HN.out]; omega)
          have HM2 : Hid (MapI wr bm (mapA iv (mapA (fun v => if v = id then p else v) S.tab))) := by
            have := HM.out
            rw [HE2.out, mergeK_all (fun x hx => (HSM.out x).2 hx)] at this
            exact this
          clear HM HE2
          go_wp2_with (first
            | (refine wpList_delI _ rfl (.tmp 52) (.tmp 53) 50 3 rfl 3 Try.underlying50 Try.underlying3 bm _ rfl HM2.out id rfl ?_
               intro w2 hm2 hg2 hs2
               have HT2 : Hid (TreeAt w2 g bm (S.merge id p)) := by
                 refine ⟨(hg2.block g (Array.getElem?_eq_some_iff.1 HG.out).1 (by simp; exact fun e => HBG.out e.symm)).trans HG.out, HBG.out, ?_⟩
                 have := hm2
                 rw [delA_mapA] at this
                 exact this
               have HO2 : Hid (Only (Fp g bm) w w2) := HO.out.grown hg2 (fun j hj => by cases hj; exact Or.inl (Or.inr rfl))
               clear hm2 hg2 hs2)
            | fail)
          go_wp2
          go_ret2
          rw [HSS.out]
          exact ⟨by rw [HE.out, ← HPP.out]; rfl, HT2.out, HO2.out⟩
  · have HE : Hid (S.mergeE id = 6) := by show _ = _; unfold TS.mergeE; rw [if_neg h1]
    have HNE : Hid (TS.needE S id = 6) := by show _ = _; unfold TS.needE; rw [if_neg h1]
    have HSS : Hid (S.mergeS id = S) := by show _ = _; unfold TS.mergeS; rw [if_neg (fun h => h1 h.1)]
    have HP : Hid (S.par id = 0) := par_dead (by simpa using h1)
    clear h1
    go_enter Try.func14, Try.ntmps14
    go_wp2_with fail
    refine HPA.out.mono ?_
    rintro e w' ⟨rfl, rfl⟩
    rw [HP.out, HNE.out]
    go_wp2
    go_ret2
    rw [HSS.out]
    exact ⟨by rw [HE.out, HP.out]; rfl, HT.out, Only.refl _ _⟩
end Go.Proofs.Ytaljeadagiifnaa
