/-
  Parts of the proof, one behind the other: KTree, KIter2, KField, KField2.
-/
import Derived.StillTailTactics
import Derived.Lib.ItoaNum
import Derived.Sort.EveryDepth
import Derived.Test.YtcdpnfchmpncjaaGreatDoorMa15
set_option linter.unusedSimpArgs false
set_option linter.unusedVariables false
namespace Go.Proofs.YtcdpnfchmpncjaaGreatDoor
open Go.RowKit Go.Tr
def TreeAt (w : World) (g bm : Nat) (S : TS) : Prop := w.heap[g]? = some (.cells #[.map (some bm), .int .i64 S.last] 104 (0, 0)) ∧ bm ≠ g ∧ MapI w bm (mapA iv S.tab)
def Fp (g bm : Nat) : Nat → Prop := fun k => k = g ∨ k = bm
theorem TreeAt.lt {w : World} {g bm : Nat} {S : TS} (h : TreeAt w g bm S) : g < w.heap.size ∧ bm < w.heap.size := ⟨(Array.getElem?_eq_some_iff.1 h.1).1, h.2.2.lt⟩
theorem TreeAt.kept {w w' : World} {g bm : Nat} {S : TS} (h : TreeAt w g bm S) (hg : w'.heap[g]? = w.heap[g]?) (hb : w'.heap[bm]? = w.heap[bm]?) : TreeAt w' g bm S := ⟨hg.trans h.1, h.2.1, h.2.2.kept hb⟩
theorem TreeAt.below {w w' : World} {g bm : Nat} {S : TS} (h : TreeAt w g bm S) (hb : Below w.heap.size w w') : TreeAt w' g bm S := h.kept (hb.block _ h.lt.1) (hb.block _ h.lt.2)
theorem TreeAt.only {G : Nat → Prop} {w w' : World} {g bm : Nat} {S : TS} (h : TreeAt w g bm S) (ho : Only G w w') (h1 : ¬ G g) (h2 : ¬ G bm) : TreeAt w' g bm S := h.kept (ho.block _ h.lt.1 h1) (ho.block _ h.lt.2 h2)
theorem TreeAt.cells {w : World} {g bm : Nat} {S : TS} (h : TreeAt w g bm S) : (w.cell? ⟨g, 0, none⟩ = some (.map (some bm)) ∧ w.frozen? ⟨g, 0, none⟩ = false) ∧ w.cell? ⟨g, 1, none⟩ = some (.int .i64 S.last) ∧ w.frozen? ⟨g, 1, none⟩ = false :=
  ⟨⟨cell_of_row w g 0 _ _ (0, 0) h.1, by simp [World.frozen?, h.1]⟩, cell_of_row w g 1 _ _ (0, 0) h.1, by simp [World.frozen?, h.1]⟩
theorem look_par (S : TS) (x : Int) : (lookA (mapA iv S.tab) x).getD (.int .i64 0) = .int .i64 (S.par x) := by rw [lookA_mapA]; unfold TS.par; cases lookA S.tab x <;> rfl
theorem has_map (S : TS) (x : Int) : hasA (mapA iv S.tab) x = S.has x := hasA_mapA _ _ _
theorem qnew_any (w : World) : Calls Tryz.prog 77 #[] w fun e w' => ∃ g bm, e = .returned (.pointer (some ⟨g, 0, none⟩)) ∧ TreeAt w' g bm TS.new ∧ Below w.heap.size w w' ∧ w.heap.size ≤ g ∧ w.heap.size ≤ bm := by
  go_enter Tryz.func77, Tryz.ntmps77
  have hmm := @run_makeMap Tryz.prog
  go_wp2
  go_ret
  refine ⟨w.heap.size + 1, w.heap.size, rfl, ⟨?_, by omega, ?_⟩, ((Below.refl _ w).alloc (Nat.le_refl _) _).alloc (by simp) _, by omega, Nat.le_refl _⟩
  · have := heap_alloc_new (w.alloc (.map #[] 0)) (.cells #[.map (some w.heap.size), .int .i64 0] 104)
    simpa [TS.new] using this
  · exact (MapI.made w).kept (Below.heap_alloc _ _ _ (by simp))
variable {g bm : Nat} {S : TS}
set_option maxRecDepth 100000 in
theorem qlive_any (x : Int) (w : World) (h : TreeAt w g bm S) : Calls Tryz.prog 53 #[.pointer (some ⟨g, 0, none⟩), .int .i64 x] w fun e w' => e = .returned (.bool (S.has x)) ∧ w = w' := by
  obtain ⟨⟨c0, f0⟩, c1, f1⟩ := h.cells
  have HM := Lib.hid h.2.2
  have HL := Lib.hid (look_par S x)
  have HH := Lib.hid (has_map S x)
  clear h
  go_enter Tryz.func53, Tryz.ntmps53
  go_wp2_with (first
    | (refine wpList_lookI_ok _ rfl (.tmp 13) (.tmp 14) 102 rfl 3 3 Tryz.underlying102 Tryz.underlying3 _ Tryz.zeroValue3 bm _ rfl HM.out x rfl ?_; rw [HL.out, HH.out])
    | fail)
  go_wp2
  go_ret
  exact ⟨rfl, rfl⟩
set_option maxRecDepth 100000 in
theorem qlen_any (w : World) (h : TreeAt w g bm S) : Calls Tryz.prog 16 #[.pointer (some ⟨g, 0, none⟩)] w fun e w' => e = .returned (.int .i64 S.tab.length) ∧ w = w' := by
  obtain ⟨⟨c0, f0⟩, c1, f1⟩ := h.cells
  have HM := Lib.hid h.2.2
  have HL := Lib.hid (length_mapA iv S.tab)
  clear h
  go_enter Tryz.func16, Tryz.ntmps16
  go_wp2_with (first
    | (refine wpList_lenI _ rfl (.tmp 8) 102 rfl 3 3 Tryz.underlying102 bm _ rfl HM.out ?_; rw [HL.out])
    | fail)
  go_wp2
  go_ret
  exact ⟨rfl, rfl⟩
end Go.Proofs.YtcdpnfchmpncjaaGreatDoor
namespace Go.Tr
def TS.addE (S : TS) (p : Int) : Int := if p ≠ 0 ∧ S.has p = false then 6 else if S.tab.length = 64 then 5 else 0
def TS.addX (S : TS) (p : Int) : Int := if S.addE p = 0 then S.last + 1 else 0
def TS.addS (S : TS) (p : Int) : TS := if S.addE p = 0 then S.add p else S
def TS.mergeE (S : TS) (id : Int) : Int := if S.has id = true then (if S.par id = 0 then 16 else 0) else 6
def TS.mergeS (S : TS) (id : Int) : TS := if S.has id = true ∧ S.par id ≠ 0 then S.merge id (S.par id) else S
theorem TS.WF.addS {S : TS} (h : S.WF) (p : Int) : (S.addS p).WF := by
  unfold TS.addS
  by_cases h0 : S.addE p = 0
  · rw [if_pos h0]
    unfold TS.addE at h0
    by_cases h1 : p ≠ 0 ∧ S.has p = false
    · rw [if_pos h1] at h0; omega
    · rw [if_neg h1] at h0
      by_cases h2 : S.tab.length = 64
      · rw [if_pos h2] at h0; omega
      · have := h.size
        refine h.add ?_ (by omega)
        by_cases hp : p = 0
        · exact Or.inl hp
        · refine Or.inr ?_
          cases hh : S.has p
          · exact absurd ⟨hp, hh⟩ h1
          · rfl
  · rw [if_neg h0]; exact h
theorem TS.WF.mergeS {S : TS} (h : S.WF) (id : Int) : (S.mergeS id).WF := by
  unfold TS.mergeS
  by_cases h0 : S.has id = true ∧ S.par id ≠ 0
  · rw [if_pos h0]
    obtain ⟨p, hp⟩ := hasA_some.1 h0.1
    have hpp : S.par id = p := by unfold TS.par; rw [hp]; rfl
    rw [hpp]
    exact h.merge hp (by rw [← hpp]; exact h0.2)
  · rw [if_neg h0]; exact h
theorem last_addS (S : TS) (p : Int) : S.last ≤ (S.addS p).last ∧ (S.addS p).last ≤ S.last + 1 := by
  unfold TS.addS; split
  · show S.last ≤ S.last + 1 ∧ S.last + 1 ≤ S.last + 1; omega
  · omega
theorem last_mergeS (S : TS) (id : Int) : (S.mergeS id).last = S.last := by unfold TS.mergeS; split <;> rfl
theorem keys_wf {S : TS} (h : S.WF) (hl : S.last ≤ 1000000) : ∀ x ∈ keysA (mapA iv S.tab), (Lit.int .i64 x).wf = true := by
  intro x hx
  rw [keysA_mapA, ← hasA_iff] at hx
  have := h.pos hx
  have h1 : IntKind.i64.min = -9223372036854775808 := rfl
  have h2 : IntKind.i64.max = 9223372036854775807 := rfl
  show (decide (IntKind.i64.min ≤ x) && decide (x ≤ IntKind.i64.max)) = true
  rw [h1, h2, Bool.and_eq_true]
  exact ⟨decide_eq_true (by omega), decide_eq_true (by omega)⟩
end Go.Tr
namespace Go.Proofs.YtcdpnfchmpncjaaGreatDoor
open Go.RowKit Go.Tr
variable {g bm : Nat} {S : TS}
theorem tblock_set {w : World} {cs : Array Value} {T : TypeId} (h : w.heap[g]? = some (.cells cs T (0, 0))) (j : Nat) (v : Value) : (w.setCell ⟨g, j, none⟩ v).heap[g]? = some (.cells (cs.setIfInBounds j v) T (0, 0)) := by
  simp [World.setCell, Array.getElem?_modify, h]
set_option maxRecDepth 100000 in
set_option maxHeartbeats 1000000 in
theorem qadd_any (p : Int) (w : World) (h : TreeAt w g bm S) (hS : S.WF) (hl : S.last ≤ 1000000) :
    Calls Tryz.prog 34 #[.pointer (some ⟨g, 0, none⟩), .int .i64 p] w fun e w' => e = .returned (.tuple #[.int .i64 (S.addX p), .int .i64 (S.addE p)]) ∧ TreeAt w' g bm (S.addS p) ∧ Only (Fp g bm) w w' := by
  obtain ⟨⟨c0, f0⟩, c1, f1⟩ := h.cells
  have HT := Lib.hid h
  have HM := Lib.hid h.2.2
  have HLV := Lib.hid (qlive_any p w h)
  have HLN := Lib.hid (length_mapA iv S.tab)
  have hl0 := hS.last0
  clear h hS
  by_cases h1 : p ≠ 0 ∧ S.has p = false
  · have HE : Hid (S.addE p = 6) := by show _ = _; unfold TS.addE; rw [if_pos h1]
    have HX : Hid (S.addX p = 0) := by show _ = _; unfold TS.addX; rw [HE.out]; rfl
    have HSS : Hid (S.addS p = S) := by show _ = _; unfold TS.addS; rw [HE.out]; rfl
    have hp0 : (p == 0) = false := by simpa using h1.1
    have hp1 : (p != 0) = true := by simpa using h1.1
    have HP := Lib.hid h1.2
    clear h1
    go_enter Tryz.func34, Tryz.ntmps34
    go_wp2_with fail
    refine HLV.out.mono ?_
    rintro e w' ⟨rfl, rfl⟩
    rw [HP.out]
    go_wp2
    go_ret2
    rw [HSS.out]
    exact ⟨by rw [HX.out, HE.out]; rfl, HT.out, Only.refl _ _⟩
  · by_cases h2 : S.tab.length = 64
    · have HE : Hid (S.addE p = 5) := by show _ = _; unfold TS.addE; rw [if_neg h1, if_pos h2]
      have HX : Hid (S.addX p = 0) := by show _ = _; unfold TS.addX; rw [HE.out]; rfl
      have HSS : Hid (S.addS p = S) := by show _ = _; unfold TS.addS; rw [HE.out]; rfl
      have HL := Lib.hid h2
      clear h2
      by_cases hp : p = 0
      · subst hp
        clear h1
        go_enter Tryz.func34, Tryz.ntmps34
        go_wp2_with (first
          | (refine wpList_lenI _ rfl (.tmp 22) 102 rfl 3 3 Tryz.underlying102 bm _ rfl HM.out ?_; rw [HLN.out, HL.out])
          | fail)
        go_wp2
        go_ret2
        rw [HSS.out]
        exact ⟨by rw [HX.out, HE.out]; rfl, HT.out, Only.refl _ _⟩
      · have HP : Hid (S.has p = true) := by
          show _ = _
          cases hh : S.has p
          · exact absurd ⟨hp, hh⟩ h1
          · rfl
        have hp0 : (p == 0) = false := by simpa using hp
        have hp1 : (p != 0) = true := by simpa using hp
        clear h1 hp
        go_enter Tryz.func34, Tryz.ntmps34
        go_wp2_with fail
        refine HLV.out.mono ?_
        rintro e w' ⟨rfl, rfl⟩
        rw [HP.out]
        go_wp2_with (first
          | (refine wpList_lenI _ rfl (.tmp 22) 102 rfl 3 3 Tryz.underlying102 bm _ rfl HM.out ?_; rw [HLN.out, HL.out])
          | fail)
        go_wp2
        go_ret2
        rw [HSS.out]
        exact ⟨by rw [HX.out, HE.out]; rfl, HT.out, Only.refl _ _⟩
    · have HE : Hid (S.addE p = 0) := by show _ = _; unfold TS.addE; rw [if_neg h1, if_neg h2]
      have HX : Hid (S.addX p = S.last + 1) := by show _ = _; unfold TS.addX; rw [if_pos HE.out]
      have HSS : Hid (S.addS p = S.add p) := by show _ = _; unfold TS.addS; rw [if_pos HE.out]
      obtain ⟨ln, hln⟩ : ∃ ln, ln = S.tab.length := ⟨_, rfl⟩
      rw [← hln] at h2 HLN
      clear hln
      have hne : ((ln : Int) == 64) = false := by simp; omega
      have hfin : ∀ w1 w2, w1 = w.setCell ⟨g, 1, none⟩ (.int .i64 (S.last + 1)) → MapI w2 bm (putA (mapA iv S.tab) (S.last + 1) (.int .i64 p)) → (w1.drew).grownBy w2 (some bm) → TreeAt w2 g bm (S.add p) ∧ Only (Fp g bm) w w2 := by
        intro w1 w2 hw1 hm hg
        have hb1 : w1.heap[g]? = some (.cells #[.map (some bm), .int .i64 (S.last + 1)] 104 (0, 0)) := by rw [hw1]; exact tblock_set HT.out.1 1 _
        have hs1 : w1.heap.size = w.heap.size := by rw [hw1]; simp [World.setCell]
        have ho1 : Only (Fp g bm) w w1 := by rw [hw1]; exact (Only.refl _ w).setCell (Or.inl (Or.inl rfl)) _
        refine ⟨⟨(hg.block g (by show g < w1.heap.size; rw [hs1]; exact HT.out.lt.1) (by simp; exact fun e => HT.out.2.1 e.symm)).trans hb1, HT.out.2.1, ?_⟩, ho1.drew.grown hg (fun j hj => by cases hj; exact Or.inl (Or.inr rfl))⟩
        have := hm
        rw [show (Value.int .i64 p) = iv p from rfl, putA_mapA] at this
        exact this
      have HF := Lib.hid hfin
      clear hfin
      by_cases hp : p = 0
      · subst hp
        clear h1
        go_enter Tryz.func34, Tryz.ntmps34
        go_wp2_with (first
          | (refine wpList_lenI _ rfl (.tmp 22) 102 rfl 3 3 Tryz.underlying102 bm _ rfl HM.out ?_; rw [HLN.out])
          | fail)
        generalize hw1 : w.setCell ⟨g, 1, none⟩ (.int .i64 (S.last + 1)) = w1
        have hb1 : w1.heap[g]? = some (.cells #[.map (some bm), .int .i64 (S.last + 1)] 104 (0, 0)) := by rw [← hw1]; exact tblock_set HT.out.1 1 _
        have HM1 : Hid (MapI w1 bm (mapA iv S.tab)) := by rw [← hw1]; exact HM.out.kept (Below.heap_setCell _ _ _ _ HT.out.2.1)
        have HW1 := Lib.hid hw1
        clear hw1 c0 c1 f0 f1
        have d0 : w1.cell? ⟨g, 0, none⟩ = some (.map (some bm)) := cell_of_row w1 g 0 _ _ (0, 0) hb1
        have d1 : w1.cell? ⟨g, 1, none⟩ = some (.int .i64 (S.last + 1)) := cell_of_row w1 g 1 _ _ (0, 0) hb1
        clear hb1
        go_still_tail 9, (by kernel_rfl)
        refine wpList_putI _ rfl (.tmp 35) (.tmp 39) (.tmp 40) 102 rfl 3 3 Tryz.underlying102 Tryz.underlying3 bm _ rfl HM1.out (S.last + 1) rfl _ rfl ?_
        intro w2 hm2 hg2 hs2
        obtain ⟨ht2, ho2⟩ := HF.out _ w2 HW1.out.symm hm2 hg2
        have HT2 := Lib.hid ht2
        have HO2 := Lib.hid ho2
        clear ht2 ho2 hm2 hg2 hs2 d0 d1
        obtain ⟨⟨c0, f0⟩, c1, f1⟩ := HT2.out.cells
        have c1' : w2.cell? ⟨g, 1, none⟩ = some (.int .i64 (S.last + 1)) := c1
        clear c1
        go_wp2
        go_ret2
        rw [HSS.out]
        exact ⟨by rw [HX.out, HE.out]; rfl, HT2.out, HO2.out⟩
      · have HP : Hid (S.has p = true) := by
          show _ = _
          cases hh : S.has p
          · exact absurd ⟨hp, hh⟩ h1
          · rfl
        have hp0 : (p == 0) = false := by simpa using hp
        have hp1 : (p != 0) = true := by simpa using hp
        clear h1 hp
        go_enter Tryz.func34, Tryz.ntmps34
        go_wp2_with fail
        refine HLV.out.mono ?_
        rintro e w' ⟨rfl, rfl⟩
        rw [HP.out]
        go_wp2_with (first
          | (refine wpList_lenI _ rfl (.tmp 22) 102 rfl 3 3 Tryz.underlying102 bm _ rfl HM.out ?_; rw [HLN.out])
          | fail)
        generalize hw1 : w.setCell ⟨g, 1, none⟩ (.int .i64 (S.last + 1)) = w1
        have hb1 : w1.heap[g]? = some (.cells #[.map (some bm), .int .i64 (S.last + 1)] 104 (0, 0)) := by rw [← hw1]; exact tblock_set HT.out.1 1 _
        have HM1 : Hid (MapI w1 bm (mapA iv S.tab)) := by rw [← hw1]; exact HM.out.kept (Below.heap_setCell _ _ _ _ HT.out.2.1)
        have HW1 := Lib.hid hw1
        clear hw1 c0 c1 f0 f1
        have d0 : w1.cell? ⟨g, 0, none⟩ = some (.map (some bm)) := cell_of_row w1 g 0 _ _ (0, 0) hb1
        have d1 : w1.cell? ⟨g, 1, none⟩ = some (.int .i64 (S.last + 1)) := cell_of_row w1 g 1 _ _ (0, 0) hb1
        clear hb1
        go_still_tail 9, (by kernel_rfl)
        refine wpList_putI _ rfl (.tmp 35) (.tmp 39) (.tmp 40) 102 rfl 3 3 Tryz.underlying102 Tryz.underlying3 bm _ rfl HM1.out (S.last + 1) rfl _ rfl ?_
        intro w2 hm2 hg2 hs2
        obtain ⟨ht2, ho2⟩ := HF.out _ w2 HW1.out.symm hm2 hg2
        have HT2 := Lib.hid ht2
        have HO2 := Lib.hid ho2
        clear ht2 ho2 hm2 hg2 hs2 d0 d1
        obtain ⟨⟨c0, f0⟩, c1, f1⟩ := HT2.out.cells
        have c1' : w2.cell? ⟨g, 1, none⟩ = some (.int .i64 (S.last + 1)) := c1
        clear c1
        go_wp2
        go_ret2
        rw [HSS.out]
        exact ⟨by rw [HX.out, HE.out]; rfl, HT2.out, HO2.out⟩
end Go.Proofs.YtcdpnfchmpncjaaGreatDoor
namespace Go
open Go.RowKit
variable {P : Program}
def SeqAllN {α : Type} (St : Nat → Nat → World → World → Prop) (Kp : Nat → World → World → Prop) (P : Program) (gf : Nat) (lb : Array Value) (encs : α → Array Value) (xs : List α) (w : World) : Prop :=
  ∀ (l : Nat) (J : Nat → List α → World → Prop) (W : World), Below w.heap.size w W → w.heap.size + 2 ≤ W.heap.size → (∀ N pre A B, J N pre A → St W.heap.size N A B → J N pre B) →
    (∀ N pre x W1, N ≤ W1.heap.size → J N pre W1 → pre ++ [x] <+: xs → YieldAt Fence.wide 1 P l (encs x) W1 fun e W' => e = .returned (.bool true) ∧ J N (pre ++ [x]) W' ∧ Kp N W1 W') →
    (∀ N, J N [] W) →
    CallsIn Fence.wide 2 P gf (#[.func (.yield l) #[] #[]] ++ lb) W fun e W' => (∃ v, e = .returned v) ∧ ∃ N, J N xs W'
structure StepN (n N : Nat) (A B : World) : Prop where
  os : B.os = A.os
  tape : B.tape = A.tape
  output : B.output = A.output
  size : A.heap.size ≤ B.heap.size
  block : ∀ k, k < A.heap.size → k < n ∨ N ≤ k → B.heap[k]? = A.heap[k]?
theorem StepN.of_below {n N : Nat} {A B : World} (h : Below A.heap.size A B) : StepN n N A B := ⟨h.os, h.tape, h.output, h.size, fun k hk _ => h.block k hk⟩
theorem StepN.putObj {n N l : Nat} (W : World) (o : Obj) (h1 : n ≤ l) (h2 : l < N) : StepN n N W (W.putObj l o) :=
  ⟨rfl, rfl, rfl, by simp, fun k _ hk => World.putObj_heap_other (by omega)⟩
def KeepN (O : Nat → Prop) (N : Nat) (W W' : World) : Prop := W.heap.size ≤ W'.heap.size ∧ ∀ k, k < N → ¬ O k → W'.heap[k]? = W.heap[k]?
theorem KeepN.trans {O : Nat → Prop} {N : Nat} {A B C : World} (h : KeepN O N A B) (k : KeepN O N B C) : KeepN O N A C := ⟨Nat.le_trans h.1 k.1, fun i hi ho => (k.2 i hi ho).trans (h.2 i hi ho)⟩
theorem KeepN.below {O : Nat → Prop} {N : Nat} {A B : World} (h : Below A.heap.size A B) (hN : N ≤ A.heap.size) : KeepN O N A B := ⟨h.size, fun k hk _ => h.block k (by omega)⟩
theorem range_allN {α : Type} {m : Nat} {g : Operand} {ps : Array Tmp} {assign body : Code} {Q : Exit → Act → World → Prop} {a : Act} {w w0 : World} {gf : Nat} {lb : Array Value}
    (hg : a.eval g = .func (.func gf) #[] lb) (eg : ∀ args w, (callFunc gf args).run P w = .ok (.enter gf args) w)
    {St : Nat → Nat → World → World → Prop} {Kp : Nat → World → World → Prop} {encs : α → Array Value} {xs : List α} (hseq : SeqAllN St Kp P gf lb encs xs w0) (hb0 : Below w0.heap.size w0 w) (hps : ∀ x, (encs x).size = ps.size)
    (hKt : ∀ {N : Nat} {A B C : World}, Kp N A B → Kp N B C → Kp N A C) (hKb : ∀ (N : Nat) (W : World) (r r' : Loop), W.heap[w.heap.size + 1]? = some (.loop r) → Kp N W (W.putObj (w.heap.size + 1) (.loop r')))
    (I : Nat → List α → World → Prop) (hIb : ∀ N pre W (r r' : Loop), I N pre W → W.heap[w.heap.size + 1]? = some (.loop r) → I N pre (W.putObj (w.heap.size + 1) (.loop r')))
    (hSt : ∀ N pre A B, I N pre A → St (w.heap.size + 2) N A B → I N pre B) (hSk : ∀ N A B k, St (w.heap.size + 2) N A B → k < w.heap.size + 2 → k < A.heap.size → B.heap[k]? = A.heap[k]?)
    (h0 : ∀ N r, I N [] ((w.alloc (.deferred (some []))).alloc (.loop r)))
    (hround : ∀ (N : Nat) (pre : List α) (x : α) (W : World), N ≤ W.heap.size → I N pre W → pre ++ [x] <+: xs → w.heap.size + 1 < W.heap.size → assign.wpIn (Fence.wide.inRound (w.heap.size + 1)) m P
      (Exit.then (fun a1 W1 => W1.heap[w.heap.size + 1]? = W.heap[w.heap.size + 1]? ∧ W1.heap[w.heap.size]? = W.heap[w.heap.size]? ∧ Kp N W W1 ∧ ∀ (r : Loop), Kp N W1 (W1.putObj (w.heap.size + 1) (.loop r)) →
        body.wpIn (Fence.wide.inRound (w.heap.size + 1)) m P (Exit.then (goesOn w.heap.size (w.heap.size + 1) (Kp N) (W1.putObj (w.heap.size + 1) (.loop r)) (I N (pre ++ [x]))) (fun _ _ _ => False)) a1 (W1.putObj (w.heap.size + 1) (.loop r)))
        (fun _ _ _ => False)) { tmps := (ps.zip (encs x)).foldl (fun t (p, v) => t.setIfInBounds p v) a.tmps, defers := [] } W)
    (hdone : ∀ (N : Nat) (W : World), I N xs W → W.heap[w.heap.size]? = some (.deferred (some [])) → Q .normal { a with defers := { target := .collected w.heap.size, args := #[] } :: a.defers } W) :
    (Code.rangeFunc g ps assign body).wpIn Fence.wide (m + 2) P Q a w := by
  refine wpIn_rangeFunc ?_
  intro fn hfn
  obtain ⟨rec, hrec⟩ : ∃ rec : LoopState → Loop, rec = fun st => { state := st, pending := none, fn, tmps := a.tmps, params := ps, assign, body, defers := w.heap.size } := ⟨_, rfl⟩
  have hL1 : ((w.alloc (.deferred (some []))).alloc (.loop (rec .ready))).heap[w.heap.size + 1]? = some (.loop (rec .ready)) := by
    have := World.alloc_heap_new (w.alloc (.deferred (some []))) (.loop (rec .ready)); rwa [World.size_alloc] at this
  have hD1 : ((w.alloc (.deferred (some []))).alloc (.loop (rec .ready))).heap[w.heap.size]? = some (.deferred (some [])) :=
    (Below.heap_alloc _ _ _ (by simp)).trans (World.alloc_heap_new w _)
  have hI1 := fun N => h0 N (rec .ready)
  have hsz : ((w.alloc (.deferred (some []))).alloc (.loop (rec .ready))).heap.size = w.heap.size + 2 := by simp
  have hb1 : Below w0.heap.size w0 ((w.alloc (.deferred (some []))).alloc (.loop (rec .ready))) := hb0.trans ((((Below.refl _ w).alloc (Nat.le_refl _) _).alloc (by simp) _).mono hb0.size)
  have hent : (Instr.enterLoop fn a.tmps ps assign body none).run P w = .ok (w.heap.size + 1, [{ target := .collected w.heap.size, args := #[] }]) ((w.alloc (.deferred (some []))).alloc (.loop (rec .ready))) := by
    rw [hrec]; exact run_enterLoop_outer _ _ _ _ _
  generalize (w.alloc (.deferred (some []))).alloc (.loop (rec .ready)) = W0 at *
  refine ⟨w.heap.size + 1, [{ target := .collected w.heap.size, args := #[] }], W0, { target := .fn (.func gf) lb, args := #[.func (.yield (w.heap.size + 1)) #[] #[]] }, W0, gf, #[.func (.yield (w.heap.size + 1)) #[] #[]] ++ lb, W0, hent, ?_, fun _ _ => trivial, ?_, fun _ => by omega, ?_⟩
  · simp only [resolve, hg]
    simp [go_sem]
  · simp [invoke, go_sem, eg]
  have hcall := hseq (w.heap.size + 1) (fun N pre W => I N pre W ∧ W.heap[w.heap.size + 1]? = some (.loop (rec .ready)) ∧ W.heap[w.heap.size]? = some (.deferred (some []))) W0 hb1 (by rw [hsz]; have := hb0.size; omega)
    (fun N pre A B h hs => by
      rw [hsz] at hs
      have k1 := (Array.getElem?_eq_some_iff.1 h.2.1).1
      exact ⟨hSt N pre A B h.1 hs, (hSk N A B _ hs (by omega) k1).trans h.2.1, (hSk N A B _ hs (by omega) (by omega)).trans h.2.2⟩)
    (fun N pre x W hN ⟨hi, hl, hd⟩ hpre => by
      have hlt := (Array.getElem?_eq_some_iff.1 hl).1
      have hy := run_yield (P := P) (args := encs x) hl (by rw [hrec]; exact hps x)
      rw [hrec] at hy
      refine ⟨fn, _, assign, body, hy, RoundIn.any (n := m) (roundIn_of_wpIn trivial (wpIn_mono (hround N pre x W hN hi hpre hlt) ?_))⟩
      intro e a1 W1 he
      cases e with
      | normal =>
        obtain ⟨e1, e2, e3, hbody⟩ := he
        have hl1 := e1.trans hl
        have hd1 := e2.trans hd
        refine ⟨_, run_beginRound hl1 (by rw [hrec]), ?_⟩
        have hlt1 := (Array.getElem?_eq_some_iff.1 hl1).1
        have hkb := hKb N W1 (rec .ready) { rec .ready with state := .busy } hl1
        refine wpIn_mono (hbody { rec .ready with state := .busy } hkb) ?_
        intro e a2 W2 he2
        cases e with
        | normal =>
          obtain ⟨f1, f2, f3, f4⟩ := he2
          have hl2 := f1.trans (World.putObj_heap_same (o := .loop { rec .ready with state := .busy }) hlt1)
          have hd2 := (f2.trans (World.putObj_heap_other (by omega))).trans hd1
          refine ⟨_, _, run_endRound none hl2, rfl, ⟨hIb _ _ _ _ _ f4 hl2, ?_, (World.putObj_heap_other (by omega)).trans hd2⟩, hKt e3 (hKt hkb (hKt f3 (hKb _ _ _ _ hl2)))⟩
          rw [World.putObj_heap_same (Array.getElem?_eq_some_iff.1 hl2).1, hrec]
          rfl
        | _ => exact he2.elim
      | _ => exact he.elim)
    (fun N => ⟨hI1 N, hL1, hD1⟩)
  refine CallsIn.mono (n := m + 2 - 1) ⟨trivial, fun cs _ => hcall.2 cs (room_wide _)⟩ ?_
  rintro e W' ⟨⟨v, rfl⟩, N, hi, hl, hd⟩
  refine ⟨none, _, ?_, hdone N _ (hIb _ _ _ (rec .ready) { rec .ready with state := .exhausted } hi hl) ((World.putObj_heap_other (by omega)).trans hd)⟩
  have := run_endLoop (P := P) hl (by rw [hrec]; simp)
  rw [hrec] at this ⊢
  exact this
end Go
namespace Go.Tr
open Go.RowKit
def maskN (f : Nat × Nat) : Nat := (2 ^ f.2 - 1) * 2 ^ f.1
def RightF (f : Nat × Nat) : Prop := f.1 < 64 ∧ 0 < f.2 ∧ f.2 ≤ 64 - f.1
theorem top_div (d : Nat) (h1 : 0 < d) (h2 : d ≤ 64) : 18446744073709551615 / 2 ^ (64 - d) = 2 ^ d - 1 := by
  have : ∀ e, e < 65 → 0 < e → 18446744073709551615 / 2 ^ (64 - e) = 2 ^ e - 1 := by decide
  exact this d (by omega) h1
theorem maskN_lt {f : Nat × Nat} (h : RightF f) : maskN f < 18446744073709551616 := by
  obtain ⟨h1, h2, h3⟩ := h
  have h4 : (2 ^ f.2 - 1) * 2 ^ f.1 < 2 ^ f.2 * 2 ^ f.1 := Nat.mul_lt_mul_of_pos_right (by have := Nat.two_pow_pos f.2; omega) (Nat.two_pow_pos _)
  rw [← Nat.pow_add] at h4
  have h5 : (2 : Nat) ^ (f.2 + f.1) ≤ 2 ^ 64 := Nat.pow_le_pow_right (by decide) (by omega)
  exact Nat.lt_of_lt_of_le h4 h5
theorem mask_val {a d : Nat} (h : RightF (a, d)) : IntKind.u64.wrap (18446744073709551615 / 2 ^ (64 - d) * 2 ^ a) = ((maskN (a, d) : Nat) : Int) := by
  have h1 : (18446744073709551615 : Int) / 2 ^ (64 - d) * 2 ^ a = ((maskN (a, d) : Nat) : Int) := by
    have := top_div d h.2.1 (by have := h.2.2; omega)
    have e1 : (18446744073709551615 : Int) = ((18446744073709551615 : Nat) : Int) := rfl
    have e2 : ((2 : Int) ^ a) = ((2 ^ a : Nat) : Int) := by push_cast; rfl
    rw [maskN, e1, div_val, this, e2, ← Int.natCast_mul]
  rw [h1]
  have := maskN_lt h
  rw [IntWalk.u64_in _ (by omega)]
end Go.Tr
namespace Go.Proofs.YtcdpnfchmpncjaaGreatDoor
open Go.RowKit Go.Tr Go.Shelf
variable {w w' : World}
set_option maxRecDepth 100000 in
theorem fright_any (a d : Nat) (w : World) (h : RightF (a, d)) : Calls Tryz.prog 171 #[.agg #[.int .i64 a, .int .i64 d]] w fun e w' => e = .returned (.bool true) ∧ Below w.heap.size w w' := by
  obtain ⟨h1, h2, h3⟩ := h
  simp only at h1 h2 h3
  have k1 : (0 : Int) ≤ (a : Int) := by omega
  have k2 : (a : Int) < 64 := by omega
  have k3 : (0 : Int) < (d : Int) := by omega
  have k4 : (d : Int) ≤ 64 - (a : Int) := by omega
  go_enter Tryz.func171, Tryz.ntmps171
  go_wp2
  go_ret
  exact ⟨rfl, (Below.refl _ w).alloc (Nat.le_refl _) _⟩
set_option maxRecDepth 100000 in
theorem fmask_any (a d : Nat) (w : World) (h : RightF (a, d)) : Calls Tryz.prog 126 #[.agg #[.int .i64 a, .int .i64 d]] w fun e w' => e = .returned (.int .u64 (maskN (a, d) : Nat)) ∧ Below w.heap.size w w' := by
  obtain ⟨h1, h2, h3⟩ := h
  simp only at h1 h2 h3
  have k1 : ¬ (64 : Int) - (d : Int) < 0 := by omega
  have k2 : ¬ (a : Int) < 0 := by omega
  have k3 : IntKind.i64.wrap (64 - (d : Int)) = 64 - (d : Int) := by rw [IntWalk.i64_in _ (by omega)]
  have k5 : (64 : Int) - (d : Int) < 64 := by omega
  have k6 : (a : Int) < 64 := by omega
  go_enter Tryz.func126, Tryz.ntmps126
  go_wp2_with fail
  go_quiet (fail)
  go_wp2
  go_ret
  exact ⟨by rw [← mask_val ⟨h1, h2, h3⟩]; rfl, ((Below.refl _ w).alloc (Nat.le_refl _) _).trans (Drawn.below ⟨nq, rfl⟩ _)⟩
theorem bits_and_nat {x y : Nat} (hx : x < 18446744073709551616) (hy : y < 18446744073709551616) : bits .and .u64 (x : Int) (y : Int) = ((x &&& y : Nat) : Int) := u64_and_nat _ _ hx hy
def okL (all : Nat) : List (Nat × Nat) → Prop
  | [] => True
  | f :: r => RightF f ∧ all &&& maskN f = 0 ∧ okL (all ||| maskN f) r
theorem okL_drop {all k : Nat} {fs : List (Nat × Nat)} {f : Nat × Nat} (h : okL all (fs.drop k)) (hf : fs[k]? = some f) : RightF f ∧ all &&& maskN f = 0 ∧ okL (all ||| maskN f) (fs.drop (k + 1)) := by
  have h2 : fs.drop k = f :: fs.drop (k + 1) := by
    rw [List.drop_eq_getElem_cons (List.getElem?_eq_some_iff.1 hf).1, (List.getElem?_eq_some_iff.1 hf).2]
  rw [h2] at h
  exact h
set_option maxRecDepth 100000 in
theorem fapart_any (fs : List (Nat × Nat)) (la : Option Addr) (n c : Nat) (w : World) (h : SeqAt w la (pcells fs)) (hl : fs.length = n) (hn : n ≤ 1000) (ho : okL 0 fs) : Calls Tryz.prog 125 #[.slice la n c] w fun e w' => e = .returned (.bool true) ∧ Below w.heap.size w w' := by
  have HS := Lib.hid h
  have HO := Lib.hid ho
  have HL := Lib.hid hl
  clear h ho hl
  go_enter Tryz.func125, Tryz.ntmps125
  go_wp2_with fail
  go_loopw [3, 8] (fun v i wr => ∃ k all : Nat, k ≤ n ∧ i = .int .i64 (k : Int) ∧ v = .int .u64 (all : Int) ∧ all < 18446744073709551616 ∧ Hid (okL all (fs.drop k)) ∧ Hid (Below w.heap.size w wr)) (fun _ i _ => n - (intOf i).toNat)
  case atStart => exact ⟨0, 0, Nat.zero_le _, rfl, rfl, by decide, HO, Below.refl _ w⟩
  case round =>
    obtain ⟨k, all, hk, rfl, rfl, hall, HK, HB⟩ := hrel
    by_cases hlt : k < n
    · have hlt' : (k : Int) < (n : Int) := by omega
      obtain ⟨b, off, a, d, rfl, hc1, hc2, HP⟩ := (HS.out.below HB.out (Nat.le_refl _)).part (k := k) (by rw [HL.out]; exact hlt)
      obtain ⟨hr, hz, hok⟩ := okL_drop HK.out HP.out
      have hml := maskN_lt hr
      obtain ⟨m, hm⟩ : ∃ m, m = maskN (a, d) := ⟨_, rfl⟩
      have HMK : Hid (∀ W, Calls Tryz.prog 126 #[.agg #[.int .i64 a, .int .i64 d]] W fun e w' => e = .returned (.int .u64 (m : Nat)) ∧ Below W.heap.size W w') := fun W => by rw [hm]; exact fmask_any a d W hr
      have HRT : Hid (∀ W, Calls Tryz.prog 171 #[.agg #[.int .i64 a, .int .i64 d]] W fun e w' => e = .returned (.bool true) ∧ Below W.heap.size W w') := fun W => fright_any a d W hr
      rw [← hm] at hz hok hml
      have hand : bits .and .u64 (all : Int) (m : Int) = 0 := by rw [u64_and_nat _ _ hall hml, hz]; rfl
      have hor : bits .or .u64 (all : Int) (m : Int) = ((all ||| m : Nat) : Int) := u64_or_nat _ _ hall hml
      have hol : all ||| m < 18446744073709551616 := Nat.or_lt_two_pow (n := 64) hall hml
      have HOK := Lib.hid hok
      have HBA : Hid (Below w.heap.size w (wr.alloc (.cells #[.int .i64 a, .int .i64 d] 212))) := HB.out.alloc HB.out.size _
      obtain ⟨xb, hxb⟩ : ∃ xb, xb = wr.heap.size := ⟨_, rfl⟩
      have HXB : Hid ((wr.alloc (.cells #[.int .i64 a, .int .i64 d] 212)).heap[xb]? = some (.cells #[.int .i64 a, .int .i64 d] 212 (0, 0))) := by rw [hxb]; exact heap_alloc_new _ _
      clear hz hok hml hm hr HK
      go_wp2_with fail
      rw [← hxb]
      generalize wr.alloc (.cells #[.int .i64 a, .int .i64 d] 212) = wa at *
      clear hxb
      refine (HRT.out wa).mono ?_
      rintro e w1 ⟨rfl, hb1⟩
      have HB1 : Hid (Below w.heap.size w w1) := HBA.out.trans (hb1.mono HBA.out.size)
      have HX1 := Lib.hid ((hb1.block xb (Array.getElem?_eq_some_iff.1 HXB.out).1).trans HXB.out)
      have x0 := (cells_of_block HX1.out 0).1
      have x1 := (cells_of_block HX1.out 1).1
      simp at x0 x1
      clear hb1
      go_wp2_with fail
      refine (HMK.out w1).mono ?_
      rintro e w2 ⟨rfl, hb2⟩
      have HB2 : Hid (Below w.heap.size w w2) := HB1.out.trans (hb2.mono HB1.out.size)
      have HX2 := Lib.hid ((hb2.block xb (Array.getElem?_eq_some_iff.1 HX1.out).1).trans HX1.out)
      have y0 := (cells_of_block HX2.out 0).1
      have y1 := (cells_of_block HX2.out 1).1
      simp at y0 y1
      clear hb2 x0 x1
      go_wp2_with fail
      refine (HMK.out w2).mono ?_
      rintro e w3 ⟨rfl, hb3⟩
      have HB3 : Hid (Below w.heap.size w w3) := HB2.out.trans (hb3.mono HB2.out.size)
      clear hb3 y0 y1
      go_wp2_with fail
      go_roundw
      case rel => exact ⟨k + 1, all ||| m, by omega, by go_num, rfl, hol, HOK, HB3⟩
      case measure => simp [intOf]; omega
    · have hlt' : ¬ (k : Int) < (n : Int) := by omega
      go_wp2
      go_ret
      exact ⟨rfl, HB.out⟩
end Go.Proofs.YtcdpnfchmpncjaaGreatDoor
namespace Go.Tr
open Go.RowKit
def putN (v : Nat) (f : Nat × Nat) (x : Nat) : Nat := (v &&& (18446744073709551615 - maskN f)) ||| (x * 2 ^ f.1)
def packN : Nat → List (Nat × Nat) → List Nat → Nat
  | v, f :: r, x :: s => packN (putN v f x) r s
  | v, _, _ => v
theorem bitLen_fit {x d : Nat} (hx : x < 2 ^ d) (hd : d ≤ 64) : Lib.bitLen x ≤ d := by
  by_cases h0 : x = 0
  · subst h0; exact Nat.zero_le _
  · have h64 : x < 2 ^ 64 := Nat.lt_of_lt_of_le hx (Nat.pow_le_pow_right (by decide) hd)
    obtain ⟨h1, h2, h3⟩ := Lib.bitLenAux_bounds 64 x h64 h0
    have h4 : 2 ^ (Lib.bitLen x - 1) < 2 ^ d := Nat.lt_of_le_of_lt h2 hx
    have h5 := (Nat.pow_lt_pow_iff_right (by decide : 1 < 2)).1 h4
    omega
theorem fit_lt {f : Nat × Nat} {x : Nat} (h : RightF f) (hx : x < 2 ^ f.2) : x * 2 ^ f.1 < 18446744073709551616 := by
  obtain ⟨h1, h2, h3⟩ := h
  have h4 : x * 2 ^ f.1 < 2 ^ f.2 * 2 ^ f.1 := Nat.mul_lt_mul_of_pos_right hx (Nat.two_pow_pos _)
  rw [← Nat.pow_add] at h4
  have h5 : (2 : Nat) ^ (f.2 + f.1) ≤ 2 ^ 64 := Nat.pow_le_pow_right (by decide) (by omega)
  exact Nat.lt_of_lt_of_le h4 h5
theorem putN_lt {v x : Nat} {f : Nat × Nat} (h : RightF f) (hv : v < 18446744073709551616) (hx : x < 2 ^ f.2) : putN v f x < 18446744073709551616 := Nat.or_lt_two_pow (n := 64) (Nat.and_lt_two_pow (n := 64) _ (by show _ < 18446744073709551616; omega)) (fit_lt h hx)
end Go.Tr
namespace Go.Proofs.YtcdpnfchmpncjaaGreatDoor
open Go.RowKit Go.Tr Go.Shelf
variable {w w' : World}
theorem len64_any (x : Nat) (hx : x < 18446744073709551616) (w : World) : Calls Tryz.prog 169 #[.int .u64 x] w fun e w' => e = .returned (.int .i64 (Lib.bitLen x)) ∧ w = w' :=
  (calls_of_every_depth (fun D => AnyS.bits_Len64In laysLen64 D x w (by omega) (by omega))).mono fun e w' ⟨h1, h2⟩ => ⟨by simpa using h1, h2.symm⟩
set_option maxRecDepth 100000 in
theorem fput_any (v a d x : Nat) (w : World) (h : RightF (a, d)) (hv : v < 18446744073709551616) (hx : x < 2 ^ d) : Calls Tryz.prog 202 #[.int .u64 v, .agg #[.int .i64 a, .int .i64 d], .int .u64 x] w fun e w' => e = .returned (.tuple #[.int .u64 (putN v (a, d) x : Nat), .int .i64 0]) ∧ Below w.heap.size w w' := by
  have hml := maskN_lt h
  have hfl := fit_lt h hx
  have hd : d ≤ 64 := by have := h.2.2; simp only at this; omega
  have hbl := bitLen_fit hx hd
  have hx64 : x < 18446744073709551616 := Nat.lt_of_lt_of_le hx (Nat.pow_le_pow_right (by decide) hd)
  obtain ⟨m, hm⟩ : ∃ m, m = maskN (a, d) := ⟨_, rfl⟩
  have HMK : Hid (∀ W, Calls Tryz.prog 126 #[.agg #[.int .i64 a, .int .i64 d]] W fun e w' => e = .returned (.int .u64 (m : Nat)) ∧ Below W.heap.size W w') := fun W => by rw [hm]; exact fmask_any a d W h
  have HRT := Lib.hid (fright_any a d · h)
  have HLN := Lib.hid (len64_any x hx64)
  have ha : a < 64 := h.1
  have hshl : IntKind.u64.wrap ((x : Int) * 2 ^ a) = ((x * 2 ^ a : Nat) : Int) := by
    have e2 : ((2 : Int) ^ a) = ((2 ^ a : Nat) : Int) := by push_cast; rfl
    simp only at hfl
    rw [e2, ← Int.natCast_mul, IntWalk.u64_in _ (by omega)]
  rw [← hm] at hml
  have hnot : bits .andNot .u64 (v : Int) (m : Int) = ((v &&& (18446744073709551615 - m) : Nat) : Int) := u64_andNot_nat _ _ hv hml
  obtain ⟨z1, hz1⟩ : ∃ z1, z1 = v &&& (18446744073709551615 - m) := ⟨_, rfl⟩
  obtain ⟨z2, hz2⟩ : ∃ z2, z2 = x * 2 ^ a := ⟨_, rfl⟩
  have hz1l : z1 < 18446744073709551616 := by rw [hz1]; exact Nat.and_lt_two_pow (n := 64) _ (by show _ < 18446744073709551616; omega)
  rw [← hz1] at hnot
  rw [← hz2] at hshl
  have hz2l : z2 < 18446744073709551616 := by rw [hz2]; exact hfl
  have hor : bits .or .u64 (z1 : Int) (z2 : Int) = ((z1 ||| z2 : Nat) : Int) := u64_or_nat _ _ hz1l hz2l
  have HP : Hid (putN v (a, d) x = z1 ||| z2) := by show _ = _; rw [hz1, hz2, hm]; rfl
  rw [HP.out]
  obtain ⟨bl, hbl2⟩ : ∃ bl, bl = Lib.bitLen x := ⟨_, rfl⟩
  rw [← hbl2] at HLN hbl
  have hlt : ¬ (d : Int) < (bl : Int) := by omega
  have k2 : (0 : Int) ≤ (a : Int) := by omega
  clear hz1 hz2 hm hml hfl h hx HP hbl2
  go_enter Tryz.func202, Tryz.ntmps202
  go_wp2_with fail
  have HBA : Hid (Below w.heap.size w (w.alloc (.cells #[.int .i64 a, .int .i64 d] 212))) := (Below.refl _ w).alloc (Nat.le_refl _) _
  obtain ⟨xb, hxb⟩ : ∃ xb, xb = w.heap.size := ⟨_, rfl⟩
  have HXB : Hid ((w.alloc (.cells #[.int .i64 a, .int .i64 d] 212)).heap[xb]? = some (.cells #[.int .i64 a, .int .i64 d] 212 (0, 0))) := by rw [hxb]; exact heap_alloc_new _ _
  have HXE : Hid (xb = w.heap.size) := hxb
  rw [← hxb] at HBA
  rw [← hxb]
  generalize w.alloc (.cells #[.int .i64 a, .int .i64 d] 212) = wa at *
  clear hxb
  refine (HRT.out wa).mono ?_
  rintro e w1 ⟨rfl, hb1⟩
  have HX1 := Lib.hid ((hb1.block xb (Array.getElem?_eq_some_iff.1 HXB.out).1).trans HXB.out)
  have HB1 : Hid (Below w.heap.size w w1) := by
    have := HBA.out.size
    rw [← HXE.out]; exact HBA.out.trans (hb1.mono (by have := (Array.getElem?_eq_some_iff.1 HXB.out).1; omega))
  have x0 := (cells_of_block HX1.out 0).1
  have x1 := (cells_of_block HX1.out 1).1
  simp at x0 x1
  clear hb1
  go_wp2_with fail
  go_quiet ((go_at_call 169; exact quiet_same (HLN.out _)))
  go_wp2_with fail
  refine wp_region_held_drew (S := fun W => W.cell? ⟨xb, 0, none⟩ = some (.int .i64 a) ∧ W.cell? ⟨xb, 1, none⟩ = some (.int .i64 d)) (by kernel_rfl) ⟨x0, x1⟩ (fun hH => ?_)
  refine takeH 0 (v := ?_) rfl (by kernel_rfl) (by kernel_rfl) (by kernel_rfl) (fun _ _ _ h => h) (by rfl) ?_ (by assumption) ?_
  rotate_left
  · intro W hW
    go_simp
    try with_reducible rfl
  try simp only [Act.put, List.setIfInBounds_toArray, List.set_cons_zero, List.set_cons_succ]
  refine takeH 1 (v := ?_) rfl (by kernel_rfl) (by kernel_rfl) (by kernel_rfl) (fun _ _ _ h => h) (by rfl) ?_ (by assumption) ?_
  rotate_left
  · intro W hW
    go_simp
    try with_reducible rfl
  try simp only [Act.put, List.setIfInBounds_toArray, List.set_cons_zero, List.set_cons_succ]
  refine takeH 4 (v := ?_) rfl (by kernel_rfl) (by kernel_rfl) (by kernel_rfl) (fun _ _ _ h => h) (by rfl) ?_ (by assumption) ?_
  rotate_left
  · intro W hW
    go_simp
    try with_reducible rfl
  try simp only [Act.put, List.setIfInBounds_toArray, List.set_cons_zero, List.set_cons_succ]
  refine takeH 5 (v := ?_) rfl (by kernel_rfl) (by kernel_rfl) (by kernel_rfl) (fun _ _ _ h => h) (by rfl) ?_ (by assumption) ?_
  rotate_left
  · intro W hW
    go_simp
    try with_reducible rfl
  try simp only [Act.put, List.setIfInBounds_toArray, List.set_cons_zero, List.set_cons_succ]
  refine takeH 6 (v := ?_) rfl (by kernel_rfl) (by kernel_rfl) (by kernel_rfl) (fun _ _ _ h => h) (by rfl) ?_ (by assumption) ?_
  rotate_left
  · intro W hW
    go_simp
    try with_reducible rfl
  try simp only [Act.put, List.setIfInBounds_toArray, List.set_cons_zero, List.set_cons_succ]
  refine takeH 7 (v := ?_) rfl (by kernel_rfl) (by kernel_rfl) (by kernel_rfl) (fun _ _ _ h => h) (by rfl) ?_ (by assumption) ?_
  rotate_left
  · intro W hW
    go_simp
    try with_reducible rfl
  try simp only [Act.put, List.setIfInBounds_toArray, List.set_cons_zero, List.set_cons_succ]
  refine wpAnyH_ready (rs := [2]) (by kernel_rfl) (by simp) (readyH rfl (fun K hK => ?_) AllReadyH.nil)
  rw [if_pos (by rfl)]
  go_simp
  refine (HMK.out _).mono ?_
  rintro e w2 ⟨rfl, hb2⟩
  have hk2 : w2.heap[xb]? = w1.heap[xb]? := hb2.block xb (Array.getElem?_eq_some_iff.1 HX1.out).1
  have y0 := (World.cell?_of_block (a := ⟨xb, 0, none⟩) hk2).trans x0
  have y1 := (World.cell?_of_block (a := ⟨xb, 1, none⟩) hk2).trans x1
  have HB2 : Hid (Below w.heap.size w w2) := by
    have h1 := HB1.out.size
    have h2 : Below w1.heap.size w1 w2 := ⟨hb2.os, hb2.tape, hb2.output, hb2.size, hb2.block⟩
    exact HB1.out.trans (h2.mono h1)
  clear hb2 hk2
  refine hK.out _ _ ⟨y0, y1⟩ (fun hH => ?_)
  clear hK K
  try simp only [Act.put, List.setIfInBounds_toArray, List.set_cons_zero, List.set_cons_succ]
  refine takeH 3 (v := ?_) rfl (by kernel_rfl) (by kernel_rfl) (by kernel_rfl) (fun _ _ _ h => h) (by rfl) ?_ (by assumption) ?_
  rotate_left
  · intro W hW
    go_simp
    try with_reducible rfl
  try simp only [Act.put, List.setIfInBounds_toArray, List.set_cons_zero, List.set_cons_succ]
  refine takeH 8 (v := ?_) rfl (by kernel_rfl) (by kernel_rfl) (by kernel_rfl) (fun _ _ _ h => h) (by rfl) ?_ (by assumption) ?_
  rotate_left
  · intro W hW
    go_simp
    try with_reducible rfl
  try simp only [Act.put, List.setIfInBounds_toArray, List.set_cons_zero, List.set_cons_succ]
  refine takeH 9 (v := ?_) rfl (by kernel_rfl) (by kernel_rfl) (by kernel_rfl) (fun _ _ _ h => h) (by rfl) ?_ (by assumption) ?_
  rotate_left
  · intro W hW
    go_simp
    try with_reducible rfl
  try simp only [Act.put, List.setIfInBounds_toArray, List.set_cons_zero, List.set_cons_succ]
  refine takeH 10 (v := ?_) rfl (by kernel_rfl) (by kernel_rfl) (by kernel_rfl) (fun _ _ _ h => h) (by rfl) ?_ (by assumption) ?_
  rotate_left
  · intro W hW
    go_simp
    try with_reducible rfl
  try simp only [Act.put, List.setIfInBounds_toArray, List.set_cons_zero, List.set_cons_succ]
  refine wpAnyH_done (by kernel_rfl) ?_ _
  go_wp2_with fail
  go_ret2
  exact ⟨rfl, HB2.out⟩
end Go.Proofs.YtcdpnfchmpncjaaGreatDoor
