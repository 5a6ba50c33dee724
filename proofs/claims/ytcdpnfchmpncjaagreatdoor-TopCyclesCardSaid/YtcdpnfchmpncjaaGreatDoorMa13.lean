/-
  Parts of the proof, one behind the other: KTable4, KOne, Round, KIter.
-/
import Derived.Deep.CutBlock
import Derived.StillTailTactics
import Derived.OrdersIn
import Derived.OrdersHeld
import Derived.Deep.RegionHeld
import Derived.RangeFuncWrites
import Derived.RangeFuncCalls
import Derived.RangeFuncNested
import Derived.RangeFuncBound
import Derived.RangeFuncBox
import Derived.RangeFuncLeaves
import Derived.Shelf.Abstract
import Derived.Shelf.RegionOpen
import Derived.OwnWalkIn
import Derived.TacticsInMore
import Derived.LoopNIn
import Derived.LoopIn
import Derived.Maps.AppendAt
import Derived.Maps.OwnIn
import Derived.Test.YtcdpnfchmpncjaaGreatDoorMa12
set_option linter.unusedSimpArgs false
set_option linter.unusedVariables false
namespace Go.Tr
open Go.RowKit
theorem nextIs_low {B : Nat → Bool} {n i : Nat} (hi : i < n) (hb : B i = false) (hl : ∀ j, j < i → B j = true) : nextIs B n false 0 = i := by
  obtain ⟨s1, s2, s3, s4⟩ := nextIs_spec B n false (Nat.zero_le n)
  rcases Nat.lt_trichotomy (nextIs B n false 0) i with h | h | h
  · have h1 := hl _ h
    rw [s3 (by omega)] at h1; cases h1
  · exact h
  · have h1 := s4 i (Nat.zero_le _) h
    exact absurd hb h1
end Go.Tr
namespace Go.Proofs.YtcdpnfchmpncjaaGreatDoor
open Go.RowKit Go.Tr Go.Shelf
theorem tz_kept {w w' : World} (h : Tz w) (hk : ∀ k, k < w.heap.size → w'.heap[k]? = w.heap[k]?) : Tz w' := by
  intro j hj
  have h1 := h j hj
  rw [World.cell?_of_block (a := ⟨_, j, none⟩) (hk _ (World.block_lt_of_cell? w _ h1))]
  exact h1
variable {w w' : World} {F G : Nat → Prop} {t tb m K : Nat} {Fm : Nat → Prop} {sl : List Sl}
theorem TbAt.turn {W : World} {i : Nat} {x x' : Sl} (h : TbAt w t tb m Fm K sl) (hx : sl[i]? = some x) (hk : W.heap[t]? = w.heap[t]?) (hs : W.heap[tb]? = some (.cells (slcells (sl.set i x')).toArray 172 (0, 0))) (hm : BMF W Fm m K (setB (usedB sl) i x'.used)) : TbAt W t tb m Fm K (sl.set i x') :=
  ⟨hk.trans h.block, hs, by rw [usedB_set sl (List.getElem?_eq_some_iff.1 hx).1]; exact hm, h.ne, h.nf, by rw [List.length_set]; exact h.len, h.kb⟩
set_option maxRecDepth 100000 in
theorem tadd_any {x : Sl} {i : Nat} (ad rg : Nat) (hd pn : Bool) (w : World) (h : TbF w F t K sl) (hT : Tz w) (hfs : ∀ k, F k → k < w.heap.size) (hx : sl[i]? = some x) (hu : x.used = false) (hlow : ∀ j, j < i → usedB sl j = true) (hgen : x.gen ≤ 255) : Calls Tryz.prog 89 #[.pointer (some ⟨t, 0, none⟩), .agg #[.int .i64 ad, .int .i64 rg, .bool hd, .bool pn]] w fun e w' => e = .returned (.tuple #[.agg #[.int .i64 i, .int .i64 (x.gen + 1 : Nat)], .int .i64 0]) ∧ TbF w' F t K (sl.set i ⟨x.gen + 1, true, ad, rg, hd, pn⟩) ∧ Only F w w' := by
  obtain ⟨tb, m, Fm, h, h1, h2, h3⟩ := h
  have hiK : i < K := by rw [← h.len]; exact (List.getElem?_eq_some_iff.1 hx).1
  have hub : usedB sl i = false := by simp [usedB, List.getD, hx, hu]
  have HFV : Hid (firstV (usedB sl) K 0 = .tuple #[.int .i64 (i : Nat), .bool true]) := firstV_yes (nextIs_low hiK hub hlow) hiK
  have HT := Lib.hid h
  have HTZ := Lib.hid hT
  have HX := Lib.hid hx
  have HF1 := Lib.hid h1
  have HF2 := Lib.hid h2
  have HF3 := Lib.hid h3
  have HFS := Lib.hid hfs
  have hkb := h.kb.2
  clear h hx hu h1 h2 h3 hub hlow hT hfs
  go_enter Tryz.func89, Tryz.ntmps89
  have HBA : Hid (Below w.heap.size w ((w.alloc (.cells #[.int .i64 ad, .int .i64 rg, .bool hd, .bool pn] 93)).alloc (.cells #[.int .i64 0, .int .i64 0] 38))) := ((Below.refl _ w).alloc (Nat.le_refl _) _).alloc (by simp) _
  obtain ⟨eb, heb⟩ : ∃ eb, eb = w.heap.size := ⟨_, rfl⟩
  obtain ⟨rb, hrb⟩ : ∃ rb, rb = w.heap.size + 1 := ⟨_, rfl⟩
  have HEB : Hid (((w.alloc (.cells #[.int .i64 ad, .int .i64 rg, .bool hd, .bool pn] 93)).alloc (.cells #[.int .i64 0, .int .i64 0] 38)).heap[eb]? = some (.cells #[.int .i64 ad, .int .i64 rg, .bool hd, .bool pn] 93 (0, 0))) := by
    rw [heb]; exact (Below.heap_alloc _ _ _ (by simp)).trans (heap_alloc_new w _)
  have HRB : Hid (((w.alloc (.cells #[.int .i64 ad, .int .i64 rg, .bool hd, .bool pn] 93)).alloc (.cells #[.int .i64 0, .int .i64 0] 38)).heap[rb]? = some (.cells #[.int .i64 0, .int .i64 0] 38 (0, 0))) := by
    rw [hrb]; exact heap_alloc2_new w _ _
  have HEL : Hid (w.heap.size ≤ eb ∧ w.heap.size ≤ rb) := ⟨by omega, by omega⟩
  have htA := HT.out.kept HBA.out.block
  have c1 := htA.head.2.1
  clear htA
  go_wp2_with fail
  rw [← hrb, ← heb]
  rw [← heb] at HBA HEL
  have HTA : Hid (TbAt ((w.alloc (.cells #[.int .i64 ad, .int .i64 rg, .bool hd, .bool pn] 93)).alloc (.cells #[.int .i64 0, .int .i64 0] 38)) t tb m Fm K sl) := HT.out.kept (by rw [heb] at HBA; exact HBA.out.block)
  have HTZA : Hid (Tz ((w.alloc (.cells #[.int .i64 ad, .int .i64 rg, .bool hd, .bool pn] 93)).alloc (.cells #[.int .i64 0, .int .i64 0] 38))) := tz_kept HTZ.out (by rw [heb] at HBA; exact HBA.out.block)
  generalize (w.alloc (.cells #[.int .i64 ad, .int .i64 rg, .bool hd, .bool pn] 93)).alloc (.cells #[.int .i64 0, .int .i64 0] 38) = wa at *
  clear c1 HTZ
  have HEW : Hid (eb = w.heap.size) := heb
  clear heb hrb
  refine (mfirstb_any 0 wa HTA.out.map HTZA.out (by omega) (Nat.zero_le _)).mono ?_
  rintro e w' ⟨rfl, rfl⟩
  rw [HFV.out]
  have c0 := HTA.out.head.1
  have c1 := HTA.out.head.2.1
  go_wp2_with fail
  refine (msetF i true wa HTA.out.map (by omega) hiK).mono ?_
  rintro e w1 ⟨rfl, hbm, hon, hsz⟩
  have HON := Lib.hid hon
  have HBM := Lib.hid hbm
  have HSZ := Lib.hid hsz
  have ht1 : w1.heap[t]? = wa.heap[t]? := hon.block t HTA.out.lt.1 HTA.out.nf.1
  have htb1 : w1.heap[tb]? = wa.heap[tb]? := hon.block tb HTA.out.lt.2 HTA.out.nf.2
  have heb1 : w1.heap[eb]? = wa.heap[eb]? := hon.block eb (Array.getElem?_eq_some_iff.1 HEB.out).1 (fun hf => by have h1 := HFS.out eb (HF3.out eb hf); have h2 := HEL.out.1; have h3 := HEW.out; omega)
  have hrb1 : w1.heap[rb]? = wa.heap[rb]? := hon.block rb (Array.getElem?_eq_some_iff.1 HRB.out).1 (fun hf => by have h1 := HFS.out rb (HF3.out rb hf); have h2 := HEL.out.2; have h3 := HEW.out; omega)
  have HT1 := Lib.hid (ht1.trans HTA.out.block)
  have HTB1 := Lib.hid (htb1.trans HTA.out.slots)
  have HE1 := Lib.hid (heb1.trans HEB.out)
  have HR1 := Lib.hid (hrb1.trans HRB.out)
  have d0 := (cells_of_block HT1.out 0).1
  simp at d0
  have s0 := sl_cells HTB1.out HX.out 0 (by omega)
  have s1 := sl_cells HTB1.out HX.out 1 (by omega)
  have s2 := sl_cells HTB1.out HX.out 2 (by omega)
  have s3 := sl_cells HTB1.out HX.out 3 (by omega)
  have s4 := sl_cells HTB1.out HX.out 4 (by omega)
  have s5 := sl_cells HTB1.out HX.out 5 (by omega)
  simp [slV] at s0 s1 s2 s3 s4 s5
  obtain ⟨s0, f0⟩ := s0
  obtain ⟨s1, f1⟩ := s1
  obtain ⟨s2, f2⟩ := s2
  obtain ⟨s3, f3⟩ := s3
  obtain ⟨s4, f4⟩ := s4
  obtain ⟨s5, f5⟩ := s5
  have e0 := (cells_of_block HE1.out 0).1
  have e1 := (cells_of_block HE1.out 1).1
  have e2 := (cells_of_block HE1.out 2).1
  have e3 := (cells_of_block HE1.out 3).1
  simp at e0 e1 e2 e3
  have r0 := cells_of_block HR1.out 0
  have r1 := cells_of_block HR1.out 1
  simp at r0 r1
  obtain ⟨r0, g0⟩ := r0
  obtain ⟨r1, g1⟩ := r1
  have hne : tb ≠ eb := fun e => by have h1 := HFS.out tb HF2.out; have h2 := HEL.out.1; have h3 := HEW.out; omega
  have hne2 : tb ≠ rb := fun e => by have h1 := HFS.out tb HF2.out; have h2 := HEL.out.2; have h3 := HEW.out; omega
  have hiK' : (i : Int) < (K : Int) := by omega
  clear hbm hon hsz ht1 htb1 heb1 hrb1 c0 c1
  obtain ⟨gn, hgn⟩ : ∃ gn, gn = x.gen := ⟨_, rfl⟩
  rw [← hgn] at s0 hgen
  have HGN := Lib.hid hgn
  clear hgn
  go_wp2_with fail
  have hset := setCell_sl HTB1.out (j := 0) (x' := ⟨gn + 1, x.used, x.addr, x.region, x.held, x.pinned⟩) (v := .int .i64 ((gn : Int) + 1)) HX.out (by rw [HGN.out]; rfl) (by omega)
  rw [Nat.add_zero] at hset
  have HTB2 := Lib.hid hset
  have hkk : ∀ k, k ≠ tb → (w1.setCell ⟨tb, i * 6, none⟩ (.int .i64 ((gn : Int) + 1))).heap[k]? = w1.heap[k]? := fun k hk => Below.heap_setCell _ _ _ _ hk
  have HO2 : Hid (Only F w1 (w1.setCell ⟨tb, i * 6, none⟩ (.int .i64 ((gn : Int) + 1)))) := (Only.refl F w1).setCell (p := ⟨tb, i * 6, none⟩) (Or.inl HF2.out) _
  clear hset s0 s1 s2 s3 s4 s5 f0 f1 f2 f3 f4 f5 e0 e1 e2 e3 r0 r1 g0 g1 d0
  generalize w1.setCell ⟨tb, i * 6, none⟩ (.int .i64 ((gn : Int) + 1)) = w2 at *
  have HKK := Lib.hid hkk
  have hlen : i < sl.length := (List.getElem?_eq_some_iff.1 HX.out).1
  have hx2 : (sl.set i ⟨gn + 1, x.used, x.addr, x.region, x.held, x.pinned⟩)[i]? = some ⟨gn + 1, x.used, x.addr, x.region, x.held, x.pinned⟩ := List.getElem?_set_self hlen
  have s0 := sl_cells HTB2.out hx2 0 (by omega)
  have s1 := sl_cells HTB2.out hx2 1 (by omega)
  have s2 := sl_cells HTB2.out hx2 2 (by omega)
  have s3 := sl_cells HTB2.out hx2 3 (by omega)
  have s4 := sl_cells HTB2.out hx2 4 (by omega)
  have s5 := sl_cells HTB2.out hx2 5 (by omega)
  simp [slV] at s0 s1 s2 s3 s4 s5
  obtain ⟨s0, f0⟩ := s0
  obtain ⟨s1, f1⟩ := s1
  obtain ⟨s2, f2⟩ := s2
  obtain ⟨s3, f3⟩ := s3
  obtain ⟨s4, f4⟩ := s4
  obtain ⟨s5, f5⟩ := s5
  have HE2 := Lib.hid ((hkk eb (Ne.symm hne)).trans HE1.out)
  have HR2 := Lib.hid ((hkk rb (Ne.symm hne2)).trans HR1.out)
  have e0 := (cells_of_block HE2.out 0).1
  have e1 := (cells_of_block HE2.out 1).1
  have e2 := (cells_of_block HE2.out 2).1
  have e3 := (cells_of_block HE2.out 3).1
  simp at e0 e1 e2 e3
  have r0 := cells_of_block HR2.out 0
  have r1 := cells_of_block HR2.out 1
  simp at r0 r1
  obtain ⟨r0, g0⟩ := r0
  obtain ⟨r1, g1⟩ := r1
  clear hkk hx2
  go_region
  rename_i Kc hKc
  refine hKc _ _ ?_
  have HTB3 : Hid ((((((w2.setCell ⟨tb, i * 6 + 1, none⟩ (.bool true)).setCell ⟨tb, i * 6 + 2, none⟩ (.int .i64 ad)).setCell ⟨tb, i * 6 + 2 + 1, none⟩ (.int .i64 rg)).setCell ⟨tb, i * 6 + 2 + 2, none⟩ (.bool hd)).setCell ⟨tb, i * 6 + 2 + 3, none⟩ (.bool pn)).heap[tb]? = some (.cells (slcells (sl.set i ⟨gn + 1, true, ad, rg, hd, pn⟩)).toArray 172 (0, 0))) := by
    have h1 := setCell_sl HTB2.out (i := i) (j := 1) (x' := ⟨gn + 1, true, x.addr, x.region, x.held, x.pinned⟩) (v := .bool true) (List.getElem?_set_self hlen) rfl (by omega)
    rw [List.set_set] at h1
    have h2 := setCell_sl4 h1 (i := i) (x := ⟨gn + 1, true, x.addr, x.region, x.held, x.pinned⟩) (List.getElem?_set_self hlen) ad rg hd pn
    rw [List.set_set] at h2
    exact h2
  have hkk : ∀ k, k ≠ tb → (((((w2.setCell ⟨tb, i * 6 + 1, none⟩ (.bool true)).setCell ⟨tb, i * 6 + 2, none⟩ (.int .i64 ad)).setCell ⟨tb, i * 6 + 2 + 1, none⟩ (.int .i64 rg)).setCell ⟨tb, i * 6 + 2 + 2, none⟩ (.bool hd)).setCell ⟨tb, i * 6 + 2 + 3, none⟩ (.bool pn)).heap[k]? = w2.heap[k]? := fun k hk => by
    rw [Below.heap_setCell _ _ _ _ hk, Below.heap_setCell _ _ _ _ hk, Below.heap_setCell _ _ _ _ hk, Below.heap_setCell _ _ _ _ hk, Below.heap_setCell _ _ _ _ hk]
  have HO3 : Hid (Only F w2 (((((w2.setCell ⟨tb, i * 6 + 1, none⟩ (.bool true)).setCell ⟨tb, i * 6 + 2, none⟩ (.int .i64 ad)).setCell ⟨tb, i * 6 + 2 + 1, none⟩ (.int .i64 rg)).setCell ⟨tb, i * 6 + 2 + 2, none⟩ (.bool hd)).setCell ⟨tb, i * 6 + 2 + 3, none⟩ (.bool pn))) := (((((Only.refl F w2).setCell (p := ⟨tb, _, none⟩) (Or.inl HF2.out) _).setCell (p := ⟨tb, _, none⟩) (Or.inl HF2.out) _).setCell (p := ⟨tb, _, none⟩) (Or.inl HF2.out) _).setCell (p := ⟨tb, _, none⟩) (Or.inl HF2.out) _).setCell (p := ⟨tb, _, none⟩) (Or.inl HF2.out) _
  clear s0 s1 s2 s3 s4 s5 f0 f1 f2 f3 f4 f5 e0 e1 e2 e3 r0 r1 g0 g1
  generalize ((((w2.setCell ⟨tb, i * 6 + 1, none⟩ (.bool true)).setCell ⟨tb, i * 6 + 2, none⟩ (.int .i64 ad)).setCell ⟨tb, i * 6 + 2 + 1, none⟩ (.int .i64 rg)).setCell ⟨tb, i * 6 + 2 + 2, none⟩ (.bool hd)).setCell ⟨tb, i * 6 + 2 + 3, none⟩ (.bool pn) = w3 at *
  have HR3 := Lib.hid ((hkk rb (Ne.symm hne2)).trans HR2.out)
  have HK3 := Lib.hid hkk
  have s0 := (sl_cells HTB3.out (List.getElem?_set_self hlen) 0 (by omega)).1
  simp [slV] at s0
  have r0 := cells_of_block HR3.out 0
  have r1 := cells_of_block HR3.out 1
  simp at r0 r1
  obtain ⟨r0, g0⟩ := r0
  obtain ⟨r1, g1⟩ := r1
  clear hkk
  go_wp2_with fail
  try simp only [Exit.inBlock, Exit.then]
  have hrne : ∀ k, F k → k ≠ rb := fun k hf e => by have h1 := HFS.out k hf; have h2 := HEL.out.2; have h3 := HEW.out; omega
  have hbk : ((w3.setCell ⟨rb, 0, none⟩ (.int .i64 i)).setCell ⟨rb, 1, none⟩ (.int .i64 ((gn : Int) + 1))).heap[rb]? = some (.cells #[.int .i64 i, .int .i64 ((gn : Int) + 1)] 38 (0, 0)) := by
    simpa using block_setCell (block_setCell HR3.out 0 (.int .i64 i)) 1 (.int .i64 ((gn : Int) + 1))
  have hkf : ∀ k, k ≠ rb → ((w3.setCell ⟨rb, 0, none⟩ (.int .i64 i)).setCell ⟨rb, 1, none⟩ (.int .i64 ((gn : Int) + 1))).heap[k]? = w3.heap[k]? := fun k hk => by
    rw [Below.heap_setCell _ _ _ _ hk, Below.heap_setCell _ _ _ _ hk]
  have hoa : Only F w wa := Only.of_below (by have := HBA.out; rw [HEW.out] at this; exact this) F
  have ho1 : Only F w w3 := ((hoa.trans (HON.out.mono HF3.out) (fun k hk => Or.inl hk)).trans HO2.out (fun k hk => Or.inl hk)).trans HO3.out (fun k hk => Or.inl hk)
  have htne : t ≠ tb := HTA.out.ne
  have hr0 : w.heap.size ≤ rb := by have h2 := HEL.out.2; have h3 := HEW.out; omega
  refine bodyPost_ret (results_blk rfl _ _ rb _ _ _ _ rfl (show _ = _ from hbk) Tryz.underlying38 rfl rfl) rfl ⟨?_, ?_, ((ho1.setCell (p := ⟨rb, 0, none⟩) (Or.inr hr0) _).setCell (p := ⟨rb, 1, none⟩) (Or.inr hr0) _).drew⟩
  · rw [← HGN.out]; rfl
  · rw [← HGN.out]
    refine ⟨tb, m, Fm, ⟨?_, ?_, ?_, htne, HTA.out.nf, by rw [List.length_set]; exact HTA.out.len, HTA.out.kb⟩, HF1.out, HF2.out, HF3.out⟩
    · exact (hkf t (hrne t HF1.out)).trans ((HK3.out t htne).trans ((HKK.out t htne).trans HT1.out))
    · exact (hkf tb hne2).trans HTB3.out
    · rw [usedB_set sl hlen]
      refine HBM.out.kept (fun k hf _ => ?_)
      have hkt : k ≠ tb := fun e => HTA.out.nf.2 (e ▸ hf)
      exact (hkf k (hrne k (HF3.out k hf))).trans ((HK3.out k hkt).trans (HKK.out k hkt))
set_option maxRecDepth 100000 in
theorem tdrop_any {x : Sl} {i : Nat} (w : World) (h : TbF w F t K sl) (hfs : ∀ k, F k → k < w.heap.size) (hx : sl[i]? = some x) (hu : x.used = true) (hgen : x.gen < 255) : Calls Tryz.prog 115 #[.pointer (some ⟨t, 0, none⟩), .agg #[.int .i64 i, .int .i64 x.gen]] w fun e w' => e = .returned (.int .i64 0) ∧ TbF w' F t K (sl.set i ⟨x.gen, false, 0, 0, false, false⟩) ∧ Only F w w' := by
  obtain ⟨tb, m, Fm, h, h1, h2, h3⟩ := h
  have hiK : i < K := by rw [← h.len]; exact (List.getElem?_eq_some_iff.1 hx).1
  have HT := Lib.hid h
  have HX := Lib.hid hx
  have HU := Lib.hid hu
  have HF1 := Lib.hid h1
  have HF2 := Lib.hid h2
  have HF3 := Lib.hid h3
  have HFS := Lib.hid hfs
  have hkb := h.kb.2
  clear h hx hu h1 h2 h3 hfs
  go_enter Tryz.func115, Tryz.ntmps115
  go_wp2_with fail
  have HBA : Hid (Below w.heap.size w (w.alloc (.cells #[.int .i64 i, .int .i64 x.gen] 38))) := (Below.refl _ w).alloc (Nat.le_refl _) _
  obtain ⟨eb, heb⟩ : ∃ eb, eb = w.heap.size := ⟨_, rfl⟩
  have HEB : Hid ((w.alloc (.cells #[.int .i64 i, .int .i64 x.gen] 38)).heap[eb]? = some (.cells #[.int .i64 i, .int .i64 x.gen] 38 (0, 0))) := by
    rw [heb]; exact heap_alloc_new w _
  have HTA := Lib.hid (HT.out.kept HBA.out.block)
  rw [← heb]
  rw [← heb] at HBA
  generalize w.alloc (.cells #[.int .i64 i, .int .i64 x.gen] 38) = wa at *
  have HEW : Hid (eb = w.heap.size) := heb
  clear heb
  refine (tfind_at wa HTA.out HX.out HU.out).mono ?_
  rintro e w1 ⟨rfl, hb⟩
  have ht1 := HTA.out.kept (w' := w1) hb.block
  have HT1 := Lib.hid ht1
  have HE1 := Lib.hid ((hb.block eb (Array.getElem?_eq_some_iff.1 HEB.out).1).trans HEB.out)
  have HB1 : Hid (Only F w w1) := (Only.of_below (by have := HBA.out; rw [HEW.out] at this; exact this) F).trans (Only.of_below hb F) (fun k hk => Or.inl hk)
  have s0 := sl_cells ht1.slots HX.out 0 (by omega)
  have s1 := sl_cells ht1.slots HX.out 1 (by omega)
  have s2 := sl_cells ht1.slots HX.out 2 (by omega)
  have s3 := sl_cells ht1.slots HX.out 3 (by omega)
  have s4 := sl_cells ht1.slots HX.out 4 (by omega)
  have s5 := sl_cells ht1.slots HX.out 5 (by omega)
  simp [slV] at s0 s1 s2 s3 s4 s5
  obtain ⟨s0, f0⟩ := s0
  obtain ⟨s1, f1⟩ := s1
  obtain ⟨s2, f2⟩ := s2
  obtain ⟨s3, f3⟩ := s3
  obtain ⟨s4, f4⟩ := s4
  obtain ⟨s5, f5⟩ := s5
  have e0 := (cells_of_block HE1.out 0).1
  simp at e0
  have c1 := ht1.head.2.1
  have htne : t ≠ tb := ht1.ne
  have hne : eb ≠ tb := fun e => by have h1 := HFS.out tb HF2.out; have h3 := HEW.out; omega
  obtain ⟨gn, hgn⟩ : ∃ gn, gn = x.gen := ⟨_, rfl⟩
  rw [← hgn] at s0 hgen
  have HGN := Lib.hid hgn
  have hg255 : ((gn : Int) == 255) = false := by simp; omega
  clear hb ht1 hgn
  go_wp2_with fail
  have hlen : i < sl.length := (List.getElem?_eq_some_iff.1 HX.out).1
  have HTB3 : Hid ((((((w1.setCell ⟨tb, i * 6 + 1, none⟩ (.bool false)).setCell ⟨tb, i * 6 + 2, none⟩ (.int .i64 0)).setCell ⟨tb, i * 6 + 2 + 1, none⟩ (.int .i64 0)).setCell ⟨tb, i * 6 + 2 + 2, none⟩ (.bool false)).setCell ⟨tb, i * 6 + 2 + 3, none⟩ (.bool false)).heap[tb]? = some (.cells (slcells (sl.set i ⟨gn, false, 0, 0, false, false⟩)).toArray 172 (0, 0))) := by
    have h1 := setCell_sl HT1.out.slots (i := i) (j := 1) (x' := ⟨gn, false, x.addr, x.region, x.held, x.pinned⟩) (v := .bool false) HX.out (by rw [HGN.out]; rfl) (by omega)
    have h2 := setCell_sl4 h1 (i := i) (x := ⟨gn, false, x.addr, x.region, x.held, x.pinned⟩) (List.getElem?_set_self hlen) 0 0 false false
    rw [List.set_set] at h2
    exact h2
  have hkk : ∀ k, k ≠ tb → (((((w1.setCell ⟨tb, i * 6 + 1, none⟩ (.bool false)).setCell ⟨tb, i * 6 + 2, none⟩ (.int .i64 0)).setCell ⟨tb, i * 6 + 2 + 1, none⟩ (.int .i64 0)).setCell ⟨tb, i * 6 + 2 + 2, none⟩ (.bool false)).setCell ⟨tb, i * 6 + 2 + 3, none⟩ (.bool false)).heap[k]? = w1.heap[k]? := fun k hk => by
    rw [Below.heap_setCell _ _ _ _ hk, Below.heap_setCell _ _ _ _ hk, Below.heap_setCell _ _ _ _ hk, Below.heap_setCell _ _ _ _ hk, Below.heap_setCell _ _ _ _ hk]
  have HO3 : Hid (Only F w1 (((((w1.setCell ⟨tb, i * 6 + 1, none⟩ (.bool false)).setCell ⟨tb, i * 6 + 2, none⟩ (.int .i64 0)).setCell ⟨tb, i * 6 + 2 + 1, none⟩ (.int .i64 0)).setCell ⟨tb, i * 6 + 2 + 2, none⟩ (.bool false)).setCell ⟨tb, i * 6 + 2 + 3, none⟩ (.bool false))) := (((((Only.refl F w1).setCell (p := ⟨tb, _, none⟩) (Or.inl HF2.out) _).setCell (p := ⟨tb, _, none⟩) (Or.inl HF2.out) _).setCell (p := ⟨tb, _, none⟩) (Or.inl HF2.out) _).setCell (p := ⟨tb, _, none⟩) (Or.inl HF2.out) _).setCell (p := ⟨tb, _, none⟩) (Or.inl HF2.out) _
  clear s0 s1 s2 s3 s4 s5 f0 f1 f2 f3 f4 f5
  generalize ((((w1.setCell ⟨tb, i * 6 + 1, none⟩ (.bool false)).setCell ⟨tb, i * 6 + 2, none⟩ (.int .i64 0)).setCell ⟨tb, i * 6 + 2 + 1, none⟩ (.int .i64 0)).setCell ⟨tb, i * 6 + 2 + 2, none⟩ (.bool false)).setCell ⟨tb, i * 6 + 2 + 3, none⟩ (.bool false) = w3 at *
  have d1 := (World.cell?_of_block (a := ⟨t, 1, none⟩) (hkk t htne)).trans c1
  have d2 := (World.cell?_of_block (a := ⟨eb, 0, none⟩) (hkk eb hne)).trans e0
  have HKK := Lib.hid hkk
  have HBM : Hid (BMF w3 Fm m K (usedB sl)) := HT1.out.map.kept (fun k hf _ => hkk k (fun e => HT1.out.nf.2 (e ▸ hf)))
  clear hkk c1 e0
  refine wp_region_held_drew (S := fun W => W.cell? ⟨t, 1, none⟩ = some (.pointer (some ⟨m, 0, none⟩)) ∧ W.cell? ⟨eb, 0, none⟩ = some (.int .i64 i)) (by kernel_rfl) ⟨d1, d2⟩ (fun hH => ?_)
  refine takeH 0 (v := ?_) rfl (by kernel_rfl) (by kernel_rfl) (by kernel_rfl) (fun _ _ _ h => h) (by rfl) ?_ (by assumption) ?_
  rotate_left
  · intro W hW
    go_simp
    try with_reducible rfl
  try simp only [Act.put, List.setIfInBounds_toArray, List.set_cons_zero, List.set_cons_succ]
  refine takeH 1 (v := ?_) rfl (by kernel_rfl) (by kernel_rfl) (by kernel_rfl) (fun _ _ _ h => h) (by rfl) ?_ (by assumption) ?_
  rotate_left
  · intro W hW
    go_simp
    try with_reducible rfl
  try simp only [Act.put, List.setIfInBounds_toArray, List.set_cons_zero, List.set_cons_succ]
  refine takeH 2 (v := ?_) rfl (by kernel_rfl) (by kernel_rfl) (by kernel_rfl) (fun _ _ _ h => h) (by rfl) ?_ (by assumption) ?_
  rotate_left
  · intro W hW
    go_simp
    try with_reducible rfl
  try simp only [Act.put, List.setIfInBounds_toArray, List.set_cons_zero, List.set_cons_succ]
  refine takeH 3 (v := ?_) rfl (by kernel_rfl) (by kernel_rfl) (by kernel_rfl) (fun _ _ _ h => h) (by rfl) ?_ (by assumption) ?_
  rotate_left
  · intro W hW
    go_simp
    try with_reducible rfl
  try simp only [Act.put, List.setIfInBounds_toArray, List.set_cons_zero, List.set_cons_succ]
  refine takeH 4 (v := ?_) rfl (by kernel_rfl) (by kernel_rfl) (by kernel_rfl) (fun _ _ _ h => h) (by rfl) ?_ (by assumption) ?_
  rotate_left
  · intro W hW
    go_simp
    try with_reducible rfl
  try simp only [Act.put, List.setIfInBounds_toArray, List.set_cons_zero, List.set_cons_succ]
  refine takeH 5 (v := ?_) rfl (by kernel_rfl) (by kernel_rfl) (by kernel_rfl) (fun _ _ _ h => h) (by rfl) ?_ (by assumption) ?_
  rotate_left
  · intro W hW
    go_simp
    try with_reducible rfl
  try simp only [Act.put, List.setIfInBounds_toArray, List.set_cons_zero, List.set_cons_succ]
  refine wpAnyH_ready (rs := [6]) (by kernel_rfl) (by simp) (readyH rfl (fun K hK => ?_) AllReadyH.nil)
  rw [if_pos (by rfl)]
  go_simp
  refine (msetF i false w3.drew (HBM.out.kept (fun _ _ _ => rfl)) (by omega) hiK).mono ?_
  rintro e w4 ⟨rfl, hbm, hon, hsz⟩
  have HBM4 := Lib.hid hbm
  have HON4 := Lib.hid hon
  have hk4 : ∀ k, k < w3.heap.size → ¬ Fm k → w4.heap[k]? = w3.heap[k]? := fun k hl hn => hon.block k hl hn
  have HK4 := Lib.hid hk4
  have htl3 : t < w3.heap.size := World.block_lt_of_cell? w3 _ d1
  have hel3 : eb < w3.heap.size := World.block_lt_of_cell? w3 _ d2
  have hne4 : ¬ Fm eb := fun hf => by have h1 := HFS.out eb (HF3.out eb hf); have h3 := HEW.out; omega
  have g1 := (World.cell?_of_block (a := ⟨t, 1, none⟩) (hk4 t htl3 HT1.out.nf.1)).trans d1
  have g2 := (World.cell?_of_block (a := ⟨eb, 0, none⟩) (hk4 eb hel3 hne4)).trans d2
  clear hbm hon hk4
  refine hK.out _ _ ⟨g1, g2⟩ (fun hH => ?_)
  clear hK K
  try simp only [Act.put, List.setIfInBounds_toArray, List.set_cons_zero, List.set_cons_succ]
  refine wpAnyH_done (by kernel_rfl) ?_ _
  go_wp2_with fail
  go_ret
  refine ⟨rfl, ?_, ?_⟩
  · rw [← HGN.out]
    have htb3 : tb < w3.heap.size := (Array.getElem?_eq_some_iff.1 HTB3.out).1
    refine ⟨tb, m, Fm, ⟨?_, (HK4.out tb htb3 HT1.out.nf.2).trans HTB3.out, ?_, htne, HT1.out.nf, by rw [List.length_set]; exact HT1.out.len, HT1.out.kb⟩, HF1.out, HF2.out, HF3.out⟩
    · exact (HK4.out t htl3 HT1.out.nf.1).trans ((HKK.out t htne).trans HT1.out.block)
    · rw [usedB_set sl hlen]; exact HBM4.out
  · exact (HB1.out.trans HO3.out (fun k hk => Or.inl hk)).drew.trans (HON4.out.mono HF3.out) (fun k hk => Or.inl hk)
end Go.Proofs.YtcdpnfchmpncjaaGreatDoor
namespace Go.Tr
open Go.RowKit
section
variable {P : Program} {ops : Array Oper} {md : Region.Mode} {Q : Exit → Act → World → Prop} {S : World → Prop}
theorem tk (i : Nat) {oi : Oper} {v : Value} {fuel : Nat} {listed : Array Bool} {a : Act} {w : World} (ho : (ops.toList.drop i).head? = some oi)
    (hy : ∀ w, S w → (execOp a.eval oi).run P w = .ok (.value v) w) (h : wpAnyH P md ops Q S fuel (listed.setIfInBounds i true) (a.put oi.dst v) w) (hS : S w := by assumption)
    (hs : Region.noSelect ops = true := by kernel_rfl) (hf : Region.free md ops listed i = true := by kernel_rfl) (hr : (Region.ready md ops listed).contains i = true := by kernel_rfl)
    (hQ : ∀ c a w, Q (.panic c) (a.put oi.dst v) w → Q (.panic c) a w := by exact fun _ _ _ h => h) (hw : Region.wanted oi (yielded ops a.tmps) = true := by rfl) : wpAnyH P md ops Q S (fuel + 1) listed a w :=
  takeH i ho hs hf hr hQ hw hy hS h
theorem rd (i : Nat) {oi : Oper} {fuel : Nat} {listed : Array Bool} {a : Act} {w : World} (ho : (ops.toList.drop i).head? = some oi)
    (h : ∀ K' : Act → World → Prop, Shut (∀ a w, S w → (S w → wpAnyH P md ops Q S fuel (listed.setIfInBounds i true) a w) → K' a w) → Oper.wp P oi a w K' Q)
    (hw : Region.wanted oi (yielded ops a.tmps) = true := by rfl) (hr : Region.ready md ops listed = [i] := by kernel_rfl) : wpAnyH P md ops Q S (fuel + 1) listed a w :=
  wpAnyH_ready hr (by simp) (readyH ho (fun K hK => by rw [if_pos hw]; exact h K hK) AllReadyH.nil)
theorem rd2 (i j : Nat) {oi oj : Oper} {fuel : Nat} {listed : Array Bool} {a : Act} {w : World} (ho : (ops.toList.drop i).head? = some oi) (hoj : (ops.toList.drop j).head? = some oj)
    (h : ∀ K' : Act → World → Prop, Shut (∀ a w, S w → (S w → wpAnyH P md ops Q S fuel (listed.setIfInBounds i true) a w) → K' a w) → Oper.wp P oi a w K' Q)
    (h2 : ∀ K' : Act → World → Prop, Shut (∀ a w, S w → (S w → wpAnyH P md ops Q S fuel (listed.setIfInBounds j true) a w) → K' a w) → Oper.wp P oj a w K' Q)
    (hw : Region.wanted oi (yielded ops a.tmps) = true := by rfl) (hw2 : Region.wanted oj (yielded ops a.tmps) = true := by rfl) (hr : Region.ready md ops listed = [i, j] := by kernel_rfl) : wpAnyH P md ops Q S (fuel + 1) listed a w :=
  wpAnyH_ready hr (by simp) (readyH ho (fun K hK => by rw [if_pos hw]; exact h K hK) (readyH hoj (fun K hK => by rw [if_pos hw2]; exact h2 K hK) AllReadyH.nil))
theorem still_look {Qs : Act → Prop} {o : Oper} {rest : List Oper} {a : Act} {w : World} (m x : Operand) (t : TypeId) (hop : o.op = Op.lookup t m x false) (v mv xv : Value) (hm : a.eval m = mv) (hx : a.eval x = xv) (hrun : (Instr.lookup t mv xv false).run P w = .ok v w)
    (h : wpStill P ops w Qs rest (a.put o.dst v)) (hw : Region.wanted o (yielded ops a.tmps) = true := by rfl) : wpStill P ops w Qs (o :: rest) a := by
  unfold wpStill
  rw [if_pos hw]
  unfold Oper.still
  simp [execOp, hop, hm, hx, hrun, Result.andThen, Oper.stillUpon]
  exact h
theorem list_look {Qs : Exit → Act → World → Prop} {o : Oper} {rest : List Oper} {a : Act} {w : World} (m x : Operand) (t : TypeId) (hop : o.op = Op.lookup t m x false) (v mv xv : Value) (hm : a.eval m = mv) (hx : a.eval x = xv) (hrun : (Instr.lookup t mv xv false).run P w = .ok v w)
    (h : wpList P ops Qs rest (a.put o.dst v) w) (hg : o.guard = none := by rfl) : wpList P ops Qs (o :: rest) a w := by
  refine wpList_plain hg fun K' hK' => ?_
  unfold Oper.wp
  simp [execOp, hop, hm, hx, hrun, Result.andThen]
  exact hK' _ _ h
theorem exec_look {o : Oper} {a : Act} {w : World} (m x : Operand) (t : TypeId) (hop : o.op = Op.lookup t m x false) (v mv xv : Value) (hm : a.eval m = mv) (hx : a.eval x = xv) (hrun : (Instr.lookup t mv xv false).run P w = .ok v w) : (execOp a.eval o).run P w = .ok (.value v) w := by
  simp [execOp, hop, hm, hx, hrun, Result.andThen]
end
end Go.Tr
namespace Go
variable {P : Program} {l n : Nat} {Q : Exit → Act → World → Prop}
theorem rowsIn_wide {row : String} {args : Array Value} {w : World} {R : Value → World → Prop} (h : Rows P row args w R) : RowsIn (Fence.wide.inRound l) n P row args w R :=
  fun c cs _ => let ⟨v, w', r, s⟩ := h c cs; ⟨v, w', r, stepsIn_wide.2 s⟩
theorem Oper.wpIn_round {o : Oper} {a : Act} {w : World} {next : Act → World → Prop} (hd : ∀ c, o.op ≠ .defer c) (h : o.wp P a w next Q) : o.wpIn (Fence.wide.inRound l) n P a w next Q := by
  refine ⟨fun f _ => trivial, ?_⟩
  rw [Fence.inRound_round, Oper.semAt_eq _ _ _ hd]
  unfold Oper.wp at h
  generalize (execOp a.eval o).run P w = r at h ⊢
  cases r with
  | ok x w' =>
    cases x with
    | value v => exact h
    | skip => exact h
    | defer d => exact h
    | enter f args =>
      refine ⟨fun h => ?_, CallsIn.inRound l (callsIn_wide.2 h)⟩
      cases h
    | row r args =>
      refine ⟨fun h => ?_, rowsIn_wide h⟩
      cases h
    | _ => exact h.elim
  | halt s w' =>
    cases s with
    | panic v => exact h
    | _ => exact h.elim
def plainOps (ops : Array Oper) : Bool := ops.all fun o => match o.op with | .defer _ => false | _ => true
theorem plainOps_spec {ops : Array Oper} (h : plainOps ops = true) {i : Nat} {o : Oper} (ho : ops[i]? = some o) : ∀ c, o.op ≠ .defer c := by
  unfold plainOps at h
  rw [Array.all_eq_true] at h
  obtain ⟨hi, rfl⟩ := Array.getElem?_eq_some_iff.1 ho
  have := h i hi
  intro c e
  rw [e] at this
  cases this
variable {ops : Array Oper} {md : Region.Mode}
theorem wpOpIn_round (hp : plainOps ops = true) (hlo : ¬ LetsOut Q) {i : Nat} {a : Act} {w : World} {K : Act → World → Prop} (h : wpOp P ops Q i K a w) : wpOpIn (Fence.wide.inRound l) n P ops Q i K a w := by
  unfold wpOp at h
  unfold wpOpIn
  cases ho : ops[i]? with
  | none => simp only [ho] at h; exact h
  | some o =>
    simp only [ho] at h ⊢
    split at h
    · rename_i hw
      rw [if_pos hw]
      rcases h with h | h
      · exact Oper.wpIn_round (plainOps_spec hp ho) h
      · exact absurd h.2 hlo
    · rename_i hw
      rw [if_neg hw]
      exact ⟨fun _ _ => trivial, h⟩
theorem wpAnyIn_round (hp : plainOps ops = true) (hlo : ¬ LetsOut Q) : ∀ (fuel : Nat) (listed : Array Bool) (a : Act) (w : World), wpAny P md ops Q fuel listed a w → wpAnyIn (Fence.wide.inRound l) n P md ops Q fuel listed a w
  | 0, _, _, _, h => h
  | fuel + 1, listed, a, w, h => ⟨h.1, fun i hi => wpOpIn_round hp hlo (wpOp_mono (fun a w h => wpAnyIn_round hp hlo fuel _ a w h) (h.2 i hi))⟩
theorem wpIn_region_held_drew {id : Nat} {a : Act} {w : World} {S : World → Prop} (hp : plainOps ops = true) (hlo : ¬ LetsOut Q) (hm : P.follows .mixedOrders = true) (hS : S w.drew)
    (h : S w.drew → wpAnyH P .any ops Q S ops.size (Array.replicate ops.size false) a w.drew) : (Code.region id ops true).wpIn (Fence.wide.inRound l) n P Q a w :=
  wpIn_region_any hm (wpAnyIn_round hp hlo _ _ _ _ (wpAny_of_held _ _ _ _ (h hS)))
open Go.Tr in
theorem wpIn_region_lastH {id : Nat} {a : Act} {w : World} {S : World → Prop} (hp : plainOps ops = true) (hlo : ¬ LetsOut Q) (m : Nat) (hm : P.follows .mixedOrders = true) (hB : lastB .any ops m = true) (hS : S w.drew)
    (h : S w.drew → wpAnyH P .any (lastOps ops m) (LastQ P ops Q m) S ops.size (Array.replicate ops.size false) a w.drew) : (Code.region id ops true).wpIn (Fence.wide.inRound l) n P Q a w := by
  refine wpIn_region_any hm (wpAnyIn_round hp hlo _ _ _ _ (wpAny_last hB _ _ _ _ (by simp) ?_ (fun i o _ hk => ?_) (wpAny_of_held _ _ _ _ (h hS))))
  · have := (lastB_spec hB).1
    simp [this]
  · simp [Array.getElem?_replicate] at hk
    split at hk <;> cases hk
end Go
namespace Go
open Go.RowKit
variable {P : Program}
def SeqAll {α : Type} (St : Nat → World → World → Prop) (Kp : World → World → Prop) (P : Program) (gf : Nat) (lb : Array Value) (encs : α → Array Value) (xs : List α) (w : World) : Prop :=
  ∀ (l : Nat) (J : List α → World → Prop) (W : World), Below w.heap.size w W → (∀ pre A B, J pre A → St W.heap.size A B → J pre B) →
    (∀ pre x W1, J pre W1 → pre ++ [x] <+: xs → YieldAt Fence.wide 1 P l (encs x) W1 fun e W' => e = .returned (.bool true) ∧ J (pre ++ [x]) W' ∧ Kp W1 W') →
    J [] W →
    CallsIn Fence.wide 2 P gf (#[.func (.yield l) #[] #[]] ++ lb) W fun e W' => (∃ v, e = .returned v) ∧ J xs W'
theorem YieldAt.any {n m l : Nat} {args : Array Value} {W : World} {R : Ending → World → Prop} (h : YieldAt Fence.wide n P l args W R) : YieldAt Fence.wide m P l args W R := by
  obtain ⟨fn, tmps, assign, body, h1, h2, h3⟩ := h
  exact ⟨fn, tmps, assign, body, h1, h2, fun c cs _ => h3 c cs (room_wide _)⟩
theorem YieldAt.inRound {n l l' : Nat} {args : Array Value} {W : World} {R : Ending → World → Prop} (h : YieldAt Fence.wide n P l args W R) : YieldAt (Fence.wide.inRound l') n P l args W R := h
theorem RoundIn.any {n m l : Nat} {f : FuncId} {tmps : Array Value} {assign body : Code} {W : World} {R : Ending → World → Prop} (h : RoundIn Fence.wide n P l f tmps assign body W R) : RoundIn Fence.wide m P l f tmps assign body W R :=
  ⟨h.1, fun c cs _ => h.2 c cs (room_wide _)⟩
def goesOn (D l : Nat) (Kp : World → World → Prop) (W : World) (J : World → Prop) : Act → World → Prop := fun _ W' => W'.heap[l]? = W.heap[l]? ∧ W'.heap[D]? = W.heap[D]? ∧ Kp W W' ∧ J W'
theorem range_all {α : Type} {m : Nat} {g : Operand} {ps : Array Tmp} {assign body : Code} {Q : Exit → Act → World → Prop} {a : Act} {w w0 : World} {gf : Nat} {lb : Array Value}
    (hg : a.eval g = .func (.func gf) #[] lb) (eg : ∀ args w, (callFunc gf args).run P w = .ok (.enter gf args) w)
    {St : Nat → World → World → Prop} {Kp : World → World → Prop} {encs : α → Array Value} {xs : List α} (hseq : SeqAll St Kp P gf lb encs xs w0) (hb0 : Below w0.heap.size w0 w) (hps : ∀ x, (encs x).size = ps.size)
    (hKt : ∀ {A B C : World}, Kp A B → Kp B C → Kp A C) (hKb : ∀ (W : World) (r r' : Loop), W.heap[w.heap.size + 1]? = some (.loop r) → Kp W (W.putObj (w.heap.size + 1) (.loop r')))
    (I : List α → World → Prop) (hIb : ∀ pre W (r r' : Loop), I pre W → W.heap[w.heap.size + 1]? = some (.loop r) → I pre (W.putObj (w.heap.size + 1) (.loop r')))
    (hSt : ∀ pre A B, I pre A → St (w.heap.size + 2) A B → I pre B) (hSk : ∀ A B k, St (w.heap.size + 2) A B → k < w.heap.size + 2 → k < A.heap.size → B.heap[k]? = A.heap[k]?)
    (h0 : ∀ r, I [] ((w.alloc (.deferred (some []))).alloc (.loop r)))
    (hround : ∀ (pre : List α) (x : α) (W : World), I pre W → pre ++ [x] <+: xs → w.heap.size + 1 < W.heap.size → assign.wpIn (Fence.wide.inRound (w.heap.size + 1)) m P
      (Exit.then (fun a1 W1 => W1.heap[w.heap.size + 1]? = W.heap[w.heap.size + 1]? ∧ W1.heap[w.heap.size]? = W.heap[w.heap.size]? ∧ Kp W W1 ∧ ∀ (r : Loop), Kp W1 (W1.putObj (w.heap.size + 1) (.loop r)) →
        body.wpIn (Fence.wide.inRound (w.heap.size + 1)) m P (Exit.then (goesOn w.heap.size (w.heap.size + 1) Kp (W1.putObj (w.heap.size + 1) (.loop r)) (I (pre ++ [x]))) (fun _ _ _ => False)) a1 (W1.putObj (w.heap.size + 1) (.loop r)))
        (fun _ _ _ => False)) { tmps := (ps.zip (encs x)).foldl (fun t (p, v) => t.setIfInBounds p v) a.tmps, defers := [] } W)
    (hdone : ∀ (W : World), I xs W → W.heap[w.heap.size]? = some (.deferred (some [])) → Q .normal { a with defers := { target := .collected w.heap.size, args := #[] } :: a.defers } W) :
    (Code.rangeFunc g ps assign body).wpIn Fence.wide (m + 2) P Q a w := by
  refine wpIn_rangeFunc ?_
  intro fn hfn
  obtain ⟨rec, hrec⟩ : ∃ rec : LoopState → Loop, rec = fun st => { state := st, pending := none, fn, tmps := a.tmps, params := ps, assign, body, defers := w.heap.size } := ⟨_, rfl⟩
  have hL1 : ((w.alloc (.deferred (some []))).alloc (.loop (rec .ready))).heap[w.heap.size + 1]? = some (.loop (rec .ready)) := by
    have := World.alloc_heap_new (w.alloc (.deferred (some []))) (.loop (rec .ready)); rwa [World.size_alloc] at this
  have hD1 : ((w.alloc (.deferred (some []))).alloc (.loop (rec .ready))).heap[w.heap.size]? = some (.deferred (some [])) :=
    (Below.heap_alloc _ _ _ (by simp)).trans (World.alloc_heap_new w _)
  have hI1 := h0 (rec .ready)
  have hsz : ((w.alloc (.deferred (some []))).alloc (.loop (rec .ready))).heap.size = w.heap.size + 2 := by simp
  have hb1 : Below w0.heap.size w0 ((w.alloc (.deferred (some []))).alloc (.loop (rec .ready))) := hb0.trans ((((Below.refl _ w).alloc (Nat.le_refl _) _).alloc (by simp) _).mono hb0.size)
  have hent : (Instr.enterLoop fn a.tmps ps assign body none).run P w = .ok (w.heap.size + 1, [{ target := .collected w.heap.size, args := #[] }]) ((w.alloc (.deferred (some []))).alloc (.loop (rec .ready))) := by
    rw [hrec]; exact run_enterLoop_outer _ _ _ _ _
  generalize (w.alloc (.deferred (some []))).alloc (.loop (rec .ready)) = W0 at *
  refine ⟨w.heap.size + 1, [{ target := .collected w.heap.size, args := #[] }], W0, { target := .fn (.func gf) lb, args := #[.func (.yield (w.heap.size + 1)) #[] #[]] }, W0, gf, #[.func (.yield (w.heap.size + 1)) #[] #[]] ++ lb, W0, hent, ?_, fun _ _ => trivial, ?_, fun _ => by omega, ?_⟩
  · simp only [resolve, hg]
    simp [go_sem]
  · simp [invoke, go_sem, eg]
  have hcall := hseq (w.heap.size + 1) (fun pre W => I pre W ∧ W.heap[w.heap.size + 1]? = some (.loop (rec .ready)) ∧ W.heap[w.heap.size]? = some (.deferred (some []))) W0 hb1
    (fun pre A B h hs => by
      rw [hsz] at hs
      have k1 := (Array.getElem?_eq_some_iff.1 h.2.1).1
      exact ⟨hSt pre A B h.1 hs, (hSk A B _ hs (by omega) k1).trans h.2.1, (hSk A B _ hs (by omega) (by omega)).trans h.2.2⟩)
    (fun pre x W ⟨hi, hl, hd⟩ hpre => by
      have hlt := (Array.getElem?_eq_some_iff.1 hl).1
      have hy := run_yield (P := P) (args := encs x) hl (by rw [hrec]; exact hps x)
      rw [hrec] at hy
      refine ⟨fn, _, assign, body, hy, RoundIn.any (n := m) (roundIn_of_wpIn trivial (wpIn_mono (hround pre x W hi hpre hlt) ?_))⟩
      intro e a1 W1 he
      cases e with
      | normal =>
        obtain ⟨e1, e2, e3, hbody⟩ := he
        have hl1 := e1.trans hl
        have hd1 := e2.trans hd
        refine ⟨_, run_beginRound hl1 (by rw [hrec]), ?_⟩
        have hlt1 := (Array.getElem?_eq_some_iff.1 hl1).1
        have hkb := hKb W1 (rec .ready) { rec .ready with state := .busy } hl1
        refine wpIn_mono (hbody { rec .ready with state := .busy } hkb) ?_
        intro e a2 W2 he2
        cases e with
        | normal =>
          obtain ⟨f1, f2, f3, f4⟩ := he2
          have hl2 := f1.trans (World.putObj_heap_same (o := .loop { rec .ready with state := .busy }) hlt1)
          have hd2 := (f2.trans (World.putObj_heap_other (by omega))).trans hd1
          refine ⟨_, _, run_endRound none hl2, rfl, ⟨hIb _ _ _ _ f4 hl2, ?_, (World.putObj_heap_other (by omega)).trans hd2⟩, hKt e3 (hKt hkb (hKt f3 (hKb _ _ _ hl2)))⟩
          rw [World.putObj_heap_same (Array.getElem?_eq_some_iff.1 hl2).1, hrec]
          rfl
        | _ => exact he2.elim
      | _ => exact he.elim)
    ⟨hI1, hL1, hD1⟩
  refine CallsIn.mono (n := m + 2 - 1) ⟨trivial, fun cs _ => hcall.2 cs (room_wide _)⟩ ?_
  rintro e W' ⟨⟨v, rfl⟩, hi, hl, hd⟩
  refine ⟨none, _, ?_, hdone _ (hIb _ _ (rec .ready) { rec .ready with state := .exhausted } hi hl) ((World.putObj_heap_other (by omega)).trans hd)⟩
  have := run_endLoop (P := P) hl (by rw [hrec]; simp)
  rw [hrec] at this ⊢
  exact this
end Go
