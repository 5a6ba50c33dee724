/-
  Parts of the proof, one behind the other: KImg8, KImg9, KLinks.
-/
import Derived.Test.YtcdpnfchmpncjaaGreatDoorMa25
set_option linter.unusedSimpArgs false
set_option linter.unusedVariables false
namespace Go.Proofs.YtcdpnfchmpncjaaGreatDoor
open Go.RowKit Go.Tr Go.Shelf
variable {w w' : World} {G H : Nat → Prop} {m s b C Wd : Nat} {L : Lay} {ws own : List Nat}
def _root_.Go.Tr.lkN : Option (Nat × Nat) → Nat
  | none => 0
  | some p => linkN p.1 p.2
def _root_.Go.Tr.lkV : Option (Nat × Nat) → Value
  | none => linkV 0 0 0
  | some p => linkV 2 p.1 p.2
def LkOk (o : Option (Nat × Nat)) : Prop := ∀ i g, o = some (i, g) → i < 4096 ∧ 1 ≤ g ∧ g ≤ 255
theorem lkV_is (o : Option (Nat × Nat)) : ∃ k i g : Nat, lkV o = .agg #[.int .i64 k, .int .i64 i, .int .i64 g] := by
  cases o with
  | none => exact ⟨0, 0, 0, rfl⟩
  | some p => exact ⟨2, p.1, p.2, rfl⟩
theorem hlk_any (o : Option (Nat × Nat)) (w : World) (h : LkOk o) : Calls Tryz.prog 144 #[.int .u64 (lkN o : Nat)] w fun e w' => e = .returned (.tuple #[lkV o, .int .i64 0]) ∧ Below w.heap.size w w' := by
  cases o with
  | none => exact hlink0_any w
  | some p => obtain ⟨i, g⟩ := p; obtain ⟨h1, h2, h3⟩ := h i g rfl; exact hlink_any i g w h1 h2 h3
theorem lkN_lt {o : Option (Nat × Nat)} (h : LkOk o) : lkN o < 18446744073709551616 := by
  cases o with
  | none => decide
  | some p => obtain ⟨i, g⟩ := p; obtain ⟨h1, h2, h3⟩ := h i g rfl; show linkN i g < _; unfold linkN; omega
set_option maxRecDepth 100000 in
set_option maxHeartbeats 1000000 in
theorem ilink_any (at' : Nat) (o : Option (Nat × Nat)) (w : World) (h : StF w G s C Wd ws own) (hl : LkOk o) (hat : at' < C * Wd) (ho : own.getD (at' / Wd) 0 ≠ 0) (hw : ws.getD at' 0 = lkN o) : Calls Tryz.prog 101 #[.pointer (some ⟨s, 0, none⟩), .int .i64 at'] w fun e w' => e = .returned (.tuple #[lkV o, .int .i64 0]) ∧ Below w.heap.size w w' := by
  have HRD : Hid (∀ W : World, Below w.heap.size w W → Calls Tryz.prog 143 #[.pointer (some ⟨s, 0, none⟩), .int .i64 at'] W fun e w' => e = .returned (.tuple #[.int .u64 (lkN o : Nat), .int .i64 0]) ∧ W = w') := fun W hb => by
    have := sread_any at' W (h.kept (fun k _ hl => hb.block k hl)) hat ho
    rw [hw] at this
    exact this
  have HLK := Lib.hid (hlk_any o · hl)
  obtain ⟨k, i, g, hv⟩ := lkV_is o
  rw [hv] at HLK ⊢
  obtain ⟨WN, hWN⟩ : ∃ WN, WN = lkN o := ⟨_, rfl⟩
  rw [← hWN] at HRD HLK
  have HBA : Hid (Below w.heap.size w (w.alloc (.cells #[.int .i64 0, .int .i64 0, .int .i64 0] 69))) := (Below.refl _ w).alloc (Nat.le_refl _) _
  obtain ⟨rh, hrh⟩ : ∃ rh, rh = w.heap.size := ⟨_, rfl⟩
  have HRH : Hid ((w.alloc (.cells #[.int .i64 0, .int .i64 0, .int .i64 0] 69)).heap[rh]? = some (.cells #[.int .i64 0, .int .i64 0, .int .i64 0] 69 (0, 0))) := by rw [hrh]; exact heap_alloc_new w _
  have HRE : Hid (w.heap.size ≤ rh) := Nat.le_of_eq hrh.symm
  clear h hl hat ho hw hv hWN
  go_enter Tryz.func101, Tryz.ntmps101
  go_wp2_with fail
  rw [← hrh]
  clear hrh
  generalize w.alloc (.cells #[.int .i64 0, .int .i64 0, .int .i64 0] 69) = wa at *
  refine (HRD.out wa HBA.out).mono ?_
  rintro e w' ⟨rfl, rfl⟩
  go_wp2_with fail
  refine (HLK.out wa).mono ?_
  rintro e w1 ⟨rfl, hb1⟩
  have HB1 : Hid (Below w.heap.size w w1) := HBA.out.trans (hb1.mono HBA.out.size)
  have HH1 := Lib.hid ((hb1.block rh (Array.getElem?_eq_some_iff.1 HRH.out).1).trans HRH.out)
  clear hb1
  have r0 := cells_of_block HH1.out 0
  have r1 := cells_of_block HH1.out 1
  have r2 := cells_of_block HH1.out 2
  simp at r0 r1 r2
  obtain ⟨r0, g0⟩ := r0
  obtain ⟨r1, g1⟩ := r1
  obtain ⟨r2, g2⟩ := r2
  go_wp2_with fail
  try simp only [Exit.inBlock, Exit.then]
  have hbk : ((w1.setCell ⟨rh, 0, none⟩ (.int .i64 k)).setCell ⟨rh, 1, none⟩ (.int .i64 i)).setCell ⟨rh, 2, none⟩ (.int .i64 g) |>.heap[rh]? = some (.cells #[.int .i64 k, .int .i64 i, .int .i64 g] 69 (0, 0)) := by
    simpa using block_setCell (block_setCell (block_setCell HH1.out 0 (.int .i64 k)) 1 (.int .i64 i)) 2 (.int .i64 g)
  have e := HRE.out
  exact bodyPost_ret (results_blk rfl _ _ rh _ _ _ _ rfl hbk Tryz.underlying69 rfl rfl) rfl ⟨rfl, ((HB1.out.setCell e _).setCell e _).setCell e _⟩
end Go.Proofs.YtcdpnfchmpncjaaGreatDoor
namespace Go.Proofs.YtcdpnfchmpncjaaGreatDoor
open Go.RowKit Go.Tr Go.Shelf
variable {w w' : World} {G H : Nat → Prop} {m s b C Wd : Nat} {L : Lay} {ws own : List Nat}
set_option maxRecDepth 100000 in
set_option maxHeartbeats 1000000 in
theorem ireadl_any (addr count slot p : Nat) (o : Option (Nat × Nat)) (w : World) (h : ImgEnv w G H m s b C Wd L ws own) (hob : ObjAt C Wd L ws own addr count slot) (hp : p < L.size count) (href : isRefN L p = true) (hbig : addr ≤ 1048576) (hlt : addr + 1 + p < C * Wd) (ho : own.getD ((addr + 1 + p) / Wd) 0 ≠ 0) (hl : LkOk o) (hw : ws.getD (addr + 1 + p) 0 = lkN o) : Calls Tryz.prog 100 #[.pointer (some ⟨m, 0, none⟩), .int .i64 addr, .int .i64 p, .bool true, .func (.func 101) #[] #[]] w fun e w' => e = .returned (.tuple #[lkV o, .int .i64 0]) ∧ Below w.heap.size w w' := by
  have HW : Hid (∀ W : World, Below w.heap.size w W → Calls Tryz.prog 139 #[.pointer (some ⟨m, 0, none⟩), .int .i64 addr, .int .i64 p, .bool true] W fun e w' => e = .returned (.tuple #[.int .i64 (addr + 1 + p : Nat), .int .i64 0]) ∧ Below W.heap.size W w') := fun W hb => iword_any addr count slot p true W (h.below hb) hob hp href hbig
  have HRD : Hid (∀ W : World, Below w.heap.size w W → Calls Tryz.prog 101 #[.pointer (some ⟨s, 0, none⟩), .int .i64 (addr + 1 + p : Nat)] W fun e w' => e = .returned (.tuple #[lkV o, .int .i64 0]) ∧ Below W.heap.size W w') := fun W hb => ilink_any (addr + 1 + p) o W (h.below hb).st hl hlt ho hw
  have HENV := Lib.hid h
  obtain ⟨k, i, g, hv⟩ := lkV_is o
  rw [hv] at HRD ⊢
  obtain ⟨ad, hat⟩ : ∃ ad, ad = addr + 1 + p := ⟨_, rfl⟩
  rw [← hat] at HW HRD
  have HBA : Hid (Below w.heap.size w ((w.alloc (.cells #[.int .i64 0, .int .i64 0, .int .i64 0] 69)).alloc (.cells #[.int .i64 0, .int .i64 0, .int .i64 0] 69))) := ((Below.refl _ w).alloc (Nat.le_refl _) _).alloc (by simp) _
  obtain ⟨rh, hrh⟩ : ∃ rh, rh = w.heap.size := ⟨_, rfl⟩
  have HRH : Hid (((w.alloc (.cells #[.int .i64 0, .int .i64 0, .int .i64 0] 69)).alloc (.cells #[.int .i64 0, .int .i64 0, .int .i64 0] 69)).heap[rh]? = some (.cells #[.int .i64 0, .int .i64 0, .int .i64 0] 69 (0, 0))) := by rw [hrh]; exact (Below.heap_alloc _ _ _ (by simp)).trans (heap_alloc_new w _)
  have HRE : Hid (w.heap.size ≤ rh) := Nat.le_of_eq hrh.symm
  clear h hob hat hlt ho hl hw hv
  go_enter Tryz.func100, Tryz.ntmps100
  go_wp2_with fail
  rw [← hrh]
  clear hrh
  generalize (w.alloc (.cells #[.int .i64 0, .int .i64 0, .int .i64 0] 69)).alloc (.cells #[.int .i64 0, .int .i64 0, .int .i64 0] 69) = wa at *
  refine (HW.out wa HBA.out).mono ?_
  rintro e w1 ⟨rfl, hb1⟩
  have HB1 : Hid (Below w.heap.size w w1) := HBA.out.trans (hb1.mono HBA.out.size)
  have HH1 := Lib.hid ((hb1.block rh (Array.getElem?_eq_some_iff.1 HRH.out).1).trans HRH.out)
  have hm := (cells_of_block (HENV.out.below HB1.out).im 0).1
  simp at hm
  clear hb1
  go_wp2_with fail
  refine (HRD.out w1 HB1.out).mono ?_
  rintro e w2 ⟨rfl, hb2⟩
  have HB2 : Hid (Below w.heap.size w w2) := HB1.out.trans (hb2.mono HB1.out.size)
  have HH2 := Lib.hid ((hb2.block rh (Array.getElem?_eq_some_iff.1 HH1.out).1).trans HH1.out)
  clear hb2 hm
  have hrl : rh < w2.heap.size := (Array.getElem?_eq_some_iff.1 HH2.out).1
  have r0 := cells_of_block HH2.out 0
  have r1 := cells_of_block HH2.out 1
  have r2 := cells_of_block HH2.out 2
  simp at r0 r1 r2
  obtain ⟨r0, g0⟩ := r0
  obtain ⟨r1, g1⟩ := r1
  obtain ⟨r2, g2⟩ := r2
  go_wp2_with fail
  try simp only [Exit.inBlock, Exit.then]
  have hbk : ((w2.setCell ⟨rh, 0, none⟩ (.int .i64 k)).setCell ⟨rh, 1, none⟩ (.int .i64 i)).setCell ⟨rh, 2, none⟩ (.int .i64 g) |>.heap[rh]? = some (.cells #[.int .i64 k, .int .i64 i, .int .i64 g] 69 (0, 0)) := by
    simpa using block_setCell (block_setCell (block_setCell HH2.out 0 (.int .i64 k)) 1 (.int .i64 i)) 2 (.int .i64 g)
  have e := HRE.out
  have hb5 : Below w.heap.size w (((w2.setCell ⟨rh, 0, none⟩ (.int .i64 k)).setCell ⟨rh, 1, none⟩ (.int .i64 i)).setCell ⟨rh, 2, none⟩ (.int .i64 g)) := ((HB2.out.setCell e _).setCell e _).setCell e _
  exact bodyPost_ret (results_blk rfl _ _ rh _ _ _ _ rfl ((Below.heap_alloc _ _ _ (by simp [World.setCell]; omega)).trans hbk) Tryz.underlying69 rfl rfl) rfl ⟨rfl, hb5.alloc hb5.size _⟩
set_option maxRecDepth 100000 in
set_option maxHeartbeats 1000000 in
theorem ifollow_any (addr count slot p : Nat) (o : Option (Nat × Nat)) (w : World) (h : ImgEnv w G H m s b C Wd L ws own) (hob : ObjAt C Wd L ws own addr count slot) (hp : p < L.size count) (href : isRefN L p = true) (hbig : addr ≤ 1048576) (hlt : addr + 1 + p < C * Wd) (ho : own.getD ((addr + 1 + p) / Wd) 0 ≠ 0) (hl : LkOk o) (hw : ws.getD (addr + 1 + p) 0 = lkN o) : Calls Tryz.prog 51 #[.pointer (some ⟨m, 0, none⟩), .int .i64 addr, .int .i64 p] w fun e w' => e = .returned (.tuple #[lkV o, .int .i64 0]) ∧ Below w.heap.size w w' := by
  have HRD : Hid (∀ W : World, Below w.heap.size w W → Calls Tryz.prog 100 #[.pointer (some ⟨m, 0, none⟩), .int .i64 addr, .int .i64 p, .bool true, .func (.func 101) #[] #[]] W fun e w' => e = .returned (.tuple #[lkV o, .int .i64 0]) ∧ Below W.heap.size W w') := fun W hb => ireadl_any addr count slot p o W (h.below hb) hob hp href hbig hlt ho hl hw
  obtain ⟨k, i, g, hv⟩ := lkV_is o
  rw [hv] at HRD ⊢
  have HBA : Hid (Below w.heap.size w (w.alloc (.cells #[.int .i64 0, .int .i64 0, .int .i64 0] 69))) := (Below.refl _ w).alloc (Nat.le_refl _) _
  obtain ⟨rh, hrh⟩ : ∃ rh, rh = w.heap.size := ⟨_, rfl⟩
  have HRH : Hid ((w.alloc (.cells #[.int .i64 0, .int .i64 0, .int .i64 0] 69)).heap[rh]? = some (.cells #[.int .i64 0, .int .i64 0, .int .i64 0] 69 (0, 0))) := by rw [hrh]; exact heap_alloc_new w _
  have HRE : Hid (w.heap.size ≤ rh) := Nat.le_of_eq hrh.symm
  clear h hob hlt ho hl hw hv
  go_enter Tryz.func51, Tryz.ntmps51
  go_wp2_with fail
  rw [← hrh]
  clear hrh
  generalize w.alloc (.cells #[.int .i64 0, .int .i64 0, .int .i64 0] 69) = wa at *
  refine (HRD.out wa HBA.out).mono ?_
  rintro e w1 ⟨rfl, hb1⟩
  have HB1 : Hid (Below w.heap.size w w1) := HBA.out.trans (hb1.mono HBA.out.size)
  have HH1 := Lib.hid ((hb1.block rh (Array.getElem?_eq_some_iff.1 HRH.out).1).trans HRH.out)
  clear hb1
  have r0 := cells_of_block HH1.out 0
  have r1 := cells_of_block HH1.out 1
  have r2 := cells_of_block HH1.out 2
  simp at r0 r1 r2
  obtain ⟨r0, g0⟩ := r0
  obtain ⟨r1, g1⟩ := r1
  obtain ⟨r2, g2⟩ := r2
  go_wp2_with fail
  try simp only [Exit.inBlock, Exit.then]
  have hbk : ((w1.setCell ⟨rh, 0, none⟩ (.int .i64 k)).setCell ⟨rh, 1, none⟩ (.int .i64 i)).setCell ⟨rh, 2, none⟩ (.int .i64 g) |>.heap[rh]? = some (.cells #[.int .i64 k, .int .i64 i, .int .i64 g] 69 (0, 0)) := by
    simpa using block_setCell (block_setCell (block_setCell HH1.out 0 (.int .i64 k)) 1 (.int .i64 i)) 2 (.int .i64 g)
  have e := HRE.out
  exact bodyPost_ret (results_blk rfl _ _ rh _ _ _ _ rfl hbk Tryz.underlying69 rfl rfl) rfl ⟨rfl, ((HB1.out.setCell e _).setCell e _).setCell e _⟩
set_option maxRecDepth 100000 in
set_option maxHeartbeats 1000000 in
theorem itie_any (addr count slot p idx gen : Nat) (w : World) (h : ImgEnv w G H m s b C Wd L ws own) (hob : ObjAt C Wd L ws own addr count slot) (hp : p < L.size count) (href : isRefN L p = true) (hbig : addr ≤ 1048576) (h1 : idx < 4096) (h2 : 1 ≤ gen) (h3 : gen ≤ 255) (hlt : addr + 1 + p < C * Wd) (ho : own.getD ((addr + 1 + p) / Wd) 0 ≠ 0) : Calls Tryz.prog 96 #[.pointer (some ⟨m, 0, none⟩), .int .i64 addr, .int .i64 p, .agg #[.int .i64 2, .int .i64 idx, .int .i64 gen]] w fun e w' => e = .returned (.int .i64 0) ∧ StF w' G s C Wd (ws.set (addr + 1 + p) (linkN idx gen)) own ∧ Only G w w' := by
  have HW : Hid (∀ W : World, Below w.heap.size w W → Calls Tryz.prog 139 #[.pointer (some ⟨m, 0, none⟩), .int .i64 addr, .int .i64 p, .bool true] W fun e w' => e = .returned (.tuple #[.int .i64 (addr + 1 + p : Nat), .int .i64 0]) ∧ Below W.heap.size W w') := fun W hb => iword_any addr count slot p true W (h.below hb) hob hp href hbig
  have HWD := Lib.hid (hword_any idx gen · h1 h2 h3)
  have hxx : linkN idx gen < 18446744073709551616 := by unfold linkN; omega
  have HRD : Hid (∀ W : World, Below w.heap.size w W → Calls Tryz.prog 136 #[.pointer (some ⟨s, 0, none⟩), .int .i64 (addr + 1 + p : Nat), .int .u64 (linkN idx gen : Nat)] W fun e w' => e = .returned (.int .i64 0) ∧ StF w' G s C Wd (ws.set (addr + 1 + p) (linkN idx gen)) own ∧ Only G W w' ∧ w'.heap.size = W.heap.size) := fun W hb => swrite_any (addr + 1 + p) (linkN idx gen) W (h.below hb).st hxx hlt ho
  have HENV := Lib.hid h
  obtain ⟨ad, hat⟩ : ∃ ad, ad = addr + 1 + p := ⟨_, rfl⟩
  rw [← hat] at HW HRD ⊢
  obtain ⟨WN, hWN⟩ : ∃ WN, WN = linkN idx gen := ⟨_, rfl⟩
  rw [← hWN] at HWD HRD ⊢
  have HBA : Hid (Below w.heap.size w (w.alloc (.cells #[.int .i64 2, .int .i64 idx, .int .i64 gen] 69))) := (Below.refl _ w).alloc (Nat.le_refl _) _
  obtain ⟨rh, hrh⟩ : ∃ rh, rh = w.heap.size := ⟨_, rfl⟩
  have HRH : Hid ((w.alloc (.cells #[.int .i64 2, .int .i64 idx, .int .i64 gen] 69)).heap[rh]? = some (.cells #[.int .i64 2, .int .i64 idx, .int .i64 gen] 69 (0, 0))) := by rw [hrh]; exact heap_alloc_new w _
  clear h hob hat hlt ho hWN hxx
  go_enter Tryz.func96, Tryz.ntmps96
  go_wp2_with fail
  rw [← hrh]
  clear hrh
  generalize w.alloc (.cells #[.int .i64 2, .int .i64 idx, .int .i64 gen] 69) = wa at *
  refine (HW.out wa HBA.out).mono ?_
  rintro e w1 ⟨rfl, hb1⟩
  have HB1 : Hid (Below w.heap.size w w1) := HBA.out.trans (hb1.mono HBA.out.size)
  have HH1 := Lib.hid ((hb1.block rh (Array.getElem?_eq_some_iff.1 HRH.out).1).trans HRH.out)
  have r0 := (cells_of_block HH1.out 0).1
  have r1 := (cells_of_block HH1.out 1).1
  have r2 := (cells_of_block HH1.out 2).1
  simp at r0 r1 r2
  clear hb1
  go_wp2_with fail
  refine (HWD.out w1).mono ?_
  rintro e w2 ⟨rfl, hb2⟩
  have HB2 : Hid (Below w.heap.size w w2) := HB1.out.trans (hb2.mono HB1.out.size)
  have hm := (cells_of_block (HENV.out.below HB2.out).im 0).1
  simp at hm
  clear hb2 r0 r1 r2
  go_wp2_with fail
  refine (HRD.out w2 HB2.out).mono ?_
  rintro e w3 ⟨rfl, hst, hon, hsz⟩
  have HST := Lib.hid hst
  have HO : Hid (Only G w w3) := (Only.of_below HB2.out G).trans hon (fun k hk => Or.inl hk)
  clear hst hon hsz
  go_wp2_with fail
  go_ret
  exact ⟨rfl, HST.out, HO.out⟩
end Go.Proofs.YtcdpnfchmpncjaaGreatDoor
namespace Go.Proofs.YtcdpnfchmpncjaaGreatDoor
open Go.RowKit Go.Tr Go.Shelf
variable {w w' : World} {G H : Nat → Prop} {m s b C Wd : Nat} {L : Lay} {ws own : List Nat}
theorem ImgEnv.kept (h : ImgEnv w G H m s b C Wd L ws own) (hk : ∀ k, G k ∨ H k ∨ k = m → k < w.heap.size → w'.heap[k]? = w.heap[k]?) : ImgEnv w' G H m s b C Wd L ws own :=
  ⟨(hk m (Or.inr (Or.inr rfl)) (Array.getElem?_eq_some_iff.1 h.im).1).trans h.im, h.st.kept (fun k hg hl => hk k (Or.inl hg) hl), h.bk.kept (fun k hg hl => hk k (Or.inr (Or.inl hg)) hl), h.right⟩
theorem _root_.Go.Tr.mod_slot {f r i q : Nat} (h : q < r) : (f + i * r + q - f) % r = q := by
  rw [show f + i * r + q - f = q + r * i by rw [Nat.mul_comm]; omega, Nat.add_mul_mod_self_left, Nat.mod_eq_of_lt h]
theorem _root_.Go.Tr.mem_slots {L : Lay} (h : RightLay L) {count p : Nat} (hp : p ∈ slotsL L count) : p < L.size count ∧ isRefN L p = true := by
  unfold slotsL at hp
  unfold isRefN Lay.size
  rcases List.mem_append.1 hp with hp | hp
  · have := h.refs.1 p hp
    exact ⟨by omega, by rw [if_pos this]; simpa using hp⟩
  · obtain ⟨i, hi, hp⟩ := List.mem_flatMap.1 hp
    obtain ⟨q, hq, rfl⟩ := List.mem_map.1 hp
    have hi := List.mem_range.1 hi
    have hqr := h.recs.1 q hq
    have hm : (i + 1) * L.record ≤ count * L.record := Nat.mul_le_mul_right _ hi
    rw [Nat.add_mul, Nat.one_mul] at hm
    refine ⟨by omega, ?_⟩
    rw [if_neg (by omega), mod_slot hqr]
    simpa using hq
def refE (x : Nat × Option (Nat × Nat)) : Array Value := #[.int .i64 (x.1 : Nat), lkV x.2]
def refsL (L : Lay) (count : Nat) (o : Nat → Option (Nat × Nat)) : List (Nat × Option (Nat × Nat)) := (slotsL L count).map (fun p => (p, o p))
structure LkEnv (C Wd : Nat) (L : Lay) (ws own : List Nat) (addr count slot : Nat) (o : Nat → Option (Nat × Nat)) : Prop where
  obj : ObjAt C Wd L ws own addr count slot
  big : addr ≤ 1048576
  fit : addr + L.size count < C * Wd
  own : Owned own Wd addr (L.size count + 1)
  lk : ∀ p ∈ slotsL L count, LkOk (o p) ∧ ws.getD (addr + 1 + p) 0 = lkN (o p)
theorem follow_of {addr count slot p : Nat} {o : Nat → Option (Nat × Nat)} (h : ImgEnv w G H m s b C Wd L ws own) (k : LkEnv C Wd L ws own addr count slot o) (hp : p ∈ slotsL L count) :
    Calls Tryz.prog 51 #[.pointer (some ⟨m, 0, none⟩), .int .i64 addr, .int .i64 p] w fun e w' => e = .returned (.tuple #[lkV (o p), .int .i64 0]) ∧ Below w.heap.size w w' := by
  obtain ⟨h1, h2⟩ := mem_slots h.right hp
  exact ifollow_any addr count slot p (o p) w h k.obj h1 h2 k.big (by have := k.fit; omega) (by have := k.own.at (i := 1 + p) (by omega); rwa [← Nat.add_assoc] at this) (k.lk p hp).1 (k.lk p hp).2
set_option maxRecDepth 100000 in
set_option maxHeartbeats 4000000 in
theorem links1 (l bm ba addr count slot : Nat) (o : Nat → Option (Nat × Nat)) (O : Nat → Prop) (J : Nat → List (Nat × Option (Nat × Nat)) → World → Prop) (W : World)
    (hbm : W.heap[bm]? = some (.cells #[.pointer (some ⟨m, 0, none⟩)] 49 (0, 0))) (hba : W.heap[ba]? = some (.cells #[.int .i64 addr] 3 (0, 0)))
    (h : ImgEnv W G H m s b C Wd L ws own) (hk : LkEnv C Wd L ws own addr count slot o) (hO : ∀ k, G k ∨ H k ∨ k = m ∨ k = bm ∨ k = ba → ¬ O k) (hOs : ∀ k, O k → k < W.heap.size)
    (hJ : ∀ N pre A B, J N pre A → StepN W.heap.size N A B → J N pre B)
    (hY : ∀ N pre x W1, N ≤ W1.heap.size → J N pre W1 → pre ++ [x] <+: refsL L count o → YieldAt Fence.wide 1 Tryz.prog l (refE x) W1 fun e W' => e = .returned (.bool true) ∧ J N (pre ++ [x]) W' ∧ KeepN O N W1 W')
    (h0 : ∀ N, J N [] W) :
    CallsIn Fence.wide 2 Tryz.prog 193 (#[.func (.yield l) #[] #[]] ++ #[.pointer (some ⟨bm, 0, none⟩), .pointer (some ⟨ba, 0, none⟩)]) W fun e W' => (∃ v, e = .returned v) ∧ ∃ N, J N (refsL L count o) W' := by
  have HF : Hid (∀ W1, Below W.heap.size W W1 → CallsIn Fence.wide 1 Tryz.prog 116 #[.pointer (some ⟨m, 0, none⟩), .int .i64 addr] W1 fun e w' => ∃ v, e = .returned (.tuple #[.agg #[.int .i64 1, .int .i64 count, .int .i64 slot], v, .int .i64 (L.size count : Nat), .int .i64 0]) ∧ LayF w' v L (fun k => W1.heap.size ≤ k ∧ k < w'.heap.size) ∧ Below W1.heap.size W1 w') := fun W1 hb => callsIn_wide.2 (ifindF_any addr count slot W1 (h.below hb) hk.obj)
  have HENV := Lib.hid h
  have HLK := Lib.hid hk
  have HO := Lib.hid hO
  have HOS := Lib.hid hOs
  have HJ := Lib.hid hJ
  have HY := Lib.hid hY
  have H0 := Lib.hid h0
  have HBM := Lib.hid hbm
  have HBA := Lib.hid hba
  have hb1 : Below W.heap.size W (W.alloc (.cells #[.func (.yield l) #[] #[]] 270)) := (Below.refl _ W).alloc (Nat.le_refl _) _
  have HB1 := Lib.hid hb1
  have m0 := (cells_of_block ((hb1.block bm (Array.getElem?_eq_some_iff.1 hbm).1).trans hbm) 0).1
  have a0 := (cells_of_block ((hb1.block ba (Array.getElem?_eq_some_iff.1 hba).1).trans hba) 0).1
  simp at m0 a0
  obtain ⟨bf, hbf⟩ : ∃ bf, bf = W.heap.size := ⟨_, rfl⟩
  have HBF : Hid ((W.alloc (.cells #[.func (.yield l) #[] #[]] 270)).heap[bf]? = some (.cells #[.func (.yield l) #[] #[]] 270 (0, 0))) := by rw [hbf]; exact heap_alloc_new W _
  have HBE := Lib.hid hbf
  obtain ⟨sz, hsz⟩ : ∃ sz, sz = L.size count := ⟨_, rfl⟩
  rw [← hsz] at HF
  clear h hk hO hOs hJ hY h0 hbm hba hb1 hsz
  refine callsIn_of_wp_marks Tryz.func193 rfl trivial ?_ rfl
  simp only [Tryz.ntmps193, List.size_toArray, List.length_cons, List.length_nil, Nat.reduceAdd, Nat.reduceSub, Array.replicate_succ, Array.replicate_zero, List.push_toArray, List.append_toArray, List.nil_append, List.cons_append]
  gi_wp2_with fail
  rw [← hbf]
  clear hbf
  generalize W.alloc (.cells #[.func (.yield l) #[] #[]] 270) = wa at *
  refine ⟨trivial, (HF.out wa HB1.out).mono ?_⟩
  rintro e w2 ⟨v, rfl, hlay, hb2⟩
  obtain ⟨a1, c1, a2, c2, rfl, hsA, hsB, hgA, hgB⟩ := hlay
  have HB2 : Hid (Below W.heap.size W w2) := HB1.out.trans (hb2.mono HB1.out.size)
  have HBF2 := Lib.hid ((hb2.block bf (Array.getElem?_eq_some_iff.1 HBF.out).1).trans HBF.out)
  have HSA := Lib.hid hsA
  have HSB := Lib.hid hsB
  have HGA : Hid (∀ q o, a1 = some ⟨q, o, none⟩ → W.heap.size ≤ q ∧ q < w2.heap.size) := fun q o e => by have := hgA q o e; have := HB1.out.size; omega
  have HGB : Hid (∀ q o, a2 = some ⟨q, o, none⟩ → W.heap.size ≤ q ∧ q < w2.heap.size) := fun q o e => by have := hgB q o e; have := HB1.out.size; omega
  obtain ⟨fx, hfx⟩ : ∃ fx, fx = L.fixed := ⟨_, rfl⟩
  obtain ⟨rx, hrx⟩ : ∃ rx, rx = L.record := ⟨_, rfl⟩
  obtain ⟨n1, hn1⟩ : ∃ n1, n1 = L.refs.length := ⟨_, rfl⟩
  obtain ⟨n2, hn2⟩ : ∃ n2, n2 = L.recs.length := ⟨_, rfl⟩
  have HFX : Hid (fx = L.fixed ∧ rx = L.record ∧ n1 = L.refs.length ∧ n2 = L.recs.length) := ⟨hfx, hrx, hn1, hn2⟩
  rw [← hfx, ← hrx, ← hn1, ← hn2]
  clear hb2 hsA hsB hgA hgB hfx hrx hn1 hn2 m0 a0
  gi_wp2_with fail
  obtain ⟨w3, hw3⟩ : ∃ w3, w3 = (w2.alloc (.cells #[.int .i64 1, .int .i64 count, .int .i64 slot] 128)).alloc (.cells #[.int .i64 fx, .slice a1 n1 c1, .int .i64 rx, .slice a2 n2 c2] 60) := ⟨_, rfl⟩
  have hb23 : Below w2.heap.size w2 w3 := by rw [hw3]; exact ((Below.refl _ w2).alloc (Nat.le_refl _) _).alloc (by simp) _
  rw [← hw3]
  refine ⟨trivial, (callsIn_wide.2 (lslots_any count _ _ _ _ w3)).mono ?_⟩
  rintro e w4 ⟨bl, bc, rfl, hbl, hbc, hbl1, hbc1, hb34⟩
  have hb24 : Below w2.heap.size w2 w4 := hb23.trans (hb34.mono hb23.size)
  have HB4 : Hid (Below W.heap.size W w4) := HB2.out.trans (hb24.mono HB2.out.size)
  have HBF4 := Lib.hid ((hb24.block bf (Array.getElem?_eq_some_iff.1 HBF2.out).1).trans HBF2.out)
  obtain ⟨T, hT⟩ : ∃ T : Nat → Prop, T = fun k => k = bl ∨ k = bc ∨ (∃ o, a1 = some ⟨k, o, none⟩) ∨ ∃ o, a2 = some ⟨k, o, none⟩ := ⟨_, rfl⟩
  have HTW : Hid (∀ k, T k → W.heap.size ≤ k ∧ k < w4.heap.size) := by
    intro k hk
    rw [hT] at hk
    have h1 := HB2.out.size
    have h2 := hb23.size
    have h3 := hb24.size
    rcases hk with rfl | rfl | ⟨o, ho⟩ | ⟨o, ho⟩
    · have := (Array.getElem?_eq_some_iff.1 hbl).1; omega
    · have := (Array.getElem?_eq_some_iff.1 hbc).1; omega
    · have := HGA.out k o ho; omega
    · have := HGB.out k o ho; omega
  have HSEQ : Hid (SeqAll (fun _ A B => Below A.heap.size A B) (KeepT T) Tryz.prog 207 #[.pointer (some ⟨bl, 0, none⟩), .pointer (some ⟨bc, 0, none⟩)] (fun x : Nat => #[.int .i64 (x : Nat)]) (slotsL L count) w4) :=
    slots_seq bl bc count L a1 a2 c1 c2 w4 (by rw [← HFX.out.1, ← HFX.out.2.1, ← HFX.out.2.2.1, ← HFX.out.2.2.2]; exact hbl) hbc (HSA.out.below hb24 (Nat.le_refl _)) (HSB.out.below hb24 (Nat.le_refl _)) (fun q o e => by rw [hT]; exact Or.inr (Or.inr (Or.inl ⟨o, e⟩))) (fun q o e => by rw [hT]; exact Or.inr (Or.inr (Or.inr ⟨o, e⟩))) (by rw [hT]; exact Or.inl rfl) (by rw [hT]; exact Or.inr (Or.inl rfl)) (fun k hk => (HTW.out k hk).2) HENV.out.right HLK.out.obj.cnt HLK.out.obj.fit HLK.out.obj.size
  clear hT hbl hbc hbl1 hbc1 hb34 hb24 hb23 hw3 HSA HSB HGA HGB HFX HBF2 HB2 HB1 HBF HF
  gi_wp2_with fail
  refine range_all (m := 0) (gf := 207) (lb := #[.pointer (some ⟨bl, 0, none⟩), .pointer (some ⟨bc, 0, none⟩)]) rfl (enters_of Tryz.func207 (by kernel_rfl) rfl) HSEQ.out (Below.refl _ _) (fun _ => rfl) (fun h k => KeepT.trans h k) ?hkb
    (fun pre W' => J (w4.heap.size + 2) (pre.map fun p => (p, o p)) W' ∧ KeepN O w4.heap.size w4 W' ∧ w4.heap.size + 2 ≤ W'.heap.size) ?hib ?hst ?hsk ?h0 ?round ?done
  case hkb => exact fun W r r' _ => ⟨by simp, fun k hk => World.putObj_heap_other (by have := (HTW.out k hk).2; omega)⟩
  case hib => exact fun pre W' r r' hI _ => ⟨HJ.out _ _ _ _ hI.1 (StepN.putObj W' _ (by have := HB4.out.size; omega) (by omega)), hI.2.1.trans ⟨by simp, fun k hk _ => World.putObj_heap_other (by omega)⟩, by simpa using hI.2.2⟩
  case hst => exact fun pre A B hI hb => ⟨HJ.out _ _ _ _ hI.1 (StepN.of_below hb), hI.2.1.trans (KeepN.below hb hI.2.1.1), Nat.le_trans hI.2.2 hb.size⟩
  case hsk => exact fun A B k hb _ hk => hb.block k hk
  case h0 =>
    intro r
    have hb : Below w4.heap.size w4 ((w4.alloc (.deferred (some []))).alloc (.loop r)) := ((Below.refl _ w4).alloc (Nat.le_refl _) _).alloc (by simp) _
    exact ⟨HJ.out _ _ _ _ (H0.out _) (StepN.of_below (HB4.out.trans (hb.mono HB4.out.size))), KeepN.below hb (Nat.le_refl _), by simp⟩
  case round =>
    intro pre x W1 hI hpre hlt
    have HI := Lib.hid hI
    have HPRE := Lib.hid hpre
    clear hI hpre
    have hsem := @Oper.semAt_some
    gi_wp2_with fail
    refine ⟨trivial, trivial, ⟨Nat.le_refl _, fun _ _ => rfl⟩, fun r hkr => ?_⟩
    have hJ2 : J (w4.heap.size + 2) (pre.map fun p => (p, o p)) (W1.putObj (w4.heap.size + 1) (.loop r)) := HJ.out _ _ _ _ HI.out.1 (StepN.putObj W1 _ (by have := HB4.out.size; omega) (by omega))
    have hK2 : KeepN O w4.heap.size w4 (W1.putObj (w4.heap.size + 1) (.loop r)) := HI.out.2.1.trans ⟨by simp, fun k hk _ => World.putObj_heap_other (by omega)⟩
    have hz2 : w4.heap.size + 2 ≤ (W1.putObj (w4.heap.size + 1) (.loop r)).heap.size := by simpa using HI.out.2.2
    clear HI hkr hlt
    generalize W1.putObj (w4.heap.size + 1) (.loop r) = W2 at *
    have HJ2 := Lib.hid hJ2
    have HK2 := Lib.hid hK2
    have HZ2 := Lib.hid hz2
    have HKW : Hid (∀ k, ¬ O k → k < W.heap.size → W2.heap[k]? = W.heap[k]?) := fun k ho hk => (hK2.2 k (Nat.lt_of_lt_of_le hk HB4.out.size) ho).trans (HB4.out.block k hk)
    have HENV2 : Hid (ImgEnv W2 G H m s b C Wd L ws own) := HENV.out.kept (fun k hk hl => HKW.out k (HO.out k (hk.imp id (fun h => h.imp id Or.inl))) hl)
    have hmx : x ∈ slotsL L count := HPRE.out.subset (by simp)
    have HFO : Hid (CallsIn (Fence.wide.inRound (w4.heap.size + 1)) 0 Tryz.prog 51 #[.pointer (some ⟨m, 0, none⟩), .int .i64 addr, .int .i64 x] W2 fun e w' => e = .returned (.tuple #[lkV (o x), .int .i64 0]) ∧ Below W2.heap.size W2 w') := CallsIn.inRound _ (callsIn_wide.2 (follow_of HENV2.out HLK.out hmx))
    have m0 := (cells_of_block ((HKW.out bm (HO.out bm (Or.inr (Or.inr (Or.inr (Or.inl rfl))))) (Array.getElem?_eq_some_iff.1 HBM.out).1).trans HBM.out) 0).1
    have a0 := (cells_of_block ((HKW.out ba (HO.out ba (Or.inr (Or.inr (Or.inr (Or.inr rfl))))) (Array.getElem?_eq_some_iff.1 HBA.out).1).trans HBA.out) 0).1
    have hbfO : ¬ O bf := fun h => by have := HOS.out bf h; have := HBE.out; omega
    have hf2 : W2.heap[bf]? = some (.cells #[.func (.yield l) #[] #[]] 270 (0, 0)) := (hK2.2 bf (Array.getElem?_eq_some_iff.1 HBF4.out).1 hbfO).trans HBF4.out
    have HF2 := Lib.hid hf2
    simp at m0 a0
    obtain ⟨k, i, g, hv⟩ := lkV_is (o x)
    have HV := Lib.hid hv
    rw [hv] at HFO
    clear hJ2 hK2 hz2 hmx hf2 hbfO hv
    gi_wp2_with fail
    refine ⟨trivial, rfl, HFO.out.mono ?_⟩
    rintro e W3 ⟨rfl, hb3⟩
    obtain ⟨W4, hW4⟩ : ∃ W4, W4 = W3.alloc (.cells #[.int .i64 k, .int .i64 i, .int .i64 g] 69) := ⟨_, rfl⟩
    have HW4 := Lib.hid hW4
    have hb4 : Below W2.heap.size W2 W4 := by rw [hW4]; exact hb3.alloc hb3.size _
    have HB24 := Lib.hid hb4
    have f0 := (cells_of_block ((hb4.block bf (Array.getElem?_eq_some_iff.1 HF2.out).1).trans HF2.out) 0).1
    rw [hW4] at f0
    simp at f0
    have hY2 := HY.out (w4.heap.size + 2) (pre.map fun p => (p, o p)) (x, o x) W4 (Nat.le_trans HZ2.out hb4.size) (HJ.out _ _ _ _ HJ2.out (StepN.of_below hb4)) (by have := HPRE.out.map (fun p => (p, o p)); simpa [refsL] using this)
    simp only [refE, HV.out] at hY2
    rw [hW4] at hY2
    obtain ⟨fn, tmps, assign, body, hy, hR⟩ := (hY2.any (m := 0)).inRound (l' := w4.heap.size + 1)
    have HRR := Lib.hid hR
    clear hR hW4 hb4 hb3
    gi_wp2_with fail
    refine ⟨rfl, HRR.out.mono ?_⟩
    rintro e W5 ⟨rfl, hJ5, hK5⟩
    rw [← HW4.out] at hK5
    have HK45 := Lib.hid hK5
    have HJ5 := Lib.hid hJ5
    clear hJ5 hK5 HRR
    gi_wp2_with fail
    have hO : ∀ k, W.heap.size ≤ k → ¬ O k := fun k hk ho => by have := HOS.out k ho; omega
    have hz := HZ2.out
    have h4 := HB4.out.size
    have hkk : ∀ k, k < w4.heap.size + 2 → ¬ O k → W5.heap[k]? = W2.heap[k]? := fun k hk ho => (HK45.out.2 k hk ho).trans (HB24.out.block k (by omega))
    refine ⟨hkk _ (by omega) (hO _ (by omega)), hkk _ (by omega) (hO _ (by omega)), ⟨Nat.le_trans HB24.out.size HK45.out.1, fun k hk => hkk k (by have := (HTW.out k hk).2; omega) (hO k (HTW.out k hk).1)⟩, by simpa using HJ5.out, HK2.out.trans ⟨Nat.le_trans HB24.out.size HK45.out.1, fun k hk ho => hkk k (by omega) ho⟩, Nat.le_trans hz (Nat.le_trans HB24.out.size HK45.out.1)⟩
  case done =>
    intro W1 hI hD
    gi_wp2_with fail
    refine ⟨by simp, .inl ⟨_, _, rfl, run_takeDeferred hD, ?_⟩⟩
    exact ⟨_, results_none rfl _ _ _, ⟨_, rfl⟩, w4.heap.size + 2, HJ.out _ _ _ _ hI.1 (StepN.putObj W1 _ HB4.out.size (by omega))⟩
theorem links_seq {bm ba addr count slot : Nat} {o : Nat → Option (Nat × Nat)} {O : Nat → Prop} (hbm : w.heap[bm]? = some (.cells #[.pointer (some ⟨m, 0, none⟩)] 49 (0, 0))) (hba : w.heap[ba]? = some (.cells #[.int .i64 addr] 3 (0, 0)))
    (h : ImgEnv w G H m s b C Wd L ws own) (hk : LkEnv C Wd L ws own addr count slot o) (hO : ∀ k, G k ∨ H k ∨ k = m ∨ k = bm ∨ k = ba → ¬ O k) (hOs : ∀ k, O k → k < w.heap.size + 2) :
    SeqAllN StepN (KeepN O) Tryz.prog 193 #[.pointer (some ⟨bm, 0, none⟩), .pointer (some ⟨ba, 0, none⟩)] refE (refsL L count o) w :=
  fun l J W hW hz hSt hY h0 => links1 l bm ba addr count slot o O J W (seqAt_fields hbm hW) (seqAt_fields hba hW) (h.below hW) hk hO (fun k hk => Nat.lt_of_lt_of_le (hOs k hk) hz) hSt hY h0
set_option maxRecDepth 100000 in
theorem ilinks_any (m addr : Nat) (w : World) : Calls Tryz.prog 154 #[.pointer (some ⟨m, 0, none⟩), .int .i64 addr] w fun e w' => ∃ bm ba, e = .returned (.func (.func 193) #[] #[.pointer (some ⟨bm, 0, none⟩), .pointer (some ⟨ba, 0, none⟩)]) ∧ w'.heap[bm]? = some (.cells #[.pointer (some ⟨m, 0, none⟩)] 49 (0, 0)) ∧ w'.heap[ba]? = some (.cells #[.int .i64 addr] 3 (0, 0)) ∧ w.heap.size ≤ bm ∧ w.heap.size ≤ ba ∧ Below w.heap.size w w' := by
  go_enter Tryz.func154, Tryz.ntmps154
  go_wp2
  go_ret
  refine ⟨_, _, rfl, ?_, ?_, ?_, ?_, ((Below.refl _ w).alloc (Nat.le_refl _) _).alloc (by simp) _⟩
  · exact (Below.heap_alloc _ _ _ (by simp)).trans (heap_alloc_new w _)
  · have := heap_alloc_new (w.alloc (.cells #[.pointer (some ⟨m, 0, none⟩)] 49)) (.cells #[.int .i64 addr] 3)
    rwa [World.size_alloc] at this
  · simp
  · simp
end Go.Proofs.YtcdpnfchmpncjaaGreatDoor
