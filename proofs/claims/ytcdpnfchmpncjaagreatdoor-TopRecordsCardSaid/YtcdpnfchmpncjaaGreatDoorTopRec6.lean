/-
  Parts of the proof, one behind the other: KTouch, KClient, KTopRec, Open.
-/
import Derived.ProofKit
import Derived.OpenShut
import Derived.Deep.SlicePairs
import Derived.Test.YtcdpnfchmpncjaaGreatDoorTopRec5
set_option linter.unusedSimpArgs false
set_option linter.unusedVariables false
namespace Go.Proofs.YtcdpnfchmpncjaaGreatDoor
open Go.RowKit Go.Tr Go.Shelf
variable {w w' : World} {F : Nat → Prop} {A : Ad} {S S1 : HS}
set_option maxRecDepth 100000 in
set_option maxHeartbeats 4000000 in
theorem etouch0_any {x : Sl} {i : Nat} (w : World) (h : HeapF w F A S) (hoff : S.on = false) (hx : S.sl[i]? = some x) (hu : x.used = true) :
    Calls Tryz.prog 48 #[.pointer (some ⟨A.h, 0, none⟩), .agg #[.int .i64 i, .int .i64 x.gen]] w fun e w' => e = .returned (.tuple #[]) ∧ Below w.heap.size w w' := by
  have HE := Lib.hid (fun W (hb : Below w.heap.size w W) => h.evf0 hoff hb)
  have HF := Lib.hid (fun W (hb : Below w.heap.size w W) => h.fields hb)
  have HG := Lib.hid (fun W (hb : Below w.heap.size w W) => h.get hx hu hb)
  obtain ⟨g, ug, ad, rg, hd, pn⟩ := x
  simp only [entryV] at HG
  have hba : Below w.heap.size w (w.alloc (.cells #[.int .i64 i, .int .i64 g] 38)) := (Below.refl _ w).alloc (Nat.le_refl _) _
  have HB1 := Lib.hid hba
  have HT1 := Lib.hid (heap_alloc_new w (.cells #[.int .i64 i, .int .i64 g] 38))
  obtain ⟨tb, htb⟩ : ∃ tb, tb = w.heap.size := ⟨_, rfl⟩
  rw [← htb] at HT1
  clear h hoff hx hu hba
  go_enter Tryz.func48, Tryz.ntmps48
  go_wp2_with fail
  rw [← htb]
  clear htb
  generalize w.alloc (.cells #[.int .i64 i, .int .i64 g] 38) = w1 at *
  obtain ⟨n, hn⟩ : ∃ n, n = w1.heap.size := ⟨_, rfl⟩
  have HN : Hid (n = w1.heap.size) := hn
  have HW : Hid (∀ W, Below n w1 W → Below w.heap.size w W) := fun W hb => by rw [hn] at hb; exact HB1.out.trans (hb.mono HB1.out.size)
  clear hn
  have HD : Hid (∀ W, Below n w1 W → W.cell? ⟨A.h, 0, none⟩ = some (.pointer (some ⟨A.c, 0, none⟩)) ∧ W.cell? ⟨A.h, 1, none⟩ = some (.int .i64 0) ∧ W.cell? ⟨A.c, 3, none⟩ = some (.pointer (some ⟨A.t, 0, none⟩)) ∧ W.cell? ⟨tb, 0, none⟩ = some (.int .i64 i) ∧ W.cell? ⟨tb, 1, none⟩ = some (.int .i64 g)) := fun W hb => by
    have ht := (hb.block tb (by rw [HN.out]; exact block_lt HT1.out)).trans HT1.out
    have he := HE.out W (HW.out W hb)
    exact ⟨he.1, he.2, (HF.out W (HW.out W hb)).2.2.2.1, (cells_of_block ht 0).1, (cells_of_block ht 1).1⟩
  refine wp_region_held_drew (S := Below n w1) (by kernel_rfl) (Below.refl n w1).drew (fun hH => ?_)
  refine tk 0 (v := ?_) rfl ?_ ?_; rotate_left; · intro W hW; obtain ⟨d0, d1, d2, d3, d4⟩ := HD.out W hW; go_simp; try with_reducible rfl
  try simp only [Go.Tr.nz]
  refine tk 1 (v := ?_) rfl ?_ ?_; rotate_left; · intro W hW; obtain ⟨d0, d1, d2, d3, d4⟩ := HD.out W hW; go_simp; try with_reducible rfl
  try simp only [Go.Tr.nz]
  refine tk 2 (v := ?_) rfl ?_ ?_; rotate_left; · intro W hW; obtain ⟨d0, d1, d2, d3, d4⟩ := HD.out W hW; go_simp; try with_reducible rfl
  try simp only [Go.Tr.nz]
  refine tk 3 (v := ?_) rfl ?_ ?_; rotate_left; · intro W hW; obtain ⟨d0, d1, d2, d3, d4⟩ := HD.out W hW; go_simp; try with_reducible rfl
  try simp only [Go.Tr.nz]
  refine tk 4 (v := ?_) rfl ?_ ?_; rotate_left; · intro W hW; obtain ⟨d0, d1, d2, d3, d4⟩ := HD.out W hW; go_simp; try with_reducible rfl
  try simp only [Go.Tr.nz]
  refine tk 5 (v := ?_) rfl ?_ ?_; rotate_left; · intro W hW; obtain ⟨d0, d1, d2, d3, d4⟩ := HD.out W hW; go_simp; try with_reducible rfl
  try simp only [Go.Tr.nz]
  refine tk 6 (v := ?_) rfl ?_ ?_; rotate_left; · intro W hW; obtain ⟨d0, d1, d2, d3, d4⟩ := HD.out W hW; go_simp; try with_reducible rfl
  try simp only [Go.Tr.nz]
  refine tk 7 (v := ?_) rfl ?_ ?_; rotate_left; · intro W hW; obtain ⟨d0, d1, d2, d3, d4⟩ := HD.out W hW; go_simp; try with_reducible rfl
  try simp only [Go.Tr.nz]
  refine rd2 8 12 rfl rfl (fun K hK => ?_) (fun K hK => ?_)
  focus
    go_simp
    refine (HG.out _ (HW.out _ hH)).mono ?_
    rintro e w3 ⟨rfl, hb3⟩
    have HB3 : Hid (Below n w1 w3) := hH.trans (hb3.mono (by rw [HN.out]; exact hH.size))
    refine hK.out _ _ HB3.out (fun hH => ?_)
    clear hK K hb3
    refine tk 9 (v := ?_) rfl ?_ ?_; rotate_left; · intro W hW; go_simp; try with_reducible rfl
    try simp only [Go.Tr.nz]
    refine tk 10 (v := ?_) rfl ?_ ?_; rotate_left; · intro W hW; go_simp; try with_reducible rfl
    try simp only [Go.Tr.nz]
    refine tk 11 (v := ?_) rfl ?_ ?_; rotate_left; · intro W hW; go_simp; try with_reducible rfl
    try simp only [Go.Tr.nz]
    refine rd 12 rfl (fun K hK => ?_)
    go_simp
    have HB4 : Hid (Below n w1 (w3.alloc (.cells #[.int .i64 ad, .int .i64 rg, .bool hd, .bool pn] 93))) := HB3.out.alloc (by rw [HN.out]; exact HB3.out.size) _
    refine hK.out _ _ (HB3.out.alloc (by rw [HN.out]; exact HB3.out.size) _) (fun hH => ?_)
    clear hK K
    refine rd 13 rfl (fun K hK => ?_)
    go_simp
    refine hK.out _ _ HB4.out (fun hH => ?_)
    clear hK K
    obtain ⟨xb, hxb⟩ : ∃ xb, xb = w3.heap.size := ⟨_, rfl⟩
    have HX : Hid ((w3.alloc (.cells #[.int .i64 ad, .int .i64 rg, .bool hd, .bool pn] 93)).heap[xb]? = some (.cells #[.int .i64 ad, .int .i64 rg, .bool hd, .bool pn] 93 (0, 0))) := by rw [hxb]; exact heap_alloc_new w3 _
    have HXE : Hid (n ≤ xb) := by show _ ≤ _; rw [hxb, HN.out]; exact HB3.out.size
    rw [← hxb]
    clear hxb
    generalize w3.alloc (.cells #[.int .i64 ad, .int .i64 rg, .bool hd, .bool pn] 93) = w4 at *
  rotate_left
  focus
    go_simp
    have hb3 : Below n w1 (w1.alloc (.cells #[.int .i64 0, .int .i64 0, .bool false, .bool false] 93)).drew := ((Below.refl n w1).alloc (Nat.le_of_eq HN.out) _).drew
    refine hK.out _ _ hb3 (fun hH => ?_)
    clear hK K
    refine rd 8 rfl (fun K hK => ?_)
    go_simp
    refine (HG.out _ (HW.out _ hH)).mono ?_
    rintro e w3 ⟨rfl, hbc⟩
    have HB3 : Hid (Below n w1 w3) := hb3.trans (hbc.mono (by rw [HN.out]; exact hb3.size))
    obtain ⟨xb, hxb⟩ : ∃ xb, xb = w1.heap.size := ⟨_, rfl⟩
    have HX3 : Hid (w3.heap[xb]? = some (.cells #[.int .i64 0, .int .i64 0, .bool false, .bool false] 93 (0, 0))) := by rw [hxb]; exact (hbc.block _ (by simp)).trans (heap_alloc_new w1 _)
    refine hK.out _ _ HB3.out (fun hH => ?_)
    rw [← hxb]
    have hxw : n ≤ xb := by rw [HN.out]; exact Nat.le_of_eq hxb.symm
    have HXE : Hid (n ≤ xb) := hxw
    clear hK K hb3 hbc hxb
    refine tk 9 (v := ?_) rfl ?_ ?_; rotate_left; · intro W hW; go_simp; try with_reducible rfl
    try simp only [Go.Tr.nz]
    refine tk 10 (v := ?_) rfl ?_ ?_; rotate_left; · intro W hW; go_simp; try with_reducible rfl
    try simp only [Go.Tr.nz]
    refine tk 11 (v := ?_) rfl ?_ ?_; rotate_left; · intro W hW; go_simp; try with_reducible rfl
    try simp only [Go.Tr.nz]
    have z0 := cells_of_block HX3.out 0
    have z1 := cells_of_block HX3.out 1
    have z2 := cells_of_block HX3.out 2
    have z3 := cells_of_block HX3.out 3
    simp at z0 z1 z2 z3
    obtain ⟨z0, f0⟩ := z0
    obtain ⟨z1, f1⟩ := z1
    obtain ⟨z2, f2⟩ := z2
    obtain ⟨z3, f3⟩ := z3
    refine rd 13 rfl (fun K hK => ?_)
    go_simp
    have HB4 : Hid (Below n w1 ((((w3.setCell ⟨xb, 0, none⟩ (.int .i64 ad)).setCell ⟨xb, 1, none⟩ (.int .i64 rg)).setCell ⟨xb, 2, none⟩ (.bool hd)).setCell ⟨xb, 3, none⟩ (.bool pn))) := ((((HB3.out).setCell hxw _).setCell hxw _).setCell hxw _).setCell hxw _
    refine hK.out _ _ HB4.out (fun hH => ?_)
    clear hK K hxw z0 f0 z1 f1 z2 f2 z3 f3
    have HX : Hid (((((w3.setCell ⟨xb, 0, none⟩ (.int .i64 ad)).setCell ⟨xb, 1, none⟩ (.int .i64 rg)).setCell ⟨xb, 2, none⟩ (.bool hd)).setCell ⟨xb, 3, none⟩ (.bool pn)).heap[xb]? = some (.cells #[.int .i64 ad, .int .i64 rg, .bool hd, .bool pn] 93 (0, 0))) := by
      show _ = _
      simpa using block_setCell (block_setCell (block_setCell (block_setCell (HX3.out) 0 (.int .i64 ad)) 1 (.int .i64 rg)) 2 (.bool hd)) 3 (.bool pn)
    generalize (((w3.setCell ⟨xb, 0, none⟩ (.int .i64 ad)).setCell ⟨xb, 1, none⟩ (.int .i64 rg)).setCell ⟨xb, 2, none⟩ (.bool hd)).setCell ⟨xb, 3, none⟩ (.bool pn) = w4 at *
    clear HX3
  all_goals
    refine tk 14 (v := ?_) rfl ?_ ?_; rotate_left; · intro W hW; go_simp; try with_reducible rfl
    try simp only [Go.Tr.nz]
    refine wpAnyH_done (by kernel_rfl) ?_ _
    go_wp2_with fail
    refine wp_region_held_drew (S := Below n w1) (by kernel_rfl) HB4.out.drew (fun hH => ?_)
    refine tk 0 (v := ?_) rfl ?_ ?_; rotate_left; · intro W hW; obtain ⟨d0, d1, d2, d3, d4⟩ := HD.out W hW; go_simp; try with_reducible rfl
    try simp only [Go.Tr.nz]
    refine tk 1 (v := ?_) rfl ?_ ?_; rotate_left; · intro W hW; obtain ⟨d0, d1, d2, d3, d4⟩ := HD.out W hW; go_simp; try with_reducible rfl
    try simp only [Go.Tr.nz]
    refine tk 2 (v := ?_) rfl ?_ ?_; rotate_left; · intro W hW; obtain ⟨d0, d1, d2, d3, d4⟩ := HD.out W hW; go_simp; try with_reducible rfl
    try simp only [Go.Tr.nz]
    refine tk 3 (v := ?_) rfl ?_ ?_; rotate_left; · intro W hW; obtain ⟨d0, d1, d2, d3, d4⟩ := HD.out W hW; go_simp; try with_reducible rfl
    try simp only [Go.Tr.nz]
    refine tk 4 (v := ?_) rfl ?_ ?_; rotate_left; · intro W hW; obtain ⟨d0, d1, d2, d3, d4⟩ := HD.out W hW; go_simp; try with_reducible rfl
    try simp only [Go.Tr.nz]
    refine tk 5 (v := ?_) rfl ?_ ?_; rotate_left; · intro W hW; obtain ⟨d0, d1, d2, d3, d4⟩ := HD.out W hW; go_simp; try with_reducible rfl
    try simp only [Go.Tr.nz]
    refine tku 6 rfl ?_
    try simp only [Go.Tr.nz]
    refine tku 7 rfl ?_
    try simp only [Go.Tr.nz]
    refine tk 8 (v := ?_) rfl ?_ ?_; rotate_left; · intro W hW; go_simp; try with_reducible rfl
    try simp only [Go.Tr.nz]
    refine tk 9 (v := ?_) rfl ?_ ?_; rotate_left; · intro W hW; go_simp; try with_reducible rfl
    try simp only [Go.Tr.nz]
    refine tku 10 rfl ?_
    try simp only [Go.Tr.nz]
    refine tku 11 rfl ?_
    try simp only [Go.Tr.nz]
    refine tku 12 rfl ?_
    try simp only [Go.Tr.nz]
    refine tk 13 (v := ?_) rfl ?_ ?_; rotate_left; · intro W hW; go_simp; try with_reducible rfl
    try simp only [Go.Tr.nz]
    refine tk 14 (v := ?_) rfl ?_ ?_; rotate_left; · intro W hW; go_simp; try with_reducible rfl
    try simp only [Go.Tr.nz]
    refine tku 15 rfl ?_
    try simp only [Go.Tr.nz]
    refine tku 16 rfl ?_
    try simp only [Go.Tr.nz]
    refine tku 17 rfl ?_
    try simp only [Go.Tr.nz]
    refine tku 18 rfl ?_
    try simp only [Go.Tr.nz]
    refine tku 19 rfl ?_
    try simp only [Go.Tr.nz]
    refine tku 20 rfl ?_
    try simp only [Go.Tr.nz]
    refine tku 21 rfl ?_
    try simp only [Go.Tr.nz]
    refine tk 22 (v := ?_) rfl ?_ ?_; rotate_left; · intro W hW; go_simp; try with_reducible rfl
    try simp only [Go.Tr.nz]
    refine tk 23 (v := ?_) rfl ?_ ?_; rotate_left; · intro W hW; go_simp; try with_reducible rfl
    try simp only [Go.Tr.nz]
    refine tku 24 rfl ?_
    try simp only [Go.Tr.nz]
    refine tku 25 rfl ?_
    try simp only [Go.Tr.nz]
    refine tku 26 rfl ?_
    try simp only [Go.Tr.nz]
    refine tku 27 rfl ?_
    try simp only [Go.Tr.nz]
    refine tku 28 rfl ?_
    try simp only [Go.Tr.nz]
    refine tku 29 rfl ?_
    try simp only [Go.Tr.nz]
    refine tku 30 rfl ?_
    try simp only [Go.Tr.nz]
    refine tku 31 rfl ?_
    try simp only [Go.Tr.nz]
    refine tk 32 (v := ?_) rfl ?_ ?_; rotate_left; · intro W hW; go_simp; try with_reducible rfl
    try simp only [Go.Tr.nz]
    refine wpAnyH_done (by kernel_rfl) ?_ _
    go_wp2
    try simp only [Exit.inBlock, Exit.then]
    exact bodyPost_ret_by (results_none rfl _ _ _) rfl ⟨rfl, HW.out _ HB4.out.drew⟩
end Go.Proofs.YtcdpnfchmpncjaaGreatDoor

namespace Go.Proofs.YtcdpnfchmpncjaaGreatDoor
open Go.RowKit Go.Tr Go.Shelf
variable {w w' : World} {F : Nat → Prop} {A : Ad} {S S1 : HS}
def TouchC (w : World) (F : Nat → Prop) (A : Ad) (i gen : Nat) (T : HS → Prop) : Prop := ∀ W, Below w.heap.size w W → Calls Tryz.prog 48 #[.pointer (some ⟨A.h, 0, none⟩), .agg #[.int .i64 i, .int .i64 gen]] W fun e w' => e = .returned (.tuple #[]) ∧ ∃ S', T S' ∧ HeapF w' (grow F W w') A S' ∧ Only F W w'
theorem HeapF.touch0 (h : HeapF w F A S) {x : Sl} {i : Nat} (hoff : S.on = false) (hx : S.sl[i]? = some x) (hu : x.used = true) : TouchC w F A i x.gen (fun S' => S' = S) := fun W hb =>
  (etouch0_any W (h.below hb) hoff hx hu).mono fun e w' ⟨e1, e2⟩ => ⟨e1, S, rfl, ((Run.start (h.below hb)).below e2).fin (h.below hb).lt⟩
set_option maxRecDepth 100000 in
set_option maxHeartbeats 1000000 in
theorem eset0_any {x : Sl} {i count p v : Nat} (w : World) (h : HeapF w F A S) (hoff : S.on = false) (ho : ObjOk S i x count) (hh : x.held = true) (hp : p < S.L.size count) (href : isRefN S.L p = false) (hv : v < 18446744073709551616) :
    Calls Tryz.prog 21 #[.pointer (some ⟨A.h, 0, none⟩), .agg #[.int .i64 i, .int .i64 x.gen], .int .i64 p, .int .u64 v] w fun e w' => e = .returned (.int .i64 0) ∧ HeapF w' (grow F w w') A { S with ws := S.ws.set (x.addr + 1 + p) v } ∧ Only F w w' := by
  have hba : Below w.heap.size w (w.alloc (.cells #[.int .i64 i, .int .i64 x.gen] 38)) := (Below.refl _ w).alloc (Nat.le_refl _) _
  have HTC := Lib.hid ((h.below hba).touch0 hoff ho.sl ho.used)
  have HST := Lib.hid (fun W F1 (hr : HeapF W F1 A S) => cset_any W hr ho hh hp href hv)
  have HRN := Lib.hid ((Run.start h).below hba)
  have HLT := Lib.hid h.lt
  have HX := Lib.hid (heap_alloc_new w (.cells #[.int .i64 i, .int .i64 x.gen] 38))
  have HXF : Hid (¬ F w.heap.size) := fun hf => Nat.lt_irrefl _ (h.lt _ hf)
  obtain ⟨tb, htb⟩ : ∃ tb, tb = w.heap.size := ⟨_, rfl⟩
  rw [← htb] at HX HXF
  obtain ⟨S', hS'⟩ : ∃ S', S' = { S with ws := S.ws.set (x.addr + 1 + p) v } := ⟨_, rfl⟩
  obtain ⟨g, hg⟩ : ∃ g, g = x.gen := ⟨_, rfl⟩
  rw [← hS']
  rw [← hS'] at HST
  rw [← hg] at HX HTC HST HRN ⊢
  have t0 := (cells_of_block HX.out 0).1
  have t1 := (cells_of_block HX.out 1).1
  simp at t0 t1
  clear h hoff ho hh hp href hv hba hS' hg
  go_enter Tryz.func21, Tryz.ntmps21
  go_wp2_with fail
  rw [← htb]
  clear t0 t1 htb
  generalize w.alloc (.cells #[.int .i64 i, .int .i64 g] 38) = w1 at *
  refine (HTC.out w1 (Below.refl _ _)).mono ?_
  rintro e w2 ⟨rfl, _, rfl, h2⟩
  have HRN2 := Lib.hid (HRN.out.op h2)
  have HX2 : Hid (w2.heap[tb]? = some (.cells #[.int .i64 i, .int .i64 g] 38 (0, 0))) := (h2.2.block tb (block_lt HX.out) HXF.out).trans HX.out
  have t0 := (cells_of_block HX2.out 0).1
  have t1 := (cells_of_block HX2.out 1).1
  simp at t0 t1
  have e0 := HRN2.out.heap.evc (Below.refl _ _)
  clear h2
  go_wp2_with fail
  go_still_tail 7, (by kernel_rfl)
  have HRN3 := Lib.hid (HRN2.out.below (Below.refl _ _).drew)
  change wpList _ _ _ _ _ w2.drew
  clear t0 t1 e0
  generalize w2.drew = w3 at *
  go_wp2_with fail
  refine (HST.out w3 _ HRN3.out.heap).mono ?_
  rintro e w4 ⟨rfl, h4⟩
  have HRN4 := Lib.hid (HRN3.out.op h4)
  clear h4
  go_wp2
  go_ret
  exact ⟨rfl, HRN4.out.fin HLT.out⟩
set_option maxRecDepth 100000 in
set_option maxHeartbeats 1000000 in
theorem eget_any {T : HS → Prop} {i gen p val : Nat} (w : World) (h : HeapF w F A S) (hT : TouchC w F A i gen T)
    (hok : ∀ S', T S' → ∃ x count, ObjOk S' i x count ∧ x.gen = gen ∧ x.held = true ∧ p < S'.L.size count ∧ isRefN S'.L p = false ∧ S'.ws.getD (x.addr + 1 + p) 0 = val) :
    Calls Tryz.prog 24 #[.pointer (some ⟨A.h, 0, none⟩), .agg #[.int .i64 i, .int .i64 gen], .int .i64 p] w fun e w' => e = .returned (.tuple #[.int .u64 val, .int .i64 0]) ∧ ∃ S', T S' ∧ HeapF w' (grow F w w') A S' ∧ Only F w w' := by
  have hba : Below w.heap.size w (w.alloc (.cells #[.int .i64 i, .int .i64 gen] 38)) := (Below.refl _ w).alloc (Nat.le_refl _) _
  have HTC := Lib.hid (hT _ hba)
  have HRN := Lib.hid ((Run.start h).below hba)
  have HLT := Lib.hid h.lt
  have HOK := Lib.hid hok
  have HX := Lib.hid (heap_alloc_new w (.cells #[.int .i64 i, .int .i64 gen] 38))
  have HXF : Hid (¬ F w.heap.size) := fun hf => Nat.lt_irrefl _ (h.lt _ hf)
  obtain ⟨tb, htb⟩ : ∃ tb, tb = w.heap.size := ⟨_, rfl⟩
  rw [← htb] at HX HXF
  have t0 := (cells_of_block HX.out 0).1
  have t1 := (cells_of_block HX.out 1).1
  simp at t0 t1
  clear h hT hok hba
  go_enter Tryz.func24, Tryz.ntmps24
  go_wp2_with fail
  rw [← htb]
  clear t0 t1 htb
  generalize w.alloc (.cells #[.int .i64 i, .int .i64 gen] 38) = w1 at *
  refine HTC.out.mono ?_
  rintro e w2 ⟨rfl, S', hS, h2⟩
  have HRN2 := Lib.hid (HRN.out.op h2)
  have HX2 : Hid (w2.heap[tb]? = some (.cells #[.int .i64 i, .int .i64 gen] 38 (0, 0))) := (h2.2.block tb (block_lt HX.out) HXF.out).trans HX.out
  have t0 := (cells_of_block HX2.out 0).1
  have t1 := (cells_of_block HX2.out 1).1
  simp at t0 t1
  have e0 := HRN2.out.heap.evc (Below.refl _ _)
  have HSS := Lib.hid hS
  clear h2 hS
  go_wp2_with fail
  have HRN3 := Lib.hid (HRN2.out.below (Below.refl _ _).drew)
  have HGT : Hid (Calls Tryz.prog 52 #[.pointer (some ⟨A.c, 0, none⟩), .agg #[.int .i64 i, .int .i64 gen], .int .i64 p] w2.drew fun e w' => e = .returned (.tuple #[.int .u64 val, .int .i64 0]) ∧ Below w2.drew.heap.size w2.drew w') := by
    obtain ⟨x, count, k1, rfl, k3, k4, k5, rfl⟩ := HOK.out S' HSS.out
    exact cget_any w2.drew HRN3.out.heap k1 k3 k4 k5
  refine wp_region_held_drew (S := fun W => W.cell? ⟨A.h, 0, none⟩ = some (.pointer (some ⟨A.c, 0, none⟩)) ∧ W.cell? ⟨tb, 0, none⟩ = some (.int .i64 i) ∧ W.cell? ⟨tb, 1, none⟩ = some (.int .i64 gen)) (by kernel_rfl) ⟨e0, t0, t1⟩ (fun hH => ?_)
  clear t0 t1 e0
  refine tk 0 (v := ?_) rfl ?_ ?_; rotate_left; · intro W hW; obtain ⟨d0, d1, d2⟩ := hW; go_simp; try with_reducible rfl
  try simp only [Go.Tr.nz]
  refine tk 1 (v := ?_) rfl ?_ ?_; rotate_left; · intro W hW; obtain ⟨d0, d1, d2⟩ := hW; go_simp; try with_reducible rfl
  try simp only [Go.Tr.nz]
  refine tk 2 (v := ?_) rfl ?_ ?_; rotate_left; · intro W hW; obtain ⟨d0, d1, d2⟩ := hW; go_simp; try with_reducible rfl
  try simp only [Go.Tr.nz]
  refine tk 3 (v := ?_) rfl ?_ ?_; rotate_left; · intro W hW; obtain ⟨d0, d1, d2⟩ := hW; go_simp; try with_reducible rfl
  try simp only [Go.Tr.nz]
  refine tk 4 (v := ?_) rfl ?_ ?_; rotate_left; · intro W hW; obtain ⟨d0, d1, d2⟩ := hW; go_simp; try with_reducible rfl
  try simp only [Go.Tr.nz]
  refine tk 5 (v := ?_) rfl ?_ ?_; rotate_left; · intro W hW; obtain ⟨d0, d1, d2⟩ := hW; go_simp; try with_reducible rfl
  try simp only [Go.Tr.nz]
  refine rd 6 rfl (fun K hK => ?_)
  go_simp
  refine HGT.out.mono ?_
  rintro e w4 ⟨rfl, hb⟩
  have HRN4 := Lib.hid (HRN3.out.below hb)
  have HX4 : Hid (w4.heap[tb]? = some (.cells #[.int .i64 i, .int .i64 gen] 38 (0, 0))) := (hb.block tb (block_lt HX2.out)).trans HX2.out
  refine hK.out _ _ ⟨HRN4.out.heap.evc (Below.refl _ _), (cells_of_block HX4.out 0).1, (cells_of_block HX4.out 1).1⟩ (fun hH => ?_)
  clear hb hK K
  refine tk 7 (v := ?_) rfl ?_ ?_; rotate_left; · intro W hW; go_simp; try with_reducible rfl
  try simp only [Go.Tr.nz]
  refine tk 8 (v := ?_) rfl ?_ ?_; rotate_left; · intro W hW; go_simp; try with_reducible rfl
  try simp only [Go.Tr.nz]
  refine tk 9 (v := ?_) rfl ?_ ?_; rotate_left; · intro W hW; go_simp; try with_reducible rfl
  try simp only [Go.Tr.nz]
  refine tk 10 (v := ?_) rfl ?_ ?_; rotate_left; · intro W hW; go_simp; try with_reducible rfl
  try simp only [Go.Tr.nz]
  refine wpAnyH_done (by kernel_rfl) ?_ _
  go_wp2_with fail
  go_ret2
  exact ⟨rfl, S', HSS.out, HRN4.out.fin HLT.out⟩
end Go.Proofs.YtcdpnfchmpncjaaGreatDoor

namespace Go.Proofs.YtcdpnfchmpncjaaGreatDoor
open Go.RowKit Go.Tr Go.Shelf
variable {w w' : World} {F : Nat → Prop} {A : Ad} {S : HS} {L : Lay} {c : Nat}
def Rbx (W : World) (F : Nat → Prop) (xb ta tb : Nat) (vs : Array Value) : Prop := Bx W F xb (.cells vs 60 (0, 0)) ∧ Bx W F ta (.cells #[.int .i64 0, .int .i64 1] 38 (0, 0)) ∧ Bx W F tb (.cells #[.int .i64 1, .int .i64 1] 38 (0, 0))
theorem Rbx.op {W W' : World} {xb ta tb : Nat} {vs : Array Value} (h : Rbx W F xb ta tb vs) (k : Only F W W') : Rbx W' (grow F W W') xb ta tb vs := ⟨h.1.op k, h.2.1.op k, h.2.2.op k⟩
theorem Rbx.below {W W' : World} {xb ta tb : Nat} {vs : Array Value} (h : Rbx W F xb ta tb vs) (k : Below W.heap.size W W') : Rbx W' F xb ta tb vs := ⟨h.1.below k, h.2.1.below k, h.2.2.below k⟩
def TrSt (w : World) (ah ac xb ta tb : Nat) (vs : Array Value) (L : Lay) (c q : Nat) (W : World) : Prop := ∃ F' A S, A.h = ah ∧ A.c = ac ∧ Run w (fun _ => False) W F' A S ∧ (RB L c (fun _ => true) S 2 ∧ Cont S (cnc c) (ctQ L q)) ∧ Rbx W F' xb ta tb vs
def TrEn (w : World) (ah ac xb ta tb : Nat) (vs : Array Value) (L : Lay) (c : Nat) (W : World) : Prop := ∃ F' A S, A.h = ah ∧ A.c = ac ∧ Run w (fun _ => False) W F' A S ∧ Rfin L c S ∧ Rbx W F' xb ta tb vs
theorem TrEn.below {W W' : World} {ah ac xb ta tb : Nat} {vs : Array Value} (h : TrEn w ah ac xb ta tb vs L c W) (k : Below W.heap.size W W') : TrEn w ah ac xb ta tb vs L c W' := by
  obtain ⟨F', A, S, h1, h2, h3, h4, h5⟩ := h
  exact ⟨F', A, S, h1, h2, h3.below k, h4, h5.below k⟩
set_option maxRecDepth 100000 in
set_option maxHeartbeats 8000000 in
theorem toprecords_any {v : Value} {R : RawL} (x y : Int) (w : World) (hT : TzB w) (h : RawAt w v R) : Calls Tryz.prog 4 #[v, .int .i64 x, .int .i64 y] w fun e w' => e = .returned (.bool true) ∧ Below w.heap.size w w' := by
  have HT := Lib.hid hT
  have HRA := Lib.hid h
  clear hT
  obtain ⟨ra, rc, sa, sc, rfl, h1, h2⟩ := h
  clear h1 h2
  obtain ⟨c, hc, hc2⟩ : ∃ c : Nat, (max 0 x).tmod 12 = (c : Int) ∧ c ≤ 11 := by
    have h1 : 0 ≤ (max 0 x) := by omega
    have h2 := Int.tmod_eq_emod_of_nonneg (b := 12) h1
    refine ⟨((max 0 x).tmod 12).toNat, ?_, ?_⟩ <;> omega
  obtain ⟨b, hb, hb1, hb2⟩ : ∃ b : Nat, 1 + max 0 y % 90 = (b : Int) ∧ 1 ≤ b ∧ b ≤ 90 := by
    refine ⟨(1 + max 0 y % 90).toNat, ?_, ?_, ?_⟩ <;> omega
  obtain ⟨f, hf⟩ : ∃ f, f = R.f := ⟨_, rfl⟩
  obtain ⟨r, hr⟩ : ∃ r, r = R.r := ⟨_, rfl⟩
  obtain ⟨n1, hn1⟩ : ∃ n1, n1 = R.xs.length := ⟨_, rfl⟩
  obtain ⟨n2, hn2⟩ : ∃ n2, n2 = R.ys.length := ⟨_, rfl⟩
  have HN1 := Lib.hid hn1
  have HN2 := Lib.hid hn2
  rw [← hf, ← hr, ← hn1, ← hn2] at HRA ⊢
  clear hf hr hn1 hn2
  have HBA : Hid (Below w.heap.size w (w.alloc (.cells #[.int .i64 f, .slice ra n1 rc, .int .i64 r, .slice sa n2 sc] 60))) := (Below.refl _ w).alloc (Nat.le_refl _) _
  obtain ⟨xb, hxb⟩ : ∃ xb, xb = w.heap.size := ⟨_, rfl⟩
  have HXN : Hid (w.heap.size ≤ xb) := by rw [hxb]; exact Nat.le_refl _
  have HXB : Hid ((w.alloc (.cells #[.int .i64 f, .slice ra n1 rc, .int .i64 r, .slice sa n2 sc] 60)).heap[xb]? = some (.cells #[.int .i64 f, .slice ra n1 rc, .int .i64 r, .slice sa n2 sc] 60 (0, 0))) := by rw [hxb]; exact heap_alloc_new w _
  go_enter Tryz.func4, Tryz.ntmps4
  go_wp2_with fail
  rw [← hxb]
  clear hxb
  generalize w.alloc (.cells #[.int .i64 f, .slice ra n1 rc, .int .i64 r, .slice sa n2 sc] 60) = wa at *
  refine (alive_any wa (HT.out.below HBA.out)).mono ?_
  rintro e w1 ⟨rfl, hb1'⟩
  have HB1 : Hid (Below w.heap.size w w1) := HBA.out.trans (hb1'.mono HBA.out.size)
  have HX1 := Lib.hid ((hb1'.block xb (block_lt HXB.out)).trans HXB.out)
  have x0 := (cells_of_block HX1.out 0).1
  have x1 := (cells_of_block HX1.out 1).1
  have x2 := (cells_of_block HX1.out 2).1
  have x3 := (cells_of_block HX1.out 3).1
  simp at x0 x1 x2 x3
  clear hb1' HBA HXB
  by_cases h70 : 70 < n1
  · have h70' : (70 : Int) < (n1 : Int) := by omega
    go_wp2_with fail
    refine (alive_any w1 (HT.out.below HB1.out)).mono ?_
    rintro e w2 ⟨rfl, hb2'⟩
    have HB2 : Hid (Below w.heap.size w w2) := HB1.out.trans (hb2'.mono HB1.out.size)
    go_wp2_with fail
    go_ret
    exact ⟨rfl, HB2.out⟩
  have h70' : ¬ (70 : Int) < (n1 : Int) := by omega
  by_cases h71 : 70 < n2
  · have h71' : (70 : Int) < (n2 : Int) := by omega
    go_wp2_with fail
    refine (alive_any w1 (HT.out.below HB1.out)).mono ?_
    rintro e w2 ⟨rfl, hb2'⟩
    have HB2 : Hid (Below w.heap.size w w2) := HB1.out.trans (hb2'.mono HB1.out.size)
    go_wp2_with fail
    go_ret
    exact ⟨rfl, HB2.out⟩
  have h71' : ¬ (70 : Int) < (n2 : Int) := by omega
  by_cases hright : R.right = true
  rotate_left
  · have HSZ := Lib.hid (r4size_no (c : Int) w1 (HRA.out.kept HB1.out) (by have := HN1.out; omega) (by have := HN2.out; omega) (by simpa using hright))
    clear hright
    go_wp2_with fail
    clear hc
    refine HSZ.out.mono ?_
    rintro e w2 ⟨rfl, hb2'⟩
    have HB2 : Hid (Below w.heap.size w w2) := HB1.out.trans (hb2'.mono HB1.out.size)
    clear hb2'
    go_wp2_with fail
    go_ret
    exact ⟨rfl, HB2.out⟩
  obtain ⟨hrl, hla⟩ := RawL.lay_ok HRA.out hright
  obtain ⟨L, hL⟩ : ∃ L, L = R.lay := ⟨_, rfl⟩
  rw [← hL] at hrl hla
  have HLA := Lib.hid hla
  have HRL := Lib.hid hrl
  have HSZ := Lib.hid (r4size_yes c w1 (hla.kept HB1.out) hrl hc2)
  clear hright hL hrl hla HRA HN1 HN2
  by_cases hrc : c ≠ 0 ∧ L.record = 0
  · have hV : r4V L c = (0, 3) := by unfold r4V; rw [if_pos hrc]
    rw [hV] at HSZ
    clear hV hrc
    go_wp2_with fail
    clear hc
    refine HSZ.out.mono ?_
    rintro e w2 ⟨rfl, hb2'⟩
    have HB2 : Hid (Below w.heap.size w w2) := HB1.out.trans (hb2'.mono HB1.out.size)
    clear hb2'
    go_wp2_with fail
    go_ret
    exact ⟨rfl, HB2.out⟩
  have hV : r4V L c = (L.size c, 0) := by unfold r4V; rw [if_neg hrc]
  rw [hV] at HSZ
  have HRC : Hid (c = 0 ∨ L.record ≠ 0) := by
    rcases Nat.eq_zero_or_pos c with e | e
    · exact Or.inl e
    · exact Or.inr (fun e2 => hrc ⟨by omega, e2⟩)
  obtain ⟨z, hz⟩ : ∃ z, z = L.size c := ⟨_, rfl⟩
  have HZ := Lib.hid hz
  have hzb : z ≤ 10000 := by
    have h1 := HRL.out.f
    have h2 := HRL.out.r
    have h3 : c * L.record ≤ 11 * 64 := Nat.mul_le_mul hc2 h2
    rw [hz]
    unfold Lay.size
    omega
  rw [← hz] at HSZ
  clear hV hrc hz
  go_wp2_with fail
  clear hc
  refine HSZ.out.mono ?_
  rintro e w2 ⟨rfl, hb2'⟩
  have HB2 : Hid (Below w.heap.size w w2) := HB1.out.trans (hb2'.mono HB1.out.size)
  have HX2 := Lib.hid ((hb2'.block xb (block_lt HX1.out)).trans HX1.out)
  clear hb2' HB1 HX1 x0 x1 x2 x3 HSZ
  by_cases h200 : 200 < z
  · have h200' : (200 : Int) < (z : Int) := by omega
    go_wp2_with fail
    go_ret
    exact ⟨rfl, HB2.out⟩
  have h200' : ¬ (200 : Int) < (z : Int) := by omega
  have HRl : Hid (Rl L c) := ⟨HRL.out, hc2, HRC.out, by rw [← HZ.out]; omega⟩
  go_wp2_with fail
  refine (enew_any 60 16 8 w2 (by omega) (by omega) (by omega) (by omega) (by omega) (by omega)).mono ?_
  rintro e w3 ⟨A, rfl, h1, hb1'⟩
  have HRX3 : Hid (RunX (P0 A 60 16 8 none TS.new [] [] true false false) w2 (fun _ => False) w3 (Nw w2 w3)) := ⟨h1, Only.of_below hb1' _, fun k hk => Or.inr hk.1⟩
  have HX3 : Hid (Bx w3 (Nw w2 w3) xb (.cells #[.int .i64 f, .slice ra n1 rc, .int .i64 r, .slice sa n2 sc] 60 (0, 0))) := ⟨fun hk => by have h1 := hk.1; have h2 := block_lt HX2.out; omega, (hb1'.block xb (block_lt HX2.out)).trans HX2.out⟩
  have HL3 := Lib.hid (HLA.out.kept (HB2.out.trans (hb1'.mono HB2.out.size)))
  have HTB2 := Lib.hid (HT.out.below HB2.out)
  have e0 := p0_ev h1 (Below.refl _ _)
  obtain ⟨ah, hah⟩ : ∃ ah, ah = A.h := ⟨_, rfl⟩
  obtain ⟨ac, hac⟩ : ∃ ac, ac = A.c := ⟨_, rfl⟩
  have HAC : Hid (A.h = ah ∧ A.c = ac) := ⟨hah.symm, hac.symm⟩
  rw [← hah, ← hac] at e0
  rw [← hah]
  clear h1 hb1' hah hac
  generalize Nw w2 w3 = F3 at *
  have x0 := (cells_of_block HX3.out.2 0).1
  have x1 := (cells_of_block HX3.out.2 1).1
  have x2 := (cells_of_block HX3.out.2 2).1
  have x3 := (cells_of_block HX3.out.2 3).1
  simp at x0 x1 x2 x3
  go_wp2_with fail
  -- R< 1
  have HEN := Lib.hid (r4encode_any (L := L) (v := .agg #[.int .i64 f, .slice ra n1 rc, .int .i64 r, .slice sa n2 sc]) w3.drew (HL3.out.kept (Below.refl _ _).drew) HRL.out)
  have HRX3' := Lib.hid (HRX3.out.below (p0_parts _ _ _ _ _ _ _ _ _ _ _) (Below.refl _ _).drew)
  have HX3' := Lib.hid (HX3.out.below (Below.refl _ _).drew)
  refine wp_region_held_drew (S := fun W => W.cell? ⟨ah, 0, none⟩ = some (.pointer (some ⟨ac, 0, none⟩)) ∧ W.cell? ⟨xb, 0, none⟩ = some (.int .i64 f) ∧ W.cell? ⟨xb, 1, none⟩ = some (.slice ra n1 rc) ∧ W.cell? ⟨xb, 2, none⟩ = some (.int .i64 r) ∧ W.cell? ⟨xb, 3, none⟩ = some (.slice sa n2 sc)) (by kernel_rfl) ⟨e0, x0, x1, x2, x3⟩ (fun hH => ?_)
  clear e0 x0 x1 x2 x3 HRX3 HX3
  refine tk 0 (v := ?_) rfl ?_ ?_; rotate_left; · intro W hW; obtain ⟨d0, d1, d2, d3, d4⟩ := hW; go_simp; try with_reducible rfl
  try simp only [Go.Tr.nz]
  refine tk 1 (v := ?_) rfl ?_ ?_; rotate_left; · intro W hW; obtain ⟨d0, d1, d2, d3, d4⟩ := hW; go_simp; try with_reducible rfl
  try simp only [Go.Tr.nz]
  refine tk 2 (v := ?_) rfl ?_ ?_; rotate_left; · intro W hW; obtain ⟨d0, d1, d2, d3, d4⟩ := hW; go_simp; try with_reducible rfl
  try simp only [Go.Tr.nz]
  refine tk 3 (v := ?_) rfl ?_ ?_; rotate_left; · intro W hW; obtain ⟨d0, d1, d2, d3, d4⟩ := hW; go_simp; try with_reducible rfl
  try simp only [Go.Tr.nz]
  refine tk 4 (v := ?_) rfl ?_ ?_; rotate_left; · intro W hW; obtain ⟨d0, d1, d2, d3, d4⟩ := hW; go_simp; try with_reducible rfl
  try simp only [Go.Tr.nz]
  refine rd 5 rfl (fun K hK => ?_)
  go_simp
  refine HEN.out.mono ?_
  rintro e w4 ⟨ea, ec, rfl, hsq, hb4⟩
  have HRX4 := Lib.hid (HRX3'.out.below (p0_parts _ _ _ _ _ _ _ _ _ _ _) hb4)
  have HX4 := Lib.hid (HX3'.out.below hb4)
  have HL4 := Lib.hid (HL3.out.kept ((Below.refl _ _).drew.trans hb4))
  have HSQ := Lib.hid hsq
  have hfc : w4.cell? ⟨ah, 0, none⟩ = some (.pointer (some ⟨ac, 0, none⟩)) ∧ w4.cell? ⟨xb, 0, none⟩ = some (.int .i64 f) ∧ w4.cell? ⟨xb, 1, none⟩ = some (.slice ra n1 rc) ∧ w4.cell? ⟨xb, 2, none⟩ = some (.int .i64 r) ∧ w4.cell? ⟨xb, 3, none⟩ = some (.slice sa n2 sc) := by
    have e0 := p0_ev HRX4.out.1 (Below.refl _ _)
    rw [HAC.out.1, HAC.out.2] at e0
    exact ⟨e0, (cells_of_block HX4.out.2 0).1, (cells_of_block HX4.out.2 1).1, (cells_of_block HX4.out.2 2).1, (cells_of_block HX4.out.2 3).1⟩
  refine hK.out _ _ hfc (fun hH => ?_)
  clear hK K hfc hsq hb4 HRX3' HX3' HEN
  have HDF := Lib.hid (cdefine_any (L := L) (wordN L.refs) (wordN L.recs) ea ec w4 HRX4.out.1 (HRX4.out.tz HTB2.out).at HSQ.out HRL.out (wordN_lt _) (wordN_lt _) (spread_word HRL.out.refs HRL.out.f) (spread_word HRL.out.recs HRL.out.r))
  rw [HAC.out.2] at HDF
  refine rd 6 rfl (fun K hK => ?_)
  go_simp
  refine HDF.out.mono ?_
  rintro e w5 ⟨rfl, h5⟩
  have HRX5 := Lib.hid (HRX4.out.op h5)
  have HX5 := Lib.hid (HX4.out.op h5.2)
  have e0 := p0_ev HRX5.out.1 (Below.refl _ _)
  rw [HAC.out.1, HAC.out.2] at e0
  have hfc : w5.cell? ⟨ah, 0, none⟩ = some (.pointer (some ⟨ac, 0, none⟩)) ∧ w5.cell? ⟨xb, 0, none⟩ = some (.int .i64 f) ∧ w5.cell? ⟨xb, 1, none⟩ = some (.slice ra n1 rc) ∧ w5.cell? ⟨xb, 2, none⟩ = some (.int .i64 r) ∧ w5.cell? ⟨xb, 3, none⟩ = some (.slice sa n2 sc) :=
    ⟨e0, (cells_of_block HX5.out.2 0).1, (cells_of_block HX5.out.2 1).1, (cells_of_block HX5.out.2 2).1, (cells_of_block HX5.out.2 3).1⟩
  refine hK.out _ _ hfc (fun hH => ?_)
  clear hK K hfc h5 HRX4 HX4 HSQ HDF
  refine tk 7 (v := ?_) rfl ?_ ?_; rotate_left; · intro W hW; go_simp; try with_reducible rfl
  try simp only [Go.Tr.nz]
  refine tk 8 (v := ?_) rfl ?_ ?_; rotate_left; · intro W hW; go_simp; try with_reducible rfl
  try simp only [Go.Tr.nz]
  refine tk 9 (v := ?_) rfl ?_ ?_; rotate_left; · intro W hW; go_simp; try with_reducible rfl
  try simp only [Go.Tr.nz]
  refine tk 10 (v := ?_) rfl ?_ ?_; rotate_left; · intro W hW; go_simp; try with_reducible rfl
  try simp only [Go.Tr.nz]
  refine tk 11 (v := ?_) rfl ?_ ?_; rotate_left; · intro W hW; go_simp; try with_reducible rfl
  try simp only [Go.Tr.nz]
  refine wpAnyH_done (by kernel_rfl) ?_ _
  go_wp2_with fail
  clear e0
  generalize grow F3 w4 w5 = F5 at *
  have HOP := Lib.hid (copen_any w5 HRX5.out.1 (HRX5.out.tz HTB2.out))
  rw [HAC.out.2] at HOP
  refine HOP.out.mono ?_
  rintro e w6 ⟨rfl, u, bg, h6⟩
  obtain ⟨A6, k1, k2, h6⟩ : ∃ A6 : Ad, A6.h = ah ∧ A6.c = ac ∧ HeapF w6 (grow F5 w5 w6) A6 (S0 60 16 8 L) ∧ Only F5 w5 w6 := ⟨{ A with c := ac, u := u, bg := bg }, HAC.out.1, rfl, h6⟩
  have HAC6 := Lib.hid (And.intro k1 k2)
  have HRN6 := Lib.hid (HRX5.out.opened HTB2.out h6)
  have HX6 := Lib.hid (HX5.out.op h6.2)
  clear h6 HRX5 HX5 HOP k1 k2 HAC
  generalize grow F5 w5 w6 = F6 at *
  obtain ⟨hrb, hct⟩ := RB.start HRl.out
  have HMK := Lib.hid (emake_any w6 HRN6.out.heap rfl (hrb.makeOk HRl.out (by decide)))
  rw [HAC6.out.1] at HMK
  have HMK' : Hid (Calls Tryz.prog 10 #[.pointer (some ⟨ah, 0, none⟩), .int .i64 1, .int .i64 1, .int .i64 c] w6 fun e w' => e = .returned (.tuple #[.agg #[.int .i64 0, .int .i64 1], .int .i64 0]) ∧ ∃ addr S1, AllocSt (S0 60 16 8 L) ((S0 60 16 8 L).L.size c + 1) addr S1 ∧ HeapF w' (grow F6 w6 w') A6 (mkS S1 0 1 addr c) ∧ Only F6 w6 w') := HMK.out
  have HRB := Lib.hid (And.intro hrb (hct (fun _ _ => 0)))
  clear hrb hct HMK
  have e0 := HRN6.out.heap.evc (Below.refl _ _)
  rw [HAC6.out.1, HAC6.out.2] at e0
  go_wp2_with fail
  clear e0
  refine HMK'.out.mono ?_
  rintro e w7 ⟨rfl, ad, S1, ha, h7⟩
  have HRN7 := Lib.hid (HRN6.out.op h7)
  have HX7 := Lib.hid (HX6.out.op h7.2)
  have hm7 := HRB.out.1.made HRl.out (by decide) ha HRB.out.2
  have HRB7 := Lib.hid hm7
  generalize grow F6 w6 w7 = F7 at *
  generalize mkS S1 0 1 ad c = S7 at *
  have hba : Below w7.heap.size w7 (w7.alloc (.cells #[.int .i64 0, .int .i64 1] 38)) := (Below.refl _ w7).alloc (Nat.le_refl _) _
  have HT8 : Hid (Bx (w7.alloc (.cells #[.int .i64 0, .int .i64 1] 38)) F7 w7.heap.size (.cells #[.int .i64 0, .int .i64 1] 38 (0, 0))) := Bx.new HRN7.out.heap.lt
  obtain ⟨ta, hta⟩ : ∃ ta, ta = w7.heap.size := ⟨_, rfl⟩
  rw [← hta] at HT8
  have HRN8 := Lib.hid (HRN7.out.below hba)
  have HX8 := Lib.hid (HX7.out.below hba)
  clear h7 ha hm7 hba HMK' HRN6 HRN7 HX6 HX7 HRB
  go_wp2_with fail
  rw [← hta]
  clear hta
  generalize w7.alloc (.cells #[.int .i64 0, .int .i64 1] 38) = w8 at *
  have HMK := Lib.hid (emake_any w8 HRN8.out.heap HRB7.out.1.off (HRB7.out.1.makeOk HRl.out (by decide)))
  rw [HAC6.out.1] at HMK
  have HMK' : Hid (Calls Tryz.prog 10 #[.pointer (some ⟨ah, 0, none⟩), .int .i64 1, .int .i64 1, .int .i64 c] w8 fun e w' => e = .returned (.tuple #[.agg #[.int .i64 1, .int .i64 1], .int .i64 0]) ∧ ∃ addr S1, AllocSt S7 (S7.L.size c + 1) addr S1 ∧ HeapF w' (grow F7 w8 w') A6 (mkS S1 1 1 addr c) ∧ Only F7 w8 w') := HMK.out
  clear HMK
  refine HMK'.out.mono ?_
  rintro e w9 ⟨rfl, ad2, S2, ha, h9⟩
  have HRN9 := Lib.hid (HRN8.out.op h9)
  have HX9 := Lib.hid (HX8.out.op h9.2)
  have HT9 := Lib.hid (HT8.out.op h9.2)
  have hm9 := HRB7.out.1.made HRl.out (by decide) ha HRB7.out.2
  have HRB9 := Lib.hid hm9
  generalize grow F7 w8 w9 = F9 at *
  generalize mkS S2 1 1 ad2 c = S9 at *
  have hba : Below w9.heap.size w9 (w9.alloc (.cells #[.int .i64 1, .int .i64 1] 38)) := (Below.refl _ w9).alloc (Nat.le_refl _) _
  have HU10 : Hid (Bx (w9.alloc (.cells #[.int .i64 1, .int .i64 1] 38)) F9 w9.heap.size (.cells #[.int .i64 1, .int .i64 1] 38 (0, 0))) := Bx.new HRN9.out.heap.lt
  obtain ⟨tb, htb⟩ : ∃ tb, tb = w9.heap.size := ⟨_, rfl⟩
  rw [← htb] at HU10
  have HRN10 := Lib.hid (HRN9.out.below hba)
  have HBX10 : Hid (Rbx (w9.alloc (.cells #[.int .i64 1, .int .i64 1] 38)) F9 xb ta tb #[.int .i64 f, .slice ra n1 rc, .int .i64 r, .slice sa n2 sc]) := ⟨HX9.out.below hba, HT9.out.below hba, HU10.out⟩
  clear h9 ha hm9 hba HMK' HRN8 HRN9 HX8 HX9 HT8 HT9 HU10 HRB7
  go_wp2_with fail
  rw [← htb]
  clear htb
  generalize w9.alloc (.cells #[.int .i64 1, .int .i64 1] 38) = w10 at *
  have HST : Hid (TrSt w2 ah ac xb ta tb #[.int .i64 f, .slice ra n1 rc, .int .i64 r, .slice sa n2 sc] L c 0 w10) := ⟨F9, A6, S9, HAC6.out.1, HAC6.out.2, HRN10.out, ⟨HRB9.out.1, fun i x hx hu p hp => (HRB9.out.2 i x hx hu p hp).trans (by unfold ctQ; rw [if_neg (by omega)])⟩, HBX10.out⟩
  clear HRN10 HRB9 HBX10 HAC6
  -- R> 1
  go_loopw [110] (fun i wr => ∃ q : Nat, i = .int .i64 (q : Int) ∧ q ≤ z ∧ Hid (TrSt w2 ah ac xb ta tb #[.int .i64 f, .slice ra n1 rc, .int .i64 r, .slice sa n2 sc] L c q wr)) (fun i _ => z - (intOf i).toNat)
  case atStart => exact ⟨0, rfl, Nat.zero_le _, HST.out⟩
  case round =>
    clear HST
    obtain ⟨q, rfl, hq, HR⟩ := hrel
    by_cases hqz : q < z
    ·
      -- R< 2
      have hqz2 : (q : Int) < (z : Int) := by omega
      obtain ⟨F', A', S, hah, hac, hrun, ⟨hrb, hct⟩, hbx⟩ := HR.out
      have hlw : LayAt wr (.agg #[.int .i64 f, .slice ra n1 rc, .int .i64 r, .slice sa n2 sc]) L := HLA.out.kept (HB2.out.trans (hrun.fin0.mono HB2.out.size))
      have HIR := Lib.hid (r4isref_any q wr hlw HRL.out (fun hfq => by
        rcases HRC.out with e | e
        · have := HZ.out; unfold Lay.size at this; rw [e] at this; omega
        · exact e) (by omega))
      obtain ⟨bv, hbv⟩ : ∃ bv, bv = isRefN L q := ⟨_, rfl⟩
      rw [← hbv] at HIR
      have HBV := Lib.hid hbv
      have hqs : q < S.L.size c := by rw [hrb.lay, ← HZ.out]; exact hqz
      obtain ⟨x, x1, x2, x3, x4⟩ := hrb.old 0 (by decide)
      obtain ⟨y1', y1, y2, y3, y4⟩ := hrb.old 1 (by decide)
      have hcw : S.ws.getD (x.addr + 1 + q) 0 = lkN none := (hct 0 x x1 x2 q hqs).trans ctQ_here
      have hcn := cont_next hrb x1 x2 (by rw [← hrb.lay]; exact hqs) hct
      have HCN : Hid (∀ v, v = (if isRefN L q = true then linkN 1 1 else q * 977) → RB L c (fun _ => true) { S with ws := S.ws.set (x.addr + 1 + q) v } 2 ∧ Cont { S with ws := S.ws.set (x.addr + 1 + q) v } (cnc c) (ctQ L (q + 1))) := fun v hv => by
        rw [hv]
        exact ⟨hrb.word x1 x2 (by rw [← hrb.lay]; exact hqs), hcn⟩
      have HTI : Hid (bv = true → ∀ W, Below wr.heap.size wr W → Calls Tryz.prog 20 #[.pointer (some ⟨ac, 0, none⟩), .agg #[.int .i64 0, .int .i64 1], .int .i64 q, .agg #[.int .i64 1, .int .i64 1]] W fun e w' => e = .returned (.int .i64 0) ∧ HeapF w' (grow F' W w') A' { S with ws := S.ws.set (x.addr + 1 + q) (linkN 1 1) } ∧ Only F' W w') := fun hb W hW => by
        have := cTie_any (p := q) none W (hrun.below hW).heap (hrb.good.objOk x1 x2) x4 (hrb.good.ent 0 x x1 x2).reg y1 y2 y4 (hrb.good.ent 1 y1' y1 y2).reg hqs (by rw [hrb.lay, ← hbv]; exact hb) (by decide) (by omega) (by omega) (fun i g e => by cases e) hcw
        rw [x3, y3, hac] at this
        exact this
      have HSE : Hid (bv = false → ∀ W, Below wr.heap.size wr W → Calls Tryz.prog 21 #[.pointer (some ⟨ah, 0, none⟩), .agg #[.int .i64 0, .int .i64 1], .int .i64 q, .int .u64 (q * 977 : Nat)] W fun e w' => e = .returned (.int .i64 0) ∧ HeapF w' (grow F' W w') A' { S with ws := S.ws.set (x.addr + 1 + q) (q * 977) } ∧ Only F' W w') := fun hb W hW => by
        have := eset0_any (p := q) (v := q * 977) W (hrun.below hW).heap hrb.off (hrb.good.objOk x1 x2) x4 hqs (by rw [hrb.lay, ← hbv]; exact hb) (by omega)
        rw [x3, hah] at this
        exact this
      have HAC := Lib.hid (And.intro hah hac)
      have HRN := Lib.hid hrun
      have HBX := Lib.hid hbx
      have d0 := (cells_of_block hbx.1.2 0).1
      have d1 := (cells_of_block hbx.1.2 1).1
      have d2 := (cells_of_block hbx.1.2 2).1
      have d3 := (cells_of_block hbx.1.2 3).1
      simp at d0 d1 d2 d3
      clear HR hah hac hrun hrb hct hbx hlw hbv hqs x1 x2 x3 x4 y1 y2 y3 y4 hcw hcn
      generalize x.addr + 1 + q = qa at *
      go_wp2_with fail
      clear d0 d1 d2 d3
      refine HIR.out.mono ?_
      rintro e w5 ⟨rfl, hb5⟩
      have HRN5 := Lib.hid (HRN.out.below hb5)
      have HBX5 := Lib.hid (HBX.out.below hb5)
      have HB5 := Lib.hid hb5
      have e0 := HRN5.out.heap.evc (Below.refl _ _)
      rw [HAC.out.1, HAC.out.2] at e0
      have t0 := (cells_of_block HBX5.out.2.1.2 0).1
      have t1 := (cells_of_block HBX5.out.2.1.2 1).1
      have u0 := (cells_of_block HBX5.out.2.2.2 0).1
      have u1 := (cells_of_block HBX5.out.2.2.2 1).1
      simp at t0 t1 u0 u1
      clear hb5 HRN HBX HIR
      cases bv with
      | true =>
        have HTI2 := Lib.hid (HTI.out rfl w5.drew HB5.out.drew)
        have HCN2 := Lib.hid (HCN.out (linkN 1 1) (by rw [if_pos HBV.out.symm]))
        have HRN5' := Lib.hid (HRN5.out.below (Below.refl _ _).drew)
        have HBX5' := Lib.hid (HBX5.out.below (Below.refl _ _).drew)
        clear HTI HSE HCN
        go_wp2_with fail
        refine wp_region_held_drew (S := fun W => W.cell? ⟨ah, 0, none⟩ = some (.pointer (some ⟨ac, 0, none⟩)) ∧ W.cell? ⟨ta, 0, none⟩ = some (.int .i64 0) ∧ W.cell? ⟨ta, 1, none⟩ = some (.int .i64 1) ∧ W.cell? ⟨tb, 0, none⟩ = some (.int .i64 1) ∧ W.cell? ⟨tb, 1, none⟩ = some (.int .i64 1)) (by kernel_rfl) ⟨e0, t0, t1, u0, u1⟩ (fun hH => ?_)
        clear e0 t0 t1 u0 u1
        refine tk 0 (v := ?_) rfl ?_ ?_; rotate_left; · intro W hW; obtain ⟨d0, d1, d2, d3, d4⟩ := hW; go_simp; try with_reducible rfl
        try simp only [Go.Tr.nz]
        refine tk 1 (v := ?_) rfl ?_ ?_; rotate_left; · intro W hW; obtain ⟨d0, d1, d2, d3, d4⟩ := hW; go_simp; try with_reducible rfl
        try simp only [Go.Tr.nz]
        refine tk 2 (v := ?_) rfl ?_ ?_; rotate_left; · intro W hW; obtain ⟨d0, d1, d2, d3, d4⟩ := hW; go_simp; try with_reducible rfl
        try simp only [Go.Tr.nz]
        refine tk 3 (v := ?_) rfl ?_ ?_; rotate_left; · intro W hW; obtain ⟨d0, d1, d2, d3, d4⟩ := hW; go_simp; try with_reducible rfl
        try simp only [Go.Tr.nz]
        refine tk 4 (v := ?_) rfl ?_ ?_; rotate_left; · intro W hW; obtain ⟨d0, d1, d2, d3, d4⟩ := hW; go_simp; try with_reducible rfl
        try simp only [Go.Tr.nz]
        refine tk 5 (v := ?_) rfl ?_ ?_; rotate_left; · intro W hW; obtain ⟨d0, d1, d2, d3, d4⟩ := hW; go_simp; try with_reducible rfl
        try simp only [Go.Tr.nz]
        refine tk 6 (v := ?_) rfl ?_ ?_; rotate_left; · intro W hW; obtain ⟨d0, d1, d2, d3, d4⟩ := hW; go_simp; try with_reducible rfl
        try simp only [Go.Tr.nz]
        refine rd 7 rfl (fun K hK => ?_)
        go_simp
        refine HTI2.out.mono ?_
        rintro e w6 ⟨rfl, h6⟩
        have HRN6 := Lib.hid (HRN5'.out.op h6)
        have HBX6 := Lib.hid (HBX5'.out.op h6.2)
        have hfc : w6.cell? ⟨ah, 0, none⟩ = some (.pointer (some ⟨ac, 0, none⟩)) ∧ w6.cell? ⟨ta, 0, none⟩ = some (.int .i64 0) ∧ w6.cell? ⟨ta, 1, none⟩ = some (.int .i64 1) ∧ w6.cell? ⟨tb, 0, none⟩ = some (.int .i64 1) ∧ w6.cell? ⟨tb, 1, none⟩ = some (.int .i64 1) := by
          have := HRN6.out.heap.evc (Below.refl _ _)
          rw [HAC.out.1, HAC.out.2] at this
          exact ⟨this, (cells_of_block HBX6.out.2.1.2 0).1, (cells_of_block HBX6.out.2.1.2 1).1, (cells_of_block HBX6.out.2.2.2 0).1, (cells_of_block HBX6.out.2.2.2 1).1⟩
        have HNX : Hid (TrSt w2 ah ac xb ta tb #[.int .i64 f, .slice ra n1 rc, .int .i64 r, .slice sa n2 sc] L c (q + 1) w6) := ⟨_, A', _, HAC.out.1, HAC.out.2, HRN6.out, HCN2.out, HBX6.out⟩
        refine hK.out _ _ hfc (fun hH => ?_)
        clear h6 hK K hfc HTI2 HRN5' HBX5' HRN6 HBX6
        refine tk 8 (v := ?_) rfl ?_ ?_; rotate_left; · intro W hW; go_simp; try with_reducible rfl
        try simp only [Go.Tr.nz]
        refine wpAnyH_done (by kernel_rfl) ?_ _
        go_wp2_with fail
        go_roundw
        case rel => exact ⟨q + 1, by go_num, by omega, HNX.out⟩
        case measure => simp [intOf]; omega
      | false =>
        have hm1 : IntKind.u64.wrap (q : Int) = (q : Int) := IntWalk.u64_in _ (by omega)
        have hm2 : IntKind.u64.wrap ((q : Int) * 977) = ((q * 977 : Nat) : Int) := by rw [IntWalk.u64_in _ (by omega)]; push_cast; rfl
        obtain ⟨mv, hmv⟩ : ∃ mv, mv = q * 977 := ⟨_, rfl⟩
        have HSE2 := Lib.hid (HSE.out rfl w5 HB5.out)
        have HCN2 := Lib.hid (HCN.out (q * 977) (by rw [if_neg (by rw [← HBV.out]; decide)]))
        rw [← hmv] at HSE2 HCN2 hm2
        clear HTI HSE HCN hmv
        go_wp2_with fail
        clear e0 t0 t1 u0 u1
        refine HSE2.out.mono ?_
        rintro e w6 ⟨rfl, h6⟩
        have HNX : Hid (TrSt w2 ah ac xb ta tb #[.int .i64 f, .slice ra n1 rc, .int .i64 r, .slice sa n2 sc] L c (q + 1) w6) := ⟨_, A', _, HAC.out.1, HAC.out.2, HRN5.out.op h6, HCN2.out, HBX5.out.op h6.2⟩
        clear h6 HSE2 HCN2
        go_wp2_with fail
        go_roundw
        case rel => exact ⟨q + 1, by go_num, by omega, HNX.out⟩
        case measure => simp [intOf]; omega
      -- R> 2
    · have hqz2 : ¬ (q : Int) < (z : Int) := by omega
      have hqe : q = z := by omega
      obtain ⟨F', A', S, hah, hac, hrun, ⟨hrb, hct⟩, hbx⟩ := HR.out
      have hlw : LayAt wr (.agg #[.int .i64 f, .slice ra n1 rc, .int .i64 r, .slice sa n2 sc]) L := HLA.out.kept (HB2.out.trans (hrun.fin0.mono HB2.out.size))
      rw [hqe, HZ.out] at hct
      obtain ⟨y, y1, y2, y3, y4⟩ := hrb.old 1 (by decide)
      have HDR : Hid (Calls Tryz.prog 11 #[.pointer (some ⟨ac, 0, none⟩), .agg #[.int .i64 1, .int .i64 1]] wr.drew fun e w' => e = .returned (.int .i64 0) ∧ HeapF w' (grow F' wr.drew w') A' { S with sl := S.sl.set 1 ⟨y.gen, y.used, y.addr, y.region, false, y.pinned⟩ } ∧ Only F' wr.drew w') := by
        have := cdrop_any (i := 1) wr.drew (hrun.below (Below.refl _ _).drew).heap y1 y2 y4
        rw [y3, hac] at this
        rw [y3]
        exact this
      have HRB2 := Lib.hid (And.intro (hrb.drop y1 y2) ((hrb.good.mark y1 y2 false).2 _ hct))
      have HAC := Lib.hid (And.intro hah hac)
      have HRN := Lib.hid (hrun.below (Below.refl _ _).drew)
      have HBX := Lib.hid (hbx.below (Below.refl _ _).drew)
      have e0 := hrun.heap.evc (Below.refl _ _)
      rw [hah, hac] at e0
      have u0 := (cells_of_block hbx.2.2.2 0).1
      have u1 := (cells_of_block hbx.2.2.2 1).1
      simp at u0 u1
      generalize ({ S with sl := S.sl.set 1 ⟨y.gen, y.used, y.addr, y.region, false, y.pinned⟩ } : HS) = SD at *
      clear HR hah hac hrun hrb hct hbx hlw y1 y2 y3 y4 hqe
      go_wp2_with fail
      refine wp_region_held_drew (S := fun W => W.cell? ⟨ah, 0, none⟩ = some (.pointer (some ⟨ac, 0, none⟩)) ∧ W.cell? ⟨tb, 0, none⟩ = some (.int .i64 1) ∧ W.cell? ⟨tb, 1, none⟩ = some (.int .i64 1)) (by kernel_rfl) ⟨e0, u0, u1⟩ (fun hH => ?_)
      clear e0 u0 u1
      refine tk 0 (v := ?_) rfl ?_ ?_; rotate_left; · intro W hW; obtain ⟨d0, d1, d2⟩ := hW; go_simp; try with_reducible rfl
      try simp only [Go.Tr.nz]
      refine tk 1 (v := ?_) rfl ?_ ?_; rotate_left; · intro W hW; obtain ⟨d0, d1, d2⟩ := hW; go_simp; try with_reducible rfl
      try simp only [Go.Tr.nz]
      refine tk 2 (v := ?_) rfl ?_ ?_; rotate_left; · intro W hW; obtain ⟨d0, d1, d2⟩ := hW; go_simp; try with_reducible rfl
      try simp only [Go.Tr.nz]
      refine tk 3 (v := ?_) rfl ?_ ?_; rotate_left; · intro W hW; obtain ⟨d0, d1, d2⟩ := hW; go_simp; try with_reducible rfl
      try simp only [Go.Tr.nz]
      refine tk 4 (v := ?_) rfl ?_ ?_; rotate_left; · intro W hW; obtain ⟨d0, d1, d2⟩ := hW; go_simp; try with_reducible rfl
      try simp only [Go.Tr.nz]
      refine rd 5 rfl (fun K hK => ?_)
      go_simp
      refine HDR.out.mono ?_
      rintro e w5 ⟨rfl, h5⟩
      have HRN5 := Lib.hid (HRN.out.op h5)
      have HBX5 := Lib.hid (HBX.out.op h5.2)
      have hfc : w5.cell? ⟨ah, 0, none⟩ = some (.pointer (some ⟨ac, 0, none⟩)) ∧ w5.cell? ⟨tb, 0, none⟩ = some (.int .i64 1) ∧ w5.cell? ⟨tb, 1, none⟩ = some (.int .i64 1) := by
        have := HRN5.out.heap.evc (Below.refl _ _)
        rw [HAC.out.1, HAC.out.2] at this
        exact ⟨this, (cells_of_block HBX5.out.2.2.2 0).1, (cells_of_block HBX5.out.2.2.2 1).1⟩
      refine hK.out _ _ hfc (fun hH => ?_)
      clear h5 hK K hfc HDR HRN HBX hH
      generalize grow F' wr.drew w5 = F5 at *
      refine wpAnyH_done (by kernel_rfl) ?_ _
      have HSL := Lib.hid (r4slots_any c w5 (HLA.out.kept (HB2.out.trans (HRN5.out.fin0.mono HB2.out.size))) HRL.out hc2 HRC.out (by rw [← HZ.out]; omega))
      have d0 := (cells_of_block HBX5.out.1.2 0).1
      have d1 := (cells_of_block HBX5.out.1.2 1).1
      have d2 := (cells_of_block HBX5.out.1.2 2).1
      have d3 := (cells_of_block HBX5.out.1.2 3).1
      simp at d0 d1 d2 d3
      go_wp2_with fail
      clear d0 d1 d2 d3
      refine HSL.out.mono ?_
      rintro e w6 ⟨na, nn, nc, rfl, hnn, hb6⟩
      have HRN6 := Lib.hid (HRN5.out.below hb6)
      have HBX6 := Lib.hid (HBX5.out.below hb6)
      have HTF := Lib.hid (tfinish_any (b := b) (RvJ.evJ HRl.out) w6 HRN6.out.heap HRB2.out.1.good HRB2.out.1.off (HRB2.out.1.begs HRl.out HRB2.out.2) hb1 (by omega))
      rw [HAC.out.1] at HTF
      by_cases h0 : nn = 0
      case' pos =>
        have HSB : Hid ((if slotsL L c = [] then 1 else 0) = 1) := by show _ = _; rw [if_pos (hnn.1 h0)]
        subst h0
        clear hnn hb6 HRN5 HBX5 HSL
        go_wp2_with fail
        clear hb
        refine HTF.out.mono ?_
        rintro e w7 ⟨v, u2, gl, rfl, sv, fr, n5, SJ, S3, rfl, ⟨va, vc, rfl⟩, hJ, hw, hfr, h7⟩
        obtain ⟨hfin, hlost⟩ := hJ.fin hw hfr
        rw [HSB.out] at hlost
        rw [hlost]
        obtain ⟨A7, a1, a2, h7⟩ : ∃ A7 : Ad, A7.h = ah ∧ A7.c = ac ∧ HeapF w7 (grow F5 w6 w7) A7 S3 ∧ Only F5 w6 w7 := ⟨{ A' with h := ah, u2 := u2, gl := gl }, rfl, HAC.out.2, h7⟩
        have HEN : Hid (TrEn w2 ah ac xb ta tb #[.int .i64 f, .slice ra n1 rc, .int .i64 r, .slice sa n2 sc] L c w7) := ⟨_, A7, S3, a1, a2, HRN6.out.op h7, hfin, HBX6.out.op h7.2⟩
        generalize fr.length = fl at *
        have HEN8 : Hid (TrEn w2 ah ac xb ta tb #[.int .i64 f, .slice ra n1 rc, .int .i64 r, .slice sa n2 sc] L c (w7.alloc (.cells #[.slice va fl vc, .int .i64 1] 44))) := HEN.out.below ((Below.refl _ w7).alloc (Nat.le_refl _) _)
        clear hJ hw hfr hfin hlost h7 a1 a2 HTF HRN6 HBX6 HSB HRB2 HAC HEN
        go_wp2_with fail
        generalize w7.alloc (.cells #[.slice va fl vc, .int .i64 1] 44) = w8 at *
      case' neg =>
        have HSB : Hid ((if slotsL L c = [] then 1 else 0) = 0) := by show _ = _; rw [if_neg (fun e => h0 (hnn.2 e))]
        have h0' : (0 : Int) < (nn : Int) := by omega
        have h0n : 0 < nn := by omega
        clear hnn hb6 HRN5 HBX5 HSL
        go_wp2_with fail
        clear hb
        refine HTF.out.mono ?_
        rintro e w7 ⟨v, u2, gl, rfl, sv, fr, n5, SJ, S3, rfl, ⟨va, vc, rfl⟩, hJ, hw, hfr, h7⟩
        obtain ⟨hfin, hlost⟩ := hJ.fin hw hfr
        rw [HSB.out] at hlost
        rw [hlost]
        obtain ⟨A7, a1, a2, h7⟩ : ∃ A7 : Ad, A7.h = ah ∧ A7.c = ac ∧ HeapF w7 (grow F5 w6 w7) A7 S3 ∧ Only F5 w6 w7 := ⟨{ A' with h := ah, u2 := u2, gl := gl }, rfl, HAC.out.2, h7⟩
        have HEN : Hid (TrEn w2 ah ac xb ta tb #[.int .i64 f, .slice ra n1 rc, .int .i64 r, .slice sa n2 sc] L c w7) := ⟨_, A7, S3, a1, a2, HRN6.out.op h7, hfin, HBX6.out.op h7.2⟩
        generalize fr.length = fl at *
        have HEN8 : Hid (TrEn w2 ah ac xb ta tb #[.int .i64 f, .slice ra n1 rc, .int .i64 r, .slice sa n2 sc] L c (w7.alloc (.cells #[.slice va fl vc, .int .i64 0] 44))) := HEN.out.below ((Below.refl _ w7).alloc (Nat.le_refl _) _)
        clear hJ hw hfr hfin hlost h7 a1 a2 HTF HRN6 HBX6 HSB HRB2 HAC HEN
        go_wp2_with fail
        generalize w7.alloc (.cells #[.slice va fl vc, .int .i64 0] 44) = w8 at *
      all_goals
        go_loopw [165] (fun i wr => ∃ q : Nat, i = .int .i64 (q : Int) ∧ q ≤ z ∧ Hid (TrEn w2 ah ac xb ta tb #[.int .i64 f, .slice ra n1 rc, .int .i64 r, .slice sa n2 sc] L c wr)) (fun i _ => z - (intOf i).toNat)
        case atStart => exact ⟨0, rfl, Nat.zero_le _, HEN8.out⟩
        case round =>
          clear HEN8
          obtain ⟨p, rfl, hp, HR⟩ := hrel
          by_cases hpz : p < z
          · have hpz2 : (p : Int) < (z : Int) := by omega
            obtain ⟨F9', A9, S9', hah, hac, hrun, hfi, hbx⟩ := HR.out
            have hlw : LayAt wr (.agg #[.int .i64 f, .slice ra n1 rc, .int .i64 r, .slice sa n2 sc]) L := HLA.out.kept (HB2.out.trans (hrun.fin0.mono HB2.out.size))
            have HIR := Lib.hid (r4isref_any p wr hlw HRL.out (fun hfq => by
              rcases HRC.out with e | e
              · have := HZ.out; unfold Lay.size at this; rw [e] at this; omega
              · exact e) (by omega))
            obtain ⟨bv, hbv⟩ : ∃ bv, bv = isRefN L p := ⟨_, rfl⟩
            rw [← hbv] at HIR
            have hqs : p < S9'.L.size c := by rw [hfi.lay, ← HZ.out]; exact hpz
            obtain ⟨t, x1, x2, x3, x4⟩ := hfi.s0
            have hcw : S9'.ws.getD (t.addr + 1 + p) 0 = ctQ L (L.size c) 0 p := hfi.cont 0 t x1 x2 p hqs
            have hct : ctQ L (L.size c) 0 p = if isRefN L p = true then linkN 1 1 else p * 977 := by
              unfold ctQ
              rw [if_pos (show 0 = 0 ∧ p < L.size c from ⟨rfl, by rw [← HZ.out]; exact hpz⟩)]
            have HLK : Hid (bv = true → ∀ W, Below wr.heap.size wr W → Calls Tryz.prog 23 #[.pointer (some ⟨ac, 0, none⟩), .agg #[.int .i64 0, .int .i64 1], .int .i64 p] W fun e w' => e = .returned (.tuple #[.agg #[.int .i64 2, .int .i64 1, .int .i64 1], .int .i64 0]) ∧ Below W.heap.size W w') := fun hb W hW => by
              have := clook_any (p := p) (some (1, 1)) W (hrun.below hW).heap (hfi.good.objOk x1 x2) x4 hqs (by rw [hfi.lay, ← hbv]; exact hb) (fun i g e => by cases e; decide) (by rw [hcw, hct, if_pos (by rw [← hbv]; exact hb)]; rfl)
              rw [x3, hac] at this
              exact this
            have HGE : Hid (bv = false → ∀ W, Below wr.heap.size wr W → Calls Tryz.prog 24 #[.pointer (some ⟨ah, 0, none⟩), .agg #[.int .i64 0, .int .i64 1], .int .i64 p] W fun e w' => e = .returned (.tuple #[.int .u64 (p * 977 : Nat), .int .i64 0]) ∧ TrEn w2 ah ac xb ta tb #[.int .i64 f, .slice ra n1 rc, .int .i64 r, .slice sa n2 sc] L c w') := fun hb W hW => by
              have := eget_any (p := p) (val := p * 977) (gen := t.gen) W (hrun.below hW).heap ((hrun.below hW).heap.touch0 hfi.off x1 x2) (fun S' hS => ⟨t, c, by rw [hS]; exact hfi.good.objOk x1 x2, rfl, x4, by rw [hS]; exact hqs, by rw [hS, hfi.lay, ← hbv]; exact hb, by rw [hS, hcw, hct, if_neg (by rw [← hbv, hb]; decide)]⟩)
              rw [x3, hah] at this
              refine this.mono ?_
              rintro e w' ⟨e1, S', rfl, h3⟩
              exact ⟨e1, _, A9, _, hah, hac, (hrun.below hW).op h3, hfi, (hbx.below hW).op h3.2⟩
            have HAC := Lib.hid (And.intro hah hac)
            have HRN := Lib.hid hrun
            have HBX := Lib.hid hbx
            have d0 := (cells_of_block hbx.1.2 0).1
            have d1 := (cells_of_block hbx.1.2 1).1
            have d2 := (cells_of_block hbx.1.2 2).1
            have d3 := (cells_of_block hbx.1.2 3).1
            simp at d0 d1 d2 d3
            clear hah hac hrun hfi hbx hlw hbv hqs x1 x2 x3 x4 hcw hct
            go_wp2_with fail
            clear d0 d1 d2 d3
            refine HIR.out.mono ?_
            rintro e w5 ⟨rfl, hb5⟩
            have HB5 := Lib.hid hb5
            have HRN5 := Lib.hid (HRN.out.below hb5)
            have HBX5 := Lib.hid (HBX.out.below hb5)
            clear hb5 HIR HRN HBX
            cases bv with
            | true =>
              have HLK2 := Lib.hid (HLK.out rfl)
              clear HLK HGE
              obtain ⟨n, hn⟩ : ∃ n, n = w5.heap.size := ⟨_, rfl⟩
              have HN : Hid (n = w5.heap.size) := hn
              have HW : Hid (∀ W, Below n w5 W → Below wr.heap.size wr W) := fun W hb => by rw [hn] at hb; exact HB5.out.trans (hb.mono HB5.out.size)
              clear hn
              have HD : Hid (∀ W, Below n w5 W → W.cell? ⟨ah, 0, none⟩ = some (.pointer (some ⟨ac, 0, none⟩)) ∧ W.cell? ⟨ta, 0, none⟩ = some (.int .i64 0) ∧ W.cell? ⟨ta, 1, none⟩ = some (.int .i64 1) ∧ W.cell? ⟨tb, 0, none⟩ = some (.int .i64 1) ∧ W.cell? ⟨tb, 1, none⟩ = some (.int .i64 1)) := fun W hb => by
                rw [HN.out] at hb
                have he := (HRN5.out.below hb).heap.evc (Below.refl _ _)
                rw [HAC.out.1, HAC.out.2] at he
                have h2 := HBX5.out.below hb
                exact ⟨he, (cells_of_block h2.2.1.2 0).1, (cells_of_block h2.2.1.2 1).1, (cells_of_block h2.2.2.2 0).1, (cells_of_block h2.2.2.2 1).1⟩
              go_wp2_with fail
              refine wp_region_held_drew (S := Below n w5) (by kernel_rfl) (Below.refl n w5).drew (fun hH => ?_)
              refine tk 0 (v := ?_) rfl ?_ ?_; rotate_left; · intro W hW; obtain ⟨d0, d1, d2, d3, d4⟩ := HD.out W hW; go_simp; try with_reducible rfl
              try simp only [Go.Tr.nz]
              refine tk 1 (v := ?_) rfl ?_ ?_; rotate_left; · intro W hW; obtain ⟨d0, d1, d2, d3, d4⟩ := HD.out W hW; go_simp; try with_reducible rfl
              try simp only [Go.Tr.nz]
              refine tk 2 (v := ?_) rfl ?_ ?_; rotate_left; · intro W hW; obtain ⟨d0, d1, d2, d3, d4⟩ := HD.out W hW; go_simp; try with_reducible rfl
              try simp only [Go.Tr.nz]
              refine tk 3 (v := ?_) rfl ?_ ?_; rotate_left; · intro W hW; obtain ⟨d0, d1, d2, d3, d4⟩ := HD.out W hW; go_simp; try with_reducible rfl
              try simp only [Go.Tr.nz]
              refine tk 4 (v := ?_) rfl ?_ ?_; rotate_left; · intro W hW; obtain ⟨d0, d1, d2, d3, d4⟩ := HD.out W hW; go_simp; try with_reducible rfl
              try simp only [Go.Tr.nz]
              refine tk 5 (v := ?_) rfl ?_ ?_; rotate_left; · intro W hW; obtain ⟨d0, d1, d2, d3, d4⟩ := HD.out W hW; go_simp; try with_reducible rfl
              try simp only [Go.Tr.nz]
              refine rd2 6 10 rfl rfl (fun K hK => ?_) (fun K hK => ?_)
              focus
                go_simp
                refine (HLK2.out _ (HW.out _ hH)).mono ?_
                rintro e w6 ⟨rfl, hb3⟩
                have HB3 : Hid (Below n w5 w6) := hH.trans (hb3.mono (by rw [HN.out]; exact hH.size))
                refine hK.out _ _ HB3.out (fun hH => ?_)
                clear hK K hb3
                refine tk 7 (v := ?_) rfl ?_ ?_; rotate_left; · intro W hW; go_simp; try with_reducible rfl
                try simp only [Go.Tr.nz]
                refine tk 8 (v := ?_) rfl ?_ ?_; rotate_left; · intro W hW; go_simp; try with_reducible rfl
                try simp only [Go.Tr.nz]
                refine tk 9 (v := ?_) rfl ?_ ?_; rotate_left; · intro W hW; go_simp; try with_reducible rfl
                try simp only [Go.Tr.nz]
                refine rd 10 rfl (fun K hK => ?_)
                go_simp
                have HB7 : Hid (Below n w5 (w6.alloc (.cells #[.int .i64 2, .int .i64 1, .int .i64 1] 69))) := HB3.out.alloc (by rw [HN.out]; exact HB3.out.size) _
                refine hK.out _ _ (HB3.out.alloc (by rw [HN.out]; exact HB3.out.size) _) (fun hH => ?_)
                clear hK K
                refine rd 11 rfl (fun K hK => ?_)
                go_simp
                refine hK.out _ _ HB7.out (fun hH => ?_)
                clear hK K
                obtain ⟨yb, hxb⟩ : ∃ xb, xb = w6.heap.size := ⟨_, rfl⟩
                have HX : Hid ((w6.alloc (.cells #[.int .i64 2, .int .i64 1, .int .i64 1] 69)).heap[yb]? = some (.cells #[.int .i64 2, .int .i64 1, .int .i64 1] 69 (0, 0))) := by rw [hxb]; exact heap_alloc_new w6 _
                have HXE : Hid (n ≤ yb) := by show _ ≤ _; rw [hxb, HN.out]; exact HB3.out.size
                rw [← hxb]
                clear hxb
                generalize w6.alloc (.cells #[.int .i64 2, .int .i64 1, .int .i64 1] 69) = w7 at *
              rotate_left
              focus
                go_simp
                have hb3 : Below n w5 (w5.alloc (.cells #[.int .i64 0, .int .i64 0, .int .i64 0] 69)).drew := ((Below.refl n w5).alloc (Nat.le_of_eq HN.out) _).drew
                refine hK.out _ _ hb3 (fun hH => ?_)
                clear hK K
                refine rd 6 rfl (fun K hK => ?_)
                go_simp
                refine (HLK2.out _ (HW.out _ hH)).mono ?_
                rintro e w6 ⟨rfl, hbc⟩
                have HB3 : Hid (Below n w5 w6) := hb3.trans (hbc.mono (by rw [HN.out]; exact hb3.size))
                obtain ⟨yb, hxb⟩ : ∃ xb, xb = w5.heap.size := ⟨_, rfl⟩
                have HX3 : Hid (w6.heap[yb]? = some (.cells #[.int .i64 0, .int .i64 0, .int .i64 0] 69 (0, 0))) := by rw [hxb]; exact (hbc.block _ (by simp)).trans (heap_alloc_new w5 _)
                refine hK.out _ _ HB3.out (fun hH => ?_)
                rw [← hxb]
                have hxw : n ≤ yb := by rw [HN.out]; exact Nat.le_of_eq hxb.symm
                have HXE : Hid (n ≤ yb) := hxw
                clear hK K hb3 hbc hxb
                refine tk 7 (v := ?_) rfl ?_ ?_; rotate_left; · intro W hW; go_simp; try with_reducible rfl
                try simp only [Go.Tr.nz]
                refine tk 8 (v := ?_) rfl ?_ ?_; rotate_left; · intro W hW; go_simp; try with_reducible rfl
                try simp only [Go.Tr.nz]
                refine tk 9 (v := ?_) rfl ?_ ?_; rotate_left; · intro W hW; go_simp; try with_reducible rfl
                try simp only [Go.Tr.nz]
                have z0 := cells_of_block HX3.out 0
                have z1 := cells_of_block HX3.out 1
                have z2 := cells_of_block HX3.out 2
                simp at z0 z1 z2
                obtain ⟨z0, f0⟩ := z0
                obtain ⟨z1, f1⟩ := z1
                obtain ⟨z2, f2⟩ := z2
                refine rd 11 rfl (fun K hK => ?_)
                go_simp
                have HB7 : Hid (Below n w5 (((w6.setCell ⟨yb, 0, none⟩ (.int .i64 2)).setCell ⟨yb, 1, none⟩ (.int .i64 1)).setCell ⟨yb, 2, none⟩ (.int .i64 1))) := (((HB3.out).setCell hxw _).setCell hxw _).setCell hxw _
                refine hK.out _ _ HB7.out (fun hH => ?_)
                clear hK K hxw z0 f0 z1 f1 z2 f2
                have HX : Hid ((((w6.setCell ⟨yb, 0, none⟩ (.int .i64 2)).setCell ⟨yb, 1, none⟩ (.int .i64 1)).setCell ⟨yb, 2, none⟩ (.int .i64 1)).heap[yb]? = some (.cells #[.int .i64 2, .int .i64 1, .int .i64 1] 69 (0, 0))) := by
                  show _ = _
                  simpa using block_setCell (block_setCell (block_setCell (HX3.out) 0 (.int .i64 2)) 1 (.int .i64 1)) 2 (.int .i64 1)
                generalize ((w6.setCell ⟨yb, 0, none⟩ (.int .i64 2)).setCell ⟨yb, 1, none⟩ (.int .i64 1)).setCell ⟨yb, 2, none⟩ (.int .i64 1) = w7 at *
                clear HX3
              all_goals
                refine tk 12 (v := ?_) rfl ?_ ?_; rotate_left; · intro W hW; go_simp; try with_reducible rfl
                try simp only [Go.Tr.nz]
                refine wpAnyH_done (by kernel_rfl) ?_ _
                have HNX : Hid (TrEn w2 ah ac xb ta tb #[.int .i64 f, .slice ra n1 rc, .int .i64 r, .slice sa n2 sc] L c w7) := HR.out.below (HW.out _ HB7.out)
                obtain ⟨d0, d1, d2, d3, d4⟩ := HD.out _ HB7.out
                have y0 := (cells_of_block HX.out 0).1
                have y1 := (cells_of_block HX.out 1).1
                have y2 := (cells_of_block HX.out 2).1
                simp at y0 y1 y2
                go_wp2_with fail
                clear d0 d1 d2 d3 d4 y0 y1 y2
                go_roundw
                case rel => exact ⟨p + 1, by go_num, by omega, HNX.out⟩
                case measure => simp [intOf]; omega
            | false =>
              have hm1 : IntKind.u64.wrap (p : Int) = (p : Int) := IntWalk.u64_in _ (by omega)
              have hm2 : IntKind.u64.wrap ((p : Int) * 977) = ((p * 977 : Nat) : Int) := by rw [IntWalk.u64_in _ (by omega)]; push_cast; rfl
              obtain ⟨mv, hmv⟩ : ∃ mv, mv = p * 977 := ⟨_, rfl⟩
              have HGE2 := Lib.hid (HGE.out rfl w5 HB5.out)
              rw [← hmv] at HGE2 hm2
              clear HLK HGE hmv
              have t0 := (cells_of_block HBX5.out.2.1.2 0).1
              have t1 := (cells_of_block HBX5.out.2.1.2 1).1
              simp at t0 t1
              go_wp2_with fail
              clear t0 t1
              refine HGE2.out.mono ?_
              rintro e w6 ⟨rfl, h6⟩
              have HNX := Lib.hid h6
              clear h6 HGE2
              go_wp2_with fail
              go_roundw
              case rel => exact ⟨p + 1, by go_num, by omega, HNX.out⟩
              case measure => simp [intOf]; omega
          · have hpz2 : ¬ (p : Int) < (z : Int) := by omega
            obtain ⟨F9', A9, S9', hah, hac, hrun, hfi, hbx⟩ := HR.out
            have HB := Lib.hid (HB2.out.trans (hrun.fin0.mono HB2.out.size))
            clear hah hac hrun hfi hbx HR
            go_wp2_with fail
            go_ret
            exact ⟨rfl, HB.out⟩
end Go.Proofs.YtcdpnfchmpncjaaGreatDoor

namespace Go.Tr
open Go.ChangeShapes Go.WideShapes Go.RowKit Go.Deep
section
variable {H : Type} {enc : TypeId × Value → H} {P : Program} {w : World} {base : Nat} {sp : Nat → Bool} {held : Bool}
theorem spot_none {w : World} {a : Addr} {v : Value} (h : w.cell? (a.add 0) = some v) : a.spot = none := by simpa [Addr.add] using World.cell?_spot h
theorem openI {t e : TypeId} {a : Option Addr} {n c : Nat} {d : DataW H} {ps : List MemPlace} (ht : P.underlying t = some (.slice e)) (he : P.underlying e = some (.int .i64)) (hc : P.cellsOf e = 1)
    (h : DataW.Trod enc P w base sp held t (.slice a n c) d ps) : ∃ zs, SeqAt w a (ints zs) ∧ zs.length = n ∧ n ≤ c ∧ n ≤ maxLen ∧ ∀ z ∈ zs, (Lit.int .i64 z).wf = true := by
  obtain ⟨fuel, hf⟩ := h
  rcases open_ints ht he hc hf with ⟨hcs, hx⟩ | ⟨x, l, c', zs, hcs, _, hl, hm, hz, hx, hcell, hwz⟩
  · simp [Value.cells] at hcs
    obtain ⟨rfl, rfl, rfl⟩ := hcs
    exact ⟨[], fun h0 => by simp [ints] at h0, rfl, Nat.le_refl _, Nat.zero_le _, by simp⟩
  · simp [Value.cells] at hcs
    obtain ⟨rfl, rfl, rfl⟩ := hcs
    have hlz : n ≤ zs.length := by rw [hz]; split <;> omega
    refine ⟨zs.take n, fun h0 => ?_, by simp; omega, hl, Nat.le_trans hl hm, fun z hz => hwz z (List.mem_of_mem_take hz)⟩
    · have h1 : 0 < n := by simp [ints] at h0; omega
      have hs := spot_none (hcell 0 (by omega))
      obtain ⟨b, off, spot⟩ := x
      simp at hs; subst hs
      refine ⟨b, off, rfl, fun j hj => ?_⟩
      simp [ints] at hj
      have := hcell j (by omega)
      rw [add_plain] at this
      rw [this]
      simp [ints, List.getD, show j < n by omega, show j < zs.length by omega, iv]
theorem trod_blocks {t : TypeId} {v : Value} {d : DataW H} {ps : List MemPlace} (h : DataW.Trod enc P w base sp held t v d ps) : ∀ x ∈ ps, x.block < w.heap.size := by
  obtain ⟨m, hm⟩ := h; exact DataW.trod_lt m _ _ _ hm
end
end Go.Tr

