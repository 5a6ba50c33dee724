/-
  Parts of the proof, one behind the other: KCell, KCell2, KCell3.
-/
import Derived.Test.YtcdpnfchmpncjaaGreatDoorMa28
set_option linter.unusedSimpArgs false
set_option linter.unusedVariables false
namespace Go.Proofs.YtcdpnfchmpncjaaGreatDoor
open Go.RowKit Go.Tr Go.Shelf
variable {w w' : World} {F G : Nat → Prop} {A : Ad} {S : HS}
theorem al2 (w : World) (o1 o2 : Obj) : Below w.heap.size w ((w.alloc o1).alloc o2) ∧ ((w.alloc o1).alloc o2).heap[w.heap.size]? = some o1 ∧ ((w.alloc o1).alloc o2).heap[w.heap.size + 1]? = some o2 :=
  ⟨((Below.refl _ w).alloc (Nat.le_refl _) _).alloc (by simp) _, (Below.heap_alloc _ _ _ (by simp)).trans (heap_alloc_new w _), heap_alloc2_new w _ _⟩
theorem al3 (w : World) (o1 o2 o3 : Obj) : Below w.heap.size w (((w.alloc o1).alloc o2).alloc o3) ∧ (((w.alloc o1).alloc o2).alloc o3).heap[w.heap.size]? = some o1 ∧ (((w.alloc o1).alloc o2).alloc o3).heap[w.heap.size + 1]? = some o2 ∧ (((w.alloc o1).alloc o2).alloc o3).heap[w.heap.size + 1 + 1]? = some o3 := by
  obtain ⟨h1, h2, h3⟩ := al2 w o1 o2
  have hs : ((w.alloc o1).alloc o2).heap.size = w.heap.size + 1 + 1 := by simp
  refine ⟨h1.alloc (by rw [hs]; omega) _, (Below.heap_alloc _ _ _ (block_lt h2)).trans h2, (Below.heap_alloc _ _ _ (block_lt h3)).trans h3, ?_⟩
  rw [← hs]; exact heap_alloc_new _ _
theorem al4 (w : World) (o1 o2 o3 o4 : Obj) : Below w.heap.size w ((((w.alloc o1).alloc o2).alloc o3).alloc o4) ∧ ((((w.alloc o1).alloc o2).alloc o3).alloc o4).heap[w.heap.size]? = some o1 ∧ ((((w.alloc o1).alloc o2).alloc o3).alloc o4).heap[w.heap.size + 1]? = some o2 ∧ ((((w.alloc o1).alloc o2).alloc o3).alloc o4).heap[w.heap.size + 1 + 1]? = some o3 ∧ ((((w.alloc o1).alloc o2).alloc o3).alloc o4).heap[w.heap.size + 1 + 1 + 1]? = some o4 := by
  obtain ⟨h1, h2, h3, h4⟩ := al3 w o1 o2 o3
  have hs : (((w.alloc o1).alloc o2).alloc o3).heap.size = w.heap.size + 1 + 1 + 1 := by simp
  refine ⟨h1.alloc (by rw [hs]; omega) _, (Below.heap_alloc _ _ _ (block_lt h2)).trans h2, (Below.heap_alloc _ _ _ (block_lt h3)).trans h3, (Below.heap_alloc _ _ _ (block_lt h4)).trans h4, ?_⟩
  rw [← hs]; exact heap_alloc_new _ _
theorem al5 (w : World) (o1 o2 o3 o4 o5 : Obj) : Below w.heap.size w (((((w.alloc o1).alloc o2).alloc o3).alloc o4).alloc o5) ∧ (((((w.alloc o1).alloc o2).alloc o3).alloc o4).alloc o5).heap[w.heap.size]? = some o1 ∧ (((((w.alloc o1).alloc o2).alloc o3).alloc o4).alloc o5).heap[w.heap.size + 1]? = some o2 ∧ (((((w.alloc o1).alloc o2).alloc o3).alloc o4).alloc o5).heap[w.heap.size + 1 + 1]? = some o3 ∧ (((((w.alloc o1).alloc o2).alloc o3).alloc o4).alloc o5).heap[w.heap.size + 1 + 1 + 1]? = some o4 ∧ (((((w.alloc o1).alloc o2).alloc o3).alloc o4).alloc o5).heap[w.heap.size + 1 + 1 + 1 + 1]? = some o5 := by
  obtain ⟨h1, h2, h3, h4, h5⟩ := al4 w o1 o2 o3 o4
  have hs : ((((w.alloc o1).alloc o2).alloc o3).alloc o4).heap.size = w.heap.size + 1 + 1 + 1 + 1 := by simp
  refine ⟨h1.alloc (by rw [hs]; omega) _, (Below.heap_alloc _ _ _ (block_lt h2)).trans h2, (Below.heap_alloc _ _ _ (block_lt h3)).trans h3, (Below.heap_alloc _ _ _ (block_lt h4)).trans h4, (Below.heap_alloc _ _ _ (block_lt h5)).trans h5, ?_⟩
  rw [← hs]; exact heap_alloc_new _ _
theorem HeapF.fields (h : HeapF w F A S) {W : World} (hb : Below w.heap.size w W) : W.cell? ⟨A.c, 0, none⟩ = some (.pointer (some ⟨A.s, 0, none⟩)) ∧ W.cell? ⟨A.c, 1, none⟩ = some (.pointer (some ⟨A.b, 0, none⟩)) ∧ W.cell? ⟨A.c, 2, none⟩ = some (.pointer (some ⟨A.m, 0, none⟩)) ∧ W.cell? ⟨A.c, 3, none⟩ = some (.pointer (some ⟨A.t, 0, none⟩)) ∧ W.cell? ⟨A.c, 4, none⟩ = some (.pointer (some ⟨A.tr, 0, none⟩)) ∧ W.cell? ⟨A.c, 5, none⟩ = some (.pointer (some ⟨A.rm, 0, none⟩)) ∧ W.cell? ⟨A.c, 6, none⟩ = some (.map (some A.sp)) ∧ W.cell? ⟨A.c, 7, none⟩ = some (.map (some A.mn)) := by
  have hc := (h.below hb).cells.1
  refine ⟨?_, ?_, ?_, ?_, ?_, ?_, ?_, ?_⟩ <;> · rw [(cells_of_block hc _).1]; rfl
theorem HeapF.get (h : HeapF w F A S) {x : Sl} {i : Nat} (hx : S.sl[i]? = some x) (hu : x.used = true) {W : World} (hb : Below w.heap.size w W) :
    Calls Tryz.prog 94 #[.pointer (some ⟨A.t, 0, none⟩), .agg #[.int .i64 i, .int .i64 x.gen]] W fun e w' => e = .returned (.tuple #[entryV x, .int .i64 0]) ∧ Below W.heap.size W w' := by
  obtain ⟨G, ht, -⟩ := (h.below hb).table; exact tget_any W ht hx hu
theorem HeapF.slot (h : HeapF w F A S) {x : Sl} {i : Nat} (hx : S.sl[i]? = some x) (hu : x.used = true) {W : World} (hb : Below w.heap.size w W) :
    Calls Tryz.prog 106 #[.pointer (some ⟨A.t, 0, none⟩), .int .i64 i] W fun e w' => e = .returned (.tuple #[.agg #[.int .i64 i, .int .i64 x.gen], .bool true]) ∧ Below W.heap.size W w' := by
  obtain ⟨G, ht, -⟩ := (h.below hb).table; exact tat_any W ht hx hu
set_option maxRecDepth 100000 in
set_option maxHeartbeats 1000000 in
theorem cat_any {x : Sl} {i : Nat} (w : World) (h : HeapF w F A S) (hx : S.sl[i]? = some x) (hu : x.used = true) : Calls Tryz.prog 112 #[.pointer (some ⟨A.c, 0, none⟩), .int .i64 i] w fun e w' => e = .returned (.tuple #[entryV x, .bool true]) ∧ Below w.heap.size w w' := by
  have HF := Lib.hid (fun W (hb : Below w.heap.size w W) => h.fields hb)
  have HG := Lib.hid (fun W (hb : Below w.heap.size w W) => h.get hx hu hb)
  have HS := Lib.hid (fun W (hb : Below w.heap.size w W) => h.slot hx hu hb)
  have hcl := h.lt _ h.cells.2.2.2
  obtain ⟨g, ug, ad, rg, hd, pn⟩ := x
  simp only [entryV] at HG ⊢
  have hba : Below w.heap.size w (w.alloc (.cells #[.int .i64 0, .int .i64 0, .bool false, .bool false] 93)) := (Below.refl _ w).alloc (Nat.le_refl _) _
  have HBA := Lib.hid hba
  obtain ⟨rb, hrb⟩ : ∃ rb, rb = w.heap.size := ⟨_, rfl⟩
  have HRB : Hid ((w.alloc (.cells #[.int .i64 0, .int .i64 0, .bool false, .bool false] 93)).heap[rb]? = some (.cells #[.int .i64 0, .int .i64 0, .bool false, .bool false] 93 (0, 0))) := by rw [hrb]; exact heap_alloc_new w _
  obtain ⟨-, -, -, c3, -⟩ := HF.out _ hba
  clear h hx hu hba
  go_enter Tryz.func112, Tryz.ntmps112
  go_wp2_with fail
  rw [← hrb]
  have HRE : Hid (w.heap.size ≤ rb) := Nat.le_of_eq hrb.symm
  clear hrb
  generalize w.alloc (.cells #[.int .i64 0, .int .i64 0, .bool false, .bool false] 93) = wa at *
  refine (HS.out wa HBA.out).mono ?_
  rintro e w1 ⟨rfl, hb1⟩
  have HB1 : Hid (Below w.heap.size w (w1.alloc (.cells #[.int .i64 i, .int .i64 g] 38))) := (HBA.out.trans (hb1.mono HBA.out.size)).alloc (Nat.le_trans HBA.out.size hb1.size) _
  have hr1 := (hb1.block rb (block_lt HRB.out)).trans HRB.out
  have HR1 : Hid ((w1.alloc (.cells #[.int .i64 i, .int .i64 g] 38)).heap[rb]? = some (.cells #[.int .i64 0, .int .i64 0, .bool false, .bool false] 93 (0, 0))) := (Below.heap_alloc _ _ _ (block_lt hr1)).trans hr1
  obtain ⟨tb, htb⟩ : ∃ tb, tb = w1.heap.size := ⟨_, rfl⟩
  have HTB : Hid ((w1.alloc (.cells #[.int .i64 i, .int .i64 g] 38)).heap[tb]? = some (.cells #[.int .i64 i, .int .i64 g] 38 (0, 0))) := by rw [htb]; exact heap_alloc_new w1 _
  clear hb1 hr1
  go_wp2_with fail
  rw [← htb]
  clear htb c3
  generalize w1.alloc (.cells #[.int .i64 i, .int .i64 g] 38) = w2 at *
  obtain ⟨n2, hn2⟩ : ∃ n, n = w2.heap.size := ⟨_, rfl⟩
  have HN2 : Hid (n2 = w2.heap.size) := hn2
  have HW : Hid (∀ W, Below n2 w2 W → Below w.heap.size w W) := fun W hb => by rw [hn2] at hb; exact HB1.out.trans (hb.mono HB1.out.size)
  clear hn2
  have HD : Hid (∀ W, Below n2 w2 W → W.cell? ⟨A.c, 3, none⟩ = some (.pointer (some ⟨A.t, 0, none⟩)) ∧ W.cell? ⟨tb, 0, none⟩ = some (.int .i64 i) ∧ W.cell? ⟨tb, 1, none⟩ = some (.int .i64 g)) := fun W hb => by
    have ht := (hb.block tb (by rw [HN2.out]; exact block_lt HTB.out)).trans HTB.out
    exact ⟨(HF.out W (HW.out W hb)).2.2.2.1, (cells_of_block ht 0).1, (cells_of_block ht 1).1⟩
  refine wp_region_held_drew (S := Below n2 w2) (by kernel_rfl) (Below.refl n2 w2).drew (fun hH => ?_)
  refine tk 0 (v := ?_) rfl ?_ ?_; rotate_left; · intro W hW; go_simp; try with_reducible rfl
  refine tk 1 (v := ?_) rfl ?_ ?_; rotate_left; · intro W hW; go_simp; try with_reducible rfl
  refine tk 2 (v := ?_) rfl ?_ ?_; rotate_left; · intro W hW; go_simp; try with_reducible rfl
  refine tk 3 (v := ?_) rfl ?_ ?_; rotate_left; · intro W hW; obtain ⟨d3, e0, e1⟩ := HD.out W hW; go_simp; try with_reducible rfl
  refine tk 4 (v := ?_) rfl ?_ ?_; rotate_left; · intro W hW; obtain ⟨d3, e0, e1⟩ := HD.out W hW; go_simp; try with_reducible rfl
  refine rd2 5 9 rfl rfl (fun K hK => ?_) (fun K hK => ?_)
  focus
    go_simp
    refine (HG.out _ (HW.out _ hH)).mono ?_
    rintro e w3 ⟨rfl, hb3⟩
    have HB3 : Hid (Below n2 w2 w3) := hH.trans (hb3.mono (by rw [HN2.out]; exact hH.size))
    refine hK.out _ _ HB3.out (fun hH => ?_)
    clear hK K hb3
    refine tk 6 (v := ?_) rfl ?_ ?_; rotate_left; · intro W hW; go_simp; try with_reducible rfl
    refine tk 7 (v := ?_) rfl ?_ ?_; rotate_left; · intro W hW; go_simp; try with_reducible rfl
    refine tk 8 (v := ?_) rfl ?_ ?_; rotate_left; · intro W hW; go_simp; try with_reducible rfl
    refine rd 9 rfl (fun K hK => ?_)
    go_simp
    have HB4 : Hid (Below n2 w2 (w3.alloc (.cells #[.int .i64 ad, .int .i64 rg, .bool hd, .bool pn] 93))) := HB3.out.alloc (by rw [HN2.out]; exact HB3.out.size) _
    refine hK.out _ _ (HB3.out.alloc (by rw [HN2.out]; exact HB3.out.size) _) (fun hH => ?_)
    clear hK K
    refine rd 10 rfl (fun K hK => ?_)
    go_simp
    refine hK.out _ _ HB4.out (fun hH => ?_)
    clear hK K
    obtain ⟨xb, hxb⟩ : ∃ xb, xb = w3.heap.size := ⟨_, rfl⟩
    have HX : Hid ((w3.alloc (.cells #[.int .i64 ad, .int .i64 rg, .bool hd, .bool pn] 93)).heap[xb]? = some (.cells #[.int .i64 ad, .int .i64 rg, .bool hd, .bool pn] 93 (0, 0))) := by rw [hxb]; exact heap_alloc_new w3 _
    rw [← hxb]
    clear hxb
    generalize w3.alloc (.cells #[.int .i64 ad, .int .i64 rg, .bool hd, .bool pn] 93) = w4 at *
  rotate_left
  focus
    go_simp
    have hb3 : Below n2 w2 (w2.alloc (.cells #[.int .i64 0, .int .i64 0, .bool false, .bool false] 93)).drew := ((Below.refl n2 w2).alloc (Nat.le_of_eq HN2.out) _).drew
    refine hK.out _ _ hb3 (fun hH => ?_)
    clear hK K
    refine rd 5 rfl (fun K hK => ?_)
    go_simp
    refine (HG.out _ (HW.out _ hH)).mono ?_
    rintro e w3 ⟨rfl, hbc⟩
    have HB3 : Hid (Below n2 w2 w3) := hb3.trans (hbc.mono (by rw [HN2.out]; exact hb3.size))
    obtain ⟨xb, hxb⟩ : ∃ xb, xb = w2.heap.size := ⟨_, rfl⟩
    have HX3 : Hid (w3.heap[xb]? = some (.cells #[.int .i64 0, .int .i64 0, .bool false, .bool false] 93 (0, 0))) := by rw [hxb]; exact (hbc.block _ (by simp)).trans (heap_alloc_new w2 _)
    refine hK.out _ _ HB3.out (fun hH => ?_)
    rw [← hxb]
    have hxw : n2 ≤ xb := by rw [HN2.out]; exact Nat.le_of_eq hxb.symm
    clear hK K hb3 hbc hxb
    refine tk 6 (v := ?_) rfl ?_ ?_; rotate_left; · intro W hW; go_simp; try with_reducible rfl
    refine tk 7 (v := ?_) rfl ?_ ?_; rotate_left; · intro W hW; go_simp; try with_reducible rfl
    refine tk 8 (v := ?_) rfl ?_ ?_; rotate_left; · intro W hW; go_simp; try with_reducible rfl
    have z0 := cells_of_block HX3.out 0
    have z1 := cells_of_block HX3.out 1
    have z2 := cells_of_block HX3.out 2
    have z3 := cells_of_block HX3.out 3
    simp at z0 z1 z2 z3
    obtain ⟨z0, f0⟩ := z0
    obtain ⟨z1, f1⟩ := z1
    obtain ⟨z2, f2⟩ := z2
    obtain ⟨z3, f3⟩ := z3
    refine rd 10 rfl (fun K hK => ?_)
    go_simp
    have HB4 : Hid (Below n2 w2 ((((w3.setCell ⟨xb, 0, none⟩ (.int .i64 ad)).setCell ⟨xb, 1, none⟩ (.int .i64 rg)).setCell ⟨xb, 2, none⟩ (.bool hd)).setCell ⟨xb, 3, none⟩ (.bool pn))) := ((((HB3.out).setCell hxw _).setCell hxw _).setCell hxw _).setCell hxw _
    refine hK.out _ _ HB4.out (fun hH => ?_)
    clear hK K hxw z0 f0 z1 f1 z2 f2 z3 f3
    have HX : Hid (((((w3.setCell ⟨xb, 0, none⟩ (.int .i64 ad)).setCell ⟨xb, 1, none⟩ (.int .i64 rg)).setCell ⟨xb, 2, none⟩ (.bool hd)).setCell ⟨xb, 3, none⟩ (.bool pn)).heap[xb]? = some (.cells #[.int .i64 ad, .int .i64 rg, .bool hd, .bool pn] 93 (0, 0))) := by
      show _ = _
      simpa using block_setCell (block_setCell (block_setCell (block_setCell (HX3.out) 0 (.int .i64 ad)) 1 (.int .i64 rg)) 2 (.bool hd)) 3 (.bool pn)
    generalize (((w3.setCell ⟨xb, 0, none⟩ (.int .i64 ad)).setCell ⟨xb, 1, none⟩ (.int .i64 rg)).setCell ⟨xb, 2, none⟩ (.bool hd)).setCell ⟨xb, 3, none⟩ (.bool pn) = w4 at *
    clear HX3
  all_goals
    refine tk 11 (v := ?_) rfl ?_ ?_; rotate_left; · intro W hW; go_simp; try with_reducible rfl
    refine wpAnyH_done (by kernel_rfl) ?_ _
    have HR4 := Lib.hid ((HB4.out.block rb (by rw [HN2.out]; exact block_lt HR1.out)).trans HR1.out)
    have x0 := (cells_of_block HX.out 0).1
    have x1 := (cells_of_block HX.out 1).1
    have x2 := (cells_of_block HX.out 2).1
    have x3 := (cells_of_block HX.out 3).1
    simp at x0 x1 x2 x3
    have r0 := cells_of_block HR4.out 0
    have r1 := cells_of_block HR4.out 1
    have r2 := cells_of_block HR4.out 2
    have r3 := cells_of_block HR4.out 3
    simp at r0 r1 r2 r3
    obtain ⟨r0, q0⟩ := r0
    obtain ⟨r1, q1⟩ := r1
    obtain ⟨r2, q2⟩ := r2
    obtain ⟨r3, q3⟩ := r3
    go_wp2_with fail
    have e := HRE.out
    try simp only [Exit.inBlock, Exit.then]
    have hbk : ((((w4.setCell ⟨rb, 0, none⟩ (.int .i64 ad)).setCell ⟨rb, 1, none⟩ (.int .i64 rg)).setCell ⟨rb, 2, none⟩ (.bool hd)).setCell ⟨rb, 3, none⟩ (.bool pn)).heap[rb]? = some (.cells #[.int .i64 ad, .int .i64 rg, .bool hd, .bool pn] 93 (0, 0)) := by
      simpa using block_setCell (block_setCell (block_setCell (block_setCell (HR4.out) 0 (.int .i64 ad)) 1 (.int .i64 rg)) 2 (.bool hd)) 3 (.bool pn)
    exact bodyPost_ret (results_blk rfl _ _ rb _ _ _ _ rfl hbk Tryz.underlying93 rfl rfl) rfl ⟨rfl, ((((HW.out _ HB4.out).setCell e _).setCell e _).setCell e _).setCell e _⟩
set_option maxRecDepth 100000 in
set_option maxHeartbeats 1000000 in
theorem cvalid_any {x : Sl} {i : Nat} (w : World) (h : HeapF w F A S) (hx : S.sl[i]? = some x) (hu : x.used = true) (hh : x.held = true) : Calls Tryz.prog 46 #[.pointer (some ⟨A.c, 0, none⟩), .agg #[.int .i64 i, .int .i64 x.gen]] w fun e w' => e = .returned (.tuple #[entryV x, .int .i64 0]) ∧ Below w.heap.size w w' := by
  have HF := Lib.hid (fun W (hb : Below w.heap.size w W) => h.fields hb)
  have HG := Lib.hid (fun W (hb : Below w.heap.size w W) => h.get hx hu hb)
  have hcl := h.lt _ h.cells.2.2.2
  obtain ⟨g, ug, ad, rg, hd, pn⟩ := x
  simp only at hh
  subst hh
  simp only [entryV] at HG ⊢
  have HB1 : Hid (Below w.heap.size w ((w.alloc (.cells #[.int .i64 i, .int .i64 g] 38)).alloc (.cells #[.int .i64 0, .int .i64 0, .bool false, .bool false] 93))) := ((Below.refl _ w).alloc (Nat.le_refl _) _).alloc (by simp) _
  obtain ⟨rb, hrb⟩ : ∃ rb, rb = w.heap.size + 1 := ⟨_, rfl⟩
  obtain ⟨tb, htb⟩ : ∃ tb, tb = w.heap.size := ⟨_, rfl⟩
  have HR1 : Hid (((w.alloc (.cells #[.int .i64 i, .int .i64 g] 38)).alloc (.cells #[.int .i64 0, .int .i64 0, .bool false, .bool false] 93)).heap[rb]? = some (.cells #[.int .i64 0, .int .i64 0, .bool false, .bool false] 93 (0, 0))) := by rw [hrb]; exact heap_alloc2_new w _ _
  have HTB : Hid (((w.alloc (.cells #[.int .i64 i, .int .i64 g] 38)).alloc (.cells #[.int .i64 0, .int .i64 0, .bool false, .bool false] 93)).heap[tb]? = some (.cells #[.int .i64 i, .int .i64 g] 38 (0, 0))) := by rw [htb]; exact (Below.heap_alloc _ _ _ (by simp)).trans (heap_alloc_new w _)
  have HRE : Hid (w.heap.size ≤ rb) := by show _ ≤ _; omega
  clear h hx hu
  go_enter Tryz.func46, Tryz.ntmps46
  go_wp2_with fail
  rw [← hrb, ← htb]
  clear hrb htb
  generalize (w.alloc (.cells #[.int .i64 i, .int .i64 g] 38)).alloc (.cells #[.int .i64 0, .int .i64 0, .bool false, .bool false] 93) = w2 at *
  obtain ⟨n2, hn2⟩ : ∃ n, n = w2.heap.size := ⟨_, rfl⟩
  have HN2 : Hid (n2 = w2.heap.size) := hn2
  have HW : Hid (∀ W, Below n2 w2 W → Below w.heap.size w W) := fun W hb => by rw [hn2] at hb; exact HB1.out.trans (hb.mono HB1.out.size)
  clear hn2
  have HD : Hid (∀ W, Below n2 w2 W → W.cell? ⟨A.c, 3, none⟩ = some (.pointer (some ⟨A.t, 0, none⟩)) ∧ W.cell? ⟨tb, 0, none⟩ = some (.int .i64 i) ∧ W.cell? ⟨tb, 1, none⟩ = some (.int .i64 g)) := fun W hb => by
    have ht := (hb.block tb (by rw [HN2.out]; exact block_lt HTB.out)).trans HTB.out
    exact ⟨(HF.out W (HW.out W hb)).2.2.2.1, (cells_of_block ht 0).1, (cells_of_block ht 1).1⟩
  refine wp_region_held_drew (S := Below n2 w2) (by kernel_rfl) (Below.refl n2 w2).drew (fun hH => ?_)
  refine tk 0 (v := ?_) rfl ?_ ?_; rotate_left; · intro W hW; go_simp; try with_reducible rfl
  refine tk 1 (v := ?_) rfl ?_ ?_; rotate_left; · intro W hW; go_simp; try with_reducible rfl
  refine tk 2 (v := ?_) rfl ?_ ?_; rotate_left; · intro W hW; go_simp; try with_reducible rfl
  refine tk 3 (v := ?_) rfl ?_ ?_; rotate_left; · intro W hW; obtain ⟨d3, e0, e1⟩ := HD.out W hW; go_simp; try with_reducible rfl
  refine tk 4 (v := ?_) rfl ?_ ?_; rotate_left; · intro W hW; obtain ⟨d3, e0, e1⟩ := HD.out W hW; go_simp; try with_reducible rfl
  refine rd2 5 9 rfl rfl (fun K hK => ?_) (fun K hK => ?_)
  focus
    go_simp
    refine (HG.out _ (HW.out _ hH)).mono ?_
    rintro e w3 ⟨rfl, hb3⟩
    have HB3 : Hid (Below n2 w2 w3) := hH.trans (hb3.mono (by rw [HN2.out]; exact hH.size))
    refine hK.out _ _ HB3.out (fun hH => ?_)
    clear hK K hb3
    refine tk 6 (v := ?_) rfl ?_ ?_; rotate_left; · intro W hW; go_simp; try with_reducible rfl
    refine tk 7 (v := ?_) rfl ?_ ?_; rotate_left; · intro W hW; go_simp; try with_reducible rfl
    refine tk 8 (v := ?_) rfl ?_ ?_; rotate_left; · intro W hW; go_simp; try with_reducible rfl
    refine rd 9 rfl (fun K hK => ?_)
    go_simp
    have HB4 : Hid (Below n2 w2 (w3.alloc (.cells #[.int .i64 ad, .int .i64 rg, .bool true, .bool pn] 93))) := HB3.out.alloc (by rw [HN2.out]; exact HB3.out.size) _
    refine hK.out _ _ (HB3.out.alloc (by rw [HN2.out]; exact HB3.out.size) _) (fun hH => ?_)
    clear hK K
    refine rd 10 rfl (fun K hK => ?_)
    go_simp
    refine hK.out _ _ HB4.out (fun hH => ?_)
    clear hK K
    obtain ⟨xb, hxb⟩ : ∃ xb, xb = w3.heap.size := ⟨_, rfl⟩
    have HX : Hid ((w3.alloc (.cells #[.int .i64 ad, .int .i64 rg, .bool true, .bool pn] 93)).heap[xb]? = some (.cells #[.int .i64 ad, .int .i64 rg, .bool true, .bool pn] 93 (0, 0))) := by rw [hxb]; exact heap_alloc_new w3 _
    rw [← hxb]
    clear hxb
    generalize w3.alloc (.cells #[.int .i64 ad, .int .i64 rg, .bool true, .bool pn] 93) = w4 at *
  rotate_left
  focus
    go_simp
    have hb3 : Below n2 w2 (w2.alloc (.cells #[.int .i64 0, .int .i64 0, .bool false, .bool false] 93)).drew := ((Below.refl n2 w2).alloc (Nat.le_of_eq HN2.out) _).drew
    refine hK.out _ _ hb3 (fun hH => ?_)
    clear hK K
    refine rd 5 rfl (fun K hK => ?_)
    go_simp
    refine (HG.out _ (HW.out _ hH)).mono ?_
    rintro e w3 ⟨rfl, hbc⟩
    have HB3 : Hid (Below n2 w2 w3) := hb3.trans (hbc.mono (by rw [HN2.out]; exact hb3.size))
    obtain ⟨xb, hxb⟩ : ∃ xb, xb = w2.heap.size := ⟨_, rfl⟩
    have HX3 : Hid (w3.heap[xb]? = some (.cells #[.int .i64 0, .int .i64 0, .bool false, .bool false] 93 (0, 0))) := by rw [hxb]; exact (hbc.block _ (by simp)).trans (heap_alloc_new w2 _)
    refine hK.out _ _ HB3.out (fun hH => ?_)
    rw [← hxb]
    have hxw : n2 ≤ xb := by rw [HN2.out]; exact Nat.le_of_eq hxb.symm
    clear hK K hb3 hbc hxb
    refine tk 6 (v := ?_) rfl ?_ ?_; rotate_left; · intro W hW; go_simp; try with_reducible rfl
    refine tk 7 (v := ?_) rfl ?_ ?_; rotate_left; · intro W hW; go_simp; try with_reducible rfl
    refine tk 8 (v := ?_) rfl ?_ ?_; rotate_left; · intro W hW; go_simp; try with_reducible rfl
    have z0 := cells_of_block HX3.out 0
    have z1 := cells_of_block HX3.out 1
    have z2 := cells_of_block HX3.out 2
    have z3 := cells_of_block HX3.out 3
    simp at z0 z1 z2 z3
    obtain ⟨z0, f0⟩ := z0
    obtain ⟨z1, f1⟩ := z1
    obtain ⟨z2, f2⟩ := z2
    obtain ⟨z3, f3⟩ := z3
    refine rd 10 rfl (fun K hK => ?_)
    go_simp
    have HB4 : Hid (Below n2 w2 ((((w3.setCell ⟨xb, 0, none⟩ (.int .i64 ad)).setCell ⟨xb, 1, none⟩ (.int .i64 rg)).setCell ⟨xb, 2, none⟩ (.bool true)).setCell ⟨xb, 3, none⟩ (.bool pn))) := ((((HB3.out).setCell hxw _).setCell hxw _).setCell hxw _).setCell hxw _
    refine hK.out _ _ HB4.out (fun hH => ?_)
    clear hK K hxw z0 f0 z1 f1 z2 f2 z3 f3
    have HX : Hid (((((w3.setCell ⟨xb, 0, none⟩ (.int .i64 ad)).setCell ⟨xb, 1, none⟩ (.int .i64 rg)).setCell ⟨xb, 2, none⟩ (.bool true)).setCell ⟨xb, 3, none⟩ (.bool pn)).heap[xb]? = some (.cells #[.int .i64 ad, .int .i64 rg, .bool true, .bool pn] 93 (0, 0))) := by
      show _ = _
      simpa using block_setCell (block_setCell (block_setCell (block_setCell (HX3.out) 0 (.int .i64 ad)) 1 (.int .i64 rg)) 2 (.bool true)) 3 (.bool pn)
    generalize (((w3.setCell ⟨xb, 0, none⟩ (.int .i64 ad)).setCell ⟨xb, 1, none⟩ (.int .i64 rg)).setCell ⟨xb, 2, none⟩ (.bool true)).setCell ⟨xb, 3, none⟩ (.bool pn) = w4 at *
    clear HX3
  all_goals
    refine tk 11 (v := ?_) rfl ?_ ?_; rotate_left; · intro W hW; go_simp; try with_reducible rfl
    refine wpAnyH_done (by kernel_rfl) ?_ _
    have HR4 := Lib.hid ((HB4.out.block rb (by rw [HN2.out]; exact block_lt HR1.out)).trans HR1.out)
    have x0 := (cells_of_block HX.out 0).1
    have x1 := (cells_of_block HX.out 1).1
    have x2 := (cells_of_block HX.out 2).1
    have x3 := (cells_of_block HX.out 3).1
    simp at x0 x1 x2 x3
    have r0 := cells_of_block HR4.out 0
    have r1 := cells_of_block HR4.out 1
    have r2 := cells_of_block HR4.out 2
    have r3 := cells_of_block HR4.out 3
    simp at r0 r1 r2 r3
    obtain ⟨r0, q0⟩ := r0
    obtain ⟨r1, q1⟩ := r1
    obtain ⟨r2, q2⟩ := r2
    obtain ⟨r3, q3⟩ := r3
    go_wp2_with fail
    have e := HRE.out
    try simp only [Exit.inBlock, Exit.then]
    have hbk : ((((w4.setCell ⟨rb, 0, none⟩ (.int .i64 ad)).setCell ⟨rb, 1, none⟩ (.int .i64 rg)).setCell ⟨rb, 2, none⟩ (.bool true)).setCell ⟨rb, 3, none⟩ (.bool pn)).heap[rb]? = some (.cells #[.int .i64 ad, .int .i64 rg, .bool true, .bool pn] 93 (0, 0)) := by
      simpa using block_setCell (block_setCell (block_setCell (block_setCell (HR4.out) 0 (.int .i64 ad)) 1 (.int .i64 rg)) 2 (.bool true)) 3 (.bool pn)
    exact bodyPost_ret (results_blk rfl _ _ rb _ _ _ _ rfl hbk Tryz.underlying93 rfl rfl) rfl ⟨rfl, ((((HW.out _ HB4.out).setCell e _).setCell e _).setCell e _).setCell e _⟩
end Go.Proofs.YtcdpnfchmpncjaaGreatDoor
namespace Go.Proofs.YtcdpnfchmpncjaaGreatDoor
open Go.RowKit Go.Tr Go.Shelf
variable {w w' : World} {F G : Nat → Prop} {A : Ad} {S : HS}
set_option maxRecDepth 100000 in
set_option maxHeartbeats 1000000 in
theorem cwith_any {x : Sl} {i : Nat} (g : Nat) (lb : Array Value) (R : World → Prop) (w : World) (h : HeapF w F A S) (hx : S.sl[i]? = some x) (hu : x.used = true) (hh : x.held = true) (eg : ∀ args (w : World), (callFunc g args).run Tryz.prog w = .ok (.enter g args) w)
    (hdo : ∀ W, Below w.heap.size w W → Calls Tryz.prog g (#[entryV x] ++ lb) W fun e w' => e = .returned (.int .i64 0) ∧ R w') : Calls Tryz.prog 39 #[.pointer (some ⟨A.c, 0, none⟩), .agg #[.int .i64 i, .int .i64 x.gen], .func (.func g) #[] lb] w fun e w' => e = .returned (.int .i64 0) ∧ R w' := by
  have hba : Below w.heap.size w (w.alloc (.cells #[.int .i64 i, .int .i64 x.gen] 38)) := (Below.refl _ w).alloc (Nat.le_refl _) _
  have HBA := Lib.hid hba
  have HV := Lib.hid (cvalid_any _ (h.below hba) hx hu hh)
  have HDO := Lib.hid hdo
  obtain ⟨gn, ug, ad, rg, hd, pn⟩ := x
  simp only [entryV] at HV HDO
  clear h hx hu hh hdo hba
  go_enter Tryz.func39, Tryz.ntmps39
  go_wp2_with fail
  refine HV.out.mono ?_
  rintro e w1 ⟨rfl, hb1⟩
  have HB1 : Hid (Below w.heap.size w (w1.alloc (.cells #[.int .i64 ad, .int .i64 rg, .bool hd, .bool pn] 93))) := (HBA.out.trans (hb1.mono HBA.out.size)).alloc (Nat.le_trans HBA.out.size hb1.size) _
  clear hb1
  go_wp2_with fail
  refine (HDO.out _ HB1.out).mono ?_
  rintro e w2 ⟨rfl, hr⟩
  have HR := Lib.hid hr
  clear hr
  go_wp2
  go_ret
  exact ⟨rfl, HR.out⟩
set_option maxRecDepth 100000 in
set_option maxHeartbeats 1000000 in
theorem cdrop1_any {x : Sl} {i : Nat} (cb tb : Nat) (w : World) (h : HeapF w F A S) (hx : S.sl[i]? = some x) (hu : x.used = true) (hcb : w.heap[cb]? = some (.cells #[.pointer (some ⟨A.c, 0, none⟩)] 27 (0, 0))) (htb : w.heap[tb]? = some (.cells #[.int .i64 i, .int .i64 x.gen] 38 (0, 0))) :
    Calls Tryz.prog 40 #[entryV x, .pointer (some ⟨cb, 0, none⟩), .pointer (some ⟨tb, 0, none⟩)] w fun e w' => e = .returned (.int .i64 0) ∧ HeapF w' (grow F w w') A { S with sl := S.sl.set i ⟨x.gen, x.used, x.addr, x.region, false, x.pinned⟩ } ∧ Only F w w' := by
  have HRUN := Lib.hid (Run.start h)
  have HLT := Lib.hid h.lt
  have HSET := Lib.hid (fun W (hr : HeapF W F A S) => hr.set hx hu x.addr x.region false x.pinned)
  have HF := Lib.hid (fun W (hb : Below w.heap.size w W) => h.fields hb)
  obtain ⟨S', hS'⟩ : ∃ S', S' = { S with sl := S.sl.set i ⟨x.gen, x.used, x.addr, x.region, false, x.pinned⟩ } := ⟨_, rfl⟩
  rw [← hS'] at HSET ⊢
  obtain ⟨gn, ug, ad, rg, hd, pn⟩ := x
  simp only [entryV] at HSET ⊢
  simp only at htb
  have hba : Below w.heap.size w (w.alloc (.cells #[.int .i64 ad, .int .i64 rg, .bool false, .bool pn] 93)) := (Below.refl _ w).alloc (Nat.le_refl _) _
  have HBA := Lib.hid hba
  obtain ⟨-, -, -, c3, -⟩ := HF.out _ hba
  have k0 := (cells_of_block ((hba.block cb (block_lt hcb)).trans hcb) 0).1
  have t0 := (cells_of_block ((hba.block tb (block_lt htb)).trans htb) 0).1
  have t1 := (cells_of_block ((hba.block tb (block_lt htb)).trans htb) 1).1
  simp at k0 t0 t1
  clear h hx hu hS' hba hcb htb
  go_enter Tryz.func40, Tryz.ntmps40
  go_wp2_with fail
  have HX : Hid ((w.alloc (.cells #[.int .i64 ad, .int .i64 rg, .bool false, .bool pn] 93)).heap[w.heap.size]? = some (.cells #[.int .i64 ad, .int .i64 rg, .bool false, .bool pn] 93 (0, 0))) := heap_alloc_new w _
  obtain ⟨xb, hxb⟩ : ∃ xb, xb = w.heap.size := ⟨_, rfl⟩
  rw [← hxb]
  rw [← hxb] at HX
  clear hxb
  generalize w.alloc (.cells #[.int .i64 ad, .int .i64 rg, .bool false, .bool pn] 93) = wa at *
  have x0 := (cells_of_block HX.out 0).1
  have x1 := (cells_of_block HX.out 1).1
  have x2 := (cells_of_block HX.out 2).1
  have x3 := (cells_of_block HX.out 3).1
  simp at x0 x1 x2 x3
  go_still_tail 6, (by kernel_rfl)
  have hrun : Run w F wa.drew F A S := (HRUN.out.below HBA.out).below (Below.refl _ _).drew
  change wpList _ _ _ _ _ wa.drew
  have HRN := Lib.hid hrun
  clear hrun c3 k0 t0 t1 x0 x1 x2 x3
  generalize wa.drew = wb at *
  go_wp2_with fail
  refine (HSET.out wb HRN.out.heap).mono ?_
  rintro e w2 ⟨rfl, h2⟩
  have HRN2 := Lib.hid (HRN.out.op h2)
  clear h2
  go_wp2
  go_ret
  exact ⟨rfl, HRN2.out.fin HLT.out⟩
structure ObjOk (S : HS) (i : Nat) (x : Sl) (count : Nat) : Prop where
  sl : S.sl[i]? = some x
  used : x.used = true
  obj : ObjAt S.C S.Wd S.L S.ws S.own x.addr count i
  big : x.addr ≤ 1048576
  fit : x.addr + S.L.size count < S.C * S.Wd
  own : Owned S.own S.Wd x.addr (S.L.size count + 1)
theorem ObjOk.word {S : HS} {i count p : Nat} {x : Sl} (h : ObjOk S i x count) (hp : p < S.L.size count) : x.addr + 1 + p < S.C * S.Wd ∧ S.own.getD ((x.addr + 1 + p) / S.Wd) 0 ≠ 0 :=
  ⟨by have := h.fit; omega, by have := h.own.at (i := 1 + p) (by omega); rwa [← Nat.add_assoc] at this⟩
set_option maxRecDepth 100000 in
set_option maxHeartbeats 1000000 in
theorem cdrop_any {x : Sl} {i : Nat} (w : World) (h : HeapF w F A S) (hx : S.sl[i]? = some x) (hu : x.used = true) (hh : x.held = true) : Calls Tryz.prog 11 #[.pointer (some ⟨A.c, 0, none⟩), .agg #[.int .i64 i, .int .i64 x.gen]] w fun e w' => e = .returned (.int .i64 0) ∧ HeapF w' (grow F w w') A { S with sl := S.sl.set i ⟨x.gen, x.used, x.addr, x.region, false, x.pinned⟩ } ∧ Only F w w' := by
  have hba : Below w.heap.size w ((w.alloc (.cells #[.pointer (some ⟨A.c, 0, none⟩)] 27)).alloc (.cells #[.int .i64 i, .int .i64 x.gen] 38)) := ((Below.refl _ w).alloc (Nat.le_refl _) _).alloc (by simp) _
  have HLT := Lib.hid h.lt
  have HRUN := Lib.hid ((Run.start h).below hba)
  obtain ⟨S', hS'⟩ : ∃ S', S' = { S with sl := S.sl.set i ⟨x.gen, x.used, x.addr, x.region, false, x.pinned⟩ } := ⟨_, rfl⟩
  obtain ⟨cb, hcb⟩ : ∃ cb, cb = w.heap.size := ⟨_, rfl⟩
  obtain ⟨tb, htb⟩ : ∃ tb, tb = w.heap.size + 1 := ⟨_, rfl⟩
  have HCB : Hid (((w.alloc (.cells #[.pointer (some ⟨A.c, 0, none⟩)] 27)).alloc (.cells #[.int .i64 i, .int .i64 x.gen] 38)).heap[cb]? = some (.cells #[.pointer (some ⟨A.c, 0, none⟩)] 27 (0, 0))) := by rw [hcb]; exact (Below.heap_alloc _ _ _ (by simp)).trans (heap_alloc_new w _)
  have HTB : Hid (((w.alloc (.cells #[.pointer (some ⟨A.c, 0, none⟩)] 27)).alloc (.cells #[.int .i64 i, .int .i64 x.gen] 38)).heap[tb]? = some (.cells #[.int .i64 i, .int .i64 x.gen] 38 (0, 0))) := by rw [htb]; exact heap_alloc2_new w _ _
  have HW : Hid (Calls Tryz.prog 39 #[.pointer (some ⟨A.c, 0, none⟩), .agg #[.int .i64 i, .int .i64 x.gen], .func (.func 40) #[] #[.pointer (some ⟨cb, 0, none⟩), .pointer (some ⟨tb, 0, none⟩)]] ((w.alloc (.cells #[.pointer (some ⟨A.c, 0, none⟩)] 27)).alloc (.cells #[.int .i64 i, .int .i64 x.gen] 38)) fun e w' => e = .returned (.int .i64 0) ∧ HeapF w' (grow F w w') A S' ∧ Only F w w') :=
    cwith_any _ _ (fun w' => HeapF w' (grow F w w') A S' ∧ Only F w w') _ (h.below hba) hx hu hh (enters_of Tryz.func40 (by kernel_rfl) rfl) (fun W hb => (cdrop1_any cb tb W ((h.below hba).below hb) hx hu (seqAt_fields HCB.out hb) (seqAt_fields HTB.out hb)).mono fun e w' ⟨e1, e2, e3⟩ => ⟨e1, by rw [hS']; exact Run.fin (Run.op (Run.below HRUN.out hb) ⟨e2, e3⟩) HLT.out⟩)
  rw [← hS']
  clear h hx hu hh hba hS'
  go_enter Tryz.func11, Tryz.ntmps11
  go_wp2_with fail
  rw [← htb, ← hcb]
  refine HW.out.mono ?_
  rintro e w2 ⟨rfl, h2⟩
  have H2 := Lib.hid h2
  clear h2
  go_wp2
  go_ret
  exact ⟨rfl, H2.out⟩
end Go.Proofs.YtcdpnfchmpncjaaGreatDoor
namespace Go.Proofs.YtcdpnfchmpncjaaGreatDoor
open Go.RowKit Go.Tr Go.Shelf
variable {w w' : World} {F G : Nat → Prop} {A : Ad} {S : HS}
theorem HeapF.save (h : HeapF w F A S) {x : Sl} {i count p : Nat} (v : Nat) (ho : ObjOk S i x count) (hp : p < S.L.size count) (href : isRefN S.L p = false) (hv : v < 18446744073709551616) :
    Calls Tryz.prog 99 #[.pointer (some ⟨A.m, 0, none⟩), .int .i64 x.addr, .int .i64 p, .int .u64 v] w fun e w' => e = .returned (.int .i64 0) ∧ HeapF w' (grow F w w') A { S with ws := S.ws.set (x.addr + 1 + p) v } ∧ Only F w w' := by
  obtain ⟨G, H, hi, hG, -, hput⟩ := h.setStore
  obtain ⟨h1, h2⟩ := ho.word hp
  exact (isave_any x.addr count i p v w hi ho.obj hp href ho.big hv h1 h2).mono fun e w' ⟨e1, e2, e3⟩ => ⟨e1, hput _ w' e2 e3⟩
theorem HeapF.tie (h : HeapF w F A S) {x : Sl} {i count p idx gen : Nat} (ho : ObjOk S i x count) (hp : p < S.L.size count) (href : isRefN S.L p = true) (h1 : idx < 4096) (h2 : 1 ≤ gen) (h3 : gen ≤ 255) :
    Calls Tryz.prog 96 #[.pointer (some ⟨A.m, 0, none⟩), .int .i64 x.addr, .int .i64 p, .agg #[.int .i64 2, .int .i64 idx, .int .i64 gen]] w fun e w' => e = .returned (.int .i64 0) ∧ HeapF w' (grow F w w') A { S with ws := S.ws.set (x.addr + 1 + p) (linkN idx gen) } ∧ Only F w w' := by
  obtain ⟨G, H, hi, hG, -, hput⟩ := h.setStore
  obtain ⟨k1, k2⟩ := ho.word hp
  exact (itie_any x.addr count i p idx gen w hi ho.obj hp href ho.big h1 h2 h3 k1 k2).mono fun e w' ⟨e1, e2, e3⟩ => ⟨e1, hput _ w' e2 e3⟩
set_option maxRecDepth 100000 in
set_option maxHeartbeats 1000000 in
theorem cset1_any {x : Sl} {i count p v : Nat} (cb pb vb : Nat) (w : World) (h : HeapF w F A S) (ho : ObjOk S i x count) (hp : p < S.L.size count) (href : isRefN S.L p = false) (hv : v < 18446744073709551616)
    (hcb : w.heap[cb]? = some (.cells #[.pointer (some ⟨A.c, 0, none⟩)] 27 (0, 0))) (hpb : w.heap[pb]? = some (.cells #[.int .i64 p] 3 (0, 0))) (hvb : w.heap[vb]? = some (.cells #[.int .u64 v] 34 (0, 0))) :
    Calls Tryz.prog 98 #[entryV x, .pointer (some ⟨cb, 0, none⟩), .pointer (some ⟨pb, 0, none⟩), .pointer (some ⟨vb, 0, none⟩)] w fun e w' => e = .returned (.int .i64 0) ∧ HeapF w' (grow F w w') A { S with ws := S.ws.set (x.addr + 1 + p) v } ∧ Only F w w' := by
  have HRUN := Lib.hid (Run.start h)
  have HLT := Lib.hid h.lt
  have HSET := Lib.hid (fun W (hr : HeapF W F A S) => hr.save v ho hp href hv)
  have HF := Lib.hid (fun W (hb : Below w.heap.size w W) => h.fields hb)
  obtain ⟨S', hS'⟩ : ∃ S', S' = { S with ws := S.ws.set (x.addr + 1 + p) v } := ⟨_, rfl⟩
  rw [← hS'] at HSET ⊢
  obtain ⟨gn, ug, ad, rg, hd, pn⟩ := x
  simp only [entryV] at HSET ⊢
  have hba : Below w.heap.size w (w.alloc (.cells #[.int .i64 ad, .int .i64 rg, .bool hd, .bool pn] 93)) := (Below.refl _ w).alloc (Nat.le_refl _) _
  have HBA := Lib.hid hba
  obtain ⟨-, -, c2, -⟩ := HF.out _ hba
  have k0 := (cells_of_block ((hba.block cb (block_lt hcb)).trans hcb) 0).1
  have p0 := (cells_of_block ((hba.block pb (block_lt hpb)).trans hpb) 0).1
  have v0 := (cells_of_block ((hba.block vb (block_lt hvb)).trans hvb) 0).1
  simp at k0 p0 v0
  clear h ho hp href hS' hba hcb hpb hvb hv
  go_enter Tryz.func98, Tryz.ntmps98
  go_wp2_with fail
  have HX : Hid ((w.alloc (.cells #[.int .i64 ad, .int .i64 rg, .bool hd, .bool pn] 93)).heap[w.heap.size]? = some (.cells #[.int .i64 ad, .int .i64 rg, .bool hd, .bool pn] 93 (0, 0))) := heap_alloc_new w _
  obtain ⟨xb, hxb⟩ : ∃ xb, xb = w.heap.size := ⟨_, rfl⟩
  rw [← hxb]
  rw [← hxb] at HX
  clear hxb
  generalize w.alloc (.cells #[.int .i64 ad, .int .i64 rg, .bool hd, .bool pn] 93) = wa at *
  have x0 := (cells_of_block HX.out 0).1
  have x1 := (cells_of_block HX.out 1).1
  have x2 := (cells_of_block HX.out 2).1
  have x3 := (cells_of_block HX.out 3).1
  simp at x0 x1 x2 x3
  go_still_tail 8, (by kernel_rfl)
  have hrun : Run w F wa.drew F A S := (HRUN.out.below HBA.out).below (Below.refl _ _).drew
  change wpList _ _ _ _ _ wa.drew
  have HRN := Lib.hid hrun
  clear hrun c2 k0 p0 v0 x0 x1 x2 x3
  generalize wa.drew = wb at *
  go_wp2_with fail
  refine (HSET.out wb HRN.out.heap).mono ?_
  rintro e w2 ⟨rfl, h2⟩
  have HRN2 := Lib.hid (HRN.out.op h2)
  clear h2
  go_wp2
  go_ret
  exact ⟨rfl, HRN2.out.fin HLT.out⟩
set_option maxRecDepth 100000 in
set_option maxHeartbeats 1000000 in
theorem cset_any {x : Sl} {i count p v : Nat} (w : World) (h : HeapF w F A S) (ho : ObjOk S i x count) (hh : x.held = true) (hp : p < S.L.size count) (href : isRefN S.L p = false) (hv : v < 18446744073709551616) :
    Calls Tryz.prog 49 #[.pointer (some ⟨A.c, 0, none⟩), .agg #[.int .i64 i, .int .i64 x.gen], .int .i64 p, .int .u64 v] w fun e w' => e = .returned (.int .i64 0) ∧ HeapF w' (grow F w w') A { S with ws := S.ws.set (x.addr + 1 + p) v } ∧ Only F w w' := by
  have h4 := al4 w (.cells #[.pointer (some ⟨A.c, 0, none⟩)] 27) (.cells #[.int .i64 i, .int .i64 x.gen] 38) (.cells #[.int .i64 p] 3) (.cells #[.int .u64 v] 34)
  have HLT := Lib.hid h.lt
  obtain ⟨S', hS'⟩ : ∃ S', S' = { S with ws := S.ws.set (x.addr + 1 + p) v } := ⟨_, rfl⟩
  rw [← hS']
  have HW : Hid (∀ wa cb pb vb, Below w.heap.size w wa → wa.heap[cb]? = some (.cells #[.pointer (some ⟨A.c, 0, none⟩)] 27 (0, 0)) → wa.heap[pb]? = some (.cells #[.int .i64 p] 3 (0, 0)) → wa.heap[vb]? = some (.cells #[.int .u64 v] 34 (0, 0)) →
      Calls Tryz.prog 39 #[.pointer (some ⟨A.c, 0, none⟩), .agg #[.int .i64 i, .int .i64 x.gen], .func (.func 98) #[] #[.pointer (some ⟨cb, 0, none⟩), .pointer (some ⟨pb, 0, none⟩), .pointer (some ⟨vb, 0, none⟩)]] wa fun e w' => e = .returned (.int .i64 0) ∧ HeapF w' (grow F w w') A S' ∧ Only F w w') := fun wa cb pb vb hba h1 h2 h3 =>
    cwith_any _ _ (fun w' => HeapF w' (grow F w w') A S' ∧ Only F w w') _ (h.below hba) ho.sl ho.used hh (enters_of Tryz.func98 (by kernel_rfl) rfl) (fun W hb => (cset1_any cb pb vb W ((h.below hba).below hb) ho hp href hv (seqAt_fields h1 hb) (seqAt_fields h2 hb) (seqAt_fields h3 hb)).mono fun e w' ⟨e1, e2, e3⟩ => ⟨e1, by rw [hS']; exact Run.fin (Run.op (Run.below ((Run.start h).below hba) hb) ⟨e2, e3⟩) HLT.out⟩)
  have H4 := Lib.hid h4
  clear h4 h hp href hv ho hh hS'
  go_enter Tryz.func49, Tryz.ntmps49
  go_wp2_with fail
  refine (HW.out _ _ _ _ H4.out.1 H4.out.2.1 H4.out.2.2.2.1 H4.out.2.2.2.2).mono ?_
  rintro e w2 ⟨rfl, h2⟩
  have H2 := Lib.hid h2
  clear h2
  go_wp2
  go_ret
  exact ⟨rfl, H2.out⟩
set_option maxRecDepth 100000 in
set_option maxHeartbeats 1000000 in
theorem ctie1_any {x : Sl} {i count p idx gen : Nat} (cb pb vb : Nat) (w : World) (h : HeapF w F A S) (ho : ObjOk S i x count) (hp : p < S.L.size count) (href : isRefN S.L p = true) (h1 : idx < 4096) (h2 : 1 ≤ gen) (h3 : gen ≤ 255)
    (hcb : w.heap[cb]? = some (.cells #[.pointer (some ⟨A.c, 0, none⟩)] 27 (0, 0))) (hpb : w.heap[pb]? = some (.cells #[.int .i64 p] 3 (0, 0))) (hvb : w.heap[vb]? = some (.cells #[.int .i64 2, .int .i64 idx, .int .i64 gen] 69 (0, 0))) :
    Calls Tryz.prog 95 #[entryV x, .pointer (some ⟨cb, 0, none⟩), .pointer (some ⟨pb, 0, none⟩), .pointer (some ⟨vb, 0, none⟩)] w fun e w' => e = .returned (.int .i64 0) ∧ HeapF w' (grow F w w') A { S with ws := S.ws.set (x.addr + 1 + p) (linkN idx gen) } ∧ Only F w w' := by
  have HRUN := Lib.hid (Run.start h)
  have HLT := Lib.hid h.lt
  have HSET := Lib.hid (fun W (hr : HeapF W F A S) => hr.tie ho hp href h1 h2 h3)
  have HF := Lib.hid (fun W (hb : Below w.heap.size w W) => h.fields hb)
  obtain ⟨S', hS'⟩ : ∃ S', S' = { S with ws := S.ws.set (x.addr + 1 + p) (linkN idx gen) } := ⟨_, rfl⟩
  rw [← hS'] at HSET ⊢
  obtain ⟨gn, ug, ad, rg, hd, pn⟩ := x
  simp only [entryV] at HSET ⊢
  have hba : Below w.heap.size w (w.alloc (.cells #[.int .i64 ad, .int .i64 rg, .bool hd, .bool pn] 93)) := (Below.refl _ w).alloc (Nat.le_refl _) _
  have HBA := Lib.hid hba
  obtain ⟨-, -, c2, -⟩ := HF.out _ hba
  have k0 := (cells_of_block ((hba.block cb (block_lt hcb)).trans hcb) 0).1
  have p0 := (cells_of_block ((hba.block pb (block_lt hpb)).trans hpb) 0).1
  have v0 := (cells_of_block ((hba.block vb (block_lt hvb)).trans hvb) 0).1
  have v1 := (cells_of_block ((hba.block vb (block_lt hvb)).trans hvb) 1).1
  have v2 := (cells_of_block ((hba.block vb (block_lt hvb)).trans hvb) 2).1
  simp at k0 p0 v0 v1 v2
  clear h ho hp href hS' hba hcb hpb hvb h1 h2 h3
  go_enter Tryz.func95, Tryz.ntmps95
  go_wp2_with fail
  have HX : Hid ((w.alloc (.cells #[.int .i64 ad, .int .i64 rg, .bool hd, .bool pn] 93)).heap[w.heap.size]? = some (.cells #[.int .i64 ad, .int .i64 rg, .bool hd, .bool pn] 93 (0, 0))) := heap_alloc_new w _
  obtain ⟨xb, hxb⟩ : ∃ xb, xb = w.heap.size := ⟨_, rfl⟩
  rw [← hxb]
  rw [← hxb] at HX
  clear hxb
  generalize w.alloc (.cells #[.int .i64 ad, .int .i64 rg, .bool hd, .bool pn] 93) = wa at *
  have x0 := (cells_of_block HX.out 0).1
  have x1 := (cells_of_block HX.out 1).1
  have x2 := (cells_of_block HX.out 2).1
  have x3 := (cells_of_block HX.out 3).1
  simp at x0 x1 x2 x3
  go_still_tail 8, (by kernel_rfl)
  have hrun : Run w F wa.drew F A S := (HRUN.out.below HBA.out).below (Below.refl _ _).drew
  change wpList _ _ _ _ _ wa.drew
  have HRN := Lib.hid hrun
  clear hrun c2 k0 p0 v0 v1 v2 x0 x1 x2 x3
  generalize wa.drew = wb at *
  go_wp2_with fail
  refine (HSET.out wb HRN.out.heap).mono ?_
  rintro e w2 ⟨rfl, hh2⟩
  have HRN2 := Lib.hid (HRN.out.op hh2)
  clear hh2
  go_wp2
  go_ret
  exact ⟨rfl, HRN2.out.fin HLT.out⟩
end Go.Proofs.YtcdpnfchmpncjaaGreatDoor
