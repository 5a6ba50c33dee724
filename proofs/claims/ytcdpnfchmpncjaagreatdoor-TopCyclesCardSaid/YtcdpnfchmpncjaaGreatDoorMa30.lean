/-
  Parts of the proof, one behind the other: KCell4, KCell5.
-/
import Derived.Test.YtcdpnfchmpncjaaGreatDoorMa29
set_option linter.unusedSimpArgs false
set_option linter.unusedVariables false
namespace Go.Proofs.YtcdpnfchmpncjaaGreatDoor
open Go.RowKit Go.Tr Go.Shelf
variable {w w' : World} {F G : Nat → Prop} {A : Ad} {S : HS}
theorem HeapF.rem (h : HeapF w F A S) : ∃ G : Nat → Prop, RemF w G A.rm := by
  obtain ⟨G, hG, h1⟩ := h.1.read 5; exact ⟨G, h1⟩
theorem HeapF.cut (h : HeapF w F A S) (i p : Nat) {W : World} (hb : Below w.heap.size w W) : Calls Tryz.prog 141 #[.pointer (some ⟨A.rm, 0, none⟩), .agg #[.int .i64 i, .int .i64 p]] W fun e w' => e = .returned (.bool false) ∧ Below W.heap.size W w' := by
  obtain ⟨G, hr⟩ := (h.below hb).rem; exact rcut_any i p W hr
set_option maxRecDepth 100000 in
set_option maxHeartbeats 2000000 in
theorem cnote_any {x y : Sl} {i j : Nat} (p : Nat) (w : World) (h : HeapF w F A S) (hx : S.sl[i]? = some x) (hu : x.used = true) (hxr : x.region = 1) (hy : S.sl[j]? = some y) (hyu : y.used = true) (hyr : y.region = 1) :
    Calls Tryz.prog 97 #[.pointer (some ⟨A.c, 0, none⟩), .int .i64 i, .int .i64 p, .agg #[.int .i64 2, .int .i64 j, .int .i64 y.gen]] w fun e w' => e = .returned (.tuple #[]) ∧ Below w.heap.size w w' := by
  have HF := Lib.hid (fun W (hb : Below w.heap.size w W) => h.fields hb)
  have HG := Lib.hid (fun W (hb : Below w.heap.size w W) => h.get hy hyu hb)
  have HAT := Lib.hid (fun W (hb : Below w.heap.size w W) => cat_any W (h.below hb) hx hu)
  have HCUT := Lib.hid (fun W (hb : Below w.heap.size w W) => h.cut i p hb)
  have h2 := al2 w (.cells #[.int .i64 2, .int .i64 j, .int .i64 y.gen] 69) (.cells #[.int .i64 i, .int .i64 p] 227)
  have HB1 := Lib.hid h2.1
  have HL1 := Lib.hid h2.2.1
  have HR1 := Lib.hid h2.2.2
  obtain ⟨xg, xu, xa, xr, xh, xp⟩ := x
  obtain ⟨yg, yu, ya, yr, yh, yp⟩ := y
  simp only at hxr hyr
  subst hxr hyr
  simp only [entryV] at HG HAT ⊢
  simp only at HL1 HB1 HR1
  obtain ⟨rb, hrb⟩ : ∃ rb, rb = w.heap.size + 1 := ⟨_, rfl⟩
  obtain ⟨lb, hlb⟩ : ∃ lb, lb = w.heap.size := ⟨_, rfl⟩
  rw [← hrb] at HR1
  rw [← hlb] at HL1
  clear h hx hu hy hyu h2
  go_enter Tryz.func97, Tryz.ntmps97
  go_wp2_with fail
  rw [← hrb, ← hlb]
  clear hrb hlb
  generalize (w.alloc (.cells #[.int .i64 2, .int .i64 j, .int .i64 yg] 69)).alloc (.cells #[.int .i64 i, .int .i64 p] 227) = wa at *
  obtain ⟨-, -, -, -, -, c5, -⟩ := HF.out _ HB1.out
  have r0 := (cells_of_block HR1.out 0).1
  have r1 := (cells_of_block HR1.out 1).1
  simp at r0 r1
  go_still_tail 5, (by kernel_rfl)
  have HBA : Hid (Below w.heap.size w wa.drew) := HB1.out.drew
  have HLA : Hid (wa.drew.heap[lb]? = some (.cells #[.int .i64 2, .int .i64 j, .int .i64 yg] 69 (0, 0))) := HL1.out
  change wpList _ _ _ _ _ wa.drew
  clear c5 r0 r1
  generalize wa.drew = wb at *
  go_wp2_with fail
  refine (HCUT.out wb HBA.out).mono ?_
  rintro e w1 ⟨rfl, hb1⟩
  have HB2 : Hid (Below w.heap.size w w1) := HBA.out.trans (hb1.mono HBA.out.size)
  have HL2 := Lib.hid ((hb1.block lb (block_lt HLA.out)).trans HLA.out)
  have l0 := (cells_of_block HL2.out 0).1
  have l1 := (cells_of_block HL2.out 1).1
  have l2 := (cells_of_block HL2.out 2).1
  simp at l0 l1 l2
  clear hb1
  go_wp2_with fail
  refine (HAT.out w1 HB2.out).mono ?_
  rintro e w2 ⟨rfl, hb2⟩
  have HB3 : Hid (Below w.heap.size w (w2.alloc (.cells #[.int .i64 xa, .int .i64 1, .bool xh, .bool xp] 93))) := (HB2.out.trans (hb2.mono HB2.out.size)).alloc (Nat.le_trans HB2.out.size hb2.size) _
  have hl3 := (hb2.block lb (block_lt HL2.out)).trans HL2.out
  have HL3 : Hid ((w2.alloc (.cells #[.int .i64 xa, .int .i64 1, .bool xh, .bool xp] 93)).heap[lb]? = some (.cells #[.int .i64 2, .int .i64 j, .int .i64 yg] 69 (0, 0))) := (Below.heap_alloc _ _ _ (block_lt hl3)).trans hl3
  obtain ⟨fb, hfb⟩ : ∃ fb, fb = w2.heap.size := ⟨_, rfl⟩
  have HFB : Hid ((w2.alloc (.cells #[.int .i64 xa, .int .i64 1, .bool xh, .bool xp] 93)).heap[fb]? = some (.cells #[.int .i64 xa, .int .i64 1, .bool xh, .bool xp] 93 (0, 0))) := by rw [hfb]; exact heap_alloc_new w2 _
  clear hb2 hl3 l0 l1 l2
  go_wp2_with fail
  rw [← hfb]
  clear hfb
  generalize w2.alloc (.cells #[.int .i64 xa, .int .i64 1, .bool xh, .bool xp] 93) = w3 at *
  obtain ⟨n2, hn2⟩ : ∃ n, n = w3.heap.size := ⟨_, rfl⟩
  have HN2 : Hid (n2 = w3.heap.size) := hn2
  have HW : Hid (∀ W, Below n2 w3 W → Below w.heap.size w W) := fun W hb => by rw [hn2] at hb; exact HB3.out.trans (hb.mono HB3.out.size)
  clear hn2
  have HD : Hid (∀ W, Below n2 w3 W → W.cell? ⟨A.c, 3, none⟩ = some (.pointer (some ⟨A.t, 0, none⟩)) ∧ W.cell? ⟨lb, 1, none⟩ = some (.int .i64 j) ∧ W.cell? ⟨lb, 2, none⟩ = some (.int .i64 yg)) := fun W hb => by
    have ht := (hb.block lb (by rw [HN2.out]; exact block_lt HL3.out)).trans HL3.out
    exact ⟨(HF.out W (HW.out W hb)).2.2.2.1, (cells_of_block ht 1).1, (cells_of_block ht 2).1⟩
  refine wp_region_held_drew (S := Below n2 w3) (by kernel_rfl) (Below.refl n2 w3).drew (fun hH => ?_)
  refine tk 0 (v := ?_) rfl ?_ ?_; rotate_left; · intro W hW; go_simp; try with_reducible rfl
  refine tk 1 (v := ?_) rfl ?_ ?_; rotate_left; · intro W hW; go_simp; try with_reducible rfl
  refine tk 2 (v := ?_) rfl ?_ ?_; rotate_left; · intro W hW; go_simp; try with_reducible rfl
  refine tk 3 (v := ?_) rfl ?_ ?_; rotate_left; · intro W hW; obtain ⟨d3, e0, e1⟩ := HD.out W hW; go_simp; try with_reducible rfl
  refine tk 4 (v := ?_) rfl ?_ ?_; rotate_left; · intro W hW; obtain ⟨d3, e0, e1⟩ := HD.out W hW; go_simp; try with_reducible rfl
  refine tk 5 (v := ?_) rfl ?_ ?_; rotate_left; · intro W hW; obtain ⟨d3, e0, e1⟩ := HD.out W hW; go_simp; try with_reducible rfl
  refine rd2 6 10 rfl rfl (fun K hK => ?_) (fun K hK => ?_)
  focus
    go_simp
    refine (HG.out _ (HW.out _ hH)).mono ?_
    rintro e w4 ⟨rfl, hb3⟩
    have HB3 : Hid (Below n2 w3 w4) := hH.trans (hb3.mono (by rw [HN2.out]; exact hH.size))
    refine hK.out _ _ HB3.out (fun hH => ?_)
    clear hK K hb3
    refine tk 7 (v := ?_) rfl ?_ ?_; rotate_left; · intro W hW; go_simp; try with_reducible rfl
    refine tk 8 (v := ?_) rfl ?_ ?_; rotate_left; · intro W hW; go_simp; try with_reducible rfl
    refine tk 9 (v := ?_) rfl ?_ ?_; rotate_left; · intro W hW; go_simp; try with_reducible rfl
    refine rd 10 rfl (fun K hK => ?_)
    go_simp
    have HB4 : Hid (Below n2 w3 (w4.alloc (.cells #[.int .i64 ya, .int .i64 1, .bool yh, .bool yp] 93))) := HB3.out.alloc (by rw [HN2.out]; exact HB3.out.size) _
    refine hK.out _ _ (HB3.out.alloc (by rw [HN2.out]; exact HB3.out.size) _) (fun hH => ?_)
    clear hK K
    refine rd 11 rfl (fun K hK => ?_)
    go_simp
    refine hK.out _ _ HB4.out (fun hH => ?_)
    clear hK K
    obtain ⟨xb, hxb⟩ : ∃ xb, xb = w4.heap.size := ⟨_, rfl⟩
    have HX : Hid ((w4.alloc (.cells #[.int .i64 ya, .int .i64 1, .bool yh, .bool yp] 93)).heap[xb]? = some (.cells #[.int .i64 ya, .int .i64 1, .bool yh, .bool yp] 93 (0, 0))) := by rw [hxb]; exact heap_alloc_new w4 _
    rw [← hxb]
    clear hxb
    generalize w4.alloc (.cells #[.int .i64 ya, .int .i64 1, .bool yh, .bool yp] 93) = w5 at *
  rotate_left
  focus
    go_simp
    have hb3 : Below n2 w3 (w3.alloc (.cells #[.int .i64 0, .int .i64 0, .bool false, .bool false] 93)).drew := ((Below.refl n2 w3).alloc (Nat.le_of_eq HN2.out) _).drew
    refine hK.out _ _ hb3 (fun hH => ?_)
    clear hK K
    refine rd 6 rfl (fun K hK => ?_)
    go_simp
    refine (HG.out _ (HW.out _ hH)).mono ?_
    rintro e w4 ⟨rfl, hbc⟩
    have HB3 : Hid (Below n2 w3 w4) := hb3.trans (hbc.mono (by rw [HN2.out]; exact hb3.size))
    obtain ⟨xb, hxb⟩ : ∃ xb, xb = w3.heap.size := ⟨_, rfl⟩
    have HX3 : Hid (w4.heap[xb]? = some (.cells #[.int .i64 0, .int .i64 0, .bool false, .bool false] 93 (0, 0))) := by rw [hxb]; exact (hbc.block _ (by simp)).trans (heap_alloc_new w3 _)
    refine hK.out _ _ HB3.out (fun hH => ?_)
    rw [← hxb]
    have hxw : n2 ≤ xb := by rw [HN2.out]; exact Nat.le_of_eq hxb.symm
    clear hK K hb3 hbc hxb
    refine tk 7 (v := ?_) rfl ?_ ?_; rotate_left; · intro W hW; go_simp; try with_reducible rfl
    refine tk 8 (v := ?_) rfl ?_ ?_; rotate_left; · intro W hW; go_simp; try with_reducible rfl
    refine tk 9 (v := ?_) rfl ?_ ?_; rotate_left; · intro W hW; go_simp; try with_reducible rfl
    have z0 := cells_of_block HX3.out 0
    have z1 := cells_of_block HX3.out 1
    have z2 := cells_of_block HX3.out 2
    have z3 := cells_of_block HX3.out 3
    simp at z0 z1 z2 z3
    obtain ⟨z0, f0⟩ := z0
    obtain ⟨z1, f1⟩ := z1
    obtain ⟨z2, f2⟩ := z2
    obtain ⟨z3, f3⟩ := z3
    refine rd 11 rfl (fun K hK => ?_)
    go_simp
    have HB4 : Hid (Below n2 w3 ((((w4.setCell ⟨xb, 0, none⟩ (.int .i64 ya)).setCell ⟨xb, 1, none⟩ (.int .i64 1)).setCell ⟨xb, 2, none⟩ (.bool yh)).setCell ⟨xb, 3, none⟩ (.bool yp))) := ((((HB3.out).setCell hxw _).setCell hxw _).setCell hxw _).setCell hxw _
    refine hK.out _ _ HB4.out (fun hH => ?_)
    clear hK K hxw z0 f0 z1 f1 z2 f2 z3 f3
    have HX : Hid (((((w4.setCell ⟨xb, 0, none⟩ (.int .i64 ya)).setCell ⟨xb, 1, none⟩ (.int .i64 1)).setCell ⟨xb, 2, none⟩ (.bool yh)).setCell ⟨xb, 3, none⟩ (.bool yp)).heap[xb]? = some (.cells #[.int .i64 ya, .int .i64 1, .bool yh, .bool yp] 93 (0, 0))) := by
      show _ = _
      simpa using block_setCell (block_setCell (block_setCell (block_setCell (HX3.out) 0 (.int .i64 ya)) 1 (.int .i64 1)) 2 (.bool yh)) 3 (.bool yp)
    generalize (((w4.setCell ⟨xb, 0, none⟩ (.int .i64 ya)).setCell ⟨xb, 1, none⟩ (.int .i64 1)).setCell ⟨xb, 2, none⟩ (.bool yh)).setCell ⟨xb, 3, none⟩ (.bool yp) = w5 at *
    clear HX3
  all_goals
    refine tk 12 (v := ?_) rfl ?_ ?_; rotate_left; · intro W hW; go_simp; try with_reducible rfl
    refine wpAnyH_done (by kernel_rfl) ?_ _
    have HF5 := Lib.hid ((HB4.out.block fb (by rw [HN2.out]; exact block_lt HFB.out)).trans HFB.out)
    have x0 := (cells_of_block HX.out 0).1
    have x1 := (cells_of_block HX.out 1).1
    have x2 := (cells_of_block HX.out 2).1
    have x3 := (cells_of_block HX.out 3).1
    simp at x0 x1 x2 x3
    have f0 := (cells_of_block HF5.out 0).1
    have f1 := (cells_of_block HF5.out 1).1
    have f2 := (cells_of_block HF5.out 2).1
    have f3 := (cells_of_block HF5.out 3).1
    simp at f0 f1 f2 f3
    go_wp2_with fail
    go_end0
    exact ⟨rfl, HW.out _ HB4.out⟩
theorem Bx.of {b : Nat} {o : Obj} (h : HeapF w F A S) (hb : w'.heap[b]? = some o) (hn : w.heap.size ≤ b) : Bx w' F b o := ⟨fun hf => by have := h.lt b hf; omega, hb⟩
def TieSt (w : World) (F : Nat → Prop) (A : Ad) (S' : HS) (cb tb pb lb i gen p j g : Nat) (W : World) : Prop := ∃ F1, Run w F W F1 A S' ∧ Bx W F1 cb (.cells #[.pointer (some ⟨A.c, 0, none⟩)] 27 (0, 0)) ∧ Bx W F1 tb (.cells #[.int .i64 i, .int .i64 gen] 38 (0, 0)) ∧ Bx W F1 pb (.cells #[.int .i64 p] 3 (0, 0)) ∧ Bx W F1 lb (.cells #[.int .i64 2, .int .i64 j, .int .i64 g] 69 (0, 0))
set_option maxRecDepth 100000 in
set_option maxHeartbeats 1000000 in
theorem ctie_any {x y : Sl} {i j count p : Nat} (w : World) (h : HeapF w F A S) (ho : ObjOk S i x count) (hh : x.held = true) (hxr : x.region = 1) (hy : S.sl[j]? = some y) (hyu : y.used = true) (hyr : y.region = 1) (hp : p < S.L.size count) (href : isRefN S.L p = true) (h1 : j < 4096) (h2 : 1 ≤ y.gen) (h3 : y.gen ≤ 255) :
    Calls Tryz.prog 47 #[.pointer (some ⟨A.c, 0, none⟩), .agg #[.int .i64 i, .int .i64 x.gen], .int .i64 p, .agg #[.int .i64 2, .int .i64 j, .int .i64 y.gen]] w fun e w' => e = .returned (.int .i64 0) ∧ HeapF w' (grow F w w') A { S with ws := S.ws.set (x.addr + 1 + p) (linkN j y.gen) } ∧ Only F w w' := by
  have h4 := al4 w (.cells #[.pointer (some ⟨A.c, 0, none⟩)] 27) (.cells #[.int .i64 i, .int .i64 x.gen] 38) (.cells #[.int .i64 p] 3) (.cells #[.int .i64 2, .int .i64 j, .int .i64 y.gen] 69)
  have HLT := Lib.hid h.lt
  obtain ⟨S', hS'⟩ : ∃ S', S' = { S with ws := S.ws.set (x.addr + 1 + p) (linkN j y.gen) } := ⟨_, rfl⟩
  have hsl : S'.sl = S.sl := by rw [hS']
  rw [← hS']
  have HNT := Lib.hid (fun W F1 (hr : HeapF W F1 A S') => cnote_any p W hr (by rw [hsl]; exact ho.sl) ho.used hxr (by rw [hsl]; exact hy) hyu hyr)
  have HW : Hid (∀ wa cb tb pb vb, Below w.heap.size w wa → w.heap.size ≤ cb → w.heap.size ≤ tb → w.heap.size ≤ pb → w.heap.size ≤ vb → wa.heap[cb]? = some (.cells #[.pointer (some ⟨A.c, 0, none⟩)] 27 (0, 0)) → wa.heap[tb]? = some (.cells #[.int .i64 i, .int .i64 x.gen] 38 (0, 0)) → wa.heap[pb]? = some (.cells #[.int .i64 p] 3 (0, 0)) → wa.heap[vb]? = some (.cells #[.int .i64 2, .int .i64 j, .int .i64 y.gen] 69 (0, 0)) →
      Calls Tryz.prog 39 #[.pointer (some ⟨A.c, 0, none⟩), .agg #[.int .i64 i, .int .i64 x.gen], .func (.func 95) #[] #[.pointer (some ⟨cb, 0, none⟩), .pointer (some ⟨pb, 0, none⟩), .pointer (some ⟨vb, 0, none⟩)]] wa fun e w' => e = .returned (.int .i64 0) ∧ TieSt w F A S' cb tb pb vb i x.gen p j y.gen w') := fun wa cb tb pb vb hba n1 n2 n3 n4 k1 k2 k3 k4 =>
    cwith_any _ _ (TieSt w F A S' cb tb pb vb i x.gen p j y.gen) _ (h.below hba) ho.sl ho.used hh (enters_of Tryz.func95 (by kernel_rfl) rfl) (fun W hb => (ctie1_any cb pb vb W ((h.below hba).below hb) ho hp href h1 h2 h3 (seqAt_fields k1 hb) (seqAt_fields k3 hb) (seqAt_fields k4 hb)).mono fun e w' ⟨e1, e2, e3⟩ => ⟨e1, grow F W w', by rw [hS']; exact Run.op (Run.below ((Run.start h).below hba) hb) ⟨e2, e3⟩, (Bx.of h (seqAt_fields k1 hb) n1).op e3, (Bx.of h (seqAt_fields k2 hb) n2).op e3, (Bx.of h (seqAt_fields k3 hb) n3).op e3, (Bx.of h (seqAt_fields k4 hb) n4).op e3⟩)
  have H4 := Lib.hid h4
  obtain ⟨gn, ug, ad, rg, hd, pn⟩ := x
  obtain ⟨yg, yu, ya, yr, yh, yp⟩ := y
  simp only at HW HNT H4 ⊢
  clear h4 h hp href hh ho hS' hy hyu hyr hxr h1 h2 h3 hsl
  go_enter Tryz.func47, Tryz.ntmps47
  go_wp2_with fail
  refine (HW.out _ _ _ _ _ H4.out.1 (Nat.le_refl _) (Nat.le_add_right _ 1) (by omega) (by omega) H4.out.2.1 H4.out.2.2.1 H4.out.2.2.2.1 H4.out.2.2.2.2).mono ?_
  rintro e w2 ⟨rfl, F1, hr, hb1, hb2, hb3, hb4⟩
  have HRN := Lib.hid hr
  obtain ⟨cb, hcb⟩ : ∃ cb, cb = w.heap.size := ⟨_, rfl⟩
  rw [← hcb] at hb1 hb2 hb3 hb4
  rw [← hcb]
  have k0 := (cells_of_block hb1.2 0).1
  have t0 := (cells_of_block hb2.2 0).1
  have p0 := (cells_of_block hb3.2 0).1
  have l0 := (cells_of_block hb4.2 0).1
  have l1 := (cells_of_block hb4.2 1).1
  have l2 := (cells_of_block hb4.2 2).1
  simp at k0 t0 p0 l0 l1 l2
  clear hr hb1 hb2 hb3 hb4 hcb
  go_wp2_with fail
  refine (HNT.out w2 F1 HRN.out.heap).mono ?_
  rintro e w3 ⟨rfl, hb⟩
  have HR3 := Lib.hid (HRN.out.below hb)
  clear hb
  go_wp2
  go_ret
  exact ⟨rfl, HR3.out.fin HLT.out⟩
end Go.Proofs.YtcdpnfchmpncjaaGreatDoor
namespace Go.Proofs.YtcdpnfchmpncjaaGreatDoor
open Go.RowKit Go.Tr Go.Shelf
variable {w w' : World} {F G : Nat → Prop} {A : Ad} {S : HS}
theorem HeapF.load (h : HeapF w F A S) {x : Sl} {i count p : Nat} (ho : ObjOk S i x count) (hp : p < S.L.size count) (href : isRefN S.L p = false) {W : World} (hb : Below w.heap.size w W) :
    Calls Tryz.prog 103 #[.pointer (some ⟨A.m, 0, none⟩), .int .i64 x.addr, .int .i64 p] W fun e w' => e = .returned (.tuple #[.int .u64 (S.ws.getD (x.addr + 1 + p) 0 : Nat), .int .i64 0]) ∧ Below W.heap.size W w' := by
  obtain ⟨G, H, hi, -⟩ := (h.below hb).img
  obtain ⟨h1, h2⟩ := ho.word hp
  exact iload_any x.addr count i p W hi ho.obj hp href ho.big h1 h2
theorem HeapF.follow (h : HeapF w F A S) {x : Sl} {i count p : Nat} (o : Option (Nat × Nat)) (ho : ObjOk S i x count) (hp : p < S.L.size count) (href : isRefN S.L p = true) (hl : LkOk o) (hw : S.ws.getD (x.addr + 1 + p) 0 = lkN o) {W : World} (hb : Below w.heap.size w W) :
    Calls Tryz.prog 51 #[.pointer (some ⟨A.m, 0, none⟩), .int .i64 x.addr, .int .i64 p] W fun e w' => e = .returned (.tuple #[lkV o, .int .i64 0]) ∧ Below W.heap.size W w' := by
  obtain ⟨G, H, hi, -⟩ := (h.below hb).img
  obtain ⟨h1, h2⟩ := ho.word hp
  exact ifollow_any x.addr count i p o W hi ho.obj hp href ho.big h1 h2 hl hw
def lkC (o : Option (Nat × Nat)) : Array Value := match o with | none => #[.int .i64 0, .int .i64 0, .int .i64 0] | some (i, g) => #[.int .i64 2, .int .i64 (i : Nat), .int .i64 (g : Nat)]
theorem lkC_is (o : Option (Nat × Nat)) : ∃ k i g : Nat, lkV o = .agg #[.int .i64 k, .int .i64 i, .int .i64 g] ∧ lkC o = #[.int .i64 k, .int .i64 i, .int .i64 g] := by
  rcases o with _ | ⟨i, g⟩
  · exact ⟨0, 0, 0, rfl, rfl⟩
  · exact ⟨2, i, g, rfl, rfl⟩
set_option maxRecDepth 100000 in
set_option maxHeartbeats 1000000 in
theorem cget1_any {x : Sl} {i count p : Nat} (cb pb vb z : Nat) (w : World) (h : HeapF w F A S) (ho : ObjOk S i x count) (hp : p < S.L.size count) (href : isRefN S.L p = false) (hn : ¬ F vb ∧ cb ≠ vb ∧ pb ≠ vb)
    (hcb : w.heap[cb]? = some (.cells #[.pointer (some ⟨A.c, 0, none⟩)] 27 (0, 0))) (hpb : w.heap[pb]? = some (.cells #[.int .i64 p] 3 (0, 0))) (hvb : w.heap[vb]? = some (.cells #[.int .u64 z] 34 (0, 0))) :
    Calls Tryz.prog 102 #[entryV x, .pointer (some ⟨cb, 0, none⟩), .pointer (some ⟨pb, 0, none⟩), .pointer (some ⟨vb, 0, none⟩)] w fun e w' => e = .returned (.int .i64 0) ∧ w'.heap[vb]? = some (.cells #[.int .u64 (S.ws.getD (x.addr + 1 + p) 0 : Nat)] 34 (0, 0)) ∧ Only (fun k => k = vb) w w' := by
  have HLD := Lib.hid (fun W (hb : Below w.heap.size w W) => h.load ho hp href hb)
  obtain ⟨v, hv⟩ : ∃ v, v = S.ws.getD (x.addr + 1 + p) 0 := ⟨_, rfl⟩
  rw [← hv] at HLD ⊢
  obtain ⟨gn, ug, ad, rg, hd, pn⟩ := x
  simp only [entryV] at HLD ⊢
  have hba : Below w.heap.size w (w.alloc (.cells #[.int .i64 ad, .int .i64 rg, .bool hd, .bool pn] 93)) := (Below.refl _ w).alloc (Nat.le_refl _) _
  have HBA := Lib.hid hba
  have HX : Hid ((w.alloc (.cells #[.int .i64 ad, .int .i64 rg, .bool hd, .bool pn] 93)).heap[w.heap.size]? = some (.cells #[.int .i64 ad, .int .i64 rg, .bool hd, .bool pn] 93 (0, 0))) := heap_alloc_new w _
  obtain ⟨xb, hxb⟩ : ∃ xb, xb = w.heap.size := ⟨_, rfl⟩
  have hcc := (h.below hba).cells
  have HCC : Hid (_ ∧ A.c ≠ vb) := ⟨hcc.1, fun e => hn.1 (e ▸ hcc.2.2.2)⟩
  have HCB : Hid (_ ∧ cb ≠ vb) := ⟨(hba.block cb (block_lt hcb)).trans hcb, hn.2.1⟩
  have HPB : Hid (_ ∧ pb ≠ vb) := ⟨(hba.block pb (block_lt hpb)).trans hpb, hn.2.2⟩
  have HVB := Lib.hid ((hba.block vb (block_lt hvb)).trans hvb)
  have HXV : Hid (xb ≠ vb) := fun e => by have := block_lt hvb; omega
  rw [← hxb] at HX
  clear h ho hp href hba hcb hpb hvb hn hv hcc
  go_enter Tryz.func102, Tryz.ntmps102
  go_wp2_with fail
  rw [← hxb]
  clear hxb
  generalize w.alloc (.cells #[.int .i64 ad, .int .i64 rg, .bool hd, .bool pn] 93) = wa at *
  have HD : Hid (∀ W, Only (fun k => k = vb) wa W → W.cell? ⟨A.c, 2, none⟩ = some (.pointer (some ⟨A.m, 0, none⟩)) ∧ W.cell? ⟨cb, 0, none⟩ = some (.pointer (some ⟨A.c, 0, none⟩)) ∧ W.cell? ⟨pb, 0, none⟩ = some (.int .i64 p) ∧ W.cell? ⟨xb, 0, none⟩ = some (.int .i64 ad)) := fun W hb => by
    have k1 := (hb.block A.c (block_lt HCC.out.1) HCC.out.2).trans HCC.out.1
    have k2 := (hb.block cb (block_lt HCB.out.1) HCB.out.2).trans HCB.out.1
    have k3 := (hb.block pb (block_lt HPB.out.1) HPB.out.2).trans HPB.out.1
    have k4 := (hb.block xb (block_lt HX.out) HXV.out).trans HX.out
    exact ⟨(cells_of_block k1 2).1, (cells_of_block k2 0).1, (cells_of_block k3 0).1, (cells_of_block k4 0).1⟩
  refine wp_region_held_drew (S := Only (fun k => k = vb) wa) (by kernel_rfl) (Only.refl _ wa).drew (fun hH => ?_)
  refine tk 0 (v := ?_) rfl ?_ ?_; rotate_left; · intro W hW; obtain ⟨d0, d1, d2, d3⟩ := HD.out W hW; go_simp; try with_reducible rfl
  refine tk 1 (v := ?_) rfl ?_ ?_; rotate_left; · intro W hW; obtain ⟨d0, d1, d2, d3⟩ := HD.out W hW; go_simp; try with_reducible rfl
  refine tk 2 (v := ?_) rfl ?_ ?_; rotate_left; · intro W hW; obtain ⟨d0, d1, d2, d3⟩ := HD.out W hW; go_simp; try with_reducible rfl
  refine tk 3 (v := ?_) rfl ?_ ?_; rotate_left; · intro W hW; obtain ⟨d0, d1, d2, d3⟩ := HD.out W hW; go_simp; try with_reducible rfl
  refine tk 4 (v := ?_) rfl ?_ ?_; rotate_left; · intro W hW; obtain ⟨d0, d1, d2, d3⟩ := HD.out W hW; go_simp; try with_reducible rfl
  refine tk 5 (v := ?_) rfl ?_ ?_; rotate_left; · intro W hW; obtain ⟨d0, d1, d2, d3⟩ := HD.out W hW; go_simp; try with_reducible rfl
  refine tk 6 (v := ?_) rfl ?_ ?_; rotate_left; · intro W hW; obtain ⟨d0, d1, d2, d3⟩ := HD.out W hW; go_simp; try with_reducible rfl
  refine rd 7 rfl (fun K hK => ?_)
  go_simp
  refine (HLD.out _ HBA.out.drew).mono ?_
  rintro e w3 ⟨rfl, hb3⟩
  have HB3 : Hid (Below wa.heap.size wa w3) := (Below.refl _ wa).drew.trans hb3
  have HV3 := Lib.hid ((HB3.out.block vb (block_lt HVB.out)).trans HVB.out)
  refine hK.out _ _ (Only.of_below HB3.out _) (fun hH => ?_)
  clear hK K hb3
  refine tk 8 (v := ?_) rfl ?_ ?_; rotate_left; · intro W hW; go_simp; try with_reducible rfl
  refine tk 9 (v := ?_) rfl ?_ ?_; rotate_left; · intro W hW; go_simp; try with_reducible rfl
  refine tk 10 (v := ?_) rfl ?_ ?_; rotate_left; · intro W hW; go_simp; try with_reducible rfl
  have v0 := cells_of_block HV3.out 0
  simp at v0
  obtain ⟨v0, f0⟩ := v0
  refine rd 11 rfl (fun K hK => ?_)
  go_simp
  have HO4 : Hid (Only (fun k => k = vb) wa (w3.setCell ⟨vb, 0, none⟩ (.int .u64 v))) := (Only.of_below HB3.out (fun k => k = vb)).setCell (p := ⟨vb, 0, none⟩) (Or.inl rfl) _
  refine hK.out _ _ HO4.out (fun hH => ?_)
  clear hK K v0 f0
  have HV4 : Hid ((w3.setCell ⟨vb, 0, none⟩ (.int .u64 v)).heap[vb]? = some (.cells #[.int .u64 v] 34 (0, 0))) := by show _ = _; simpa using block_setCell HV3.out 0 (.int .u64 v)
  generalize w3.setCell ⟨vb, 0, none⟩ (.int .u64 v) = w4 at *
  refine tk 12 (v := ?_) rfl ?_ ?_; rotate_left; · intro W hW; go_simp; try with_reducible rfl
  refine wpAnyH_done (by kernel_rfl) ?_ _
  go_wp2_with fail
  go_ret
  exact ⟨rfl, HV4.out, (Only.of_below HBA.out _).trans HO4.out (fun k hk => Or.inl hk)⟩
set_option maxRecDepth 100000 in
set_option maxHeartbeats 1000000 in
theorem cget_any {x : Sl} {i count p : Nat} (w : World) (h : HeapF w F A S) (ho : ObjOk S i x count) (hh : x.held = true) (hp : p < S.L.size count) (href : isRefN S.L p = false) :
    Calls Tryz.prog 52 #[.pointer (some ⟨A.c, 0, none⟩), .agg #[.int .i64 i, .int .i64 x.gen], .int .i64 p] w fun e w' => e = .returned (.tuple #[.int .u64 (S.ws.getD (x.addr + 1 + p) 0 : Nat), .int .i64 0]) ∧ Below w.heap.size w w' := by
  have h4 := al4 w (.cells #[.pointer (some ⟨A.c, 0, none⟩)] 27) (.cells #[.int .i64 i, .int .i64 x.gen] 38) (.cells #[.int .i64 p] 3) (.cells #[.int .u64 0] 34)
  have HLT := Lib.hid h.lt
  have HW : Hid (∀ wa cb pb vb, Below w.heap.size w wa → w.heap.size ≤ vb → cb ≠ vb → pb ≠ vb → wa.heap[cb]? = some (.cells #[.pointer (some ⟨A.c, 0, none⟩)] 27 (0, 0)) → wa.heap[pb]? = some (.cells #[.int .i64 p] 3 (0, 0)) → wa.heap[vb]? = some (.cells #[.int .u64 (0 : Nat)] 34 (0, 0)) →
      Calls Tryz.prog 39 #[.pointer (some ⟨A.c, 0, none⟩), .agg #[.int .i64 i, .int .i64 x.gen], .func (.func 102) #[] #[.pointer (some ⟨cb, 0, none⟩), .pointer (some ⟨pb, 0, none⟩), .pointer (some ⟨vb, 0, none⟩)]] wa fun e w' => e = .returned (.int .i64 0) ∧ w'.heap[vb]? = some (.cells #[.int .u64 (S.ws.getD (x.addr + 1 + p) 0 : Nat)] 34 (0, 0)) ∧ Below w.heap.size w w') := fun wa cb pb vb hba n1 n2 n3 h1 h2 h3 =>
    cwith_any _ _ (fun w' => w'.heap[vb]? = some (.cells #[.int .u64 (S.ws.getD (x.addr + 1 + p) 0 : Nat)] 34 (0, 0)) ∧ Below w.heap.size w w') _ (h.below hba) ho.sl ho.used hh (enters_of Tryz.func102 (by kernel_rfl) rfl) (fun W hb => (cget1_any cb pb vb 0 W ((h.below hba).below hb) ho hp href ⟨fun hf => by have := h.lt vb hf; omega, n2, n3⟩ (seqAt_fields h1 hb) (seqAt_fields h2 hb) (seqAt_fields h3 hb)).mono fun e w' ⟨e1, e2, e3⟩ => ⟨e1, e2, (hba.trans (hb.mono hba.size)).trans (e3.below (Nat.le_trans hba.size hb.size) (fun k hk => by rw [hk]; exact n1))⟩)
  have H4 := Lib.hid h4
  obtain ⟨v, hv⟩ : ∃ v, v = S.ws.getD (x.addr + 1 + p) 0 := ⟨_, rfl⟩
  rw [← hv] at HW ⊢
  clear h4 h hp href ho hh hv
  go_enter Tryz.func52, Tryz.ntmps52
  go_wp2_with fail
  refine (HW.out _ _ _ _ H4.out.1 (by omega) (by omega) (by omega) H4.out.2.1 H4.out.2.2.2.1 H4.out.2.2.2.2).mono ?_
  rintro e w2 ⟨rfl, h2, hb⟩
  have HB := Lib.hid hb
  have v0 := (cells_of_block h2 0).1
  simp at v0
  clear h2 hb
  go_wp2
  go_ret2
  exact ⟨rfl, HB.out⟩
set_option maxRecDepth 100000 in
set_option maxHeartbeats 1000000 in
theorem clook1_any {x : Sl} {i count p : Nat} (o : Option (Nat × Nat)) (cb pb vb : Nat) (w : World) (h : HeapF w F A S) (ho : ObjOk S i x count) (hp : p < S.L.size count) (href : isRefN S.L p = true) (hlk : LkOk o) (hlw : S.ws.getD (x.addr + 1 + p) 0 = lkN o) (hn : ¬ F vb ∧ cb ≠ vb ∧ pb ≠ vb)
    (hcb : w.heap[cb]? = some (.cells #[.pointer (some ⟨A.c, 0, none⟩)] 27 (0, 0))) (hpb : w.heap[pb]? = some (.cells #[.int .i64 p] 3 (0, 0))) (hvb : w.heap[vb]? = some (.cells #[.int .i64 0, .int .i64 0, .int .i64 0] 69 (0, 0))) :
    Calls Tryz.prog 50 #[entryV x, .pointer (some ⟨cb, 0, none⟩), .pointer (some ⟨pb, 0, none⟩), .pointer (some ⟨vb, 0, none⟩)] w fun e w' => e = .returned (.int .i64 0) ∧ w'.heap[vb]? = some (.cells (lkC o) 69 (0, 0)) ∧ Only (fun k => k = vb) w w' := by
  have HLD := Lib.hid (fun W (hb : Below w.heap.size w W) => h.follow o ho hp href hlk hlw hb)
  obtain ⟨lk, li, lg, hv, hc⟩ := lkC_is o
  rw [hv] at HLD
  rw [hc]
  obtain ⟨gn, ug, ad, rg, hd, pn⟩ := x
  simp only [entryV] at HLD ⊢
  have hba : Below w.heap.size w (w.alloc (.cells #[.int .i64 ad, .int .i64 rg, .bool hd, .bool pn] 93)) := (Below.refl _ w).alloc (Nat.le_refl _) _
  have HBA := Lib.hid hba
  have HX : Hid ((w.alloc (.cells #[.int .i64 ad, .int .i64 rg, .bool hd, .bool pn] 93)).heap[w.heap.size]? = some (.cells #[.int .i64 ad, .int .i64 rg, .bool hd, .bool pn] 93 (0, 0))) := heap_alloc_new w _
  obtain ⟨xb, hxb⟩ : ∃ xb, xb = w.heap.size := ⟨_, rfl⟩
  have hcc := (h.below hba).cells
  have HCC : Hid (_ ∧ A.c ≠ vb) := ⟨hcc.1, fun e => hn.1 (e ▸ hcc.2.2.2)⟩
  have HCB : Hid (_ ∧ cb ≠ vb) := ⟨(hba.block cb (block_lt hcb)).trans hcb, hn.2.1⟩
  have HPB : Hid (_ ∧ pb ≠ vb) := ⟨(hba.block pb (block_lt hpb)).trans hpb, hn.2.2⟩
  have HVB := Lib.hid ((hba.block vb (block_lt hvb)).trans hvb)
  have HXV : Hid (xb ≠ vb) := fun e => by have := block_lt hvb; omega
  rw [← hxb] at HX
  clear h ho hp href hba hcb hpb hvb hn hv hc hcc hlk hlw
  go_enter Tryz.func50, Tryz.ntmps50
  go_wp2_with fail
  rw [← hxb]
  clear hxb
  generalize w.alloc (.cells #[.int .i64 ad, .int .i64 rg, .bool hd, .bool pn] 93) = wa at *
  have HD : Hid (∀ W, Only (fun k => k = vb) wa W → W.cell? ⟨A.c, 2, none⟩ = some (.pointer (some ⟨A.m, 0, none⟩)) ∧ W.cell? ⟨cb, 0, none⟩ = some (.pointer (some ⟨A.c, 0, none⟩)) ∧ W.cell? ⟨pb, 0, none⟩ = some (.int .i64 p) ∧ W.cell? ⟨xb, 0, none⟩ = some (.int .i64 ad)) := fun W hb => by
    have k1 := (hb.block A.c (block_lt HCC.out.1) HCC.out.2).trans HCC.out.1
    have k2 := (hb.block cb (block_lt HCB.out.1) HCB.out.2).trans HCB.out.1
    have k3 := (hb.block pb (block_lt HPB.out.1) HPB.out.2).trans HPB.out.1
    have k4 := (hb.block xb (block_lt HX.out) HXV.out).trans HX.out
    exact ⟨(cells_of_block k1 2).1, (cells_of_block k2 0).1, (cells_of_block k3 0).1, (cells_of_block k4 0).1⟩
  refine wp_region_held_drew (S := Only (fun k => k = vb) wa) (by kernel_rfl) (Only.refl _ wa).drew (fun hH => ?_)
  refine tk 0 (v := ?_) rfl ?_ ?_; rotate_left; · intro W hW; obtain ⟨d0, d1, d2, d3⟩ := HD.out W hW; go_simp; try with_reducible rfl
  refine tk 1 (v := ?_) rfl ?_ ?_; rotate_left; · intro W hW; obtain ⟨d0, d1, d2, d3⟩ := HD.out W hW; go_simp; try with_reducible rfl
  refine tk 2 (v := ?_) rfl ?_ ?_; rotate_left; · intro W hW; obtain ⟨d0, d1, d2, d3⟩ := HD.out W hW; go_simp; try with_reducible rfl
  refine tk 3 (v := ?_) rfl ?_ ?_; rotate_left; · intro W hW; obtain ⟨d0, d1, d2, d3⟩ := HD.out W hW; go_simp; try with_reducible rfl
  refine tk 4 (v := ?_) rfl ?_ ?_; rotate_left; · intro W hW; obtain ⟨d0, d1, d2, d3⟩ := HD.out W hW; go_simp; try with_reducible rfl
  refine tk 5 (v := ?_) rfl ?_ ?_; rotate_left; · intro W hW; obtain ⟨d0, d1, d2, d3⟩ := HD.out W hW; go_simp; try with_reducible rfl
  refine tk 6 (v := ?_) rfl ?_ ?_; rotate_left; · intro W hW; obtain ⟨d0, d1, d2, d3⟩ := HD.out W hW; go_simp; try with_reducible rfl
  refine rd 7 rfl (fun K hK => ?_)
  go_simp
  refine (HLD.out _ HBA.out.drew).mono ?_
  rintro e w3 ⟨rfl, hb3⟩
  have HB3 : Hid (Below wa.heap.size wa w3) := (Below.refl _ wa).drew.trans hb3
  have HV3 := Lib.hid ((HB3.out.block vb (block_lt HVB.out)).trans HVB.out)
  refine hK.out _ _ (Only.of_below HB3.out _) (fun hH => ?_)
  clear hK K hb3
  refine tk 8 (v := ?_) rfl ?_ ?_; rotate_left; · intro W hW; go_simp; try with_reducible rfl
  refine tk 9 (v := ?_) rfl ?_ ?_; rotate_left; · intro W hW; go_simp; try with_reducible rfl
  refine tk 10 (v := ?_) rfl ?_ ?_; rotate_left; · intro W hW; go_simp; try with_reducible rfl
  have v0 := cells_of_block HV3.out 0
  have v1 := cells_of_block HV3.out 1
  have v2 := cells_of_block HV3.out 2
  simp at v0 v1 v2
  obtain ⟨v0, f0⟩ := v0
  obtain ⟨v1, f1⟩ := v1
  obtain ⟨v2, f2⟩ := v2
  refine rd 11 rfl (fun K hK => ?_)
  go_simp
  have HO4 : Hid (Only (fun k => k = vb) wa (((w3.setCell ⟨vb, 0, none⟩ (.int .i64 lk)).setCell ⟨vb, 1, none⟩ (.int .i64 li)).setCell ⟨vb, 2, none⟩ (.int .i64 lg))) := (((Only.of_below HB3.out (fun k => k = vb)).setCell (p := ⟨vb, 0, none⟩) (Or.inl rfl) _).setCell (p := ⟨vb, 1, none⟩) (Or.inl rfl) _).setCell (p := ⟨vb, 2, none⟩) (Or.inl rfl) _
  refine hK.out _ _ HO4.out (fun hH => ?_)
  clear hK K v0 f0 v1 f1 v2 f2
  have HV4 : Hid ((((w3.setCell ⟨vb, 0, none⟩ (.int .i64 lk)).setCell ⟨vb, 1, none⟩ (.int .i64 li)).setCell ⟨vb, 2, none⟩ (.int .i64 lg)).heap[vb]? = some (.cells #[.int .i64 lk, .int .i64 li, .int .i64 lg] 69 (0, 0))) := by show _ = _; simpa using block_setCell (block_setCell (block_setCell HV3.out 0 (.int .i64 lk)) 1 (.int .i64 li)) 2 (.int .i64 lg)
  generalize ((w3.setCell ⟨vb, 0, none⟩ (.int .i64 lk)).setCell ⟨vb, 1, none⟩ (.int .i64 li)).setCell ⟨vb, 2, none⟩ (.int .i64 lg) = w4 at *
  refine tk 12 (v := ?_) rfl ?_ ?_; rotate_left; · intro W hW; go_simp; try with_reducible rfl
  refine wpAnyH_done (by kernel_rfl) ?_ _
  go_wp2_with fail
  go_ret
  exact ⟨rfl, HV4.out, (Only.of_below HBA.out _).trans HO4.out (fun k hk => Or.inl hk)⟩
set_option maxRecDepth 100000 in
set_option maxHeartbeats 1000000 in
theorem clook_any {x : Sl} {i count p : Nat} (o : Option (Nat × Nat)) (w : World) (h : HeapF w F A S) (ho : ObjOk S i x count) (hh : x.held = true) (hp : p < S.L.size count) (href : isRefN S.L p = true) (hlk : LkOk o) (hlw : S.ws.getD (x.addr + 1 + p) 0 = lkN o) :
    Calls Tryz.prog 23 #[.pointer (some ⟨A.c, 0, none⟩), .agg #[.int .i64 i, .int .i64 x.gen], .int .i64 p] w fun e w' => e = .returned (.tuple #[lkV o, .int .i64 0]) ∧ Below w.heap.size w w' := by
  have h4 := al5 w (.cells #[.pointer (some ⟨A.c, 0, none⟩)] 27) (.cells #[.int .i64 i, .int .i64 x.gen] 38) (.cells #[.int .i64 p] 3) (.cells #[.int .i64 0, .int .i64 0, .int .i64 0] 69) (.cells #[.int .i64 0, .int .i64 0, .int .i64 0] 69)
  have HLT := Lib.hid h.lt
  have HW : Hid (∀ wa cb pb vb rb, Below w.heap.size w wa → w.heap.size ≤ vb → rb < vb → wa.heap[rb]? = some (.cells #[.int .i64 0, .int .i64 0, .int .i64 0] 69 (0, 0)) → cb ≠ vb → pb ≠ vb → wa.heap[cb]? = some (.cells #[.pointer (some ⟨A.c, 0, none⟩)] 27 (0, 0)) → wa.heap[pb]? = some (.cells #[.int .i64 p] 3 (0, 0)) → wa.heap[vb]? = some (.cells #[.int .i64 0, .int .i64 0, .int .i64 0] 69 (0, 0)) →
      Calls Tryz.prog 39 #[.pointer (some ⟨A.c, 0, none⟩), .agg #[.int .i64 i, .int .i64 x.gen], .func (.func 50) #[] #[.pointer (some ⟨cb, 0, none⟩), .pointer (some ⟨pb, 0, none⟩), .pointer (some ⟨vb, 0, none⟩)]] wa fun e w' => e = .returned (.int .i64 0) ∧ w'.heap[vb]? = some (.cells (lkC o) 69 (0, 0)) ∧ w'.heap[rb]? = some (.cells #[.int .i64 0, .int .i64 0, .int .i64 0] 69 (0, 0)) ∧ Below w.heap.size w w') := fun wa cb pb vb rb hba n1 n4 h4 n2 n3 h1 h2 h3 =>
    cwith_any _ _ (fun w' => w'.heap[vb]? = some (.cells (lkC o) 69 (0, 0)) ∧ w'.heap[rb]? = some (.cells #[.int .i64 0, .int .i64 0, .int .i64 0] 69 (0, 0)) ∧ Below w.heap.size w w') _ (h.below hba) ho.sl ho.used hh (enters_of Tryz.func50 (by kernel_rfl) rfl) (fun W hb => (clook1_any o cb pb vb W ((h.below hba).below hb) ho hp href hlk hlw ⟨fun hf => by have := h.lt vb hf; omega, n2, n3⟩ (seqAt_fields h1 hb) (seqAt_fields h2 hb) (seqAt_fields h3 hb)).mono fun e w' ⟨e1, e2, e3⟩ => ⟨e1, e2, (e3.block rb (block_lt (seqAt_fields h4 hb)) (by omega)).trans (seqAt_fields h4 hb), (hba.trans (hb.mono hba.size)).trans (e3.below (Nat.le_trans hba.size hb.size) (fun k hk => by rw [hk]; exact n1))⟩)
  have H4 := Lib.hid h4
  obtain ⟨lk, li, lg, hv, hc⟩ := lkC_is o
  rw [hc] at HW
  rw [hv]
  clear h4 h hp href ho hh hv hc hlk hlw
  go_enter Tryz.func23, Tryz.ntmps23
  go_wp2_with fail
  refine (HW.out _ _ _ _ _ H4.out.1 (by omega) (Nat.lt_succ_self _) H4.out.2.2.2.2.1 (by omega) (by omega) H4.out.2.1 H4.out.2.2.2.1 H4.out.2.2.2.2.2).mono ?_
  rintro e w2 ⟨rfl, h2, hr, hb⟩
  have HB := Lib.hid hb
  have H2 := Lib.hid h2
  have HR := Lib.hid hr
  obtain ⟨rb, hrb⟩ : ∃ rb, rb = w.heap.size + 1 + 1 + 1 := ⟨_, rfl⟩
  have HRE : Hid (w.heap.size ≤ rb) := by show _ ≤ _; omega
  rw [← hrb] at H2 HR ⊢
  clear hrb h2 hr hb
  have v0 := (cells_of_block H2.out 0).1
  have v1 := (cells_of_block H2.out 1).1
  have v2 := (cells_of_block H2.out 2).1
  simp at v0 v1 v2
  have r0 := cells_of_block HR.out 0
  have r1 := cells_of_block HR.out 1
  have r2 := cells_of_block HR.out 2
  simp at r0 r1 r2
  obtain ⟨r0, q0⟩ := r0
  obtain ⟨r1, q1⟩ := r1
  obtain ⟨r2, q2⟩ := r2
  go_wp2_with fail
  have e := HRE.out
  try simp only [Exit.inBlock, Exit.then]
  have hbk : (((w2.setCell ⟨rb, 0, none⟩ (.int .i64 lk)).setCell ⟨rb, 1, none⟩ (.int .i64 li)).setCell ⟨rb, 2, none⟩ (.int .i64 lg)).heap[rb]? = some (.cells #[.int .i64 lk, .int .i64 li, .int .i64 lg] 69 (0, 0)) := by
    simpa using block_setCell (block_setCell (block_setCell (HR.out) 0 (.int .i64 lk)) 1 (.int .i64 li)) 2 (.int .i64 lg)
  exact bodyPost_ret (results_blk rfl _ _ rb _ _ _ _ rfl hbk Tryz.underlying69 rfl rfl) rfl ⟨rfl, (((HB.out).setCell e _).setCell e _).setCell e _⟩
end Go.Proofs.YtcdpnfchmpncjaaGreatDoor
