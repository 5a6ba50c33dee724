/-
  Parts of the proof, one behind the other: KCell6, KCell7.
-/
import Derived.Test.YtcdpnfchmpncjaaGreatDoorMa30
set_option linter.unusedSimpArgs false
set_option linter.unusedVariables false
namespace Go.Proofs.YtcdpnfchmpncjaaGreatDoor
open Go.RowKit Go.Tr Go.Shelf
variable {w w' : World} {F G : Nat → Prop} {A : Ad} {S : HS}
set_option maxRecDepth 100000 in
set_option maxHeartbeats 1000000 in
theorem cTie_any {x y : Sl} {i j count p : Nat} (o : Option (Nat × Nat)) (w : World) (h : HeapF w F A S) (ho : ObjOk S i x count) (hh : x.held = true) (hxr : x.region = 1) (hy : S.sl[j]? = some y) (hyu : y.used = true) (hyh : y.held = true) (hyr : y.region = 1) (hp : p < S.L.size count) (href : isRefN S.L p = true) (h1 : j < 4096) (h2 : 1 ≤ y.gen) (h3 : y.gen ≤ 255) (hlk : LkOk o) (hlw : S.ws.getD (x.addr + 1 + p) 0 = lkN o) :
    Calls Tryz.prog 20 #[.pointer (some ⟨A.c, 0, none⟩), .agg #[.int .i64 i, .int .i64 x.gen], .int .i64 p, .agg #[.int .i64 j, .int .i64 y.gen]] w fun e w' => e = .returned (.int .i64 0) ∧ HeapF w' (grow F w w') A { S with ws := S.ws.set (x.addr + 1 + p) (linkN j y.gen) } ∧ Only F w w' := by
  have h4 := al2 w (.cells #[.int .i64 i, .int .i64 x.gen] 38) (.cells #[.int .i64 j, .int .i64 y.gen] 38)
  have HLT := Lib.hid h.lt
  obtain ⟨S', hS'⟩ : ∃ S', S' = { S with ws := S.ws.set (x.addr + 1 + p) (linkN j y.gen) } := ⟨_, rfl⟩
  rw [← hS']
  have HLK := Lib.hid (fun W (hb : Below w.heap.size w W) => clook_any o W (h.below hb) ho hh hp href hlk hlw)
  have HV := Lib.hid (fun W (hb : Below w.heap.size w W) => cvalid_any W (h.below hb) hy hyu hyh)
  have HT : Hid (∀ W, Below w.heap.size w W → Calls Tryz.prog 47 #[.pointer (some ⟨A.c, 0, none⟩), .agg #[.int .i64 i, .int .i64 x.gen], .int .i64 p, .agg #[.int .i64 2, .int .i64 j, .int .i64 y.gen]] W fun e w' => e = .returned (.int .i64 0) ∧ HeapF w' (grow F w w') A S' ∧ Only F w w') := fun W hb =>
    (ctie_any W (h.below hb) ho hh hxr hy hyu hyr hp href h1 h2 h3).mono fun e w' ⟨e1, e2, e3⟩ => ⟨e1, by rw [hS']; exact Run.fin (Run.op (Run.below (Run.start h) hb) ⟨e2, e3⟩) h.lt⟩
  have HB := Lib.hid h4.1
  have HTB := Lib.hid h4.2.1
  have HUB := Lib.hid h4.2.2
  obtain ⟨lk, li, lg, hv, -⟩ := lkC_is o
  rw [hv] at HLK
  obtain ⟨gn, ug, ad, rg, hd, pn⟩ := x
  obtain ⟨yg, yu, ya, yr, yh, yp⟩ := y
  simp only [entryV] at HB HTB HUB HT HV HLK ⊢
  obtain ⟨ub, hub⟩ : ∃ ub, ub = w.heap.size + 1 := ⟨_, rfl⟩
  obtain ⟨tb, htb⟩ : ∃ tb, tb = w.heap.size := ⟨_, rfl⟩
  rw [← htb] at HTB
  rw [← hub] at HUB
  clear h4 h hp href hh ho hS' hy hyu hyr hxr h1 h2 h3 hlk hlw hyh hv
  go_enter Tryz.func20, Tryz.ntmps20
  go_wp2_with fail
  rw [← hub, ← htb]
  clear hub htb
  generalize (w.alloc (.cells #[.int .i64 i, .int .i64 gn] 38)).alloc (.cells #[.int .i64 j, .int .i64 yg] 38) = wa at *
  refine (HLK.out wa HB.out).mono ?_
  rintro e w1 ⟨rfl, hb1⟩
  have hb1' : Below wa.heap.size wa (w1.alloc (.cells #[.int .i64 lk, .int .i64 li, .int .i64 lg] 69)) := hb1.alloc hb1.size _
  have HB1 : Hid (Below w.heap.size w (w1.alloc (.cells #[.int .i64 lk, .int .i64 li, .int .i64 lg] 69))) := HB.out.trans (hb1'.mono HB.out.size)
  have HU1 := Lib.hid (seqAt_fields HUB.out hb1')
  have HT1 := Lib.hid (seqAt_fields HTB.out hb1')
  have u0 := (cells_of_block HU1.out 0).1
  have u1 := (cells_of_block HU1.out 1).1
  simp at u0 u1
  clear hb1 hb1'
  go_wp2_with fail
  clear u0 u1
  generalize w1.alloc (.cells #[.int .i64 lk, .int .i64 li, .int .i64 lg] 69) = wb at *
  refine (HV.out wb HB1.out).mono ?_
  rintro e w2 ⟨rfl, hb2⟩
  have hb2' : Below wb.heap.size wb (w2.alloc (.cells #[.int .i64 ya, .int .i64 yr, .bool yh, .bool yp] 93)) := hb2.alloc hb2.size _
  have HB2 : Hid (Below w.heap.size w (w2.alloc (.cells #[.int .i64 ya, .int .i64 yr, .bool yh, .bool yp] 93))) := HB1.out.trans (hb2'.mono HB1.out.size)
  have HU2 := Lib.hid (seqAt_fields HU1.out hb2')
  have HT2 := Lib.hid (seqAt_fields HT1.out hb2')
  have u0 := (cells_of_block HU2.out 0).1
  have u1 := (cells_of_block HU2.out 1).1
  simp at u0 u1
  have t0 := (cells_of_block HT2.out 0).1
  have t1 := (cells_of_block HT2.out 1).1
  simp at t0 t1
  clear hb2 hb2'
  go_wp2_with fail
  refine (HT.out _ HB2.out).mono ?_
  rintro e w3 ⟨rfl, h3⟩
  have H3 := Lib.hid h3
  clear h3 u0 u1 t0 t1
  go_wp2
  go_ret
  exact ⟨rfl, H3.out⟩
set_option maxRecDepth 100000 in
set_option maxHeartbeats 1000000 in
theorem cref0_any {x : Sl} {i count p : Nat} (w : World) (h : HeapF w F A S) (ho : ObjOk S i x count) (hh : x.held = true) (hp : p < S.L.size count) (href : isRefN S.L p = true) (hlw : S.ws.getD (x.addr + 1 + p) 0 = lkN none) :
    Calls Tryz.prog 62 #[.pointer (some ⟨A.c, 0, none⟩), .agg #[.int .i64 i, .int .i64 x.gen], .int .i64 p] w fun e w' => e = .returned (.tuple #[linkV 0 0 0, .int .i64 0]) ∧ Below w.heap.size w w' := by
  have h4 := al2 w (.cells #[.int .i64 i, .int .i64 x.gen] 38) (.cells #[.int .i64 0, .int .i64 0, .int .i64 0] 69)
  have HLK := Lib.hid (fun W (hb : Below w.heap.size w W) => clook_any none W (h.below hb) ho hh hp href (fun i g e => by cases e) hlw)
  have HB := Lib.hid h4.1
  have HTB := Lib.hid h4.2.1
  have HRB := Lib.hid h4.2.2
  simp only [lkV, linkV] at HLK ⊢
  obtain ⟨gn, ug, ad, rg, hd, pn⟩ := x
  simp only at HB HTB HRB HLK ⊢
  obtain ⟨rb, hrb⟩ : ∃ rb, rb = w.heap.size + 1 := ⟨_, rfl⟩
  obtain ⟨tb, htb⟩ : ∃ tb, tb = w.heap.size := ⟨_, rfl⟩
  rw [← htb] at HTB
  rw [← hrb] at HRB
  have HRE : Hid (w.heap.size ≤ rb) := by show _ ≤ _; omega
  clear h4 h hp href hh ho hlw
  go_enter Tryz.func62, Tryz.ntmps62
  go_wp2_with fail
  rw [← hrb, ← htb]
  clear hrb htb
  generalize (w.alloc (.cells #[.int .i64 i, .int .i64 gn] 38)).alloc (.cells #[.int .i64 0, .int .i64 0, .int .i64 0] 69) = wa at *
  refine (HLK.out wa HB.out).mono ?_
  rintro e w1 ⟨rfl, hb1⟩
  have hb1' : Below wa.heap.size wa (w1.alloc (.cells #[.int .i64 0, .int .i64 0, .int .i64 0] 69)) := hb1.alloc hb1.size _
  have HB1 : Hid (Below w.heap.size w (w1.alloc (.cells #[.int .i64 0, .int .i64 0, .int .i64 0] 69))) := HB.out.trans (hb1'.mono HB.out.size)
  have HR1 := Lib.hid (seqAt_fields HRB.out hb1')
  have r0 := cells_of_block HR1.out 0
  have r1 := cells_of_block HR1.out 1
  have r2 := cells_of_block HR1.out 2
  simp at r0 r1 r2
  obtain ⟨r0, q0⟩ := r0
  obtain ⟨r1, q1⟩ := r1
  obtain ⟨r2, q2⟩ := r2
  clear hb1 hb1'
  go_wp2_with fail
  have e := HRE.out
  try simp only [Exit.inBlock, Exit.then]
  have hbk : ((((w1.alloc (.cells #[.int .i64 0, .int .i64 0, .int .i64 0] 69)).setCell ⟨rb, 0, none⟩ (.int .i64 0)).setCell ⟨rb, 1, none⟩ (.int .i64 0)).setCell ⟨rb, 2, none⟩ (.int .i64 0)).heap[rb]? = some (.cells #[.int .i64 0, .int .i64 0, .int .i64 0] 69 (0, 0)) := by
    simpa using block_setCell (block_setCell (block_setCell (HR1.out) 0 (.int .i64 0)) 1 (.int .i64 0)) 2 (.int .i64 0)
  exact bodyPost_ret (results_blk rfl _ _ rb _ _ _ _ rfl hbk Tryz.underlying69 rfl rfl) rfl ⟨rfl, (((HB1.out).setCell e _).setCell e _).setCell e _⟩
set_option maxRecDepth 100000 in
set_option maxHeartbeats 2000000 in
theorem cref2_any {x y : Sl} {i j count p : Nat} (w : World) (h : HeapF w F A S) (ho : ObjOk S i x count) (hh : x.held = true) (hp : p < S.L.size count) (href : isRefN S.L p = true) (hy : S.sl[j]? = some y) (hyu : y.used = true) (h1 : j < 4096) (h2 : 1 ≤ y.gen) (h3 : y.gen ≤ 255) (hlw : S.ws.getD (x.addr + 1 + p) 0 = linkN j y.gen) :
    Calls Tryz.prog 62 #[.pointer (some ⟨A.c, 0, none⟩), .agg #[.int .i64 i, .int .i64 x.gen], .int .i64 p] w fun e w' => e = .returned (.tuple #[linkV 2 j y.gen, .int .i64 0]) ∧ HeapF w' (grow F w w') A { S with sl := S.sl.set j ⟨y.gen, y.used, y.addr, y.region, true, y.pinned⟩ } ∧ Only F w w' := by
  have h4 := al2 w (.cells #[.int .i64 i, .int .i64 x.gen] 38) (.cells #[.int .i64 0, .int .i64 0, .int .i64 0] 69)
  have HLK := Lib.hid (fun W (hb : Below w.heap.size w W) => clook_any (some (j, y.gen)) W (h.below hb) ho hh hp href (fun a b e => by cases e; exact ⟨h1, h2, h3⟩) hlw)
  have HG := Lib.hid (fun W (hb : Below w.heap.size w W) => h.get hy hyu hb)
  have HF := Lib.hid (fun W (hb : Below w.heap.size w W) => h.fields hb)
  have HRUN := Lib.hid (Run.start h)
  have HLT := Lib.hid h.lt
  have HSET := Lib.hid (fun W (hr : HeapF W F A S) => hr.set hy hyu y.addr y.region true y.pinned)
  obtain ⟨S', hS'⟩ : ∃ S', S' = { S with sl := S.sl.set j ⟨y.gen, y.used, y.addr, y.region, true, y.pinned⟩ } := ⟨_, rfl⟩
  rw [← hS'] at HSET ⊢
  have HB := Lib.hid h4.1
  have HTB := Lib.hid h4.2.1
  have HRB := Lib.hid h4.2.2
  obtain ⟨gn, ug, ad, rg, hd, pn⟩ := x
  obtain ⟨yg, yu, ya, yr, yh, yp⟩ := y
  simp only [lkV, linkV, entryV] at HB HTB HRB HLK HG HSET ⊢
  obtain ⟨rb, hrb⟩ : ∃ rb, rb = w.heap.size + 1 := ⟨_, rfl⟩
  obtain ⟨tb, htb⟩ : ∃ tb, tb = w.heap.size := ⟨_, rfl⟩
  rw [← htb] at HTB
  rw [← hrb] at HRB
  have HRE : Hid (w.heap.size ≤ rb) := by show _ ≤ _; omega
  clear h4 h hp href hh ho hlw hy hyu h1 h2 h3 hS'
  go_enter Tryz.func62, Tryz.ntmps62
  go_wp2_with fail
  rw [← hrb, ← htb]
  clear hrb htb
  generalize (w.alloc (.cells #[.int .i64 i, .int .i64 gn] 38)).alloc (.cells #[.int .i64 0, .int .i64 0, .int .i64 0] 69) = wa at *
  refine (HLK.out wa HB.out).mono ?_
  rintro e w1 ⟨rfl, hb1⟩
  have hb1' : Below wa.heap.size wa (w1.alloc (.cells #[.int .i64 2, .int .i64 j, .int .i64 yg] 69)) := hb1.alloc hb1.size _
  have HB1 : Hid (Below w.heap.size w (w1.alloc (.cells #[.int .i64 2, .int .i64 j, .int .i64 yg] 69))) := HB.out.trans (hb1'.mono HB.out.size)
  have HR1 := Lib.hid (seqAt_fields HRB.out hb1')
  have HL1 : Hid ((w1.alloc (.cells #[.int .i64 2, .int .i64 j, .int .i64 yg] 69)).heap[w1.heap.size]? = some (.cells #[.int .i64 2, .int .i64 j, .int .i64 yg] 69 (0, 0))) := heap_alloc_new w1 _
  have HLE : Hid (w.heap.size ≤ w1.heap.size) := Nat.le_trans HB.out.size hb1.size
  clear hb1 hb1'
  obtain ⟨lb, hlb⟩ : ∃ lb, lb = w1.heap.size := ⟨_, rfl⟩
  rw [← hlb] at HL1 HLE
  go_wp2_with fail
  rw [← hlb]
  clear hlb
  generalize w1.alloc (.cells #[.int .i64 2, .int .i64 j, .int .i64 yg] 69) = w3 at *
  obtain ⟨n2, hn2⟩ : ∃ n, n = w3.heap.size := ⟨_, rfl⟩
  have HN2 : Hid (n2 = w3.heap.size) := hn2
  have HW : Hid (∀ W, Below n2 w3 W → Below w.heap.size w W) := fun W hb => by rw [hn2] at hb; exact HB1.out.trans (hb.mono HB1.out.size)
  clear hn2
  have HD : Hid (∀ W, Below n2 w3 W → W.cell? ⟨A.c, 3, none⟩ = some (.pointer (some ⟨A.t, 0, none⟩)) ∧ W.cell? ⟨lb, 1, none⟩ = some (.int .i64 j) ∧ W.cell? ⟨lb, 2, none⟩ = some (.int .i64 yg)) := fun W hb => by
    have ht := (hb.block lb (by rw [HN2.out]; exact block_lt HL1.out)).trans HL1.out
    exact ⟨(HF.out W (HW.out W hb)).2.2.2.1, (cells_of_block ht 1).1, (cells_of_block ht 2).1⟩
  refine wp_region_held_drew (S := Below n2 w3) (by kernel_rfl) (Below.refl n2 w3).drew (fun hH => ?_)
  refine tk 0 (v := ?_) rfl ?_ ?_; rotate_left; · intro W hW; go_simp; try with_reducible rfl
  refine tk 1 (v := ?_) rfl ?_ ?_; rotate_left; · intro W hW; go_simp; try with_reducible rfl
  refine tk 2 (v := ?_) rfl ?_ ?_; rotate_left; · intro W hW; go_simp; try with_reducible rfl
  refine tk 3 (v := ?_) rfl ?_ ?_; rotate_left; · intro W hW; obtain ⟨d3, e0, e1⟩ := HD.out W hW; go_simp; try with_reducible rfl
  refine tk 4 (v := ?_) rfl ?_ ?_; rotate_left; · intro W hW; obtain ⟨d3, e0, e1⟩ := HD.out W hW; go_simp; try with_reducible rfl
  refine tk 5 (v := ?_) rfl ?_ ?_; rotate_left; · intro W hW; obtain ⟨d3, e0, e1⟩ := HD.out W hW; go_simp; try with_reducible rfl
  refine rd2 6 10 rfl rfl (fun K hK => ?_) (fun K hK => ?_)
  focus
    go_simp
    refine (HG.out _ (HW.out _ hH)).mono ?_
    rintro e w4 ⟨rfl, hb3⟩
    have HB3 : Hid (Below n2 w3 w4) := hH.trans (hb3.mono (by rw [HN2.out]; exact hH.size))
    refine hK.out _ _ HB3.out (fun hH => ?_)
    clear hK K hb3
    refine tk 7 (v := ?_) rfl ?_ ?_; rotate_left; · intro W hW; go_simp; try with_reducible rfl
    refine tk 8 (v := ?_) rfl ?_ ?_; rotate_left; · intro W hW; go_simp; try with_reducible rfl
    refine tk 9 (v := ?_) rfl ?_ ?_; rotate_left; · intro W hW; go_simp; try with_reducible rfl
    refine rd 10 rfl (fun K hK => ?_)
    go_simp
    have HB4 : Hid (Below n2 w3 (w4.alloc (.cells #[.int .i64 ya, .int .i64 yr, .bool yh, .bool yp] 93))) := HB3.out.alloc (by rw [HN2.out]; exact HB3.out.size) _
    refine hK.out _ _ (HB3.out.alloc (by rw [HN2.out]; exact HB3.out.size) _) (fun hH => ?_)
    clear hK K
    refine rd 11 rfl (fun K hK => ?_)
    go_simp
    refine hK.out _ _ HB4.out (fun hH => ?_)
    clear hK K
    obtain ⟨xb, hxb⟩ : ∃ xb, xb = w4.heap.size := ⟨_, rfl⟩
    have HX : Hid ((w4.alloc (.cells #[.int .i64 ya, .int .i64 yr, .bool yh, .bool yp] 93)).heap[xb]? = some (.cells #[.int .i64 ya, .int .i64 yr, .bool yh, .bool yp] 93 (0, 0))) := by rw [hxb]; exact heap_alloc_new w4 _
    have HXE : Hid (n2 ≤ xb) := by show _ ≤ _; rw [hxb, HN2.out]; exact HB3.out.size
    rw [← hxb]
    clear hxb
    generalize w4.alloc (.cells #[.int .i64 ya, .int .i64 yr, .bool yh, .bool yp] 93) = w5 at *
  rotate_left
  focus
    go_simp
    have hb3 : Below n2 w3 (w3.alloc (.cells #[.int .i64 0, .int .i64 0, .bool false, .bool false] 93)).drew := ((Below.refl n2 w3).alloc (Nat.le_of_eq HN2.out) _).drew
    refine hK.out _ _ hb3 (fun hH => ?_)
    clear hK K
    refine rd 6 rfl (fun K hK => ?_)
    go_simp
    refine (HG.out _ (HW.out _ hH)).mono ?_
    rintro e w4 ⟨rfl, hbc⟩
    have HB3 : Hid (Below n2 w3 w4) := hb3.trans (hbc.mono (by rw [HN2.out]; exact hb3.size))
    obtain ⟨xb, hxb⟩ : ∃ xb, xb = w3.heap.size := ⟨_, rfl⟩
    have HX3 : Hid (w4.heap[xb]? = some (.cells #[.int .i64 0, .int .i64 0, .bool false, .bool false] 93 (0, 0))) := by rw [hxb]; exact (hbc.block _ (by simp)).trans (heap_alloc_new w3 _)
    refine hK.out _ _ HB3.out (fun hH => ?_)
    rw [← hxb]
    have hxw : n2 ≤ xb := by rw [HN2.out]; exact Nat.le_of_eq hxb.symm
    have HXE : Hid (n2 ≤ xb) := hxw
    clear hK K hb3 hbc hxb
    refine tk 7 (v := ?_) rfl ?_ ?_; rotate_left; · intro W hW; go_simp; try with_reducible rfl
    refine tk 8 (v := ?_) rfl ?_ ?_; rotate_left; · intro W hW; go_simp; try with_reducible rfl
    refine tk 9 (v := ?_) rfl ?_ ?_; rotate_left; · intro W hW; go_simp; try with_reducible rfl
    have z0 := cells_of_block HX3.out 0
    have z1 := cells_of_block HX3.out 1
    have z2 := cells_of_block HX3.out 2
    have z3 := cells_of_block HX3.out 3
    simp at z0 z1 z2 z3
    obtain ⟨z0, f0⟩ := z0
    obtain ⟨z1, f1⟩ := z1
    obtain ⟨z2, f2⟩ := z2
    obtain ⟨z3, f3⟩ := z3
    refine rd 11 rfl (fun K hK => ?_)
    go_simp
    have HB4 : Hid (Below n2 w3 ((((w4.setCell ⟨xb, 0, none⟩ (.int .i64 ya)).setCell ⟨xb, 1, none⟩ (.int .i64 yr)).setCell ⟨xb, 2, none⟩ (.bool yh)).setCell ⟨xb, 3, none⟩ (.bool yp))) := ((((HB3.out).setCell hxw _).setCell hxw _).setCell hxw _).setCell hxw _
    refine hK.out _ _ HB4.out (fun hH => ?_)
    clear hK K hxw z0 f0 z1 f1 z2 f2 z3 f3
    have HX : Hid (((((w4.setCell ⟨xb, 0, none⟩ (.int .i64 ya)).setCell ⟨xb, 1, none⟩ (.int .i64 yr)).setCell ⟨xb, 2, none⟩ (.bool yh)).setCell ⟨xb, 3, none⟩ (.bool yp)).heap[xb]? = some (.cells #[.int .i64 ya, .int .i64 yr, .bool yh, .bool yp] 93 (0, 0))) := by
      show _ = _
      simpa using block_setCell (block_setCell (block_setCell (block_setCell (HX3.out) 0 (.int .i64 ya)) 1 (.int .i64 yr)) 2 (.bool yh)) 3 (.bool yp)
    generalize (((w4.setCell ⟨xb, 0, none⟩ (.int .i64 ya)).setCell ⟨xb, 1, none⟩ (.int .i64 yr)).setCell ⟨xb, 2, none⟩ (.bool yh)).setCell ⟨xb, 3, none⟩ (.bool yp) = w5 at *
    clear HX3
  all_goals
    refine tk 12 (v := ?_) rfl ?_ ?_; rotate_left; · intro W hW; go_simp; try with_reducible rfl
    refine wpAnyH_done (by kernel_rfl) ?_ _
    have HL5 := Lib.hid ((HB4.out.block lb (by rw [HN2.out]; exact block_lt HL1.out)).trans HL1.out)
    have HR5 := Lib.hid ((HB4.out.block rb (by rw [HN2.out]; exact block_lt HR1.out)).trans HR1.out)
    have HB5 := Lib.hid (HW.out _ HB4.out)
    have hxn : lb ≠ xb ∧ rb ≠ xb ∧ w.heap.size ≤ xb := by
      have e1 := HXE.out
      rw [HN2.out] at e1
      have e2 := block_lt HL1.out
      have e3 := block_lt HR1.out
      have e4 := HB1.out.size
      omega
    have x0 := cells_of_block HX.out 0
    have x1 := cells_of_block HX.out 1
    have x2 := cells_of_block HX.out 2
    have x3 := cells_of_block HX.out 3
    simp at x0 x1 x2 x3
    obtain ⟨x0, f0⟩ := x0
    obtain ⟨x1, f1⟩ := x1
    obtain ⟨x2, f2⟩ := x2
    obtain ⟨x3, f3⟩ := x3
    go_wp2_with fail
    have HB6 : Hid (Below w.heap.size w (w5.setCell ⟨xb, 2, none⟩ (.bool true))) := HB5.out.setCell hxn.2.2 _
    have HX6 : Hid ((w5.setCell ⟨xb, 2, none⟩ (.bool true)).heap[xb]? = some (.cells #[.int .i64 ya, .int .i64 yr, .bool true, .bool yp] 93 (0, 0))) := by show _ = _; simpa using block_setCell HX.out 2 (.bool true)
    have HL6 : Hid ((w5.setCell ⟨xb, 2, none⟩ (.bool true)).heap[lb]? = _) := (Below.heap_setCell _ _ _ _ hxn.1).trans HL5.out
    have HR6 : Hid ((w5.setCell ⟨xb, 2, none⟩ (.bool true)).heap[rb]? = _) := (Below.heap_setCell _ _ _ _ hxn.2.1).trans HR5.out
    clear x0 x1 x2 x3 f0 f1 f2 f3 hxn
    generalize w5.setCell ⟨xb, 2, none⟩ (.bool true) = w6 at *
    obtain ⟨-, -, -, c3, -⟩ := HF.out _ HB6.out
    have x0 := (cells_of_block HX6.out 0).1
    have x1 := (cells_of_block HX6.out 1).1
    have x2 := (cells_of_block HX6.out 2).1
    have x3 := (cells_of_block HX6.out 3).1
    simp at x0 x1 x2 x3
    have l0 := (cells_of_block HL6.out 0).1
    have l1 := (cells_of_block HL6.out 1).1
    have l2 := (cells_of_block HL6.out 2).1
    simp at l0 l1 l2
    go_still_tail 7, (by kernel_rfl)
    have hrun : Run w F w6.drew F A S := (HRUN.out.below HB6.out).below (Below.refl _ _).drew
    have HRN := Lib.hid hrun
    have HL7 : Hid (Bx w6.drew F lb (.cells #[.int .i64 2, .int .i64 j, .int .i64 yg] 69 (0, 0))) := ⟨fun hf => by have := HLT.out lb hf; have := HLE.out; omega, HL6.out⟩
    have HR7 : Hid (Bx w6.drew F rb (.cells #[.int .i64 0, .int .i64 0, .int .i64 0] 69 (0, 0))) := ⟨fun hf => by have := HLT.out rb hf; have := HRE.out; omega, HR6.out⟩
    change wpList _ _ _ _ _ w6.drew
    clear hrun c3 x0 x1 x2 x3 l0 l1 l2
    generalize w6.drew = wq at *
    go_wp2_with fail
    refine (HSET.out wq HRN.out.heap).mono ?_
    rintro e w7 ⟨rfl, h7⟩
    have HRN2 := Lib.hid (HRN.out.op h7)
    have HL8 := Lib.hid (HL7.out.op h7.2)
    have HR8 := Lib.hid (HR7.out.op h7.2)
    have HL9 := Lib.hid HL8.out.2
    have HR9 := Lib.hid HR8.out.2
    clear h7
    have l0 := (cells_of_block HL9.out 0).1
    have l1 := (cells_of_block HL9.out 1).1
    have l2 := (cells_of_block HL9.out 2).1
    simp at l0 l1 l2
    have r0 := cells_of_block HR9.out 0
    have r1 := cells_of_block HR9.out 1
    have r2 := cells_of_block HR9.out 2
    simp at r0 r1 r2
    obtain ⟨r0, q0⟩ := r0
    obtain ⟨r1, q1⟩ := r1
    obtain ⟨r2, q2⟩ := r2
    go_wp2_with fail
    have e := HRE.out
    have hn := HR8.out.1
    try simp only [Exit.inBlock, Exit.then]
    have hbk : (((w7.setCell ⟨rb, 0, none⟩ (.int .i64 2)).setCell ⟨rb, 1, none⟩ (.int .i64 j)).setCell ⟨rb, 2, none⟩ (.int .i64 yg)).heap[rb]? = some (.cells #[.int .i64 2, .int .i64 j, .int .i64 yg] 69 (0, 0)) := by
      simpa using block_setCell (block_setCell (block_setCell (HR9.out) 0 (.int .i64 2)) 1 (.int .i64 j)) 2 (.int .i64 yg)
    exact bodyPost_ret (results_blk rfl _ _ rb _ _ _ _ rfl hbk Tryz.underlying69 rfl rfl) rfl ⟨rfl, (((HRN2.out.loc e hn).loc e hn).loc e hn).fin HLT.out⟩
end Go.Proofs.YtcdpnfchmpncjaaGreatDoor
namespace Go.Proofs.YtcdpnfchmpncjaaGreatDoor
open Go.RowKit Go.Tr Go.Shelf
variable {w w' : World} {F G : Nat → Prop} {A : Ad} {S : HS}
theorem HeapF.setBag (h : HeapF w F A S) : ∃ G : Nat → Prop, Bag w A.bg G S.mine ∧ (∀ k, G k → F k) ∧ ∀ zs w', Bag w' A.bg (grow G w w') zs → Only G w w' → HeapF w' (grow F w w') A { S with mine := zs } ∧ Only F w w' := by
  obtain ⟨G, hG, h1, -, hb⟩ := h.1.part1 (pp_parts A S) 7
  refine ⟨G, h1, hG, fun zs w' ht ho => HeapF.put h.2 (hb (PP A { S with mine := zs }) w' (pp_parts _ _) (fun j hj => ?_) ht ho)⟩
  unfold PP
  split <;> first | rfl | exact absurd rfl hj
theorem HeapF.del (h : HeapF w F A S) (i : Nat) (hl : S.mine.length ≤ 1000000) : Calls Tryz.prog 114 #[.pointer (some ⟨A.bg, 0, none⟩), .int .i64 i] w fun e w' => e = .returned (.bool (hasL S.mine i)) ∧ HeapF w' (grow F w w') A { S with mine := outL S.mine i } ∧ Only F w w' := by
  obtain ⟨G, hb, hG, hput⟩ := h.setBag
  exact (bdelF_any i w hb hl).mono fun e w' ⟨e1, e2, e3⟩ => ⟨e1, hput _ w' e2 e3⟩
theorem HeapF.dropSlot (h : HeapF w F A S) {x : Sl} {i : Nat} (hx : S.sl[i]? = some x) (hu : x.used = true) (hg : x.gen < 255) : Calls Tryz.prog 115 #[.pointer (some ⟨A.t, 0, none⟩), .agg #[.int .i64 i, .int .i64 x.gen]] w fun e w' => e = .returned (.int .i64 0) ∧ HeapF w' (grow F w w') A { S with sl := S.sl.set i ⟨x.gen, false, 0, 0, false, false⟩ } ∧ Only F w w' := by
  obtain ⟨G, ht, hG, hput⟩ := h.setTable
  exact (tdrop_any w ht (fun k hk => h.lt k (hG k hk)) hx hu hg).mono fun e w' ⟨e1, e2, e3⟩ => ⟨e1, hput _ w' e2 e3⟩
theorem HeapF.forget (h : HeapF w F A S) (i : Nat) {W : World} (hb : Below w.heap.size w W) : Calls Tryz.prog 113 #[.pointer (some ⟨A.rm, 0, none⟩), .int .i64 i] W fun e w' => e = .returned (.int .i64 0) ∧ Below W.heap.size W w' := by
  obtain ⟨G, hr⟩ := (h.below hb).rem; exact rforget_any i W hr
theorem HeapF.lookMine (h : HeapF w F A S) {W : World} (hb : Below w.heap.size w W) : (Instr.lookup 54 (.map (some A.mn)) (.int .i64 1) false).run Tryz.prog W = .ok (.pointer (some ⟨A.bg, 0, none⟩)) W := by
  have := MapI.look (P := Tryz.prog) (h.below hb).cells.2.2.1 Tryz.underlying54 Tryz.underlying3 Tryz.zeroValue88 false 1
  rw [this]; rfl
theorem HeapF.lookSpace (h : HeapF w F A S) {W : World} (hb : Below w.heap.size w W) : (Instr.lookup 53 (.map (some A.sp)) (.int .i64 1) false).run Tryz.prog W = .ok (.pointer (some ⟨A.u, 0, none⟩)) W := by
  have := MapI.look (P := Tryz.prog) (h.below hb).cells.2.1 Tryz.underlying53 Tryz.underlying3 Tryz.zeroValue28 false 1
  rw [this]; rfl
set_option maxRecDepth 100000 in
set_option maxHeartbeats 1000000 in
theorem close_any {x : Sl} {i : Nat} (w : World) (h : HeapF w F A S) (hx : S.sl[i]? = some x) (hu : x.used = true) (hr : x.region = 1) (hg : x.gen < 255) (hl : S.mine.length ≤ 1000000) : Calls Tryz.prog 66 #[.pointer (some ⟨A.c, 0, none⟩), .int .i64 i] w fun e w' => e = .returned (.tuple #[]) ∧ HeapF w' (grow F w w') A { S with mine := outL S.mine i, sl := S.sl.set i ⟨x.gen, false, 0, 0, false, false⟩ } ∧ Only F w w' := by
  have HAT := Lib.hid (cat_any w h hx hu)
  have HSL := Lib.hid (fun W (hb : Below w.heap.size w W) => h.slot hx hu hb)
  have HFO := Lib.hid (fun W (hb : Below w.heap.size w W) => h.forget i hb)
  have HLM := Lib.hid (fun W (hb : Below w.heap.size w W) => h.lookMine hb)
  have HRUN := Lib.hid (Run.start h)
  have HLT := Lib.hid h.lt
  have HF := Lib.hid (fun W (hb : Below w.heap.size w W) => h.fields hb)
  have HDEL := Lib.hid (fun W (hr : HeapF W F A S) => hr.del i hl)
  obtain ⟨S1, hS1⟩ : ∃ S1, S1 = { S with mine := outL S.mine i } := ⟨_, rfl⟩
  have HDR := Lib.hid (fun W F1 (hr : HeapF W F1 A S1) => hr.dropSlot (x := x) (i := i) (by rw [hS1]; exact hx) hu hg)
  have HF1 := Lib.hid (fun W F1 (hr : HeapF W F1 A S1) => hr.fields (Below.refl _ _))
  obtain ⟨S2, hS2⟩ : ∃ S2, S2 = { S with mine := outL S.mine i, sl := S.sl.set i ⟨x.gen, false, 0, 0, false, false⟩ } := ⟨_, rfl⟩
  have he : { S1 with sl := S1.sl.set i ⟨x.gen, false, 0, 0, false, false⟩ } = S2 := by rw [hS2, hS1]
  rw [← hS1] at HDEL
  rw [he] at HDR
  rw [← hS2]
  clear he
  obtain ⟨gn, ug, ad, rg, hd, pn⟩ := x
  simp only [entryV] at HAT HSL HDR hr ⊢
  subst hr
  clear h hx hu hg hl hS1 hS2
  go_enter Tryz.func66, Tryz.ntmps66
  go_wp2_with fail
  refine HAT.out.mono ?_
  rintro e w1 ⟨rfl, hb1⟩
  have HB1 : Hid (Below w.heap.size w (w1.alloc (.cells #[.int .i64 ad, .int .i64 1, .bool hd, .bool pn] 93))) := hb1.alloc hb1.size _
  have HX1 : Hid ((w1.alloc (.cells #[.int .i64 ad, .int .i64 1, .bool hd, .bool pn] 93)).heap[w1.heap.size]? = some (.cells #[.int .i64 ad, .int .i64 1, .bool hd, .bool pn] 93 (0, 0))) := heap_alloc_new w1 _
  have HXE : Hid (w.heap.size ≤ w1.heap.size) := hb1.size
  obtain ⟨xb, hxb⟩ : ∃ xb, xb = w1.heap.size := ⟨_, rfl⟩
  rw [← hxb] at HX1 HXE
  obtain ⟨-, -, -, c3, -⟩ := HF.out _ HB1.out
  clear hb1
  go_wp2_with fail
  rw [← hxb]
  clear hxb c3
  generalize w1.alloc (.cells #[.int .i64 ad, .int .i64 1, .bool hd, .bool pn] 93) = wa at *
  refine (HSL.out wa HB1.out).mono ?_
  rintro e w2 ⟨rfl, hb2⟩
  have hb2' : Below wa.heap.size wa (w2.alloc (.cells #[.int .i64 i, .int .i64 gn] 38)) := hb2.alloc hb2.size _
  have HB2 : Hid (Below w.heap.size w (w2.alloc (.cells #[.int .i64 i, .int .i64 gn] 38))) := HB1.out.trans (hb2'.mono HB1.out.size)
  have HX2 := Lib.hid (seqAt_fields HX1.out hb2')
  have HT2 : Hid ((w2.alloc (.cells #[.int .i64 i, .int .i64 gn] 38)).heap[w2.heap.size]? = some (.cells #[.int .i64 i, .int .i64 gn] 38 (0, 0))) := heap_alloc_new w2 _
  have HTE : Hid (w.heap.size ≤ w2.heap.size) := Nat.le_trans HB1.out.size hb2.size
  obtain ⟨tb, htb⟩ : ∃ tb, tb = w2.heap.size := ⟨_, rfl⟩
  rw [← htb] at HT2 HTE
  obtain ⟨-, -, -, -, -, c5, -⟩ := HF.out _ HB2.out
  clear hb2 hb2'
  go_wp2_with fail
  rw [← htb]
  clear htb c5
  generalize w2.alloc (.cells #[.int .i64 i, .int .i64 gn] 38) = wb at *
  refine (HFO.out wb HB2.out).mono ?_
  rintro e w3 ⟨rfl, hb3⟩
  have HB3 : Hid (Below w.heap.size w w3) := HB2.out.trans (hb3.mono HB2.out.size)
  have HX3 := Lib.hid (seqAt_fields HX2.out hb3)
  have HT3 := Lib.hid (seqAt_fields HT2.out hb3)
  obtain ⟨-, -, -, -, -, -, -, c7⟩ := HF.out _ HB3.out
  have x0 := (cells_of_block HX3.out 0).1
  have x1 := (cells_of_block HX3.out 1).1
  have x2 := (cells_of_block HX3.out 2).1
  have x3 := (cells_of_block HX3.out 3).1
  simp at x0 x1 x2 x3
  clear hb3
  go_wp2_with fail
  go_still_tail 8, (by kernel_rfl)
  refine still_look (.tmp 34) (.tmp 36) 54 rfl _ _ _ rfl rfl (HLM.out _ HB3.out.drew) ?_
  repeat still_step
  refine wpStill_nil ?_
  have HRN := Lib.hid (HRUN.out.below HB3.out.drew)
  have HX4 : Hid (Bx w3.drew F xb (.cells #[.int .i64 ad, .int .i64 1, .bool hd, .bool pn] 93 (0, 0))) := ⟨fun hf => by have := HLT.out xb hf; have := HXE.out; omega, HX3.out⟩
  have HT4 : Hid (Bx w3.drew F tb (.cells #[.int .i64 i, .int .i64 gn] 38 (0, 0))) := ⟨fun hf => by have := HLT.out tb hf; have := HTE.out; omega, HT3.out⟩
  change wpList _ _ _ _ _ w3.drew
  clear c7 x0 x1 x2 x3
  generalize w3.drew = w4 at *
  go_wp2_with fail
  refine (HDEL.out w4 HRN.out.heap).mono ?_
  rintro e w5 ⟨rfl, h5⟩
  have HRN5 := Lib.hid (HRN.out.op h5)
  have HT5 := Lib.hid (HT4.out.op h5.2)
  have HT6 := Lib.hid HT5.out.2
  obtain ⟨F5, hF5⟩ : ∃ F5, F5 = grow F w4 w5 := ⟨_, rfl⟩
  rw [← hF5] at HRN5 HT5
  obtain ⟨-, -, -, c3, -⟩ := HF1.out _ _ HRN5.out.heap
  have t0 := (cells_of_block HT6.out 0).1
  have t1 := (cells_of_block HT6.out 1).1
  simp at t0 t1
  clear h5 hF5
  go_wp2_with fail
  go_still_tail 5, (by kernel_rfl)
  have HRN6 := Lib.hid (HRN5.out.below (Below.refl _ _).drew)
  change wpList _ _ _ _ _ w5.drew
  clear c3 t0 t1
  generalize w5.drew = w6 at *
  go_wp2_with fail
  refine (HDR.out w6 F5 HRN6.out.heap).mono ?_
  rintro e w7 ⟨rfl, h7⟩
  have HRN7 := Lib.hid (HRN6.out.op h7)
  clear h7
  go_wp2
  go_end0
  exact ⟨rfl, HRN7.out.fin HLT.out⟩
end Go.Proofs.YtcdpnfchmpncjaaGreatDoor
