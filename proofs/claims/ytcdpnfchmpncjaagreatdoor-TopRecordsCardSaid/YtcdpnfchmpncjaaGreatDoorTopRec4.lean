/-
  Parts of the proof, one behind the other: KCell5, KCell6, KCell7, KCell8, KCell9, KCell10, KEvac1, KEvac2, KEvac3, KEvac4, KEvac5, KEvac6, KEvac7, KGood, KDrop.
-/
import Derived.Test.YtcdpnfchmpncjaaGreatDoorTopRec3
set_option linter.unusedSimpArgs false
set_option linter.unusedVariables false
namespace Go.Proofs.YtcdpnfchmpncjaaGreatDoor
open Go.RowKit Go.Tr Go.Shelf
variable {w w' : World} {F G : Nat → Prop} {A : Ad} {S : HS}
theorem HeapF.load (h : HeapF w F A S) {x : Sl} {i count p : Nat} (ho : ObjOk S i x count) (hp : p < S.L.size count) (href : isRefN S.L p = false) {W : World} (hb : Below w.heap.size w W) :
    Calls Tryz.prog 103 #[.pointer (some ⟨A.m, 0, none⟩), .int .i64 x.addr, .int .i64 p] W fun e w' => e = .returned (.tuple #[.int .u64 (S.ws.getD (x.addr + 1 + p) 0 : Nat), .int .i64 0]) ∧ Below W.heap.size W w' := by
  obtain ⟨G, H, hi, -⟩ := (h.below hb).img
  obtain ⟨h1, h2⟩ := ho.word hp
  exact iload_any x.addr count i p W hi ho.obj hp href ho.big h1 h2
theorem HeapF.follow (h : HeapF w F A S) {x : Sl} {i count p : Nat} (o : Option (Nat × Nat)) (ho : ObjOk S i x count) (hp : p < S.L.size count) (href : isRefN S.L p = true) (hl : LkOk o) (hw : S.ws.getD (x.addr + 1 + p) 0 = lkN o) {W : World} (hb : Below w.heap.size w W) :
    Calls Tryz.prog 51 #[.pointer (some ⟨A.m, 0, none⟩), .int .i64 x.addr, .int .i64 p] W fun e w' => e = .returned (.tuple #[lkV o, .int .i64 0]) ∧ Below W.heap.size W w' := by
  obtain ⟨G, H, hi, -⟩ := (h.below hb).img
  obtain ⟨h1, h2⟩ := ho.word hp
  exact ifollow_any x.addr count i p o W hi ho.obj hp href ho.big h1 h2 hl hw
def lkC (o : Option (Nat × Nat)) : Array Value := match o with | none => #[.int .i64 0, .int .i64 0, .int .i64 0] | some (i, g) => #[.int .i64 2, .int .i64 (i : Nat), .int .i64 (g : Nat)]
theorem lkC_is (o : Option (Nat × Nat)) : ∃ k i g : Nat, lkV o = .agg #[.int .i64 k, .int .i64 i, .int .i64 g] ∧ lkC o = #[.int .i64 k, .int .i64 i, .int .i64 g] := by
  rcases o with _ | ⟨i, g⟩
  · exact ⟨0, 0, 0, rfl, rfl⟩
  · exact ⟨2, i, g, rfl, rfl⟩
set_option maxRecDepth 100000 in
set_option maxHeartbeats 1000000 in
theorem cget1_any {x : Sl} {i count p : Nat} (cb pb vb z : Nat) (w : World) (h : HeapF w F A S) (ho : ObjOk S i x count) (hp : p < S.L.size count) (href : isRefN S.L p = false) (hn : ¬ F vb ∧ cb ≠ vb ∧ pb ≠ vb)
    (hcb : w.heap[cb]? = some (.cells #[.pointer (some ⟨A.c, 0, none⟩)] 27 (0, 0))) (hpb : w.heap[pb]? = some (.cells #[.int .i64 p] 3 (0, 0))) (hvb : w.heap[vb]? = some (.cells #[.int .u64 z] 34 (0, 0))) :
    Calls Tryz.prog 102 #[entryV x, .pointer (some ⟨cb, 0, none⟩), .pointer (some ⟨pb, 0, none⟩), .pointer (some ⟨vb, 0, none⟩)] w fun e w' => e = .returned (.int .i64 0) ∧ w'.heap[vb]? = some (.cells #[.int .u64 (S.ws.getD (x.addr + 1 + p) 0 : Nat)] 34 (0, 0)) ∧ Only (fun k => k = vb) w w' := by
  have HLD := Lib.hid (fun W (hb : Below w.heap.size w W) => h.load ho hp href hb)
  obtain ⟨v, hv⟩ : ∃ v, v = S.ws.getD (x.addr + 1 + p) 0 := ⟨_, rfl⟩
  rw [← hv] at HLD ⊢
  obtain ⟨gn, ug, ad, rg, hd, pn⟩ := x
  simp only [entryV] at HLD ⊢
  have hba : Below w.heap.size w (w.alloc (.cells #[.int .i64 ad, .int .i64 rg, .bool hd, .bool pn] 93)) := (Below.refl _ w).alloc (Nat.le_refl _) _
  have HBA := Lib.hid hba
  have HX : Hid ((w.alloc (.cells #[.int .i64 ad, .int .i64 rg, .bool hd, .bool pn] 93)).heap[w.heap.size]? = some (.cells #[.int .i64 ad, .int .i64 rg, .bool hd, .bool pn] 93 (0, 0))) := heap_alloc_new w _
  obtain ⟨xb, hxb⟩ : ∃ xb, xb = w.heap.size := ⟨_, rfl⟩
  have hcc := (h.below hba).cells
  have HCC : Hid (_ ∧ A.c ≠ vb) := ⟨hcc.1, fun e => hn.1 (e ▸ hcc.2.2.2)⟩
  have HCB : Hid (_ ∧ cb ≠ vb) := ⟨(hba.block cb (block_lt hcb)).trans hcb, hn.2.1⟩
  have HPB : Hid (_ ∧ pb ≠ vb) := ⟨(hba.block pb (block_lt hpb)).trans hpb, hn.2.2⟩
  have HVB := Lib.hid ((hba.block vb (block_lt hvb)).trans hvb)
  have HXV : Hid (xb ≠ vb) := fun e => by have := block_lt hvb; omega
  rw [← hxb] at HX
  clear h ho hp href hba hcb hpb hvb hn hv hcc
  go_enter Tryz.func102, Tryz.ntmps102
  go_wp2_with fail
  rw [← hxb]
  clear hxb
  generalize w.alloc (.cells #[.int .i64 ad, .int .i64 rg, .bool hd, .bool pn] 93) = wa at *
  have HD : Hid (∀ W, Only (fun k => k = vb) wa W → W.cell? ⟨A.c, 2, none⟩ = some (.pointer (some ⟨A.m, 0, none⟩)) ∧ W.cell? ⟨cb, 0, none⟩ = some (.pointer (some ⟨A.c, 0, none⟩)) ∧ W.cell? ⟨pb, 0, none⟩ = some (.int .i64 p) ∧ W.cell? ⟨xb, 0, none⟩ = some (.int .i64 ad)) := fun W hb => by
    have k1 := (hb.block A.c (block_lt HCC.out.1) HCC.out.2).trans HCC.out.1
    have k2 := (hb.block cb (block_lt HCB.out.1) HCB.out.2).trans HCB.out.1
    have k3 := (hb.block pb (block_lt HPB.out.1) HPB.out.2).trans HPB.out.1
    have k4 := (hb.block xb (block_lt HX.out) HXV.out).trans HX.out
    exact ⟨(cells_of_block k1 2).1, (cells_of_block k2 0).1, (cells_of_block k3 0).1, (cells_of_block k4 0).1⟩
  refine wp_region_held_drew (S := Only (fun k => k = vb) wa) (by kernel_rfl) (Only.refl _ wa).drew (fun hH => ?_)
  refine tk 0 (v := ?_) rfl ?_ ?_; rotate_left; · intro W hW; obtain ⟨d0, d1, d2, d3⟩ := HD.out W hW; go_simp; try with_reducible rfl
  refine tk 1 (v := ?_) rfl ?_ ?_; rotate_left; · intro W hW; obtain ⟨d0, d1, d2, d3⟩ := HD.out W hW; go_simp; try with_reducible rfl
  refine tk 2 (v := ?_) rfl ?_ ?_; rotate_left; · intro W hW; obtain ⟨d0, d1, d2, d3⟩ := HD.out W hW; go_simp; try with_reducible rfl
  refine tk 3 (v := ?_) rfl ?_ ?_; rotate_left; · intro W hW; obtain ⟨d0, d1, d2, d3⟩ := HD.out W hW; go_simp; try with_reducible rfl
  refine tk 4 (v := ?_) rfl ?_ ?_; rotate_left; · intro W hW; obtain ⟨d0, d1, d2, d3⟩ := HD.out W hW; go_simp; try with_reducible rfl
  refine tk 5 (v := ?_) rfl ?_ ?_; rotate_left; · intro W hW; obtain ⟨d0, d1, d2, d3⟩ := HD.out W hW; go_simp; try with_reducible rfl
  refine tk 6 (v := ?_) rfl ?_ ?_; rotate_left; · intro W hW; obtain ⟨d0, d1, d2, d3⟩ := HD.out W hW; go_simp; try with_reducible rfl
  refine rd 7 rfl (fun K hK => ?_)
  go_simp
  refine (HLD.out _ HBA.out.drew).mono ?_
  rintro e w3 ⟨rfl, hb3⟩
  have HB3 : Hid (Below wa.heap.size wa w3) := (Below.refl _ wa).drew.trans hb3
  have HV3 := Lib.hid ((HB3.out.block vb (block_lt HVB.out)).trans HVB.out)
  refine hK.out _ _ (Only.of_below HB3.out _) (fun hH => ?_)
  clear hK K hb3
  refine tk 8 (v := ?_) rfl ?_ ?_; rotate_left; · intro W hW; go_simp; try with_reducible rfl
  refine tk 9 (v := ?_) rfl ?_ ?_; rotate_left; · intro W hW; go_simp; try with_reducible rfl
  refine tk 10 (v := ?_) rfl ?_ ?_; rotate_left; · intro W hW; go_simp; try with_reducible rfl
  have v0 := cells_of_block HV3.out 0
  simp at v0
  obtain ⟨v0, f0⟩ := v0
  refine rd 11 rfl (fun K hK => ?_)
  go_simp
  have HO4 : Hid (Only (fun k => k = vb) wa (w3.setCell ⟨vb, 0, none⟩ (.int .u64 v))) := (Only.of_below HB3.out (fun k => k = vb)).setCell (p := ⟨vb, 0, none⟩) (Or.inl rfl) _
  refine hK.out _ _ HO4.out (fun hH => ?_)
  clear hK K v0 f0
  have HV4 : Hid ((w3.setCell ⟨vb, 0, none⟩ (.int .u64 v)).heap[vb]? = some (.cells #[.int .u64 v] 34 (0, 0))) := by show _ = _; simpa using block_setCell HV3.out 0 (.int .u64 v)
  generalize w3.setCell ⟨vb, 0, none⟩ (.int .u64 v) = w4 at *
  refine tk 12 (v := ?_) rfl ?_ ?_; rotate_left; · intro W hW; go_simp; try with_reducible rfl
  refine wpAnyH_done (by kernel_rfl) ?_ _
  go_wp2_with fail
  go_ret
  exact ⟨rfl, HV4.out, (Only.of_below HBA.out _).trans HO4.out (fun k hk => Or.inl hk)⟩
set_option maxRecDepth 100000 in
set_option maxHeartbeats 1000000 in
theorem cget_any {x : Sl} {i count p : Nat} (w : World) (h : HeapF w F A S) (ho : ObjOk S i x count) (hh : x.held = true) (hp : p < S.L.size count) (href : isRefN S.L p = false) :
    Calls Tryz.prog 52 #[.pointer (some ⟨A.c, 0, none⟩), .agg #[.int .i64 i, .int .i64 x.gen], .int .i64 p] w fun e w' => e = .returned (.tuple #[.int .u64 (S.ws.getD (x.addr + 1 + p) 0 : Nat), .int .i64 0]) ∧ Below w.heap.size w w' := by
  have h4 := al4 w (.cells #[.pointer (some ⟨A.c, 0, none⟩)] 27) (.cells #[.int .i64 i, .int .i64 x.gen] 38) (.cells #[.int .i64 p] 3) (.cells #[.int .u64 0] 34)
  have HLT := Lib.hid h.lt
  have HW : Hid (∀ wa cb pb vb, Below w.heap.size w wa → w.heap.size ≤ vb → cb ≠ vb → pb ≠ vb → wa.heap[cb]? = some (.cells #[.pointer (some ⟨A.c, 0, none⟩)] 27 (0, 0)) → wa.heap[pb]? = some (.cells #[.int .i64 p] 3 (0, 0)) → wa.heap[vb]? = some (.cells #[.int .u64 (0 : Nat)] 34 (0, 0)) →
      Calls Tryz.prog 39 #[.pointer (some ⟨A.c, 0, none⟩), .agg #[.int .i64 i, .int .i64 x.gen], .func (.func 102) #[] #[.pointer (some ⟨cb, 0, none⟩), .pointer (some ⟨pb, 0, none⟩), .pointer (some ⟨vb, 0, none⟩)]] wa fun e w' => e = .returned (.int .i64 0) ∧ w'.heap[vb]? = some (.cells #[.int .u64 (S.ws.getD (x.addr + 1 + p) 0 : Nat)] 34 (0, 0)) ∧ Below w.heap.size w w') := fun wa cb pb vb hba n1 n2 n3 h1 h2 h3 =>
    cwith_any _ _ (fun w' => w'.heap[vb]? = some (.cells #[.int .u64 (S.ws.getD (x.addr + 1 + p) 0 : Nat)] 34 (0, 0)) ∧ Below w.heap.size w w') _ (h.below hba) ho.sl ho.used hh (enters_of Tryz.func102 (by kernel_rfl) rfl) (fun W hb => (cget1_any cb pb vb 0 W ((h.below hba).below hb) ho hp href ⟨fun hf => by have := h.lt vb hf; omega, n2, n3⟩ (seqAt_fields h1 hb) (seqAt_fields h2 hb) (seqAt_fields h3 hb)).mono fun e w' ⟨e1, e2, e3⟩ => ⟨e1, e2, (hba.trans (hb.mono hba.size)).trans (e3.below (Nat.le_trans hba.size hb.size) (fun k hk => by rw [hk]; exact n1))⟩)
  have H4 := Lib.hid h4
  obtain ⟨v, hv⟩ : ∃ v, v = S.ws.getD (x.addr + 1 + p) 0 := ⟨_, rfl⟩
  rw [← hv] at HW ⊢
  clear h4 h hp href ho hh hv
  go_enter Tryz.func52, Tryz.ntmps52
  go_wp2_with fail
  refine (HW.out _ _ _ _ H4.out.1 (by omega) (by omega) (by omega) H4.out.2.1 H4.out.2.2.2.1 H4.out.2.2.2.2).mono ?_
  rintro e w2 ⟨rfl, h2, hb⟩
  have HB := Lib.hid hb
  have v0 := (cells_of_block h2 0).1
  simp at v0
  clear h2 hb
  go_wp2
  go_ret2
  exact ⟨rfl, HB.out⟩
set_option maxRecDepth 100000 in
set_option maxHeartbeats 1000000 in
theorem clook1_any {x : Sl} {i count p : Nat} (o : Option (Nat × Nat)) (cb pb vb : Nat) (w : World) (h : HeapF w F A S) (ho : ObjOk S i x count) (hp : p < S.L.size count) (href : isRefN S.L p = true) (hlk : LkOk o) (hlw : S.ws.getD (x.addr + 1 + p) 0 = lkN o) (hn : ¬ F vb ∧ cb ≠ vb ∧ pb ≠ vb)
    (hcb : w.heap[cb]? = some (.cells #[.pointer (some ⟨A.c, 0, none⟩)] 27 (0, 0))) (hpb : w.heap[pb]? = some (.cells #[.int .i64 p] 3 (0, 0))) (hvb : w.heap[vb]? = some (.cells #[.int .i64 0, .int .i64 0, .int .i64 0] 69 (0, 0))) :
    Calls Tryz.prog 50 #[entryV x, .pointer (some ⟨cb, 0, none⟩), .pointer (some ⟨pb, 0, none⟩), .pointer (some ⟨vb, 0, none⟩)] w fun e w' => e = .returned (.int .i64 0) ∧ w'.heap[vb]? = some (.cells (lkC o) 69 (0, 0)) ∧ Only (fun k => k = vb) w w' := by
  have HLD := Lib.hid (fun W (hb : Below w.heap.size w W) => h.follow o ho hp href hlk hlw hb)
  obtain ⟨lk, li, lg, hv, hc⟩ := lkC_is o
  rw [hv] at HLD
  rw [hc]
  obtain ⟨gn, ug, ad, rg, hd, pn⟩ := x
  simp only [entryV] at HLD ⊢
  have hba : Below w.heap.size w (w.alloc (.cells #[.int .i64 ad, .int .i64 rg, .bool hd, .bool pn] 93)) := (Below.refl _ w).alloc (Nat.le_refl _) _
  have HBA := Lib.hid hba
  have HX : Hid ((w.alloc (.cells #[.int .i64 ad, .int .i64 rg, .bool hd, .bool pn] 93)).heap[w.heap.size]? = some (.cells #[.int .i64 ad, .int .i64 rg, .bool hd, .bool pn] 93 (0, 0))) := heap_alloc_new w _
  obtain ⟨xb, hxb⟩ : ∃ xb, xb = w.heap.size := ⟨_, rfl⟩
  have hcc := (h.below hba).cells
  have HCC : Hid (_ ∧ A.c ≠ vb) := ⟨hcc.1, fun e => hn.1 (e ▸ hcc.2.2.2)⟩
  have HCB : Hid (_ ∧ cb ≠ vb) := ⟨(hba.block cb (block_lt hcb)).trans hcb, hn.2.1⟩
  have HPB : Hid (_ ∧ pb ≠ vb) := ⟨(hba.block pb (block_lt hpb)).trans hpb, hn.2.2⟩
  have HVB := Lib.hid ((hba.block vb (block_lt hvb)).trans hvb)
  have HXV : Hid (xb ≠ vb) := fun e => by have := block_lt hvb; omega
  rw [← hxb] at HX
  clear h ho hp href hba hcb hpb hvb hn hv hc hcc hlk hlw
  go_enter Tryz.func50, Tryz.ntmps50
  go_wp2_with fail
  rw [← hxb]
  clear hxb
  generalize w.alloc (.cells #[.int .i64 ad, .int .i64 rg, .bool hd, .bool pn] 93) = wa at *
  have HD : Hid (∀ W, Only (fun k => k = vb) wa W → W.cell? ⟨A.c, 2, none⟩ = some (.pointer (some ⟨A.m, 0, none⟩)) ∧ W.cell? ⟨cb, 0, none⟩ = some (.pointer (some ⟨A.c, 0, none⟩)) ∧ W.cell? ⟨pb, 0, none⟩ = some (.int .i64 p) ∧ W.cell? ⟨xb, 0, none⟩ = some (.int .i64 ad)) := fun W hb => by
    have k1 := (hb.block A.c (block_lt HCC.out.1) HCC.out.2).trans HCC.out.1
    have k2 := (hb.block cb (block_lt HCB.out.1) HCB.out.2).trans HCB.out.1
    have k3 := (hb.block pb (block_lt HPB.out.1) HPB.out.2).trans HPB.out.1
    have k4 := (hb.block xb (block_lt HX.out) HXV.out).trans HX.out
    exact ⟨(cells_of_block k1 2).1, (cells_of_block k2 0).1, (cells_of_block k3 0).1, (cells_of_block k4 0).1⟩
  refine wp_region_held_drew (S := Only (fun k => k = vb) wa) (by kernel_rfl) (Only.refl _ wa).drew (fun hH => ?_)
  refine tk 0 (v := ?_) rfl ?_ ?_; rotate_left; · intro W hW; obtain ⟨d0, d1, d2, d3⟩ := HD.out W hW; go_simp; try with_reducible rfl
  refine tk 1 (v := ?_) rfl ?_ ?_; rotate_left; · intro W hW; obtain ⟨d0, d1, d2, d3⟩ := HD.out W hW; go_simp; try with_reducible rfl
  refine tk 2 (v := ?_) rfl ?_ ?_; rotate_left; · intro W hW; obtain ⟨d0, d1, d2, d3⟩ := HD.out W hW; go_simp; try with_reducible rfl
  refine tk 3 (v := ?_) rfl ?_ ?_; rotate_left; · intro W hW; obtain ⟨d0, d1, d2, d3⟩ := HD.out W hW; go_simp; try with_reducible rfl
  refine tk 4 (v := ?_) rfl ?_ ?_; rotate_left; · intro W hW; obtain ⟨d0, d1, d2, d3⟩ := HD.out W hW; go_simp; try with_reducible rfl
  refine tk 5 (v := ?_) rfl ?_ ?_; rotate_left; · intro W hW; obtain ⟨d0, d1, d2, d3⟩ := HD.out W hW; go_simp; try with_reducible rfl
  refine tk 6 (v := ?_) rfl ?_ ?_; rotate_left; · intro W hW; obtain ⟨d0, d1, d2, d3⟩ := HD.out W hW; go_simp; try with_reducible rfl
  refine rd 7 rfl (fun K hK => ?_)
  go_simp
  refine (HLD.out _ HBA.out.drew).mono ?_
  rintro e w3 ⟨rfl, hb3⟩
  have HB3 : Hid (Below wa.heap.size wa w3) := (Below.refl _ wa).drew.trans hb3
  have HV3 := Lib.hid ((HB3.out.block vb (block_lt HVB.out)).trans HVB.out)
  refine hK.out _ _ (Only.of_below HB3.out _) (fun hH => ?_)
  clear hK K hb3
  refine tk 8 (v := ?_) rfl ?_ ?_; rotate_left; · intro W hW; go_simp; try with_reducible rfl
  refine tk 9 (v := ?_) rfl ?_ ?_; rotate_left; · intro W hW; go_simp; try with_reducible rfl
  refine tk 10 (v := ?_) rfl ?_ ?_; rotate_left; · intro W hW; go_simp; try with_reducible rfl
  have v0 := cells_of_block HV3.out 0
  have v1 := cells_of_block HV3.out 1
  have v2 := cells_of_block HV3.out 2
  simp at v0 v1 v2
  obtain ⟨v0, f0⟩ := v0
  obtain ⟨v1, f1⟩ := v1
  obtain ⟨v2, f2⟩ := v2
  refine rd 11 rfl (fun K hK => ?_)
  go_simp
  have HO4 : Hid (Only (fun k => k = vb) wa (((w3.setCell ⟨vb, 0, none⟩ (.int .i64 lk)).setCell ⟨vb, 1, none⟩ (.int .i64 li)).setCell ⟨vb, 2, none⟩ (.int .i64 lg))) := (((Only.of_below HB3.out (fun k => k = vb)).setCell (p := ⟨vb, 0, none⟩) (Or.inl rfl) _).setCell (p := ⟨vb, 1, none⟩) (Or.inl rfl) _).setCell (p := ⟨vb, 2, none⟩) (Or.inl rfl) _
  refine hK.out _ _ HO4.out (fun hH => ?_)
  clear hK K v0 f0 v1 f1 v2 f2
  have HV4 : Hid ((((w3.setCell ⟨vb, 0, none⟩ (.int .i64 lk)).setCell ⟨vb, 1, none⟩ (.int .i64 li)).setCell ⟨vb, 2, none⟩ (.int .i64 lg)).heap[vb]? = some (.cells #[.int .i64 lk, .int .i64 li, .int .i64 lg] 69 (0, 0))) := by show _ = _; simpa using block_setCell (block_setCell (block_setCell HV3.out 0 (.int .i64 lk)) 1 (.int .i64 li)) 2 (.int .i64 lg)
  generalize ((w3.setCell ⟨vb, 0, none⟩ (.int .i64 lk)).setCell ⟨vb, 1, none⟩ (.int .i64 li)).setCell ⟨vb, 2, none⟩ (.int .i64 lg) = w4 at *
  refine tk 12 (v := ?_) rfl ?_ ?_; rotate_left; · intro W hW; go_simp; try with_reducible rfl
  refine wpAnyH_done (by kernel_rfl) ?_ _
  go_wp2_with fail
  go_ret
  exact ⟨rfl, HV4.out, (Only.of_below HBA.out _).trans HO4.out (fun k hk => Or.inl hk)⟩
set_option maxRecDepth 100000 in
set_option maxHeartbeats 1000000 in
theorem clook_any {x : Sl} {i count p : Nat} (o : Option (Nat × Nat)) (w : World) (h : HeapF w F A S) (ho : ObjOk S i x count) (hh : x.held = true) (hp : p < S.L.size count) (href : isRefN S.L p = true) (hlk : LkOk o) (hlw : S.ws.getD (x.addr + 1 + p) 0 = lkN o) :
    Calls Tryz.prog 23 #[.pointer (some ⟨A.c, 0, none⟩), .agg #[.int .i64 i, .int .i64 x.gen], .int .i64 p] w fun e w' => e = .returned (.tuple #[lkV o, .int .i64 0]) ∧ Below w.heap.size w w' := by
  have h4 := al5 w (.cells #[.pointer (some ⟨A.c, 0, none⟩)] 27) (.cells #[.int .i64 i, .int .i64 x.gen] 38) (.cells #[.int .i64 p] 3) (.cells #[.int .i64 0, .int .i64 0, .int .i64 0] 69) (.cells #[.int .i64 0, .int .i64 0, .int .i64 0] 69)
  have HLT := Lib.hid h.lt
  have HW : Hid (∀ wa cb pb vb rb, Below w.heap.size w wa → w.heap.size ≤ vb → rb < vb → wa.heap[rb]? = some (.cells #[.int .i64 0, .int .i64 0, .int .i64 0] 69 (0, 0)) → cb ≠ vb → pb ≠ vb → wa.heap[cb]? = some (.cells #[.pointer (some ⟨A.c, 0, none⟩)] 27 (0, 0)) → wa.heap[pb]? = some (.cells #[.int .i64 p] 3 (0, 0)) → wa.heap[vb]? = some (.cells #[.int .i64 0, .int .i64 0, .int .i64 0] 69 (0, 0)) →
      Calls Tryz.prog 39 #[.pointer (some ⟨A.c, 0, none⟩), .agg #[.int .i64 i, .int .i64 x.gen], .func (.func 50) #[] #[.pointer (some ⟨cb, 0, none⟩), .pointer (some ⟨pb, 0, none⟩), .pointer (some ⟨vb, 0, none⟩)]] wa fun e w' => e = .returned (.int .i64 0) ∧ w'.heap[vb]? = some (.cells (lkC o) 69 (0, 0)) ∧ w'.heap[rb]? = some (.cells #[.int .i64 0, .int .i64 0, .int .i64 0] 69 (0, 0)) ∧ Below w.heap.size w w') := fun wa cb pb vb rb hba n1 n4 h4 n2 n3 h1 h2 h3 =>
    cwith_any _ _ (fun w' => w'.heap[vb]? = some (.cells (lkC o) 69 (0, 0)) ∧ w'.heap[rb]? = some (.cells #[.int .i64 0, .int .i64 0, .int .i64 0] 69 (0, 0)) ∧ Below w.heap.size w w') _ (h.below hba) ho.sl ho.used hh (enters_of Tryz.func50 (by kernel_rfl) rfl) (fun W hb => (clook1_any o cb pb vb W ((h.below hba).below hb) ho hp href hlk hlw ⟨fun hf => by have := h.lt vb hf; omega, n2, n3⟩ (seqAt_fields h1 hb) (seqAt_fields h2 hb) (seqAt_fields h3 hb)).mono fun e w' ⟨e1, e2, e3⟩ => ⟨e1, e2, (e3.block rb (block_lt (seqAt_fields h4 hb)) (by omega)).trans (seqAt_fields h4 hb), (hba.trans (hb.mono hba.size)).trans (e3.below (Nat.le_trans hba.size hb.size) (fun k hk => by rw [hk]; exact n1))⟩)
  have H4 := Lib.hid h4
  obtain ⟨lk, li, lg, hv, hc⟩ := lkC_is o
  rw [hc] at HW
  rw [hv]
  clear h4 h hp href ho hh hv hc hlk hlw
  go_enter Tryz.func23, Tryz.ntmps23
  go_wp2_with fail
  refine (HW.out _ _ _ _ _ H4.out.1 (by omega) (Nat.lt_succ_self _) H4.out.2.2.2.2.1 (by omega) (by omega) H4.out.2.1 H4.out.2.2.2.1 H4.out.2.2.2.2.2).mono ?_
  rintro e w2 ⟨rfl, h2, hr, hb⟩
  have HB := Lib.hid hb
  have H2 := Lib.hid h2
  have HR := Lib.hid hr
  obtain ⟨rb, hrb⟩ : ∃ rb, rb = w.heap.size + 1 + 1 + 1 := ⟨_, rfl⟩
  have HRE : Hid (w.heap.size ≤ rb) := by show _ ≤ _; omega
  rw [← hrb] at H2 HR ⊢
  clear hrb h2 hr hb
  have v0 := (cells_of_block H2.out 0).1
  have v1 := (cells_of_block H2.out 1).1
  have v2 := (cells_of_block H2.out 2).1
  simp at v0 v1 v2
  have r0 := cells_of_block HR.out 0
  have r1 := cells_of_block HR.out 1
  have r2 := cells_of_block HR.out 2
  simp at r0 r1 r2
  obtain ⟨r0, q0⟩ := r0
  obtain ⟨r1, q1⟩ := r1
  obtain ⟨r2, q2⟩ := r2
  go_wp2_with fail
  have e := HRE.out
  try simp only [Exit.inBlock, Exit.then]
  have hbk : (((w2.setCell ⟨rb, 0, none⟩ (.int .i64 lk)).setCell ⟨rb, 1, none⟩ (.int .i64 li)).setCell ⟨rb, 2, none⟩ (.int .i64 lg)).heap[rb]? = some (.cells #[.int .i64 lk, .int .i64 li, .int .i64 lg] 69 (0, 0)) := by
    simpa using block_setCell (block_setCell (block_setCell (HR.out) 0 (.int .i64 lk)) 1 (.int .i64 li)) 2 (.int .i64 lg)
  exact bodyPost_ret (results_blk rfl _ _ rb _ _ _ _ rfl hbk Tryz.underlying69 rfl rfl) rfl ⟨rfl, (((HB.out).setCell e _).setCell e _).setCell e _⟩
end Go.Proofs.YtcdpnfchmpncjaaGreatDoor

namespace Go.Proofs.YtcdpnfchmpncjaaGreatDoor
open Go.RowKit Go.Tr Go.Shelf
variable {w w' : World} {F G : Nat → Prop} {A : Ad} {S : HS}
set_option maxRecDepth 100000 in
set_option maxHeartbeats 1000000 in
theorem cTie_any {x y : Sl} {i j count p : Nat} (o : Option (Nat × Nat)) (w : World) (h : HeapF w F A S) (ho : ObjOk S i x count) (hh : x.held = true) (hxr : x.region = 1) (hy : S.sl[j]? = some y) (hyu : y.used = true) (hyh : y.held = true) (hyr : y.region = 1) (hp : p < S.L.size count) (href : isRefN S.L p = true) (h1 : j < 4096) (h2 : 1 ≤ y.gen) (h3 : y.gen ≤ 255) (hlk : LkOk o) (hlw : S.ws.getD (x.addr + 1 + p) 0 = lkN o) :
    Calls Tryz.prog 20 #[.pointer (some ⟨A.c, 0, none⟩), .agg #[.int .i64 i, .int .i64 x.gen], .int .i64 p, .agg #[.int .i64 j, .int .i64 y.gen]] w fun e w' => e = .returned (.int .i64 0) ∧ HeapF w' (grow F w w') A { S with ws := S.ws.set (x.addr + 1 + p) (linkN j y.gen) } ∧ Only F w w' := by
  have h4 := al2 w (.cells #[.int .i64 i, .int .i64 x.gen] 38) (.cells #[.int .i64 j, .int .i64 y.gen] 38)
  have HLT := Lib.hid h.lt
  obtain ⟨S', hS'⟩ : ∃ S', S' = { S with ws := S.ws.set (x.addr + 1 + p) (linkN j y.gen) } := ⟨_, rfl⟩
  rw [← hS']
  have HLK := Lib.hid (fun W (hb : Below w.heap.size w W) => clook_any o W (h.below hb) ho hh hp href hlk hlw)
  have HV := Lib.hid (fun W (hb : Below w.heap.size w W) => cvalid_any W (h.below hb) hy hyu hyh)
  have HT : Hid (∀ W, Below w.heap.size w W → Calls Tryz.prog 47 #[.pointer (some ⟨A.c, 0, none⟩), .agg #[.int .i64 i, .int .i64 x.gen], .int .i64 p, .agg #[.int .i64 2, .int .i64 j, .int .i64 y.gen]] W fun e w' => e = .returned (.int .i64 0) ∧ HeapF w' (grow F w w') A S' ∧ Only F w w') := fun W hb =>
    (ctie_any W (h.below hb) ho hh hxr hy hyu hyr hp href h1 h2 h3).mono fun e w' ⟨e1, e2, e3⟩ => ⟨e1, by rw [hS']; exact Run.fin (Run.op (Run.below (Run.start h) hb) ⟨e2, e3⟩) h.lt⟩
  have HB := Lib.hid h4.1
  have HTB := Lib.hid h4.2.1
  have HUB := Lib.hid h4.2.2
  obtain ⟨lk, li, lg, hv, -⟩ := lkC_is o
  rw [hv] at HLK
  obtain ⟨gn, ug, ad, rg, hd, pn⟩ := x
  obtain ⟨yg, yu, ya, yr, yh, yp⟩ := y
  simp only [entryV] at HB HTB HUB HT HV HLK ⊢
  obtain ⟨ub, hub⟩ : ∃ ub, ub = w.heap.size + 1 := ⟨_, rfl⟩
  obtain ⟨tb, htb⟩ : ∃ tb, tb = w.heap.size := ⟨_, rfl⟩
  rw [← htb] at HTB
  rw [← hub] at HUB
  clear h4 h hp href hh ho hS' hy hyu hyr hxr h1 h2 h3 hlk hlw hyh hv
  go_enter Tryz.func20, Tryz.ntmps20
  go_wp2_with fail
  rw [← hub, ← htb]
  clear hub htb
  generalize (w.alloc (.cells #[.int .i64 i, .int .i64 gn] 38)).alloc (.cells #[.int .i64 j, .int .i64 yg] 38) = wa at *
  refine (HLK.out wa HB.out).mono ?_
  rintro e w1 ⟨rfl, hb1⟩
  have hb1' : Below wa.heap.size wa (w1.alloc (.cells #[.int .i64 lk, .int .i64 li, .int .i64 lg] 69)) := hb1.alloc hb1.size _
  have HB1 : Hid (Below w.heap.size w (w1.alloc (.cells #[.int .i64 lk, .int .i64 li, .int .i64 lg] 69))) := HB.out.trans (hb1'.mono HB.out.size)
  have HU1 := Lib.hid (seqAt_fields HUB.out hb1')
  have HT1 := Lib.hid (seqAt_fields HTB.out hb1')
  have u0 := (cells_of_block HU1.out 0).1
  have u1 := (cells_of_block HU1.out 1).1
  simp at u0 u1
  clear hb1 hb1'
  go_wp2_with fail
  clear u0 u1
  generalize w1.alloc (.cells #[.int .i64 lk, .int .i64 li, .int .i64 lg] 69) = wb at *
  refine (HV.out wb HB1.out).mono ?_
  rintro e w2 ⟨rfl, hb2⟩
  have hb2' : Below wb.heap.size wb (w2.alloc (.cells #[.int .i64 ya, .int .i64 yr, .bool yh, .bool yp] 93)) := hb2.alloc hb2.size _
  have HB2 : Hid (Below w.heap.size w (w2.alloc (.cells #[.int .i64 ya, .int .i64 yr, .bool yh, .bool yp] 93))) := HB1.out.trans (hb2'.mono HB1.out.size)
  have HU2 := Lib.hid (seqAt_fields HU1.out hb2')
  have HT2 := Lib.hid (seqAt_fields HT1.out hb2')
  have u0 := (cells_of_block HU2.out 0).1
  have u1 := (cells_of_block HU2.out 1).1
  simp at u0 u1
  have t0 := (cells_of_block HT2.out 0).1
  have t1 := (cells_of_block HT2.out 1).1
  simp at t0 t1
  clear hb2 hb2'
  go_wp2_with fail
  refine (HT.out _ HB2.out).mono ?_
  rintro e w3 ⟨rfl, h3⟩
  have H3 := Lib.hid h3
  clear h3 u0 u1 t0 t1
  go_wp2
  go_ret
  exact ⟨rfl, H3.out⟩
end Go.Proofs.YtcdpnfchmpncjaaGreatDoor

namespace Go.Proofs.YtcdpnfchmpncjaaGreatDoor
open Go.RowKit Go.Tr Go.Shelf
variable {w w' : World} {F G : Nat → Prop} {A : Ad} {S : HS}
theorem HeapF.setBag (h : HeapF w F A S) : ∃ G : Nat → Prop, Bag w A.bg G S.mine ∧ (∀ k, G k → F k) ∧ ∀ zs w', Bag w' A.bg (grow G w w') zs → Only G w w' → HeapF w' (grow F w w') A { S with mine := zs } ∧ Only F w w' := by
  obtain ⟨G, hG, h1, -, hb⟩ := h.1.part1 (pp_parts A S) 7
  refine ⟨G, h1, hG, fun zs w' ht ho => HeapF.put h.2 (hb (PP A { S with mine := zs }) w' (pp_parts _ _) (fun j hj => ?_) ht ho)⟩
  unfold PP
  split <;> first | rfl | exact absurd rfl hj
theorem HeapF.del (h : HeapF w F A S) (i : Nat) (hl : S.mine.length ≤ 1000000) : Calls Tryz.prog 114 #[.pointer (some ⟨A.bg, 0, none⟩), .int .i64 i] w fun e w' => e = .returned (.bool (hasL S.mine i)) ∧ HeapF w' (grow F w w') A { S with mine := outL S.mine i } ∧ Only F w w' := by
  obtain ⟨G, hb, hG, hput⟩ := h.setBag
  exact (bdelF_any i w hb hl).mono fun e w' ⟨e1, e2, e3⟩ => ⟨e1, hput _ w' e2 e3⟩
theorem HeapF.dropSlot (h : HeapF w F A S) {x : Sl} {i : Nat} (hx : S.sl[i]? = some x) (hu : x.used = true) (hg : x.gen < 255) : Calls Tryz.prog 115 #[.pointer (some ⟨A.t, 0, none⟩), .agg #[.int .i64 i, .int .i64 x.gen]] w fun e w' => e = .returned (.int .i64 0) ∧ HeapF w' (grow F w w') A { S with sl := S.sl.set i ⟨x.gen, false, 0, 0, false, false⟩ } ∧ Only F w w' := by
  obtain ⟨G, ht, hG, hput⟩ := h.setTable
  exact (tdrop_any w ht (fun k hk => h.lt k (hG k hk)) hx hu hg).mono fun e w' ⟨e1, e2, e3⟩ => ⟨e1, hput _ w' e2 e3⟩
theorem HeapF.forget (h : HeapF w F A S) (i : Nat) {W : World} (hb : Below w.heap.size w W) : Calls Tryz.prog 113 #[.pointer (some ⟨A.rm, 0, none⟩), .int .i64 i] W fun e w' => e = .returned (.int .i64 0) ∧ Below W.heap.size W w' := by
  obtain ⟨G, hr⟩ := (h.below hb).rem; exact rforget_any i W hr
theorem HeapF.lookMine (h : HeapF w F A S) {W : World} (hb : Below w.heap.size w W) : (Instr.lookup 54 (.map (some A.mn)) (.int .i64 1) false).run Tryz.prog W = .ok (.pointer (some ⟨A.bg, 0, none⟩)) W := by
  have := MapI.look (P := Tryz.prog) (h.below hb).cells.2.2.1 Tryz.underlying54 Tryz.underlying3 Tryz.zeroValue88 false 1
  rw [this]; rfl
theorem HeapF.lookSpace (h : HeapF w F A S) {W : World} (hb : Below w.heap.size w W) : (Instr.lookup 53 (.map (some A.sp)) (.int .i64 1) false).run Tryz.prog W = .ok (.pointer (some ⟨A.u, 0, none⟩)) W := by
  have := MapI.look (P := Tryz.prog) (h.below hb).cells.2.1 Tryz.underlying53 Tryz.underlying3 Tryz.zeroValue28 false 1
  rw [this]; rfl
set_option maxRecDepth 100000 in
set_option maxHeartbeats 1000000 in
theorem close_any {x : Sl} {i : Nat} (w : World) (h : HeapF w F A S) (hx : S.sl[i]? = some x) (hu : x.used = true) (hr : x.region = 1) (hg : x.gen < 255) (hl : S.mine.length ≤ 1000000) : Calls Tryz.prog 66 #[.pointer (some ⟨A.c, 0, none⟩), .int .i64 i] w fun e w' => e = .returned (.tuple #[]) ∧ HeapF w' (grow F w w') A { S with mine := outL S.mine i, sl := S.sl.set i ⟨x.gen, false, 0, 0, false, false⟩ } ∧ Only F w w' := by
  have HAT := Lib.hid (cat_any w h hx hu)
  have HSL := Lib.hid (fun W (hb : Below w.heap.size w W) => h.slot hx hu hb)
  have HFO := Lib.hid (fun W (hb : Below w.heap.size w W) => h.forget i hb)
  have HLM := Lib.hid (fun W (hb : Below w.heap.size w W) => h.lookMine hb)
  have HRUN := Lib.hid (Run.start h)
  have HLT := Lib.hid h.lt
  have HF := Lib.hid (fun W (hb : Below w.heap.size w W) => h.fields hb)
  have HDEL := Lib.hid (fun W (hr : HeapF W F A S) => hr.del i hl)
  obtain ⟨S1, hS1⟩ : ∃ S1, S1 = { S with mine := outL S.mine i } := ⟨_, rfl⟩
  have HDR := Lib.hid (fun W F1 (hr : HeapF W F1 A S1) => hr.dropSlot (x := x) (i := i) (by rw [hS1]; exact hx) hu hg)
  have HF1 := Lib.hid (fun W F1 (hr : HeapF W F1 A S1) => hr.fields (Below.refl _ _))
  obtain ⟨S2, hS2⟩ : ∃ S2, S2 = { S with mine := outL S.mine i, sl := S.sl.set i ⟨x.gen, false, 0, 0, false, false⟩ } := ⟨_, rfl⟩
  have he : { S1 with sl := S1.sl.set i ⟨x.gen, false, 0, 0, false, false⟩ } = S2 := by rw [hS2, hS1]
  rw [← hS1] at HDEL
  rw [he] at HDR
  rw [← hS2]
  clear he
  obtain ⟨gn, ug, ad, rg, hd, pn⟩ := x
  simp only [entryV] at HAT HSL HDR hr ⊢
  subst hr
  clear h hx hu hg hl hS1 hS2
  go_enter Tryz.func66, Tryz.ntmps66
  go_wp2_with fail
  refine HAT.out.mono ?_
  rintro e w1 ⟨rfl, hb1⟩
  have HB1 : Hid (Below w.heap.size w (w1.alloc (.cells #[.int .i64 ad, .int .i64 1, .bool hd, .bool pn] 93))) := hb1.alloc hb1.size _
  have HX1 : Hid ((w1.alloc (.cells #[.int .i64 ad, .int .i64 1, .bool hd, .bool pn] 93)).heap[w1.heap.size]? = some (.cells #[.int .i64 ad, .int .i64 1, .bool hd, .bool pn] 93 (0, 0))) := heap_alloc_new w1 _
  have HXE : Hid (w.heap.size ≤ w1.heap.size) := hb1.size
  obtain ⟨xb, hxb⟩ : ∃ xb, xb = w1.heap.size := ⟨_, rfl⟩
  rw [← hxb] at HX1 HXE
  obtain ⟨-, -, -, c3, -⟩ := HF.out _ HB1.out
  clear hb1
  go_wp2_with fail
  rw [← hxb]
  clear hxb c3
  generalize w1.alloc (.cells #[.int .i64 ad, .int .i64 1, .bool hd, .bool pn] 93) = wa at *
  refine (HSL.out wa HB1.out).mono ?_
  rintro e w2 ⟨rfl, hb2⟩
  have hb2' : Below wa.heap.size wa (w2.alloc (.cells #[.int .i64 i, .int .i64 gn] 38)) := hb2.alloc hb2.size _
  have HB2 : Hid (Below w.heap.size w (w2.alloc (.cells #[.int .i64 i, .int .i64 gn] 38))) := HB1.out.trans (hb2'.mono HB1.out.size)
  have HX2 := Lib.hid (seqAt_fields HX1.out hb2')
  have HT2 : Hid ((w2.alloc (.cells #[.int .i64 i, .int .i64 gn] 38)).heap[w2.heap.size]? = some (.cells #[.int .i64 i, .int .i64 gn] 38 (0, 0))) := heap_alloc_new w2 _
  have HTE : Hid (w.heap.size ≤ w2.heap.size) := Nat.le_trans HB1.out.size hb2.size
  obtain ⟨tb, htb⟩ : ∃ tb, tb = w2.heap.size := ⟨_, rfl⟩
  rw [← htb] at HT2 HTE
  obtain ⟨-, -, -, -, -, c5, -⟩ := HF.out _ HB2.out
  clear hb2 hb2'
  go_wp2_with fail
  rw [← htb]
  clear htb c5
  generalize w2.alloc (.cells #[.int .i64 i, .int .i64 gn] 38) = wb at *
  refine (HFO.out wb HB2.out).mono ?_
  rintro e w3 ⟨rfl, hb3⟩
  have HB3 : Hid (Below w.heap.size w w3) := HB2.out.trans (hb3.mono HB2.out.size)
  have HX3 := Lib.hid (seqAt_fields HX2.out hb3)
  have HT3 := Lib.hid (seqAt_fields HT2.out hb3)
  obtain ⟨-, -, -, -, -, -, -, c7⟩ := HF.out _ HB3.out
  have x0 := (cells_of_block HX3.out 0).1
  have x1 := (cells_of_block HX3.out 1).1
  have x2 := (cells_of_block HX3.out 2).1
  have x3 := (cells_of_block HX3.out 3).1
  simp at x0 x1 x2 x3
  clear hb3
  go_wp2_with fail
  go_still_tail 8, (by kernel_rfl)
  refine still_look (.tmp 34) (.tmp 36) 54 rfl _ _ _ rfl rfl (HLM.out _ HB3.out.drew) ?_
  repeat still_step
  refine wpStill_nil ?_
  have HRN := Lib.hid (HRUN.out.below HB3.out.drew)
  have HX4 : Hid (Bx w3.drew F xb (.cells #[.int .i64 ad, .int .i64 1, .bool hd, .bool pn] 93 (0, 0))) := ⟨fun hf => by have := HLT.out xb hf; have := HXE.out; omega, HX3.out⟩
  have HT4 : Hid (Bx w3.drew F tb (.cells #[.int .i64 i, .int .i64 gn] 38 (0, 0))) := ⟨fun hf => by have := HLT.out tb hf; have := HTE.out; omega, HT3.out⟩
  change wpList _ _ _ _ _ w3.drew
  clear c7 x0 x1 x2 x3
  generalize w3.drew = w4 at *
  go_wp2_with fail
  refine (HDEL.out w4 HRN.out.heap).mono ?_
  rintro e w5 ⟨rfl, h5⟩
  have HRN5 := Lib.hid (HRN.out.op h5)
  have HT5 := Lib.hid (HT4.out.op h5.2)
  have HT6 := Lib.hid HT5.out.2
  obtain ⟨F5, hF5⟩ : ∃ F5, F5 = grow F w4 w5 := ⟨_, rfl⟩
  rw [← hF5] at HRN5 HT5
  obtain ⟨-, -, -, c3, -⟩ := HF1.out _ _ HRN5.out.heap
  have t0 := (cells_of_block HT6.out 0).1
  have t1 := (cells_of_block HT6.out 1).1
  simp at t0 t1
  clear h5 hF5
  go_wp2_with fail
  go_still_tail 5, (by kernel_rfl)
  have HRN6 := Lib.hid (HRN5.out.below (Below.refl _ _).drew)
  change wpList _ _ _ _ _ w5.drew
  clear c3 t0 t1
  generalize w5.drew = w6 at *
  go_wp2_with fail
  refine (HDR.out w6 F5 HRN6.out.heap).mono ?_
  rintro e w7 ⟨rfl, h7⟩
  have HRN7 := Lib.hid (HRN6.out.op h7)
  clear h7
  go_wp2
  go_end0
  exact ⟨rfl, HRN7.out.fin HLT.out⟩
end Go.Proofs.YtcdpnfchmpncjaaGreatDoor

namespace Go.Proofs.YtcdpnfchmpncjaaGreatDoor
open Go.RowKit Go.Tr Go.Shelf
variable {w w' : World} {F G : Nat → Prop} {A : Ad} {S : HS}
def noPanic (Q : Exit → Act → World → Prop) : Exit → Act → World → Prop
  | .panic _, _, _ => False
  | .normal, a, w => Q .normal a w
  | .ret, a, w => Q .ret a w
  | .exit i, a, w => Q (.exit i) a w
  | .goto l, a, w => Q (.goto l) a w
  | .outgrown, a, w => Q .outgrown a w
theorem wp_noPanic {P : Program} {c : Code} {Q : Exit → Act → World → Prop} {a : Act} {w : World} (h : c.wp P (noPanic Q) a w) : c.wp P Q a w :=
  wp_mono h (fun e a w h => by cases e <;> first | exact h | exact h.elim)
def tgt (l : List (Nat × Option (Nat × Nat))) : List Int := l.filterMap fun x => x.2.map fun q => (q.1 : Int)
theorem tgt_snoc (l : List (Nat × Option (Nat × Nat))) (p : Nat) (o : Option (Nat × Nat)) : tgt (l ++ [(p, o)]) = tgt l ++ (match o with | none => [] | some q => [(q.1 : Int)]) := by
  unfold tgt
  rw [List.filterMap_append]
  cases o <;> rfl
theorem tgt_length (l : List (Nat × Option (Nat × Nat))) : (tgt l).length ≤ l.length := List.length_filterMap_le _ _
theorem slotsL_length {L : Lay} (h : RightLay L) {count : Nat} (hc : count ≤ 1024) : (slotsL L count).length ≤ 100000 := by
  have h1 := risesN_len h.refs h.f
  have h2 := risesN_len h.recs h.r
  unfold slotsL
  rw [List.length_append, List.length_flatMap]
  have : ((List.range count).map fun i => (L.recs.map (L.fixed + i * L.record + ·)).length).sum ≤ count * 64 := by
    have : ∀ n, ((List.range n).map fun i => (L.recs.map (L.fixed + i * L.record + ·)).length).sum ≤ n * 64 := fun n => by
      induction n with
      | zero => simp
      | succ n ih => rw [List.range_succ, List.map_append, List.sum_append]; simp at ih ⊢; omega
    exact this count
  omega
theorem ObjOk.lkEnv {i count : Nat} {x : Sl} {o : Nat → Option (Nat × Nat)} (h : ObjOk S i x count) (hlk : ∀ p ∈ slotsL S.L count, LkOk (o p) ∧ S.ws.getD (x.addr + 1 + p) 0 = lkN (o p)) : LkEnv S.C S.Wd S.L S.ws S.own x.addr count i o := ⟨h.obj, h.big, h.fit, h.own, hlk⟩
theorem infoIntC : (Tryz.prog.info? 3).map (fun i => (i.zero, i.size, i.bytes)) = some (some (.int .i64 0), 1, 8) := by kernel_rfl
set_option maxRecDepth 100000 in
set_option maxHeartbeats 4000000 in
theorem ctargets_any {x : Sl} {i count : Nat} (o : Nat → Option (Nat × Nat)) (w : World) (h : HeapF w F A S) (ho : ObjOk S i x count) (hlk : ∀ p ∈ slotsL S.L count, LkOk (o p) ∧ S.ws.getD (x.addr + 1 + p) 0 = lkN (o p)) :
    Calls Tryz.prog 111 #[.pointer (some ⟨A.c, 0, none⟩), .int .i64 i] w fun e w' => ∃ v, e = .returned v ∧ own3 w' 3 w.heap.size v (tgt (refsL S.L count o)) ∧ Below w.heap.size w w' := by
  obtain ⟨i0, hi, hz0, hz1, hz2⟩ := info_parts infoIntC
  have HH := Lib.hid h
  have HAT := Lib.hid (fun W (hb : Below w.heap.size w W) => cat_any W (h.below hb) ho.sl ho.used)
  have HF := Lib.hid (fun W (hb : Below w.heap.size w W) => h.fields hb)
  have HENV := Lib.hid (ho.lkEnv hlk)
  have HLT := Lib.hid h.lt
  have HLEN : Hid ((refsL S.L count o).length ≤ 100000) := by
    obtain ⟨G, H, hi, -⟩ := h.img
    show _ ≤ _
    unfold refsL
    rw [List.length_map]
    exact slotsL_length hi.right ho.obj.cnt
  obtain ⟨lb, hlb⟩ : ∃ lb, lb = w.heap.size := ⟨_, rfl⟩
  have hb0 : Below w.heap.size w (w.alloc (.cells #[.slice none 0 0] 42)) := (Below.refl _ w).alloc (Nat.le_refl _) _
  have HB0 := Lib.hid hb0
  have HL0 : Hid (Boxed (w.alloc (.cells #[.slice none 0 0] 42)) lb 42 (.slice none 0 0)) := by rw [hlb]; exact Boxed.new w _ _
  have HLB := Lib.hid hlb
  obtain ⟨gn, ug, ad, rg, hd, pn⟩ := x
  simp only [entryV] at HAT HENV
  clear h ho hlk hb0
  refine (callsIn_wide (n := 2)).1 ?_
  refine callsIn_of_wp_marks Tryz.func111 rfl trivial ?_ rfl
  refine wpIn_wide.2 (wp_noPanic ?_)
  simp only [Tryz.ntmps111, List.size_toArray, List.length_cons, List.length_nil, Nat.reduceAdd, Nat.reduceSub, Array.replicate_succ, Array.replicate_zero, List.push_toArray, List.append_toArray, List.nil_append, List.cons_append]
  go_wp2_with fail
  rw [← hlb]
  clear hlb
  generalize w.alloc (.cells #[.slice none 0 0] 42) = wa at *
  refine (HAT.out wa HB0.out).mono ?_
  rintro e w1 ⟨rfl, hb1⟩
  have hb1' : Below wa.heap.size wa (w1.alloc (.cells #[.int .i64 ad, .int .i64 rg, .bool hd, .bool pn] 93)) := hb1.alloc hb1.size _
  have HB1 : Hid (Below w.heap.size w (w1.alloc (.cells #[.int .i64 ad, .int .i64 rg, .bool hd, .bool pn] 93))) := HB0.out.trans (hb1'.mono HB0.out.size)
  have HL1 : Hid (Boxed (w1.alloc (.cells #[.int .i64 ad, .int .i64 rg, .bool hd, .bool pn] 93)) lb 42 (.slice none 0 0)) := seqAt_fields HL0.out hb1'
  have HX1 : Hid ((w1.alloc (.cells #[.int .i64 ad, .int .i64 rg, .bool hd, .bool pn] 93)).heap[w1.heap.size]? = some (.cells #[.int .i64 ad, .int .i64 rg, .bool hd, .bool pn] 93 (0, 0))) := heap_alloc_new w1 _
  obtain ⟨xb, hxb⟩ : ∃ xb, xb = w1.heap.size := ⟨_, rfl⟩
  rw [← hxb] at HX1
  clear hb1 hb1'
  go_wp2_with fail
  rw [← hxb]
  clear hxb
  generalize w1.alloc (.cells #[.int .i64 ad, .int .i64 rg, .bool hd, .bool pn] 93) = w2 at *
  obtain ⟨-, -, c2, -⟩ := HF.out _ HB1.out
  have x0 := (cells_of_block HX1.out 0).1
  have x1 := (cells_of_block HX1.out 1).1
  have x2 := (cells_of_block HX1.out 2).1
  have x3 := (cells_of_block HX1.out 3).1
  simp at x0 x1 x2 x3
  go_still_tail 6, (by kernel_rfl)
  have HB2 : Hid (Below w.heap.size w w2.drew) := HB1.out.drew
  have HL2 : Hid (Boxed w2.drew lb 42 (.slice none 0 0)) := HL1.out
  change wpList _ _ _ _ _ w2.drew
  clear c2 x0 x1 x2 x3
  generalize w2.drew = w3 at *
  go_wp2_with fail
  refine (ilinks_any A.m ad w3).mono ?_
  rintro e w4 ⟨bm, ba, rfl, hbm, hba, hbm1, hba1, hb34⟩
  have HB4 : Hid (Below w.heap.size w w4) := HB2.out.trans (hb34.mono HB2.out.size)
  have HL4 : Hid (Boxed w4 lb 42 (.slice none 0 0)) := seqAt_fields HL2.out hb34
  have HSEQ : Hid (SeqAllN StepN (KeepN fun k => k = lb ∨ k = w4.heap.size + 1) Tryz.prog 193 #[.pointer (some ⟨bm, 0, none⟩), .pointer (some ⟨ba, 0, none⟩)] refE (refsL S.L count o) w4) := by
    obtain ⟨G, H, hI, hG, hH, hM⟩ := (HH.out.below HB4.out).img
    refine links_seq hbm hba hI HENV.out (fun k hk hO => ?_) (fun k hk => ?_)
    · have hlt : ∀ j, F j → j < w.heap.size := HLT.out
      have h5 := block_lt hbm
      have h6 := block_lt hba
      have h7 := HB4.out.size
      have h8 := (HL2.out).lt
      have hw3 := HB2.out.size
      have hlb2 := HLB.out
      rcases hk with hk | hk | rfl | rfl | rfl
      · have := hlt k (hG k hk); omega
      · have := hlt k (hH k hk); omega
      · have := hlt _ hM; omega
      · omega
      · omega
    · have := HL4.out.lt; omega
  clear hbm hba hbm1 hba1 hb34
  go_wp2_with fail
  refine (wpIn_wide (n := 2)).1 ?_
  refine range_allN (m := 0) (gf := 193) (lb := #[.pointer (some ⟨bm, 0, none⟩), .pointer (some ⟨ba, 0, none⟩)]) rfl (enters_of Tryz.func193 (by kernel_rfl) rfl) HSEQ.out (Below.refl _ _) (fun x => rfl) (fun h k => KeepN.trans h k) ?hkb
    (fun N pre W' => ∃ v, Boxed W' lb 42 v ∧ own3 W' 3 w.heap.size v (tgt pre) ∧ (∀ k, v.ownBlock = some k → N ≤ k ∧ w4.heap.size + 1 < k) ∧ Below w.heap.size w W') ?hib ?hst ?hsk ?h0 ?round ?done
  case hkb => exact fun N W r r' _ => ⟨by simp, fun k hk ho => World.putObj_heap_other (fun e => ho (Or.inr e))⟩
  case hib =>
    rintro N pre W r r' ⟨v, h1, h2, h3, h4⟩ hl
    have hsz := HB4.out.size
    have hlb := HLB.out
    have hl4 := HL4.out.lt
    refine ⟨v, (World.putObj_heap_other (by omega)).trans h1, ownsRow_kept h2 (fun k hk => World.putObj_heap_other (by have := (h3 k hk).2; omega)), h3, h4.os, h4.tape, h4.output, by simpa using h4.size, fun k hk => (World.putObj_heap_other (by omega)).trans (h4.block k hk)⟩
  case hst =>
    rintro N pre B C ⟨v, h1, h2, h3, h4⟩ hs
    have hsz := HB4.out.size
    have hl4 := HL4.out.lt
    have hb := h4.size
    refine ⟨v, (hs.block lb h1.lt (Or.inl (by omega))).trans h1, ownsRow_kept h2 (fun k hk => hs.block k (h2.lt k hk).2 (Or.inr (h3 k hk).1)), h3, hs.os.trans h4.os, hs.tape.trans h4.tape, hs.output.trans h4.output, Nat.le_trans h4.size hs.size, fun k hk => (hs.block k (by omega) (Or.inl (by omega))).trans (h4.block k hk)⟩
  case hsk => exact fun N B C k hs hk hkb => hs.block k hkb (Or.inl hk)
  case h0 =>
    intro N r
    have hb : Below w4.heap.size w4 ((w4.alloc (.deferred (some []))).alloc (.loop r)) := ((Below.refl _ w4).alloc (Nat.le_refl _) _).alloc (by simp) _
    exact ⟨_, seqAt_fields HL4.out hb, World.ownsRow_nil _ _ _ _, fun k hk => by simp [Value.ownBlock] at hk, HB4.out.trans (hb.mono HB4.out.size)⟩
  case round =>
    rintro N pre ⟨p, lk⟩ W hN ⟨v, hv, hrow, hnb, hB⟩ hpre hlt
    have hpl : (tgt pre).length ≤ 100000 := by
      have h1 := tgt_length pre
      have h2 := hpre.length_le
      have h3 := HLEN.out
      simp at h2
      omega
    have HTG := Lib.hid (tgt_snoc pre p lk)
    have HN := Lib.hid hN
    have HV := Lib.hid hv
    have HROW := Lib.hid hrow
    have HNB := Lib.hid hnb
    have HBW := Lib.hid hB
    have HL := Lib.hid hlt
    clear hpre hN hv hrow hnb hB hlt
    obtain ⟨kb, hkb⟩ : ∃ kb, kb = W.heap.size := ⟨_, rfl⟩
    have HKB := Lib.hid hkb
    have HLV : Hid (lb < w4.heap.size) := HL4.out.lt
    have HBOX : Hid (∀ (q : Array Value) (r : Loop), ((W.alloc (.cells q 69)).putObj (w4.heap.size + 1) (.loop r)).heap[kb]? = some (.cells q 69 (0, 0)) ∧ KeepN (fun k => k = lb ∨ k = w4.heap.size + 1) N W (W.alloc (.cells q 69)) ∧
        KeepsB (w4.heap.size + 1) (W.alloc (.cells q 69)) (W.alloc (.cells q 69)) ∧ Boxed ((W.alloc (.cells q 69)).putObj (w4.heap.size + 1) (.loop r)) lb 42 v ∧ own3 ((W.alloc (.cells q 69)).putObj (w4.heap.size + 1) (.loop r)) 3 w.heap.size v (tgt pre) ∧
        Below w.heap.size w ((W.alloc (.cells q 69)).putObj (w4.heap.size + 1) (.loop r)) ∧ W.heap.size + 1 = ((W.alloc (.cells q 69)).putObj (w4.heap.size + 1) (.loop r)).heap.size) := fun q r => by
      have hb : Below W.heap.size W (W.alloc (.cells q 69)) := (Below.refl _ W).alloc (Nat.le_refl _) _
      have h1 := HL.out
      have h2 := HLV.out
      have h3 := HB4.out.size
      have h4 := HBW.out.size
      refine ⟨?_, KeepN.below hb HN.out, rfl, ?_, ?_, ⟨HBW.out.os, HBW.out.tape, HBW.out.output, by simp; omega, fun k hk => ?_⟩, by simp⟩
      · rw [hkb]; exact (World.putObj_heap_other (by omega)).trans (heap_alloc_new W _)
      · exact (World.putObj_heap_other (by omega)).trans (seqAt_fields HV.out hb)
      · exact ownsRow_kept HROW.out (fun k hk => (World.putObj_heap_other (by have := (HNB.out k hk).2; omega)).trans (hb.block k (HROW.out.lt k hk).2))
      · exact (World.putObj_heap_other (by omega)).trans ((hb.block k (by omega)).trans (HBW.out.block k hk))
    have hsem := @Oper.semAt_some
    rcases lk with _ | ⟨j, g⟩
    · simp only [refE, lkV, linkV]
      gi_wp2_with fail
      have h1 := HL.out
      refine ⟨Below.heap_alloc _ _ _ (by omega), Below.heap_alloc _ _ _ (by omega), KeepN.below ((Below.refl _ W).alloc (Nat.le_refl _) _) HN.out, fun r _ => ?_⟩
      obtain ⟨q1, q2, -, q3, q4, q5, q6⟩ := HBOX.out #[.int .i64 0, .int .i64 0, .int .i64 0] r
      rw [← hkb]
      clear hkb h1
      generalize (W.alloc (.cells #[.int .i64 0, .int .i64 0, .int .i64 0] 69)).putObj (w4.heap.size + 1) (.loop r) = W2 at *
      have c0 := (cells_of_block q1 0).1
      simp at c0
      have Q3 := Lib.hid q3
      have Q4 := Lib.hid q4
      have Q5 := Lib.hid q5
      clear q1 q2 q3 q4 q5 q6
      gi_wp2_with fail
      refine ⟨rfl, rfl, ⟨Nat.le_refl _, fun _ _ _ => rfl⟩, _, Q3.out, by rw [HTG.out, List.append_nil]; exact Q4.out, HNB.out, Q5.out⟩
    · simp only [refE, lkV, linkV]
      gi_wp2_with fail
      have h1 := HL.out
      refine ⟨Below.heap_alloc _ _ _ (by omega), Below.heap_alloc _ _ _ (by omega), KeepN.below ((Below.refl _ W).alloc (Nat.le_refl _) _) HN.out, fun r _ => ?_⟩
      obtain ⟨q1, q2, -, q3, q4, q5, q6⟩ := HBOX.out #[.int .i64 2, .int .i64 j, .int .i64 g] r
      have HWN : Hid (N ≤ ((W.alloc (.cells #[.int .i64 2, .int .i64 j, .int .i64 g] 69)).putObj (w4.heap.size + 1) (.loop r)).heap.size ∧ w4.heap.size + 1 < ((W.alloc (.cells #[.int .i64 2, .int .i64 j, .int .i64 g] 69)).putObj (w4.heap.size + 1) (.loop r)).heap.size) := by
        have := HN.out
        show _ ∧ _
        omega
      rw [← hkb]
      clear hkb h1
      generalize (W.alloc (.cells #[.int .i64 2, .int .i64 j, .int .i64 g] 69)).putObj (w4.heap.size + 1) (.loop r) = W2 at *
      have c0 := (cells_of_block q1 0).1
      have c1 := (cells_of_block q1 1).1
      simp at c0 c1
      have hc := q3.cell
      have Q3 := Lib.hid q3
      have Q4 := Lib.hid q4
      have Q5 := Lib.hid q5
      obtain ⟨tl, htl⟩ : ∃ tl, tl = (tgt pre).length := ⟨_, rfl⟩
      rw [← htl] at hpl
      have hrw : W2.ownsRow w.heap.size 3 1 v tl (ints (tgt pre)) := by rw [htl]; exact q4
      have HRW := Lib.hid hrw
      have HTL := Lib.hid htl
      clear q1 q2 q3 q4 q5 q6 htl
      gi_wp2_with (gi_at_builtin; refine wpListIn_append_own_at _ rfl _ _ 42 rfl w.heap.size 3 i0 (.int .i64 0) 1 8 Tryz.underlying42 hi hz0 hz1 hz2 rfl (by decide) _ _ _ rfl (hrw.alloc _) ⟨W2.heap.size, 0, none⟩ 1 1 [.int .i64 j] rfl rfl (cell_one_new _ _ _) (by simp [Value.oneCell']) (by unfold maxLen; omega) (by omega) (by have := Q5.out.size; simp; omega) ?_; intro v' w1 hown' hgrow _ hob; obtain ⟨g', cap', rfl⟩ := ownsRow_succ hown'; obtain ⟨hv1, hv2, hr2, hk2, hb2⟩ := Q3.out.appended (by decide) hrw Q5.out.size (by have := HLB.out; omega) hown' hgrow; have hc1 := hv1.cell; have hf1 := hv1.frozen)
      have hkk : ∀ k, k < N ∨ k ≤ w4.heap.size + 1 → k ≠ lb → (w1.setCell ⟨lb, 0, none⟩ (.slice (some ⟨g', 0, none⟩) (tl + 1) cap')).heap[k]? = W2.heap[k]? := fun k hk hne => by
        have h1 := HWN.out.1
        have h2 := HWN.out.2
        refine (Below.heap_setCell _ _ _ _ hne).trans ((hgrow.block k (by simp; omega) (fun e => ?_)).trans (Below.heap_alloc _ _ _ (by omega)))
        have := HNB.out k e.symm
        omega
      have h3 := HLV.out
      refine ⟨hkk _ (Or.inr (Nat.le_refl _)) (by omega), hkk _ (Or.inr (by omega)) (by omega), ⟨hb2.size, fun k hk ho => hkk k (Or.inl hk) (fun e => ho (Or.inl e))⟩, _, hv2, ?_, fun k hk => ?_, Q5.out.trans hb2⟩
      · rw [HTG.out]
        unfold own3
        rw [List.length_append, ← HTL.out]
        simpa [ints, iv] using hr2
      · rcases hob with e | e
        · exact HNB.out k (show v.ownBlock = some k from by rw [← hk]; exact e.symm)
        · have : some k = some (W2.heap.size + 1) := by rw [← hk, e]; simp
          cases this
          have h1 := HWN.out
          omega
  case done =>
    rintro N W ⟨v, hv, hrow, hnb, hB⟩ hD
    have hc := hv.cell
    go_wp2_with fail
    refine ⟨by simp, .inl ⟨_, _, rfl, run_takeDeferred hD, ?_⟩⟩
    have h1 := HB4.out.size
    refine ⟨_, results_tmp rfl _ _ _, v, rfl, ownsRow_kept hrow (fun k hk => World.putObj_heap_other (by have := (hnb k hk).2; omega)), hB.os, hB.tape, hB.output, by simpa using hB.size, fun k hk => (World.putObj_heap_other (by omega)).trans (hB.block k hk)⟩
end Go.Proofs.YtcdpnfchmpncjaaGreatDoor

namespace Go.Proofs.YtcdpnfchmpncjaaGreatDoor
open Go.RowKit Go.Tr Go.Shelf
variable {w w' : World} {F G : Nat → Prop} {A : Ad} {S S1 : HS}
theorem cntB_lt {B : Nat → Bool} {n i : Nat} (hi : i < n) (hb : B i = false) : cntB B n < n := by
  have h1 := cntB_set (B := B) (on := true) hi (by rw [hb]; decide)
  have h2 := cntB_le (setB B i true) n
  simp at h1
  omega
def AllocSt (S : HS) (n addr : Nat) (S' : HS) : Prop :=
  (S.a + n ≤ S.en ∧ addr = S.a ∧ S' = { S with a := S.a + n }) ∨
  (S.en < S.a + n ∧ ∃ c q, q = (n - 1) / S.Wd ∧ c + (q + 1) ≤ S.C ∧ (∀ i, c ≤ i → i < c + (q + 1) → S.own.getD i 0 = 0) ∧ addr = c * S.Wd ∧
    S' = { S with ps := S.ps ++ [(c, q + 1)], a := if q = 0 then c * S.Wd + n else S.a, en := if q = 0 then (c + 1) * S.Wd else S.en, ws := putAt S.ws (c * S.Wd) (List.replicate ((q + 1) * S.Wd) 0), own := putAt S.own c (List.replicate (q + 1) 1) })
def RoomOk (S : HS) (n : Nat) : Prop := S.a ≤ S.en ∧ S.en ≤ 1048576 ∧ S.ps.length ≤ 100000 ∧ 1 ≤ n ∧ n ≤ 1048576 ∧ (S.a + n ≤ S.en ∨ ∃ c, c + ((n - 1) / S.Wd + 1) ≤ S.C ∧ ∀ i, c ≤ i → i < c + ((n - 1) / S.Wd + 1) → S.own.getD i 0 = 0)
theorem HeapF.alloc (h : HeapF w F A S) {n : Nat} (hr : RoomOk S n) : Calls Tryz.prog 88 #[.pointer (some ⟨A.u, 0, none⟩), .int .i64 n] w fun e w' => ∃ addr S', e = .returned (.tuple #[.int .i64 (addr : Nat), .int .i64 0]) ∧ AllocSt S n addr S' ∧ HeapF w' (grow F w w') A S' ∧ Only F w w' := by
  obtain ⟨h1, h2, h3, h4, h5, h6⟩ := hr
  by_cases hlt : S.a + n ≤ S.en
  · obtain ⟨G, hG, hp, -, hb⟩ := h.1.part1 (pp_parts A S) 6
    refine (uallocR_any n w hp h4 hlt h2).mono ?_
    rintro e w' ⟨rfl, e2, e3, -⟩
    refine ⟨S.a, { S with a := S.a + n }, rfl, Or.inl ⟨hlt, rfl, rfl⟩, HeapF.put h.2 (hb (PP A { S with a := S.a + n }) w' (pp_parts _ _) (fun j hj => ?_) (SpF.mono e2 (fun k hk => Or.inl hk)) e3)⟩
    unfold PP
    split <;> first | rfl | exact absurd rfl hj
  · obtain ⟨G, H, hG, hH, hd, hp, hst, hb⟩ := h.1.part2 (pp_parts A S) 6 1 (by decide)
    have hfree := h6.resolve_left hlt
    refine (uallocN_any n _ w hp hst hd h.2.at rfl h4 h5 h1 (by omega) h2 (Nat.le_refl _) (by decide) h3 hfree).mono ?_
    rintro e w' ⟨c, rfl, a1, a2, a3, a4, a5⟩
    refine ⟨c * S.Wd, _, rfl, Or.inr ⟨by omega, c, _, rfl, a1, a2, rfl, rfl⟩, HeapF.put h.2 (hb (PP A _) w' (pp_parts _ _) (fun j hj hj2 => ?_) a3 a4 a5)⟩
    unfold PP
    split <;> first | rfl | exact absurd rfl hj | exact absurd rfl hj2
theorem HeapF.add (h : HeapF w F A S) {y : Sl} {i : Nat} (ad : Nat) (hy : S.sl[i]? = some y) (hu : y.used = false) (hlow : ∀ j, j < i → usedB S.sl j = true) (hg : y.gen ≤ 255) : Calls Tryz.prog 89 #[.pointer (some ⟨A.t, 0, none⟩), .agg #[.int .i64 ad, .int .i64 1, .bool true, .bool false]] w fun e w' => e = .returned (.tuple #[.agg #[.int .i64 i, .int .i64 (y.gen + 1 : Nat)], .int .i64 0]) ∧ HeapF w' (grow F w w') A { S with sl := S.sl.set i ⟨y.gen + 1, true, ad, 1, true, false⟩ } ∧ Only F w w' := by
  obtain ⟨G, ht, hG, hput⟩ := h.setTable
  exact (tadd_any ad 1 true false w ht h.2.at (fun k hk => h.lt k (hG k hk)) hy hu hlow hg).mono fun e w' ⟨e1, e2, e3⟩ => ⟨e1, hput _ w' e2 e3⟩
theorem HeapF.imake (h : HeapF w F A S) {addr count i : Nat} (hc : count ≤ 1024) (hi : i < 4096) (hcr : count = 0 ∨ S.L.record ≠ 0) (hsz : S.L.size count < 8192) (ha : addr + (S.L.size count + 1) ≤ S.C * S.Wd) (ho : Owned S.own S.Wd addr (S.L.size count + 1)) :
    Calls Tryz.prog 90 #[.pointer (some ⟨A.m, 0, none⟩), .int .i64 addr, .agg #[.int .i64 1, .int .i64 count, .int .i64 i]] w fun e w' => e = .returned (.tuple #[.int .i64 (S.L.size count + 1 : Nat), .int .i64 0]) ∧ HeapF w' (grow F w w') A { S with ws := putAt S.ws addr (hdrN i count 1 :: List.replicate (S.L.size count) 0) } ∧ Only F w w' := by
  obtain ⟨G, H, hI, hG, hm, hput⟩ := h.setStore
  exact (imake_any addr count i w hI hm hc hi hcr hsz ha ho).mono fun e w' ⟨e1, e2, e3⟩ => ⟨e1, hput _ w' e2 e3⟩
theorem HeapF.bput (h : HeapF w F A S) (i : Nat) (hl : S.mine.length ≤ 900000) : Calls Tryz.prog 91 #[.pointer (some ⟨A.bg, 0, none⟩), .int .i64 i] w fun e w' => e = .returned (.bool (!hasL S.mine i)) ∧ HeapF w' (grow F w w') A { S with mine := putL S.mine i } ∧ Only F w w' := by
  obtain ⟨G, hb, hG, hput⟩ := h.setBag
  exact (bputF_any i w hb hl).mono fun e w' ⟨e1, e2, e3⟩ => ⟨e1, hput _ w' e2 e3⟩
theorem HeapF.live (h : HeapF w F A S) {W : World} (hb : Below w.heap.size w W) : Calls Tryz.prog 53 #[.pointer (some ⟨A.tr, 0, none⟩), .int .i64 1] W fun e w' => e = .returned (.bool true) ∧ W = w' := by
  obtain ⟨G, hG, h1⟩ := (h.below hb).1.read 4
  obtain ⟨_, _, h2⟩ : TrF W G A tree1 := h1
  exact qlive_any 1 W h2
theorem HeapF.layout (h : HeapF w F A S) {W : World} (hb : Below w.heap.size w W) : Calls Tryz.prog 86 #[.pointer (some ⟨A.b, 0, none⟩), .int .i64 1] W fun e w' => ∃ v, e = .returned (.tuple #[v, .int .i64 0]) ∧ LayAt w' v S.L ∧ Below W.heap.size W w' := by
  obtain ⟨G, hG, h1⟩ := (h.below hb).1.read 2
  obtain ⟨h2, h3⟩ : Bk1 W G A.b S.L ∧ RightLay S.L := h1
  have k1 := risesN_len h3.refs h3.f
  have k2 := risesN_len h3.recs h3.r
  exact (lget_any W h2 (by omega) (by omega)).mono fun e w' ⟨v, e1, e2, e3⟩ => ⟨v, e1, e2.at, e3⟩
theorem HeapF.left (h : HeapF w F A S) {y : Sl} {i : Nat} (hy : S.sl[i]? = some y) (hu : y.used = false) {W : World} (hb : Below w.heap.size w W) : Calls Tryz.prog 15 #[.pointer (some ⟨A.t, 0, none⟩)] W fun e w' => ∃ k : Nat, e = .returned (.int .i64 (k + 1 : Nat)) ∧ Drawn W w' := by
  obtain ⟨G, ht, -⟩ := (h.below hb).table
  refine (tleft_any W ht).mono ?_
  rintro e w' ⟨rfl, hd⟩
  obtain ⟨tb, m, Fm, ht, -⟩ := ht
  have hik : i < S.K := by rw [← ht.len]; exact (List.getElem?_eq_some_iff.1 hy).1
  have := cntB_lt (B := usedB S.sl) hik (by unfold usedB; simp [List.getD, hy, hu])
  exact ⟨S.K - cntB (usedB S.sl) S.K - 1, by congr 2; omega, hd⟩
def mkS (S : HS) (i gen addr count : Nat) : HS := { S with sl := S.sl.set i ⟨gen, true, addr, 1, true, false⟩, ws := putAt S.ws addr (hdrN i count 1 :: List.replicate (S.L.size count) 0), mine := putL S.mine i }
end Go.Proofs.YtcdpnfchmpncjaaGreatDoor

namespace Go.Proofs.YtcdpnfchmpncjaaGreatDoor
open Go.RowKit Go.Tr Go.Shelf
variable {w w' : World} {F G : Nat → Prop} {A : Ad} {S S1 : HS}
set_option maxRecDepth 100000 in
set_option maxHeartbeats 4000000 in
theorem cmake_any {y : Sl} {i count : Nat} (w : World) (h : HeapF w F A S) (hrt : RightLay S.L) (hroom : RoomOk S (S.L.size count + 1)) (hy : S.sl[i]? = some y) (hu : y.used = false) (hlow : ∀ j, j < i → usedB S.sl j = true) (hg : y.gen ≤ 255) (hc : count ≤ 1024) (hi : i < 4096) (hcr : count = 0 ∨ S.L.record ≠ 0) (hsz : S.L.size count < 8192)
    (hml : S.mine.length ≤ 900000) (hok : ∀ addr S1, AllocSt S (S.L.size count + 1) addr S1 → addr + (S.L.size count + 1) ≤ S.C * S.Wd ∧ Owned S1.own S.Wd addr (S.L.size count + 1)) :
    Calls Tryz.prog 37 #[.pointer (some ⟨A.c, 0, none⟩), .int .i64 1, .int .i64 1, .int .i64 count] w fun e w' => e = .returned (.tuple #[.agg #[.int .i64 i, .int .i64 (y.gen + 1 : Nat)], .int .i64 0]) ∧ ∃ addr S1, AllocSt S (S.L.size count + 1) addr S1 ∧ HeapF w' (grow F w w') A (mkS S1 i (y.gen + 1) addr count) ∧ Only F w w' := by
  have HF := Lib.hid (fun W (hb : Below w.heap.size w W) => h.fields hb)
  have HLV := Lib.hid (fun W (hb : Below w.heap.size w W) => h.live hb)
  have HLY := Lib.hid (fun W (hb : Below w.heap.size w W) => h.layout hb)
  have HLF := Lib.hid (fun W (hb : Below w.heap.size w W) => h.left hy hu hb)
  have HLS := Lib.hid (fun W (hb : Below w.heap.size w W) => h.lookSpace hb)
  have HSZ : Hid (∀ v W, LayAt W v S.L → _) := fun v W (hv : LayAt W v S.L) => lsize_any count W hv hrt hc hcr hsz
  have HRUN := Lib.hid (Run.start h)
  have HLT := Lib.hid h.lt
  have HAL := Lib.hid (fun W (hr : HeapF W F A S) => hr.alloc hroom)
  obtain ⟨z, hz⟩ : ∃ z, z = S.L.size count := ⟨_, rfl⟩
  rw [← hz] at hsz hok HSZ HAL ⊢
  rw [Int.natCast_succ] at HAL
  have HADD : Hid (∀ W F1 S1 addr, AllocSt S (z + 1) addr S1 → HeapF W F1 A S1 → Calls Tryz.prog 89 #[.pointer (some ⟨A.t, 0, none⟩), .agg #[.int .i64 addr, .int .i64 1, .bool true, .bool false]] W fun e w' => e = .returned (.tuple #[.agg #[.int .i64 i, .int .i64 (y.gen + 1 : Nat)], .int .i64 0]) ∧ HeapF w' (grow F1 W w') A { S1 with sl := S1.sl.set i ⟨y.gen + 1, true, addr, 1, true, false⟩ } ∧ Only F1 W w') := fun W F1 S1 addr ha hr => by
    have e : S1.sl = S.sl := by rcases ha with ⟨_, _, e⟩ | ⟨_, c, q, _, _, _, _, e⟩ <;> rw [e]
    exact hr.add addr (by rw [e]; exact hy) hu (by rw [e]; exact hlow) hg
  have HIM : Hid (∀ W F1 S1 addr (sl : List Sl), AllocSt S (z + 1) addr S1 → HeapF W F1 A { S1 with sl := sl } → Calls Tryz.prog 90 #[.pointer (some ⟨A.m, 0, none⟩), .int .i64 addr, .agg #[.int .i64 1, .int .i64 count, .int .i64 i]] W fun e w' => e = .returned (.tuple #[.int .i64 (z + 1 : Nat), .int .i64 0]) ∧ HeapF w' (grow F1 W w') A { S1 with sl := sl, ws := putAt S1.ws addr (hdrN i count 1 :: List.replicate (S1.L.size count) 0) } ∧ Only F1 W w') := fun W F1 S1 addr sl ha hr => by
    have e : S1.L = S.L ∧ S1.C = S.C ∧ S1.Wd = S.Wd := by rcases ha with ⟨_, _, e⟩ | ⟨_, c, q, _, _, _, _, e⟩ <;> rw [e] <;> exact ⟨rfl, rfl, rfl⟩
    obtain ⟨o1, o2⟩ := hok addr S1 ha
    have := hr.imake (addr := addr) (count := count) (i := i) hc hi (by simpa [e.1] using hcr) (by simp [e.1, ← hz]; exact hsz) (by simp [e.1, e.2.1, e.2.2, ← hz]; exact o1) (by simp [e.1, e.2.2, ← hz]; exact o2)
    simp only [e.1, ← hz] at this ⊢
    exact this
  have HPT : Hid (∀ W F1 S1 addr (sl : List Sl) (ws : List Nat), AllocSt S (z + 1) addr S1 → HeapF W F1 A { S1 with sl := sl, ws := ws } → Calls Tryz.prog 91 #[.pointer (some ⟨A.bg, 0, none⟩), .int .i64 i] W fun e w' => e = .returned (.bool (!hasL S1.mine i)) ∧ HeapF w' (grow F1 W w') A { S1 with sl := sl, ws := ws, mine := putL S1.mine i } ∧ Only F1 W w') := fun W F1 S1 addr sl ws ha hr => by
    have e : S1.mine = S.mine := by rcases ha with ⟨_, _, e⟩ | ⟨_, c, q, _, _, _, _, e⟩ <;> rw [e]
    exact hr.bput i (by simp [e]; exact hml)
  have HF1 := Lib.hid (fun W F1 S1 (hr : HeapF W F1 A S1) => hr.fields (Below.refl _ _))
  have HLM := Lib.hid (fun W F1 S1 (hr : HeapF W F1 A S1) => hr.lookMine (Below.refl _ _))
  obtain ⟨g1, hg1⟩ : ∃ g1, g1 = y.gen + 1 := ⟨_, rfl⟩
  rw [← hg1] at HADD ⊢
  have HB0 : Hid (Below w.heap.size w (w.alloc (.cells #[.int .i64 0, .int .i64 0] 38))) := (Below.refl _ w).alloc (Nat.le_refl _) _
  obtain ⟨rb, hrb⟩ : ∃ rb, rb = w.heap.size := ⟨_, rfl⟩
  have HR0 : Hid ((w.alloc (.cells #[.int .i64 0, .int .i64 0] 38)).heap[rb]? = some (.cells #[.int .i64 0, .int .i64 0] 38 (0, 0))) := by rw [hrb]; exact heap_alloc_new w _
  have HRE : Hid (w.heap.size ≤ rb) := Nat.le_of_eq hrb.symm
  obtain ⟨-, -, -, -, c4, -⟩ := HF.out _ HB0.out
  clear h hrt hroom hy hu hlow hg hc hi hcr hml hok hz hg1
  go_enter Tryz.func37, Tryz.ntmps37
  go_wp2_with fail
  rw [← hrb]
  clear hrb c4
  generalize w.alloc (.cells #[.int .i64 0, .int .i64 0] 38) = wa at *
  refine (HLV.out wa HB0.out).mono ?_
  rintro e w1 ⟨rfl, rfl⟩
  obtain ⟨-, c1, -⟩ := HF.out _ HB0.out
  go_wp2_with fail
  refine (HLY.out wa HB0.out).mono ?_
  rintro e w1 ⟨v, rfl, hlay, hb1⟩
  obtain ⟨fx, l1, rx, l2, a1, n1, a2, n2, rfl⟩ : ∃ (fx l1 rx l2 : Nat) (a1 : Option Addr) (n1 : Nat) (a2 : Option Addr) (n2 : Nat), v = .agg #[.int .i64 fx, .slice a1 l1 n1, .int .i64 rx, .slice a2 l2 n2] := by
    obtain ⟨a1, n1, a2, n2, rfl, -, -⟩ := hlay
    exact ⟨_, _, _, _, a1, n1, a2, n2, rfl⟩
  have hb1' : Below wa.heap.size wa (w1.alloc (.cells #[.int .i64 fx, .slice a1 l1 n1, .int .i64 rx, .slice a2 l2 n2] 60)) := hb1.alloc hb1.size _
  have HB1 : Hid (Below w.heap.size w (w1.alloc (.cells #[.int .i64 fx, .slice a1 l1 n1, .int .i64 rx, .slice a2 l2 n2] 60))) := HB0.out.trans (hb1'.mono HB0.out.size)
  have HR1 := Lib.hid (seqAt_fields HR0.out hb1')
  have HLAY : Hid (LayAt (w1.alloc (.cells #[.int .i64 fx, .slice a1 l1 n1, .int .i64 rx, .slice a2 l2 n2] 60)) (.agg #[.int .i64 fx, .slice a1 l1 n1, .int .i64 rx, .slice a2 l2 n2]) S.L) := hlay.kept ((Below.refl _ w1).alloc (Nat.le_refl _) _)
  clear hb1 hb1' hlay c1
  go_wp2_with fail
  generalize w1.alloc (.cells #[.int .i64 fx, .slice a1 l1 n1, .int .i64 rx, .slice a2 l2 n2] 60) = wb at *
  refine (HSZ.out _ wb HLAY.out).mono ?_
  rintro e w2 ⟨rfl, hb2⟩
  have HB2 : Hid (Below w.heap.size w w2) := HB1.out.trans (hb2.mono HB1.out.size)
  have HR2 := Lib.hid (seqAt_fields HR1.out hb2)
  obtain ⟨-, -, -, c3, -⟩ := HF.out _ HB2.out
  clear hb2
  go_wp2_with fail
  refine (HLF.out w2 HB2.out).mono ?_
  rintro e w3 ⟨k, rfl, hd⟩
  have HB3 : Hid (Below w.heap.size w w3) := HB2.out.trans (hd.below _)
  have HR3 := Lib.hid (seqAt_fields HR2.out (hd.below _))
  obtain ⟨-, -, -, -, -, -, c6, -⟩ := HF.out _ HB3.out
  have hk0 : ((k + 1 : Nat) : Int) ≠ 0 := by omega
  have hk1 : (((k + 1 : Nat) : Int) == 0) = false := by simp; omega
  clear hd c3
  go_wp2_with (first
    | (refine list_look (.tmp 65) (.tmp 66) 53 rfl _ _ _ rfl rfl (HLS.out _ HB3.out) ?_)
    | fail)
  refine (HAL.out w3 (HRUN.out.below HB3.out).heap).mono ?_
  rintro e w4 ⟨addr, S1, rfl, ha, h4⟩
  have HA := Lib.hid ha
  have HRN4 := Lib.hid ((HRUN.out.below HB3.out).op h4)
  have HR4 : Hid (Bx w4 (grow F w3 w4) rb (.cells #[.int .i64 0, .int .i64 0] 38 (0, 0))) := Bx.op ⟨fun hf => by have := HLT.out rb hf; have := HRE.out; omega, HR3.out⟩ h4.2
  obtain ⟨F4, hF4⟩ : ∃ F4, F4 = grow F w3 w4 := ⟨_, rfl⟩
  rw [← hF4] at HRN4 HR4
  obtain ⟨-, -, -, c3, -⟩ := HF1.out _ _ _ HRN4.out.heap
  clear ha h4 hF4 hk0 hk1 c6
  go_wp2_with fail
  refine (HADD.out w4 F4 S1 addr HA.out HRN4.out.heap).mono ?_
  rintro e w5 ⟨rfl, h5⟩
  have HRN5 := Lib.hid ((HRN4.out.op h5).below ((Below.refl _ w5).alloc (Nat.le_refl _) (.cells #[.int .i64 i, .int .i64 g1] 38)))
  have HR5 := Lib.hid ((HR4.out.op h5.2).below ((Below.refl _ w5).alloc (Nat.le_refl _) (.cells #[.int .i64 i, .int .i64 g1] 38)))
  have HT5 : Hid (Bx (w5.alloc (.cells #[.int .i64 i, .int .i64 g1] 38)) (grow F4 w4 w5) w5.heap.size (.cells #[.int .i64 i, .int .i64 g1] 38 (0, 0))) := Bx.new h5.1.lt
  obtain ⟨F5, hF5⟩ : ∃ F5, F5 = grow F4 w4 w5 := ⟨_, rfl⟩
  rw [← hF5] at HRN5 HR5 HT5
  obtain ⟨tb, htb⟩ : ∃ tb, tb = w5.heap.size := ⟨_, rfl⟩
  rw [← htb] at HT5
  clear h5 hF5 c3
  go_wp2_with fail
  rw [← htb]
  clear htb
  generalize w5.alloc (.cells #[.int .i64 i, .int .i64 g1] 38) = w6 at *
  obtain ⟨-, -, c2, -⟩ := HF1.out _ _ _ HRN5.out.heap
  have HT6 := Lib.hid HT5.out.2
  have t0 := (cells_of_block HT6.out 0).1
  have t1 := (cells_of_block HT6.out 1).1
  simp at t0 t1
  go_still_tail 10, (by kernel_rfl)
  have HRN6 := Lib.hid (HRN5.out.below (Below.refl _ _).drew)
  have HR6 := Lib.hid (HR5.out.below (Below.refl _ _).drew)
  have HT7 := Lib.hid (HT5.out.below (Below.refl _ _).drew)
  change wpList _ _ _ _ _ w6.drew
  clear c2 t0 t1 HT6
  generalize w6.drew = w7 at *
  go_wp2_with fail
  refine (HIM.out w7 F5 S1 addr _ HA.out HRN6.out.heap).mono ?_
  rintro e w8 ⟨rfl, h8⟩
  have HRN8 := Lib.hid (HRN6.out.op h8)
  have HR8 := Lib.hid (HR6.out.op h8.2)
  have HT8 := Lib.hid (HT7.out.op h8.2)
  obtain ⟨F8, hF8⟩ : ∃ F8, F8 = grow F5 w7 w8 := ⟨_, rfl⟩
  rw [← hF8] at HRN8 HR8 HT8
  obtain ⟨-, -, -, -, -, -, -, c7⟩ := HF1.out _ _ _ HRN8.out.heap
  have HT9 := Lib.hid HT8.out.2
  have t0 := (cells_of_block HT9.out 0).1
  have t1 := (cells_of_block HT9.out 1).1
  simp at t0 t1
  clear h8 hF8
  go_wp2_with fail
  go_still_tail 8, (by kernel_rfl)
  refine still_look (.tmp 102) (.tmp 103) 54 rfl _ _ _ rfl rfl (HLM.out _ _ _ (HRN8.out.below (Below.refl _ _).drew).heap) ?_
  repeat still_step
  refine wpStill_nil ?_
  have HRN9 := Lib.hid (HRN8.out.below (Below.refl _ _).drew)
  have HR9 := Lib.hid (HR8.out.below (Below.refl _ _).drew)
  have HT10 := Lib.hid (HT8.out.below (Below.refl _ _).drew)
  change wpList _ _ _ _ _ w8.drew
  clear c7 t0 t1 HT9
  generalize w8.drew = w9 at *
  go_wp2_with fail
  refine (HPT.out w9 F8 S1 addr _ _ HA.out HRN9.out.heap).mono ?_
  rintro e w10 ⟨rfl, h10⟩
  have HRN11 := Lib.hid (HRN9.out.op h10)
  have HR11 := Lib.hid (HR9.out.op h10.2)
  have HT11 := Lib.hid (HT10.out.op h10.2)
  have HT12 := Lib.hid HT11.out.2
  have HR12 := Lib.hid HR11.out.2
  have t0 := (cells_of_block HT12.out 0).1
  have t1 := (cells_of_block HT12.out 1).1
  simp at t0 t1
  have r0 := cells_of_block HR12.out 0
  have r1 := cells_of_block HR12.out 1
  simp at r0 r1
  obtain ⟨r0, q0⟩ := r0
  obtain ⟨r1, q1⟩ := r1
  clear h10
  go_wp2_with fail
  have e := HRE.out
  have hn := HR11.out.1
  try simp only [Exit.inBlock, Exit.then]
  have hbk : ((w10.setCell ⟨rb, 0, none⟩ (.int .i64 i)).setCell ⟨rb, 1, none⟩ (.int .i64 g1)).heap[rb]? = some (.cells #[.int .i64 i, .int .i64 g1] 38 (0, 0)) := by
    simpa using block_setCell (block_setCell (HR12.out) 0 (.int .i64 i)) 1 (.int .i64 g1)
  exact bodyPost_ret (results_blk rfl _ _ rb _ _ _ _ rfl hbk Tryz.underlying38 rfl rfl) rfl ⟨rfl, addr, S1, HA.out, ((HRN11.out.loc e hn).loc e hn).fin HLT.out⟩
end Go.Proofs.YtcdpnfchmpncjaaGreatDoor

namespace Go.Tr
open Go.RowKit
theorem results_cc {P : Program} {fn : Func} {p p2 : Tmp} {ty ty2 : TypeId} (h : fn.results = #[.cell p ty, .cell p2 ty2]) (tmps : Array Value) (w : World) (g g2 : Nat) (t t2 : TypeId) (cs cs2 : Array Value) (fr fr2 : Nat × Nat) (d d2 : TypeDesc)
    (hp : tmps.getD p undef = .pointer (some ⟨g, 0, none⟩)) (hg : w.heap[g]? = some (.cells cs t fr))
    (hu : P.underlying ty = some d) (hd : (match d with | .struct _ | .array _ _ => true | _ => false) = true) (hi : (P.info? ty).map (·.size) = some cs.size)
    (hp2 : tmps.getD p2 undef = .pointer (some ⟨g2, 0, none⟩)) (hg2 : w.heap[g2]? = some (.cells cs2 t2 fr2))
    (hu2 : P.underlying ty2 = some d2) (hd2 : (match d2 with | .struct _ | .array _ _ => true | _ => false) = true) (hi2 : (P.info? ty2).map (·.size) = some cs2.size) :
    (results fn tmps).run P w = .ok (.tuple #[.agg cs, .agg cs2]) w := by
  have hp' : tmps[p]?.getD undef = .pointer (some ⟨g, 0, none⟩) := by simpa using hp
  have hp2' : tmps[p2]?.getD undef = .pointer (some ⟨g2, 0, none⟩) := by simpa using hp2
  simp [results, h, hp', hp2', asAddr, run_loadVar_row w g t ty cs fr d hg hu hd hi, run_loadVar_row w g2 t2 ty2 cs2 fr2 d2 hg2 hu2 hd2 hi2, Sem.run_bind, Result.andThen]
end Go.Tr
namespace Go.Proofs.YtcdpnfchmpncjaaGreatDoor
open Go.RowKit Go.Tr Go.Shelf
variable {w w' : World} {F G : Nat → Prop} {A : Ad} {S S1 : HS}
theorem HeapF.evf (h : HeapF w F A S) (hon : S.on = true) {W : World} (hb : Below w.heap.size w W) : W.cell? ⟨A.h, 0, none⟩ = some (.pointer (some ⟨A.c, 0, none⟩)) ∧ W.cell? ⟨A.h, 1, none⟩ = some (.int .i64 1) ∧ W.cell? ⟨A.h, 2, none⟩ = some (.pointer (some ⟨A.u2, 0, none⟩)) ∧ W.cell? ⟨A.h, 3, none⟩ = some (.pointer (some ⟨A.gl, 0, none⟩)) := by
  have hc := (h.below hb).ev.1
  rw [hon] at hc
  refine ⟨?_, ?_, ?_, ?_⟩ <;> · rw [(cells_of_block hc _).1]; rfl
theorem HeapF.evf0 (h : HeapF w F A S) (hon : S.on = false) {W : World} (hb : Below w.heap.size w W) : W.cell? ⟨A.h, 0, none⟩ = some (.pointer (some ⟨A.c, 0, none⟩)) ∧ W.cell? ⟨A.h, 1, none⟩ = some (.int .i64 0) := by
  have hc := (h.below hb).ev.1
  rw [hon] at hc
  refine ⟨?_, ?_⟩ <;> · rw [(cells_of_block hc _).1]; rfl
theorem HeapF.evc (h : HeapF w F A S) {W : World} (hb : Below w.heap.size w W) : W.cell? ⟨A.h, 0, none⟩ = some (.pointer (some ⟨A.c, 0, none⟩)) := by
  cases hon : S.on
  · exact (h.evf0 hon hb).1
  · exact (h.evf hon hb).1
theorem HeapF.gray (h : HeapF w F A S) (hon : S.on = true) : ∃ G : Nat → Prop, GrayAt 165 w A.gl G S.gs := by
  obtain ⟨G, hG, h1⟩ := h.1.read 11; exact ⟨G, h1 hon⟩
theorem eunder_any (w : World) (h : HeapF w F A S) (hon : S.on = true) : Calls Tryz.prog 63 #[.pointer (some ⟨A.h, 0, none⟩)] w fun e w' => e = .returned (.int .i64 1) ∧ w = w' := by
  obtain ⟨-, e1, -⟩ := h.evf hon (Below.refl _ _)
  clear h hon
  go_enter Tryz.func63, Tryz.ntmps63
  go_wp2
  go_ret
  exact ⟨rfl, rfl⟩
set_option maxRecDepth 100000 in
theorem eready_any (w : World) (h : HeapF w F A S) (hon : S.on = true) : Calls Tryz.prog 28 #[.pointer (some ⟨A.h, 0, none⟩)] w fun e w' => e = .returned (.bool (decide (S.gs.wait = 0))) ∧ w = w' := by
  have HU := Lib.hid (eunder_any w h hon)
  obtain ⟨-, -, -, e3⟩ := h.evf hon (Below.refl _ _)
  obtain ⟨G, hg⟩ := h.gray hon
  have HG := Lib.hid (glen_any w hg)
  obtain ⟨n, hn⟩ : ∃ n, n = S.gs.wait := ⟨_, rfl⟩
  rw [← hn] at HG ⊢
  clear h hon hg hn
  by_cases h0 : n = 0
  · have hb : (n == 0) = true := by simpa using h0
    rw [show decide (n = 0) = true by simpa using h0]
    clear h0
    go_enter Tryz.func28, Tryz.ntmps28
    go_wp2_with fail
    refine HU.out.mono ?_
    rintro e w1 ⟨rfl, rfl⟩
    go_wp2_with fail
    refine HG.out.mono ?_
    rintro e w1 ⟨rfl, rfl⟩
    go_wp2
    go_ret
    exact ⟨rfl, rfl⟩
  · have hb : (n == 0) = false := by simpa using h0
    rw [show decide (n = 0) = false by simpa using h0]
    clear h0
    go_enter Tryz.func28, Tryz.ntmps28
    go_wp2_with fail
    refine HU.out.mono ?_
    rintro e w1 ⟨rfl, rfl⟩
    go_wp2_with fail
    refine HG.out.mono ?_
    rintro e w1 ⟨rfl, rfl⟩
    go_wp2
    go_ret
    exact ⟨rfl, rfl⟩
set_option maxRecDepth 100000 in
set_option maxHeartbeats 1000000 in
theorem eentry_any {x : Sl} {i : Nat} (w : World) (h : HeapF w F A S) (hx : S.sl[i]? = some x) (hu : x.used = true) : Calls Tryz.prog 56 #[.pointer (some ⟨A.h, 0, none⟩), .int .i64 i] w fun e w' => e = .returned (.tuple #[.agg #[.int .i64 i, .int .i64 x.gen], entryV x]) ∧ Below w.heap.size w w' := by
  have HE := Lib.hid (fun W (hb : Below w.heap.size w W) => h.evc hb)
  have HF := Lib.hid (fun W (hb : Below w.heap.size w W) => h.fields hb)
  have HG := Lib.hid (fun W (hb : Below w.heap.size w W) => h.get hx hu hb)
  have HSL := Lib.hid (fun W (hb : Below w.heap.size w W) => h.slot hx hu hb)
  obtain ⟨g, ug, ad, rg, hd, pn⟩ := x
  simp only [entryV] at HG HSL ⊢
  have h2 := al2 w (.cells #[.int .i64 0, .int .i64 0] 38) (.cells #[.int .i64 0, .int .i64 0, .bool false, .bool false] 93)
  have HB0 := Lib.hid h2.1
  have HT0 := Lib.hid h2.2.1
  have HR0 := Lib.hid h2.2.2
  obtain ⟨rt, hrt⟩ : ∃ rt, rt = w.heap.size := ⟨_, rfl⟩
  obtain ⟨rb, hrb⟩ : ∃ rb, rb = w.heap.size + 1 := ⟨_, rfl⟩
  have HNE : Hid (w.heap.size ≤ rt ∧ w.heap.size ≤ rb ∧ rt ≠ rb) := ⟨by omega, by omega, by omega⟩
  rw [← hrt] at HT0
  rw [← hrb] at HR0
  have c0 := HE.out _ HB0.out
  obtain ⟨-, -, -, c3, -⟩ := HF.out _ HB0.out
  clear h hx hu h2
  go_enter Tryz.func56, Tryz.ntmps56
  go_wp2_with fail
  rw [← hrb, ← hrt]
  clear hrb hrt c0 c3
  generalize (w.alloc (.cells #[.int .i64 0, .int .i64 0] 38)).alloc (.cells #[.int .i64 0, .int .i64 0, .bool false, .bool false] 93) = wa at *
  refine (HSL.out wa HB0.out).mono ?_
  rintro e w1 ⟨rfl, hb1⟩
  have hb1' : Below wa.heap.size wa (w1.alloc (.cells #[.int .i64 i, .int .i64 g] 38)) := hb1.alloc hb1.size _
  have HB1 : Hid (Below w.heap.size w (w1.alloc (.cells #[.int .i64 i, .int .i64 g] 38))) := HB0.out.trans (hb1'.mono HB0.out.size)
  have HT1 := Lib.hid (seqAt_fields HT0.out hb1')
  have HR1 := Lib.hid (seqAt_fields HR0.out hb1')
  have HK1 : Hid ((w1.alloc (.cells #[.int .i64 i, .int .i64 g] 38)).heap[w1.heap.size]? = some (.cells #[.int .i64 i, .int .i64 g] 38 (0, 0))) := heap_alloc_new w1 _
  have htn : rt < w1.heap.size ∧ rb < w1.heap.size := ⟨Nat.lt_of_lt_of_le (block_lt HT0.out) hb1.size, Nat.lt_of_lt_of_le (block_lt HR0.out) hb1.size⟩
  obtain ⟨tb, htb⟩ : ∃ tb, tb = w1.heap.size := ⟨_, rfl⟩
  rw [← htb] at HK1 htn
  have HTN := Lib.hid htn
  clear hb1 hb1' htn
  go_wp2_with fail
  rw [← htb]
  clear htb
  generalize w1.alloc (.cells #[.int .i64 i, .int .i64 g] 38) = w2 at *
  obtain ⟨n2, hn2⟩ : ∃ n, n = w2.heap.size := ⟨_, rfl⟩
  have HN2 : Hid (n2 = w2.heap.size) := hn2
  have HW : Hid (∀ W, Below n2 w2 W → Below w.heap.size w W) := fun W hb => by rw [hn2] at hb; exact HB1.out.trans (hb.mono HB1.out.size)
  clear hn2
  have HD : Hid (∀ W, Below n2 w2 W → W.cell? ⟨A.h, 0, none⟩ = some (.pointer (some ⟨A.c, 0, none⟩)) ∧ W.cell? ⟨A.c, 3, none⟩ = some (.pointer (some ⟨A.t, 0, none⟩)) ∧ W.cell? ⟨tb, 0, none⟩ = some (.int .i64 i) ∧ W.cell? ⟨tb, 1, none⟩ = some (.int .i64 g)) := fun W hb => by
    have ht := (hb.block tb (by rw [HN2.out]; exact block_lt HK1.out)).trans HK1.out
    exact ⟨HE.out W (HW.out W hb), (HF.out W (HW.out W hb)).2.2.2.1, (cells_of_block ht 0).1, (cells_of_block ht 1).1⟩
  refine wp_region_held_drew (S := Below n2 w2) (by kernel_rfl) (Below.refl n2 w2).drew (fun hH => ?_)
  refine tk 0 (v := ?_) rfl ?_ ?_; rotate_left; · intro W hW; go_simp; try with_reducible rfl
  refine tk 1 (v := ?_) rfl ?_ ?_; rotate_left; · intro W hW; go_simp; try with_reducible rfl
  refine tk 2 (v := ?_) rfl ?_ ?_; rotate_left; · intro W hW; go_simp; try with_reducible rfl
  refine tk 3 (v := ?_) rfl ?_ ?_; rotate_left; · intro W hW; obtain ⟨d0, d3, e0, e1⟩ := HD.out W hW; go_simp; try with_reducible rfl
  refine tk 4 (v := ?_) rfl ?_ ?_; rotate_left; · intro W hW; obtain ⟨d0, d3, e0, e1⟩ := HD.out W hW; go_simp; try with_reducible rfl
  refine tk 5 (v := ?_) rfl ?_ ?_; rotate_left; · intro W hW; obtain ⟨d0, d3, e0, e1⟩ := HD.out W hW; go_simp; try with_reducible rfl
  refine tk 6 (v := ?_) rfl ?_ ?_; rotate_left; · intro W hW; obtain ⟨d0, d3, e0, e1⟩ := HD.out W hW; go_simp; try with_reducible rfl
  refine tk 7 (v := ?_) rfl ?_ ?_; rotate_left; · intro W hW; obtain ⟨d0, d3, e0, e1⟩ := HD.out W hW; go_simp; try with_reducible rfl
  refine rd2 8 12 rfl rfl (fun K hK => ?_) (fun K hK => ?_)
  focus
    go_simp
    refine (HG.out _ (HW.out _ hH)).mono ?_
    rintro e w3 ⟨rfl, hb3⟩
    have HB3 : Hid (Below n2 w2 w3) := hH.trans (hb3.mono (by rw [HN2.out]; exact hH.size))
    refine hK.out _ _ HB3.out (fun hH => ?_)
    clear hK K hb3
    refine tk 9 (v := ?_) rfl ?_ ?_; rotate_left; · intro W hW; go_simp; try with_reducible rfl
    refine tk 10 (v := ?_) rfl ?_ ?_; rotate_left; · intro W hW; go_simp; try with_reducible rfl
    refine tk 11 (v := ?_) rfl ?_ ?_; rotate_left; · intro W hW; go_simp; try with_reducible rfl
    refine rd 12 rfl (fun K hK => ?_)
    go_simp
    have HB4 : Hid (Below n2 w2 (w3.alloc (.cells #[.int .i64 ad, .int .i64 rg, .bool hd, .bool pn] 93))) := HB3.out.alloc (by rw [HN2.out]; exact HB3.out.size) _
    refine hK.out _ _ (HB3.out.alloc (by rw [HN2.out]; exact HB3.out.size) _) (fun hH => ?_)
    clear hK K
    refine rd 13 rfl (fun K hK => ?_)
    go_simp
    refine hK.out _ _ HB4.out (fun hH => ?_)
    clear hK K
    obtain ⟨xb, hxb⟩ : ∃ xb, xb = w3.heap.size := ⟨_, rfl⟩
    have HX : Hid ((w3.alloc (.cells #[.int .i64 ad, .int .i64 rg, .bool hd, .bool pn] 93)).heap[xb]? = some (.cells #[.int .i64 ad, .int .i64 rg, .bool hd, .bool pn] 93 (0, 0))) := by rw [hxb]; exact heap_alloc_new w3 _
    have HXE : Hid (n2 ≤ xb) := by show _ ≤ _; rw [hxb, HN2.out]; exact HB3.out.size
    rw [← hxb]
    clear hxb
    generalize w3.alloc (.cells #[.int .i64 ad, .int .i64 rg, .bool hd, .bool pn] 93) = w4 at *
  rotate_left
  focus
    go_simp
    have hb3 : Below n2 w2 (w2.alloc (.cells #[.int .i64 0, .int .i64 0, .bool false, .bool false] 93)).drew := ((Below.refl n2 w2).alloc (Nat.le_of_eq HN2.out) _).drew
    refine hK.out _ _ hb3 (fun hH => ?_)
    clear hK K
    refine rd 8 rfl (fun K hK => ?_)
    go_simp
    refine (HG.out _ (HW.out _ hH)).mono ?_
    rintro e w3 ⟨rfl, hbc⟩
    have HB3 : Hid (Below n2 w2 w3) := hb3.trans (hbc.mono (by rw [HN2.out]; exact hb3.size))
    obtain ⟨xb, hxb⟩ : ∃ xb, xb = w2.heap.size := ⟨_, rfl⟩
    have HX3 : Hid (w3.heap[xb]? = some (.cells #[.int .i64 0, .int .i64 0, .bool false, .bool false] 93 (0, 0))) := by rw [hxb]; exact (hbc.block _ (by simp)).trans (heap_alloc_new w2 _)
    refine hK.out _ _ HB3.out (fun hH => ?_)
    rw [← hxb]
    have hxw : n2 ≤ xb := by rw [HN2.out]; exact Nat.le_of_eq hxb.symm
    have HXE : Hid (n2 ≤ xb) := hxw
    clear hK K hb3 hbc hxb
    refine tk 9 (v := ?_) rfl ?_ ?_; rotate_left; · intro W hW; go_simp; try with_reducible rfl
    refine tk 10 (v := ?_) rfl ?_ ?_; rotate_left; · intro W hW; go_simp; try with_reducible rfl
    refine tk 11 (v := ?_) rfl ?_ ?_; rotate_left; · intro W hW; go_simp; try with_reducible rfl
    have z0 := cells_of_block HX3.out 0
    have z1 := cells_of_block HX3.out 1
    have z2 := cells_of_block HX3.out 2
    have z3 := cells_of_block HX3.out 3
    simp at z0 z1 z2 z3
    obtain ⟨z0, f0⟩ := z0
    obtain ⟨z1, f1⟩ := z1
    obtain ⟨z2, f2⟩ := z2
    obtain ⟨z3, f3⟩ := z3
    refine rd 13 rfl (fun K hK => ?_)
    go_simp
    have HB4 : Hid (Below n2 w2 ((((w3.setCell ⟨xb, 0, none⟩ (.int .i64 ad)).setCell ⟨xb, 1, none⟩ (.int .i64 rg)).setCell ⟨xb, 2, none⟩ (.bool hd)).setCell ⟨xb, 3, none⟩ (.bool pn))) := ((((HB3.out).setCell hxw _).setCell hxw _).setCell hxw _).setCell hxw _
    refine hK.out _ _ HB4.out (fun hH => ?_)
    clear hK K hxw z0 f0 z1 f1 z2 f2 z3 f3
    have HX : Hid (((((w3.setCell ⟨xb, 0, none⟩ (.int .i64 ad)).setCell ⟨xb, 1, none⟩ (.int .i64 rg)).setCell ⟨xb, 2, none⟩ (.bool hd)).setCell ⟨xb, 3, none⟩ (.bool pn)).heap[xb]? = some (.cells #[.int .i64 ad, .int .i64 rg, .bool hd, .bool pn] 93 (0, 0))) := by
      show _ = _
      simpa using block_setCell (block_setCell (block_setCell (block_setCell (HX3.out) 0 (.int .i64 ad)) 1 (.int .i64 rg)) 2 (.bool hd)) 3 (.bool pn)
    generalize (((w3.setCell ⟨xb, 0, none⟩ (.int .i64 ad)).setCell ⟨xb, 1, none⟩ (.int .i64 rg)).setCell ⟨xb, 2, none⟩ (.bool hd)).setCell ⟨xb, 3, none⟩ (.bool pn) = w4 at *
    clear HX3
  all_goals
    refine tk 14 (v := ?_) rfl ?_ ?_; rotate_left; · intro W hW; go_simp; try with_reducible rfl
    refine wpAnyH_done (by kernel_rfl) ?_ _
    have HT4 := Lib.hid ((HB4.out.block rt (by rw [HN2.out]; exact block_lt HT1.out)).trans HT1.out)
    have HR4 := Lib.hid ((HB4.out.block rb (by rw [HN2.out]; exact block_lt HR1.out)).trans HR1.out)
    have HK4 := Lib.hid ((HB4.out.block tb (by rw [HN2.out]; exact block_lt HK1.out)).trans HK1.out)
    have hne : tb ≠ rt ∧ tb ≠ rb ∧ xb ≠ rt ∧ xb ≠ rb ∧ rt ≠ rb ∧ rb ≠ rt := by
      have e1 := HTN.out
      have e2 := HXE.out
      have e3 := HN2.out
      have e4 := block_lt HT1.out
      have e5 := block_lt HR1.out
      have e6 := HNE.out
      omega
    have HN := Lib.hid hne
    clear hne
    go_wp2_with fail
    have HD2 : Hid (∀ W, Only (fun k => k = rt ∨ k = rb) w4 W → W.cell? ⟨tb, 0, none⟩ = some (.int .i64 i) ∧ W.cell? ⟨tb, 1, none⟩ = some (.int .i64 g) ∧ W.cell? ⟨xb, 0, none⟩ = some (.int .i64 ad) ∧ W.cell? ⟨xb, 1, none⟩ = some (.int .i64 rg) ∧ W.cell? ⟨xb, 2, none⟩ = some (.bool hd) ∧ W.cell? ⟨xb, 3, none⟩ = some (.bool pn)) := fun W ho => by
      obtain ⟨n1, n2', n3, n4, -, -⟩ := HN.out
      have k1 := (ho.block tb (block_lt HK4.out) (by omega)).trans HK4.out
      have k2 := (ho.block xb (block_lt HX.out) (by omega)).trans HX.out
      exact ⟨(cells_of_block k1 0).1, (cells_of_block k1 1).1, (cells_of_block k2 0).1, (cells_of_block k2 1).1, (cells_of_block k2 2).1, (cells_of_block k2 3).1⟩
    refine wp_region_held_drew (S := Only (fun k => k = rt ∨ k = rb) w4) (by kernel_rfl) (Only.refl _ w4).drew (fun hH => ?_)
    refine tk 0 (v := ?_) rfl ?_ ?_; rotate_left; · intro W hW; obtain ⟨d0, d1, d2, d3, d4, d5⟩ := HD2.out W hW; go_simp; try with_reducible rfl
    refine tk 1 (v := ?_) rfl ?_ ?_; rotate_left; · intro W hW; obtain ⟨d0, d1, d2, d3, d4, d5⟩ := HD2.out W hW; go_simp; try with_reducible rfl
    refine rd 2 rfl (fun K hK => ?_)
    have t0 := cells_of_block HT4.out 0
    have t1 := cells_of_block HT4.out 1
    simp at t0 t1
    obtain ⟨t0, p0⟩ := t0
    obtain ⟨t1, p1⟩ := t1
    go_simp
    have ho1 : Only (fun k => k = rt ∨ k = rb) w4 ((w4.setCell ⟨rt, 0, none⟩ (.int .i64 i)).setCell ⟨rt, 1, none⟩ (.int .i64 g)) := ((Only.refl (fun k => k = rt ∨ k = rb) w4).setCell (p := ⟨rt, 0, none⟩) (Or.inl (Or.inl rfl)) _).setCell (p := ⟨rt, 1, none⟩) (Or.inl (Or.inl rfl)) _
    refine hK.out _ _ ho1.drew (fun hH => ?_)
    clear hK K t0 t1 p0 p1
    have HA1 : Hid (((w4.setCell ⟨rt, 0, none⟩ (.int .i64 i)).setCell ⟨rt, 1, none⟩ (.int .i64 g)).heap[rt]? = some (.cells #[.int .i64 i, .int .i64 g] 38 (0, 0))) := by
      show _ = _
      simpa using block_setCell (block_setCell HT4.out 0 (.int .i64 i)) 1 (.int .i64 g)
    have HA2 : Hid (((w4.setCell ⟨rt, 0, none⟩ (.int .i64 i)).setCell ⟨rt, 1, none⟩ (.int .i64 g)).heap[rb]? = some (.cells #[.int .i64 0, .int .i64 0, .bool false, .bool false] 93 (0, 0))) := by
      show _ = _
      rw [Below.heap_setCell _ _ _ _ HN.out.2.2.2.2.2, Below.heap_setCell _ _ _ _ HN.out.2.2.2.2.2]; exact HR4.out
    have HA3 : Hid (Below w.heap.size w ((w4.setCell ⟨rt, 0, none⟩ (.int .i64 i)).setCell ⟨rt, 1, none⟩ (.int .i64 g))) := ((HW.out _ HB4.out).setCell HNE.out.1 _).setCell HNE.out.1 _
    generalize ((w4.setCell ⟨rt, 0, none⟩ (.int .i64 i)).setCell ⟨rt, 1, none⟩ (.int .i64 g)) = w5 at *
    have r0 := cells_of_block HA2.out 0
    have r1 := cells_of_block HA2.out 1
    have r2 := cells_of_block HA2.out 2
    have r3 := cells_of_block HA2.out 3
    simp at r0 r1 r2 r3
    obtain ⟨r0, q0⟩ := r0
    obtain ⟨r1, q1⟩ := r1
    obtain ⟨r2, q2⟩ := r2
    obtain ⟨r3, q3⟩ := r3
    refine rd 3 rfl (fun K hK => ?_)
    go_simp
    have ho2 : Only (fun k => k = rt ∨ k = rb) w4 ((((w5.setCell ⟨rb, 0, none⟩ (.int .i64 ad)).setCell ⟨rb, 1, none⟩ (.int .i64 rg)).setCell ⟨rb, 2, none⟩ (.bool hd)).setCell ⟨rb, 3, none⟩ (.bool pn)) := (((ho1.setCell (p := ⟨rb, 0, none⟩) (Or.inl (Or.inr rfl)) _).setCell (p := ⟨rb, 1, none⟩) (Or.inl (Or.inr rfl)) _).setCell (p := ⟨rb, 2, none⟩) (Or.inl (Or.inr rfl)) _).setCell (p := ⟨rb, 3, none⟩) (Or.inl (Or.inr rfl)) _
    refine hK.out _ _ ho2.drew (fun hH => ?_)
    clear hK K r0 r1 r2 r3 q0 q1 q2 q3
    have HF1 : Hid (((((w5.setCell ⟨rb, 0, none⟩ (.int .i64 ad)).setCell ⟨rb, 1, none⟩ (.int .i64 rg)).setCell ⟨rb, 2, none⟩ (.bool hd)).setCell ⟨rb, 3, none⟩ (.bool pn)).heap[rb]? = some (.cells #[.int .i64 ad, .int .i64 rg, .bool hd, .bool pn] 93 (0, 0))) := by
      show _ = _
      simpa using block_setCell (block_setCell (block_setCell (block_setCell HA2.out 0 (.int .i64 ad)) 1 (.int .i64 rg)) 2 (.bool hd)) 3 (.bool pn)
    have HF2 : Hid (((((w5.setCell ⟨rb, 0, none⟩ (.int .i64 ad)).setCell ⟨rb, 1, none⟩ (.int .i64 rg)).setCell ⟨rb, 2, none⟩ (.bool hd)).setCell ⟨rb, 3, none⟩ (.bool pn)).heap[rt]? = some (.cells #[.int .i64 i, .int .i64 g] 38 (0, 0))) := by
      show _ = _
      have n5 := HN.out.2.2.2.2.1
      rw [Below.heap_setCell _ _ _ _ n5, Below.heap_setCell _ _ _ _ n5, Below.heap_setCell _ _ _ _ n5, Below.heap_setCell _ _ _ _ n5]; exact HA1.out
    have HF3 : Hid (Below w.heap.size w ((((w5.setCell ⟨rb, 0, none⟩ (.int .i64 ad)).setCell ⟨rb, 1, none⟩ (.int .i64 rg)).setCell ⟨rb, 2, none⟩ (.bool hd)).setCell ⟨rb, 3, none⟩ (.bool pn))) := (((HA3.out.setCell HNE.out.2.1 _).setCell HNE.out.2.1 _).setCell HNE.out.2.1 _).setCell HNE.out.2.1 _
    generalize (((w5.setCell ⟨rb, 0, none⟩ (.int .i64 ad)).setCell ⟨rb, 1, none⟩ (.int .i64 rg)).setCell ⟨rb, 2, none⟩ (.bool hd)).setCell ⟨rb, 3, none⟩ (.bool pn) = w6 at *
    refine wpAnyH_done (by kernel_rfl) ?_ _
    go_wp2_with fail
    try simp only [Exit.inBlock, Exit.then]
    exact bodyPost_ret (results_cc rfl _ _ rt rb _ _ _ _ _ _ _ _ rfl HF2.out Tryz.underlying38 rfl rfl rfl HF1.out Tryz.underlying93 rfl rfl) rfl ⟨rfl, HF3.out.drew⟩
end Go.Proofs.YtcdpnfchmpncjaaGreatDoor

namespace Go.Tr
open Go.RowKit
section
variable {P : Program} {ops : Array Oper} {md : Region.Mode} {Q : Exit → Act → World → Prop} {S : World → Prop}
theorem tku (i : Nat) {oi : Oper} {fuel : Nat} {listed : Array Bool} {a : Act} {w : World} (ho : (ops.toList.drop i).head? = some oi)
    (h : wpAnyH P md ops Q S fuel (listed.setIfInBounds i true) (a.put oi.dst undef) w) (hS : S w := by assumption)
    (hs : Region.noSelect ops = true := by kernel_rfl) (hf : Region.free md ops listed i = true := by kernel_rfl) (hr : (Region.ready md ops listed).contains i = true := by kernel_rfl)
    (hQ : ∀ c a w, Q (.panic c) (a.put oi.dst undef) w → Q (.panic c) a w := by exact fun _ _ _ h => h) (hw : Region.wanted oi (yielded ops a.tmps) = false := by rfl) : wpAnyH P md ops Q S (fuel + 1) listed a w :=
  wpAnyH_take (by have := at_drop ho; simpa using this) hs hf hr hQ (Or.inr ⟨hw, rfl⟩) hS h
end
end Go.Tr
namespace Go.Proofs.YtcdpnfchmpncjaaGreatDoor
open Go.RowKit Go.Tr Go.Shelf
variable {w w' : World} {F G : Nat → Prop} {A : Ad} {S S1 : HS}
theorem contains_any (a : Option Addr) (n c : Nat) (zs : List Int) (x : Int) (w : World) (h : SeqAt w a (ints zs)) (hl : zs.length = n) (hn : n ≤ 1000000) : Calls Tryz.prog 192 #[.slice a n c, .int .i64 x] w fun e w' => e = .returned (.bool (hasL zs x)) ∧ w' = w := by
  have hc : ∀ zs : List Int, zs.contains x = hasL zs x := fun zs => by rw [Bool.eq_iff_iff, hasL_iff, List.contains_iff_mem]
  by_cases h0 : n = 0
  · subst h0
    have hz : zs = [] := List.eq_nil_of_length_eq_zero hl
    subst hz
    exact (Any.slices_Contains_int_empty laysContains a c x w).mono fun e w' ⟨h1, h2⟩ => ⟨h1, h2⟩
  · obtain ⟨b, off, rfl, hcell⟩ := h (by rw [ints_length]; omega)
    refine (Any.slices_Contains_int laysContains b off n c zs x w (by omega) (by omega) (fun j hj => ?_)).mono fun e w' ⟨h1, h2⟩ => ⟨by rw [h1, List.take_of_length_le (by omega), hc], h2⟩
    rw [hcell j (by rw [ints_length]; exact hj)]
    simp [ints, List.getD, hj, iv]
structure SpOk (ps : List (Nat × Nat)) : Prop where
  n : ps.length ≤ 100000
  l : (chunksL ps).length ≤ 100000
  b : ∀ p ∈ ps, p.1 + p.2 ≤ 1048576
theorem HeapF.chunks (h : HeapF w F A S) (hs : SpOk S.ps) {W : World} (hb : Below w.heap.size w W) : Calls Tryz.prog 69 #[.pointer (some ⟨A.u, 0, none⟩)] W fun e w' => ∃ v, e = .returned v ∧ own3 w' 3 W.heap.size v (chunksL S.ps) ∧ Below W.heap.size W w' := by
  obtain ⟨G, hG, h1⟩ := (h.below hb).1.read 6
  have h2 : SpF 154 W G A.u A.s 1 S.ps S.a S.en := h1
  exact uchunks_any W h2 hs.n hs.l hs.b
theorem HeapF.big (h : HeapF w F A S) (hs : SpOk S.ps) (c : Nat) {W : World} (hb : Below w.heap.size w W) : Calls Tryz.prog 152 #[.pointer (some ⟨A.u, 0, none⟩), .int .i64 c] W fun e w' => e = .returned (.bool (bigPart S.ps c)) ∧ Below W.heap.size W w' := by
  obtain ⟨G, hG, h1⟩ := (h.below hb).1.read 6
  have h2 : SpF 154 W G A.u A.s 1 S.ps S.a S.en := h1
  exact ubig_any c W h2 (by have := hs.n; omega) hs.b
theorem HeapF.words (h : HeapF w F A S) {W : World} (hb : Below w.heap.size w W) : Calls Tryz.prog 68 #[.pointer (some ⟨A.s, 0, none⟩)] W fun e w' => e = .returned (.int .i64 S.Wd) ∧ W = w' := by
  obtain ⟨G, hG, h1⟩ := (h.below hb).1.read 1
  exact swords_any W h1
theorem HeapF.wd (h : HeapF w F A S) : 1 ≤ S.Wd ∧ S.Wd ≤ 1024 := by
  obtain ⟨G, hG, h1⟩ := h.1.read 1
  obtain ⟨wb, ob, m, Fm, h2, -⟩ : StF w G A.s S.C S.Wd S.ws S.own := h1
  exact h2.wd
set_option maxRecDepth 100000 in
set_option maxHeartbeats 2000000 in
theorem efirst_any (ad : Nat) (w : World) (h : HeapF w F A S) (hon : S.on = true) (hs : SpOk S.ps) (had : ad ≤ 1048576) : Calls Tryz.prog 153 #[.pointer (some ⟨A.h, 0, none⟩), .int .i64 ad] w fun e w' => e = .returned (.bool (hasL (chunksL S.ps) ((ad / S.Wd : Nat) : Int))) ∧ Below w.heap.size w w' := by
  have HE := Lib.hid (fun W (hb : Below w.heap.size w W) => h.evf hon hb)
  have HF := Lib.hid (fun W (hb : Below w.heap.size w W) => h.fields hb)
  have HLS := Lib.hid (fun W (hb : Below w.heap.size w W) => h.lookSpace hb)
  have HCH := Lib.hid (fun W (hb : Below w.heap.size w W) => h.chunks hs hb)
  have HWD := Lib.hid (fun W (hb : Below w.heap.size w W) => h.words hb)
  have hw0 : ¬ (S.Wd = 0) := by have := h.wd; omega
  have hwr : IntKind.i64.wrap ((ad / S.Wd : Nat) : Int) = ((ad / S.Wd : Nat) : Int) := by
    have h1 := Nat.div_le_self ad S.Wd
    obtain ⟨q, hq⟩ : ∃ q, q = ad / S.Wd := ⟨_, rfl⟩
    rw [← hq] at h1 ⊢
    rw [IntWalk.i64_in _ (by omega)]
  have hq : (ad : Int) / (S.Wd : Int) = ((ad / S.Wd : Nat) : Int) := by push_cast; rfl
  have HL : Hid ((chunksL S.ps).length ≤ 100000) := hs.l
  obtain ⟨wd, hwd⟩ : ∃ wd, wd = S.Wd := ⟨_, rfl⟩
  obtain ⟨q, hqd⟩ : ∃ q, q = ad / S.Wd := ⟨_, rfl⟩
  rw [← hqd] at hq hwr ⊢
  rw [← hwd] at hq hw0 HWD
  obtain ⟨zs, hzs⟩ : ∃ zs, zs = chunksL S.ps := ⟨_, rfl⟩
  rw [← hzs] at HCH HL ⊢
  obtain ⟨n, hn⟩ : ∃ n, n = w.heap.size := ⟨_, rfl⟩
  have HN : Hid (n = w.heap.size) := hn
  rw [← hn] at HE HF HLS HCH HWD ⊢
  clear h hon hs had hwd hqd hzs hn
  go_enter Tryz.func153, Tryz.ntmps153
  go_wp2_with fail
  refine wp_region_held_drew (S := Below n w) (by kernel_rfl) (Below.refl n w).drew (fun hH => ?_)
  refine tk 0 (v := ?_) rfl ?_ ?_; rotate_left; · intro W hW; obtain ⟨e0, e1, -⟩ := HE.out W hW; obtain ⟨c0, -, -, -, -, -, c6, -⟩ := HF.out W hW; go_simp; try with_reducible rfl
  try simp only [Go.Tr.nz]
  refine tk 1 (v := ?_) rfl ?_ ?_; rotate_left; · intro W hW; obtain ⟨e0, e1, -⟩ := HE.out W hW; obtain ⟨c0, -, -, -, -, -, c6, -⟩ := HF.out W hW; go_simp; try with_reducible rfl
  try simp only [Go.Tr.nz]
  refine tk 2 (v := ?_) rfl ?_ ?_; rotate_left; · intro W hW; obtain ⟨e0, e1, -⟩ := HE.out W hW; obtain ⟨c0, -, -, -, -, -, c6, -⟩ := HF.out W hW; go_simp; try with_reducible rfl
  try simp only [Go.Tr.nz]
  refine tk 3 (v := ?_) rfl ?_ ?_; rotate_left; · intro W hW; obtain ⟨e0, e1, -⟩ := HE.out W hW; obtain ⟨c0, -, -, -, -, -, c6, -⟩ := HF.out W hW; go_simp; try with_reducible rfl
  try simp only [Go.Tr.nz]
  refine tk 4 (v := ?_) rfl ?_ ?_; rotate_left; · intro W hW; obtain ⟨e0, e1, -⟩ := HE.out W hW; obtain ⟨c0, -, -, -, -, -, c6, -⟩ := HF.out W hW; go_simp; try with_reducible rfl
  try simp only [Go.Tr.nz]
  refine tk 5 (v := ?_) rfl ?_ ?_; rotate_left; · intro W hW; obtain ⟨e0, e1, -⟩ := HE.out W hW; obtain ⟨c0, -, -, -, -, -, c6, -⟩ := HF.out W hW; go_simp; try with_reducible rfl
  try simp only [Go.Tr.nz]
  refine tk 6 (v := ?_) rfl ?_ ?_; rotate_left; · intro W hW; obtain ⟨e0, e1, -⟩ := HE.out W hW; obtain ⟨c0, -, -, -, -, -, c6, -⟩ := HF.out W hW; go_simp; try with_reducible rfl
  try simp only [Go.Tr.nz]
  refine tk 7 (v := ?_) rfl ?_ ?_; rotate_left; · intro W hW; obtain ⟨e0, e1, -⟩ := HE.out W hW; obtain ⟨c0, -, -, -, -, -, c6, -⟩ := HF.out W hW; go_simp; try with_reducible rfl
  try simp only [Go.Tr.nz]
  refine tk 8 (v := ?_) rfl ?_ ?_; rotate_left; · intro W hW; obtain ⟨e0, e1, -⟩ := HE.out W hW; obtain ⟨c0, -, -, -, -, -, c6, -⟩ := HF.out W hW; go_simp; try with_reducible rfl
  try simp only [Go.Tr.nz]
  refine tk 9 (v := ?_) rfl ?_ ?_; rotate_left; · intro W hW; obtain ⟨e0, e1, -⟩ := HE.out W hW; obtain ⟨c0, -, -, -, -, -, c6, -⟩ := HF.out W hW; go_simp; try with_reducible rfl
  try simp only [Go.Tr.nz]
  refine tk 10 (v := ?_) rfl ?_ ?_; rotate_left; · intro W hW; obtain ⟨e0, e1, -⟩ := HE.out W hW; obtain ⟨c0, -, -, -, -, -, c6, -⟩ := HF.out W hW; go_simp; try with_reducible rfl
  try simp only [Go.Tr.nz]
  refine tk 11 (v := .pointer (some ⟨A.u, 0, none⟩)) rfl (fun W hW => exec_look (.tmp 11) (.tmp 15) 53 rfl _ _ _ rfl rfl (HLS.out W hW)) ?_
  try simp only [Go.Tr.nz]
  refine tk 13 (v := ?_) rfl ?_ ?_; rotate_left; · intro W hW; obtain ⟨e0, e1, -⟩ := HE.out W hW; obtain ⟨c0, -, -, -, -, -, c6, -⟩ := HF.out W hW; go_simp; try with_reducible rfl
  try simp only [Go.Tr.nz]
  refine tk 14 (v := ?_) rfl ?_ ?_; rotate_left; · intro W hW; obtain ⟨e0, e1, -⟩ := HE.out W hW; obtain ⟨c0, -, -, -, -, -, c6, -⟩ := HF.out W hW; go_simp; try with_reducible rfl
  try simp only [Go.Tr.nz]
  refine tk 15 (v := ?_) rfl ?_ ?_; rotate_left; · intro W hW; obtain ⟨e0, e1, -⟩ := HE.out W hW; obtain ⟨c0, -, -, -, -, -, c6, -⟩ := HF.out W hW; go_simp; try with_reducible rfl
  try simp only [Go.Tr.nz]
  refine tk 16 (v := ?_) rfl ?_ ?_; rotate_left; · intro W hW; obtain ⟨e0, e1, -⟩ := HE.out W hW; obtain ⟨c0, -, -, -, -, -, c6, -⟩ := HF.out W hW; go_simp; try with_reducible rfl
  try simp only [Go.Tr.nz]
  refine tk 17 (v := ?_) rfl ?_ ?_; rotate_left; · intro W hW; obtain ⟨e0, e1, -⟩ := HE.out W hW; obtain ⟨c0, -, -, -, -, -, c6, -⟩ := HF.out W hW; go_simp; try with_reducible rfl
  try simp only [Go.Tr.nz]
  refine tk 18 (v := ?_) rfl ?_ ?_; rotate_left; · intro W hW; obtain ⟨e0, e1, -⟩ := HE.out W hW; obtain ⟨c0, -, -, -, -, -, c6, -⟩ := HF.out W hW; go_simp; try with_reducible rfl
  try simp only [Go.Tr.nz]
  refine tk 19 (v := ?_) rfl ?_ ?_; rotate_left; · intro W hW; obtain ⟨e0, e1, -⟩ := HE.out W hW; obtain ⟨c0, -, -, -, -, -, c6, -⟩ := HF.out W hW; go_simp; try with_reducible rfl
  try simp only [Go.Tr.nz]
  refine tk 20 (v := ?_) rfl ?_ ?_; rotate_left; · intro W hW; obtain ⟨e0, e1, -⟩ := HE.out W hW; obtain ⟨c0, -, -, -, -, -, c6, -⟩ := HF.out W hW; go_simp; try with_reducible rfl
  try simp only [Go.Tr.nz]
  refine rd 12 rfl (fun K hK => ?_)
  go_simp
  refine (HCH.out _ hH).mono ?_
  rintro e w1 ⟨v, rfl, hv, hb⟩
  obtain ⟨a1, cp, rfl, hsq, -, -⟩ := ownsRow_seq hv
  have HSQ := Lib.hid hsq
  have HB1 : Hid (Below n w w1) := hH.trans (hb.mono (by rw [HN.out]; exact hH.size))
  refine hK.out _ _ HB1.out (fun hH => ?_)
  clear hK K hv hsq hb
  refine rd 21 rfl (fun K hK => ?_)
  go_simp
  refine (HWD.out _ hH).mono ?_
  rintro e w2 ⟨rfl, rfl⟩
  refine hK.out _ _ hH (fun hH => ?_)
  clear hK K
  refine tk 22 (v := ?_) rfl ?_ ?_; rotate_left; · intro W hW; go_simp; try with_reducible rfl
  try simp only [Go.Tr.nz]
  refine rd 23 rfl (fun K hK => ?_)
  go_simp
  refine (contains_any a1 _ cp zs q w1 HSQ.out rfl (by have := HL.out; omega)).mono ?_
  rintro e w3 ⟨rfl, rfl⟩
  refine hK.out _ _ HB1.out (fun hH => ?_)
  clear hK K
  refine tk 24 (v := ?_) rfl ?_ ?_; rotate_left; · intro W hW; go_simp; try with_reducible rfl
  try simp only [Go.Tr.nz]
  refine wpAnyH_done (by kernel_rfl) ?_ _
  go_wp2_with fail
  go_ret
  exact ⟨rfl, HB1.out⟩
set_option maxRecDepth 100000 in
set_option maxHeartbeats 4000000 in
theorem estays_any (ad rg : Nat) (hd : Bool) (w : World) (h : HeapF w F A S) (hon : S.on = true) (hs : SpOk S.ps) (had : ad ≤ 1048576) : Calls Tryz.prog 109 #[.pointer (some ⟨A.h, 0, none⟩), .agg #[.int .i64 ad, .int .i64 rg, .bool hd, .bool false]] w fun e w' => e = .returned (.bool (bigPart S.ps (ad / S.Wd) || !hasL (chunksL S.ps) ((ad / S.Wd : Nat) : Int))) ∧ Below w.heap.size w w' := by
  have hb1 : Below w.heap.size w (w.alloc (.cells #[.int .i64 ad, .int .i64 rg, .bool hd, .bool false] 93)) := (Below.refl _ w).alloc (Nat.le_refl _) _
  have h := h.below hb1
  have HB1 := Lib.hid hb1
  have HX1 : Hid ((w.alloc (.cells #[.int .i64 ad, .int .i64 rg, .bool hd, .bool false] 93)).heap[w.heap.size]? = some (.cells #[.int .i64 ad, .int .i64 rg, .bool hd, .bool false] 93 (0, 0))) := heap_alloc_new w _
  obtain ⟨xb, hxb⟩ : ∃ xb, xb = w.heap.size := ⟨_, rfl⟩
  rw [← hxb] at HX1
  have hw0 : ¬ (S.Wd = 0) := by have := h.wd; omega
  have hwr : IntKind.i64.wrap ((ad / S.Wd : Nat) : Int) = ((ad / S.Wd : Nat) : Int) := by
    have h1 := Nat.div_le_self ad S.Wd
    obtain ⟨q, hq⟩ : ∃ q, q = ad / S.Wd := ⟨_, rfl⟩
    rw [← hq] at h1 ⊢
    rw [IntWalk.i64_in _ (by omega)]
  have hq : (ad : Int) / (S.Wd : Int) = ((ad / S.Wd : Nat) : Int) := by push_cast; rfl
  have HH := Lib.hid h
  have HFI := Lib.hid (fun W (hb : Below (w.alloc (.cells #[.int .i64 ad, .int .i64 rg, .bool hd, .bool false] 93)).heap.size (w.alloc (.cells #[.int .i64 ad, .int .i64 rg, .bool hd, .bool false] 93)) W) => efirst_any ad W (h.below hb) hon hs had)
  have HBG := Lib.hid (fun W hb => h.big hs (ad / S.Wd) (W := W) hb)
  have HE := Lib.hid (fun W hb => h.evf hon (W := W) hb)
  have HF := Lib.hid (fun W hb => h.fields (W := W) hb)
  have HLS := Lib.hid (fun W hb => h.lookSpace (W := W) hb)
  have HWD := Lib.hid (fun W hb => h.words (W := W) hb)
  obtain ⟨wd, hwd⟩ : ∃ wd, wd = S.Wd := ⟨_, rfl⟩
  obtain ⟨q, hqd⟩ : ∃ q, q = ad / S.Wd := ⟨_, rfl⟩
  rw [← hqd] at hq hwr HFI HBG ⊢
  rw [← hwd] at hq hw0 HWD
  obtain ⟨bg, hbg⟩ : ∃ bg, bg = bigPart S.ps q := ⟨_, rfl⟩
  obtain ⟨bf, hbf⟩ : ∃ bf, bf = hasL (chunksL S.ps) (q : Int) := ⟨_, rfl⟩
  rw [← hbg] at HBG ⊢
  rw [← hbf] at HFI ⊢
  clear h hon hs had hwd hqd hbg hbf hb1
  go_enter Tryz.func109, Tryz.ntmps109
  go_wp2_with fail
  rw [← hxb]
  clear hxb
  generalize w.alloc (.cells #[.int .i64 ad, .int .i64 rg, .bool hd, .bool false] 93) = wa at *
  obtain ⟨n, hn⟩ : ∃ n, n = wa.heap.size := ⟨_, rfl⟩
  have HN : Hid (n = wa.heap.size) := hn
  rw [← hn] at HE HF HLS HBG HFI HWD
  clear hn
  have HX : Hid (∀ W, Below n wa W → W.cell? ⟨xb, 0, none⟩ = some (.int .i64 ad) ∧ W.cell? ⟨xb, 3, none⟩ = some (.bool false)) := fun W hb => by
    have ht := (hb.block xb (by rw [HN.out]; exact block_lt HX1.out)).trans HX1.out
    exact ⟨(cells_of_block ht 0).1, (cells_of_block ht 3).1⟩
  refine wp_region_held_drew (S := Below n wa) (by kernel_rfl) (Below.refl n wa).drew (fun hH => ?_)
  refine tk 0 (v := ?_) rfl ?_ ?_; rotate_left; · intro W hW; obtain ⟨e0, e1, -⟩ := HE.out W hW; obtain ⟨c0, -, -, -, -, -, c6, -⟩ := HF.out W hW; obtain ⟨x0, x3⟩ := HX.out W hW; go_simp; try with_reducible rfl
  try simp only [Go.Tr.nz]
  refine tk 1 (v := ?_) rfl ?_ ?_; rotate_left; · intro W hW; obtain ⟨e0, e1, -⟩ := HE.out W hW; obtain ⟨c0, -, -, -, -, -, c6, -⟩ := HF.out W hW; obtain ⟨x0, x3⟩ := HX.out W hW; go_simp; try with_reducible rfl
  try simp only [Go.Tr.nz]
  refine tk 2 (v := ?_) rfl ?_ ?_; rotate_left; · intro W hW; obtain ⟨e0, e1, -⟩ := HE.out W hW; obtain ⟨c0, -, -, -, -, -, c6, -⟩ := HF.out W hW; obtain ⟨x0, x3⟩ := HX.out W hW; go_simp; try with_reducible rfl
  try simp only [Go.Tr.nz]
  refine tk 3 (v := ?_) rfl ?_ ?_; rotate_left; · intro W hW; obtain ⟨e0, e1, -⟩ := HE.out W hW; obtain ⟨c0, -, -, -, -, -, c6, -⟩ := HF.out W hW; obtain ⟨x0, x3⟩ := HX.out W hW; go_simp; try with_reducible rfl
  try simp only [Go.Tr.nz]
  refine tk 4 (v := ?_) rfl ?_ ?_; rotate_left; · intro W hW; obtain ⟨e0, e1, -⟩ := HE.out W hW; obtain ⟨c0, -, -, -, -, -, c6, -⟩ := HF.out W hW; obtain ⟨x0, x3⟩ := HX.out W hW; go_simp; try with_reducible rfl
  try simp only [Go.Tr.nz]
  refine tk 5 (v := ?_) rfl ?_ ?_; rotate_left; · intro W hW; obtain ⟨e0, e1, -⟩ := HE.out W hW; obtain ⟨c0, -, -, -, -, -, c6, -⟩ := HF.out W hW; obtain ⟨x0, x3⟩ := HX.out W hW; go_simp; try with_reducible rfl
  try simp only [Go.Tr.nz]
  refine tk 6 (v := ?_) rfl ?_ ?_; rotate_left; · intro W hW; obtain ⟨e0, e1, -⟩ := HE.out W hW; obtain ⟨c0, -, -, -, -, -, c6, -⟩ := HF.out W hW; obtain ⟨x0, x3⟩ := HX.out W hW; go_simp; try with_reducible rfl
  try simp only [Go.Tr.nz]
  refine tk 7 (v := ?_) rfl ?_ ?_; rotate_left; · intro W hW; obtain ⟨e0, e1, -⟩ := HE.out W hW; obtain ⟨c0, -, -, -, -, -, c6, -⟩ := HF.out W hW; obtain ⟨x0, x3⟩ := HX.out W hW; go_simp; try with_reducible rfl
  try simp only [Go.Tr.nz]
  refine tk 8 (v := ?_) rfl ?_ ?_; rotate_left; · intro W hW; obtain ⟨e0, e1, -⟩ := HE.out W hW; obtain ⟨c0, -, -, -, -, -, c6, -⟩ := HF.out W hW; obtain ⟨x0, x3⟩ := HX.out W hW; go_simp; try with_reducible rfl
  try simp only [Go.Tr.nz]
  refine tk 9 (v := ?_) rfl ?_ ?_; rotate_left; · intro W hW; obtain ⟨e0, e1, -⟩ := HE.out W hW; obtain ⟨c0, -, -, -, -, -, c6, -⟩ := HF.out W hW; obtain ⟨x0, x3⟩ := HX.out W hW; go_simp; try with_reducible rfl
  try simp only [Go.Tr.nz]
  refine tk 10 (v := ?_) rfl ?_ ?_; rotate_left; · intro W hW; obtain ⟨e0, e1, -⟩ := HE.out W hW; obtain ⟨c0, -, -, -, -, -, c6, -⟩ := HF.out W hW; obtain ⟨x0, x3⟩ := HX.out W hW; go_simp; try with_reducible rfl
  try simp only [Go.Tr.nz]
  refine tk 11 (v := ?_) rfl ?_ ?_; rotate_left; · intro W hW; obtain ⟨e0, e1, -⟩ := HE.out W hW; obtain ⟨c0, -, -, -, -, -, c6, -⟩ := HF.out W hW; obtain ⟨x0, x3⟩ := HX.out W hW; go_simp; try with_reducible rfl
  try simp only [Go.Tr.nz]
  refine tk 12 (v := ?_) rfl ?_ ?_; rotate_left; · intro W hW; obtain ⟨e0, e1, -⟩ := HE.out W hW; obtain ⟨c0, -, -, -, -, -, c6, -⟩ := HF.out W hW; obtain ⟨x0, x3⟩ := HX.out W hW; go_simp; try with_reducible rfl
  try simp only [Go.Tr.nz]
  refine tk 13 (v := ?_) rfl ?_ ?_; rotate_left; · intro W hW; obtain ⟨e0, e1, -⟩ := HE.out W hW; obtain ⟨c0, -, -, -, -, -, c6, -⟩ := HF.out W hW; obtain ⟨x0, x3⟩ := HX.out W hW; go_simp; try with_reducible rfl
  try simp only [Go.Tr.nz]
  refine tk 14 (v := .pointer (some ⟨A.u, 0, none⟩)) rfl (fun W hW => exec_look (.tmp 14) (.tmp 18) 53 rfl _ _ _ rfl rfl (HLS.out W hW)) ?_
  try simp only [Go.Tr.nz]
  refine tk 15 (v := ?_) rfl ?_ ?_; rotate_left; · intro W hW; obtain ⟨e0, e1, -⟩ := HE.out W hW; obtain ⟨c0, -, -, -, -, -, c6, -⟩ := HF.out W hW; obtain ⟨x0, x3⟩ := HX.out W hW; go_simp; try with_reducible rfl
  try simp only [Go.Tr.nz]
  refine tk 16 (v := ?_) rfl ?_ ?_; rotate_left; · intro W hW; obtain ⟨e0, e1, -⟩ := HE.out W hW; obtain ⟨c0, -, -, -, -, -, c6, -⟩ := HF.out W hW; obtain ⟨x0, x3⟩ := HX.out W hW; go_simp; try with_reducible rfl
  try simp only [Go.Tr.nz]
  refine tk 17 (v := ?_) rfl ?_ ?_; rotate_left; · intro W hW; obtain ⟨e0, e1, -⟩ := HE.out W hW; obtain ⟨c0, -, -, -, -, -, c6, -⟩ := HF.out W hW; obtain ⟨x0, x3⟩ := HX.out W hW; go_simp; try with_reducible rfl
  try simp only [Go.Tr.nz]
  refine tk 18 (v := ?_) rfl ?_ ?_; rotate_left; · intro W hW; obtain ⟨e0, e1, -⟩ := HE.out W hW; obtain ⟨c0, -, -, -, -, -, c6, -⟩ := HF.out W hW; obtain ⟨x0, x3⟩ := HX.out W hW; go_simp; try with_reducible rfl
  try simp only [Go.Tr.nz]
  refine tk 19 (v := ?_) rfl ?_ ?_; rotate_left; · intro W hW; obtain ⟨e0, e1, -⟩ := HE.out W hW; obtain ⟨c0, -, -, -, -, -, c6, -⟩ := HF.out W hW; obtain ⟨x0, x3⟩ := HX.out W hW; go_simp; try with_reducible rfl
  try simp only [Go.Tr.nz]
  refine tk 20 (v := ?_) rfl ?_ ?_; rotate_left; · intro W hW; obtain ⟨e0, e1, -⟩ := HE.out W hW; obtain ⟨c0, -, -, -, -, -, c6, -⟩ := HF.out W hW; obtain ⟨x0, x3⟩ := HX.out W hW; go_simp; try with_reducible rfl
  try simp only [Go.Tr.nz]
  refine tk 21 (v := ?_) rfl ?_ ?_; rotate_left; · intro W hW; obtain ⟨e0, e1, -⟩ := HE.out W hW; obtain ⟨c0, -, -, -, -, -, c6, -⟩ := HF.out W hW; obtain ⟨x0, x3⟩ := HX.out W hW; go_simp; try with_reducible rfl
  try simp only [Go.Tr.nz]
  refine tk 22 (v := ?_) rfl ?_ ?_; rotate_left; · intro W hW; obtain ⟨e0, e1, -⟩ := HE.out W hW; obtain ⟨c0, -, -, -, -, -, c6, -⟩ := HF.out W hW; obtain ⟨x0, x3⟩ := HX.out W hW; go_simp; try with_reducible rfl
  try simp only [Go.Tr.nz]
  refine tk 23 (v := ?_) rfl ?_ ?_; rotate_left; · intro W hW; obtain ⟨e0, e1, -⟩ := HE.out W hW; obtain ⟨c0, -, -, -, -, -, c6, -⟩ := HF.out W hW; obtain ⟨x0, x3⟩ := HX.out W hW; go_simp; try with_reducible rfl
  try simp only [Go.Tr.nz]
  refine rd 24 rfl (fun K hK => ?_)
  go_simp
  refine (HWD.out _ hH).mono ?_
  rintro e w2 ⟨rfl, rfl⟩
  refine hK.out _ _ hH (fun hH => ?_)
  clear hK K
  refine tk 25 (v := ?_) rfl ?_ ?_; rotate_left; · intro W hW; go_simp; try with_reducible rfl
  try simp only [Go.Tr.nz]
  refine rd 26 rfl (fun K hK => ?_)
  go_simp
  refine (HBG.out _ hH).mono ?_
  rintro e w1 ⟨rfl, hb⟩
  have HB2 : Hid (Below n wa w1) := hH.trans (hb.mono (by rw [HN.out]; exact hH.size))
  refine hK.out _ _ HB2.out (fun hH => ?_)
  clear hK K hb
  have HW : Hid (∀ W, Below n wa W → Below w.heap.size w W) := fun W hb => by rw [HN.out] at hb; exact HB1.out.trans (hb.mono HB1.out.size)
  cases bg
  · skip
    refine tk 27 (v := ?_) rfl ?_ ?_; rotate_left; · intro W hW; obtain ⟨x0, x3⟩ := HX.out W hW; go_simp; try with_reducible rfl
    try simp only [Go.Tr.nz]
    refine tk 28 (v := ?_) rfl ?_ ?_; rotate_left; · intro W hW; obtain ⟨x0, x3⟩ := HX.out W hW; go_simp; try with_reducible rfl
    try simp only [Go.Tr.nz]
    refine tk 29 (v := ?_) rfl ?_ ?_; rotate_left; · intro W hW; obtain ⟨x0, x3⟩ := HX.out W hW; go_simp; try with_reducible rfl
    try simp only [Go.Tr.nz]
    refine tk 30 (v := ?_) rfl ?_ ?_; rotate_left; · intro W hW; obtain ⟨x0, x3⟩ := HX.out W hW; go_simp; try with_reducible rfl
    try simp only [Go.Tr.nz]
    refine tk 31 (v := ?_) rfl ?_ ?_; rotate_left; · intro W hW; obtain ⟨x0, x3⟩ := HX.out W hW; go_simp; try with_reducible rfl
    try simp only [Go.Tr.nz]
    refine rd 32 rfl (fun K hK => ?_)
    go_simp
    refine (HFI.out _ hH).mono ?_
    rintro e w3 ⟨rfl, hb⟩
    have HB3 : Hid (Below n wa w3) := hH.trans (hb.mono (by rw [HN.out]; exact hH.size))
    refine hK.out _ _ HB3.out (fun hH => ?_)
    clear hK K hb
    refine tk 33 (v := ?_) rfl ?_ ?_; rotate_left; · intro W hW; go_simp; try with_reducible rfl
    try simp only [Go.Tr.nz]
    refine tk 34 (v := ?_) rfl ?_ ?_; rotate_left; · intro W hW; go_simp; try with_reducible rfl
    try simp only [Go.Tr.nz]
    refine tk 35 (v := ?_) rfl ?_ ?_; rotate_left; · intro W hW; go_simp; try with_reducible rfl
    try simp only [Go.Tr.nz]
    refine wpAnyH_done (by kernel_rfl) ?_ _
    go_wp2_with fail
    go_ret
    exact ⟨by simp, HW.out _ HB3.out⟩
  · skip
    refine tk 27 (v := ?_) rfl ?_ ?_; rotate_left; · intro W hW; go_simp; try with_reducible rfl
    try simp only [Go.Tr.nz]
    refine tk 28 (v := ?_) rfl ?_ ?_; rotate_left; · intro W hW; go_simp; try with_reducible rfl
    try simp only [Go.Tr.nz]
    refine tku 29 rfl ?_
    try simp only [Go.Tr.nz]
    refine tku 30 rfl ?_
    try simp only [Go.Tr.nz]
    refine tku 31 rfl ?_
    try simp only [Go.Tr.nz]
    refine tku 32 rfl ?_
    try simp only [Go.Tr.nz]
    refine tku 33 rfl ?_
    try simp only [Go.Tr.nz]
    refine tk 34 (v := ?_) rfl ?_ ?_; rotate_left; · intro W hW; go_simp; try with_reducible rfl
    try simp only [Go.Tr.nz]
    refine tk 35 (v := ?_) rfl ?_ ?_; rotate_left; · intro W hW; go_simp; try with_reducible rfl
    try simp only [Go.Tr.nz]
    refine wpAnyH_done (by kernel_rfl) ?_ _
    go_wp2_with fail
    go_ret
    exact ⟨by simp, HW.out _ HB2.out⟩
end Go.Proofs.YtcdpnfchmpncjaaGreatDoor

namespace Go.Tr
theorem GS.Small.paint {S : GS} {N : Int} (h : S.Small N) (x : Int) : (S.paint x).Small (N + 1) := by
  obtain ⟨h1, h2, h3, h4, h5⟩ := h
  unfold GS.paint
  split
  · exact ⟨h1, by omega, by omega, by omega, by omega⟩
  · refine ⟨h1, ?_, ?_, ?_, ?_⟩ <;> simp only
    · omega
    · split <;> omega
    · split <;> omega
    · omega
end Go.Tr
namespace Go.Proofs.YtcdpnfchmpncjaaGreatDoor
open Go.RowKit Go.Tr Go.Shelf
variable {w w' : World} {F G : Nat → Prop} {A : Ad} {S S1 : HS}
theorem HeapF.setGray (h : HeapF w F A S) (hon : S.on = true) : ∃ G : Nat → Prop, GrayAt 165 w A.gl G S.gs ∧ (∀ k, G k → F k) ∧ ∀ gs w', GrayAt 165 w' A.gl (grow G w w') gs → Only G w w' → HeapF w' (grow F w w') A { S with gs := gs } ∧ Only F w w' := by
  obtain ⟨G, hG, h1, -, hb⟩ := h.1.part1 (pp_parts A S) 11
  refine ⟨G, h1 hon, hG, fun gs w' ht ho => HeapF.put h.2 (hb (PP A { S with gs := gs }) w' (pp_parts _ _) (fun j hj => ?_) (fun _ => ht) ho)⟩
  unfold PP
  split <;> first | rfl | exact absurd rfl hj
theorem HeapF.paint (h : HeapF w F A S) (hon : S.on = true) (hs : S.gs.Small 1000000) (x : Int) : Calls Tryz.prog 38 #[.pointer (some ⟨A.gl, 0, none⟩), .int .i64 x] w fun e w' => (∃ b, e = .returned (.bool b)) ∧ HeapF w' (grow F w w') A { S with gs := S.gs.paint x } ∧ Only F w w' := by
  obtain ⟨G, hg, hG, hput⟩ := h.setGray hon
  exact (paint_any x w hg hs).mono fun e w' ⟨e1, e2, e3⟩ => ⟨⟨_, e1⟩, hput _ w' e2 e3⟩
theorem HeapF.gput (h : HeapF w F A S) (hon : S.on = true) (hs : S.gs.Small 999999) (x : Int) (b : Nat) {W : World} (hb : Below w.heap.size w W) (hx : W.heap[b]? = some (.cells #[.int .i64 x] 3 (0, 0))) (hn : w.heap.size ≤ b) :
    Calls Tryz.prog 58 #[.pointer (some ⟨A.gl, 0, none⟩), .slice (some ⟨b, 0, none⟩) 1 1] W fun e w' => (∃ k, e = .returned (.int .i64 k)) ∧ HeapF w' (grow F W w') A { S with gs := S.gs.put1 x } ∧ Only F W w' := by
  obtain ⟨G, hg, hG, hput⟩ := (h.below hb).setGray hon
  have hsq : SeqAt W (some ⟨b, 0, none⟩) (ints [x]) := SeqAt.of_block (cs := [.int .i64 x]) hx
  exact (put_any (some ⟨b, 0, none⟩) 1 1 [x] W hg hsq rfl (fun _ b' o e => by cases e; exact ⟨fun hf => by have := h.lt b (hG b hf); omega, block_lt hx⟩) (by simpa using hs)).mono fun e w' ⟨e1, e2, e3⟩ => ⟨⟨_, e1⟩, hput _ w' e2 e3⟩
def AllocTo (S : HS) (n addr : Nat) (S' : HS) : Prop :=
  (S.a2 + n ≤ S.en2 ∧ addr = S.a2 ∧ S' = { S with a2 := S.a2 + n }) ∨
  (S.en2 < S.a2 + n ∧ ∃ c q, q = (n - 1) / S.Wd ∧ c + (q + 1) ≤ S.C ∧ (∀ i, c ≤ i → i < c + (q + 1) → S.own.getD i 0 = 0) ∧ addr = c * S.Wd ∧
    S' = { S with ps2 := S.ps2 ++ [(c, q + 1)], a2 := if q = 0 then c * S.Wd + n else S.a2, en2 := if q = 0 then (c + 1) * S.Wd else S.en2, ws := putAt S.ws (c * S.Wd) (List.replicate ((q + 1) * S.Wd) 0), own := putAt S.own c (List.replicate (q + 1) 1) })
def RoomTo (S : HS) (n : Nat) : Prop := S.a2 ≤ S.en2 ∧ S.en2 ≤ 1048576 ∧ S.ps2.length ≤ 100000 ∧ 1 ≤ n ∧ n ≤ 1048576 ∧ (S.a2 + n ≤ S.en2 ∨ ∃ c, c + ((n - 1) / S.Wd + 1) ≤ S.C ∧ ∀ i, c ≤ i → i < c + ((n - 1) / S.Wd + 1) → S.own.getD i 0 = 0)
theorem HeapF.allocTo (h : HeapF w F A S) (hon : S.on = true) {n : Nat} (hr : RoomTo S n) : Calls Tryz.prog 88 #[.pointer (some ⟨A.u2, 0, none⟩), .int .i64 n] w fun e w' => ∃ addr S', e = .returned (.tuple #[.int .i64 (addr : Nat), .int .i64 0]) ∧ AllocTo S n addr S' ∧ HeapF w' (grow F w w') A S' ∧ Only F w w' := by
  obtain ⟨h1, h2, h3, h4, h5, h6⟩ := hr
  by_cases hlt : S.a2 + n ≤ S.en2
  · obtain ⟨G, hG, hp, -, hb⟩ := h.1.part1 (pp_parts A S) 10
    refine (uallocR_any n w (hp hon) h4 hlt h2).mono ?_
    rintro e w' ⟨rfl, e2, e3, -⟩
    refine ⟨S.a2, { S with a2 := S.a2 + n }, rfl, Or.inl ⟨hlt, rfl, rfl⟩, HeapF.put h.2 (hb (PP A { S with a2 := S.a2 + n }) w' (pp_parts _ _) (fun j hj => ?_) (fun _ => SpF.mono e2 (fun k hk => Or.inl hk)) e3)⟩
    unfold PP
    split <;> first | rfl | exact absurd rfl hj
  · obtain ⟨G, H, hG, hH, hd, hp, hst, hb⟩ := h.1.part2 (pp_parts A S) 10 1 (by decide)
    have hfree := h6.resolve_left hlt
    refine (uallocN_any n _ w (hp hon) hst hd h.2.at rfl h4 h5 h1 (by omega) h2 (Nat.le_refl _) (by decide) h3 hfree).mono ?_
    rintro e w' ⟨c, rfl, a1, a2, a3, a4, a5⟩
    refine ⟨c * S.Wd, _, rfl, Or.inr ⟨by omega, c, _, rfl, a1, a2, rfl, rfl⟩, HeapF.put h.2 (hb (PP A _) w' (pp_parts _ _) (fun j hj hj2 => ?_) (fun _ => a3) a4 a5)⟩
    unfold PP
    split <;> first | rfl | exact absurd rfl hj | exact absurd rfl hj2
structure MvOk (S : HS) (ta fr count i : Nat) : Prop where
  obj : ObjAt S.C S.Wd S.L S.ws S.own fr count i
  f : fr + (S.L.size count + 1) ≤ S.C * S.Wd
  t : ta + (S.L.size count + 1) ≤ S.C * S.Wd
  fo : Owned S.own S.Wd fr (S.L.size count + 1)
  tow : Owned S.own S.Wd ta (S.L.size count + 1)
theorem HeapF.move (h : HeapF w F A S) {ta fr count i : Nat} (hm : MvOk S ta fr count i) : Calls Tryz.prog 110 #[.pointer (some ⟨A.m, 0, none⟩), .int .i64 ta, .int .i64 fr] w fun e w' => e = .returned (.tuple #[.int .i64 (S.L.size count + 1 : Nat), .int .i64 0]) ∧ HeapF w' (grow F w w') A { S with ws := putAt S.ws ta ((S.ws.drop fr).take (S.L.size count + 1)) } ∧ Only F w w' := by
  obtain ⟨G, H, hI, hG, hmm, hput⟩ := h.setStore
  exact (imove_any ta fr count i w hI hm.obj hm.f hm.t hm.fo hm.tow).mono fun e w' ⟨e1, e2, e3⟩ => ⟨e1, hput _ w' e2 e3⟩
theorem HeapF.iat (h : HeapF w F A S) {x : Sl} {i count : Nat} (ho : ObjOk S i x count) {W : World} (hb : Below w.heap.size w W) : Calls Tryz.prog 67 #[.pointer (some ⟨A.m, 0, none⟩), .int .i64 x.addr] W fun e w' => e = .returned (.tuple #[.agg #[.int .i64 1, .int .i64 count, .int .i64 i], .int .i64 (S.L.size count + 1 : Nat), .int .i64 0]) ∧ Below W.heap.size W w' := by
  obtain ⟨G, H, hi, -⟩ := (h.below hb).img
  exact iat_any x.addr count i W hi ho.obj
def MovedSt (S : HS) (i : Nat) (x : Sl) (n : Nat) (S2 : HS) : Prop :=
  ((bigPart S.ps (x.addr / S.Wd) || !hasL (chunksL S.ps) ((x.addr / S.Wd : Nat) : Int)) = true ∧ S2 = S) ∨
  ((bigPart S.ps (x.addr / S.Wd) || !hasL (chunksL S.ps) ((x.addr / S.Wd : Nat) : Int)) = false ∧ ∃ addr S1, AllocTo S n addr S1 ∧ S2 = { S1 with ws := putAt S1.ws addr ((S1.ws.drop x.addr).take n), sl := S1.sl.set i ⟨x.gen, x.used, addr, x.region, x.held, x.pinned⟩ })
theorem AllocTo.same {n addr : Nat} {S' : HS} (h : AllocTo S n addr S') : S'.C = S.C ∧ S'.Wd = S.Wd ∧ S'.K = S.K ∧ S'.L = S.L ∧ S'.sl = S.sl ∧ S'.mine = S.mine ∧ S'.ps = S.ps ∧ S'.on = S.on ∧ S'.gs = S.gs ∧ S'.a = S.a ∧ S'.en = S.en := by
  rcases h with ⟨_, _, e⟩ | ⟨_, c, q, _, _, _, _, e⟩ <;> rw [e] <;> exact ⟨rfl, rfl, rfl, rfl, rfl, rfl, rfl, rfl, rfl, rfl, rfl⟩
theorem MovedSt.same {i n : Nat} {x : Sl} {S2 : HS} (h : MovedSt S i x n S2) : S2.C = S.C ∧ S2.Wd = S.Wd ∧ S2.K = S.K ∧ S2.L = S.L ∧ S2.mine = S.mine ∧ S2.ps = S.ps ∧ S2.on = S.on ∧ S2.gs = S.gs := by
  rcases h with ⟨_, e⟩ | ⟨_, addr, S1, ha, e⟩
  · rw [e]; exact ⟨rfl, rfl, rfl, rfl, rfl, rfl, rfl, rfl⟩
  · obtain ⟨h1, h2, h3, h4, h5, h6, h7, h8, h9, -⟩ := ha.same
    rw [e]; exact ⟨h1, h2, h3, h4, h6, h7, h8, h9⟩
end Go.Proofs.YtcdpnfchmpncjaaGreatDoor

namespace Go.Proofs.YtcdpnfchmpncjaaGreatDoor
open Go.RowKit Go.Tr Go.Shelf
variable {w w' : World} {F G : Nat → Prop} {A : Ad} {S S1 : HS}
theorem SeqAt.lt0 {b off k : Nat} {zs : List Int} {x : Int} (h : SeqAt w (some ⟨b, off, none⟩) (ints zs)) (hx : zs[k]? = some x) : b < w.heap.size := by
  obtain ⟨b2, o2, z, e, hc, -⟩ := h.ints (k := k) (List.getElem?_eq_some_iff.1 hx).1
  cases e
  exact World.block_lt_of_cell? w _ hc
def LkSt (w : World) (F : Nat → Prop) (A : Ad) (S3 : HS) (g0 : GS) (zs : List Int) (a1 : Option Addr) (k : Nat) (wr : World) : Prop := ∃ F', Run w F wr F' A { S3 with gs := g0.put (zs.take k) } ∧ SeqAt wr a1 (ints zs) ∧ ∀ b o, a1 = some ⟨b, o, none⟩ → ¬ F' b
set_option maxRecDepth 100000 in
set_option maxHeartbeats 8000000 in
theorem elook_any {x : Sl} {i count : Nat} (o : Nat → Option (Nat × Nat)) (w : World) (h : HeapF w F A S) (hon : S.on = true) (hs : SpOk S.ps) (ho : ObjOk S i x count) (hpn : x.pinned = false) (hsm : S.gs.Small 500000)
    (hroom : (bigPart S.ps (x.addr / S.Wd) || !hasL (chunksL S.ps) ((x.addr / S.Wd : Nat) : Int)) = false → RoomTo S (S.L.size count + 1))
    (hmv : ∀ addr S1, AllocTo S (S.L.size count + 1) addr S1 → MvOk S1 addr x.addr count i)
    (haf : ∀ S2, MovedSt S i x (S.L.size count + 1) S2 → ∃ x2, ObjOk S2 i x2 count ∧ (∀ p ∈ slotsL S.L count, LkOk (o p) ∧ S2.ws.getD (x2.addr + 1 + p) 0 = lkN (o p)) ∧ ∀ z ∈ tgt (refsL S.L count o), ∃ (j : Nat) (y : Sl), z = (j : Int) ∧ S2.sl[j]? = some y ∧ y.used = true ∧ y.region = 1) :
    Calls Tryz.prog 60 #[.pointer (some ⟨A.h, 0, none⟩), .int .i64 i] w fun e w' => e = .returned (.tuple #[.int .i64 (S.L.size count + 1 : Nat), .int .i64 0]) ∧ ∃ S2, MovedSt S i x (S.L.size count + 1) S2 ∧ HeapF w' (grow F w w') A { S2 with gs := (S2.gs.paint i).put (tgt (refsL S.L count o)) } ∧ Only F w w' := by
  have HRUN := Lib.hid (Run.start h)
  have HLT := Lib.hid h.lt
  have HEN := Lib.hid (eentry_any w h ho.sl ho.used)
  have HE := Lib.hid (fun W (hb : Below w.heap.size w W) => h.evf hon hb)
  have HF := Lib.hid (fun W (hb : Below w.heap.size w W) => h.fields hb)
  have HAT := Lib.hid (fun W (hb : Below w.heap.size w W) => h.iat ho hb)
  obtain ⟨xg, xu, xa, xr, xh, xp⟩ := x
  simp only at hpn hroom hmv haf ⊢
  subst hpn
  have HST := Lib.hid (fun W (hb : Below w.heap.size w W) => estays_any xa xr xh W (h.below hb) hon hs ho.big)
  obtain ⟨sb, hsb⟩ : ∃ sb, sb = (bigPart S.ps (xa / S.Wd) || !hasL (chunksL S.ps) ((xa / S.Wd : Nat) : Int)) := ⟨_, rfl⟩
  rw [← hsb] at hroom HST
  obtain ⟨z, hz⟩ : ∃ z, z = S.L.size count := ⟨_, rfl⟩
  rw [← hz] at hroom hmv haf ⊢
  have HAL : Hid (sb = false → ∀ W, HeapF W F A S → _) := fun hb W hr => hr.allocTo hon (hroom hb)
  have HMS : Hid (∀ S2, (sb = true ∧ S2 = S) ∨ (sb = false ∧ ∃ addr S1, AllocTo S (z + 1) addr S1 ∧ S2 = { S1 with ws := putAt S1.ws addr ((S1.ws.drop xa).take (z + 1)), sl := S1.sl.set i ⟨xg, xu, addr, xr, xh, false⟩ }) → MovedSt S i ⟨xg, xu, xa, xr, xh, false⟩ (z + 1) S2) := fun S2 h2 => by
    unfold MovedSt
    simp only
    rw [← hsb]
    exact h2
  simp only [← hz] at HAT
  simp only [entryV] at HEN
  have HE1 := Lib.hid (fun W F1 (S1 : HS) (ho : S1.on = true) (hr : HeapF W F1 A S1) => hr.evf ho (Below.refl _ _))
  have HF1 := Lib.hid (fun W F1 S1 (hr : HeapF W F1 A S1) => hr.fields (Below.refl _ _))
  have HON : Hid (S.on = true) := hon
  have HMV : Hid (∀ W F1 addr S1, AllocTo S (z + 1) addr S1 → HeapF W F1 A S1 → Calls Tryz.prog 110 #[.pointer (some ⟨A.m, 0, none⟩), .int .i64 addr, .int .i64 xa] W fun e w' => e = .returned (.tuple #[.int .i64 (z + 1 : Nat), .int .i64 0]) ∧ HeapF w' (grow F1 W w') A { S1 with ws := putAt S1.ws addr ((S1.ws.drop xa).take (z + 1)) } ∧ Only F1 W w') := fun W F1 addr S1 ha hr => by
    have e : S1.L.size count = S.L.size count := by rw [ha.same.2.2.2.1]
    have := hr.move (hmv addr S1 ha)
    rw [e, ← hz] at this
    exact this
  have HSET : Hid (∀ W F1 addr S1, AllocTo S (z + 1) addr S1 → sb = false → HeapF W F1 A { S1 with ws := putAt S1.ws addr ((S1.ws.drop xa).take (z + 1)) } → Calls Tryz.prog 41 #[.pointer (some ⟨A.t, 0, none⟩), .agg #[.int .i64 i, .int .i64 xg], .agg #[.int .i64 addr, .int .i64 xr, .bool xh, .bool false]] W fun e w' => e = .returned (.int .i64 0) ∧ ∃ S2, MovedSt S i ⟨xg, xu, xa, xr, xh, false⟩ (z + 1) S2 ∧ HeapF w' (grow F1 W w') A S2 ∧ Only F1 W w') := fun W F1 addr S1 ha hs hr => by
    have e : S1.sl = S.sl := ha.same.2.2.2.2.1
    have hx := ho.sl
    rw [← e] at hx
    exact (hr.set (S := { S1 with ws := putAt S1.ws addr ((S1.ws.drop xa).take (z + 1)) }) hx ho.used addr xr xh false).mono fun e w' ⟨e1, e2⟩ => ⟨e1, _, HMS.out _ (Or.inr ⟨hs, addr, S1, ha, rfl⟩), e2⟩
  have HPT : Hid (∀ W F1 S2, MovedSt S i ⟨xg, xu, xa, xr, xh, false⟩ (z + 1) S2 → HeapF W F1 A S2 → Calls Tryz.prog 38 #[.pointer (some ⟨A.gl, 0, none⟩), .int .i64 i] W fun e w' => (∃ b, e = .returned (.bool b)) ∧ HeapF w' (grow F1 W w') A { S2 with gs := S2.gs.paint i } ∧ Only F1 W w') := fun W F1 S2 hm hr => by
    obtain ⟨-, -, -, -, -, -, h7, h8⟩ := hm.same
    exact hr.paint (by rw [h7]; exact hon) (by rw [h8]; exact hsm.mono (by omega)) i
  obtain ⟨zs, hzs⟩ : ∃ zs, zs = tgt (refsL S.L count o) := ⟨_, rfl⟩
  have HZL : Hid (zs.length ≤ 100000) := by
    obtain ⟨G, H, hi, -⟩ := h.img
    show _ ≤ _
    rw [hzs]
    refine Nat.le_trans (tgt_length _) ?_
    unfold refsL
    rw [List.length_map]
    exact slotsL_length hi.right ho.obj.cnt
  have HTG : Hid (∀ W F1 S2, MovedSt S i ⟨xg, xu, xa, xr, xh, false⟩ (z + 1) S2 → HeapF W F1 A { S2 with gs := S2.gs.paint i } → Calls Tryz.prog 111 #[.pointer (some ⟨A.c, 0, none⟩), .int .i64 i] W fun e w' => ∃ v, e = .returned v ∧ own3 w' 3 W.heap.size v zs ∧ Below W.heap.size W w') := fun W F1 S2 hm hr => by
    obtain ⟨x2, h1, h2, -⟩ := haf S2 hm
    have e : S2.L = S.L := hm.same.2.2.2.1
    rw [← e] at h2
    rw [hzs, ← e]
    exact ctargets_any (S := { S2 with gs := S2.gs.paint i }) o W hr ⟨h1.sl, h1.used, h1.obj, h1.big, h1.fit, h1.own⟩ h2
  have HEL : Hid (∀ S2, MovedSt S i ⟨xg, xu, xa, xr, xh, false⟩ (z + 1) S2 → ∀ z ∈ zs, ∃ (j : Nat) (y : Sl), z = (j : Int) ∧ S2.sl[j]? = some y ∧ y.used = true ∧ y.region = 1) := fun S2 hm => by
    obtain ⟨x2, h1, h2, h3⟩ := haf S2 hm
    rw [hzs]
    exact h3
  have HGP : Hid (∀ W F1 S2 k, MovedSt S i ⟨xg, xu, xa, xr, xh, false⟩ (z + 1) S2 → k < zs.length → HeapF W F1 A { S2 with gs := (S2.gs.paint i).put (zs.take k) } → ∀ (x : Int), zs[k]? = some x → ∀ b W1, Below W.heap.size W W1 → W1.heap[b]? = some (.cells #[.int .i64 x] 3 (0, 0)) → W.heap.size ≤ b → Calls Tryz.prog 58 #[.pointer (some ⟨A.gl, 0, none⟩), .slice (some ⟨b, 0, none⟩) 1 1] W1 fun e w' => (∃ k, e = .returned (.int .i64 k)) ∧ HeapF w' (grow F1 W1 w') A { S2 with gs := (S2.gs.paint i).put (zs.take (k + 1)) } ∧ Only F1 W1 w') := fun W F1 S2 k hm hk hr x hx b W1 hb hbk hn => by
    obtain ⟨-, -, -, -, -, -, h7, h8⟩ := hm.same
    rw [take_snoc hx, put_snoc]
    have hl := HZL.out
    have hs : ((S2.gs.paint i).put (zs.take k)).Small 999999 := by
      rw [h8]
      refine (GS.Small.put (zs.take k) (hsm.paint i)).mono ?_
      rw [List.length_take]
      omega
    exact hr.gput (by simp only; rw [h7]; exact hon) hs x b hb hbk hn
  have HEN2 := Lib.hid (fun W F1 S1 (j : Nat) (y : Sl) (hr : HeapF W F1 A S1) (hj : S1.sl[j]? = some y) (hu : y.used = true) => eentry_any W hr hj hu)
  rw [← hzs]
  clear h hon hs ho hz hsb hzs hroom hmv haf hsm
  go_enter Tryz.func60, Tryz.ntmps60
  go_wp2_with fail
  refine HEN.out.mono ?_
  rintro e w1 ⟨rfl, hb1⟩
  have h2 := al2 w1 (.cells #[.int .i64 i, .int .i64 xg] 38) (.cells #[.int .i64 xa, .int .i64 xr, .bool xh, .bool false] 93)
  have HB2 : Hid (Below w.heap.size w ((w1.alloc (.cells #[.int .i64 i, .int .i64 xg] 38)).alloc (.cells #[.int .i64 xa, .int .i64 xr, .bool xh, .bool false] 93))) := hb1.trans (h2.1.mono hb1.size)
  have HT2 := Lib.hid h2.2.1
  have HX2 := Lib.hid h2.2.2
  obtain ⟨tb, htb⟩ : ∃ tb, tb = w1.heap.size := ⟨_, rfl⟩
  obtain ⟨xb, hxb⟩ : ∃ xb, xb = w1.heap.size + 1 := ⟨_, rfl⟩
  have HNE : Hid (w.heap.size ≤ tb ∧ w.heap.size ≤ xb ∧ tb ≠ xb) := by have := hb1.size; exact ⟨by omega, by omega, by omega⟩
  rw [← htb] at HT2
  rw [← hxb] at HX2
  clear hb1 h2
  go_wp2_with fail
  rw [← hxb, ← htb]
  clear htb hxb
  generalize (w1.alloc (.cells #[.int .i64 i, .int .i64 xg] 38)).alloc (.cells #[.int .i64 xa, .int .i64 xr, .bool xh, .bool false] 93) = w2 at *
  obtain ⟨n2, hn2⟩ : ∃ n, n = w2.heap.size := ⟨_, rfl⟩
  have HN2 : Hid (n2 = w2.heap.size) := hn2
  have HW2 : Hid (∀ W, Below n2 w2 W → Below w.heap.size w W) := fun W hb => by rw [hn2] at hb; exact HB2.out.trans (hb.mono HB2.out.size)
  clear hn2
  have HD : Hid (∀ W, Below n2 w2 W → W.cell? ⟨A.h, 0, none⟩ = some (.pointer (some ⟨A.c, 0, none⟩)) ∧ W.cell? ⟨A.c, 2, none⟩ = some (.pointer (some ⟨A.m, 0, none⟩)) ∧ W.cell? ⟨xb, 0, none⟩ = some (.int .i64 xa)) := fun W hb => by
    have ht := (hb.block xb (by rw [HN2.out]; exact block_lt HX2.out)).trans HX2.out
    exact ⟨(HE.out W (HW2.out W hb)).1, (HF.out W (HW2.out W hb)).2.2.1, (cells_of_block ht 0).1⟩
  refine wp_region_held_drew (S := Below n2 w2) (by kernel_rfl) (Below.refl n2 w2).drew (fun hH => ?_)
  refine tk 0 (v := ?_) rfl ?_ ?_; rotate_left; · intro W hW; obtain ⟨d0, d1, d2⟩ := HD.out W hW; go_simp; try with_reducible rfl
  try simp only [Go.Tr.nz]
  refine tk 1 (v := ?_) rfl ?_ ?_; rotate_left; · intro W hW; obtain ⟨d0, d1, d2⟩ := HD.out W hW; go_simp; try with_reducible rfl
  try simp only [Go.Tr.nz]
  refine tk 2 (v := ?_) rfl ?_ ?_; rotate_left; · intro W hW; obtain ⟨d0, d1, d2⟩ := HD.out W hW; go_simp; try with_reducible rfl
  try simp only [Go.Tr.nz]
  refine tk 3 (v := ?_) rfl ?_ ?_; rotate_left; · intro W hW; obtain ⟨d0, d1, d2⟩ := HD.out W hW; go_simp; try with_reducible rfl
  try simp only [Go.Tr.nz]
  refine tk 4 (v := ?_) rfl ?_ ?_; rotate_left; · intro W hW; obtain ⟨d0, d1, d2⟩ := HD.out W hW; go_simp; try with_reducible rfl
  try simp only [Go.Tr.nz]
  refine tk 5 (v := ?_) rfl ?_ ?_; rotate_left; · intro W hW; obtain ⟨d0, d1, d2⟩ := HD.out W hW; go_simp; try with_reducible rfl
  try simp only [Go.Tr.nz]
  refine tk 6 (v := ?_) rfl ?_ ?_; rotate_left; · intro W hW; obtain ⟨d0, d1, d2⟩ := HD.out W hW; go_simp; try with_reducible rfl
  try simp only [Go.Tr.nz]
  refine tk 7 (v := ?_) rfl ?_ ?_; rotate_left; · intro W hW; obtain ⟨d0, d1, d2⟩ := HD.out W hW; go_simp; try with_reducible rfl
  try simp only [Go.Tr.nz]
  refine tk 8 (v := ?_) rfl ?_ ?_; rotate_left; · intro W hW; obtain ⟨d0, d1, d2⟩ := HD.out W hW; go_simp; try with_reducible rfl
  try simp only [Go.Tr.nz]
  refine rd2 9 14 rfl rfl (fun K hK => ?_) (fun K hK => ?_)
  focus
    go_simp
    refine (HAT.out _ (HW2.out _ hH)).mono ?_
    rintro e w3 ⟨rfl, hb3⟩
    have HB3 : Hid (Below n2 w2 w3) := hH.trans (hb3.mono (by rw [HN2.out]; exact hH.size))
    refine hK.out _ _ HB3.out (fun hH => ?_)
    clear hK K hb3
    refine tk 10 (v := ?_) rfl ?_ ?_; rotate_left; · intro W hW; go_simp; try with_reducible rfl
    try simp only [Go.Tr.nz]
    refine tk 11 (v := ?_) rfl ?_ ?_; rotate_left; · intro W hW; go_simp; try with_reducible rfl
    try simp only [Go.Tr.nz]
    refine tk 12 (v := ?_) rfl ?_ ?_; rotate_left; · intro W hW; go_simp; try with_reducible rfl
    try simp only [Go.Tr.nz]
    refine tk 13 (v := ?_) rfl ?_ ?_; rotate_left; · intro W hW; go_simp; try with_reducible rfl
    try simp only [Go.Tr.nz]
    refine rd 14 rfl (fun K hK => ?_)
    go_simp
    have HB4 : Hid (Below n2 w2 (w3.alloc (.cells #[.int .i64 1, .int .i64 count, .int .i64 i] 128))) := HB3.out.alloc (by rw [HN2.out]; exact HB3.out.size) _
    refine hK.out _ _ (HB3.out.alloc (by rw [HN2.out]; exact HB3.out.size) _) (fun hH => ?_)
    clear hK K
    refine rd 15 rfl (fun K hK => ?_)
    go_simp
    refine hK.out _ _ HB4.out (fun hH => ?_)
    clear hK K
    obtain ⟨hb, hxb⟩ : ∃ xb, xb = w3.heap.size := ⟨_, rfl⟩
    have HX4 : Hid ((w3.alloc (.cells #[.int .i64 1, .int .i64 count, .int .i64 i] 128)).heap[hb]? = some (.cells #[.int .i64 1, .int .i64 count, .int .i64 i] 128 (0, 0))) := by rw [hxb]; exact heap_alloc_new w3 _
    have HXE : Hid (n2 ≤ hb) := by show _ ≤ _; rw [hxb, HN2.out]; exact HB3.out.size
    rw [← hxb]
    clear hxb
    generalize w3.alloc (.cells #[.int .i64 1, .int .i64 count, .int .i64 i] 128) = w4 at *
  rotate_left
  focus
    go_simp
    have hb3 : Below n2 w2 (w2.alloc (.cells #[.int .i64 0, .int .i64 0, .int .i64 0] 128)).drew := ((Below.refl n2 w2).alloc (Nat.le_of_eq HN2.out) _).drew
    refine hK.out _ _ hb3 (fun hH => ?_)
    clear hK K
    refine rd 9 rfl (fun K hK => ?_)
    go_simp
    refine (HAT.out _ (HW2.out _ hH)).mono ?_
    rintro e w3 ⟨rfl, hbc⟩
    have HB3 : Hid (Below n2 w2 w3) := hb3.trans (hbc.mono (by rw [HN2.out]; exact hb3.size))
    obtain ⟨hb, hxb⟩ : ∃ xb, xb = w2.heap.size := ⟨_, rfl⟩
    have HX3 : Hid (w3.heap[hb]? = some (.cells #[.int .i64 0, .int .i64 0, .int .i64 0] 128 (0, 0))) := by rw [hxb]; exact (hbc.block _ (by simp)).trans (heap_alloc_new w2 _)
    refine hK.out _ _ HB3.out (fun hH => ?_)
    rw [← hxb]
    have hxw : n2 ≤ hb := by rw [HN2.out]; exact Nat.le_of_eq hxb.symm
    have HXE : Hid (n2 ≤ hb) := hxw
    clear hK K hb3 hbc hxb
    refine tk 10 (v := ?_) rfl ?_ ?_; rotate_left; · intro W hW; go_simp; try with_reducible rfl
    try simp only [Go.Tr.nz]
    refine tk 11 (v := ?_) rfl ?_ ?_; rotate_left; · intro W hW; go_simp; try with_reducible rfl
    try simp only [Go.Tr.nz]
    refine tk 12 (v := ?_) rfl ?_ ?_; rotate_left; · intro W hW; go_simp; try with_reducible rfl
    try simp only [Go.Tr.nz]
    refine tk 13 (v := ?_) rfl ?_ ?_; rotate_left; · intro W hW; go_simp; try with_reducible rfl
    try simp only [Go.Tr.nz]
    have z0 := cells_of_block HX3.out 0
    have z1 := cells_of_block HX3.out 1
    have z2 := cells_of_block HX3.out 2
    simp at z0 z1 z2
    obtain ⟨z0, f0⟩ := z0
    obtain ⟨z1, f1⟩ := z1
    obtain ⟨z2, f2⟩ := z2
    refine rd 15 rfl (fun K hK => ?_)
    go_simp
    have HB4 : Hid (Below n2 w2 (((w3.setCell ⟨hb, 0, none⟩ (.int .i64 1)).setCell ⟨hb, 1, none⟩ (.int .i64 count)).setCell ⟨hb, 2, none⟩ (.int .i64 i))) := (((HB3.out).setCell hxw _).setCell hxw _).setCell hxw _
    refine hK.out _ _ HB4.out (fun hH => ?_)
    clear hK K hxw z0 f0 z1 f1 z2 f2
    have HX4 : Hid ((((w3.setCell ⟨hb, 0, none⟩ (.int .i64 1)).setCell ⟨hb, 1, none⟩ (.int .i64 count)).setCell ⟨hb, 2, none⟩ (.int .i64 i)).heap[hb]? = some (.cells #[.int .i64 1, .int .i64 count, .int .i64 i] 128 (0, 0))) := by
      show _ = _
      simpa using block_setCell (block_setCell (block_setCell (HX3.out) 0 (.int .i64 1)) 1 (.int .i64 count)) 2 (.int .i64 i)
    generalize ((w3.setCell ⟨hb, 0, none⟩ (.int .i64 1)).setCell ⟨hb, 1, none⟩ (.int .i64 count)).setCell ⟨hb, 2, none⟩ (.int .i64 i) = w4 at *
    clear HX3
  all_goals
    refine tk 16 (v := ?_) rfl ?_ ?_; rotate_left; · intro W hW; go_simp; try with_reducible rfl
    try simp only [Go.Tr.nz]
    refine tk 17 (v := ?_) rfl ?_ ?_; rotate_left; · intro W hW; go_simp; try with_reducible rfl
    try simp only [Go.Tr.nz]
    refine wpAnyH_done (by kernel_rfl) ?_ _
    have HX5 := Lib.hid ((HB4.out.block xb (by rw [HN2.out]; exact block_lt HX2.out)).trans HX2.out)
    have HT5 := Lib.hid ((HB4.out.block tb (by rw [HN2.out]; exact block_lt HT2.out)).trans HT2.out)
    have x0 := (cells_of_block HX5.out 0).1
    have x1 := (cells_of_block HX5.out 1).1
    have x2 := (cells_of_block HX5.out 2).1
    have x3 := (cells_of_block HX5.out 3).1
    simp at x0 x1 x2 x3
    go_wp2_with fail
    refine (HST.out _ (HW2.out _ HB4.out)).mono ?_
    rintro e w5 ⟨rfl, hb5⟩
    have hb24 := HB4.out.trans (hb5.mono (by rw [HN2.out]; exact HB4.out.size))
    have HRN5 := Lib.hid (HRUN.out.below (HW2.out _ hb24))
    have hxf : ∀ b, w.heap.size ≤ b → ¬ F b := fun b hb hf => by have := HLT.out b hf; omega
    have HX6 : Hid (Bx w5 F xb (.cells #[.int .i64 xa, .int .i64 xr, .bool xh, .bool false] 93 (0, 0))) := ⟨hxf xb HNE.out.2.1, (hb5.block xb (block_lt HX5.out)).trans HX5.out⟩
    have HT6 : Hid (Bx w5 F tb (.cells #[.int .i64 i, .int .i64 xg] 38 (0, 0))) := ⟨hxf tb HNE.out.1, (hb5.block tb (block_lt HT5.out)).trans HT5.out⟩
    clear hb5 hb24 hxf x0 x1 x2 x3
    cases sb
    focus
      obtain ⟨e0, e1, e2, e3⟩ := HE1.out _ _ _ HON.out HRN5.out.heap
      go_wp2_with fail
      refine (HAL.out trivial w5 HRN5.out.heap).mono ?_
      rintro e w6 ⟨addr, S1, rfl, ha, h6⟩
      have HA := Lib.hid ha
      have HRN6 := Lib.hid (HRN5.out.op h6)
      have HX7 := Lib.hid (HX6.out.op h6.2)
      have HT7 := Lib.hid (HT6.out.op h6.2)
      obtain ⟨F6, hF6⟩ : ∃ F6, F6 = grow F w5 w6 := ⟨_, rfl⟩
      rw [← hF6] at HRN6 HX7 HT7
      have hon1 : S1.on = true := by rw [ha.same.2.2.2.2.2.2.2.1]; exact HON.out
      clear e0 e1 e2 e3
      obtain ⟨e0, e1, e2, e3⟩ := HE1.out _ _ _ hon1 HRN6.out.heap
      obtain ⟨-, -, c2, -⟩ := HF1.out _ _ _ HRN6.out.heap
      have HX8 := Lib.hid HX7.out.2
      have x0 := (cells_of_block HX8.out 0).1
      have x1 := (cells_of_block HX8.out 1).1
      have x2 := (cells_of_block HX8.out 2).1
      have x3 := (cells_of_block HX8.out 3).1
      simp at x0 x1 x2 x3
      clear ha h6 hF6
      go_wp2_with fail
      go_still_tail 10, (by kernel_rfl)
      have HRN7 := Lib.hid (HRN6.out.below (Below.refl _ _).drew)
      have HX9 := Lib.hid (HX7.out.below (Below.refl _ _).drew)
      have HT9 := Lib.hid (HT7.out.below (Below.refl _ _).drew)
      change wpList _ _ _ _ _ w6.drew
      clear HX8 x0 x1 x2 x3 e0 e1 e2 e3 c2
      generalize w6.drew = w7 at *
      go_wp2_with fail
      refine (HMV.out w7 F6 addr S1 HA.out HRN7.out.heap).mono ?_
      rintro e w8 ⟨rfl, h8⟩
      have HRN8 := Lib.hid (HRN7.out.op h8)
      have HX10 := Lib.hid (HX9.out.op h8.2)
      have HT10 := Lib.hid (HT9.out.op h8.2)
      obtain ⟨F8, hF8⟩ : ∃ F8, F8 = grow F6 w7 w8 := ⟨_, rfl⟩
      rw [← hF8] at HRN8 HX10 HT10
      have HX11 := Lib.hid HX10.out.2
      have x0 := cells_of_block HX11.out 0
      have x1 := cells_of_block HX11.out 1
      have x2 := cells_of_block HX11.out 2
      have x3 := cells_of_block HX11.out 3
      simp at x0 x1 x2 x3
      obtain ⟨x0, f0⟩ := x0
      obtain ⟨x1, f1⟩ := x1
      obtain ⟨x2, f2⟩ := x2
      obtain ⟨x3, f3⟩ := x3
      clear h8 hF8
      go_wp2_with fail
      have HRN9 := Lib.hid (HRN8.out.loc (j := 0) (v := .int .i64 addr) HNE.out.2.1 HX10.out.1)
      have HX12 : Hid (Bx (w8.setCell ⟨xb, 0, none⟩ (.int .i64 addr)) F8 xb (.cells #[.int .i64 addr, .int .i64 xr, .bool xh, .bool false] 93 (0, 0))) := ⟨HX10.out.1, by simpa using block_setCell HX10.out.2 0 (.int .i64 addr)⟩
      have HT12 : Hid (Bx (w8.setCell ⟨xb, 0, none⟩ (.int .i64 addr)) F8 tb (.cells #[.int .i64 i, .int .i64 xg] 38 (0, 0))) := ⟨HT10.out.1, (Below.heap_setCell _ _ _ _ HNE.out.2.2).trans HT10.out.2⟩
      clear x0 x1 x2 x3 f0 f1 f2 f3 HX11
      generalize w8.setCell ⟨xb, 0, none⟩ (.int .i64 addr) = w9 at *
      have hon3 : ({ S1 with ws := putAt S1.ws addr ((S1.ws.drop xa).take (z + 1)) } : HS).on = true := hon1
      obtain ⟨e0, e1, e2, e3⟩ := HE1.out _ _ _ hon3 HRN9.out.heap
      obtain ⟨-, -, -, c3, -⟩ := HF1.out _ _ _ HRN9.out.heap
      have HX13 := Lib.hid HX12.out.2
      have HT13 := Lib.hid HT12.out.2
      have x0 := (cells_of_block HX13.out 0).1
      have x1 := (cells_of_block HX13.out 1).1
      have x2 := (cells_of_block HX13.out 2).1
      have x3 := (cells_of_block HX13.out 3).1
      simp at x0 x1 x2 x3
      have t0 := (cells_of_block HT13.out 0).1
      have t1 := (cells_of_block HT13.out 1).1
      simp at t0 t1
      clear hon3 hon1
      go_still_tail 9, (by kernel_rfl)
      have HRN10 := Lib.hid (HRN9.out.below (Below.refl _ _).drew)
      have HX14 := Lib.hid (HX12.out.below (Below.refl _ _).drew)
      change wpList _ _ _ _ _ w9.drew
      clear HX13 HT13 x0 x1 x2 x3 t0 t1 e0 e1 e2 e3 c3
      generalize w9.drew = w10 at *
      go_wp2_with fail
      refine (HSET.out w10 F8 addr S1 HA.out trivial HRN10.out.heap).mono ?_
      rintro e w11 ⟨rfl, S2, hm, h11⟩
      have HM := Lib.hid hm
      have HRP := Lib.hid (HRN10.out.op h11)
      obtain ⟨FP, hFP⟩ : ∃ FP, FP = grow F8 w10 w11 := ⟨_, rfl⟩
      rw [← hFP] at HRP
      clear hFP hm h11
      generalize w11 = wp at *
    rotate_left
    focus
      obtain ⟨S2, hS2⟩ : ∃ S2, S2 = S := ⟨_, rfl⟩
      have HM : Hid (MovedSt S i ⟨xg, xu, xa, xr, xh, false⟩ (z + 1) S2) := HMS.out _ (Or.inl ⟨rfl, hS2⟩)
      obtain ⟨FP, hFP⟩ : ∃ FP, FP = F := ⟨_, rfl⟩
      have HRP : Hid (Run w F w5 FP A S2) := by rw [hS2, hFP]; exact HRN5.out
      clear hS2
      clear hFP
      generalize w5 = wp at *
    all_goals
      have hon2 : S2.on = true := by rw [HM.out.same.2.2.2.2.2.2.1]; exact HON.out
      obtain ⟨e0, e1, e2, e3⟩ := HE1.out _ _ _ hon2 HRP.out.heap
      have HON2 := Lib.hid hon2
      clear hon2
      go_wp2_with fail
      refine (HPT.out wp FP S2 HM.out HRP.out.heap).mono ?_
      rintro e w20 ⟨⟨bb, rfl⟩, h20⟩
      have HRQ := Lib.hid (HRP.out.op h20)
      obtain ⟨FQ, hFQ⟩ : ∃ FQ, FQ = grow FP wp w20 := ⟨_, rfl⟩
      rw [← hFQ] at HRQ
      clear e0 e1 e2 e3 h20 hFQ
      have hon3 : ({ S2 with gs := S2.gs.paint i } : HS).on = true := HON2.out
      obtain ⟨e0, e1, e2, e3⟩ := HE1.out _ _ _ hon3 HRQ.out.heap
      clear hon3
      go_wp2_with fail
      refine (HTG.out w20 FQ S2 HM.out HRQ.out.heap).mono ?_
      rintro e w21 ⟨v, rfl, hrow, hb⟩
      have HRR := Lib.hid (HRQ.out.below hb)
      have hlt := hrow.lt
      obtain ⟨a1, cp, rfl, hsq, -, -⟩ := ownsRow_seq hrow
      have HSQ := Lib.hid hsq
      have HNB : Hid (∀ b o, a1 = some ⟨b, o, none⟩ → ¬ FQ b) := fun b o e hf => by
        have h1 := (hlt b (by rw [e]; rfl)).1
        have h2 := HRQ.out.heap.lt b hf
        omega
      obtain ⟨zl, hzl⟩ : ∃ zl, zl = zs.length := ⟨_, rfl⟩
      rw [← hzl]
      have HZ := Lib.hid hzl
      clear hlt hrow hsq hb e0 e1 e2 e3 hzl
      go_wp2_with fail
      go_loopw [89] (fun iv wr => ∃ k : Nat, k ≤ zl ∧ iv = .int .i64 (k : Int) ∧ Hid (LkSt w F A S2 (S2.gs.paint i) zs a1 k wr)) (fun iv _ => zl - (intOf iv).toNat)
      case atStart => exact ⟨0, Nat.zero_le _, rfl, FQ, HRR.out, HSQ.out, HNB.out⟩
      case round =>
        obtain ⟨k, hk, rfl, HR⟩ := hrel
        by_cases hlt : k < zl
        · obtain ⟨F', hrun, hsq, hnf⟩ := HR.out
          obtain ⟨b, off, x, rfl, hc, HX⟩ := hsq.ints (k := k) (by rw [← HZ.out]; exact hlt)
          obtain ⟨j, y, rfl, hy, hu, hr1⟩ := HEL.out S2 HM.out x (List.mem_of_getElem? HX.out)
          obtain ⟨yg, yu, ya, yr, yh, yp⟩ := y
          simp only at hu hr1
          subst hr1
          have HENT := HEN2.out _ _ _ j _ hrun.heap hy hu
          simp only [entryV] at HENT
          have HENT := Lib.hid HENT
          have HRN := Lib.hid hrun
          have HS1 := Lib.hid hsq
          have HNF := Lib.hid hnf
          have hi : (k : Int) < (zl : Int) := by omega
          have hzm : zl ≤ 100000 := by rw [HZ.out]; exact HZL.out
          clear hrun hsq hnf hy hu
          go_wp2_with fail
          refine HENT.out.mono ?_
          rintro e w22 ⟨rfl, hb2⟩
          have h2 := al2 w22 (.cells #[.int .i64 j, .int .i64 yg] 38) (.cells #[.int .i64 ya, .int .i64 1, .bool yh, .bool yp] 93)
          have hb3 : Below wr.heap.size wr ((w22.alloc (.cells #[.int .i64 j, .int .i64 yg] 38)).alloc (.cells #[.int .i64 ya, .int .i64 1, .bool yh, .bool yp] 93)) := hb2.trans (h2.1.mono hb2.size)
          have HRN3 := Lib.hid (HRN.out.below hb3)
          have HX3 := Lib.hid h2.2.2
          have HS3 := Lib.hid (HS1.out.below hb3 (Nat.le_refl _))
          obtain ⟨qb, hqb⟩ : ∃ qb, qb = w22.heap.size + 1 := ⟨_, rfl⟩
          obtain ⟨pb, hpb⟩ : ∃ pb, pb = w22.heap.size := ⟨_, rfl⟩
          rw [← hqb] at HX3
          clear h2 hb2 hb3
          go_wp2_with fail
          rw [← hqb, ← hpb]
          clear hqb hpb
          generalize (w22.alloc (.cells #[.int .i64 j, .int .i64 yg] 38)).alloc (.cells #[.int .i64 ya, .int .i64 1, .bool yh, .bool yp] 93) = w23 at *
          have hon3 : ({ S2 with gs := (S2.gs.paint i).put (zs.take k) } : HS).on = true := HON2.out
          obtain ⟨e0, e1, e2, e3⟩ := HE1.out _ _ _ hon3 HRN3.out.heap
          clear hon3
          have x0 := (cells_of_block HX3.out 0).1
          have x1 := (cells_of_block HX3.out 1).1
          have x2 := (cells_of_block HX3.out 2).1
          have x3 := (cells_of_block HX3.out 3).1
          simp at x0 x1 x2 x3
          go_still (by kernel_rfl)
          have HRN4 := Lib.hid (HRN3.out.below (Below.refl _ _).drew)
          have HS4 : Hid (SeqAt w23.drew (some ⟨b, off, none⟩) (ints zs)) := HS3.out
          clear e0 e1 e2 e3 x0 x1 x2 x3 HX3
          rw [show ({ heap := w23.heap, tape := w23.tape, drawn := w23.drawn + 1, os := w23.os, output := w23.output } : World) = w23.drew from rfl]
          generalize w23.drew = w24 at *
          have hon3 : ({ S2 with gs := (S2.gs.paint i).put (zs.take k) } : HS).on = true := HON2.out
          obtain ⟨e0, e1, e2, e3⟩ := HE1.out _ _ _ hon3 HRN4.out.heap
          clear hon3
          go_wp2_with fail
          have hb5 : Below w24.heap.size w24 (w24.alloc (.cells #[.int .i64 j] 3)) := (Below.refl _ _).alloc (Nat.le_refl _) _
          refine (HGP.out w24 F' S2 k HM.out (by rw [← HZ.out]; exact hlt) HRN4.out.heap j HX.out w24.heap.size _ hb5 (heap_alloc_new w24 _) (Nat.le_refl _)).mono ?_
          rintro e w25 ⟨⟨kk, rfl⟩, h25⟩
          have HRN5 := Lib.hid ((HRN4.out.below hb5).op h25)
          have HS5 : Hid (SeqAt w25 (some ⟨b, off, none⟩) (ints zs)) := (HS4.out.below hb5 (Nat.le_refl _)).only h25.2 (fun _ b' o' e => HNF.out b' o' e)
          have HNF5 : Hid (∀ b' o', some (⟨b, off, none⟩ : Addr) = some ⟨b', o', none⟩ → ¬ grow F' (w24.alloc (.cells #[.int .i64 j] 3)) w25 b') := fun b' o' e hg => by
            rcases hg with hg | hg
            · exact HNF.out b' o' e hg
            · have h1 := hg.1
              cases e
              have h5 : b < w24.heap.size := SeqAt.lt0 HS4.out HX.out
              simp at h1
              omega
          clear h25 hb5
          go_wp2
          go_roundw
          case rel => exact ⟨k + 1, by omega, by go_num, _, HRN5.out, HS5.out, HNF5.out⟩
          case measure => simp [intOf]; omega
        · have hle : ¬ ((k : Int) < (zl : Int)) := by omega
          have hkz : k = zl := by omega
          subst hkz
          clear hlt
          go_wp2_with fail
          obtain ⟨F', hrun, -, -⟩ := HR.out
          rw [List.take_of_length_le (Nat.le_of_eq HZ.out.symm)] at hrun
          go_ret2
          exact ⟨rfl, S2, HM.out, hrun.fin HLT.out⟩
end Go.Proofs.YtcdpnfchmpncjaaGreatDoor

namespace Go.Proofs.YtcdpnfchmpncjaaGreatDoor
open Go.RowKit Go.Tr Go.Shelf
variable {w w' : World} {F G : Nat → Prop} {A : Ad} {S S1 : HS}
theorem HeapF.next (h : HeapF w F A S) (hon : S.on = true) (hs : S.gs.Small 1000000) : Calls Tryz.prog 59 #[.pointer (some ⟨A.gl, 0, none⟩)] w fun e w' => e = .returned (nextV S.gs.next) ∧ HeapF w' (grow F w w') A { S with gs := S.gs.next.2 } ∧ Only F w w' := by
  obtain ⟨G, hg, hG, hput⟩ := h.setGray hon
  exact (next_any w hg hs).mono fun e w' ⟨e1, e2, e3⟩ => ⟨e1, hput _ w' e2 e3⟩
structure LookPre (S : HS) (i : Nat) (x : Sl) (count : Nat) (o : Nat → Option (Nat × Nat)) : Prop where
  on : S.on = true
  sp : SpOk S.ps
  ob : ObjOk S i x count
  pn : x.pinned = false
  sm : S.gs.Small 500000
  room : (bigPart S.ps (x.addr / S.Wd) || !hasL (chunksL S.ps) ((x.addr / S.Wd : Nat) : Int)) = false → RoomTo S (S.L.size count + 1)
  mv : ∀ addr S1, AllocTo S (S.L.size count + 1) addr S1 → MvOk S1 addr x.addr count i
  af : ∀ S2, MovedSt S i x (S.L.size count + 1) S2 → ∃ x2, ObjOk S2 i x2 count ∧ (∀ p ∈ slotsL S.L count, LkOk (o p) ∧ S2.ws.getD (x2.addr + 1 + p) 0 = lkN (o p)) ∧ ∀ z ∈ tgt (refsL S.L count o), ∃ (j : Nat) (y : Sl), z = (j : Int) ∧ S2.sl[j]? = some y ∧ y.used = true ∧ y.region = 1
def StepJ (J : Nat → HS → Prop) : Prop := ∀ n S, J n S → S.on = true ∧ S.gs.Small 1000000 ∧
  ((S.gs.next.1 = none ∧ S.gs.next.2.wait = 0 ∧ J n { S with gs := S.gs.next.2 }) ∨
   ∃ (i : Nat) (x : Sl) (count : Nat) (o : Nat → Option (Nat × Nat)), S.gs.next.1 = some (i : Int) ∧ S.L.size count ≤ 10000 ∧ LookPre { S with gs := S.gs.next.2 } i x count o ∧ ∀ S2, MovedSt { S with gs := S.gs.next.2 } i x (S.L.size count + 1) S2 → J (n + 1) { S2 with gs := (S2.gs.paint i).put (tgt (refsL S.L count o)) })
def StSt (w : World) (F : Nat → Prop) (A : Ad) (J : Nat → HS → Prop) (n0 d : Nat) (wr : World) : Prop := ∃ F' S' n, Run w F wr F' A S' ∧ J n S' ∧ n0 ≤ n ∧ (0 < d → n0 < n)
def StEnd (w : World) (F : Nat → Prop) (A : Ad) (J : Nat → HS → Prop) (n0 : Nat) (w' : World) : Prop := ∃ S' n, J n S' ∧ n0 ≤ n ∧ (n0 < n ∨ S'.gs.wait = 0) ∧ HeapF w' (grow F w w') A S' ∧ Only F w w'
set_option maxRecDepth 100000 in
set_option maxHeartbeats 4000000 in
theorem estep_any {J : Nat → HS → Prop} {b n0 : Nat} (hJ : StepJ J) (w : World) (h : HeapF w F A S) (hS : J n0 S) (hb : 1 ≤ b) (hb2 : b ≤ 1000000) :
    Calls Tryz.prog 26 #[.pointer (some ⟨A.h, 0, none⟩), .int .i64 b] w fun e w' => (∃ d : Nat, e = .returned (.tuple #[.int .i64 d, .int .i64 0])) ∧ StEnd w F A J n0 w' := by
  have HRUN := Lib.hid (Run.start h)
  have HLT := Lib.hid h.lt
  have HE1 := Lib.hid (fun W F1 (S1 : HS) (ho : S1.on = true) (hr : HeapF W F1 A S1) => hr.evf ho (Below.refl _ _))
  have HJ := Lib.hid hJ
  have HJ0 := Lib.hid hS
  obtain ⟨e0, e1, e2, e3⟩ := HE1.out _ _ _ (hJ _ _ hS).1 h
  have hbn : ¬ ((b : Int) < 1) := by omega
  have HB1 : Hid (1 ≤ b) := hb
  clear h hJ hS hb
  go_enter Tryz.func26, Tryz.ntmps26
  go_wp2
  go_step3
  go_wp2
  go_step3
  go_wp2_with fail
  clear e0 e1 e2 e3
  go_loopw [6] (fun v wr => ∃ d : Nat, v = .int .i64 (d : Int) ∧ d ≤ b + 10000 ∧ Hid (StSt w F A J n0 d wr)) (fun v _ => b - (intOf v).toNat)
  case atStart => exact ⟨0, rfl, by omega, F, S, n0, HRUN.out, HJ0.out, Nat.le_refl _, fun h => by omega⟩
  case round =>
    obtain ⟨d, rfl, hd, HR⟩ := hrel
    by_cases hlt : d < b
    · obtain ⟨F', S', n, hrun, hj, hn, hp⟩ := HR.out
      obtain ⟨hon, hsm, hcase⟩ := HJ.out n S' hj
      have HRN := Lib.hid hrun
      have HN := Lib.hid (And.intro hn hp)
      obtain ⟨e0, e1, e2, e3⟩ := HE1.out _ _ _ hon hrun.heap
      have HNX := Lib.hid (hrun.heap.next hon hsm)
      have hlt2 : (d : Int) < (b : Int) := by omega
      clear hrun hj hn hp hon hsm
      rcases hcase with ⟨h1, h2, h3⟩ | ⟨i, x, count, o, h1, h2, h3, h4⟩
      · simp only [nextV, h1, Option.getD, Option.isSome] at HNX
        have H2 := Lib.hid (And.intro h2 h3)
        clear h1 h2 h3
        go_wp2_with fail
        refine HNX.out.mono ?_
        rintro e w1 ⟨rfl, h5⟩
        have HRN5 := Lib.hid (HRN.out.op h5)
        clear h5
        go_wp2
        rw [Exit.noGoto_ret]
        go_ret2
        exact ⟨⟨d, rfl⟩, _, n, H2.out.2, HN.out.1, Or.inr H2.out.1, HRN5.out.fin HLT.out⟩
      · simp only [nextV, h1, Option.getD, Option.isSome] at HNX
        have H3 := Lib.hid h3
        have H4 := Lib.hid h4
        obtain ⟨z, hz⟩ : ∃ z, z = S'.L.size count + 1 := ⟨_, rfl⟩
        have hz2 : z ≤ 10001 := by omega
        have hz1 : 1 ≤ z := by omega
        have HZ := Lib.hid hz
        clear h1 h2 h3 h4 hz
        go_wp2_with fail
        refine HNX.out.mono ?_
        rintro e w1 ⟨rfl, h5⟩
        have HRN5 := Lib.hid (HRN.out.op h5)
        clear h5 e0 e1 e2 e3
        go_wp2_with fail
        have hlk := H3.out
        refine (elook_any o w1 HRN5.out.heap hlk.on hlk.sp hlk.ob hlk.pn hlk.sm hlk.room hlk.mv hlk.af).mono ?_
        clear hlk
        simp only
        rw [← HZ.out]
        rintro e w2 ⟨rfl, S2, hm, h6⟩
        have HRN6 := Lib.hid (HRN5.out.op h6)
        have HM := Lib.hid (H4.out S2 (by rw [← HZ.out]; exact hm))
        clear hm h6
        go_wp2
        go_roundw
        case rel => exact ⟨d + z, by go_num, by omega, _, _, n + 1, HRN6.out, HM.out, by have := HN.out.1; omega, fun _ => by have := HN.out.1; omega⟩
        case measure => simp [intOf]; omega
    · have hlt2 : ¬ ((d : Int) < (b : Int)) := by omega
      obtain ⟨F', S', n, hrun, hj, hn, hp⟩ := HR.out
      go_wp2
      go_ret2
      exact ⟨⟨d, rfl⟩, _, n, hj, hn, Or.inl (hp (by have := HB1.out; omega)), hrun.fin HLT.out⟩
end Go.Proofs.YtcdpnfchmpncjaaGreatDoor

namespace Go.Proofs.YtcdpnfchmpncjaaGreatDoor
open Go.RowKit Go.Tr Go.Shelf
variable {w w' : World} {F G : Nat → Prop} {A : Ad} {S S1 : HS}
theorem HeapF.begun {w4 : World} {u g : Nat} {gs : GS} {Gu Gg : Nat → Prop} (h : HeapF w F A S) (ho : Only (fun k => k = A.h) w w4) (hh : w4.heap[A.h]? = some (.cells (EvOn { A with u2 := u, gl := g } true) 31 (0, 0)))
    (hg : GrayAt 165 w4 g Gg gs) (hu : SpF 154 w4 Gu u A.s 1 [] 0 0) (hgb : ∀ k, Gg k → w.heap.size ≤ k ∧ k < w4.heap.size) (hub : ∀ k, Gu k → w.heap.size ≤ k ∧ k < w4.heap.size) (hd : ∀ k, Gg k → ¬ Gu k) :
    Run w F w4 (fun k => F k ∨ Gg k ∨ Gu k) { A with u2 := u, gl := g } { S with on := true, ps2 := [], a2 := 0, en2 := 0, gs := gs } := by
  classical
  obtain ⟨⟨hF, tau, ht⟩, htz⟩ := h
  have h9 : EvAt w (Fr F tau 9) A S.on := ht 9
  have hoF : Only F w w4 := ho.mono (fun k hk => by rw [show k = A.h from hk]; exact h9.1.1)
  refine ⟨⟨fun k hk => ?_, fun k => if k < w.heap.size then tau k else if Gg k then 11 else 10, fun j => ?_⟩, hoF, fun k hk => ?_, htz⟩
  · rcases hk with hk | hk | hk
    · exact Nat.lt_of_lt_of_le (hF k hk) ho.size
    · exact (hgb k hk).2
    · exact (hub k hk).2
  · have old : ∀ k, F k → (if k < w.heap.size then tau k else if Gg k then 11 else 10) = tau k := fun k hk => if_pos (hF k hk)
    by_cases h1 : j = 9
    · subst h1
      exact ⟨⟨Or.inl h9.1.1, (old _ h9.1.1).trans h9.1.2⟩, hh⟩
    by_cases h2 : j = 10
    · subst h2
      intro _
      exact SpF.mono hu (fun k hk => ⟨Or.inr (Or.inr hk), by
        show (if k < w.heap.size then tau k else if Gg k then 11 else 10) = 10
        rw [if_neg (by have := (hub k hk).1; omega), if_neg (fun hk2 => hd k hk2 hk)]⟩)
    by_cases h3 : j = 11
    · subst h3
      intro _
      exact hg.mono (fun k hk => ⟨Or.inr (Or.inl hk), by
        show (if k < w.heap.size then tau k else if Gg k then 11 else 10) = 11
        rw [if_neg (by have := (hgb k hk).1; omega), if_pos hk]⟩)
    have e : PP { A with u2 := u, gl := g } { S with on := true, ps2 := [], a2 := 0, en2 := 0, gs := gs } j = PP A S j := by
      unfold PP
      split <;> first | rfl | exact absurd rfl h1 | exact absurd rfl h2 | exact absurd rfl h3
    rw [e]
    exact (pp_parts A S).mono j w4 _ _ ((pp_parts A S).kept j w w4 _ (ht j) (fun k hk hl => ho.block k hl (fun ek => h1 (by rw [← hk.2, show k = A.h from ek, h9.1.2])))) (fun k hk => ⟨Or.inl hk.1, (old k hk.1).trans hk.2⟩)
  · rcases hk with hk | hk | hk
    · exact Or.inl hk
    · exact Or.inr (hgb k hk).1
    · exact Or.inr (hub k hk).1
theorem GrayAt.stay {W W' : World} {g : Nat} {gs : GS} {G : Nat → Prop} (h : GrayAt 165 W g G gs) (hk : ∀ k, G k → W'.heap[k]? = W.heap[k]?) (A : Ad) (S : HS) : GrayAt 165 W' g G gs :=
  (pp_parts { A with gl := g } { S with on := true, gs := gs }).kept 11 W W' G (fun _ => h) (fun k hk2 _ => hk k hk2) rfl
theorem SpF.stay {W W' : World} {u s a en : Nat} {ps : List (Nat × Nat)} {G : Nat → Prop} (h : SpF 154 W G u s 1 ps a en) (hk : ∀ k, G k → W'.heap[k]? = W.heap[k]?) (A : Ad) (S : HS) : SpF 154 W' G u s 1 ps a en :=
  (pp_parts { A with u := u, s := s } { S with ps := ps, a := a, en := en }).kept 6 W W' G h (fun k hk2 _ => hk k hk2)
theorem HeapF.rof (h : HeapF w F A S) (x : Int) {W : World} (hb : Below w.heap.size w W) : Calls Tryz.prog 57 #[.pointer (some ⟨A.rm, 0, none⟩), .int .i64 x] W fun e w' => e = .returned (.slice none 0 0) ∧ Below W.heap.size W w' := by
  obtain ⟨G, hG, h1⟩ := (h.below hb).1.read 5
  exact rof_any x W h1
theorem HeapF.all (h : HeapF w F A S) (hl : S.mine.length ≤ 1000000) {W : World} (hb : Below w.heap.size w W) : Calls Tryz.prog 55 #[.pointer (some ⟨A.bg, 0, none⟩)] W fun e w' => ∃ Bs b, e = .returned (.func (.func 146) #[] #[.pointer (some ⟨Bs, 0, none⟩)]) ∧
    SeqAll (fun _ A B => A = B) (KeepsB b) Tryz.prog 146 #[.pointer (some ⟨Bs, 0, none⟩)] (fun x : Int => #[Value.int .i64 x]) S.mine w' ∧ W.heap.size ≤ b ∧ b < w'.heap.size ∧ Below W.heap.size W w' := by
  obtain ⟨G, hG, h1⟩ := (h.below hb).1.read 7
  exact ballF_any W h1 hl
theorem Run.putObj {b : Nat} {o : Obj} {W : World} {F1 : Nat → Prop} (h : Run w F W F1 A S) (hb : w.heap.size ≤ b) (hn : ¬ F1 b) : Run w F (W.putObj b o) F1 A S := by
  obtain ⟨⟨h0, tau, ht⟩, h2, h3, h4⟩ := h
  have hk : ∀ k, k ≠ b → (W.putObj b o).heap[k]? = W.heap[k]? := fun k hk => World.putObj_heap_other hk
  refine ⟨⟨fun k hk => by simpa using h0 k hk, tau, fun i => (pp_parts A S).kept i W _ _ (ht i) (fun k hk2 _ => hk k (fun e => hn (by rw [← e]; exact hk2.1)))⟩, ?_, h3, h4⟩
  exact ⟨h2.os, h2.tape, h2.output, by simpa using h2.size, fun k hl hf => (hk k (by omega)).trans (h2.block k hl hf)⟩
def heldB (sl : List Sl) (z : Int) : Bool := match sl[z.toNat]? with | some y => y.held | none => false
def BgSt (w : World) (F : Nat → Prop) (A : Ad) (S : HS) (bx b lb : Nat) (pre : List Int) (W : World) : Prop :=
  ∃ F', Run w F W F' A { S with gs := GS.new.put (pre.filter (heldB S.sl)) } ∧ Bx W F' bx (.cells #[.pointer (some ⟨A.h, 0, none⟩)] 22 (0, 0)) ∧ ¬ F' b ∧ ¬ F' lb ∧ ¬ F' (lb + 1)
set_option maxRecDepth 100000 in
set_option maxHeartbeats 4000000 in
theorem ebegin_any (w : World) (h : HeapF w F A S) (hoff : S.on = false) (hl : S.mine.length ≤ 900000) (hm : ∀ z ∈ S.mine, ∃ (j : Nat) (y : Sl), z = (j : Int) ∧ S.sl[j]? = some y ∧ y.used = true ∧ y.pinned = false) :
    Calls Tryz.prog 25 #[.pointer (some ⟨A.h, 0, none⟩), .int .i64 1] w fun e w' => e = .returned (.int .i64 0) ∧ ∃ u g, HeapF w' (grow F w w') { A with u2 := u, gl := g } { S with on := true, ps2 := [], a2 := 0, en2 := 0, gs := GS.new.put (S.mine.filter (heldB S.sl)) } ∧ Only F w w' := by
  have HH := Lib.hid h
  have HLT := Lib.hid h.lt
  have HF := Lib.hid (fun W (hb : Below w.heap.size w W) => h.fields hb)
  have HE := Lib.hid (fun W (hb : Below w.heap.size w W) => h.evf0 hoff hb)
  have HLV := Lib.hid (fun W (hb : Below w.heap.size w W) => h.live hb)
  have HM := Lib.hid hm
  have HL := Lib.hid hl
  have HEV : Hid (F A.h ∧ w.heap[A.h]? = some (.cells #[.pointer (some ⟨A.c, 0, none⟩), .int .i64 0, .pointer none, .pointer none] 31 (0, 0))) := by
    have := h.ev
    rw [hoff] at this
    exact ⟨this.2, this.1⟩
  obtain ⟨bx, hbx⟩ : ∃ bx, bx = w.heap.size := ⟨_, rfl⟩
  have HBX := Lib.hid hbx
  have HB0 : Hid (Below w.heap.size w (w.alloc (.cells #[.pointer (some ⟨A.h, 0, none⟩)] 22))) := (Below.refl _ w).alloc (Nat.le_refl _) _
  have HX0 : Hid ((w.alloc (.cells #[.pointer (some ⟨A.h, 0, none⟩)] 22)).heap[bx]? = some (.cells #[.pointer (some ⟨A.h, 0, none⟩)] 22 (0, 0))) := by rw [hbx]; exact heap_alloc_new w _
  have x0 := (cells_of_block HX0.out 0).1
  simp at x0
  obtain ⟨e0, e1⟩ := HE.out _ HB0.out
  obtain ⟨-, -, -, -, c4, -⟩ := HF.out _ HB0.out
  clear h hoff hl hm
  refine (callsIn_wide (n := 2)).1 ?_
  refine callsIn_of_wp_marks Tryz.func25 rfl trivial ?_ rfl
  refine wpIn_wide.2 (wp_noPanic ?_)
  simp only [Tryz.ntmps25, List.size_toArray, List.length_cons, List.length_nil, Nat.reduceAdd, Nat.reduceSub, Array.replicate_succ, Array.replicate_zero, List.push_toArray, List.append_toArray, List.nil_append, List.cons_append]
  go_wp2_with fail
  rw [← hbx]
  clear hbx
  generalize w.alloc (.cells #[.pointer (some ⟨A.h, 0, none⟩)] 22) = wa at *
  refine (HLV.out wa HB0.out).mono ?_
  rintro e w1 ⟨rfl, rfl⟩
  go_wp2_with fail
  clear x0 e0 e1 c4
  have hne : bx ≠ A.h := by have h1 := HLT.out _ HEV.out.1; have h2 := HBX.out; omega
  have HNE := Lib.hid hne
  have HDX : Hid (∀ W, Only (fun k => k = A.h) wa W → W.cell? ⟨bx, 0, none⟩ = some (.pointer (some ⟨A.h, 0, none⟩))) := fun W ho => by
    have := (ho.block bx (block_lt HX0.out) HNE.out).trans HX0.out
    exact (cells_of_block this 0).1
  have HCB : Hid (A.c ≠ A.h ∧ A.c < w.heap.size ∧ ∃ v1 v2 v3 v4 v5 v6 v7, w.heap[A.c]? = some (.cells #[.pointer (some ⟨A.s, 0, none⟩), v1, v2, v3, v4, v5, v6, v7] 56 (0, 0))) := by
    have h1 := HH.out.cells.1
    refine ⟨fun e => ?_, block_lt h1, _, _, _, _, _, _, _, h1⟩
    rw [e, HEV.out.2] at h1
    simp at h1
  have HV1 : Hid (wa.heap[A.h]? = some (.cells #[.pointer (some ⟨A.c, 0, none⟩), .int .i64 0, .pointer none, .pointer none] 31 (0, 0))) := (HB0.out.block A.h (HLT.out _ HEV.out.1)).trans HEV.out.2
  clear hne
  refine wp_region_held_drew (S := Only (fun k => k = A.h) wa) (by kernel_rfl) (Only.refl _ wa).drew (fun hH => ?_)
  refine tk 0 (v := ?_) rfl ?_ ?_; rotate_left; · intro W hW; have d0 := HDX.out W hW; go_simp; try with_reducible rfl
  try simp only [Go.Tr.nz]
  refine tk 1 (v := ?_) rfl ?_ ?_; rotate_left; · intro W hW; have d0 := HDX.out W hW; go_simp; try with_reducible rfl
  try simp only [Go.Tr.nz]
  refine tk 2 (v := ?_) rfl ?_ ?_; rotate_left; · intro W hW; have d0 := HDX.out W hW; go_simp; try with_reducible rfl
  try simp only [Go.Tr.nz]
  refine rd 3 rfl (fun K hK => ?_)
  go_simp
  refine (gnew_any _).mono ?_
  rintro e w2 ⟨g, rfl, hg, hon, hgs⟩
  have ho2 : Only (fun k => k = A.h) wa w2 := hH.trans hon (fun k hk => hk.elim)
  have HO2 := Lib.hid ho2
  have HG2 := Lib.hid hg
  have HV2 : Hid (w2.heap[A.h]? = some (.cells #[.pointer (some ⟨A.c, 0, none⟩), .int .i64 0, .pointer none, .pointer none] 31 (0, 0))) := (hon.block A.h (block_lt HV1.out) (fun hk => hk)).trans HV1.out
  refine hK.out _ _ ho2 (fun hH => ?_)
  clear hK K ho2
  refine tk 4 (v := ?_) rfl ?_ ?_; rotate_left; · intro W hW; go_simp; try with_reducible rfl
  try simp only [Go.Tr.nz]
  refine tk 5 (v := ?_) rfl ?_ ?_; rotate_left; · intro W hW; go_simp; try with_reducible rfl
  try simp only [Go.Tr.nz]
  refine rd 6 rfl (fun K hK => ?_)
  have v0 := cells_of_block HV2.out 0
  have v1 := cells_of_block HV2.out 1
  have v2 := cells_of_block HV2.out 2
  have v3 := cells_of_block HV2.out 3
  simp at v0 v1 v2 v3
  obtain ⟨v0, f0⟩ := v0
  obtain ⟨v1, f1⟩ := v1
  obtain ⟨v2, f2⟩ := v2
  obtain ⟨v3, f3⟩ := v3
  go_simp
  have ho3 : Only (fun k => k = A.h) wa (w2.setCell ⟨A.h, 1, none⟩ (.int .i64 1)) := HO2.out.setCell (p := ⟨A.h, 1, none⟩) (Or.inl rfl) _
  refine hK.out _ _ ho3 (fun hH => ?_)
  clear hK K v0 v1 v2 v3 f0 f1 f2 f3
  have HV3 : Hid ((w2.setCell ⟨A.h, 1, none⟩ (.int .i64 1)).heap[A.h]? = some (.cells #[.pointer (some ⟨A.c, 0, none⟩), .int .i64 1, .pointer none, .pointer none] 31 (0, 0))) := by
    show _ = _
    simpa using block_setCell HV2.out 1 (.int .i64 1)
  have HO3 := Lib.hid ho3
  have HSZ3 : Hid ((w2.setCell ⟨A.h, 1, none⟩ (.int .i64 1)).heap.size = w2.heap.size ∧ ∀ k, k ≠ A.h → (w2.setCell ⟨A.h, 1, none⟩ (.int .i64 1)).heap[k]? = w2.heap[k]?) := ⟨by simp, fun k hk => Below.heap_setCell _ _ _ _ hk⟩
  generalize w2.setCell ⟨A.h, 1, none⟩ (.int .i64 1) = w3 at *
  clear ho3
  refine tk 7 (v := ?_) rfl ?_ ?_; rotate_left; · intro W hW; go_simp; try with_reducible rfl
  try simp only [Go.Tr.nz]
  refine tk 8 (v := ?_) rfl ?_ ?_; rotate_left; · intro W hW; go_simp; try with_reducible rfl
  try simp only [Go.Tr.nz]
  refine rd 9 rfl (fun K hK => ?_)
  have v0 := cells_of_block HV3.out 0
  have v1 := cells_of_block HV3.out 1
  have v2 := cells_of_block HV3.out 2
  have v3 := cells_of_block HV3.out 3
  simp at v0 v1 v2 v3
  obtain ⟨v0, f0⟩ := v0
  obtain ⟨v1, f1⟩ := v1
  obtain ⟨v2, f2⟩ := v2
  obtain ⟨v3, f3⟩ := v3
  go_simp
  have ho4 : Only (fun k => k = A.h) wa (w3.setCell ⟨A.h, 3, none⟩ (.pointer (some ⟨g, 0, none⟩))) := HO3.out.setCell (p := ⟨A.h, 3, none⟩) (Or.inl rfl) _
  refine hK.out _ _ ho4 (fun hH => ?_)
  clear hK K v0 v1 v2 v3 f0 f1 f2 f3
  have HV4 : Hid ((w3.setCell ⟨A.h, 3, none⟩ (.pointer (some ⟨g, 0, none⟩))).heap[A.h]? = some (.cells #[.pointer (some ⟨A.c, 0, none⟩), .int .i64 1, .pointer none, .pointer (some ⟨g, 0, none⟩)] 31 (0, 0))) := by
    show _ = _
    simpa using block_setCell HV3.out 3 (.pointer (some ⟨g, 0, none⟩))
  have HO4 := Lib.hid ho4
  have HSZ4 : Hid ((w3.setCell ⟨A.h, 3, none⟩ (.pointer (some ⟨g, 0, none⟩))).heap.size = w2.heap.size ∧ ∀ k, k ≠ A.h → (w3.setCell ⟨A.h, 3, none⟩ (.pointer (some ⟨g, 0, none⟩))).heap[k]? = w2.heap[k]?) := ⟨by rw [← HSZ3.out.1]; simp, fun k hk => (Below.heap_setCell _ _ _ _ hk).trans (HSZ3.out.2 k hk)⟩
  generalize w3.setCell ⟨A.h, 3, none⟩ (.pointer (some ⟨g, 0, none⟩)) = w4 at *
  clear ho4
  refine wpAnyH_done (by kernel_rfl) ?_ _
  go_wp2_with fail
  obtain ⟨n4, hn4⟩ : ∃ n, n = w4.heap.size := ⟨_, rfl⟩
  have HN4 : Hid (n4 = w4.heap.size) := hn4
  clear hn4
  have HDY : Hid (∀ W, (Only (fun k => k = A.h) w4 W ∧ W.cell? ⟨A.h, 0, none⟩ = some (.pointer (some ⟨A.c, 0, none⟩))) → W.cell? ⟨bx, 0, none⟩ = some (.pointer (some ⟨A.h, 0, none⟩)) ∧ W.cell? ⟨A.h, 0, none⟩ = some (.pointer (some ⟨A.c, 0, none⟩)) ∧ W.cell? ⟨A.c, 0, none⟩ = some (.pointer (some ⟨A.s, 0, none⟩))) := fun W hb => by
    obtain ⟨d1, d2, _, _, _, _, _, _, _, d3⟩ := HCB.out
    have hs := HO4.out.size
    have hs0 := HB0.out.size
    have h2 := (hb.1.block A.c (by omega) d1).trans ((HO4.out.block A.c (by omega) d1).trans ((HB0.out.block A.c d2).trans d3))
    have h3 := (hb.1.block bx (Nat.lt_of_lt_of_le (block_lt HX0.out) hs) HNE.out).trans ((HO4.out.block bx (block_lt HX0.out) HNE.out).trans HX0.out)
    exact ⟨(cells_of_block h3 0).1, hb.2, (cells_of_block h2 0).1⟩
  have HG4 := Lib.hid hg
  clear hon hgs hg
  refine wp_region_held_drew (S := fun W => Only (fun k => k = A.h) w4 W ∧ W.cell? ⟨A.h, 0, none⟩ = some (.pointer (some ⟨A.c, 0, none⟩))) (by kernel_rfl) ⟨(Only.refl _ w4).drew, (cells_of_block HV4.out 0).1⟩ (fun hH => ?_)
  refine tk 0 (v := ?_) rfl ?_ ?_; rotate_left; · intro W hW; obtain ⟨d0, d1, d2⟩ := HDY.out W hW; go_simp; try with_reducible rfl
  try simp only [Go.Tr.nz]
  refine tk 1 (v := ?_) rfl ?_ ?_; rotate_left; · intro W hW; obtain ⟨d0, d1, d2⟩ := HDY.out W hW; go_simp; try with_reducible rfl
  try simp only [Go.Tr.nz]
  refine tk 2 (v := ?_) rfl ?_ ?_; rotate_left; · intro W hW; obtain ⟨d0, d1, d2⟩ := HDY.out W hW; go_simp; try with_reducible rfl
  try simp only [Go.Tr.nz]
  refine tk 3 (v := ?_) rfl ?_ ?_; rotate_left; · intro W hW; obtain ⟨d0, d1, d2⟩ := HDY.out W hW; go_simp; try with_reducible rfl
  try simp only [Go.Tr.nz]
  refine tk 4 (v := ?_) rfl ?_ ?_; rotate_left; · intro W hW; obtain ⟨d0, d1, d2⟩ := HDY.out W hW; go_simp; try with_reducible rfl
  try simp only [Go.Tr.nz]
  refine tk 5 (v := ?_) rfl ?_ ?_; rotate_left; · intro W hW; obtain ⟨d0, d1, d2⟩ := HDY.out W hW; go_simp; try with_reducible rfl
  try simp only [Go.Tr.nz]
  refine tk 6 (v := ?_) rfl ?_ ?_; rotate_left; · intro W hW; obtain ⟨d0, d1, d2⟩ := HDY.out W hW; go_simp; try with_reducible rfl
  try simp only [Go.Tr.nz]
  refine tk 7 (v := ?_) rfl ?_ ?_; rotate_left; · intro W hW; obtain ⟨d0, d1, d2⟩ := HDY.out W hW; go_simp; try with_reducible rfl
  try simp only [Go.Tr.nz]
  refine tk 8 (v := ?_) rfl ?_ ?_; rotate_left; · intro W hW; obtain ⟨d0, d1, d2⟩ := HDY.out W hW; go_simp; try with_reducible rfl
  try simp only [Go.Tr.nz]
  refine rd 9 rfl (fun K hK => ?_)
  go_simp
  obtain ⟨u, hu0⟩ : ∃ u, u = w4.drew.heap.size := ⟨_, rfl⟩
  refine (unew_any A.s 1 w4.drew (by decide)).mono ?_
  rintro e w5 ⟨rfl, hu, hou⟩
  rw [← hu0] at hu ⊢
  have HU5 := Lib.hid hu
  have HO5 : Hid (Only (fun k => k = A.h) w4 w5) := (Only.refl (fun k => k = A.h) w4).drew.trans hou (fun k hk => hk.elim)
  have HV5 : Hid (w5.heap[A.h]? = some (.cells #[.pointer (some ⟨A.c, 0, none⟩), .int .i64 1, .pointer none, .pointer (some ⟨g, 0, none⟩)] 31 (0, 0))) := (hou.block A.h (block_lt HV4.out) (fun hk => hk)).trans HV4.out
  refine hK.out _ _ ⟨HO5.out, (cells_of_block HV5.out 0).1⟩ (fun hH => ?_)
  clear hK K hu hou hu0
  refine tk 10 (v := ?_) rfl ?_ ?_; rotate_left; · intro W hW; go_simp; try with_reducible rfl
  try simp only [Go.Tr.nz]
  refine tk 11 (v := ?_) rfl ?_ ?_; rotate_left; · intro W hW; go_simp; try with_reducible rfl
  try simp only [Go.Tr.nz]
  refine tk 12 (v := ?_) rfl ?_ ?_; rotate_left; · intro W hW; go_simp; try with_reducible rfl
  try simp only [Go.Tr.nz]
  refine tk 13 (v := ?_) rfl ?_ ?_; rotate_left; · intro W hW; go_simp; try with_reducible rfl
  try simp only [Go.Tr.nz]
  refine tk 14 (v := ?_) rfl ?_ ?_; rotate_left; · intro W hW; go_simp; try with_reducible rfl
  try simp only [Go.Tr.nz]
  refine rd 15 rfl (fun K hK => ?_)
  have v0 := cells_of_block HV5.out 0
  have v1 := cells_of_block HV5.out 1
  have v2 := cells_of_block HV5.out 2
  have v3 := cells_of_block HV5.out 3
  simp at v0 v1 v2 v3
  obtain ⟨v0, f0⟩ := v0
  obtain ⟨v1, f1⟩ := v1
  obtain ⟨v2, f2⟩ := v2
  obtain ⟨v3, f3⟩ := v3
  go_simp
  have ho6 : Only (fun k => k = A.h) w4 (w5.setCell ⟨A.h, 2, none⟩ (.pointer (some ⟨u, 0, none⟩))) := HO5.out.setCell (p := ⟨A.h, 2, none⟩) (Or.inl rfl) _
  have HV6 : Hid ((w5.setCell ⟨A.h, 2, none⟩ (.pointer (some ⟨u, 0, none⟩))).heap[A.h]? = some (.cells #[.pointer (some ⟨A.c, 0, none⟩), .int .i64 1, .pointer (some ⟨u, 0, none⟩), .pointer (some ⟨g, 0, none⟩)] 31 (0, 0))) := by
    show _ = _
    simpa using block_setCell HV5.out 2 (.pointer (some ⟨u, 0, none⟩))
  refine hK.out _ _ ⟨ho6, (cells_of_block HV6.out 0).1⟩ (fun hH => ?_)
  have HO6 := Lib.hid ho6
  clear hK K v0 v1 v2 v3 f0 f1 f2 f3 ho6
  have HSZ6 : Hid ((w5.setCell ⟨A.h, 2, none⟩ (.pointer (some ⟨u, 0, none⟩))).heap.size = w5.heap.size ∧ ∀ k, k ≠ A.h → (w5.setCell ⟨A.h, 2, none⟩ (.pointer (some ⟨u, 0, none⟩))).heap[k]? = w5.heap[k]?) := ⟨by simp, fun k hk => Below.heap_setCell _ _ _ _ hk⟩
  generalize w5.setCell ⟨A.h, 2, none⟩ (.pointer (some ⟨u, 0, none⟩)) = w6 at *
  refine wpAnyH_done (by kernel_rfl) ?_ _
  have hah := HLT.out _ HEV.out.1
  have s0 := HB0.out.size
  have s4 : w2.heap.size = w4.heap.size := HSZ4.out.1.symm
  have s6 : w6.heap.size = w5.heap.size := HSZ6.out.1
  have sa : wa.heap.size ≤ w4.heap.size := HO4.out.size
  have s5 : w4.heap.size ≤ w5.heap.size := HO5.out.size
  have HRN : Hid (Run w F w6 (fun k => F k ∨ grow (fun _ => False) wa.drew w2 k ∨ grow (fun _ => False) w4.drew w5 k) { A with u2 := u, gl := g } { S with on := true, ps2 := [], a2 := 0, en2 := 0, gs := GS.new }) := by
    refine HH.out.begun (((Only.of_below HB0.out _).trans HO4.out (fun k hk => Or.inl hk)).trans HO6.out (fun k hk => Or.inl hk)) HV6.out (GrayAt.stay HG4.out (fun k hk => ?_) A S) (SpF.stay HU5.out (fun k hk => ?_) A S) (fun k hk => ?_) (fun k hk => ?_) (fun k hk hk2 => ?_)
    · rcases hk with hk | hk
      · exact hk.elim
      · have e1 : wa.heap.size ≤ k := hk.1
        have e2 : k < w2.heap.size := hk.2
        exact (HO6.out.block k (by omega) (by show ¬ k = A.h; omega)).trans (HSZ4.out.2 k (by omega))
    · rcases hk with hk | hk
      · exact hk.elim
      · have e1 : w4.heap.size ≤ k := hk.1
        exact HSZ6.out.2 k (by omega)
    · rcases hk with hk | hk
      · exact hk.elim
      · have e1 : wa.heap.size ≤ k := hk.1
        have e2 : k < w2.heap.size := hk.2
        omega
    · rcases hk with hk | hk
      · exact hk.elim
      · have e1 : w4.heap.size ≤ k := hk.1
        have e2 : k < w5.heap.size := hk.2
        omega
    · rcases hk with hk | hk
      · exact hk.elim
      · rcases hk2 with hk2 | hk2
        · exact hk2.elim
        · have e1 : w4.heap.size ≤ k := hk2.1
          have e2 : k < w2.heap.size := hk.2
          omega
  have HX6 : Hid (Bx w6 (fun k => F k ∨ grow (fun _ => False) wa.drew w2 k ∨ grow (fun _ => False) w4.drew w5 k) bx (.cells #[.pointer (some ⟨A.h, 0, none⟩)] 22 (0, 0))) := by
    have hl0 := block_lt HX0.out
    refine ⟨fun hk => ?_, (HO6.out.block bx (by omega) HNE.out).trans ((HO4.out.block bx hl0 HNE.out).trans HX0.out)⟩
    rcases hk with hk | hk | hk
    · have := HLT.out bx hk; have := HBX.out; omega
    · rcases hk with hk | hk
      · exact hk.elim
      · have e1 : wa.heap.size ≤ bx := hk.1
        omega
    · rcases hk with hk | hk
      · exact hk.elim
      · have e1 : w4.heap.size ≤ bx := hk.1
        omega
  obtain ⟨F6, hF6⟩ : ∃ F6 : Nat → Prop, F6 = (fun k => F k ∨ grow (fun _ => False) wa.drew w2 k ∨ grow (fun _ => False) w4.drew w5 k) := ⟨_, rfl⟩
  rw [← hF6] at HRN HX6
  clear hF6 hah s0 s4 s6 sa s5 HU5 HG4 HSZ6 HSZ4 HO6 HO5 HO4 HV6 HV5 HV4 HDY HCB HDX HN4 HV1 HO2 HG2 HV2 HSZ3 HO3 HV3
  obtain ⟨S1, hS1⟩ : ∃ S1 : HS, S1 = { S with on := true, ps2 := [], a2 := 0, en2 := 0 } := ⟨_, rfl⟩
  obtain ⟨A1, hA1⟩ : ∃ A1 : Ad, A1 = { A with u2 := u, gl := g } := ⟨_, rfl⟩
  have HRN1 : Hid (Run w F w6 F6 A1 { S1 with gs := GS.new.put (([] : List Int).filter (heldB S1.sl)) }) := by rw [hS1, hA1]; exact HRN.out
  have HSA : Hid (S1.on = true ∧ S1.sl = S.sl ∧ S1.mine = S.mine ∧ A1.h = A.h ∧ A1.c = A.c ∧ A1.mn = A.mn ∧ A1.bg = A.bg ∧ A1.rm = A.rm) := by rw [hS1, hA1]; exact ⟨rfl, rfl, rfl, rfl, rfl, rfl, rfl, rfl⟩
  have HEV1 : Hid (∀ W F1 gs, HeapF W F1 A1 { S1 with gs := gs } → W.cell? ⟨A.h, 0, none⟩ = some (.pointer (some ⟨A.c, 0, none⟩)) ∧ W.cell? ⟨A.h, 3, none⟩ = some (.pointer (some ⟨A1.gl, 0, none⟩)) ∧ W.cell? ⟨A.c, 5, none⟩ = some (.pointer (some ⟨A.rm, 0, none⟩)) ∧ W.cell? ⟨A.c, 7, none⟩ = some (.map (some A.mn))) := fun W F1 gs hr => by
    obtain ⟨h1, h2, h3, h4, h5, h6, h7, h8⟩ := HSA.out
    rw [← h4, ← h5, ← h6, ← h8]
    have e := hr.evf h1 (Below.refl _ _)
    have c := hr.fields (Below.refl _ _)
    exact ⟨e.1, e.2.2.2, c.2.2.2.2.2.1, c.2.2.2.2.2.2.2⟩
  have HLM := Lib.hid (HRN1.out.heap.lookMine (Below.refl _ _))
  have HALL := Lib.hid (HRN1.out.heap.all (by have := HL.out; simp only; rw [HSA.out.2.2.1]; omega) (Below.refl _ _))
  simp only [HSA.out.2.2.1, HSA.out.2.2.2.2.2.1, HSA.out.2.2.2.2.2.2.1] at HLM HALL
  obtain ⟨e0, e3, c5, c7⟩ := HEV1.out _ _ _ HRN1.out.heap
  have x0 := (cells_of_block HX6.out.2 0).1
  simp at x0
  have HFIN : Hid (∀ w', (∃ F', Run w F w' F' A1 { S1 with gs := GS.new.put (S.mine.filter (heldB S1.sl)) }) → ∃ u g, HeapF w' (grow F w w') { A with u2 := u, gl := g } { S with on := true, ps2 := [], a2 := 0, en2 := 0, gs := GS.new.put (S.mine.filter (heldB S.sl)) } ∧ Only F w w') := fun w' ⟨F', hr⟩ => by
    rw [hS1, hA1] at hr
    exact ⟨u, g, hr.fin HLT.out⟩
  clear hS1 hA1 HRN
  go_wp2_with (first
    | (refine list_look (.tmp 57) (.tmp 58) 54 rfl _ _ _ rfl rfl HLM.out ?_)
    | fail)
  refine HALL.out.mono ?_
  rintro e w7 ⟨Bs, b, rfl, hseq, hb1, hb2, hb3⟩
  have HSEQ := Lib.hid hseq
  have HRN7 := Lib.hid (HRN1.out.below hb3)
  have HX7 := Lib.hid (HX6.out.below hb3)
  have HN7 : Hid (¬ F6 b ∧ b < w7.heap.size ∧ w.heap.size ≤ w7.heap.size ∧ (∀ k, F6 k → k < w7.heap.size) ∧ bx < w7.heap.size) := by
    have h1 := HRN1.out.heap.lt
    have h2 := hb3.size
    have h3 := HRN1.out.2.1.size
    have h4 := block_lt HX6.out.2
    exact ⟨fun hf => by have := h1 b hf; omega, hb2, by omega, fun k hk => by have := h1 k hk; omega, by omega⟩
  have HLW : Hid (w.heap.size ≤ w7.heap.size) := HN7.out.2.2.1
  clear hseq hb1 hb2 hb3 e0 e3 c5 c7 x0
  go_wp2_with fail
  have hIB : ∀ pre W (r : Loop), BgSt w F A1 S1 bx b w7.heap.size pre W → BgSt w F A1 S1 bx b w7.heap.size pre (W.putObj (w7.heap.size + 1) (.loop r)) := fun pre W r ⟨F', h1, h2, h3, h4, h5⟩ => by
    have h6 := HN7.out.2.2.2.2
    have h7 := HLW.out
    exact ⟨F', h1.putObj (by omega) h5, ⟨h2.1, (World.putObj_heap_other (by omega)).trans h2.2⟩, h3, h4, h5⟩
  have HIB := Lib.hid hIB
  clear hIB
  refine (wpIn_wide (n := 2)).1 ?_
  refine range_all (m := 0) (gf := 146) (lb := #[.pointer (some ⟨Bs, 0, none⟩)]) rfl (enters_of Tryz.func146 (by kernel_rfl) rfl) HSEQ.out (Below.refl _ _) (fun x => rfl) (fun h k => keepsB_t h k) ?hkb
    (fun pre W => BgSt w F A1 S1 bx b w7.heap.size pre W) ?hib ?hst ?hsk ?h0 ?round ?done
  case hkb => exact fun W r r' _ => World.putObj_heap_other (by have := HN7.out.2.1; omega)
  case hib => exact fun pre W r r' h _ => HIB.out pre W r' h
  case hst => rintro pre A B h rfl; exact h
  case hsk => rintro A B k rfl _ _; rfl
  case h0 =>
    intro r
    have hb : Below w7.heap.size w7 ((w7.alloc (.deferred (some []))).alloc (.loop r)) := ((Below.refl _ w7).alloc (Nat.le_refl _) _).alloc (by simp) _
    obtain ⟨h1, h2, h3, h4, h5⟩ := HN7.out
    exact ⟨F6, HRN7.out.below hb, by have := HX7.out.below hb; rw [HSA.out.2.2.2.1]; exact this, h1, fun h => by have := h4 _ h; omega, fun h => by have := h4 _ h; omega⟩
  case round =>
    intro pre x W hI hpre hlt
    obtain ⟨j, y, rfl, hy, hu, hp⟩ := HM.out x (hpre.subset (by simp))
    have hsem := @Oper.semAt_some
    gi_wp2_with fail
    refine ⟨trivial, trivial, rfl, fun r hkr => ?_⟩
    obtain ⟨F', h1, h2, h3, h4, h5⟩ := HIB.out pre W r hI
    have hsz : w7.heap.size + 1 < (W.putObj (w7.heap.size + 1) (.loop r)).heap.size := by simpa using hlt
    clear hI hkr hlt
    generalize W.putObj (w7.heap.size + 1) (.loop r) = W2 at *
    rw [HSA.out.2.2.2.1] at h2
    obtain ⟨yg, yu, ya, yr, yh, yp⟩ := y
    simp only at hu hp
    subst hp
    have hENT := CallsIn.inRound (w7.heap.size + 1) (callsIn_wide (n := 0).2 (eentry_any W2 h1.heap (i := j) (x := ⟨yg, yu, ya, yr, yh, false⟩) (by simp only; rw [HSA.out.2.1]; exact hy) hu))
    simp only [entryV, HSA.out.2.2.2.1] at hENT
    have HENT := Lib.hid hENT
    have HRN2 := Lib.hid h1
    have HX2 := Lib.hid h2
    have HN2 := Lib.hid (And.intro h3 (And.intro h4 h5))
    have HSZ2 := Lib.hid hsz
    have HY := Lib.hid hy
    have HPRE := Lib.hid hpre
    have x0 := (cells_of_block HX2.out.2 0).1
    simp at x0
    clear h1 h2 h3 h4 h5 hENT hsz hy hu hpre
    gi_wp2_with fail
    refine ⟨trivial, rfl, HENT.out.mono ?_⟩
    rintro e w8 ⟨rfl, hb8⟩
    cases yh
    focus
      have h2 := al2 w8 (.cells #[.int .i64 j, .int .i64 yg] 38) (.cells #[.int .i64 ya, .int .i64 yr, .bool false, .bool false] 93)
      have hb9 : Below W2.heap.size W2 ((w8.alloc (.cells #[.int .i64 j, .int .i64 yg] 38)).alloc (.cells #[.int .i64 ya, .int .i64 yr, .bool false, .bool false] 93)) := hb8.trans (h2.1.mono hb8.size)
      have HRN9 := Lib.hid (HRN2.out.below hb9)
      have HX9 := Lib.hid (HX2.out.below hb9)
      have HB9 := Lib.hid hb9
      obtain ⟨qb, hqb⟩ : ∃ qb, qb = w8.heap.size + 1 := ⟨_, rfl⟩
      obtain ⟨pb, hpb⟩ : ∃ pb, pb = w8.heap.size := ⟨_, rfl⟩
      clear hb8 hb9 h2 x0
      have x0 := (cells_of_block HX9.out.2 0).1
      simp at x0
      obtain ⟨e0, e3, c5, c7⟩ := HEV1.out _ _ _ HRN9.out.heap
      gi_wp2_with fail
      rw [← hqb, ← hpb]
      clear hqb hpb x0 e0 e3 c5 c7
      generalize (w8.alloc (.cells #[.int .i64 j, .int .i64 yg] 38)).alloc (.cells #[.int .i64 ya, .int .i64 yr, .bool false, .bool false] 93) = w9 at *
      have hOF := CallsIn.inRound (w7.heap.size + 1) (callsIn_wide (n := 0).2 (HRN9.out.heap.rof (j : Int) (Below.refl _ _)))
      simp only [HSA.out.2.2.2.2.2.2.2] at hOF
      refine ⟨trivial, rfl, hOF.mono ?_⟩
      rintro e w10 ⟨rfl, hb10⟩
      have HRN10 := Lib.hid (HRN9.out.below hb10)
      have HX10 := Lib.hid (HX9.out.below hb10)
      have HB10 := Lib.hid (HB9.out.trans (hb10.mono HB9.out.size))
      clear hb10 hOF
      gi_wp2_with fail
      have e : (pre ++ [(j : Int)]).filter (heldB S1.sl) = pre.filter (heldB S1.sl) := by
        rw [List.filter_append]
        simp [heldB, HSA.out.2.1, HY.out]
      have h1 := HSZ2.out
      have h2 := HN7.out.2.1
      exact ⟨HB10.out.block _ h1, HB10.out.block _ (by omega), HB10.out.block _ (by omega), F', by rw [e]; exact HRN10.out, by rw [HSA.out.2.2.2.1]; exact HX10.out, HN2.out⟩
    focus
      have h2 := al2 w8 (.cells #[.int .i64 j, .int .i64 yg] 38) (.cells #[.int .i64 ya, .int .i64 yr, .bool true, .bool false] 93)
      have hb9 : Below W2.heap.size W2 ((w8.alloc (.cells #[.int .i64 j, .int .i64 yg] 38)).alloc (.cells #[.int .i64 ya, .int .i64 yr, .bool true, .bool false] 93)) := hb8.trans (h2.1.mono hb8.size)
      have HRN9 := Lib.hid (HRN2.out.below hb9)
      have HX9 := Lib.hid (HX2.out.below hb9)
      have HB9 := Lib.hid hb9
      obtain ⟨qb, hqb⟩ : ∃ qb, qb = w8.heap.size + 1 := ⟨_, rfl⟩
      obtain ⟨pb, hpb⟩ : ∃ pb, pb = w8.heap.size := ⟨_, rfl⟩
      clear hb8 hb9 h2 x0
      have x0 := (cells_of_block HX9.out.2 0).1
      simp at x0
      obtain ⟨e0, e3, c5, c7⟩ := HEV1.out _ _ _ HRN9.out.heap
      gi_wp2_with fail
      rw [← hqb, ← hpb]
      clear hqb hpb x0 e0 e3 c5 c7
      generalize (w8.alloc (.cells #[.int .i64 j, .int .i64 yg] 38)).alloc (.cells #[.int .i64 ya, .int .i64 yr, .bool true, .bool false] 93) = w9 at *
      refine ⟨trivial, ?_⟩
      rename_i K hK
      refine hK _ _ ?_
      clear hK K
      have x0 := (cells_of_block HX9.out.2 0).1
      simp at x0
      obtain ⟨e0, e3, c5, c7⟩ := HEV1.out _ _ _ HRN9.out.heap
      gi_wp2_with fail
      have hsml : (GS.new.put (pre.filter (heldB S1.sl))).Small 999999 := by
        have h1 := HPRE.out.length_le
        have h2 := HL.out
        have h3 := List.length_filter_le (heldB S1.sl) pre
        rw [List.length_append] at h1
        refine (GS.Small.put (N := 0) (pre.filter (heldB S1.sl)) (by unfold GS.Small GS.new; simp)).mono ?_
        omega
      have hb11 : Below w9.heap.size w9 (w9.alloc (.cells #[.int .i64 j] 3)) := (Below.refl _ _).alloc (Nat.le_refl _) _
      have hGP := CallsIn.inRound (w7.heap.size + 1) (callsIn_wide (n := 0).2 (HRN9.out.heap.gput (by exact HSA.out.1) hsml (j : Int) w9.heap.size hb11 (heap_alloc_new w9 _) (Nat.le_refl _)))
      refine ⟨trivial, rfl, hGP.mono ?_⟩
      rintro e w12 ⟨⟨kk, rfl⟩, h12⟩
      have HRN12 := Lib.hid ((HRN9.out.below hb11).op h12)
      have HX12 := Lib.hid ((HX9.out.below hb11).op h12.2)
      have HB11 := Lib.hid (HB9.out.trans (hb11.mono HB9.out.size))
      have HO12 := Lib.hid h12.2
      have HL11 : Hid (W2.heap.size ≤ (w9.alloc (.cells #[.int .i64 j] 3)).heap.size) := HB11.out.size
      clear hsml hb11 hGP h12 x0 e0 e3 c5 c7
      gi_wp2_with fail
      have e : (pre ++ [(j : Int)]).filter (heldB S1.sl) = pre.filter (heldB S1.sl) ++ [(j : Int)] := by
        rw [List.filter_append]
        simp [heldB, HSA.out.2.1, HY.out]
      have h1 := HSZ2.out
      have h2 := HN7.out.2.1
      have h3 := HL11.out
      obtain ⟨m1, m2, m3⟩ := HN2.out
      have hk : ∀ k, k < W2.heap.size → ¬ F' k → w12.heap[k]? = W2.heap[k]? := fun k hk hn => (HO12.out.block k (by omega) hn).trans (HB11.out.block k hk)
      have hg : ∀ k, k < W2.heap.size → ¬ F' k → ¬ grow F' (w9.alloc (.cells #[.int .i64 j] 3)) w12 k := fun k hk hn hg => hg.elim hn (fun hg => by have := hg.1; omega)
      exact ⟨hk _ h1 m3, hk _ (by omega) m2, hk _ (by omega) m1, _, by rw [e, put_snoc]; exact HRN12.out, by rw [HSA.out.2.2.2.1]; exact HX12.out, hg _ (by omega) m1, hg _ (by omega) m2, hg _ (by omega) m3⟩
  case done =>
    rintro W ⟨F', h1, -, -, h4, -⟩ hD
    have HEND := Lib.hid (fun o => HFIN.out _ ⟨F', by have := h1.putObj (o := o) HLW.out h4; exact this⟩)
    clear h1 h4
    go_wp2_with fail
    refine ⟨by simp, .inl ⟨_, _, rfl, run_takeDeferred hD, ?_⟩⟩
    exact ⟨_, results_tmp rfl _ _ _, rfl, HEND.out _⟩
end Go.Proofs.YtcdpnfchmpncjaaGreatDoor

namespace Go.Proofs.YtcdpnfchmpncjaaGreatDoor
open Go.RowKit Go.Tr Go.Shelf
variable {w w' : World} {F G : Nat → Prop} {A : Ad} {S S1 : HS}
theorem HeapF.color (h : HeapF w F A S) (hon : S.on = true) (x : Int) : Calls Tryz.prog 65 #[.pointer (some ⟨A.gl, 0, none⟩), .int .i64 x] w fun e w' => e = .returned (.int .i64 (S.gs.color x)) ∧ w = w' := by
  obtain ⟨G, hg⟩ := h.gray hon
  exact color_any x w hg
theorem HeapF.drop (h : HeapF w F A S) (c m : Nat) (hl : S.ps.length ≤ 100000) (hf : findPart S.ps c = some (c, m)) (hm : c + m ≤ S.C) (hown : ∀ i, c ≤ i → i < c + m → S.own.getD i 0 ≠ 0) :
    Calls Tryz.prog 70 #[.pointer (some ⟨A.u, 0, none⟩), .int .i64 c] w fun e w' => e = .returned (.int .i64 0) ∧ HeapF w' (grow F w w') A { S with ps := S.ps.erase (c, m), a := if m = 1 ∧ S.en = (c + 1) * S.Wd then 0 else S.a, en := if m = 1 ∧ S.en = (c + 1) * S.Wd then 0 else S.en, own := putAt S.own c (List.replicate m 0) } ∧ Only F w w' := by
  obtain ⟨G, H, hG, hH, hd, hp, hst, hb⟩ := h.1.part2 (pp_parts A S) 6 1 (by decide)
  refine (udrop_any c m w hp hst hd (fun k hk => h.lt k (hG k hk)) (fun k hk => h.lt k (hH k hk)) hl hf hm hown).mono ?_
  rintro e w' ⟨rfl, a3, a4, a5⟩
  refine ⟨rfl, HeapF.put h.2 (hb (PP A _) w' (pp_parts _ _) (fun j hj hj2 => ?_) a3 a4 a5)⟩
  unfold PP
  split <;> first | rfl | exact absurd rfl hj | exact absurd rfl hj2
theorem HeapF.join (h : HeapF w F A S) (hon : S.on = true) (hl : S.ps.length + S.ps2.length ≤ 100000) (hown : ∀ p ∈ S.ps2, p.1 + p.2 ≤ S.C ∧ ∀ i, p.1 ≤ i → i < p.1 + p.2 → S.own.getD i 0 = 1) :
    Calls Tryz.prog 72 #[.pointer (some ⟨A.u, 0, none⟩), .pointer (some ⟨A.u2, 0, none⟩)] w fun e w' => e = .returned (.int .i64 0) ∧ Only F w w' ∧ w'.heap[A.h]? = w.heap[A.h]? ∧
      ∀ w2, Only (fun k => k = A.h) w' w2 → w2.heap.size = w'.heap.size → w2.heap[A.h]? = some (.cells (EvOn A false) 31 (0, 0)) → HeapF w2 (grow F w w2) A { S with ps := S.ps ++ S.ps2, a := if 0 < S.en2 then S.a2 else S.a, en := if 0 < S.en2 then S.en2 else S.en, on := false } ∧ Only F w w2 := by
  obtain ⟨⟨hF, tau, ht⟩, htz⟩ := h
  have h6 : SpF 154 w (Fr F tau 6) A.u A.s 1 S.ps S.a S.en := ht 6
  have h1 : StF w (Fr F tau 1) A.s S.C S.Wd S.ws S.own := ht 1
  have h10 : SpF 154 w (Fr F tau 10) A.u2 A.s 1 S.ps2 S.a2 S.en2 := ht 10 hon
  have h9 : EvAt w (Fr F tau 9) A S.on := ht 9
  have ne : ∀ {i j k : Nat}, i ≠ j → Fr F tau i k → ¬ Fr F tau j k := fun hij a b => hij (by rw [← a.2, b.2])
  refine (ujoin_any w h6 h1 h10 (fun k a => ne (by decide) a) (fun k a => ⟨ne (by decide) a, ne (by decide) a⟩) (fun k a => hF k a.1) (fun k a => hF k a.1) (fun k a => hF k a.1) (Nat.le_refl _) (by decide) hl hown).mono ?_
  rintro e w' ⟨rfl, b1, b2, b3⟩
  have hoF : Only F w w' := b3.mono (fun k hk => hk.elim (·.1) (fun hk => hk.elim (·.1) (·.1)))
  have hah : A.h < w.heap.size := hF _ h9.1.1
  have hkeep : ∀ j k, j ≠ 6 → j ≠ 1 → j ≠ 10 → Fr F tau j k → w'.heap[k]? = w.heap[k]? := fun j k h6 h1 h10 hk => b3.block k (hF k hk.1) (fun hx => by
    rcases hx with hx | hx | hx
    · exact h6 (by rw [← hk.2, hx.2])
    · exact h1 (by rw [← hk.2, hx.2])
    · exact h10 (by rw [← hk.2, hx.2]))
  refine ⟨rfl, hoF, hkeep 9 _ (by decide) (by decide) (by decide) h9.1, fun w2 ho hs hh => ?_⟩
  have hoF2 : Only F w w2 := hoF.trans ho (fun k hk => Or.inl (by rw [show k = A.h from hk]; exact h9.1.1))
  refine ⟨⟨⟨grow_lt hF hoF2.size, fun k => if k < w.heap.size then tau k else 6, fun j => ?_⟩, htz.grow (U := F) hoF2⟩, hoF2⟩
  have old : ∀ k, F k → (if k < w.heap.size then tau k else 6) = tau k := fun k hk => if_pos (hF k hk)
  have up : ∀ k, Fr F tau j k → Fr (grow F w w2) (fun k => if k < w.heap.size then tau k else 6) j k := fun k hk => ⟨Or.inl hk.1, (old k hk.1).trans hk.2⟩
  have h2 : ∀ k, k ≠ A.h → k < w'.heap.size → w2.heap[k]? = w'.heap[k]? := fun k hk hl => ho.block k hl hk
  by_cases j6 : j = 6
  · subst j6
    have := SpF.stay (W' := w2) b1 (fun k hk => h2 k (fun e => ?_) ?_) A S
    · refine SpF.mono this (fun k hk => hk.elim (up k) (fun hk => ⟨Or.inr ⟨hk.1, by have := hk.2; omega⟩, ?_⟩))
      show (if k < w.heap.size then tau k else 6) = 6
      exact if_neg (by have := hk.1; omega)
    · rcases hk with hk | hk
      · rw [e] at hk; exact ne (by decide) hk h9.1
      · have := hk.1; omega
    · rcases hk with hk | hk
      · exact Nat.lt_of_lt_of_le (hF k hk.1) hoF.size
      · exact hk.2
  by_cases j1 : j = 1
  · subst j1
    exact StF.mono (StF.kept b2 (fun k hk hl => h2 k (fun e => by rw [e] at hk; exact ne (by decide) hk h9.1) hl)) up
  by_cases j9 : j = 9
  · subst j9
    exact ⟨up _ h9.1, hh⟩
  by_cases j10 : j = 10
  · subst j10; intro h; cases h
  by_cases j11 : j = 11
  · subst j11; intro h; cases h
  have e : PP A { S with ps := S.ps ++ S.ps2, a := if 0 < S.en2 then S.a2 else S.a, en := if 0 < S.en2 then S.en2 else S.en, on := false } j = PP A S j := by
    unfold PP
    split <;> first | rfl | exact absurd rfl j6 | exact absurd rfl j1 | exact absurd rfl j9 | exact absurd rfl j10 | exact absurd rfl j11
  rw [e]
  exact (pp_parts A S).mono j w2 _ _ ((pp_parts A S).kept j w w2 _ (ht j) (fun k hk hl => (h2 k (fun e => j9 (by rw [← hk.2, e, h9.1.2])) (Nat.lt_of_lt_of_le hl hoF.size)).trans (hkeep j k j6 j1 j10 hk))) up
end Go.Proofs.YtcdpnfchmpncjaaGreatDoor

namespace Go.Tr
theorem nodup_sub {α : Type} [BEq α] [LawfulBEq α] : ∀ {l m : List α}, l.Nodup → (∀ x ∈ l, x ∈ m) → l.length ≤ m.length
  | [], _, _, _ => by simp
  | x :: l, m, hn, hs => by
    obtain ⟨h1, h2⟩ := List.nodup_cons.1 hn
    have hx : x ∈ m := hs x (List.mem_cons_self ..)
    have hne : ∀ y ∈ l, y ≠ x := fun y hy e => h1 (e ▸ hy)
    have := nodup_sub (m := m.erase x) h2 (fun y hy => (List.mem_erase_of_ne (hne y hy)).2 (hs y (List.mem_cons_of_mem _ hy)))
    rw [List.length_erase_of_mem hx] at this
    have := List.length_pos_of_mem hx
    simp only [List.length_cons]
    omega
def PApart (p q : Nat × Nat) : Prop := p.1 + p.2 ≤ q.1 ∨ q.1 + q.2 ≤ p.1
theorem PApart.symm {p q : Nat × Nat} (h : PApart p q) : PApart q p := Or.symm h
theorem pairwise_mem {α : Type} {R : α → α → Prop} (hs : ∀ x y, R x y → R y x) : ∀ {l : List α}, l.Pairwise R → ∀ x ∈ l, ∀ y ∈ l, x ≠ y → R x y
  | [], _, x, hx, _, _, _ => by cases hx
  | a :: l, h, x, hx, y, hy, hn => by
    obtain ⟨h1, h2⟩ := List.pairwise_cons.1 h
    rcases List.mem_cons.1 hx with e | k <;> rcases List.mem_cons.1 hy with e' | k'
    · exact absurd (e.trans e'.symm) hn
    · rw [e]; exact h1 y k'
    · rw [e']; exact hs _ _ (h1 x k)
    · exact pairwise_mem hs h2 x k y k' hn
theorem mem_chunksL {ps : List (Nat × Nat)} {c : Int} : c ∈ chunksL ps ↔ ∃ p ∈ ps, ∃ k : Nat, c = (k : Int) ∧ p.1 ≤ k ∧ k < p.1 + p.2 := by
  unfold chunksL runL
  rw [List.mem_flatMap]
  refine exists_congr fun p => and_congr_right fun _ => ?_
  rw [List.mem_map]
  constructor
  · rintro ⟨j, hj, rfl⟩
    exact ⟨p.1 + j, rfl, by omega, by have := List.mem_range.1 hj; omega⟩
  · rintro ⟨k, rfl, h1, h2⟩
    exact ⟨k - p.1, List.mem_range.2 (by omega), by congr 1; omega⟩
theorem chunksL_nodup {ps : List (Nat × Nat)} (h : ps.Pairwise PApart) : (chunksL ps).Nodup := by
  unfold chunksL
  refine List.pairwise_flatMap.2 ⟨fun p _ => ?_, h.imp ?_⟩
  · unfold runL
    rw [List.pairwise_map]
    exact List.nodup_range.imp (fun h e => h (by omega))
  · intro p q hpq x hx y hy e
    unfold runL at hx hy
    obtain ⟨i, hi, rfl⟩ := List.mem_map.1 hx
    obtain ⟨j, hj, rfl⟩ := List.mem_map.1 hy
    have := List.mem_range.1 hi
    have := List.mem_range.1 hj
    rcases hpq with h | h <;> omega
theorem chunksL_len_le {ps : List (Nat × Nat)} {C : Nat} (h : ps.Pairwise PApart) (hC : ∀ p ∈ ps, p.1 + p.2 ≤ C) : (chunksL ps).length ≤ C := by
  have := nodup_sub (m := (List.range C).map fun i : Nat => (i : Int)) (chunksL_nodup h) (fun c hc => by
    obtain ⟨p, hp, k, rfl, h1, h2⟩ := mem_chunksL.1 hc
    exact List.mem_map.2 ⟨k, List.mem_range.2 (by have := hC p hp; omega), rfl⟩)
  simpa using this
theorem parts_len_le : ∀ {ps : List (Nat × Nat)}, (∀ p ∈ ps, 1 ≤ p.2) → ps.length ≤ (chunksL ps).length
  | [], _ => by simp
  | p :: ps, h => by
    have := parts_len_le (fun q hq => h q (List.mem_cons_of_mem _ hq))
    have h1 := h p (List.mem_cons_self ..)
    unfold chunksL at this ⊢
    rw [List.flatMap_cons, List.length_append, runL_length, List.length_cons]
    omega
theorem chunk_free {ps : List (Nat × Nat)} {C : Nat} (h : (chunksL ps).length < C) : ∃ c, c < C ∧ ∀ p ∈ ps, ¬ (p.1 ≤ c ∧ c < p.1 + p.2) := by
  refine Classical.byContradiction fun hn => ?_
  have := nodup_sub (l := (List.range C).map fun i : Nat => (i : Int)) (m := chunksL ps) (by
    show List.Pairwise _ _
    rw [List.pairwise_map]
    exact List.nodup_range.imp (fun h e => h (by omega))) (fun c hc => by
    obtain ⟨k, hk, rfl⟩ := List.mem_map.1 hc
    refine Classical.byContradiction fun hm => hn ⟨k, List.mem_range.1 hk, fun p hp hb => hm (mem_chunksL.2 ⟨p, hp, k, rfl, hb.1, hb.2⟩)⟩)
  simp at this
  omega
theorem in_part {Wd p m a n c : Nat} (hW : 1 ≤ Wd) (h1 : p * Wd ≤ a) (h2 : a + n ≤ (p + m) * Wd) (hn : 1 ≤ n) (hc1 : a / Wd ≤ c) (hc2 : c ≤ (a + n - 1) / Wd) : p ≤ c ∧ c < p + m := by
  have e1 : p ≤ a / Wd := (Nat.le_div_iff_mul_le hW).2 h1
  have e2 : (a + n - 1) / Wd < p + m := (Nat.div_lt_iff_lt_mul hW).2 (by omega)
  omega
def InPart (Wd : Nat) (ps : List (Nat × Nat)) (ad n : Nat) : Prop := ∃ p ∈ ps, p.1 * Wd ≤ ad ∧ ad + n ≤ (p.1 + p.2) * Wd ∧ (p.2 = 1 ∨ ad = p.1 * Wd)
theorem InPart.mono {Wd ad n : Nat} {ps qs : List (Nat × Nat)} (h : InPart Wd ps ad n) (hs : ∀ p ∈ ps, p ∈ qs) : InPart Wd qs ad n := by
  obtain ⟨p, hp, h1⟩ := h; exact ⟨p, hs p hp, h1⟩
theorem words_apart {Wd : Nat} {p q : Nat × Nat} {a n b m : Nat} (h : PApart p q) (h1 : p.1 * Wd ≤ a) (h2 : a + n ≤ (p.1 + p.2) * Wd) (h3 : q.1 * Wd ≤ b) (h4 : b + m ≤ (q.1 + q.2) * Wd) : a + n ≤ b ∨ b + m ≤ a := by
  rcases h with h | h
  · have := Nat.mul_le_mul_right Wd h; omega
  · have := Nat.mul_le_mul_right Wd h; omega
end Go.Tr
namespace Go.Proofs.YtcdpnfchmpncjaaGreatDoor
open Go.RowKit Go.Tr Go.Shelf
def HS.all (S : HS) : List (Nat × Nat) := if S.on = true then S.ps ++ S.ps2 else S.ps
def ObjIn (S : HS) (cnt : Nat → Nat) (i ad n : Nat) : Prop := ∃ x, S.sl[i]? = some x ∧ x.used = true ∧ x.addr = ad ∧ n = S.L.size (cnt i) + 1
def AtOk (S : HS) (cnt : Nat → Nat) (ps : List (Nat × Nat)) (a en : Nat) : Prop :=
  a ≤ en ∧ en ≤ S.C * S.Wd ∧ (a < en → (∃ c, (c, 1) ∈ ps ∧ en = (c + 1) * S.Wd ∧ c * S.Wd ≤ a) ∧ ∀ i ad n, ObjIn S cnt i ad n → ad + n ≤ a ∨ en ≤ ad)
structure EntOk (S : HS) (cnt : Nat → Nat) (i : Nat) (x : Sl) : Prop where
  reg : x.region = 1
  pin : x.pinned = false
  cn : cnt i ≤ 1024
  slot : i < 4096
  gen : 1 ≤ x.gen ∧ x.gen ≤ 255
  rc : cnt i = 0 ∨ S.L.record ≠ 0
  size : S.L.size (cnt i) < 8192
  hdr : S.ws.getD x.addr 0 = hdrN i (cnt i) 1
  ap : InPart S.Wd S.all x.addr (S.L.size (cnt i) + 1)
structure Good (S : HS) (cnt : Nat → Nat) : Prop where
  cb : 1 ≤ S.C ∧ S.C ≤ 1024
  wd : 1 ≤ S.Wd ∧ S.Wd ≤ 1024
  right : RightLay S.L
  wl : S.ws.length = S.C * S.Wd
  ol : S.own.length = S.C
  ent : ∀ i x, S.sl[i]? = some x → x.used = true → EntOk S cnt i x
  apart : ∀ i j a n b m, i ≠ j → ObjIn S cnt i a n → ObjIn S cnt j b m → a + n ≤ b ∨ b + m ≤ a
  rise : S.mine.Pairwise (· < ·)
  mine : ∀ z : Int, z ∈ S.mine ↔ ∃ i x, z = (i : Nat) ∧ S.sl[i]? = some x ∧ x.used = true
  parts : ∀ p ∈ S.all, 1 ≤ p.2 ∧ p.1 + p.2 ≤ S.C ∧ ∀ c, p.1 ≤ c → c < p.1 + p.2 → S.own.getD c 0 = 1
  pap : S.all.Pairwise PApart
  own : ∀ c, S.own.getD c 0 ≠ 0 → ∃ p ∈ S.all, p.1 ≤ c ∧ c < p.1 + p.2
  at1 : AtOk S cnt S.ps S.a S.en
  at2 : S.on = true → AtOk S cnt S.ps2 S.a2 S.en2
def Cont (S : HS) (cnt : Nat → Nat) (ct : Nat → Nat → Nat) : Prop := ∀ i x, S.sl[i]? = some x → x.used = true → ∀ p, p < S.L.size (cnt i) → S.ws.getD (x.addr + 1 + p) 0 = ct i p
variable {S S1 : HS} {cnt : Nat → Nat} {ct : Nat → Nat → Nat}
theorem Good.words_le (h : Good S cnt) : S.C * S.Wd ≤ 1048576 := Nat.le_trans (Nat.mul_le_mul h.cb.2 h.wd.2) (by decide)
theorem Good.in_le (h : Good S cnt) {ad n : Nat} (hp : InPart S.Wd S.all ad n) : ad + n ≤ S.C * S.Wd := by
  obtain ⟨p, hp, h1, h2, -⟩ := hp
  exact Nat.le_trans h2 (Nat.mul_le_mul_right _ (h.parts p hp).2.1)
theorem Good.in_owned (h : Good S cnt) {ad n : Nat} (hp : InPart S.Wd S.all ad n) (hn : 1 ≤ n) : Owned S.own S.Wd ad n := fun c h1 h2 => by
  obtain ⟨p, hp, e1, e2, -⟩ := hp
  obtain ⟨k1, k2⟩ := in_part h.wd.1 e1 e2 hn h1 h2
  rw [(h.parts p hp).2.2 c k1 k2]
  decide
theorem Good.objOk (h : Good S cnt) {i : Nat} {x : Sl} (hx : S.sl[i]? = some x) (hu : x.used = true) : ObjOk S i x (cnt i) := by
  have e := h.ent i x hx hu
  have h1 := h.in_le e.ap
  have h2 := h.in_owned e.ap (by omega)
  have h3 := h.words_le
  exact ⟨hx, hu, ⟨by omega, h2 _ (Nat.le_refl _) (Nat.div_le_div_right (by omega)), e.hdr, e.cn, e.slot, e.rc, e.size⟩, by omega, by omega, h2⟩
theorem ps_sub (S : HS) : ∀ p ∈ S.ps, p ∈ S.all := fun p hp => by unfold HS.all; split; exact List.mem_append_left _ hp; exact hp
theorem ps2_sub {S : HS} (hon : S.on = true) : ∀ p ∈ S.ps2, p ∈ S.all := fun p hp => by unfold HS.all; rw [if_pos hon]; exact List.mem_append_right _ hp
theorem Good.pap1 (h : Good S cnt) : S.ps.Pairwise PApart := by
  have := h.pap
  unfold HS.all at this
  split at this
  · exact (List.pairwise_append.1 this).1
  · exact this
theorem Good.all_len (h : Good S cnt) : S.all.length ≤ 1024 ∧ (chunksL S.all).length ≤ S.C := by
  have h1 := chunksL_len_le h.pap (fun p hp => (h.parts p hp).2.1)
  have h2 := parts_len_le (fun p hp => (h.parts p hp).1)
  have h3 := h.cb.2
  exact ⟨by omega, h1⟩
theorem Good.spOk (h : Good S cnt) : SpOk S.ps := by
  have h1 := chunksL_len_le h.pap1 (fun p hp => (h.parts p (ps_sub S p hp)).2.1)
  have h2 := parts_len_le (fun p hp => (h.parts p (ps_sub S p hp)).1)
  have h3 := h.cb.2
  exact ⟨by omega, by omega, fun p hp => by have := (h.parts p (ps_sub S p hp)).2.1; omega⟩
theorem Good.ps_len (h : Good S cnt) : S.ps.length ≤ 1024 := by
  have := h.all_len.1
  unfold HS.all at this
  split at this
  · rw [List.length_append] at this; omega
  · exact this
theorem Good.mine_len (h : Good S cnt) : S.mine.length ≤ 4096 := by
  have := nodup_sub (m := (List.range 4096).map fun i : Nat => (i : Int)) (h.rise.imp (fun h e => by omega) : S.mine.Nodup) (fun z hz => by
    obtain ⟨i, x, rfl, hx, hu⟩ := (h.mine z).1 hz
    exact List.mem_map.2 ⟨i, List.mem_range.2 (h.ent i x hx hu).slot, rfl⟩)
  simpa using this
structure NewAt (S : HS) (cnt : Nat → Nat) (ad n : Nat) : Prop where
  ap : InPart S.Wd S.all ad n
  apart : ∀ i a m, ObjIn S cnt i a m → a + m ≤ ad ∨ ad + n ≤ a
  at1 : S.a < S.en → ad + n ≤ S.a ∨ S.en ≤ ad
  at2 : S.on = true → S.a2 < S.en2 → ad + n ≤ S.a2 ∨ S.en2 ≤ ad
theorem _root_.Go.Tr.putAt_out {ws ys : List Nat} {o j : Nat} (h : j < o ∨ o + ys.length ≤ j) : (putAt ws o ys).getD j 0 = ws.getD j 0 := by rw [putAt_get, if_neg (by omega)]
theorem _root_.Go.Tr.putAt_in {ws ys : List Nat} {o j : Nat} (h1 : o ≤ j) (h2 : j < o + ys.length) (h3 : o + ys.length ≤ ws.length) : (putAt ws o ys).getD j 0 = ys.getD (j - o) 0 := by rw [putAt_get, if_pos (by omega)]
theorem replicate_getD {n v j : Nat} (h : j < n) : (List.replicate n v).getD j 0 = v := by rw [List.getD_eq_getElem?_getD, List.getElem?_replicate, if_pos h]; rfl
theorem Good.run_apart (h : Good S cnt) {c q : Nat} (hf : ∀ i, c ≤ i → i < c + (q + 1) → S.own.getD i 0 = 0) : ∀ p ∈ S.all, PApart p (c, q + 1) := fun p hp => by
  obtain ⟨h1, -, h2⟩ := h.parts p hp
  refine Classical.byContradiction fun hn => ?_
  unfold PApart at hn
  simp only [not_or, Nat.not_le] at hn
  have e1 := h2 (max p.1 c) (by omega) (by omega)
  have e2 := hf (max p.1 c) (by omega) (by omega)
  rw [e1] at e2
  cases e2
theorem Good.obj_out (h : Good S cnt) {r : Nat × Nat} (hr : ∀ p ∈ S.all, PApart p r) {i a n : Nat} (ho : ObjIn S cnt i a n) : a + n ≤ r.1 * S.Wd ∨ (r.1 + r.2) * S.Wd ≤ a := by
  obtain ⟨x, hx, hu, rfl, rfl⟩ := ho
  obtain ⟨p, hp, h1, h2, -⟩ := (h.ent i x hx hu).ap
  rcases hr p hp with h3 | h3
  · have := Nat.mul_le_mul_right S.Wd h3; omega
  · have := Nat.mul_le_mul_right S.Wd h3; omega
theorem Good.more (h : Good S cnt) {c q : Nat} (hq : c + (q + 1) ≤ S.C) (hf : ∀ i, c ≤ i → i < c + (q + 1) → S.own.getD i 0 = 0) {l : List (Nat × Nat)} (hl : List.Perm l (S.all ++ [(c, q + 1)])) :
    (∀ p ∈ l, 1 ≤ p.2 ∧ p.1 + p.2 ≤ S.C ∧ ∀ k, p.1 ≤ k → k < p.1 + p.2 → (putAt S.own c (List.replicate (q + 1) 1)).getD k 0 = 1) ∧ l.Pairwise PApart ∧
    (∀ k, (putAt S.own c (List.replicate (q + 1) 1)).getD k 0 ≠ 0 → ∃ p ∈ l, p.1 ≤ k ∧ k < p.1 + p.2) := by
  have hap := h.run_apart hf
  have hin : ∀ k, c ≤ k → k < c + (q + 1) → (putAt S.own c (List.replicate (q + 1) 1)).getD k 0 = 1 := fun k h1 h2 => by
    rw [putAt_in h1 (by rw [List.length_replicate]; exact h2) (by rw [List.length_replicate, h.ol]; exact hq), replicate_getD (by omega)]
  refine ⟨fun p hp => ?_, (hl.pairwise_iff (fun h => PApart.symm h)).2 (List.pairwise_append.2 ⟨h.pap, List.pairwise_singleton _ _, fun p hp r hr => by rw [List.mem_singleton.1 hr]; exact hap p hp⟩), fun k hk => ?_⟩
  · rcases List.mem_append.1 (hl.mem_iff.1 hp) with hp | hp
    · obtain ⟨h1, h2, h3⟩ := h.parts p hp
      refine ⟨h1, h2, fun k k1 k2 => ?_⟩
      rw [putAt_out (by have := hap p hp; unfold PApart at this; simp only [List.length_replicate]; omega)]
      exact h3 k k1 k2
    · rw [List.mem_singleton.1 hp]
      exact ⟨by simp, hq, hin⟩
  · by_cases hc : c ≤ k ∧ k < c + (q + 1)
    · exact ⟨(c, q + 1), hl.mem_iff.2 (List.mem_append_right _ (List.mem_singleton.2 rfl)), hc.1, hc.2⟩
    · rw [putAt_out (by simp only [List.length_replicate]; omega)] at hk
      obtain ⟨p, hp, h1, h2⟩ := h.own k hk
      exact ⟨p, hl.mem_iff.2 (List.mem_append_left _ hp), h1, h2⟩
theorem Good.alloc (h : Good S cnt) {n ad : Nat} (hn : 1 ≤ n) (ha : AllocSt S n ad S1) : Good S1 cnt ∧ NewAt S1 cnt ad n ∧ ∀ ct, Cont S cnt ct → Cont S1 cnt ct := by
  rcases ha with ⟨h1, rfl, rfl⟩ | ⟨h1, c, q, hq, hcq, hf, rfl, rfl⟩
  · obtain ⟨k1, k2, k3⟩ := h.at1
    obtain ⟨⟨c, hc, he, hca⟩, ho⟩ := k3 (by omega)
    have hcw : (c + 1) * S.Wd = c * S.Wd + S.Wd := Nat.succ_mul c S.Wd
    refine ⟨⟨h.cb, h.wd, h.right, h.wl, h.ol, fun i x hx hu => ?_, h.apart, h.rise, h.mine, h.parts, h.pap, h.own, ⟨h1, k2, fun hlt => ⟨⟨c, hc, he, by show c * S.Wd ≤ S.a + n; omega⟩, fun i a m hi => ?_⟩⟩, h.at2⟩, ⟨⟨(c, 1), ps_sub S _ hc, hca, by show S.a + n ≤ (c + 1) * S.Wd; omega, Or.inl rfl⟩, fun i a m hi => ?_, fun _ => Or.inl (Nat.le_refl _), fun hon hlt => ?_⟩, fun ct hct => hct⟩
    · have e := h.ent i x hx hu
      exact ⟨e.reg, e.pin, e.cn, e.slot, e.gen, e.rc, e.size, e.hdr, e.ap⟩
    · have := ho i a m hi; simp only; omega
    · have := ho i a m hi; omega
    · obtain ⟨-, -, k4⟩ := h.at2 hon
      obtain ⟨⟨c2, hc2, he2, hca2⟩, -⟩ := k4 hlt
      have hp := h.pap
      unfold HS.all at hp
      have hon' : S.on = true := hon
      rw [if_pos hon'] at hp
      have hap := (List.pairwise_append.1 hp).2.2 _ hc _ hc2
      have := words_apart (a := S.a) (n := n) (b := S.a2) (m := S.en2 - S.a2) (Wd := S.Wd) hap hca (by show S.a + n ≤ (c + 1) * S.Wd; omega) hca2 (by show _ ≤ (c2 + 1) * S.Wd; simp only at hlt; omega)
      simp only at hlt ⊢
      omega
  · have hap := h.run_apart hf
    have hwn : n ≤ (q + 1) * S.Wd := by
      have := Nat.lt_mul_div_succ (n - 1) (show 0 < S.Wd from h.wd.1)
      rw [← hq, Nat.mul_comm] at this
      omega
    have hcw : (c + (q + 1)) * S.Wd = c * S.Wd + (q + 1) * S.Wd := Nat.add_mul ..
    have hcw1 : (c + 1) * S.Wd = c * S.Wd + S.Wd := Nat.succ_mul c S.Wd
    have hcC : (c + (q + 1)) * S.Wd ≤ S.C * S.Wd := Nat.mul_le_mul_right _ hcq
    have hout : ∀ i a m, ObjIn S cnt i a m → a + m ≤ c * S.Wd ∨ (c + (q + 1)) * S.Wd ≤ a := fun i a m ho => h.obj_out hap ho
    obtain ⟨g1, g2, g3⟩ := h.more hcq hf (l := HS.all { S with ps := S.ps ++ [(c, q + 1)], a := if q = 0 then c * S.Wd + n else S.a, en := if q = 0 then (c + 1) * S.Wd else S.en, ws := putAt S.ws (c * S.Wd) (List.replicate ((q + 1) * S.Wd) 0), own := putAt S.own c (List.replicate (q + 1) 1) }) (by
      unfold HS.all
      simp only
      split
      · rw [List.append_assoc, List.append_assoc]
        exact List.Perm.append_left _ List.perm_append_comm
      · exact List.Perm.refl _)
    have hmem : ∀ p ∈ S.all, p ∈ HS.all { S with ps := S.ps ++ [(c, q + 1)], a := if q = 0 then c * S.Wd + n else S.a, en := if q = 0 then (c + 1) * S.Wd else S.en, ws := putAt S.ws (c * S.Wd) (List.replicate ((q + 1) * S.Wd) 0), own := putAt S.own c (List.replicate (q + 1) 1) } := fun p hp => by
      unfold HS.all at hp ⊢
      simp only
      split at hp
      · rename_i hon
        rw [if_pos hon]
        rcases List.mem_append.1 hp with hp | hp
        · exact List.mem_append_left _ (List.mem_append_left _ hp)
        · exact List.mem_append_right _ hp
      · rename_i hon
        rw [if_neg hon]
        exact List.mem_append_left _ hp
    have hnew : (c, q + 1) ∈ HS.all { S with ps := S.ps ++ [(c, q + 1)], a := if q = 0 then c * S.Wd + n else S.a, en := if q = 0 then (c + 1) * S.Wd else S.en, ws := putAt S.ws (c * S.Wd) (List.replicate ((q + 1) * S.Wd) 0), own := putAt S.own c (List.replicate (q + 1) 1) } := by
      unfold HS.all
      simp only
      split
      · exact List.mem_append_left _ (List.mem_append_right _ (List.mem_singleton.2 rfl))
      · exact List.mem_append_right _ (List.mem_singleton.2 rfl)
    have hws : ∀ i a m j, ObjIn S cnt i a m → a ≤ j → j < a + m → (putAt S.ws (c * S.Wd) (List.replicate ((q + 1) * S.Wd) 0)).getD j 0 = S.ws.getD j 0 := fun i a m j ho h1 h2 => putAt_out (by
      have := hout i a m ho
      simp only [List.length_replicate]
      omega)
    have hold1 : S.a < S.en → ∀ a m, c * S.Wd ≤ a → a + m ≤ (c + (q + 1)) * S.Wd → a + m ≤ S.a ∨ S.en ≤ a := fun hlt a m h1 h2 => by
      obtain ⟨⟨c1, hc1, he1, hca1⟩, -⟩ := h.at1.2.2 hlt
      have := words_apart (a := S.a) (n := S.en - S.a) (b := a) (m := m) (Wd := S.Wd) (hap _ (ps_sub S _ hc1)) hca1 (by show _ ≤ (c1 + 1) * S.Wd; omega) h1 h2
      omega
    have hold2 : S.on = true → S.a2 < S.en2 → ∀ a m, c * S.Wd ≤ a → a + m ≤ (c + (q + 1)) * S.Wd → a + m ≤ S.a2 ∨ S.en2 ≤ a := fun hon hlt a m h1 h2 => by
      obtain ⟨⟨c1, hc1, he1, hca1⟩, -⟩ := (h.at2 hon).2.2 hlt
      have := words_apart (a := S.a2) (n := S.en2 - S.a2) (b := a) (m := m) (Wd := S.Wd) (hap _ (ps2_sub hon _ hc1)) hca1 (by show _ ≤ (c1 + 1) * S.Wd; omega) h1 h2
      omega
    refine ⟨⟨h.cb, h.wd, h.right, by simp only [putAt_length]; exact h.wl, by simp only [putAt_length]; exact h.ol, fun i x hx hu => ?_, h.apart, h.rise, h.mine, g1, g2, g3, ?_, h.at2⟩, ⟨⟨(c, q + 1), hnew, Nat.le_refl _, by show c * S.Wd + n ≤ (c + (q + 1)) * S.Wd; omega, Or.inr rfl⟩, fun i a m hi => ?_, ?_, fun hon hlt => hold2 hon hlt _ _ (Nat.le_refl _) (by omega)⟩, fun ct hct i x hx hu p hp => ?_⟩
    · have e := h.ent i x hx hu
      exact ⟨e.reg, e.pin, e.cn, e.slot, e.gen, e.rc, e.size, (hws i x.addr _ x.addr ⟨x, hx, hu, rfl, rfl⟩ (Nat.le_refl _) (by omega)).trans e.hdr, e.ap.mono hmem⟩
    · unfold AtOk
      by_cases hq0 : q = 0
      · simp only [hq0, if_true, Nat.zero_add]
        subst hq0
        refine ⟨by omega, by omega, fun _ => ⟨⟨c, by simp, rfl, by omega⟩, fun i a m hi => ?_⟩⟩
        have := hout i a m hi
        omega
      · simp only [if_neg hq0]
        obtain ⟨k1, k2, k3⟩ := h.at1
        exact ⟨k1, k2, fun hlt => ⟨(k3 hlt).1.imp fun c1 h1 => ⟨List.mem_append_left _ h1.1, h1.2⟩, (k3 hlt).2⟩⟩
    · have := hout i a m hi
      omega
    · simp only
      by_cases hq0 : q = 0
      · simp only [hq0, if_true]
        exact fun _ => Or.inl (Nat.le_refl _)
      · simp only [if_neg hq0]
        exact fun hlt => hold1 hlt (c * S.Wd) n (Nat.le_refl _) (by omega)
    · have hp' : p < S.L.size (cnt i) := hp
      exact (hws i x.addr _ _ ⟨x, hx, hu, rfl, rfl⟩ (by omega) (by omega)).trans (hct i x hx hu p hp)
def HS.swap (S : HS) : HS := { S with ps := S.ps2, a := S.a2, en := S.en2, ps2 := S.ps, a2 := S.a, en2 := S.en }
theorem swap_all (hon : S.on = true) : List.Perm S.swap.all S.all := by
  unfold HS.all HS.swap
  simp only
  rw [if_pos hon, if_pos hon]
  exact List.perm_append_comm
theorem Good.swap (h : Good S cnt) (hon : S.on = true) : Good S.swap cnt :=
  ⟨h.cb, h.wd, h.right, h.wl, h.ol, fun i x hx hu => by
    have e := h.ent i x hx hu
    exact ⟨e.reg, e.pin, e.cn, e.slot, e.gen, e.rc, e.size, e.hdr, e.ap.mono (fun p hp => (swap_all hon).mem_iff.2 hp)⟩, h.apart, h.rise, h.mine, fun p hp => h.parts p ((swap_all hon).mem_iff.1 hp), ((swap_all hon).pairwise_iff (fun h => PApart.symm h)).2 h.pap,
    fun c hc => (h.own c hc).imp fun p hp => ⟨(swap_all hon).mem_iff.2 hp.1, hp.2⟩, h.at2 hon, fun _ => h.at1⟩
theorem AllocTo.swap {n ad : Nat} (h : AllocTo S n ad S1) : AllocSt S.swap n ad S1.swap := by
  rcases h with ⟨h1, h2, rfl⟩ | ⟨h1, c, q, h2, h3, h4, h5, rfl⟩
  · exact Or.inl ⟨h1, h2, rfl⟩
  · exact Or.inr ⟨h1, c, q, h2, h3, h4, h5, rfl⟩
theorem Good.allocTo (h : Good S cnt) (hon : S.on = true) {n ad : Nat} (hn : 1 ≤ n) (ha : AllocTo S n ad S1) : Good S1 cnt ∧ NewAt S1 cnt ad n ∧ ∀ ct, Cont S cnt ct → Cont S1 cnt ct := by
  have hon1 : S1.on = true := ha.same.2.2.2.2.2.2.2.1.trans hon
  obtain ⟨h1, h2, h3⟩ := (h.swap hon).alloc hn ha.swap
  exact ⟨h1.swap hon1, ⟨h2.ap.mono (fun p hp => (swap_all hon1).mem_iff.1 hp), h2.apart, fun hlt => h2.at2 hon1 hlt, fun _ hlt => h2.at1 hlt⟩, h3⟩
theorem ObjIn.fun {i a n b m : Nat} (h : ObjIn S cnt i a n) (k : ObjIn S cnt i b m) : a = b ∧ n = m := by
  obtain ⟨x, h1, -, rfl, rfl⟩ := h
  obtain ⟨y, k1, -, rfl, rfl⟩ := k
  rw [h1] at k1
  cases k1
  exact ⟨rfl, rfl⟩
theorem Good.place (h : Good S cnt) {ad n c i : Nat} {x : Sl} {ys : List Nat} {mine : List Int} {cnt' : Nat → Nat} (hn : NewAt S cnt ad n) (hlt : i < S.sl.length) (hx : x.used = true ∧ x.region = 1 ∧ x.pinned = false ∧ x.addr = ad) (hg : 1 ≤ x.gen ∧ x.gen ≤ 255) (hi : i < 4096) (hc : c ≤ 1024) (hr : c = 0 ∨ S.L.record ≠ 0) (hs : S.L.size c < 8192)
    (hnn : n = S.L.size c + 1) (hys : ys.length = n) (hh : ys.getD 0 0 = hdrN i c 1) (hc' : cnt' i = c) (ho : ∀ j, j ≠ i → cnt' j = cnt j) (hri : mine.Pairwise (· < ·)) (hmi : ∀ z : Int, z ∈ mine ↔ z = (i : Nat) ∨ z ∈ S.mine) :
    Good { S with sl := S.sl.set i x, ws := putAt S.ws ad ys, mine := mine } cnt' ∧ ∀ ct ct' : Nat → Nat → Nat, Cont S cnt ct → (∀ j, j ≠ i → ct' j = ct j) → (∀ p, p < S.L.size c → ct' i p = ys.getD (p + 1) 0) → Cont { S with sl := S.sl.set i x, ws := putAt S.ws ad ys, mine := mine } cnt' ct' := by
  have hself : (S.sl.set i x)[i]? = some x := by rw [List.getElem?_set_self hlt]
  have hoth : ∀ j, j ≠ i → (S.sl.set i x)[j]? = S.sl[j]? := fun j hj => List.getElem?_set_ne (fun e => hj e.symm)
  have hobj : ∀ j a m, ObjIn { S with sl := S.sl.set i x, ws := putAt S.ws ad ys, mine := mine } cnt' j a m → (j = i ∧ a = ad ∧ m = n) ∨ (j ≠ i ∧ ObjIn S cnt j a m) := fun j a m ⟨y, h1, h2, h3, h4⟩ => by
    by_cases hj : j = i
    · subst hj
      simp only [hself] at h1
      cases h1
      exact Or.inl ⟨rfl, by rw [← h3, hx.2.2.2], by rw [h4, hc', hnn]⟩
    · simp only [hoth j hj] at h1
      exact Or.inr ⟨hj, y, h1, h2, h3, by rw [h4, ho j hj]⟩
  have hend := h.in_le hn.ap
  have hws : ∀ j a m k, ObjIn S cnt j a m → a ≤ k → k < a + m → (putAt S.ws ad ys).getD k 0 = S.ws.getD k 0 := fun j a m k hj h1 h2 => putAt_out (by have := hn.apart j a m hj; omega)
  have hwi : ∀ k, k < n → (putAt S.ws ad ys).getD (ad + k) 0 = ys.getD k 0 := fun k hk => by
    rw [putAt_in (by omega) (by omega) (by rw [h.wl]; omega), show ad + k - ad = k by omega]
  refine ⟨⟨h.cb, h.wd, h.right, by simp only [putAt_length]; exact h.wl, h.ol, fun j y hy hu => ?_, fun j l a m b k hjl hj hl => ?_, hri, fun z => ?_, h.parts, h.pap, h.own, ⟨h.at1.1, h.at1.2.1, fun hlt => ⟨(h.at1.2.2 hlt).1, fun j a m hj => ?_⟩⟩, fun hon => ⟨(h.at2 hon).1, (h.at2 hon).2.1, fun hlt => ⟨((h.at2 hon).2.2 hlt).1, fun j a m hj => ?_⟩⟩⟩, fun ct ct' hct h1 h2 j y hy hu p hp => ?_⟩
  · by_cases hj : j = i
    · subst hj
      simp only [hself] at hy
      cases hy
      refine ⟨hx.2.1, hx.2.2.1, by rw [hc']; exact hc, hi, hg, by rw [hc']; exact hr, by rw [hc']; exact hs, ?_, ?_⟩
      · have := hwi 0 (by omega)
        rw [hx.2.2.2, hc']
        exact this.trans hh
      · rw [hx.2.2.2, hc']
        show InPart S.Wd S.all ad _
        rw [← hnn]
        exact hn.ap
    · simp only [hoth j hj] at hy
      have e := h.ent j y hy hu
      have ej := ho j hj
      exact ⟨e.reg, e.pin, by rw [ej]; exact e.cn, e.slot, e.gen, by rw [ej]; exact e.rc, by rw [ej]; exact e.size, by rw [ej]; exact (hws j y.addr _ y.addr ⟨y, hy, hu, rfl, rfl⟩ (Nat.le_refl _) (by omega)).trans e.hdr, by rw [ej]; exact e.ap⟩
  · rcases hobj j a m hj with ⟨rfl, rfl, rfl⟩ | ⟨k1, k2⟩ <;> rcases hobj l b k hl with ⟨rfl, rfl, rfl⟩ | ⟨k3, k4⟩
    · exact absurd rfl hjl
    · have := hn.apart _ _ _ k4; omega
    · exact hn.apart _ _ _ k2
    · exact h.apart j l a m b k hjl k2 k4
  · rw [hmi]
    constructor
    · rintro (rfl | hz)
      · exact ⟨i, x, rfl, hself, hx.1⟩
      · obtain ⟨j, y, rfl, hy, hu⟩ := (h.mine z).1 hz
        by_cases hj : j = i
        · subst hj; exact ⟨j, x, rfl, hself, hx.1⟩
        · exact ⟨j, y, rfl, (hoth j hj).trans hy, hu⟩
    · rintro ⟨j, y, rfl, hy, hu⟩
      by_cases hj : j = i
      · subst hj; exact Or.inl rfl
      · simp only [hoth j hj] at hy
        exact Or.inr ((h.mine _).2 ⟨j, y, rfl, hy, hu⟩)
  · rcases hobj j a m hj with ⟨rfl, rfl, rfl⟩ | ⟨k1, k2⟩
    · exact hn.at1 hlt
    · exact (h.at1.2.2 hlt).2 j a m k2
  · rcases hobj j a m hj with ⟨rfl, rfl, rfl⟩ | ⟨k1, k2⟩
    · exact hn.at2 hon hlt
    · exact ((h.at2 hon).2.2 hlt).2 j a m k2
  · by_cases hj : j = i
    · subst hj
      simp only [hself] at hy
      cases hy
      rw [hc'] at hp
      have hp' : p < S.L.size c := hp
      rw [h2 p hp', hx.2.2.2, show ad + 1 + p = ad + (p + 1) by omega]
      exact hwi (p + 1) (by omega)
    · simp only [hoth j hj] at hy
      rw [h1 j hj]
      rw [ho j hj] at hp
      have hp' : p < S.L.size (cnt j) := hp
      exact (hws j y.addr _ _ ⟨y, hy, hu, rfl, rfl⟩ (by omega) (by omega)).trans (hct j y hy hu p hp')
theorem Good.gs (h : Good S cnt) (g : GS) : Good { S with gs := g } cnt := ⟨h.cb, h.wd, h.right, h.wl, h.ol, fun i x hx hu => let e := h.ent i x hx hu; ⟨e.reg, e.pin, e.cn, e.slot, e.gen, e.rc, e.size, e.hdr, e.ap⟩, h.apart, h.rise, h.mine, h.parts, h.pap, h.own, h.at1, h.at2⟩
theorem Good.make (h : Good S cnt) {ad c i gen : Nat} {y : Sl} (ha : AllocSt S (S.L.size c + 1) ad S1) (hy : S.sl[i]? = some y) (hu : y.used = false) (hg : 1 ≤ gen ∧ gen ≤ 255) (hi : i < 4096) (hc : c ≤ 1024) (hr : c = 0 ∨ S.L.record ≠ 0) (hs : S.L.size c < 8192) {cnt' : Nat → Nat} (hc' : cnt' i = c) (ho : ∀ j, j ≠ i → cnt' j = cnt j) :
    Good (mkS S1 i gen ad c) cnt' ∧ ∀ ct ct' : Nat → Nat → Nat, Cont S cnt ct → (∀ j, j ≠ i → ct' j = ct j) → (∀ p, p < S.L.size c → ct' i p = 0) → Cont (mkS S1 i gen ad c) cnt' ct' := by
  obtain ⟨h1, h2, h3⟩ := h.alloc (by omega) ha
  have e : S1.sl = S.sl ∧ S1.L = S.L ∧ S1.mine = S.mine := by rcases ha with ⟨_, _, e⟩ | ⟨_, c, q, _, _, _, _, e⟩ <;> rw [e] <;> exact ⟨rfl, rfl, rfl⟩
  have hlt : i < S1.sl.length := by rw [e.1]; exact (List.getElem?_eq_some_iff.1 hy).1
  obtain ⟨h4, h5⟩ := h1.place (c := c) (i := i) (x := ⟨gen, true, ad, 1, true, false⟩) (ys := hdrN i c 1 :: List.replicate (S1.L.size c) 0) (mine := putL S1.mine i) (cnt' := cnt') h2 hlt ⟨rfl, rfl, rfl, rfl⟩ hg hi hc (by rw [e.2.1]; exact hr) (by rw [e.2.1]; exact hs) (by rw [e.2.1]) (by simp [e.2.1]) rfl hc' ho (putL_rises h1.rise _) (fun z => mem_putL.trans Or.comm)
  refine ⟨h4, fun ct ct' k1 k2 k3 => h5 ct ct' (h3 ct k1) k2 (fun p hp => ?_)⟩
  rw [e.2.1] at hp
  rw [k3 p hp]
  show 0 = (List.replicate _ 0).getD p 0
  rw [replicate_getD (by rw [e.2.1]; exact hp)]
theorem Good.moved (h : Good S cnt) (hon : S.on = true) {i : Nat} {x : Sl} {S2 : HS} (hx : S.sl[i]? = some x) (hu : x.used = true) (hm : MovedSt S i x (S.L.size (cnt i) + 1) S2) :
    Good S2 cnt ∧ ∀ ct, Cont S cnt ct → Cont S2 cnt ct := by
  rcases hm with ⟨-, rfl⟩ | ⟨-, ad, S1, ha, rfl⟩
  · exact ⟨h, fun ct hct => hct⟩
  · obtain ⟨h1, h2, h3⟩ := h.allocTo hon (by omega) ha
    obtain ⟨e1, e2, -, e4, e5, e6, -⟩ := ha.same
    have hx1 : S1.sl[i]? = some x := by rw [e5]; exact hx
    have e := h1.ent i x hx1 hu
    have hle := h1.in_le e.ap
    have hys : ((S1.ws.drop x.addr).take (S.L.size (cnt i) + 1)).length = S.L.size (cnt i) + 1 := by
      rw [List.length_take, List.length_drop, h1.wl]
      rw [e4] at hle
      omega
    have hyg : ∀ k, k < S.L.size (cnt i) + 1 → ((S1.ws.drop x.addr).take (S.L.size (cnt i) + 1)).getD k 0 = S1.ws.getD (x.addr + k) 0 := fun k hk => by
      rw [List.getD_eq_getElem?_getD, List.getElem?_take, if_pos hk, List.getElem?_drop, ← List.getD_eq_getElem?_getD]
    have hmi : (i : Int) ∈ S1.mine := (h1.mine _).2 ⟨i, x, rfl, hx1, hu⟩
    obtain ⟨h4, h5⟩ := h1.place (c := cnt i) (i := i) (x := ⟨x.gen, x.used, ad, x.region, x.held, x.pinned⟩) (ys := (S1.ws.drop x.addr).take (S.L.size (cnt i) + 1)) (mine := S1.mine) (cnt' := cnt) h2 (List.getElem?_eq_some_iff.1 hx1).1 ⟨hu, e.reg, e.pin, rfl⟩ e.gen e.slot e.cn e.rc e.size (by rw [e4]) hys (by rw [hyg 0 (by omega)]; exact e.hdr) rfl (fun j hj => rfl) h1.rise (fun z => ⟨Or.inr, fun hz => hz.elim (fun e => by rw [e]; exact hmi) id⟩)
    refine ⟨h4, fun ct hct => h5 ct ct (h3 ct hct) (fun j hj => rfl) (fun p hp => ?_)⟩
    rw [e4] at hp
    rw [hyg (p + 1) (by omega), ← h3 ct hct i x hx1 hu p (by rw [e4]; exact hp)]
    congr 1
    omega
theorem Good.mvOk (h : Good S cnt) (hon : S.on = true) {i ad : Nat} {x : Sl} (hx : S.sl[i]? = some x) (hu : x.used = true) (ha : AllocTo S (S.L.size (cnt i) + 1) ad S1) : MvOk S1 ad x.addr (cnt i) i := by
  obtain ⟨h1, h2, -⟩ := h.allocTo hon (by omega) ha
  obtain ⟨-, -, -, e4, e5, -⟩ := ha.same
  have hx1 : S1.sl[i]? = some x := by rw [e5]; exact hx
  have ho := h1.objOk hx1 hu
  have e := h1.ent i x hx1 hu
  refine ⟨ho.obj, h1.in_le e.ap, ?_, ho.own, ?_⟩
  · rw [e4]; exact h1.in_le h2.ap
  · rw [e4]; exact h1.in_owned h2.ap (by omega)
theorem Good.room (h : Good S cnt) {n : Nat} (hn : 1 ≤ n) (hn2 : n ≤ 1048576) (hr : S.a + n ≤ S.en ∨ ∃ c, c + ((n - 1) / S.Wd + 1) ≤ S.C ∧ ∀ i, c ≤ i → i < c + ((n - 1) / S.Wd + 1) → S.own.getD i 0 = 0) : RoomOk S n :=
  ⟨h.at1.1, Nat.le_trans h.at1.2.1 h.words_le, by have := h.ps_len; omega, hn, hn2, hr⟩
theorem Good.roomTo (h : Good S cnt) (hon : S.on = true) {n : Nat} (hn : 1 ≤ n) (hn2 : n ≤ 1048576) (hr : S.a2 + n ≤ S.en2 ∨ ∃ c, c + ((n - 1) / S.Wd + 1) ≤ S.C ∧ ∀ i, c ≤ i → i < c + ((n - 1) / S.Wd + 1) → S.own.getD i 0 = 0) : RoomTo S n := by
  have h1 := h.all_len.1
  unfold HS.all at h1
  rw [if_pos hon, List.length_append] at h1
  exact ⟨(h.at2 hon).1, Nat.le_trans (h.at2 hon).2.1 h.words_le, by omega, hn, hn2, hr⟩
theorem Good.free1 (h : Good S cnt) (hl : (chunksL S.all).length < S.C) : ∃ c, c < S.C ∧ S.own.getD c 0 = 0 := by
  obtain ⟨c, hc, hn⟩ := chunk_free hl
  refine ⟨c, hc, Classical.byContradiction fun h0 => ?_⟩
  obtain ⟨p, hp, h1, h2⟩ := h.own c h0
  exact hn p hp ⟨h1, h2⟩
theorem Good.lose (h : Good S cnt) {i : Nat} {x : Sl} (hx : S.sl[i]? = some x) (hu : x.used = true) :
    Good { S with mine := outL S.mine i, sl := S.sl.set i ⟨x.gen, false, 0, 0, false, false⟩ } cnt ∧ ∀ ct, Cont S cnt ct → Cont { S with mine := outL S.mine i, sl := S.sl.set i ⟨x.gen, false, 0, 0, false, false⟩ } cnt ct := by
  have hlt : i < S.sl.length := (List.getElem?_eq_some_iff.1 hx).1
  have hget : ∀ (j : Nat) (y : Sl), (S.sl.set i ⟨x.gen, false, 0, 0, false, false⟩)[j]? = some y → y.used = true → j ≠ i ∧ S.sl[j]? = some y := fun j y hy hu => by
    by_cases hj : j = i
    · subst hj
      rw [List.getElem?_set_self hlt] at hy
      cases hy
      cases hu
    · rw [List.getElem?_set_ne (fun e => hj e.symm)] at hy
      exact ⟨hj, hy⟩
  have hobj : ∀ j a m, ObjIn { S with mine := outL S.mine i, sl := S.sl.set i ⟨x.gen, false, 0, 0, false, false⟩ } cnt j a m → ObjIn S cnt j a m := fun j a m ⟨y, h1, h2, h3, h4⟩ => ⟨y, (hget j y h1 h2).2, h2, h3, h4⟩
  refine ⟨⟨h.cb, h.wd, h.right, h.wl, h.ol, fun j y hy hu => ?_, fun j l a n b m hjl hj hl => h.apart j l a n b m hjl (hobj _ _ _ hj) (hobj _ _ _ hl), outL_rises h.rise _, fun z => ?_, h.parts, h.pap, h.own, ⟨h.at1.1, h.at1.2.1, fun hlt => ⟨(h.at1.2.2 hlt).1, fun j a m hj => (h.at1.2.2 hlt).2 j a m (hobj _ _ _ hj)⟩⟩, fun hon => ⟨(h.at2 hon).1, (h.at2 hon).2.1, fun hlt => ⟨((h.at2 hon).2.2 hlt).1, fun j a m hj => ((h.at2 hon).2.2 hlt).2 j a m (hobj _ _ _ hj)⟩⟩⟩, fun ct hct j y hy hu p hp => hct j y (hget j y hy hu).2 hu p hp⟩
  · have e := h.ent j y (hget j y hy hu).2 hu
    exact ⟨e.reg, e.pin, e.cn, e.slot, e.gen, e.rc, e.size, e.hdr, e.ap⟩
  · rw [mem_outL, h.mine]
    constructor
    · rintro ⟨⟨j, y, rfl, hy, hu⟩, hn⟩
      exact ⟨j, y, rfl, by show (S.sl.set i _)[j]? = _; rw [List.getElem?_set_ne (fun e => hn (by rw [e]))]; exact hy, hu⟩
    · rintro ⟨j, y, rfl, hy, hu⟩
      obtain ⟨h1, h2⟩ := hget j y hy hu
      exact ⟨⟨j, y, rfl, h2, hu⟩, by omega⟩
theorem Good.dropPart (h : Good S cnt) {c m : Nat} (hp : (c, m) ∈ S.ps) (hno : ∀ i a n, ObjIn S cnt i a n → a + n ≤ c * S.Wd ∨ (c + m) * S.Wd ≤ a) :
    Good { S with ps := S.ps.erase (c, m), a := if m = 1 ∧ S.en = (c + 1) * S.Wd then 0 else S.a, en := if m = 1 ∧ S.en = (c + 1) * S.Wd then 0 else S.en, own := putAt S.own c (List.replicate m 0) } cnt ∧
    ∀ ct, Cont S cnt ct → Cont { S with ps := S.ps.erase (c, m), a := if m = 1 ∧ S.en = (c + 1) * S.Wd then 0 else S.a, en := if m = 1 ∧ S.en = (c + 1) * S.Wd then 0 else S.en, own := putAt S.own c (List.replicate m 0) } cnt ct := by
  obtain ⟨hm1, hmC, hown⟩ := h.parts _ (ps_sub S _ hp)
  simp only at hm1 hmC hown
  have hcw : (c + m) * S.Wd = c * S.Wd + m * S.Wd := Nat.add_mul ..
  have hmw : 1 * S.Wd ≤ m * S.Wd := Nat.mul_le_mul_right _ hm1
  have hw1 := h.wd.1
  have hapt := fun q hq (hn : (c, m) ≠ q) => pairwise_mem (fun x y => PApart.symm) h.pap _ (ps_sub S _ hp) q hq hn
  have hnd : S.all.Nodup := h.pap.imp_of_mem (fun {p q} hp' hq hpq e => by
    subst e
    have := (h.parts p hp').1
    unfold PApart at hpq
    omega)
  have hall : HS.all { S with ps := S.ps.erase (c, m), a := if m = 1 ∧ S.en = (c + 1) * S.Wd then 0 else S.a, en := if m = 1 ∧ S.en = (c + 1) * S.Wd then 0 else S.en, own := putAt S.own c (List.replicate m 0) } = S.all.erase (c, m) := by
    unfold HS.all
    simp only
    split
    · rw [List.erase_append_left _ hp]
    · rfl
  have hmem : ∀ q, q ∈ S.all.erase (c, m) ↔ q ≠ (c, m) ∧ q ∈ S.all := fun q => hnd.mem_erase_iff
  have hobj : ∀ i a n, ObjIn { S with ps := S.ps.erase (c, m), a := if m = 1 ∧ S.en = (c + 1) * S.Wd then 0 else S.a, en := if m = 1 ∧ S.en = (c + 1) * S.Wd then 0 else S.en, own := putAt S.own c (List.replicate m 0) } cnt i a n → ObjIn S cnt i a n := fun i a n h => h
  refine ⟨⟨h.cb, h.wd, h.right, h.wl, by simp only [putAt_length]; exact h.ol, fun j y hy hu => ?_, h.apart, h.rise, h.mine, fun q hq => ?_, by rw [hall]; exact h.pap.sublist List.erase_sublist, fun k hk => ?_, ?_, h.at2⟩, fun ct hct => hct⟩
  · have e := h.ent j y hy hu
    refine ⟨e.reg, e.pin, e.cn, e.slot, e.gen, e.rc, e.size, e.hdr, ?_⟩
    obtain ⟨q, hq, h1, h2, h3⟩ := e.ap
    have hne : q ≠ (c, m) := fun e => by
      subst e
      have := hno j _ _ ⟨y, hy, hu, rfl, rfl⟩
      simp only at h1 h2
      omega
    exact ⟨q, by rw [hall]; exact (hmem q).2 ⟨hne, hq⟩, h1, h2, h3⟩
  · rw [hall] at hq
    obtain ⟨k1, k2⟩ := (hmem q).1 hq
    obtain ⟨h1, h2, h3⟩ := h.parts q k2
    refine ⟨h1, h2, fun k e1 e2 => ?_⟩
    have := hapt q k2 k1.symm
    rw [putAt_out (by unfold PApart at this; simp only [List.length_replicate] at this ⊢; omega)]
    exact h3 k e1 e2
  · by_cases hc : c ≤ k ∧ k < c + m
    · rw [putAt_in hc.1 (by rw [List.length_replicate]; exact hc.2) (by rw [List.length_replicate, h.ol]; exact hmC), replicate_getD (by omega)] at hk
      exact absurd rfl hk
    · rw [putAt_out (by simp only [List.length_replicate]; omega)] at hk
      obtain ⟨q, hq, h1, h2⟩ := h.own k hk
      have hne : q ≠ (c, m) := fun e => by
        subst e
        exact hc ⟨h1, h2⟩
      exact ⟨q, by rw [hall]; exact (hmem q).2 ⟨hne, hq⟩, h1, h2⟩
  · by_cases he : m = 1 ∧ S.en = (c + 1) * S.Wd
    · unfold AtOk
      simp only [if_pos he]
      exact ⟨Nat.le_refl _, Nat.zero_le _, fun h => absurd h (Nat.lt_irrefl _)⟩
    · unfold AtOk
      simp only [if_neg he]
      refine ⟨h.at1.1, h.at1.2.1, fun hlt => ⟨?_, (h.at1.2.2 hlt).2⟩⟩
      obtain ⟨c1, h1, h2, h3⟩ := (h.at1.2.2 hlt).1
      exact ⟨c1, (List.mem_erase_of_ne (fun e => he (by cases e; exact ⟨rfl, h2⟩))).2 h1, h2, h3⟩
theorem Good.join (h : Good S cnt) (hon : S.on = true) : Good { S with ps := S.ps ++ S.ps2, a := if 0 < S.en2 then S.a2 else S.a, en := if 0 < S.en2 then S.en2 else S.en, on := false } cnt ∧
    ∀ ct, Cont S cnt ct → Cont { S with ps := S.ps ++ S.ps2, a := if 0 < S.en2 then S.a2 else S.a, en := if 0 < S.en2 then S.en2 else S.en, on := false } cnt ct := by
  have hall : HS.all { S with ps := S.ps ++ S.ps2, a := if 0 < S.en2 then S.a2 else S.a, en := if 0 < S.en2 then S.en2 else S.en, on := false } = S.all := by
    unfold HS.all
    simp only
    rw [if_pos hon]
    rfl
  refine ⟨⟨h.cb, h.wd, h.right, h.wl, h.ol, fun j y hy hu => ?_, h.apart, h.rise, h.mine, by rw [hall]; exact h.parts, by rw [hall]; exact h.pap, by rw [hall]; exact h.own, ?_, fun h => by cases h⟩, fun ct hct => hct⟩
  · have e := h.ent j y hy hu
    exact ⟨e.reg, e.pin, e.cn, e.slot, e.gen, e.rc, e.size, e.hdr, by rw [hall]; exact e.ap⟩
  · unfold AtOk
    by_cases he : 0 < S.en2
    · simp only [if_pos he]
      obtain ⟨k1, k2, k3⟩ := h.at2 hon
      exact ⟨k1, k2, fun hlt => ⟨(k3 hlt).1.imp fun c hc => ⟨List.mem_append_right _ hc.1, hc.2⟩, (k3 hlt).2⟩⟩
    · simp only [if_neg he]
      obtain ⟨k1, k2, k3⟩ := h.at1
      exact ⟨k1, k2, fun hlt => ⟨(k3 hlt).1.imp fun c hc => ⟨List.mem_append_left _ hc.1, hc.2⟩, (k3 hlt).2⟩⟩
theorem Good.begin (h : Good S cnt) (hoff : S.on = false) (g : GS) : Good { S with on := true, ps2 := [], a2 := 0, en2 := 0, gs := g } cnt ∧ ∀ ct, Cont S cnt ct → Cont { S with on := true, ps2 := [], a2 := 0, en2 := 0, gs := g } cnt ct := by
  have hall : HS.all { S with on := true, ps2 := [], a2 := 0, en2 := 0, gs := g } = S.all := by
    unfold HS.all
    simp [hoff]
  refine ⟨⟨h.cb, h.wd, h.right, h.wl, h.ol, fun j y hy hu => ?_, h.apart, h.rise, h.mine, by rw [hall]; exact h.parts, by rw [hall]; exact h.pap, by rw [hall]; exact h.own, h.at1, fun _ => ⟨Nat.le_refl _, Nat.zero_le _, fun h => absurd h (Nat.lt_irrefl _)⟩⟩, fun ct hct => hct⟩
  have e := h.ent j y hy hu
  exact ⟨e.reg, e.pin, e.cn, e.slot, e.gen, e.rc, e.size, e.hdr, by rw [hall]; exact e.ap⟩
theorem Good.word (h : Good S cnt) {i p v : Nat} {x : Sl} (hx : S.sl[i]? = some x) (hu : x.used = true) (hp : p < S.L.size (cnt i)) :
    Good { S with ws := S.ws.set (x.addr + 1 + p) v } cnt ∧ ∀ ct ct' : Nat → Nat → Nat, Cont S cnt ct → (∀ j q, j ≠ i ∨ q ≠ p → ct' j q = ct j q) → ct' i p = v → Cont { S with ws := S.ws.set (x.addr + 1 + p) v } cnt ct' := by
  have hin := h.in_le (h.ent i x hx hu).ap
  have hset : ∀ k, k ≠ x.addr + 1 + p → (S.ws.set (x.addr + 1 + p) v).getD k 0 = S.ws.getD k 0 := fun k hk => by
    rw [List.getD_eq_getElem?_getD, List.getElem?_set_ne (fun e => hk e.symm), ← List.getD_eq_getElem?_getD]
  have hne : ∀ j y q, S.sl[j]? = some y → y.used = true → q < S.L.size (cnt j) + 1 → j ≠ i ∨ q ≠ 1 + p → y.addr + q ≠ x.addr + 1 + p := fun j y q hy hyu hq hj => by
    by_cases hji : j = i
    · subst hji
      rw [hx] at hy
      cases hy
      omega
    · have := h.apart j i _ _ _ _ hji ⟨y, hy, hyu, rfl, rfl⟩ ⟨x, hx, hu, rfl, rfl⟩
      omega
  refine ⟨⟨h.cb, h.wd, h.right, by simp only [List.length_set]; exact h.wl, h.ol, fun j y hy hyu => ?_, h.apart, h.rise, h.mine, h.parts, h.pap, h.own, h.at1, h.at2⟩, fun ct ct' hct h1 h2 j y hy hyu q hq => ?_⟩
  · have e := h.ent j y hy hyu
    exact ⟨e.reg, e.pin, e.cn, e.slot, e.gen, e.rc, e.size, (hset _ (hne j y 0 hy hyu (by omega) (Or.inr (by omega)))).trans e.hdr, e.ap⟩
  · by_cases hji : j = i ∧ q = p
    · obtain ⟨rfl, rfl⟩ := hji
      simp only [hx] at hy
      cases hy
      rw [h2, List.getD_eq_getElem?_getD, List.getElem?_set_self (by rw [h.wl]; omega)]
      rfl
    · have hor : j ≠ i ∨ q ≠ p := by
        by_cases hj : j = i
        · exact Or.inr (fun e => hji ⟨hj, e⟩)
        · exact Or.inl hj
      rw [h1 j q hor, ← hct j y hy hyu q hq]
      have hq' : q < S.L.size (cnt j) := hq
      exact hset _ (by have := hne j y (1 + q) hy hyu (by omega) (hor.imp id (fun h => by omega)); omega)
theorem Good.mark (h : Good S cnt) {i : Nat} {x : Sl} (hx : S.sl[i]? = some x) (hu : x.used = true) (hd : Bool) :
    Good { S with sl := S.sl.set i ⟨x.gen, x.used, x.addr, x.region, hd, x.pinned⟩ } cnt ∧ ∀ ct, Cont S cnt ct → Cont { S with sl := S.sl.set i ⟨x.gen, x.used, x.addr, x.region, hd, x.pinned⟩ } cnt ct := by
  have hlt : i < S.sl.length := (List.getElem?_eq_some_iff.1 hx).1
  have hget : ∀ (j : Nat) (y : Sl), (S.sl.set i ⟨x.gen, x.used, x.addr, x.region, hd, x.pinned⟩)[j]? = some y → ∃ y0 : Sl, S.sl[j]? = some y0 ∧ y.gen = y0.gen ∧ y.used = y0.used ∧ y.addr = y0.addr ∧ y.region = y0.region ∧ y.pinned = y0.pinned := fun j y hy => by
    by_cases hj : j = i
    · subst hj
      rw [List.getElem?_set_self hlt] at hy
      cases hy
      exact ⟨x, hx, rfl, rfl, rfl, rfl, rfl⟩
    · rw [List.getElem?_set_ne (fun e => hj e.symm)] at hy
      exact ⟨y, hy, rfl, rfl, rfl, rfl, rfl⟩
  have hobj : ∀ j a m, ObjIn { S with sl := S.sl.set i ⟨x.gen, x.used, x.addr, x.region, hd, x.pinned⟩ } cnt j a m → ObjIn S cnt j a m := fun j a m ⟨y, h1, h2, h3, h4⟩ => by
    obtain ⟨y0, k1, -, k2, k3, -⟩ := hget j y h1
    exact ⟨y0, k1, by rw [← k2]; exact h2, by rw [← k3]; exact h3, h4⟩
  refine ⟨⟨h.cb, h.wd, h.right, h.wl, h.ol, fun j y hy hyu => ?_, fun j l a n b m hjl hj hl => h.apart j l a n b m hjl (hobj _ _ _ hj) (hobj _ _ _ hl), h.rise, fun z => ?_, h.parts, h.pap, h.own, ⟨h.at1.1, h.at1.2.1, fun hlt => ⟨(h.at1.2.2 hlt).1, fun j a m hj => (h.at1.2.2 hlt).2 j a m (hobj _ _ _ hj)⟩⟩, fun hon => ⟨(h.at2 hon).1, (h.at2 hon).2.1, fun hlt => ⟨((h.at2 hon).2.2 hlt).1, fun j a m hj => ((h.at2 hon).2.2 hlt).2 j a m (hobj _ _ _ hj)⟩⟩⟩, fun ct hct j y hy hyu p hp => ?_⟩
  · obtain ⟨y0, k1, k2, k3, k4, k5, k6⟩ := hget j y hy
    have e := h.ent j y0 k1 (by rw [← k3]; exact hyu)
    exact ⟨by rw [k5]; exact e.reg, by rw [k6]; exact e.pin, e.cn, e.slot, by rw [k2]; exact e.gen, e.rc, e.size, by rw [k4]; exact e.hdr, by rw [k4]; exact e.ap⟩
  · rw [h.mine]
    constructor
    · rintro ⟨j, y, rfl, hy, hyu⟩
      by_cases hj : j = i
      · subst hj
        exact ⟨j, _, rfl, List.getElem?_set_self hlt, hu⟩
      · exact ⟨j, y, rfl, by show (S.sl.set i _)[j]? = _; rw [List.getElem?_set_ne (fun e => hj e.symm)]; exact hy, hyu⟩
    · rintro ⟨j, y, rfl, hy, hyu⟩
      obtain ⟨y0, k1, -, k2, -⟩ := hget j y hy
      exact ⟨j, y0, rfl, k1, by rw [← k2]; exact hyu⟩
  · obtain ⟨y0, k1, -, k2, k3, -⟩ := hget j y hy
    rw [k3]
    exact hct j y0 k1 (by rw [← k2]; exact hyu) p hp
end Go.Proofs.YtcdpnfchmpncjaaGreatDoor

namespace Go.Proofs.YtcdpnfchmpncjaaGreatDoor
open Go.RowKit Go.Tr Go.Shelf
variable {w w' : World} {F G : Nat → Prop} {g s o a en C Wd : Nat} {ps : List (Nat × Nat)} {ws own : List Nat}
theorem udropN_any (c : Nat) (w : World) (h : SpF 154 w F g s o ps a en) (hl : ps.length ≤ 100000) (hf : findPart ps c = none) :
    Calls Tryz.prog 70 #[.pointer (some ⟨g, 0, none⟩), .int .i64 c] w fun e w' => e = .returned (.int .i64 6) ∧ Below w.heap.size w w' := by
  have HFD := Lib.hid (ufind_any c w h (by omega))
  rw [hf] at HFD
  clear h hl hf
  go_enter Tryz.func70, Tryz.ntmps70
  go_wp2_with fail
  refine HFD.out.mono ?_
  rintro e w1 ⟨rfl, hb1⟩
  unfold partV
  have HB1 := Lib.hid hb1
  clear hb1
  go_wp2
  go_ret
  exact ⟨rfl, HB1.out.alloc HB1.out.size _⟩
end Go.Proofs.YtcdpnfchmpncjaaGreatDoor

