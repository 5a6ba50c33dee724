/-
  Parts of the proof, one behind the other: KEvac1.
-/
import Derived.Test.YtcdpnfchmpncjaaGreatDoorMa32
set_option linter.unusedSimpArgs false
set_option linter.unusedVariables false
namespace Go.Tr
open Go.RowKit
theorem results_cc {P : Program} {fn : Func} {p p2 : Tmp} {ty ty2 : TypeId} (h : fn.results = #[.cell p ty, .cell p2 ty2]) (tmps : Array Value) (w : World) (g g2 : Nat) (t t2 : TypeId) (cs cs2 : Array Value) (fr fr2 : Nat × Nat) (d d2 : TypeDesc)
    (hp : tmps.getD p undef = .pointer (some ⟨g, 0, none⟩)) (hg : w.heap[g]? = some (.cells cs t fr))
    (hu : P.underlying ty = some d) (hd : (match d with | .struct _ | .array _ _ => true | _ => false) = true) (hi : (P.info? ty).map (·.size) = some cs.size)
    (hp2 : tmps.getD p2 undef = .pointer (some ⟨g2, 0, none⟩)) (hg2 : w.heap[g2]? = some (.cells cs2 t2 fr2))
    (hu2 : P.underlying ty2 = some d2) (hd2 : (match d2 with | .struct _ | .array _ _ => true | _ => false) = true) (hi2 : (P.info? ty2).map (·.size) = some cs2.size) :
    (results fn tmps).run P w = .ok (.tuple #[.agg cs, .agg cs2]) w := by
  have hp' : tmps[p]?.getD undef = .pointer (some ⟨g, 0, none⟩) := by simpa using hp
  have hp2' : tmps[p2]?.getD undef = .pointer (some ⟨g2, 0, none⟩) := by simpa using hp2
  simp [results, h, hp', hp2', asAddr, run_loadVar_row w g t ty cs fr d hg hu hd hi, run_loadVar_row w g2 t2 ty2 cs2 fr2 d2 hg2 hu2 hd2 hi2, Sem.run_bind, Result.andThen]
end Go.Tr
namespace Go.Proofs.YtcdpnfchmpncjaaGreatDoor
open Go.RowKit Go.Tr Go.Shelf
variable {w w' : World} {F G : Nat → Prop} {A : Ad} {S S1 : HS}
theorem HeapF.evf (h : HeapF w F A S) (hon : S.on = true) {W : World} (hb : Below w.heap.size w W) : W.cell? ⟨A.h, 0, none⟩ = some (.pointer (some ⟨A.c, 0, none⟩)) ∧ W.cell? ⟨A.h, 1, none⟩ = some (.int .i64 1) ∧ W.cell? ⟨A.h, 2, none⟩ = some (.pointer (some ⟨A.u2, 0, none⟩)) ∧ W.cell? ⟨A.h, 3, none⟩ = some (.pointer (some ⟨A.gl, 0, none⟩)) := by
  have hc := (h.below hb).ev.1
  rw [hon] at hc
  refine ⟨?_, ?_, ?_, ?_⟩ <;> · rw [(cells_of_block hc _).1]; rfl
theorem HeapF.evf0 (h : HeapF w F A S) (hon : S.on = false) {W : World} (hb : Below w.heap.size w W) : W.cell? ⟨A.h, 0, none⟩ = some (.pointer (some ⟨A.c, 0, none⟩)) ∧ W.cell? ⟨A.h, 1, none⟩ = some (.int .i64 0) := by
  have hc := (h.below hb).ev.1
  rw [hon] at hc
  refine ⟨?_, ?_⟩ <;> · rw [(cells_of_block hc _).1]; rfl
theorem HeapF.evc (h : HeapF w F A S) {W : World} (hb : Below w.heap.size w W) : W.cell? ⟨A.h, 0, none⟩ = some (.pointer (some ⟨A.c, 0, none⟩)) := by
  cases hon : S.on
  · exact (h.evf0 hon hb).1
  · exact (h.evf hon hb).1
theorem HeapF.gray (h : HeapF w F A S) (hon : S.on = true) : ∃ G : Nat → Prop, GrayAt 165 w A.gl G S.gs := by
  obtain ⟨G, hG, h1⟩ := h.1.read 11; exact ⟨G, h1 hon⟩
theorem eunder_any (w : World) (h : HeapF w F A S) (hon : S.on = true) : Calls Tryz.prog 63 #[.pointer (some ⟨A.h, 0, none⟩)] w fun e w' => e = .returned (.int .i64 1) ∧ w = w' := by
  obtain ⟨-, e1, -⟩ := h.evf hon (Below.refl _ _)
  clear h hon
  go_enter Tryz.func63, Tryz.ntmps63
  go_wp2
  go_ret
  exact ⟨rfl, rfl⟩
set_option maxRecDepth 100000 in
theorem eready_any (w : World) (h : HeapF w F A S) (hon : S.on = true) : Calls Tryz.prog 28 #[.pointer (some ⟨A.h, 0, none⟩)] w fun e w' => e = .returned (.bool (decide (S.gs.wait = 0))) ∧ w = w' := by
  have HU := Lib.hid (eunder_any w h hon)
  obtain ⟨-, -, -, e3⟩ := h.evf hon (Below.refl _ _)
  obtain ⟨G, hg⟩ := h.gray hon
  have HG := Lib.hid (glen_any w hg)
  obtain ⟨n, hn⟩ : ∃ n, n = S.gs.wait := ⟨_, rfl⟩
  rw [← hn] at HG ⊢
  clear h hon hg hn
  by_cases h0 : n = 0
  · have hb : (n == 0) = true := by simpa using h0
    rw [show decide (n = 0) = true by simpa using h0]
    clear h0
    go_enter Tryz.func28, Tryz.ntmps28
    go_wp2_with fail
    refine HU.out.mono ?_
    rintro e w1 ⟨rfl, rfl⟩
    go_wp2_with fail
    refine HG.out.mono ?_
    rintro e w1 ⟨rfl, rfl⟩
    go_wp2
    go_ret
    exact ⟨rfl, rfl⟩
  · have hb : (n == 0) = false := by simpa using h0
    rw [show decide (n = 0) = false by simpa using h0]
    clear h0
    go_enter Tryz.func28, Tryz.ntmps28
    go_wp2_with fail
    refine HU.out.mono ?_
    rintro e w1 ⟨rfl, rfl⟩
    go_wp2_with fail
    refine HG.out.mono ?_
    rintro e w1 ⟨rfl, rfl⟩
    go_wp2
    go_ret
    exact ⟨rfl, rfl⟩
set_option maxRecDepth 100000 in
set_option maxHeartbeats 1000000 in
theorem eentry_any {x : Sl} {i : Nat} (w : World) (h : HeapF w F A S) (hx : S.sl[i]? = some x) (hu : x.used = true) : Calls Tryz.prog 56 #[.pointer (some ⟨A.h, 0, none⟩), .int .i64 i] w fun e w' => e = .returned (.tuple #[.agg #[.int .i64 i, .int .i64 x.gen], entryV x]) ∧ Below w.heap.size w w' := by
  have HE := Lib.hid (fun W (hb : Below w.heap.size w W) => h.evc hb)
  have HF := Lib.hid (fun W (hb : Below w.heap.size w W) => h.fields hb)
  have HG := Lib.hid (fun W (hb : Below w.heap.size w W) => h.get hx hu hb)
  have HSL := Lib.hid (fun W (hb : Below w.heap.size w W) => h.slot hx hu hb)
  obtain ⟨g, ug, ad, rg, hd, pn⟩ := x
  simp only [entryV] at HG HSL ⊢
  have h2 := al2 w (.cells #[.int .i64 0, .int .i64 0] 38) (.cells #[.int .i64 0, .int .i64 0, .bool false, .bool false] 93)
  have HB0 := Lib.hid h2.1
  have HT0 := Lib.hid h2.2.1
  have HR0 := Lib.hid h2.2.2
  obtain ⟨rt, hrt⟩ : ∃ rt, rt = w.heap.size := ⟨_, rfl⟩
  obtain ⟨rb, hrb⟩ : ∃ rb, rb = w.heap.size + 1 := ⟨_, rfl⟩
  have HNE : Hid (w.heap.size ≤ rt ∧ w.heap.size ≤ rb ∧ rt ≠ rb) := ⟨by omega, by omega, by omega⟩
  rw [← hrt] at HT0
  rw [← hrb] at HR0
  have c0 := HE.out _ HB0.out
  obtain ⟨-, -, -, c3, -⟩ := HF.out _ HB0.out
  clear h hx hu h2
  go_enter Tryz.func56, Tryz.ntmps56
  go_wp2_with fail
  rw [← hrb, ← hrt]
  clear hrb hrt c0 c3
  generalize (w.alloc (.cells #[.int .i64 0, .int .i64 0] 38)).alloc (.cells #[.int .i64 0, .int .i64 0, .bool false, .bool false] 93) = wa at *
  refine (HSL.out wa HB0.out).mono ?_
  rintro e w1 ⟨rfl, hb1⟩
  have hb1' : Below wa.heap.size wa (w1.alloc (.cells #[.int .i64 i, .int .i64 g] 38)) := hb1.alloc hb1.size _
  have HB1 : Hid (Below w.heap.size w (w1.alloc (.cells #[.int .i64 i, .int .i64 g] 38))) := HB0.out.trans (hb1'.mono HB0.out.size)
  have HT1 := Lib.hid (seqAt_fields HT0.out hb1')
  have HR1 := Lib.hid (seqAt_fields HR0.out hb1')
  have HK1 : Hid ((w1.alloc (.cells #[.int .i64 i, .int .i64 g] 38)).heap[w1.heap.size]? = some (.cells #[.int .i64 i, .int .i64 g] 38 (0, 0))) := heap_alloc_new w1 _
  have htn : rt < w1.heap.size ∧ rb < w1.heap.size := ⟨Nat.lt_of_lt_of_le (block_lt HT0.out) hb1.size, Nat.lt_of_lt_of_le (block_lt HR0.out) hb1.size⟩
  obtain ⟨tb, htb⟩ : ∃ tb, tb = w1.heap.size := ⟨_, rfl⟩
  rw [← htb] at HK1 htn
  have HTN := Lib.hid htn
  clear hb1 hb1' htn
  go_wp2_with fail
  rw [← htb]
  clear htb
  generalize w1.alloc (.cells #[.int .i64 i, .int .i64 g] 38) = w2 at *
  obtain ⟨n2, hn2⟩ : ∃ n, n = w2.heap.size := ⟨_, rfl⟩
  have HN2 : Hid (n2 = w2.heap.size) := hn2
  have HW : Hid (∀ W, Below n2 w2 W → Below w.heap.size w W) := fun W hb => by rw [hn2] at hb; exact HB1.out.trans (hb.mono HB1.out.size)
  clear hn2
  have HD : Hid (∀ W, Below n2 w2 W → W.cell? ⟨A.h, 0, none⟩ = some (.pointer (some ⟨A.c, 0, none⟩)) ∧ W.cell? ⟨A.c, 3, none⟩ = some (.pointer (some ⟨A.t, 0, none⟩)) ∧ W.cell? ⟨tb, 0, none⟩ = some (.int .i64 i) ∧ W.cell? ⟨tb, 1, none⟩ = some (.int .i64 g)) := fun W hb => by
    have ht := (hb.block tb (by rw [HN2.out]; exact block_lt HK1.out)).trans HK1.out
    exact ⟨HE.out W (HW.out W hb), (HF.out W (HW.out W hb)).2.2.2.1, (cells_of_block ht 0).1, (cells_of_block ht 1).1⟩
  refine wp_region_held_drew (S := Below n2 w2) (by kernel_rfl) (Below.refl n2 w2).drew (fun hH => ?_)
  refine tk 0 (v := ?_) rfl ?_ ?_; rotate_left; · intro W hW; go_simp; try with_reducible rfl
  refine tk 1 (v := ?_) rfl ?_ ?_; rotate_left; · intro W hW; go_simp; try with_reducible rfl
  refine tk 2 (v := ?_) rfl ?_ ?_; rotate_left; · intro W hW; go_simp; try with_reducible rfl
  refine tk 3 (v := ?_) rfl ?_ ?_; rotate_left; · intro W hW; obtain ⟨d0, d3, e0, e1⟩ := HD.out W hW; go_simp; try with_reducible rfl
  refine tk 4 (v := ?_) rfl ?_ ?_; rotate_left; · intro W hW; obtain ⟨d0, d3, e0, e1⟩ := HD.out W hW; go_simp; try with_reducible rfl
  refine tk 5 (v := ?_) rfl ?_ ?_; rotate_left; · intro W hW; obtain ⟨d0, d3, e0, e1⟩ := HD.out W hW; go_simp; try with_reducible rfl
  refine tk 6 (v := ?_) rfl ?_ ?_; rotate_left; · intro W hW; obtain ⟨d0, d3, e0, e1⟩ := HD.out W hW; go_simp; try with_reducible rfl
  refine tk 7 (v := ?_) rfl ?_ ?_; rotate_left; · intro W hW; obtain ⟨d0, d3, e0, e1⟩ := HD.out W hW; go_simp; try with_reducible rfl
  refine rd2 8 12 rfl rfl (fun K hK => ?_) (fun K hK => ?_)
  focus
    go_simp
    refine (HG.out _ (HW.out _ hH)).mono ?_
    rintro e w3 ⟨rfl, hb3⟩
    have HB3 : Hid (Below n2 w2 w3) := hH.trans (hb3.mono (by rw [HN2.out]; exact hH.size))
    refine hK.out _ _ HB3.out (fun hH => ?_)
    clear hK K hb3
    refine tk 9 (v := ?_) rfl ?_ ?_; rotate_left; · intro W hW; go_simp; try with_reducible rfl
    refine tk 10 (v := ?_) rfl ?_ ?_; rotate_left; · intro W hW; go_simp; try with_reducible rfl
    refine tk 11 (v := ?_) rfl ?_ ?_; rotate_left; · intro W hW; go_simp; try with_reducible rfl
    refine rd 12 rfl (fun K hK => ?_)
    go_simp
    have HB4 : Hid (Below n2 w2 (w3.alloc (.cells #[.int .i64 ad, .int .i64 rg, .bool hd, .bool pn] 93))) := HB3.out.alloc (by rw [HN2.out]; exact HB3.out.size) _
    refine hK.out _ _ (HB3.out.alloc (by rw [HN2.out]; exact HB3.out.size) _) (fun hH => ?_)
    clear hK K
    refine rd 13 rfl (fun K hK => ?_)
    go_simp
    refine hK.out _ _ HB4.out (fun hH => ?_)
    clear hK K
    obtain ⟨xb, hxb⟩ : ∃ xb, xb = w3.heap.size := ⟨_, rfl⟩
    have HX : Hid ((w3.alloc (.cells #[.int .i64 ad, .int .i64 rg, .bool hd, .bool pn] 93)).heap[xb]? = some (.cells #[.int .i64 ad, .int .i64 rg, .bool hd, .bool pn] 93 (0, 0))) := by rw [hxb]; exact heap_alloc_new w3 _
    have HXE : Hid (n2 ≤ xb) := by show _ ≤ _; rw [hxb, HN2.out]; exact HB3.out.size
    rw [← hxb]
    clear hxb
    generalize w3.alloc (.cells #[.int .i64 ad, .int .i64 rg, .bool hd, .bool pn] 93) = w4 at *
  rotate_left
  focus
    go_simp
    have hb3 : Below n2 w2 (w2.alloc (.cells #[.int .i64 0, .int .i64 0, .bool false, .bool false] 93)).drew := ((Below.refl n2 w2).alloc (Nat.le_of_eq HN2.out) _).drew
    refine hK.out _ _ hb3 (fun hH => ?_)
    clear hK K
    refine rd 8 rfl (fun K hK => ?_)
    go_simp
    refine (HG.out _ (HW.out _ hH)).mono ?_
    rintro e w3 ⟨rfl, hbc⟩
    have HB3 : Hid (Below n2 w2 w3) := hb3.trans (hbc.mono (by rw [HN2.out]; exact hb3.size))
    obtain ⟨xb, hxb⟩ : ∃ xb, xb = w2.heap.size := ⟨_, rfl⟩
    have HX3 : Hid (w3.heap[xb]? = some (.cells #[.int .i64 0, .int .i64 0, .bool false, .bool false] 93 (0, 0))) := by rw [hxb]; exact (hbc.block _ (by simp)).trans (heap_alloc_new w2 _)
    refine hK.out _ _ HB3.out (fun hH => ?_)
    rw [← hxb]
    have hxw : n2 ≤ xb := by rw [HN2.out]; exact Nat.le_of_eq hxb.symm
    have HXE : Hid (n2 ≤ xb) := hxw
    clear hK K hb3 hbc hxb
    refine tk 9 (v := ?_) rfl ?_ ?_; rotate_left; · intro W hW; go_simp; try with_reducible rfl
    refine tk 10 (v := ?_) rfl ?_ ?_; rotate_left; · intro W hW; go_simp; try with_reducible rfl
    refine tk 11 (v := ?_) rfl ?_ ?_; rotate_left; · intro W hW; go_simp; try with_reducible rfl
    have z0 := cells_of_block HX3.out 0
    have z1 := cells_of_block HX3.out 1
    have z2 := cells_of_block HX3.out 2
    have z3 := cells_of_block HX3.out 3
    simp at z0 z1 z2 z3
    obtain ⟨z0, f0⟩ := z0
    obtain ⟨z1, f1⟩ := z1
    obtain ⟨z2, f2⟩ := z2
    obtain ⟨z3, f3⟩ := z3
    refine rd 13 rfl (fun K hK => ?_)
    go_simp
    have HB4 : Hid (Below n2 w2 ((((w3.setCell ⟨xb, 0, none⟩ (.int .i64 ad)).setCell ⟨xb, 1, none⟩ (.int .i64 rg)).setCell ⟨xb, 2, none⟩ (.bool hd)).setCell ⟨xb, 3, none⟩ (.bool pn))) := ((((HB3.out).setCell hxw _).setCell hxw _).setCell hxw _).setCell hxw _
    refine hK.out _ _ HB4.out (fun hH => ?_)
    clear hK K hxw z0 f0 z1 f1 z2 f2 z3 f3
    have HX : Hid (((((w3.setCell ⟨xb, 0, none⟩ (.int .i64 ad)).setCell ⟨xb, 1, none⟩ (.int .i64 rg)).setCell ⟨xb, 2, none⟩ (.bool hd)).setCell ⟨xb, 3, none⟩ (.bool pn)).heap[xb]? = some (.cells #[.int .i64 ad, .int .i64 rg, .bool hd, .bool pn] 93 (0, 0))) := by
      show _ = _
      simpa using block_setCell (block_setCell (block_setCell (block_setCell (HX3.out) 0 (.int .i64 ad)) 1 (.int .i64 rg)) 2 (.bool hd)) 3 (.bool pn)
    generalize (((w3.setCell ⟨xb, 0, none⟩ (.int .i64 ad)).setCell ⟨xb, 1, none⟩ (.int .i64 rg)).setCell ⟨xb, 2, none⟩ (.bool hd)).setCell ⟨xb, 3, none⟩ (.bool pn) = w4 at *
    clear HX3
  all_goals
    refine tk 14 (v := ?_) rfl ?_ ?_; rotate_left; · intro W hW; go_simp; try with_reducible rfl
    refine wpAnyH_done (by kernel_rfl) ?_ _
    have HT4 := Lib.hid ((HB4.out.block rt (by rw [HN2.out]; exact block_lt HT1.out)).trans HT1.out)
    have HR4 := Lib.hid ((HB4.out.block rb (by rw [HN2.out]; exact block_lt HR1.out)).trans HR1.out)
    have HK4 := Lib.hid ((HB4.out.block tb (by rw [HN2.out]; exact block_lt HK1.out)).trans HK1.out)
    have hne : tb ≠ rt ∧ tb ≠ rb ∧ xb ≠ rt ∧ xb ≠ rb ∧ rt ≠ rb ∧ rb ≠ rt := by
      have e1 := HTN.out
      have e2 := HXE.out
      have e3 := HN2.out
      have e4 := block_lt HT1.out
      have e5 := block_lt HR1.out
      have e6 := HNE.out
      omega
    have HN := Lib.hid hne
    clear hne
    go_wp2_with fail
    have HD2 : Hid (∀ W, Only (fun k => k = rt ∨ k = rb) w4 W → W.cell? ⟨tb, 0, none⟩ = some (.int .i64 i) ∧ W.cell? ⟨tb, 1, none⟩ = some (.int .i64 g) ∧ W.cell? ⟨xb, 0, none⟩ = some (.int .i64 ad) ∧ W.cell? ⟨xb, 1, none⟩ = some (.int .i64 rg) ∧ W.cell? ⟨xb, 2, none⟩ = some (.bool hd) ∧ W.cell? ⟨xb, 3, none⟩ = some (.bool pn)) := fun W ho => by
      obtain ⟨n1, n2', n3, n4, -, -⟩ := HN.out
      have k1 := (ho.block tb (block_lt HK4.out) (by omega)).trans HK4.out
      have k2 := (ho.block xb (block_lt HX.out) (by omega)).trans HX.out
      exact ⟨(cells_of_block k1 0).1, (cells_of_block k1 1).1, (cells_of_block k2 0).1, (cells_of_block k2 1).1, (cells_of_block k2 2).1, (cells_of_block k2 3).1⟩
    refine wp_region_held_drew (S := Only (fun k => k = rt ∨ k = rb) w4) (by kernel_rfl) (Only.refl _ w4).drew (fun hH => ?_)
    refine tk 0 (v := ?_) rfl ?_ ?_; rotate_left; · intro W hW; obtain ⟨d0, d1, d2, d3, d4, d5⟩ := HD2.out W hW; go_simp; try with_reducible rfl
    refine tk 1 (v := ?_) rfl ?_ ?_; rotate_left; · intro W hW; obtain ⟨d0, d1, d2, d3, d4, d5⟩ := HD2.out W hW; go_simp; try with_reducible rfl
    refine rd 2 rfl (fun K hK => ?_)
    have t0 := cells_of_block HT4.out 0
    have t1 := cells_of_block HT4.out 1
    simp at t0 t1
    obtain ⟨t0, p0⟩ := t0
    obtain ⟨t1, p1⟩ := t1
    go_simp
    have ho1 : Only (fun k => k = rt ∨ k = rb) w4 ((w4.setCell ⟨rt, 0, none⟩ (.int .i64 i)).setCell ⟨rt, 1, none⟩ (.int .i64 g)) := ((Only.refl (fun k => k = rt ∨ k = rb) w4).setCell (p := ⟨rt, 0, none⟩) (Or.inl (Or.inl rfl)) _).setCell (p := ⟨rt, 1, none⟩) (Or.inl (Or.inl rfl)) _
    refine hK.out _ _ ho1.drew (fun hH => ?_)
    clear hK K t0 t1 p0 p1
    have HA1 : Hid (((w4.setCell ⟨rt, 0, none⟩ (.int .i64 i)).setCell ⟨rt, 1, none⟩ (.int .i64 g)).heap[rt]? = some (.cells #[.int .i64 i, .int .i64 g] 38 (0, 0))) := by
      show _ = _
      simpa using block_setCell (block_setCell HT4.out 0 (.int .i64 i)) 1 (.int .i64 g)
    have HA2 : Hid (((w4.setCell ⟨rt, 0, none⟩ (.int .i64 i)).setCell ⟨rt, 1, none⟩ (.int .i64 g)).heap[rb]? = some (.cells #[.int .i64 0, .int .i64 0, .bool false, .bool false] 93 (0, 0))) := by
      show _ = _
      rw [Below.heap_setCell _ _ _ _ HN.out.2.2.2.2.2, Below.heap_setCell _ _ _ _ HN.out.2.2.2.2.2]; exact HR4.out
    have HA3 : Hid (Below w.heap.size w ((w4.setCell ⟨rt, 0, none⟩ (.int .i64 i)).setCell ⟨rt, 1, none⟩ (.int .i64 g))) := ((HW.out _ HB4.out).setCell HNE.out.1 _).setCell HNE.out.1 _
    generalize ((w4.setCell ⟨rt, 0, none⟩ (.int .i64 i)).setCell ⟨rt, 1, none⟩ (.int .i64 g)) = w5 at *
    have r0 := cells_of_block HA2.out 0
    have r1 := cells_of_block HA2.out 1
    have r2 := cells_of_block HA2.out 2
    have r3 := cells_of_block HA2.out 3
    simp at r0 r1 r2 r3
    obtain ⟨r0, q0⟩ := r0
    obtain ⟨r1, q1⟩ := r1
    obtain ⟨r2, q2⟩ := r2
    obtain ⟨r3, q3⟩ := r3
    refine rd 3 rfl (fun K hK => ?_)
    go_simp
    have ho2 : Only (fun k => k = rt ∨ k = rb) w4 ((((w5.setCell ⟨rb, 0, none⟩ (.int .i64 ad)).setCell ⟨rb, 1, none⟩ (.int .i64 rg)).setCell ⟨rb, 2, none⟩ (.bool hd)).setCell ⟨rb, 3, none⟩ (.bool pn)) := (((ho1.setCell (p := ⟨rb, 0, none⟩) (Or.inl (Or.inr rfl)) _).setCell (p := ⟨rb, 1, none⟩) (Or.inl (Or.inr rfl)) _).setCell (p := ⟨rb, 2, none⟩) (Or.inl (Or.inr rfl)) _).setCell (p := ⟨rb, 3, none⟩) (Or.inl (Or.inr rfl)) _
    refine hK.out _ _ ho2.drew (fun hH => ?_)
    clear hK K r0 r1 r2 r3 q0 q1 q2 q3
    have HF1 : Hid (((((w5.setCell ⟨rb, 0, none⟩ (.int .i64 ad)).setCell ⟨rb, 1, none⟩ (.int .i64 rg)).setCell ⟨rb, 2, none⟩ (.bool hd)).setCell ⟨rb, 3, none⟩ (.bool pn)).heap[rb]? = some (.cells #[.int .i64 ad, .int .i64 rg, .bool hd, .bool pn] 93 (0, 0))) := by
      show _ = _
      simpa using block_setCell (block_setCell (block_setCell (block_setCell HA2.out 0 (.int .i64 ad)) 1 (.int .i64 rg)) 2 (.bool hd)) 3 (.bool pn)
    have HF2 : Hid (((((w5.setCell ⟨rb, 0, none⟩ (.int .i64 ad)).setCell ⟨rb, 1, none⟩ (.int .i64 rg)).setCell ⟨rb, 2, none⟩ (.bool hd)).setCell ⟨rb, 3, none⟩ (.bool pn)).heap[rt]? = some (.cells #[.int .i64 i, .int .i64 g] 38 (0, 0))) := by
      show _ = _
      have n5 := HN.out.2.2.2.2.1
      rw [Below.heap_setCell _ _ _ _ n5, Below.heap_setCell _ _ _ _ n5, Below.heap_setCell _ _ _ _ n5, Below.heap_setCell _ _ _ _ n5]; exact HA1.out
    have HF3 : Hid (Below w.heap.size w ((((w5.setCell ⟨rb, 0, none⟩ (.int .i64 ad)).setCell ⟨rb, 1, none⟩ (.int .i64 rg)).setCell ⟨rb, 2, none⟩ (.bool hd)).setCell ⟨rb, 3, none⟩ (.bool pn))) := (((HA3.out.setCell HNE.out.2.1 _).setCell HNE.out.2.1 _).setCell HNE.out.2.1 _).setCell HNE.out.2.1 _
    generalize (((w5.setCell ⟨rb, 0, none⟩ (.int .i64 ad)).setCell ⟨rb, 1, none⟩ (.int .i64 rg)).setCell ⟨rb, 2, none⟩ (.bool hd)).setCell ⟨rb, 3, none⟩ (.bool pn) = w6 at *
    refine wpAnyH_done (by kernel_rfl) ?_ _
    go_wp2_with fail
    try simp only [Exit.inBlock, Exit.then]
    exact bodyPost_ret (results_cc rfl _ _ rt rb _ _ _ _ _ _ _ _ rfl HF2.out Tryz.underlying38 rfl rfl rfl HF1.out Tryz.underlying93 rfl rfl) rfl ⟨rfl, HF3.out.drew⟩
end Go.Proofs.YtcdpnfchmpncjaaGreatDoor
