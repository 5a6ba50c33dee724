/-
  Parts of the proof, one behind the other: KImg, KImg2.
-/
import Derived.Test.YtcdpnfchmpncjaaGreatDoorMa23
set_option linter.unusedSimpArgs false
set_option linter.unusedVariables false
namespace Go.Tr
open Go.RowKit
theorem results_blk3 {P : Program} {fn : Func} {p u v : Tmp} {ty : TypeId} (h : fn.results = #[.cell p ty, .tmp u, .tmp v]) (tmps : Array Value) (w : World) (g : Nat) (t : TypeId) (cs : Array Value) (fr : Nat × Nat) (d : TypeDesc)
    (hp : tmps.getD p undef = .pointer (some ⟨g, 0, none⟩)) (hg : w.heap[g]? = some (.cells cs t fr))
    (hu : P.underlying ty = some d) (hd : (match d with | .struct _ | .array _ _ => true | _ => false) = true) (hi : (P.info? ty).map (·.size) = some cs.size) :
    (results fn tmps).run P w = .ok (.tuple #[.agg cs, tmps.getD u undef, tmps.getD v undef]) w := by
  have hp' : tmps[p]?.getD undef = .pointer (some ⟨g, 0, none⟩) := by simpa using hp
  simp [results, h, hp', asAddr, run_loadVar_row w g t ty cs fr d hg hu hd hi, Sem.run_bind, Result.andThen]
theorem results_blk22 {P : Program} {fn : Func} {p p2 u v : Tmp} {ty ty2 : TypeId} (h : fn.results = #[.cell p ty, .cell p2 ty2, .tmp u, .tmp v]) (tmps : Array Value) (w : World) (g g2 : Nat) (t t2 : TypeId) (cs cs2 : Array Value) (fr fr2 : Nat × Nat) (d d2 : TypeDesc)
    (hp : tmps.getD p undef = .pointer (some ⟨g, 0, none⟩)) (hg : w.heap[g]? = some (.cells cs t fr))
    (hu : P.underlying ty = some d) (hd : (match d with | .struct _ | .array _ _ => true | _ => false) = true) (hi : (P.info? ty).map (·.size) = some cs.size)
    (hp2 : tmps.getD p2 undef = .pointer (some ⟨g2, 0, none⟩)) (hg2 : w.heap[g2]? = some (.cells cs2 t2 fr2))
    (hu2 : P.underlying ty2 = some d2) (hd2 : (match d2 with | .struct _ | .array _ _ => true | _ => false) = true) (hi2 : (P.info? ty2).map (·.size) = some cs2.size) :
    (results fn tmps).run P w = .ok (.tuple #[.agg cs, .agg cs2, tmps.getD u undef, tmps.getD v undef]) w := by
  have hp' : tmps[p]?.getD undef = .pointer (some ⟨g, 0, none⟩) := by simpa using hp
  have hp2' : tmps[p2]?.getD undef = .pointer (some ⟨g2, 0, none⟩) := by simpa using hp2
  simp [results, h, hp', hp2', asAddr, run_loadVar_row w g t ty cs fr d hg hu hd hi, run_loadVar_row w g2 t2 ty2 cs2 fr2 d2 hg2 hu2 hd2 hi2, Sem.run_bind, Result.andThen]
end Go.Tr
namespace Go.Proofs.YtcdpnfchmpncjaaGreatDoor
open Go.RowKit Go.Tr Go.Shelf
variable {w w' : World} {F G : Nat → Prop} {m s b : Nat} {L : Lay}
def ImAt (w : World) (m s b : Nat) : Prop := w.heap[m]? = some (.cells #[.pointer (some ⟨s, 0, none⟩), .pointer (some ⟨b, 0, none⟩)] 209 (0, 0))
set_option maxRecDepth 100000 in
theorem inew_any (s b : Nat) (w : World) : Calls Tryz.prog 76 #[.pointer (some ⟨s, 0, none⟩), .pointer (some ⟨b, 0, none⟩)] w fun e w' => e = .returned (.tuple #[.pointer (some ⟨w.heap.size, 0, none⟩), .int .i64 0]) ∧ ImAt w' w.heap.size s b ∧ Below w.heap.size w w' ∧ w'.heap.size = w.heap.size + 1 := by
  go_enter Tryz.func76, Tryz.ntmps76
  go_wp2
  go_ret2
  exact ⟨rfl, heap_alloc_new w _, (Below.refl _ w).alloc (Nat.le_refl _) _, by simp⟩
end Go.Proofs.YtcdpnfchmpncjaaGreatDoor
namespace Go.Proofs.YtcdpnfchmpncjaaGreatDoor
open Go.RowKit Go.Tr Go.Shelf
variable {w w' : World} {F G : Nat → Prop} {m s b : Nat} {L : Lay}
set_option maxRecDepth 100000 in
set_option maxHeartbeats 1000000 in
theorem isize_any (count slot : Nat) (w : World) (hm : ImAt w m s b) (hB : Bk1 w F b L) (hr : RightLay L) (hc : count ≤ 1024) (hcr : count = 0 ∨ L.record ≠ 0) (hsz : L.size count < 8192) : Calls Tryz.prog 134 #[.pointer (some ⟨m, 0, none⟩), .agg #[.int .i64 1, .int .i64 count, .int .i64 slot]] w fun e w' => ∃ v, e = .returned (.tuple #[v, .int .i64 (L.size count : Nat), .int .i64 0]) ∧ LayF w' v L (fun k => w.heap.size ≤ k ∧ k < w'.heap.size) ∧ Below w.heap.size w w' := by
  have hl1 : L.refs.length ≤ 1000 := risesN_len hr.refs (by have := hr.f; omega)
  have hl2 : L.recs.length ≤ 1000 := risesN_len hr.recs (by have := hr.r; omega)
  have HGET : Hid (∀ W : World, Below w.heap.size w W → Calls Tryz.prog 86 #[.pointer (some ⟨b, 0, none⟩), .int .i64 1] W fun e w' => ∃ v, e = .returned (.tuple #[v, .int .i64 0]) ∧ LayF w' v L (fun k => W.heap.size ≤ k ∧ k < w'.heap.size) ∧ Below W.heap.size W w') := fun W hb => lget_any W (hB.kept (fun k _ hl => hb.block k hl)) hl1 hl2
  have HSZ : Hid (∀ (v : Value) (W : World), LayAt W v L → Calls Tryz.prog 87 #[v, .int .i64 count] W fun e w' => e = .returned (.tuple #[.int .i64 (L.size count : Nat), .int .i64 0]) ∧ Below W.heap.size W w') := fun v W hv => lsize_any count W hv hr hc hcr hsz
  have HB4 : Hid (Below w.heap.size w ((w.alloc (.cells #[.int .i64 1, .int .i64 count, .int .i64 slot] 128)).alloc (.cells #[.int .i64 0, .slice none 0 0, .int .i64 0, .slice none 0 0] 60))) := ((Below.refl _ w).alloc (Nat.le_refl _) _).alloc (by simp) _
  obtain ⟨xb, hxb⟩ : ∃ xb, xb = w.heap.size := ⟨_, rfl⟩
  obtain ⟨rb, hrb⟩ : ∃ rb, rb = w.heap.size + 1 := ⟨_, rfl⟩
  have HX4 : Hid (((w.alloc (.cells #[.int .i64 1, .int .i64 count, .int .i64 slot] 128)).alloc (.cells #[.int .i64 0, .slice none 0 0, .int .i64 0, .slice none 0 0] 60)).heap[xb]? = some (.cells #[.int .i64 1, .int .i64 count, .int .i64 slot] 128 (0, 0))) := by rw [hxb]; exact (Below.heap_alloc _ _ _ (by simp)).trans (heap_alloc_new w _)
  have HR4 : Hid (((w.alloc (.cells #[.int .i64 1, .int .i64 count, .int .i64 slot] 128)).alloc (.cells #[.int .i64 0, .slice none 0 0, .int .i64 0, .slice none 0 0] 60)).heap[rb]? = some (.cells #[.int .i64 0, .slice none 0 0, .int .i64 0, .slice none 0 0] 60 (0, 0))) := by rw [hrb]; exact heap_alloc2_new w _ _
  have HRE : Hid (w.heap.size ≤ rb) := by rw [hrb]; exact Nat.le_add_right _ _
  have hmk := (HB4.out.block m (Array.getElem?_eq_some_iff.1 hm).1).trans hm
  obtain ⟨z, hz⟩ : ∃ z, z = L.size count := ⟨_, rfl⟩
  rw [← hz] at HSZ ⊢
  clear hm hB hr hc hcr hsz hl1 hl2 hz
  go_enter Tryz.func134, Tryz.ntmps134
  go_wp2_with fail
  rw [← hrb, ← hxb]
  clear hrb
  rw [← hxb] at HGET
  generalize (w.alloc (.cells #[.int .i64 1, .int .i64 count, .int .i64 slot] 128)).alloc (.cells #[.int .i64 0, .slice none 0 0, .int .i64 0, .slice none 0 0] 60) = w4 at *
  rw [hxb] at HGET
  clear hxb
  have m1_4 := (cells_of_block hmk 1).1
  have h0_4 := (cells_of_block HX4.out 0).1
  simp at m1_4 h0_4
  clear hmk
  refine wp_region_held_drew (S := fun W => W.cell? ⟨m, 1, none⟩ = some (.pointer (some ⟨b, 0, none⟩)) ∧ W.cell? ⟨xb, 0, none⟩ = some (.int .i64 1)) (by kernel_rfl) ⟨m1_4, h0_4⟩ (fun hH => ?_)
  refine takeH 0 (v := ?_) rfl (by kernel_rfl) (by kernel_rfl) (by kernel_rfl) (fun _ _ _ h => h) (by rfl) ?_ (by assumption) ?_
  rotate_left
  · intro W hW
    go_simp
    try with_reducible rfl
  try simp only [Act.put, List.setIfInBounds_toArray, List.set_cons_zero, List.set_cons_succ]
  refine takeH 1 (v := ?_) rfl (by kernel_rfl) (by kernel_rfl) (by kernel_rfl) (fun _ _ _ h => h) (by rfl) ?_ (by assumption) ?_
  rotate_left
  · intro W hW
    go_simp
    try with_reducible rfl
  try simp only [Act.put, List.setIfInBounds_toArray, List.set_cons_zero, List.set_cons_succ]
  refine takeH 2 (v := ?_) rfl (by kernel_rfl) (by kernel_rfl) (by kernel_rfl) (fun _ _ _ h => h) (by rfl) ?_ (by assumption) ?_
  rotate_left
  · intro W hW
    go_simp
    try with_reducible rfl
  try simp only [Act.put, List.setIfInBounds_toArray, List.set_cons_zero, List.set_cons_succ]
  refine takeH 3 (v := ?_) rfl (by kernel_rfl) (by kernel_rfl) (by kernel_rfl) (fun _ _ _ h => h) (by rfl) ?_ (by assumption) ?_
  rotate_left
  · intro W hW
    go_simp
    try with_reducible rfl
  try simp only [Act.put, List.setIfInBounds_toArray, List.set_cons_zero, List.set_cons_succ]
  refine takeH 4 (v := ?_) rfl (by kernel_rfl) (by kernel_rfl) (by kernel_rfl) (fun _ _ _ h => h) (by rfl) ?_ (by assumption) ?_
  rotate_left
  · intro W hW
    go_simp
    try with_reducible rfl
  try simp only [Act.put, List.setIfInBounds_toArray, List.set_cons_zero, List.set_cons_succ]
  refine takeH 5 (v := ?_) rfl (by kernel_rfl) (by kernel_rfl) (by kernel_rfl) (fun _ _ _ h => h) (by rfl) ?_ (by assumption) ?_
  rotate_left
  · intro W hW
    go_simp
    try with_reducible rfl
  try simp only [Act.put, List.setIfInBounds_toArray, List.set_cons_zero, List.set_cons_succ]
  refine wpAnyH_ready (rs := [6, 10]) (by kernel_rfl) (by simp) (readyH rfl (fun K hK => ?_) (readyH rfl (fun K hK => ?_) AllReadyH.nil))
  · rw [if_pos (by rfl)]
    go_simp
    refine (HGET.out w4.drew (HB4.out.drew)).mono ?_
    rintro e w5 ⟨v, rfl, hlay, hb'⟩
    have hb : Below w4.heap.size w4 w5 := ⟨hb'.os, hb'.tape, hb'.output, hb'.size, hb'.block⟩
    obtain ⟨a1, c1, a2, c2, rfl, hsA, hsB, hgA, hgB⟩ := hlay
    have HSA5 := Lib.hid hsA
    have HSB5 := Lib.hid hsB
    have HGA : Hid (∀ q o, a1 = some ⟨q, o, none⟩ → w4.heap.size ≤ q ∧ q < w5.heap.size) := hgA
    have HGB : Hid (∀ q o, a2 = some ⟨q, o, none⟩ → w4.heap.size ≤ q ∧ q < w5.heap.size) := hgB
    have HB5 : Hid (Below w.heap.size w w5) := HB4.out.trans (hb.mono HB4.out.size)
    have HR5 := Lib.hid ((hb.block rb (Array.getElem?_eq_some_iff.1 HR4.out).1).trans HR4.out)
    have HX5 := Lib.hid ((hb.block xb (Array.getElem?_eq_some_iff.1 HX4.out).1).trans HX4.out)
    have HZ5 : Hid (w4.heap.size ≤ w5.heap.size) := hb.size
    have m1_5 := (World.cell?_of_block (a := ⟨m, 1, none⟩) (hb.block m (World.block_lt_of_cell? w4 _ m1_4))).trans m1_4
    have h0_5 := (World.cell?_of_block (a := ⟨xb, 0, none⟩) (hb.block xb (World.block_lt_of_cell? w4 _ h0_4))).trans h0_4
    clear hsA hsB hgA hgB hb hb'
    refine hK.out _ _ ⟨m1_5, h0_5⟩ (fun hH => ?_)
    clear hK K
    try simp only [Act.put, List.setIfInBounds_toArray, List.set_cons_zero, List.set_cons_succ]
    refine takeH 7 (v := ?_) rfl (by kernel_rfl) (by kernel_rfl) (by kernel_rfl) (fun _ _ _ h => h) (by rfl) ?_ (by assumption) ?_
    rotate_left
    · intro W hW
      go_simp
      try with_reducible rfl
    try simp only [Act.put, List.setIfInBounds_toArray, List.set_cons_zero, List.set_cons_succ]
    refine takeH 8 (v := ?_) rfl (by kernel_rfl) (by kernel_rfl) (by kernel_rfl) (fun _ _ _ h => h) (by rfl) ?_ (by assumption) ?_
    rotate_left
    · intro W hW
      go_simp
      try with_reducible rfl
    try simp only [Act.put, List.setIfInBounds_toArray, List.set_cons_zero, List.set_cons_succ]
    refine takeH 9 (v := ?_) rfl (by kernel_rfl) (by kernel_rfl) (by kernel_rfl) (fun _ _ _ h => h) (by rfl) ?_ (by assumption) ?_
    rotate_left
    · intro W hW
      go_simp
      try with_reducible rfl
    try simp only [Act.put, List.setIfInBounds_toArray, List.set_cons_zero, List.set_cons_succ]
    refine wpAnyH_ready (rs := [10]) (by kernel_rfl) (by simp) (readyH rfl (fun K hK => ?_) AllReadyH.nil)
    rw [if_pos (by rfl)]
    go_simp
    have hb : Below w5.heap.size w5 (w5.alloc (.cells #[.int .i64 0, .slice none 0 0, .int .i64 0, .slice none 0 0] 60)) := ((Below.refl _ w5).alloc (Nat.le_refl _) _)
    obtain ⟨lb, hlb⟩ : ∃ lb, lb = w5.heap.size := ⟨_, rfl⟩
    have HLE : Hid (lb = w5.heap.size) := hlb
    have HL6 : Hid ((w5.alloc (.cells #[.int .i64 0, .slice none 0 0, .int .i64 0, .slice none 0 0] 60)).heap[lb]? = some (.cells #[.int .i64 0, .slice none 0 0, .int .i64 0, .slice none 0 0] 60 (0, 0))) := by rw [hlb]; exact heap_alloc_new w5 _
    rw [← hlb]
    generalize (w5.alloc (.cells #[.int .i64 0, .slice none 0 0, .int .i64 0, .slice none 0 0] 60)) = w6 at *
    clear hlb
    have HLT : Hid (lb < w6.heap.size) := (Array.getElem?_eq_some_iff.1 HL6.out).1
    have HB6 : Hid (Below w.heap.size w w6) := HB5.out.trans (hb.mono HB5.out.size)
    have HR6 := Lib.hid ((hb.block rb (Array.getElem?_eq_some_iff.1 HR5.out).1).trans HR5.out)
    have HX6 := Lib.hid ((hb.block xb (Array.getElem?_eq_some_iff.1 HX5.out).1).trans HX5.out)
    have HZ6 : Hid (w5.heap.size ≤ w6.heap.size) := hb.size
    have m1_6 := (World.cell?_of_block (a := ⟨m, 1, none⟩) (hb.block m (World.block_lt_of_cell? w5 _ m1_5))).trans m1_5
    have h0_6 := (World.cell?_of_block (a := ⟨xb, 0, none⟩) (hb.block xb (World.block_lt_of_cell? w5 _ h0_5))).trans h0_5
    have HSA6 : Hid (SeqAt w6 a1 (ns L.refs)) := HSA5.out.below hb (Nat.le_refl _)
    have HSB6 : Hid (SeqAt w6 a2 (ns L.recs)) := HSB5.out.below hb (Nat.le_refl _)
    clear hb
    refine hK.out _ _ ⟨m1_6, h0_6⟩ (fun hH => ?_)
    clear hK K
    try simp only [Act.put, List.setIfInBounds_toArray, List.set_cons_zero, List.set_cons_succ]
    have l0 := cells_of_block HL6.out 0
    have l1 := cells_of_block HL6.out 1
    have l2 := cells_of_block HL6.out 2
    have l3 := cells_of_block HL6.out 3
    simp at l0 l1 l2 l3
    obtain ⟨l0, k0⟩ := l0
    obtain ⟨l1, k1⟩ := l1
    obtain ⟨l2, k2⟩ := l2
    obtain ⟨l3, k3⟩ := l3
    have hq : rb < w4.heap.size ∧ xb < w4.heap.size ∧ m < w4.heap.size ∧ w4.heap.size ≤ lb ∧ (∀ q o, a1 = some ⟨q, o, none⟩ → w4.heap.size ≤ q ∧ q ≠ lb ∧ q < w6.heap.size) ∧ (∀ q o, a2 = some ⟨q, o, none⟩ → w4.heap.size ≤ q ∧ q ≠ lb ∧ q < w6.heap.size) := by
      have e1 := HLE.out
      have e2 := HLT.out
      have e5 := HZ5.out
      have e6 := HZ6.out
      refine ⟨(Array.getElem?_eq_some_iff.1 HR4.out).1, World.block_lt_of_cell? w4 _ h0_4, World.block_lt_of_cell? w4 _ m1_4, by omega, fun q o e => ?_, fun q o e => ?_⟩
      · have := HGA.out q o e; omega
      · have := HGB.out q o e; omega
    have HQ := Lib.hid hq
    have HLB : Hid (((((w6.setCell ⟨lb, 0, none⟩ (.int .i64 L.fixed)).setCell ⟨lb, 1, none⟩ (.slice a1 L.refs.length c1)).setCell ⟨lb, 2, none⟩ (.int .i64 L.record)).setCell ⟨lb, 3, none⟩ (.slice a2 L.recs.length c2)).heap[lb]? = some (.cells #[.int .i64 L.fixed, .slice a1 L.refs.length c1, .int .i64 L.record, .slice a2 L.recs.length c2] 60 (0, 0))) := by
      show _ = _
      simpa using block_setCell (block_setCell (block_setCell (block_setCell HL6.out 0 (.int .i64 L.fixed)) 1 (.slice a1 L.refs.length c1)) 2 (.int .i64 L.record)) 3 (.slice a2 L.recs.length c2)
    have hkc : ∀ k, k ≠ lb → ((((w6.setCell ⟨lb, 0, none⟩ (.int .i64 L.fixed)).setCell ⟨lb, 1, none⟩ (.slice a1 L.refs.length c1)).setCell ⟨lb, 2, none⟩ (.int .i64 L.record)).setCell ⟨lb, 3, none⟩ (.slice a2 L.recs.length c2)).heap[k]? = w6.heap[k]? := fun k hk => by rw [Below.heap_setCell _ _ _ _ hk, Below.heap_setCell _ _ _ _ hk, Below.heap_setCell _ _ _ _ hk, Below.heap_setCell _ _ _ _ hk]
    have HB8 : Hid (Below w.heap.size w ((((w6.setCell ⟨lb, 0, none⟩ (.int .i64 L.fixed)).setCell ⟨lb, 1, none⟩ (.slice a1 L.refs.length c1)).setCell ⟨lb, 2, none⟩ (.int .i64 L.record)).setCell ⟨lb, 3, none⟩ (.slice a2 L.recs.length c2))) := by
      have e : w.heap.size ≤ lb := by have := HB4.out.size; have := hq.2.2.2.1; omega
      exact (((HB6.out.setCell e _).setCell e _).setCell e _).setCell e _
    have HZ8 : Hid (((((w6.setCell ⟨lb, 0, none⟩ (.int .i64 L.fixed)).setCell ⟨lb, 1, none⟩ (.slice a1 L.refs.length c1)).setCell ⟨lb, 2, none⟩ (.int .i64 L.record)).setCell ⟨lb, 3, none⟩ (.slice a2 L.recs.length c2)).heap.size = w6.heap.size) := by show _ = _; simp [World.setCell]
    refine wpAnyH_ready (rs := [11]) (by kernel_rfl) (by simp) (readyH rfl (fun K hK => ?_) AllReadyH.nil)
    rw [if_pos (by rfl)]
    go_simp
    clear l0 l1 l2 l3 k0 k1 k2 k3 hH
    generalize (((w6.setCell ⟨lb, 0, none⟩ (.int .i64 L.fixed)).setCell ⟨lb, 1, none⟩ (.slice a1 L.refs.length c1)).setCell ⟨lb, 2, none⟩ (.int .i64 L.record)).setCell ⟨lb, 3, none⟩ (.slice a2 L.recs.length c2) = w8 at *
    have HR8 := Lib.hid ((hkc rb (by omega)).trans HR6.out)
    have HX8 := Lib.hid ((hkc xb (by omega)).trans HX6.out)
    have HA8 : Hid (SeqAt w8 a1 (ns L.refs)) := HSA6.out.off lb (fun q o e => (hq.2.2.2.2.1 q o e).2.1) _ hkc
    have HC8 : Hid (SeqAt w8 a2 (ns L.recs)) := HSB6.out.off lb (fun q o e => (hq.2.2.2.2.2 q o e).2.1) _ hkc
    have m1_8 := (World.cell?_of_block (a := ⟨m, 1, none⟩) (hkc m (by omega))).trans m1_6
    have h0_8 := (World.cell?_of_block (a := ⟨xb, 0, none⟩) (hkc xb (by omega))).trans h0_6
    clear hkc hq
    refine hK.out _ _ ⟨m1_8, h0_8⟩ (fun hH => ?_)
    clear hK K
    try simp only [Act.put, List.setIfInBounds_toArray, List.set_cons_zero, List.set_cons_succ]
    refine takeH 12 (v := ?_) rfl (by kernel_rfl) (by kernel_rfl) (by kernel_rfl) (fun _ _ _ h => h) (by rfl) ?_ (by assumption) ?_
    rotate_left
    · intro W hW
      go_simp
      try with_reducible rfl
    try simp only [Act.put, List.setIfInBounds_toArray, List.set_cons_zero, List.set_cons_succ]
    refine wpAnyH_done (by kernel_rfl) ?_ _
    have HLA : Hid (LayAt w8 (.agg #[.int .i64 L.fixed, .slice a1 L.refs.length c1, .int .i64 L.record, .slice a2 L.recs.length c2]) L) := ⟨a1, c1, a2, c2, rfl, HA8.out, HC8.out⟩
    have y0 := (cells_of_block HX8.out 1).1
    have y3 := (cells_of_block HLB.out 0).1
    have y4 := (cells_of_block HLB.out 1).1
    have y5 := (cells_of_block HLB.out 2).1
    have y6 := (cells_of_block HLB.out 3).1
    simp at y0 y3 y4 y5 y6
    go_wp2_with fail
    refine (HSZ.out _ w8 HLA.out).mono ?_
    rintro e w9 ⟨rfl, hb9⟩
    have HB9 : Hid (Below w.heap.size w w9) := HB8.out.trans (hb9.mono HB8.out.size)
    have HZ9 : Hid (w8.heap.size ≤ w9.heap.size) := hb9.size
    have HL9 := Lib.hid ((hb9.block lb (Array.getElem?_eq_some_iff.1 HLB.out).1).trans HLB.out)
    have HR9 := Lib.hid ((hb9.block rb (Array.getElem?_eq_some_iff.1 HR8.out).1).trans HR8.out)
    have HA9 : Hid (SeqAt w9 a1 (ns L.refs)) := HA8.out.below hb9 (Nat.le_refl _)
    have HC9 : Hid (SeqAt w9 a2 (ns L.recs)) := HC8.out.below hb9 (Nat.le_refl _)
    have z3 := (cells_of_block HL9.out 0).1
    have z4 := (cells_of_block HL9.out 1).1
    have z5 := (cells_of_block HL9.out 2).1
    have z6 := (cells_of_block HL9.out 3).1
    simp at z3 z4 z5 z6
    have r0 := cells_of_block HR9.out 0
    have r1 := cells_of_block HR9.out 1
    have r2 := cells_of_block HR9.out 2
    have r3 := cells_of_block HR9.out 3
    simp at r0 r1 r2 r3
    obtain ⟨r0, q0⟩ := r0
    obtain ⟨r1, q1⟩ := r1
    obtain ⟨r2, q2⟩ := r2
    obtain ⟨r3, q3⟩ := r3
    clear hb9 y0 y3 y4 y5 y6
    go_wp2_with fail
    try simp only [Exit.inBlock, Exit.then]
    have hbk : ((((w9.setCell ⟨rb, 0, none⟩ (.int .i64 L.fixed)).setCell ⟨rb, 1, none⟩ (.slice a1 L.refs.length c1)).setCell ⟨rb, 2, none⟩ (.int .i64 L.record)).setCell ⟨rb, 3, none⟩ (.slice a2 L.recs.length c2)).heap[rb]? = some (.cells #[.int .i64 L.fixed, .slice a1 L.refs.length c1, .int .i64 L.record, .slice a2 L.recs.length c2] 60 (0, 0)) := by
      simpa using block_setCell (block_setCell (block_setCell (block_setCell HR9.out 0 (.int .i64 L.fixed)) 1 (.slice a1 L.refs.length c1)) 2 (.int .i64 L.record)) 3 (.slice a2 L.recs.length c2)
    have hkr : ∀ k, k ≠ rb → ((((w9.setCell ⟨rb, 0, none⟩ (.int .i64 L.fixed)).setCell ⟨rb, 1, none⟩ (.slice a1 L.refs.length c1)).setCell ⟨rb, 2, none⟩ (.int .i64 L.record)).setCell ⟨rb, 3, none⟩ (.slice a2 L.recs.length c2)).heap[k]? = w9.heap[k]? := fun k hk => by rw [Below.heap_setCell _ _ _ _ hk, Below.heap_setCell _ _ _ _ hk, Below.heap_setCell _ _ _ _ hk, Below.heap_setCell _ _ _ _ hk]
    have e : w.heap.size ≤ rb := HRE.out
    have hlay : LayF ((((w9.setCell ⟨rb, 0, none⟩ (.int .i64 L.fixed)).setCell ⟨rb, 1, none⟩ (.slice a1 L.refs.length c1)).setCell ⟨rb, 2, none⟩ (.int .i64 L.record)).setCell ⟨rb, 3, none⟩ (.slice a2 L.recs.length c2)) (.agg #[.int .i64 L.fixed, .slice a1 L.refs.length c1, .int .i64 L.record, .slice a2 L.recs.length c2]) L (fun k => w.heap.size ≤ k ∧ k < ((((w9.setCell ⟨rb, 0, none⟩ (.int .i64 L.fixed)).setCell ⟨rb, 1, none⟩ (.slice a1 L.refs.length c1)).setCell ⟨rb, 2, none⟩ (.int .i64 L.record)).setCell ⟨rb, 3, none⟩ (.slice a2 L.recs.length c2)).heap.size) := by
      have h1 := HQ.out.1
      have h2 := HB4.out.size
      have h3 := HZ8.out
      have h4 := HZ9.out
      have h5 : ((((w9.setCell ⟨rb, 0, none⟩ (.int .i64 L.fixed)).setCell ⟨rb, 1, none⟩ (.slice a1 L.refs.length c1)).setCell ⟨rb, 2, none⟩ (.int .i64 L.record)).setCell ⟨rb, 3, none⟩ (.slice a2 L.recs.length c2)).heap.size = w9.heap.size := by simp [World.setCell]
      refine ⟨a1, c1, a2, c2, rfl, HA9.out.off rb (fun q o e => by have := (HQ.out.2.2.2.2.1 q o e).1; omega) _ hkr, HC9.out.off rb (fun q o e => by have := (HQ.out.2.2.2.2.2 q o e).1; omega) _ hkr, fun q o e => ?_, fun q o e => ?_⟩
      · have h6 := HQ.out.2.2.2.2.1 q o e
        rw [h5]; omega
      · have h6 := HQ.out.2.2.2.2.2 q o e
        rw [h5]; omega
    exact bodyPost_ret (results_blk3 rfl _ _ rb _ _ _ _ rfl hbk Tryz.underlying60 rfl rfl) rfl ⟨_, rfl, hlay, (((HB9.out.setCell e _).setCell e _).setCell e _).setCell e _⟩
  · rw [if_pos (by rfl)]
    go_simp
    have hb : Below w4.heap.size w4 (w4.alloc (.cells #[.int .i64 0, .slice none 0 0, .int .i64 0, .slice none 0 0] 60)).drew := ((Below.refl _ w4).alloc (Nat.le_refl _) _).drew
    obtain ⟨lb, hlb⟩ : ∃ lb, lb = w4.heap.size := ⟨_, rfl⟩
    have HLE : Hid (lb = w4.heap.size) := hlb
    have HL5 : Hid ((w4.alloc (.cells #[.int .i64 0, .slice none 0 0, .int .i64 0, .slice none 0 0] 60)).drew.heap[lb]? = some (.cells #[.int .i64 0, .slice none 0 0, .int .i64 0, .slice none 0 0] 60 (0, 0))) := by rw [hlb]; exact heap_alloc_new w4 _
    rw [← hlb]
    generalize (w4.alloc (.cells #[.int .i64 0, .slice none 0 0, .int .i64 0, .slice none 0 0] 60)).drew = w5 at *
    clear hlb
    have HLT : Hid (lb < w5.heap.size) := (Array.getElem?_eq_some_iff.1 HL5.out).1
    have HB5 : Hid (Below w.heap.size w w5) := HB4.out.trans (hb.mono HB4.out.size)
    have HR5 := Lib.hid ((hb.block rb (Array.getElem?_eq_some_iff.1 HR4.out).1).trans HR4.out)
    have HX5 := Lib.hid ((hb.block xb (Array.getElem?_eq_some_iff.1 HX4.out).1).trans HX4.out)
    have HZ5 : Hid (w4.heap.size ≤ w5.heap.size) := hb.size
    have m1_5 := (World.cell?_of_block (a := ⟨m, 1, none⟩) (hb.block m (World.block_lt_of_cell? w4 _ m1_4))).trans m1_4
    have h0_5 := (World.cell?_of_block (a := ⟨xb, 0, none⟩) (hb.block xb (World.block_lt_of_cell? w4 _ h0_4))).trans h0_4
    clear hb
    refine hK.out _ _ ⟨m1_5, h0_5⟩ (fun hH => ?_)
    clear hK K
    try simp only [Act.put, List.setIfInBounds_toArray, List.set_cons_zero, List.set_cons_succ]
    refine wpAnyH_ready (rs := [6]) (by kernel_rfl) (by simp) (readyH rfl (fun K hK => ?_) AllReadyH.nil)
    rw [if_pos (by rfl)]
    go_simp
    refine (HGET.out w5 (HB5.out)).mono ?_
    rintro e w6 ⟨v, rfl, hlay, hb'⟩
    have hb : Below w5.heap.size w5 w6 := ⟨hb'.os, hb'.tape, hb'.output, hb'.size, hb'.block⟩
    obtain ⟨a1, c1, a2, c2, rfl, hsA, hsB, hgA, hgB⟩ := hlay
    have HSA6 := Lib.hid hsA
    have HSB6 := Lib.hid hsB
    have HGA : Hid (∀ q o, a1 = some ⟨q, o, none⟩ → w5.heap.size ≤ q ∧ q < w6.heap.size) := hgA
    have HGB : Hid (∀ q o, a2 = some ⟨q, o, none⟩ → w5.heap.size ≤ q ∧ q < w6.heap.size) := hgB
    have HB6 : Hid (Below w.heap.size w w6) := HB5.out.trans (hb.mono HB5.out.size)
    have HR6 := Lib.hid ((hb.block rb (Array.getElem?_eq_some_iff.1 HR5.out).1).trans HR5.out)
    have HX6 := Lib.hid ((hb.block xb (Array.getElem?_eq_some_iff.1 HX5.out).1).trans HX5.out)
    have HZ6 : Hid (w5.heap.size ≤ w6.heap.size) := hb.size
    have m1_6 := (World.cell?_of_block (a := ⟨m, 1, none⟩) (hb.block m (World.block_lt_of_cell? w5 _ m1_5))).trans m1_5
    have h0_6 := (World.cell?_of_block (a := ⟨xb, 0, none⟩) (hb.block xb (World.block_lt_of_cell? w5 _ h0_5))).trans h0_5
    have HL6 := Lib.hid ((hb.block lb (Array.getElem?_eq_some_iff.1 HL5.out).1).trans HL5.out)
    clear hsA hsB hgA hgB hb hb'
    refine hK.out _ _ ⟨m1_6, h0_6⟩ (fun hH => ?_)
    clear hK K
    try simp only [Act.put, List.setIfInBounds_toArray, List.set_cons_zero, List.set_cons_succ]
    refine takeH 7 (v := ?_) rfl (by kernel_rfl) (by kernel_rfl) (by kernel_rfl) (fun _ _ _ h => h) (by rfl) ?_ (by assumption) ?_
    rotate_left
    · intro W hW
      go_simp
      try with_reducible rfl
    try simp only [Act.put, List.setIfInBounds_toArray, List.set_cons_zero, List.set_cons_succ]
    refine takeH 8 (v := ?_) rfl (by kernel_rfl) (by kernel_rfl) (by kernel_rfl) (fun _ _ _ h => h) (by rfl) ?_ (by assumption) ?_
    rotate_left
    · intro W hW
      go_simp
      try with_reducible rfl
    try simp only [Act.put, List.setIfInBounds_toArray, List.set_cons_zero, List.set_cons_succ]
    refine takeH 9 (v := ?_) rfl (by kernel_rfl) (by kernel_rfl) (by kernel_rfl) (fun _ _ _ h => h) (by rfl) ?_ (by assumption) ?_
    rotate_left
    · intro W hW
      go_simp
      try with_reducible rfl
    try simp only [Act.put, List.setIfInBounds_toArray, List.set_cons_zero, List.set_cons_succ]
    have l0 := cells_of_block HL6.out 0
    have l1 := cells_of_block HL6.out 1
    have l2 := cells_of_block HL6.out 2
    have l3 := cells_of_block HL6.out 3
    simp at l0 l1 l2 l3
    obtain ⟨l0, k0⟩ := l0
    obtain ⟨l1, k1⟩ := l1
    obtain ⟨l2, k2⟩ := l2
    obtain ⟨l3, k3⟩ := l3
    have hq : rb < w4.heap.size ∧ xb < w4.heap.size ∧ m < w4.heap.size ∧ w4.heap.size ≤ lb ∧ (∀ q o, a1 = some ⟨q, o, none⟩ → w4.heap.size ≤ q ∧ q ≠ lb ∧ q < w6.heap.size) ∧ (∀ q o, a2 = some ⟨q, o, none⟩ → w4.heap.size ≤ q ∧ q ≠ lb ∧ q < w6.heap.size) := by
      have e1 := HLE.out
      have e2 := HLT.out
      have e5 := HZ5.out
      have e6 := HZ6.out
      refine ⟨(Array.getElem?_eq_some_iff.1 HR4.out).1, World.block_lt_of_cell? w4 _ h0_4, World.block_lt_of_cell? w4 _ m1_4, by omega, fun q o e => ?_, fun q o e => ?_⟩
      · have := HGA.out q o e; omega
      · have := HGB.out q o e; omega
    have HQ := Lib.hid hq
    have HLB : Hid (((((w6.setCell ⟨lb, 0, none⟩ (.int .i64 L.fixed)).setCell ⟨lb, 1, none⟩ (.slice a1 L.refs.length c1)).setCell ⟨lb, 2, none⟩ (.int .i64 L.record)).setCell ⟨lb, 3, none⟩ (.slice a2 L.recs.length c2)).heap[lb]? = some (.cells #[.int .i64 L.fixed, .slice a1 L.refs.length c1, .int .i64 L.record, .slice a2 L.recs.length c2] 60 (0, 0))) := by
      show _ = _
      simpa using block_setCell (block_setCell (block_setCell (block_setCell HL6.out 0 (.int .i64 L.fixed)) 1 (.slice a1 L.refs.length c1)) 2 (.int .i64 L.record)) 3 (.slice a2 L.recs.length c2)
    have hkc : ∀ k, k ≠ lb → ((((w6.setCell ⟨lb, 0, none⟩ (.int .i64 L.fixed)).setCell ⟨lb, 1, none⟩ (.slice a1 L.refs.length c1)).setCell ⟨lb, 2, none⟩ (.int .i64 L.record)).setCell ⟨lb, 3, none⟩ (.slice a2 L.recs.length c2)).heap[k]? = w6.heap[k]? := fun k hk => by rw [Below.heap_setCell _ _ _ _ hk, Below.heap_setCell _ _ _ _ hk, Below.heap_setCell _ _ _ _ hk, Below.heap_setCell _ _ _ _ hk]
    have HB8 : Hid (Below w.heap.size w ((((w6.setCell ⟨lb, 0, none⟩ (.int .i64 L.fixed)).setCell ⟨lb, 1, none⟩ (.slice a1 L.refs.length c1)).setCell ⟨lb, 2, none⟩ (.int .i64 L.record)).setCell ⟨lb, 3, none⟩ (.slice a2 L.recs.length c2))) := by
      have e : w.heap.size ≤ lb := by have := HB4.out.size; have := hq.2.2.2.1; omega
      exact (((HB6.out.setCell e _).setCell e _).setCell e _).setCell e _
    have HZ8 : Hid (((((w6.setCell ⟨lb, 0, none⟩ (.int .i64 L.fixed)).setCell ⟨lb, 1, none⟩ (.slice a1 L.refs.length c1)).setCell ⟨lb, 2, none⟩ (.int .i64 L.record)).setCell ⟨lb, 3, none⟩ (.slice a2 L.recs.length c2)).heap.size = w6.heap.size) := by show _ = _; simp [World.setCell]
    refine wpAnyH_ready (rs := [11]) (by kernel_rfl) (by simp) (readyH rfl (fun K hK => ?_) AllReadyH.nil)
    rw [if_pos (by rfl)]
    go_simp
    clear l0 l1 l2 l3 k0 k1 k2 k3 hH
    generalize (((w6.setCell ⟨lb, 0, none⟩ (.int .i64 L.fixed)).setCell ⟨lb, 1, none⟩ (.slice a1 L.refs.length c1)).setCell ⟨lb, 2, none⟩ (.int .i64 L.record)).setCell ⟨lb, 3, none⟩ (.slice a2 L.recs.length c2) = w8 at *
    have HR8 := Lib.hid ((hkc rb (by omega)).trans HR6.out)
    have HX8 := Lib.hid ((hkc xb (by omega)).trans HX6.out)
    have HA8 : Hid (SeqAt w8 a1 (ns L.refs)) := HSA6.out.off lb (fun q o e => (hq.2.2.2.2.1 q o e).2.1) _ hkc
    have HC8 : Hid (SeqAt w8 a2 (ns L.recs)) := HSB6.out.off lb (fun q o e => (hq.2.2.2.2.2 q o e).2.1) _ hkc
    have m1_8 := (World.cell?_of_block (a := ⟨m, 1, none⟩) (hkc m (by omega))).trans m1_6
    have h0_8 := (World.cell?_of_block (a := ⟨xb, 0, none⟩) (hkc xb (by omega))).trans h0_6
    clear hkc hq
    refine hK.out _ _ ⟨m1_8, h0_8⟩ (fun hH => ?_)
    clear hK K
    try simp only [Act.put, List.setIfInBounds_toArray, List.set_cons_zero, List.set_cons_succ]
    refine takeH 12 (v := ?_) rfl (by kernel_rfl) (by kernel_rfl) (by kernel_rfl) (fun _ _ _ h => h) (by rfl) ?_ (by assumption) ?_
    rotate_left
    · intro W hW
      go_simp
      try with_reducible rfl
    try simp only [Act.put, List.setIfInBounds_toArray, List.set_cons_zero, List.set_cons_succ]
    refine wpAnyH_done (by kernel_rfl) ?_ _
    have HLA : Hid (LayAt w8 (.agg #[.int .i64 L.fixed, .slice a1 L.refs.length c1, .int .i64 L.record, .slice a2 L.recs.length c2]) L) := ⟨a1, c1, a2, c2, rfl, HA8.out, HC8.out⟩
    have y0 := (cells_of_block HX8.out 1).1
    have y3 := (cells_of_block HLB.out 0).1
    have y4 := (cells_of_block HLB.out 1).1
    have y5 := (cells_of_block HLB.out 2).1
    have y6 := (cells_of_block HLB.out 3).1
    simp at y0 y3 y4 y5 y6
    go_wp2_with fail
    refine (HSZ.out _ w8 HLA.out).mono ?_
    rintro e w9 ⟨rfl, hb9⟩
    have HB9 : Hid (Below w.heap.size w w9) := HB8.out.trans (hb9.mono HB8.out.size)
    have HZ9 : Hid (w8.heap.size ≤ w9.heap.size) := hb9.size
    have HL9 := Lib.hid ((hb9.block lb (Array.getElem?_eq_some_iff.1 HLB.out).1).trans HLB.out)
    have HR9 := Lib.hid ((hb9.block rb (Array.getElem?_eq_some_iff.1 HR8.out).1).trans HR8.out)
    have HA9 : Hid (SeqAt w9 a1 (ns L.refs)) := HA8.out.below hb9 (Nat.le_refl _)
    have HC9 : Hid (SeqAt w9 a2 (ns L.recs)) := HC8.out.below hb9 (Nat.le_refl _)
    have z3 := (cells_of_block HL9.out 0).1
    have z4 := (cells_of_block HL9.out 1).1
    have z5 := (cells_of_block HL9.out 2).1
    have z6 := (cells_of_block HL9.out 3).1
    simp at z3 z4 z5 z6
    have r0 := cells_of_block HR9.out 0
    have r1 := cells_of_block HR9.out 1
    have r2 := cells_of_block HR9.out 2
    have r3 := cells_of_block HR9.out 3
    simp at r0 r1 r2 r3
    obtain ⟨r0, q0⟩ := r0
    obtain ⟨r1, q1⟩ := r1
    obtain ⟨r2, q2⟩ := r2
    obtain ⟨r3, q3⟩ := r3
    clear hb9 y0 y3 y4 y5 y6
    go_wp2_with fail
    try simp only [Exit.inBlock, Exit.then]
    have hbk : ((((w9.setCell ⟨rb, 0, none⟩ (.int .i64 L.fixed)).setCell ⟨rb, 1, none⟩ (.slice a1 L.refs.length c1)).setCell ⟨rb, 2, none⟩ (.int .i64 L.record)).setCell ⟨rb, 3, none⟩ (.slice a2 L.recs.length c2)).heap[rb]? = some (.cells #[.int .i64 L.fixed, .slice a1 L.refs.length c1, .int .i64 L.record, .slice a2 L.recs.length c2] 60 (0, 0)) := by
      simpa using block_setCell (block_setCell (block_setCell (block_setCell HR9.out 0 (.int .i64 L.fixed)) 1 (.slice a1 L.refs.length c1)) 2 (.int .i64 L.record)) 3 (.slice a2 L.recs.length c2)
    have hkr : ∀ k, k ≠ rb → ((((w9.setCell ⟨rb, 0, none⟩ (.int .i64 L.fixed)).setCell ⟨rb, 1, none⟩ (.slice a1 L.refs.length c1)).setCell ⟨rb, 2, none⟩ (.int .i64 L.record)).setCell ⟨rb, 3, none⟩ (.slice a2 L.recs.length c2)).heap[k]? = w9.heap[k]? := fun k hk => by rw [Below.heap_setCell _ _ _ _ hk, Below.heap_setCell _ _ _ _ hk, Below.heap_setCell _ _ _ _ hk, Below.heap_setCell _ _ _ _ hk]
    have e : w.heap.size ≤ rb := HRE.out
    have hlay : LayF ((((w9.setCell ⟨rb, 0, none⟩ (.int .i64 L.fixed)).setCell ⟨rb, 1, none⟩ (.slice a1 L.refs.length c1)).setCell ⟨rb, 2, none⟩ (.int .i64 L.record)).setCell ⟨rb, 3, none⟩ (.slice a2 L.recs.length c2)) (.agg #[.int .i64 L.fixed, .slice a1 L.refs.length c1, .int .i64 L.record, .slice a2 L.recs.length c2]) L (fun k => w.heap.size ≤ k ∧ k < ((((w9.setCell ⟨rb, 0, none⟩ (.int .i64 L.fixed)).setCell ⟨rb, 1, none⟩ (.slice a1 L.refs.length c1)).setCell ⟨rb, 2, none⟩ (.int .i64 L.record)).setCell ⟨rb, 3, none⟩ (.slice a2 L.recs.length c2)).heap.size) := by
      have h1 := HQ.out.1
      have h2 := HB4.out.size
      have h3 := HZ8.out
      have h4 := HZ9.out
      have h5 : ((((w9.setCell ⟨rb, 0, none⟩ (.int .i64 L.fixed)).setCell ⟨rb, 1, none⟩ (.slice a1 L.refs.length c1)).setCell ⟨rb, 2, none⟩ (.int .i64 L.record)).setCell ⟨rb, 3, none⟩ (.slice a2 L.recs.length c2)).heap.size = w9.heap.size := by simp [World.setCell]
      refine ⟨a1, c1, a2, c2, rfl, HA9.out.off rb (fun q o e => by have := (HQ.out.2.2.2.2.1 q o e).1; omega) _ hkr, HC9.out.off rb (fun q o e => by have := (HQ.out.2.2.2.2.2 q o e).1; omega) _ hkr, fun q o e => ?_, fun q o e => ?_⟩
      · have h6 := HQ.out.2.2.2.2.1 q o e
        rw [h5]; omega
      · have h6 := HQ.out.2.2.2.2.2 q o e
        rw [h5]; omega
    exact bodyPost_ret (results_blk3 rfl _ _ rb _ _ _ _ rfl hbk Tryz.underlying60 rfl rfl) rfl ⟨_, rfl, hlay, (((HB9.out.setCell e _).setCell e _).setCell e _).setCell e _⟩
end Go.Proofs.YtcdpnfchmpncjaaGreatDoor
