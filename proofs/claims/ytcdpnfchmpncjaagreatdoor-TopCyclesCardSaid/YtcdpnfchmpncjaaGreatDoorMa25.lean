/-
  Parts of the proof, one behind the other: KImg3, KImg4, KImg5, KImg6, KImg7.
-/
import Derived.Test.YtcdpnfchmpncjaaGreatDoorMa24
set_option linter.unusedSimpArgs false
set_option linter.unusedVariables false
namespace Go.Proofs.YtcdpnfchmpncjaaGreatDoor
open Go.RowKit Go.Tr Go.Shelf
variable {w w' : World} {F G H : Nat → Prop} {m s b C Wd : Nat} {L : Lay} {ws own : List Nat}
structure ImgEnv (w : World) (G H : Nat → Prop) (m s b C Wd : Nat) (L : Lay) (ws own : List Nat) : Prop where
  im : ImAt w m s b
  st : StF w G s C Wd ws own
  bk : Bk1 w H b L
  right : RightLay L
theorem ImgEnv.below (h : ImgEnv w G H m s b C Wd L ws own) (hb : Below w.heap.size w w') : ImgEnv w' G H m s b C Wd L ws own :=
  ⟨(hb.block m (Array.getElem?_eq_some_iff.1 h.im).1).trans h.im, h.st.kept (fun k _ hl => hb.block k hl), h.bk.kept (fun k _ hl => hb.block k hl), h.right⟩
structure ObjAt (C Wd : Nat) (L : Lay) (ws own : List Nat) (addr count slot : Nat) : Prop where
  lt : addr < C * Wd
  own : own.getD (addr / Wd) 0 ≠ 0
  word : ws.getD addr 0 = hdrN slot count 1
  cnt : count ≤ 1024
  slt : slot < 4096
  fit : count = 0 ∨ L.record ≠ 0
  size : L.size count < 8192
set_option maxRecDepth 100000 in
set_option maxHeartbeats 1000000 in
theorem ifindF_any (addr count slot : Nat) (w : World) (h : ImgEnv w G H m s b C Wd L ws own) (ho : ObjAt C Wd L ws own addr count slot) : Calls Tryz.prog 116 #[.pointer (some ⟨m, 0, none⟩), .int .i64 addr] w fun e w' => ∃ v, e = .returned (.tuple #[.agg #[.int .i64 1, .int .i64 count, .int .i64 slot], v, .int .i64 (L.size count : Nat), .int .i64 0]) ∧ LayF w' v L (fun k => w.heap.size ≤ k ∧ k < w'.heap.size) ∧ Below w.heap.size w w' := by
  have HENV := Lib.hid h
  have HRD : Hid (∀ W : World, Below w.heap.size w W → Calls Tryz.prog 143 #[.pointer (some ⟨s, 0, none⟩), .int .i64 addr] W fun e w' => e = .returned (.tuple #[.int .u64 (hdrN slot count 1 : Nat), .int .i64 0]) ∧ W = w') := fun W hb => by
    have := sread_any addr W (h.below hb).st ho.lt ho.own
    rw [ho.word] at this
    exact this
  have HDEC := Lib.hid (hdecode_any 1 count slot · (by omega) (by omega) ho.cnt ho.slt)
  have HSZ : Hid (∀ W : World, Below w.heap.size w W → Calls Tryz.prog 134 #[.pointer (some ⟨m, 0, none⟩), .agg #[.int .i64 1, .int .i64 count, .int .i64 slot]] W fun e w' => ∃ v, e = .returned (.tuple #[v, .int .i64 (L.size count : Nat), .int .i64 0]) ∧ LayF w' v L (fun k => W.heap.size ≤ k ∧ k < w'.heap.size) ∧ Below W.heap.size W w') := fun W hb => isize_any count slot W (h.below hb).im (h.below hb).bk h.right ho.cnt ho.fit ho.size
  obtain ⟨z, hz⟩ : ∃ z, z = L.size count := ⟨_, rfl⟩
  rw [← hz] at HSZ ⊢
  obtain ⟨WN, hWN⟩ : ∃ WN, WN = hdrN slot count 1 := ⟨_, rfl⟩
  rw [← hWN] at HRD HDEC
  have HBA : Hid (Below w.heap.size w ((w.alloc (.cells #[.int .i64 0, .int .i64 0, .int .i64 0] 128)).alloc (.cells #[.int .i64 0, .slice none 0 0, .int .i64 0, .slice none 0 0] 60))) := ((Below.refl _ w).alloc (Nat.le_refl _) _).alloc (by simp) _
  obtain ⟨rh, hrh⟩ : ∃ rh, rh = w.heap.size := ⟨_, rfl⟩
  obtain ⟨rl, hrl⟩ : ∃ rl, rl = w.heap.size + 1 := ⟨_, rfl⟩
  have HRH : Hid (((w.alloc (.cells #[.int .i64 0, .int .i64 0, .int .i64 0] 128)).alloc (.cells #[.int .i64 0, .slice none 0 0, .int .i64 0, .slice none 0 0] 60)).heap[rh]? = some (.cells #[.int .i64 0, .int .i64 0, .int .i64 0] 128 (0, 0))) := by rw [hrh]; exact (Below.heap_alloc _ _ _ (by simp)).trans (heap_alloc_new w _)
  have HRL : Hid (((w.alloc (.cells #[.int .i64 0, .int .i64 0, .int .i64 0] 128)).alloc (.cells #[.int .i64 0, .slice none 0 0, .int .i64 0, .slice none 0 0] 60)).heap[rl]? = some (.cells #[.int .i64 0, .slice none 0 0, .int .i64 0, .slice none 0 0] 60 (0, 0))) := by rw [hrl]; exact heap_alloc2_new w _ _
  have HRE : Hid (w.heap.size ≤ rh ∧ w.heap.size ≤ rl ∧ rh ≠ rl) := ⟨by omega, by omega, by omega⟩
  have hm0 := (cells_of_block (HENV.out.below HBA.out).im 0).1
  simp at hm0
  clear h ho hz hWN
  go_enter Tryz.func116, Tryz.ntmps116
  go_wp2_with fail
  rw [← hrl, ← hrh]
  clear hrh hrl
  generalize (w.alloc (.cells #[.int .i64 0, .int .i64 0, .int .i64 0] 128)).alloc (.cells #[.int .i64 0, .slice none 0 0, .int .i64 0, .slice none 0 0] 60) = wa at *
  refine (HRD.out wa HBA.out).mono ?_
  rintro e w' ⟨rfl, rfl⟩
  go_wp2_with fail
  refine (HDEC.out wa).mono ?_
  rintro e w1 ⟨rfl, hb1⟩
  have HB1 : Hid (Below w.heap.size w w1) := HBA.out.trans (hb1.mono HBA.out.size)
  have HH1 := Lib.hid ((hb1.block rh (Array.getElem?_eq_some_iff.1 HRH.out).1).trans HRH.out)
  have HL1 := Lib.hid ((hb1.block rl (Array.getElem?_eq_some_iff.1 HRL.out).1).trans HRL.out)
  clear hb1
  go_wp2_with fail
  have hb2 : Below w1.heap.size w1 (w1.alloc (.cells #[.int .i64 1, .int .i64 count, .int .i64 slot] 128)) := (Below.refl _ w1).alloc (Nat.le_refl _) _
  have HB2 : Hid (Below w.heap.size w (w1.alloc (.cells #[.int .i64 1, .int .i64 count, .int .i64 slot] 128))) := HB1.out.trans (hb2.mono HB1.out.size)
  have HH2 := Lib.hid ((hb2.block rh (Array.getElem?_eq_some_iff.1 HH1.out).1).trans HH1.out)
  have HL2 := Lib.hid ((hb2.block rl (Array.getElem?_eq_some_iff.1 HL1.out).1).trans HL1.out)
  obtain ⟨xh, hxh⟩ : ∃ xh, xh = w1.heap.size := ⟨_, rfl⟩
  have HX2 : Hid ((w1.alloc (.cells #[.int .i64 1, .int .i64 count, .int .i64 slot] 128)).heap[xh]? = some (.cells #[.int .i64 1, .int .i64 count, .int .i64 slot] 128 (0, 0))) := by rw [hxh]; exact heap_alloc_new w1 _
  have HNX : Hid (xh ≠ rh ∧ xh ≠ rl) := ⟨fun e => by have := (Array.getElem?_eq_some_iff.1 HH1.out).1; omega, fun e => by have := (Array.getElem?_eq_some_iff.1 HL1.out).1; omega⟩
  rw [← hxh]
  clear hxh hb2
  generalize w1.alloc (.cells #[.int .i64 1, .int .i64 count, .int .i64 slot] 128) = w2 at *
  refine (HSZ.out w2 HB2.out).mono ?_
  rintro e w3 ⟨v, rfl, hlay, hb3⟩
  have HB3 : Hid (Below w.heap.size w w3) := HB2.out.trans (hb3.mono HB2.out.size)
  have HH3 := Lib.hid ((hb3.block rh (Array.getElem?_eq_some_iff.1 HH2.out).1).trans HH2.out)
  have HL3 := Lib.hid ((hb3.block rl (Array.getElem?_eq_some_iff.1 HL2.out).1).trans HL2.out)
  have HX3 := Lib.hid ((hb3.block xh (Array.getElem?_eq_some_iff.1 HX2.out).1).trans HX2.out)
  obtain ⟨a1, c1, a2, c2, rfl, hsA, hsB, hgA, hgB⟩ := hlay
  obtain ⟨fx, hfx⟩ : ∃ fx, fx = L.fixed := ⟨_, rfl⟩
  obtain ⟨rx, hrx⟩ : ∃ rx, rx = L.record := ⟨_, rfl⟩
  obtain ⟨n1, hn1⟩ : ∃ n1, n1 = L.refs.length := ⟨_, rfl⟩
  obtain ⟨n2, hn2⟩ : ∃ n2, n2 = L.recs.length := ⟨_, rfl⟩
  have HFX : Hid (fx = L.fixed ∧ rx = L.record ∧ n1 = L.refs.length ∧ n2 = L.recs.length) := ⟨hfx, hrx, hn1, hn2⟩
  have hh2 : rh < w2.heap.size ∧ rl < w2.heap.size := ⟨(Array.getElem?_eq_some_iff.1 HH2.out).1, (Array.getElem?_eq_some_iff.1 HL2.out).1⟩
  have HSA := Lib.hid hsA
  have HSB := Lib.hid hsB
  have hw2 := HB2.out.size
  have HGA : Hid (∀ q o, a1 = some ⟨q, o, none⟩ → q ≠ rh ∧ q ≠ rl ∧ w.heap.size ≤ q ∧ q < w3.heap.size) := fun q o e => by have := hgA q o e; omega
  have HGB : Hid (∀ q o, a2 = some ⟨q, o, none⟩ → q ≠ rh ∧ q ≠ rl ∧ w.heap.size ≤ q ∧ q < w3.heap.size) := fun q o e => by have := hgB q o e; omega
  rw [← hfx, ← hrx, ← hn1, ← hn2]
  clear hb3 hsA hsB hgA hgB hh2 hfx hrx hn1 hn2 hw2
  go_wp2_with fail
  have hb4 : Below w3.heap.size w3 (w3.alloc (.cells #[.int .i64 fx, .slice a1 n1 c1, .int .i64 rx, .slice a2 n2 c2] 60)) := (Below.refl _ w3).alloc (Nat.le_refl _) _
  have HB4 : Hid (Below w.heap.size w (w3.alloc (.cells #[.int .i64 fx, .slice a1 n1 c1, .int .i64 rx, .slice a2 n2 c2] 60))) := HB3.out.trans (hb4.mono HB3.out.size)
  have HH4 := Lib.hid ((hb4.block rh (Array.getElem?_eq_some_iff.1 HH3.out).1).trans HH3.out)
  have HL4 := Lib.hid ((hb4.block rl (Array.getElem?_eq_some_iff.1 HL3.out).1).trans HL3.out)
  have HX4 := Lib.hid ((hb4.block xh (Array.getElem?_eq_some_iff.1 HX3.out).1).trans HX3.out)
  have HSA4 : Hid (SeqAt (w3.alloc (.cells #[.int .i64 fx, .slice a1 n1 c1, .int .i64 rx, .slice a2 n2 c2] 60)) a1 (ns L.refs)) := HSA.out.below hb4 (Nat.le_refl _)
  have HSB4 : Hid (SeqAt (w3.alloc (.cells #[.int .i64 fx, .slice a1 n1 c1, .int .i64 rx, .slice a2 n2 c2] 60)) a2 (ns L.recs)) := HSB.out.below hb4 (Nat.le_refl _)
  obtain ⟨xl, hxl⟩ : ∃ xl, xl = w3.heap.size := ⟨_, rfl⟩
  have HY4 : Hid ((w3.alloc (.cells #[.int .i64 fx, .slice a1 n1 c1, .int .i64 rx, .slice a2 n2 c2] 60)).heap[xl]? = some (.cells #[.int .i64 fx, .slice a1 n1 c1, .int .i64 rx, .slice a2 n2 c2] 60 (0, 0))) := by rw [hxl]; exact heap_alloc_new w3 _
  have HNL : Hid (xl ≠ rh ∧ xl ≠ rl) := ⟨fun e => by have := (Array.getElem?_eq_some_iff.1 HH3.out).1; omega, fun e => by have := (Array.getElem?_eq_some_iff.1 HL3.out).1; omega⟩
  have HZ4 : Hid (w3.heap.size ≤ (w3.alloc (.cells #[.int .i64 fx, .slice a1 n1 c1, .int .i64 rx, .slice a2 n2 c2] 60)).heap.size) := hb4.size
  rw [← hxl]
  clear hxl hb4
  generalize w3.alloc (.cells #[.int .i64 fx, .slice a1 n1 c1, .int .i64 rx, .slice a2 n2 c2] 60) = w4 at *
  have y0 := (cells_of_block HX4.out 0).1
  have y1 := (cells_of_block HX4.out 1).1
  have y2 := (cells_of_block HX4.out 2).1
  have v0 := (cells_of_block HY4.out 0).1
  have v1 := (cells_of_block HY4.out 1).1
  have v2 := (cells_of_block HY4.out 2).1
  have v3 := (cells_of_block HY4.out 3).1
  simp at y0 y1 y2 v0 v1 v2 v3
  have p0 := cells_of_block HH4.out 0
  have p1 := cells_of_block HH4.out 1
  have p2 := cells_of_block HH4.out 2
  simp at p0 p1 p2
  obtain ⟨p0, pf0⟩ := p0
  obtain ⟨p1, pf1⟩ := p1
  obtain ⟨p2, pf2⟩ := p2
  have q0 := cells_of_block HL4.out 0
  have q1 := cells_of_block HL4.out 1
  have q2 := cells_of_block HL4.out 2
  have q3 := cells_of_block HL4.out 3
  simp at q0 q1 q2 q3
  obtain ⟨q0, qf0⟩ := q0
  obtain ⟨q1, qf1⟩ := q1
  obtain ⟨q2, qf2⟩ := q2
  obtain ⟨q3, qf3⟩ := q3
  have hne := HRE.out.2.2
  have hne2 := hne.symm
  obtain ⟨hn1, hn2⟩ := HNX.out
  obtain ⟨hn3, hn4⟩ := HNL.out
  go_region
  rename_i Kc hKc
  refine hKc _ _ ?_
  have hh : ((w4.setCell ⟨rh, 0, none⟩ (.int .i64 1)).setCell ⟨rh, 1, none⟩ (.int .i64 count)).setCell ⟨rh, 2, none⟩ (.int .i64 slot) |>.heap[rh]? = some (.cells #[.int .i64 1, .int .i64 count, .int .i64 slot] 128 (0, 0)) := by
    simpa using block_setCell (block_setCell (block_setCell HH4.out 0 (.int .i64 1)) 1 (.int .i64 count)) 2 (.int .i64 slot)
  have hl : ((w4.setCell ⟨rh, 0, none⟩ (.int .i64 1)).setCell ⟨rh, 1, none⟩ (.int .i64 count)).setCell ⟨rh, 2, none⟩ (.int .i64 slot) |>.heap[rl]? = some (.cells #[.int .i64 0, .slice none 0 0, .int .i64 0, .slice none 0 0] 60 (0, 0)) := by
    rw [Below.heap_setCell _ _ _ _ hne2, Below.heap_setCell _ _ _ _ hne2, Below.heap_setCell _ _ _ _ hne2]; exact HL4.out
  have HHF : Hid ((((((((w4.setCell ⟨rh, 0, none⟩ (.int .i64 1)).setCell ⟨rh, 1, none⟩ (.int .i64 count)).setCell ⟨rh, 2, none⟩ (.int .i64 slot)).setCell ⟨rl, 0, none⟩ (.int .i64 fx)).setCell ⟨rl, 1, none⟩ (.slice a1 n1 c1)).setCell ⟨rl, 2, none⟩ (.int .i64 rx)).setCell ⟨rl, 3, none⟩ (.slice a2 n2 c2)).heap[rh]? = some (.cells #[.int .i64 1, .int .i64 count, .int .i64 slot] 128 (0, 0))) := by
    show _ = _
    rw [Below.heap_setCell _ _ _ _ hne, Below.heap_setCell _ _ _ _ hne, Below.heap_setCell _ _ _ _ hne, Below.heap_setCell _ _ _ _ hne]; exact hh
  have HLF : Hid ((((((((w4.setCell ⟨rh, 0, none⟩ (.int .i64 1)).setCell ⟨rh, 1, none⟩ (.int .i64 count)).setCell ⟨rh, 2, none⟩ (.int .i64 slot)).setCell ⟨rl, 0, none⟩ (.int .i64 fx)).setCell ⟨rl, 1, none⟩ (.slice a1 n1 c1)).setCell ⟨rl, 2, none⟩ (.int .i64 rx)).setCell ⟨rl, 3, none⟩ (.slice a2 n2 c2)).heap[rl]? = some (.cells #[.int .i64 fx, .slice a1 n1 c1, .int .i64 rx, .slice a2 n2 c2] 60 (0, 0))) := by
    show _ = _
    simpa using block_setCell (block_setCell (block_setCell (block_setCell hl 0 (.int .i64 fx)) 1 (.slice a1 n1 c1)) 2 (.int .i64 rx)) 3 (.slice a2 n2 c2)
  have HKF : Hid (∀ k, k ≠ rh → k ≠ rl → (((((((w4.setCell ⟨rh, 0, none⟩ (.int .i64 1)).setCell ⟨rh, 1, none⟩ (.int .i64 count)).setCell ⟨rh, 2, none⟩ (.int .i64 slot)).setCell ⟨rl, 0, none⟩ (.int .i64 fx)).setCell ⟨rl, 1, none⟩ (.slice a1 n1 c1)).setCell ⟨rl, 2, none⟩ (.int .i64 rx)).setCell ⟨rl, 3, none⟩ (.slice a2 n2 c2)).heap[k]? = w4.heap[k]?) := fun k h1 h2 => by
    rw [Below.heap_setCell _ _ _ _ h2, Below.heap_setCell _ _ _ _ h2, Below.heap_setCell _ _ _ _ h2, Below.heap_setCell _ _ _ _ h2, Below.heap_setCell _ _ _ _ h1, Below.heap_setCell _ _ _ _ h1, Below.heap_setCell _ _ _ _ h1]
  have HB5 : Hid (Below w.heap.size w (((((((w4.setCell ⟨rh, 0, none⟩ (.int .i64 1)).setCell ⟨rh, 1, none⟩ (.int .i64 count)).setCell ⟨rh, 2, none⟩ (.int .i64 slot)).setCell ⟨rl, 0, none⟩ (.int .i64 fx)).setCell ⟨rl, 1, none⟩ (.slice a1 n1 c1)).setCell ⟨rl, 2, none⟩ (.int .i64 rx)).setCell ⟨rl, 3, none⟩ (.slice a2 n2 c2))) := by
    have e1 := HRE.out.1
    have e2 := HRE.out.2.1
    exact ((((((HB4.out.setCell e1 _).setCell e1 _).setCell e1 _).setCell e2 _).setCell e2 _).setCell e2 _).setCell e2 _
  have HZ5 : Hid (w4.heap.size ≤ (((((((w4.setCell ⟨rh, 0, none⟩ (.int .i64 1)).setCell ⟨rh, 1, none⟩ (.int .i64 count)).setCell ⟨rh, 2, none⟩ (.int .i64 slot)).setCell ⟨rl, 0, none⟩ (.int .i64 fx)).setCell ⟨rl, 1, none⟩ (.slice a1 n1 c1)).setCell ⟨rl, 2, none⟩ (.int .i64 rx)).setCell ⟨rl, 3, none⟩ (.slice a2 n2 c2)).heap.size) := by show _ ≤ _; simp [World.setCell]
  clear hh hl y0 y1 y2 v0 v1 v2 v3 p0 p1 p2 q0 q1 q2 q3 pf0 pf1 pf2 qf0 qf1 qf2 qf3
  generalize ((((((w4.setCell ⟨rh, 0, none⟩ (.int .i64 1)).setCell ⟨rh, 1, none⟩ (.int .i64 count)).setCell ⟨rh, 2, none⟩ (.int .i64 slot)).setCell ⟨rl, 0, none⟩ (.int .i64 fx)).setCell ⟨rl, 1, none⟩ (.slice a1 n1 c1)).setCell ⟨rl, 2, none⟩ (.int .i64 rx)).setCell ⟨rl, 3, none⟩ (.slice a2 n2 c2) = w5 at *
  have hof : ∀ {a : Option Addr} {xs : List Value}, SeqAt w4 a xs → (∀ q o, a = some ⟨q, o, none⟩ → q ≠ rh ∧ q ≠ rl ∧ w.heap.size ≤ q ∧ q < w3.heap.size) → SeqAt w5 a xs := fun h hf h0 => by
    obtain ⟨q, o, e, hc⟩ := h h0
    exact ⟨q, o, e, fun j hj => by rw [World.cell?_of_block (a := ⟨q, o + j, none⟩) (HKF.out q (hf q o e).1 (hf q o e).2.1)]; exact hc j hj⟩
  have HLAY : Hid (LayF w5.drew (.agg #[.int .i64 fx, .slice a1 n1 c1, .int .i64 rx, .slice a2 n2 c2]) L (fun k => w.heap.size ≤ k ∧ k < w5.drew.heap.size)) := by
    have e := HFX.out
    have e4 := HZ4.out
    have e5 : w4.heap.size ≤ w5.drew.heap.size := HZ5.out
    exact ⟨a1, c1, a2, c2, by rw [← e.1, ← e.2.1, ← e.2.2.1, ← e.2.2.2], hof HSA4.out HGA.out, hof HSB4.out HGB.out, fun q o e => by have := HGA.out q o e; show _ ∧ _; omega, fun q o e => by have := HGB.out q o e; show _ ∧ _; omega⟩
  clear hof
  go_wp2_with fail
  try simp only [Exit.inBlock, Exit.then]
  exact bodyPost_ret (results_blk22 rfl _ _ rh rl _ _ _ _ _ _ _ _ rfl (show w5.drew.heap[rh]? = _ from HHF.out) Tryz.underlying128 rfl rfl rfl (show w5.drew.heap[rl]? = _ from HLF.out) Tryz.underlying60 rfl rfl) rfl ⟨_, rfl, HLAY.out, HB5.out.drew⟩
theorem ifind_any (addr count slot : Nat) (w : World) (h : ImgEnv w G H m s b C Wd L ws own) (ho : ObjAt C Wd L ws own addr count slot) : Calls Tryz.prog 116 #[.pointer (some ⟨m, 0, none⟩), .int .i64 addr] w fun e w' => ∃ v, e = .returned (.tuple #[.agg #[.int .i64 1, .int .i64 count, .int .i64 slot], v, .int .i64 (L.size count : Nat), .int .i64 0]) ∧ LayAt w' v L ∧ Below w.heap.size w w' :=
  (ifindF_any addr count slot w h ho).mono fun e w' ⟨v, h1, h2, h3⟩ => ⟨v, h1, h2.at, h3⟩
end Go.Proofs.YtcdpnfchmpncjaaGreatDoor
namespace Go.Proofs.YtcdpnfchmpncjaaGreatDoor
open Go.RowKit Go.Tr Go.Shelf
variable {w w' : World} {G H : Nat → Prop} {m s b C Wd : Nat} {L : Lay} {ws own : List Nat}
set_option maxRecDepth 100000 in
set_option maxHeartbeats 1000000 in
theorem iat_any (addr count slot : Nat) (w : World) (h : ImgEnv w G H m s b C Wd L ws own) (ho : ObjAt C Wd L ws own addr count slot) : Calls Tryz.prog 67 #[.pointer (some ⟨m, 0, none⟩), .int .i64 addr] w fun e w' => e = .returned (.tuple #[.agg #[.int .i64 1, .int .i64 count, .int .i64 slot], .int .i64 (L.size count + 1 : Nat), .int .i64 0]) ∧ Below w.heap.size w w' := by
  have HF : Hid (∀ W : World, Below w.heap.size w W → Calls Tryz.prog 116 #[.pointer (some ⟨m, 0, none⟩), .int .i64 addr] W fun e w' => ∃ v, e = .returned (.tuple #[.agg #[.int .i64 1, .int .i64 count, .int .i64 slot], v, .int .i64 (L.size count : Nat), .int .i64 0]) ∧ LayAt w' v L ∧ Below W.heap.size W w') := fun W hb => ifind_any addr count slot W (h.below hb) ho
  have hsz := ho.size
  obtain ⟨z, hz⟩ : ∃ z, z = L.size count := ⟨_, rfl⟩
  rw [← hz] at HF hsz ⊢
  have HBA : Hid (Below w.heap.size w (w.alloc (.cells #[.int .i64 0, .int .i64 0, .int .i64 0] 128))) := (Below.refl _ w).alloc (Nat.le_refl _) _
  obtain ⟨rh, hrh⟩ : ∃ rh, rh = w.heap.size := ⟨_, rfl⟩
  have HRH : Hid ((w.alloc (.cells #[.int .i64 0, .int .i64 0, .int .i64 0] 128)).heap[rh]? = some (.cells #[.int .i64 0, .int .i64 0, .int .i64 0] 128 (0, 0))) := by rw [hrh]; exact heap_alloc_new w _
  have HRE : Hid (w.heap.size ≤ rh) := Nat.le_of_eq hrh.symm
  clear h ho hz
  go_enter Tryz.func67, Tryz.ntmps67
  go_wp2_with fail
  rw [← hrh]
  clear hrh
  generalize w.alloc (.cells #[.int .i64 0, .int .i64 0, .int .i64 0] 128) = wa at *
  refine (HF.out wa HBA.out).mono ?_
  rintro e w1 ⟨v, rfl, hlay, hb1⟩
  obtain ⟨a1, c1, a2, c2, rfl, -, -⟩ := hlay
  have HB1 : Hid (Below w.heap.size w w1) := HBA.out.trans (hb1.mono HBA.out.size)
  have HH1 := Lib.hid ((hb1.block rh (Array.getElem?_eq_some_iff.1 HRH.out).1).trans HRH.out)
  obtain ⟨fx, hfx⟩ : ∃ fx, fx = L.fixed := ⟨_, rfl⟩
  obtain ⟨rx, hrx⟩ : ∃ rx, rx = L.record := ⟨_, rfl⟩
  obtain ⟨n1, hn1⟩ : ∃ n1, n1 = L.refs.length := ⟨_, rfl⟩
  obtain ⟨n2, hn2⟩ : ∃ n2, n2 = L.recs.length := ⟨_, rfl⟩
  rw [← hfx, ← hrx, ← hn1, ← hn2]
  clear hb1 hfx hrx hn1 hn2
  have hrl : rh < w1.heap.size := (Array.getElem?_eq_some_iff.1 HH1.out).1
  have hk : ∀ u v, ((w1.alloc u).alloc v).heap[rh]? = w1.heap[rh]? := fun u v => (Below.heap_alloc _ _ _ (by simp; omega)).trans (Below.heap_alloc _ _ _ hrl)
  have HBK : Hid (∀ u v, Below w.heap.size w ((w1.alloc u).alloc v)) := fun u v => (HB1.out.alloc HB1.out.size u).alloc (by have := HB1.out.size; simp; omega) v
  have r0 := cells_of_block HH1.out 0
  have r1 := cells_of_block HH1.out 1
  have r2 := cells_of_block HH1.out 2
  simp at r0 r1 r2
  obtain ⟨r0, g0⟩ := r0
  obtain ⟨r1, g1⟩ := r1
  obtain ⟨r2, g2⟩ := r2
  have HK := Lib.hid hk
  clear hk
  go_wp2_with fail
  try simp only [Exit.inBlock, Exit.then]
  have hbk : ((w1.setCell ⟨rh, 0, none⟩ (.int .i64 1)).setCell ⟨rh, 1, none⟩ (.int .i64 count)).setCell ⟨rh, 2, none⟩ (.int .i64 slot) |>.heap[rh]? = some (.cells #[.int .i64 1, .int .i64 count, .int .i64 slot] 128 (0, 0)) := by
    simpa using block_setCell (block_setCell (block_setCell HH1.out 0 (.int .i64 1)) 1 (.int .i64 count)) 2 (.int .i64 slot)
  have e := HRE.out
  have hb5 : Below w.heap.size w (((w1.setCell ⟨rh, 0, none⟩ (.int .i64 1)).setCell ⟨rh, 1, none⟩ (.int .i64 count)).setCell ⟨rh, 2, none⟩ (.int .i64 slot)) := ((HB1.out.setCell e _).setCell e _).setCell e _
  refine bodyPost_ret (results_blk3 rfl _ _ rh _ _ _ _ rfl ((Below.heap_alloc _ _ _ (by simp [World.setCell]; omega)).trans ((Below.heap_alloc _ _ _ (by simp [World.setCell]; omega)).trans hbk)) Tryz.underlying128 rfl rfl) rfl ⟨rfl, (hb5.alloc hb5.size _).alloc (by have := hb5.size; simp [World.setCell] at this ⊢; omega) _⟩
end Go.Proofs.YtcdpnfchmpncjaaGreatDoor
namespace Go.Tr
open Go.RowKit
theorem putAt_self : ∀ (k : Nat) (ws : List Nat) (o : Nat), putAt ws o ((ws.drop o).take k) = ws
  | 0, ws, o => by simp [putAt]
  | k + 1, ws, o => by
    by_cases h : o < ws.length
    · rw [List.drop_eq_getElem_cons h, List.take_succ_cons]
      show putAt (ws.set o ws[o]) (o + 1) _ = ws
      rw [List.set_getElem_self]
      exact putAt_self k ws (o + 1)
    · rw [List.drop_eq_nil_of_le (by omega)]; rfl
theorem Owned.at {own : List Nat} {Wd addr n i : Nat} (h : Owned own Wd addr n) (hi : i < n) : own.getD ((addr + i) / Wd) 0 ≠ 0 :=
  h _ (Nat.div_le_div_right (by omega)) (Nat.div_le_div_right (by omega))
end Go.Tr
namespace Go.Proofs.YtcdpnfchmpncjaaGreatDoor
open Go.RowKit Go.Tr Go.Shelf
variable {w w' : World} {G H : Nat → Prop} {m s b C Wd : Nat} {L : Lay} {ws own : List Nat}
set_option maxRecDepth 100000 in
set_option maxHeartbeats 1000000 in
theorem imake_any (addr count slot : Nat) (w : World) (h : ImgEnv w G H m s b C Wd L ws own) (hmG : ¬ G m) (hc : count ≤ 1024) (hs : slot < 4096) (hcr : count = 0 ∨ L.record ≠ 0) (hsz : L.size count < 8192) (ha : addr + (L.size count + 1) ≤ C * Wd) (ho : Owned own Wd addr (L.size count + 1)) :
    Calls Tryz.prog 90 #[.pointer (some ⟨m, 0, none⟩), .int .i64 addr, .agg #[.int .i64 1, .int .i64 count, .int .i64 slot]] w fun e w' => e = .returned (.tuple #[.int .i64 (L.size count + 1 : Nat), .int .i64 0]) ∧ StF w' G s C Wd (putAt ws addr (hdrN slot count 1 :: List.replicate (L.size count) 0)) own ∧ Only G w w' := by
  have HENC := Lib.hid (hencode_any 1 count slot · (by omega) (by omega) hc hs)
  have HSZ : Hid (∀ W : World, Below w.heap.size w W → Calls Tryz.prog 134 #[.pointer (some ⟨m, 0, none⟩), .agg #[.int .i64 1, .int .i64 count, .int .i64 slot]] W fun e w' => ∃ v, e = .returned (.tuple #[v, .int .i64 (L.size count : Nat), .int .i64 0]) ∧ LayF w' v L (fun k => W.heap.size ≤ k ∧ k < w'.heap.size) ∧ Below W.heap.size W w') := fun W hb => isize_any count slot W (h.below hb).im (h.below hb).bk h.right hc hcr hsz
  have hhl := hdr_lt (slot := slot) (count := count) (layout := 1) (by omega) (by omega) (by omega)
  obtain ⟨z, hz⟩ : ∃ z, z = L.size count := ⟨_, rfl⟩
  obtain ⟨WN, hWN⟩ : ∃ WN, WN = hdrN slot count 1 := ⟨_, rfl⟩
  rw [← hz] at HSZ hsz ha ho ⊢
  rw [← hWN] at HENC hhl ⊢
  have HENV := Lib.hid h
  have HO := Lib.hid ho
  have HMG := Lib.hid hmG
  have hbig : C * Wd ≤ 1048576 := by
    obtain ⟨wb, ob, mm, Fm, hst, -⟩ := h.st
    exact Nat.le_trans (Nat.mul_le_mul hst.cb.2 hst.wd.2) (by decide)
  obtain ⟨sz, hszz⟩ : ∃ sz, sz = C * Wd := ⟨_, rfl⟩
  have HSZE := Lib.hid hszz
  rw [← hszz] at ha hbig
  clear h hmG hc hs hcr ho hz hWN hszz
  have HBA : Hid (Below w.heap.size w (w.alloc (.cells #[.int .i64 1, .int .i64 count, .int .i64 slot] 128))) := (Below.refl _ w).alloc (Nat.le_refl _) _
  obtain ⟨xb, hxb⟩ : ∃ xb, xb = w.heap.size := ⟨_, rfl⟩
  have HXB : Hid ((w.alloc (.cells #[.int .i64 1, .int .i64 count, .int .i64 slot] 128)).heap[xb]? = some (.cells #[.int .i64 1, .int .i64 count, .int .i64 slot] 128 (0, 0))) := by rw [hxb]; exact heap_alloc_new w _
  go_enter Tryz.func90, Tryz.ntmps90
  go_wp2_with fail
  rw [← hxb]
  clear hxb
  generalize w.alloc (.cells #[.int .i64 1, .int .i64 count, .int .i64 slot] 128) = wa at *
  refine (HENC.out wa).mono ?_
  rintro e w1 ⟨rfl, hb1⟩
  have HB1 : Hid (Below w.heap.size w w1) := HBA.out.trans (hb1.mono HBA.out.size)
  have HX1 := Lib.hid ((hb1.block xb (Array.getElem?_eq_some_iff.1 HXB.out).1).trans HXB.out)
  have x0 := (cells_of_block HX1.out 0).1
  have x1 := (cells_of_block HX1.out 1).1
  have x2 := (cells_of_block HX1.out 2).1
  simp at x0 x1 x2
  clear hb1
  go_wp2_with fail
  refine (HSZ.out w1 HB1.out).mono ?_
  rintro e w2 ⟨v, rfl, hlay, hb2⟩
  obtain ⟨a1, c1, a2, c2, rfl, -⟩ := hlay
  have HB2 : Hid (Below w.heap.size w w2) := HB1.out.trans (hb2.mono HB1.out.size)
  obtain ⟨fx, hfx⟩ : ∃ fx, fx = L.fixed := ⟨_, rfl⟩
  obtain ⟨rx, hrx⟩ : ∃ rx, rx = L.record := ⟨_, rfl⟩
  obtain ⟨n1, hn1⟩ : ∃ n1, n1 = L.refs.length := ⟨_, rfl⟩
  obtain ⟨n2, hn2⟩ : ∃ n2, n2 = L.recs.length := ⟨_, rfl⟩
  rw [← hfx, ← hrx, ← hn1, ← hn2]
  clear hb2 hfx hrx hn1 hn2 x0 x1 x2
  have hm2 := (cells_of_block (HENV.out.below HB2.out).im 0).1
  have hml2 := (Array.getElem?_eq_some_iff.1 (HENV.out.below HB2.out).im).1
  have hm3 := fun u => (World.cell?_of_block (a := ⟨m, 0, none⟩) (Below.heap_alloc w2 u m hml2)).trans hm2
  simp at hm3
  have hz1 : IntKind.i64.wrap ((z : Int) + 1) = (z : Int) + 1 := by rw [IntWalk.i64_in _ (by omega)]
  clear hm2 hml2
  go_wp2_with fail
  have HB3 : Hid (Below w.heap.size w (w2.alloc (.cells #[.int .i64 fx, .slice a1 n1 c1, .int .i64 rx, .slice a2 n2 c2] 60))) := HB2.out.alloc HB2.out.size _
  clear hm3
  generalize w2.alloc (.cells #[.int .i64 fx, .slice a1 n1 c1, .int .i64 rx, .slice a2 n2 c2] 60) = w3 at *
  have HIM3 := Lib.hid (HENV.out.below HB3.out).im
  have HCP : Hid (Calls Tryz.prog 135 #[.pointer (some ⟨s, 0, none⟩), .int .i64 addr, .int .i64 addr, .int .i64 ((z : Int) + 1)] w3 fun e w' => e = .returned (.int .i64 0) ∧ StF w' G s C Wd ws own ∧ Only G w3 w' ∧ w'.heap.size = w3.heap.size) := by
    have := scopy_any addr addr (z + 1) w3 (HENV.out.below HB3.out).st (by omega) (by rw [← HSZE.out]; exact ha) (by rw [← HSZE.out]; exact ha) HO.out HO.out
    rw [putAt_self] at this
    exact this
  refine HCP.out.mono ?_
  rintro e w4 ⟨rfl, hst4, hon4, hsz4⟩
  have HST4 := Lib.hid hst4
  have HO4 : Hid (Only G w w4) := (Only.of_below HB3.out G).trans hon4 (fun k hk => Or.inl hk)
  have HIM4 : Hid (ImAt w4 m s b) := (hon4.block m (Array.getElem?_eq_some_iff.1 HIM3.out).1 HMG.out).trans HIM3.out
  have m4 := (cells_of_block HIM4.out 0).1
  simp at m4
  clear hst4 hon4 hsz4
  go_wp2_with fail
  refine (swrite_any addr WN w4 HST4.out hhl (by rw [← HSZE.out]; omega) (by have := HO.out.at (i := 0) (by omega); rw [Nat.add_zero] at this; exact this)).mono ?_
  rintro e w5 ⟨rfl, hst5, hon5, hsz5⟩
  have HST5 : Hid (StF w5 G s C Wd (putAt (ws.set addr WN) (addr + 1) (List.replicate 0 0)) own) := hst5
  have HO5 : Hid (Only G w w5) := HO4.out.trans hon5 (fun k hk => Or.inl hk)
  have HIM5 : Hid (ImAt w5 m s b) := (hon5.block m (Array.getElem?_eq_some_iff.1 HIM4.out).1 HMG.out).trans HIM4.out
  clear hst5 hon5 hsz5 m4
  go_wp2_with fail
  go_loopw [54] (fun i wr => ∃ j : Nat, j ≤ z ∧ i = .int .i64 (j : Int) ∧ Hid (StF wr G s C Wd (putAt (ws.set addr WN) (addr + 1) (List.replicate j 0)) own) ∧ Hid (Only G w wr) ∧ Hid (ImAt wr m s b)) (fun i _ => z - (intOf i).toNat)
  case atStart => exact ⟨0, Nat.zero_le _, rfl, HST5, HO5, HIM5⟩
  case round =>
    clear HST5 HO5 HIM5
    obtain ⟨j, hj, rfl, HST, HOW, HIM⟩ := hrel
    have m5 := (cells_of_block HIM.out 0).1
    simp at m5
    by_cases hlt : j < z
    · have hlt' : (j : Int) < (z : Int) := by omega
      have HWR : Hid (Calls Tryz.prog 136 #[.pointer (some ⟨s, 0, none⟩), .int .i64 ((addr : Int) + 1 + (j : Int)), .int .u64 0] wr fun e w' => e = .returned (.int .i64 0) ∧ StF w' G s C Wd (putAt (ws.set addr WN) (addr + 1) (List.replicate (j + 1) 0)) own ∧ Only G wr w' ∧ w'.heap.size = wr.heap.size) := by
        have := swrite_any (addr + 1 + j) 0 wr HST.out (by decide) (by rw [← HSZE.out]; omega) (by have := HO.out.at (i := 1 + j) (by omega); rw [← Nat.add_assoc] at this; exact this)
        rw [List.replicate_succ', putAt_snoc, List.length_replicate]
        exact this
      go_wp2_with fail
      refine HWR.out.mono ?_
      rintro e w6 ⟨rfl, hst6, hon6, hsz6⟩
      have HST6 := Lib.hid hst6
      have HO6 : Hid (Only G w w6) := HOW.out.trans hon6 (fun k hk => Or.inl hk)
      have HIM6 : Hid (ImAt w6 m s b) := (hon6.block m (Array.getElem?_eq_some_iff.1 HIM.out).1 HMG.out).trans HIM.out
      clear hst6 hon6 hsz6
      go_wp2_with fail
      go_roundw
      case rel => exact ⟨j + 1, by omega, by go_num, HST6, HO6, HIM6⟩
      case measure => simp [intOf]; omega
    · have hlt' : ¬ (j : Int) < (z : Int) := by omega
      have hjz : j = z := by omega
      have HSTz : Hid (StF wr G s C Wd (putAt ws addr (WN :: List.replicate z 0)) own) := by
        have := HST.out
        rw [hjz] at this
        exact this
      clear hjz
      go_wp2_with fail
      go_ret2
      exact ⟨rfl, HSTz.out, HOW.out⟩
end Go.Proofs.YtcdpnfchmpncjaaGreatDoor
namespace Go.Proofs.YtcdpnfchmpncjaaGreatDoor
open Go.RowKit Go.Tr Go.Shelf
variable {w w' : World} {G H : Nat → Prop} {m s b C Wd : Nat} {L : Lay} {ws own : List Nat}
set_option maxRecDepth 100000 in
set_option maxHeartbeats 1000000 in
theorem imove_any (ta fr count slot : Nat) (w : World) (h : ImgEnv w G H m s b C Wd L ws own) (hob : ObjAt C Wd L ws own fr count slot) (ha : fr + (L.size count + 1) ≤ C * Wd) (hb : ta + (L.size count + 1) ≤ C * Wd) (ho : Owned own Wd fr (L.size count + 1)) (ho2 : Owned own Wd ta (L.size count + 1)) :
    Calls Tryz.prog 110 #[.pointer (some ⟨m, 0, none⟩), .int .i64 ta, .int .i64 fr] w fun e w' => e = .returned (.tuple #[.int .i64 (L.size count + 1 : Nat), .int .i64 0]) ∧ StF w' G s C Wd (putAt ws ta ((ws.drop fr).take (L.size count + 1))) own ∧ Only G w w' := by
  have HAT : Hid (∀ W : World, Below w.heap.size w W → Calls Tryz.prog 67 #[.pointer (some ⟨m, 0, none⟩), .int .i64 fr] W fun e w' => e = .returned (.tuple #[.agg #[.int .i64 1, .int .i64 count, .int .i64 slot], .int .i64 (L.size count + 1 : Nat), .int .i64 0]) ∧ Below W.heap.size W w') := fun W hb => iat_any fr count slot W (h.below hb) hob
  obtain ⟨z, hz⟩ : ∃ z, z = L.size count + 1 := ⟨_, rfl⟩
  rw [← hz] at HAT ha hb ho ho2 ⊢
  have HCP : Hid (∀ W : World, Below w.heap.size w W → Calls Tryz.prog 135 #[.pointer (some ⟨s, 0, none⟩), .int .i64 ta, .int .i64 fr, .int .i64 z] W fun e w' => e = .returned (.int .i64 0) ∧ StF w' G s C Wd (putAt ws ta ((ws.drop fr).take z)) own ∧ Only G W w' ∧ w'.heap.size = W.heap.size) := fun W hbW => scopy_any ta fr z W (h.below hbW).st (by omega) hb ha ho2 ho
  have HENV := Lib.hid h
  clear h hob ha hb ho ho2 hz
  go_enter Tryz.func110, Tryz.ntmps110
  go_wp2_with fail
  refine (HAT.out w (Below.refl _ w)).mono ?_
  rintro e w1 ⟨rfl, hb1⟩
  have HB1 := Lib.hid hb1
  have hm := (cells_of_block (HENV.out.below hb1).im 0).1
  have hml := (Array.getElem?_eq_some_iff.1 (HENV.out.below hb1).im).1
  simp at hm
  clear hb1
  go_wp2_with fail
  refine (HCP.out _ (HB1.out.alloc HB1.out.size _)).mono ?_
  rintro e w2 ⟨rfl, hst, hon, hsz⟩
  have HST := Lib.hid hst
  have HO : Hid (Only G w w2) := (Only.of_below (HB1.out.alloc HB1.out.size _) G).trans hon (fun k hk => Or.inl hk)
  clear hst hon hsz
  go_wp2_with fail
  go_ret2
  exact ⟨rfl, HST.out, HO.out⟩
set_option maxRecDepth 100000 in
set_option maxHeartbeats 1000000 in
theorem iword_any (addr count slot p : Nat) (ref : Bool) (w : World) (h : ImgEnv w G H m s b C Wd L ws own) (hob : ObjAt C Wd L ws own addr count slot) (hp : p < L.size count) (href : isRefN L p = ref) (hbig : addr ≤ 1048576) : Calls Tryz.prog 139 #[.pointer (some ⟨m, 0, none⟩), .int .i64 addr, .int .i64 p, .bool ref] w fun e w' => e = .returned (.tuple #[.int .i64 (addr + 1 + p : Nat), .int .i64 0]) ∧ Below w.heap.size w w' := by
  have HF := Lib.hid (ifind_any addr count slot w h hob)
  have hsz := hob.size
  have HIS : Hid (∀ (v : Value) (W : World), LayAt W v L → Calls Tryz.prog 182 #[v, .int .i64 count, .int .i64 p] W fun e w' => e = .returned (.tuple #[.bool ref, .int .i64 0]) ∧ Below W.heap.size W w') := fun v W hv => by
    have := lisref_any count p W hv h.right hob.cnt hob.fit hob.size hp
    rw [href] at this
    exact this
  obtain ⟨z, hz⟩ : ∃ z, z = L.size count := ⟨_, rfl⟩
  rw [← hz] at HF hsz hp
  clear h hob href hz
  go_enter Tryz.func139, Tryz.ntmps139
  go_wp2_with fail
  refine HF.out.mono ?_
  rintro e w1 ⟨v, rfl, hlay, hb1⟩
  have HB1 := Lib.hid hb1
  have HLAY := Lib.hid hlay
  obtain ⟨a1, c1, a2, c2, rfl, hsA, hsB⟩ := hlay
  obtain ⟨fx, hfx⟩ : ∃ fx, fx = L.fixed := ⟨_, rfl⟩
  obtain ⟨rx, hrx⟩ : ∃ rx, rx = L.record := ⟨_, rfl⟩
  obtain ⟨n1, hn1⟩ : ∃ n1, n1 = L.refs.length := ⟨_, rfl⟩
  obtain ⟨n2, hn2⟩ : ∃ n2, n2 = L.recs.length := ⟨_, rfl⟩
  rw [← hfx, ← hrx, ← hn1, ← hn2] at HLAY ⊢
  have HB3 : Hid (∀ u u', Below w.heap.size w ((w1.alloc u).alloc u')) := fun u u' => (HB1.out.alloc HB1.out.size u).alloc (by have := HB1.out.size; simp; omega) u'
  have HL3 : Hid (∀ u u', LayAt ((w1.alloc u).alloc u') (.agg #[.int .i64 fx, .slice a1 n1 c1, .int .i64 rx, .slice a2 n2 c2]) L) := fun u u' => HLAY.out.kept (((Below.refl _ w1).alloc (Nat.le_refl _) u).alloc (by simp) u')
  clear hb1 hsA hsB hfx hrx hn1 hn2
  go_wp2_with fail
  refine (HIS.out _ _ (HL3.out _ _)).mono ?_
  rintro e w2 ⟨rfl, hb2⟩
  have HB4 : Hid (Below w.heap.size w w2) := (HB3.out _ _).trans (hb2.mono (HB3.out _ _).size)
  clear hb2
  have hk1 : (addr : Int) + 1 + (p : Int) = (addr : Int) + 1 + (p : Int) := rfl
  cases ref
  all_goals
    go_wp2_with fail
    go_ret2
    exact ⟨rfl, HB4.out⟩
end Go.Proofs.YtcdpnfchmpncjaaGreatDoor
namespace Go.Proofs.YtcdpnfchmpncjaaGreatDoor
open Go.RowKit Go.Tr Go.Shelf
variable {w w' : World} {G H : Nat → Prop} {m s b C Wd : Nat} {L : Lay} {ws own : List Nat}
set_option maxRecDepth 100000 in
set_option maxHeartbeats 1000000 in
theorem iread_any (addr count slot p : Nat) (w : World) (h : ImgEnv w G H m s b C Wd L ws own) (hob : ObjAt C Wd L ws own addr count slot) (hp : p < L.size count) (href : isRefN L p = false) (hbig : addr ≤ 1048576) (hlt : addr + 1 + p < C * Wd) (ho : own.getD ((addr + 1 + p) / Wd) 0 ≠ 0) : Calls Tryz.prog 145 #[.pointer (some ⟨m, 0, none⟩), .int .i64 addr, .int .i64 p, .bool false, .func (.func 143) #[] #[]] w fun e w' => e = .returned (.tuple #[.int .u64 (ws.getD (addr + 1 + p) 0 : Nat), .int .i64 0]) ∧ Below w.heap.size w w' := by
  have HW := Lib.hid (iword_any addr count slot p false w h hob hp href hbig)
  have HRD : Hid (∀ W : World, Below w.heap.size w W → Calls Tryz.prog 143 #[.pointer (some ⟨s, 0, none⟩), .int .i64 (addr + 1 + p : Nat)] W fun e w' => e = .returned (.tuple #[.int .u64 (ws.getD (addr + 1 + p) 0 : Nat), .int .i64 0]) ∧ W = w') := fun W hb => sread_any (addr + 1 + p) W (h.below hb).st hlt ho
  have HENV := Lib.hid h
  obtain ⟨ad, hat⟩ : ∃ ad, ad = addr + 1 + p := ⟨_, rfl⟩
  rw [← hat] at HW HRD ⊢
  obtain ⟨x, hx⟩ : ∃ x, x = ws.getD ad 0 := ⟨_, rfl⟩
  rw [← hx] at HRD ⊢
  clear h hob hat hx hlt ho
  go_enter Tryz.func145, Tryz.ntmps145
  go_wp2_with fail
  refine HW.out.mono ?_
  rintro e w1 ⟨rfl, hb1⟩
  have HB1 := Lib.hid hb1
  have hm := (cells_of_block (HENV.out.below hb1).im 0).1
  simp at hm
  clear hb1
  go_wp2_with fail
  refine (HRD.out w1 HB1.out).mono ?_
  rintro e w' ⟨rfl, rfl⟩
  go_wp2_with fail
  go_ret2
  exact ⟨rfl, HB1.out⟩
set_option maxRecDepth 100000 in
theorem iload_any (addr count slot p : Nat) (w : World) (h : ImgEnv w G H m s b C Wd L ws own) (hob : ObjAt C Wd L ws own addr count slot) (hp : p < L.size count) (href : isRefN L p = false) (hbig : addr ≤ 1048576) (hlt : addr + 1 + p < C * Wd) (ho : own.getD ((addr + 1 + p) / Wd) 0 ≠ 0) : Calls Tryz.prog 103 #[.pointer (some ⟨m, 0, none⟩), .int .i64 addr, .int .i64 p] w fun e w' => e = .returned (.tuple #[.int .u64 (ws.getD (addr + 1 + p) 0 : Nat), .int .i64 0]) ∧ Below w.heap.size w w' := by
  have HR := Lib.hid (iread_any addr count slot p w h hob hp href hbig hlt ho)
  obtain ⟨x, hx⟩ : ∃ x, x = ws.getD (addr + 1 + p) 0 := ⟨_, rfl⟩
  rw [← hx] at HR ⊢
  clear h hob hlt ho hx
  go_enter Tryz.func103, Tryz.ntmps103
  go_wp2_with fail
  refine HR.out.mono ?_
  rintro e w1 ⟨rfl, hb1⟩
  have HB1 := Lib.hid hb1
  clear hb1
  go_wp2_with fail
  go_ret2
  exact ⟨rfl, HB1.out⟩
set_option maxRecDepth 100000 in
set_option maxHeartbeats 1000000 in
theorem isave_any (addr count slot p x : Nat) (w : World) (h : ImgEnv w G H m s b C Wd L ws own) (hob : ObjAt C Wd L ws own addr count slot) (hp : p < L.size count) (href : isRefN L p = false) (hbig : addr ≤ 1048576) (hx : x < 18446744073709551616) (hlt : addr + 1 + p < C * Wd) (ho : own.getD ((addr + 1 + p) / Wd) 0 ≠ 0) : Calls Tryz.prog 99 #[.pointer (some ⟨m, 0, none⟩), .int .i64 addr, .int .i64 p, .int .u64 x] w fun e w' => e = .returned (.int .i64 0) ∧ StF w' G s C Wd (ws.set (addr + 1 + p) x) own ∧ Only G w w' := by
  have HW := Lib.hid (iword_any addr count slot p false w h hob hp href hbig)
  have HRD : Hid (∀ W : World, Below w.heap.size w W → Calls Tryz.prog 136 #[.pointer (some ⟨s, 0, none⟩), .int .i64 (addr + 1 + p : Nat), .int .u64 x] W fun e w' => e = .returned (.int .i64 0) ∧ StF w' G s C Wd (ws.set (addr + 1 + p) x) own ∧ Only G W w' ∧ w'.heap.size = W.heap.size) := fun W hb => swrite_any (addr + 1 + p) x W (h.below hb).st hx hlt ho
  have HENV := Lib.hid h
  obtain ⟨ad, hat⟩ : ∃ ad, ad = addr + 1 + p := ⟨_, rfl⟩
  rw [← hat] at HW HRD ⊢
  clear h hob hat hlt ho hx
  go_enter Tryz.func99, Tryz.ntmps99
  go_wp2_with fail
  refine HW.out.mono ?_
  rintro e w1 ⟨rfl, hb1⟩
  have HB1 := Lib.hid hb1
  have hm := (cells_of_block (HENV.out.below hb1).im 0).1
  simp at hm
  clear hb1
  go_wp2_with fail
  refine (HRD.out w1 HB1.out).mono ?_
  rintro e w2 ⟨rfl, hst, hon, hsz⟩
  have HST := Lib.hid hst
  have HO : Hid (Only G w w2) := (Only.of_below HB1.out G).trans hon (fun k hk => Or.inl hk)
  clear hst hon hsz
  go_wp2_with fail
  go_ret
  exact ⟨rfl, HST.out, HO.out⟩
end Go.Proofs.YtcdpnfchmpncjaaGreatDoor
