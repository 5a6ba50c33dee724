/-
  Parts of the proof, one behind the other: KLay7.
-/
import Derived.Test.YtcdpnfchmpncjaaGreatDoorMa22
set_option linter.unusedSimpArgs false
set_option linter.unusedVariables false
namespace Go.Tr
open Go.RowKit
def sfs : List (Nat × Nat) := [(0, 8), (8, 8), (16, 48)]
theorem size_unpack {f r : Nat} (h1 : f < 256) (h2 : r < 256) : unpackL (f + r * 256) sfs = [f, r, 0] := by
  simp only [unpackL, sfs, List.map_cons, List.map_nil]
  congr 1
  · omega
  congr 1
  · omega
  congr 1
  omega
end Go.Tr
namespace Go.Proofs.YtcdpnfchmpncjaaGreatDoor
open Go.RowKit Go.Tr Go.Shelf
variable {w w' : World} {F G : Nat → Prop}
theorem sfs_ok : okL 0 sfs := ⟨⟨by decide, by decide, by decide⟩, by decide, ⟨by decide, by decide, by decide⟩, by decide, ⟨by decide, by decide, by decide⟩, by decide, trivial⟩
set_option maxRecDepth 100000 in
theorem ldecode_any (L : Lay) (w1 w2 : Nat) (wa : Option Addr) (wc : Nat) (w : World) (h : SeqAt w wa (us [L.fixed + L.record * 256, w1, w2])) (hT : Tz w) (hr : RightLay L) (h1 : w1 < 18446744073709551616) (h2 : w2 < 18446744073709551616) (he1 : spreadL w1 = L.refs) (he2 : spreadL w2 = L.recs) :
    Calls Tryz.prog 32 #[.slice wa 3 wc] w fun e w' => ∃ v, e = .returned (.tuple #[v, .int .i64 0]) ∧ LayAt w' v L ∧ Below w.heap.size w w' := by
  obtain ⟨fx, hfx⟩ : ∃ fx, fx = L.fixed := ⟨_, rfl⟩
  obtain ⟨rx, hrx⟩ : ∃ rx, rx = L.record := ⟨_, rfl⟩
  have hf := hr.f
  have hrr := hr.r
  rw [← hfx] at hf h
  rw [← hrx] at hrr h
  have HUN : Hid (∀ (fb : Nat) (W : World), W.heap[fb]? = some (.cells (pcells sfs).toArray 212 (0, 0)) → Calls Tryz.prog 79 #[.int .u64 (fx + rx * 256 : Nat), .slice (some ⟨fb, 0, none⟩) 3 3] W fun e w' => ∃ v, e = .returned (.tuple #[v, .int .i64 0]) ∧ OwnO w' 1 v 3 (us [fx, rx, 0]) ∧ Below W.heap.size W w') := fun fb W hf' => by
    have := funpack_any (fx + rx * 256) sfs (some ⟨fb, 0, none⟩) 3 3 W (by omega) (SeqAt.of_block hf') rfl (by decide) sfs_ok
    rw [size_unpack (by omega) (by omega)] at this
    exact this
  have HS1 : Hid (∀ W : World, Tz W → Calls Tryz.prog 81 #[.int .u64 w1] W fun e w' => ∃ a c, e = .returned (.slice a L.refs.length c) ∧ SeqAt w' a (ns L.refs) ∧ (∀ b o, a = some ⟨b, o, none⟩ → W.heap.size ≤ b ∧ b < w'.heap.size) ∧ Below W.heap.size W w') := fun W hW => by rw [← he1]; exact lspread_any w1 h1 W hW
  have HS2 : Hid (∀ W : World, Tz W → Calls Tryz.prog 81 #[.int .u64 w2] W fun e w' => ∃ a c, e = .returned (.slice a L.recs.length c) ∧ SeqAt w' a (ns L.recs) ∧ (∀ b o, a = some ⟨b, o, none⟩ → W.heap.size ≤ b ∧ b < w'.heap.size) ∧ Below W.heap.size W w') := fun W hW => by rw [← he2]; exact lspread_any w2 h2 W hW
  have HRT : Hid (∀ (v : Value) (W : World), LayAt W v L → Calls Tryz.prog 82 #[v] W fun e w' => e = .returned (.bool true) ∧ Below W.heap.size W w') := fun v W hv => lright_any W hv hr
  obtain ⟨b, off, rfl, hc⟩ := h (by simp [us])
  have c0 := hc 0 (by simp [us])
  have c1 := hc 1 (by simp [us])
  have c2 := hc 2 (by simp [us])
  simp [us, uv] at c0 c1 c2
  obtain ⟨n1, hn1⟩ : ∃ n1, n1 = L.refs.length := ⟨_, rfl⟩
  obtain ⟨n2, hn2⟩ : ∃ n2, n2 = L.recs.length := ⟨_, rfl⟩
  rw [← hn1] at HS1
  rw [← hn2] at HS2
  have HFX : Hid (fx = L.fixed ∧ rx = L.record ∧ n1 = L.refs.length ∧ n2 = L.recs.length) := ⟨hfx, hrx, hn1, hn2⟩
  obtain ⟨z, hz⟩ : ∃ z, z = fx + rx * 256 := ⟨_, rfl⟩
  have hz2 : (fx : Int) + (rx : Int) * 256 = (z : Int) := by rw [hz]; push_cast; rfl
  rw [← hz] at HUN
  rw [hz2] at c0
  have HTZ := Lib.hid hT
  have hw1 : IntKind.i64.wrap (fx : Int) = (fx : Int) := by rw [IntWalk.i64_in _ (by omega)]
  have hw2 : IntKind.i64.wrap (rx : Int) = (rx : Int) := by rw [IntWalk.i64_in _ (by omega)]
  have HBA : Hid (Below w.heap.size w (w.alloc (.cells #[.int .i64 0, .slice none 0 0, .int .i64 0, .slice none 0 0] 60))) := (Below.refl _ w).alloc (Nat.le_refl _) _
  obtain ⟨rb, hrb⟩ : ∃ rb, rb = w.heap.size := ⟨_, rfl⟩
  have HRB : Hid ((w.alloc (.cells #[.int .i64 0, .slice none 0 0, .int .i64 0, .slice none 0 0] 60)).heap[rb]? = some (.cells #[.int .i64 0, .slice none 0 0, .int .i64 0, .slice none 0 0] 60 (0, 0))) := by rw [hrb]; exact heap_alloc_new w _
  have hbl := World.block_lt_of_cell? w _ c0
  have d0 := (World.cell?_of_block (a := ⟨b, off, none⟩) (Below.heap_alloc w (.cells #[.int .i64 0, .slice none 0 0, .int .i64 0, .slice none 0 0] 60) b hbl)).trans c0
  have d1 := (World.cell?_of_block (a := ⟨b, off + 1, none⟩) (Below.heap_alloc w (.cells #[.int .i64 0, .slice none 0 0, .int .i64 0, .slice none 0 0] 60) b hbl)).trans c1
  have d2 := (World.cell?_of_block (a := ⟨b, off + 2, none⟩) (Below.heap_alloc w (.cells #[.int .i64 0, .slice none 0 0, .int .i64 0, .slice none 0 0] 60) b hbl)).trans c2
  clear hfx hrx hn1 hn2 hz hz2 hc h hT hr h1 h2 he1 he2 c0 c1 c2
  go_enter Tryz.func32, Tryz.ntmps32
  go_wp2_with fail
  have HRE : Hid (rb = w.heap.size) := hrb
  rw [← hrb]
  clear hrb
  generalize w.alloc (.cells #[.int .i64 0, .slice none 0 0, .int .i64 0, .slice none 0 0] 60) = wa at *
  refine wp_region_held_drew (S := fun W => W.cell? ⟨b, off, none⟩ = some (.int .u64 z)) (by kernel_rfl) d0 (fun hH => ?_)
  refine takeH 0 (v := ?_) rfl (by kernel_rfl) (by kernel_rfl) (by kernel_rfl) (fun _ _ _ h => h) (by rfl) ?_ (by assumption) ?_
  rotate_left
  · intro W hW
    go_simp
    try with_reducible rfl
  try simp only [Act.put, List.setIfInBounds_toArray, List.set_cons_zero, List.set_cons_succ]
  refine takeH 1 (v := ?_) rfl (by kernel_rfl) (by kernel_rfl) (by kernel_rfl) (fun _ _ _ h => h) (by rfl) ?_ (by assumption) ?_
  rotate_left
  · intro W hW
    go_simp
    try with_reducible rfl
  try simp only [Act.put, List.setIfInBounds_toArray, List.set_cons_zero, List.set_cons_succ]
  refine takeH 2 (v := ?_) rfl (by kernel_rfl) (by kernel_rfl) (by kernel_rfl) (fun _ _ _ h => h) (by rfl) ?_ (by assumption) ?_
  rotate_left
  · intro W hW
    go_simp
    try with_reducible rfl
  try simp only [Act.put, List.setIfInBounds_toArray, List.set_cons_zero, List.set_cons_succ]
  refine wpAnyH_ready (rs := [3]) (by kernel_rfl) (by simp) (readyH rfl (fun K hK => ?_) AllReadyH.nil)
  rw [if_pos (by rfl)]
  go_simp
  refine (lsizes_any _).mono ?_
  rintro e w3 ⟨rfl, rfl⟩
  have hbl2 : b < wa.heap.size := World.block_lt_of_cell? wa _ d0
  refine hK.out _ _ ((World.cell?_alloc_lt _ _ _ hbl2).trans d0) (fun hH => ?_)
  clear hK K
  try simp only [Act.put, List.setIfInBounds_toArray, List.set_cons_zero, List.set_cons_succ]
  refine wpAnyH_ready (rs := [4]) (by kernel_rfl) (by simp) (readyH rfl (fun K hK => ?_) AllReadyH.nil)
  rw [if_pos (by rfl)]
  go_simp
  refine (HUN.out _ (wa.alloc (.cells (pcells sfs).toArray 212)).drew (heap_alloc_new wa _)).mono ?_
  rintro e w4 ⟨v, rfl, hown, hb4⟩
  have HB4 : Hid (Below w.heap.size w w4) := (HBA.out.alloc HBA.out.size _).drew.trans (hb4.mono (by have := HBA.out.size; simp; omega))
  have hkb : w4.heap[b]? = wa.heap[b]? := (hb4.block b (by simp; omega)).trans (Below.heap_alloc wa _ b hbl2)
  have hrl : rb < wa.heap.size := (Array.getElem?_eq_some_iff.1 HRB.out).1
  have HR4 := Lib.hid ((hb4.block rb (by simp; omega)).trans ((Below.heap_alloc wa _ rb hrl).trans HRB.out))
  have f0 := (World.cell?_of_block (a := ⟨b, off, none⟩) hkb).trans d0
  have f1 := (World.cell?_of_block (a := ⟨b, off + 1, none⟩) hkb).trans d1
  have f2 := (World.cell?_of_block (a := ⟨b, off + 2, none⟩) hkb).trans d2
  obtain ⟨va, vc, rfl, hsq, -, -⟩ := hown.seq
  obtain ⟨xb, xo, rfl, hc⟩ := hsq (by simp [us])
  have g0 := hc 0 (by simp [us])
  have g1 := hc 1 (by simp [us])
  have g2 := hc 2 (by simp [us])
  simp [us, uv] at g0 g1 g2
  have HTZ4 : Hid (Tz w4) := tz_kept HTZ.out HB4.out.block
  clear hown hb4 hsq hc hkb hrl
  refine hK.out _ _ f0 (fun hH => ?_)
  clear hK K
  try simp only [Act.put, List.setIfInBounds_toArray, List.set_cons_zero, List.set_cons_succ]
  refine takeH 5 (v := ?_) rfl (by kernel_rfl) (by kernel_rfl) (by kernel_rfl) (fun _ _ _ h => h) (by rfl) ?_ (by assumption) ?_
  rotate_left
  · intro W hW
    go_simp
    try with_reducible rfl
  try simp only [Act.put, List.setIfInBounds_toArray, List.set_cons_zero, List.set_cons_succ]
  refine takeH 6 (v := ?_) rfl (by kernel_rfl) (by kernel_rfl) (by kernel_rfl) (fun _ _ _ h => h) (by rfl) ?_ (by assumption) ?_
  rotate_left
  · intro W hW
    go_simp
    try with_reducible rfl
  try simp only [Act.put, List.setIfInBounds_toArray, List.set_cons_zero, List.set_cons_succ]
  refine takeH 7 (v := ?_) rfl (by kernel_rfl) (by kernel_rfl) (by kernel_rfl) (fun _ _ _ h => h) (by rfl) ?_ (by assumption) ?_
  rotate_left
  · intro W hW
    go_simp
    try with_reducible rfl
  try simp only [Act.put, List.setIfInBounds_toArray, List.set_cons_zero, List.set_cons_succ]
  refine takeH 8 (v := ?_) rfl (by kernel_rfl) (by kernel_rfl) (by kernel_rfl) (fun _ _ _ h => h) (by rfl) ?_ (by assumption) ?_
  rotate_left
  · intro W hW
    go_simp
    try with_reducible rfl
  try simp only [Act.put, List.setIfInBounds_toArray, List.set_cons_zero, List.set_cons_succ]
  refine takeH 9 (v := ?_) rfl (by kernel_rfl) (by kernel_rfl) (by kernel_rfl) (fun _ _ _ h => h) (by rfl) ?_ (by assumption) ?_
  rotate_left
  · intro W hW
    go_simp
    try with_reducible rfl
  try simp only [Act.put, List.setIfInBounds_toArray, List.set_cons_zero, List.set_cons_succ]
  refine wpAnyH_done (by kernel_rfl) ?_ _
  go_wp2_with fail
  have g0_4 := g0
  have g1_4 := g1
  have g2_4 := g2
  have f1_4 := f1
  have f2_4 := f2
  have HT4 := HTZ4
  clear f0 g0 g1 g2 f1 f2
  refine wp_region_lastH (S := fun W => W.cell? ⟨xb, xo, none⟩ = some (.int .u64 fx) ∧ W.cell? ⟨xb, xo + 1, none⟩ = some (.int .u64 rx) ∧ W.cell? ⟨b, off + 1, none⟩ = some (.int .u64 w1) ∧ W.cell? ⟨b, off + 2, none⟩ = some (.int .u64 w2)) 18 (by kernel_rfl) (by kernel_rfl) ⟨g0_4, g1_4, f1_4, f2_4⟩ (fun hH => ?_)
  simp only [lastOps, nop, List.modify_toArray, List.modify_succ_cons, List.modify_zero_cons]
  refine takeH 0 (v := ?_) rfl (by kernel_rfl) (by kernel_rfl) (by kernel_rfl) (fun _ _ _ h => h) (by rfl) ?_ (by assumption) ?_
  rotate_left
  · intro W hW
    go_simp
    try with_reducible rfl
  try simp only [Act.put, List.setIfInBounds_toArray, List.set_cons_zero, List.set_cons_succ]
  refine takeH 1 (v := ?_) rfl (by kernel_rfl) (by kernel_rfl) (by kernel_rfl) (fun _ _ _ h => h) (by rfl) ?_ (by assumption) ?_
  rotate_left
  · intro W hW
    go_simp
    try with_reducible rfl
  try simp only [Act.put, List.setIfInBounds_toArray, List.set_cons_zero, List.set_cons_succ]
  refine takeH 2 (v := ?_) rfl (by kernel_rfl) (by kernel_rfl) (by kernel_rfl) (fun _ _ _ h => h) (by rfl) ?_ (by assumption) ?_
  rotate_left
  · intro W hW
    go_simp
    try with_reducible rfl
  try simp only [Act.put, List.setIfInBounds_toArray, List.set_cons_zero, List.set_cons_succ]
  refine takeH 3 (v := ?_) rfl (by kernel_rfl) (by kernel_rfl) (by kernel_rfl) (fun _ _ _ h => h) (by rfl) ?_ (by assumption) ?_
  rotate_left
  · intro W hW
    go_simp
    try with_reducible rfl
  try simp only [Act.put, List.setIfInBounds_toArray, List.set_cons_zero, List.set_cons_succ]
  refine takeH 4 (v := ?_) rfl (by kernel_rfl) (by kernel_rfl) (by kernel_rfl) (fun _ _ _ h => h) (by rfl) ?_ (by assumption) ?_
  rotate_left
  · intro W hW
    go_simp
    try with_reducible rfl
  try simp only [Act.put, List.setIfInBounds_toArray, List.set_cons_zero, List.set_cons_succ]
  refine takeH 5 (v := ?_) rfl (by kernel_rfl) (by kernel_rfl) (by kernel_rfl) (fun _ _ _ h => h) (by rfl) ?_ (by assumption) ?_
  rotate_left
  · intro W hW
    go_simp
    try with_reducible rfl
  try simp only [Act.put, List.setIfInBounds_toArray, List.set_cons_zero, List.set_cons_succ]
  refine takeH 6 (v := ?_) rfl (by kernel_rfl) (by kernel_rfl) (by kernel_rfl) (fun _ _ _ h => h) (by rfl) ?_ (by assumption) ?_
  rotate_left
  · intro W hW
    go_simp
    try with_reducible rfl
  try simp only [Act.put, List.setIfInBounds_toArray, List.set_cons_zero, List.set_cons_succ]
  refine takeH 8 (v := ?_) rfl (by kernel_rfl) (by kernel_rfl) (by kernel_rfl) (fun _ _ _ h => h) (by rfl) ?_ (by assumption) ?_
  rotate_left
  · intro W hW
    go_simp
    try with_reducible rfl
  try simp only [Act.put, List.setIfInBounds_toArray, List.set_cons_zero, List.set_cons_succ]
  refine takeH 9 (v := ?_) rfl (by kernel_rfl) (by kernel_rfl) (by kernel_rfl) (fun _ _ _ h => h) (by rfl) ?_ (by assumption) ?_
  rotate_left
  · intro W hW
    go_simp
    try with_reducible rfl
  try simp only [Act.put, List.setIfInBounds_toArray, List.set_cons_zero, List.set_cons_succ]
  refine takeH 10 (v := ?_) rfl (by kernel_rfl) (by kernel_rfl) (by kernel_rfl) (fun _ _ _ h => h) (by rfl) ?_ (by assumption) ?_
  rotate_left
  · intro W hW
    go_simp
    try with_reducible rfl
  try simp only [Act.put, List.setIfInBounds_toArray, List.set_cons_zero, List.set_cons_succ]
  refine takeH 11 (v := ?_) rfl (by kernel_rfl) (by kernel_rfl) (by kernel_rfl) (fun _ _ _ h => h) (by rfl) ?_ (by assumption) ?_
  rotate_left
  · intro W hW
    go_simp
    try with_reducible rfl
  try simp only [Act.put, List.setIfInBounds_toArray, List.set_cons_zero, List.set_cons_succ]
  refine takeH 12 (v := ?_) rfl (by kernel_rfl) (by kernel_rfl) (by kernel_rfl) (fun _ _ _ h => h) (by rfl) ?_ (by assumption) ?_
  rotate_left
  · intro W hW
    go_simp
    try with_reducible rfl
  try simp only [Act.put, List.setIfInBounds_toArray, List.set_cons_zero, List.set_cons_succ]
  refine takeH 13 (v := ?_) rfl (by kernel_rfl) (by kernel_rfl) (by kernel_rfl) (fun _ _ _ h => h) (by rfl) ?_ (by assumption) ?_
  rotate_left
  · intro W hW
    go_simp
    try with_reducible rfl
  try simp only [Act.put, List.setIfInBounds_toArray, List.set_cons_zero, List.set_cons_succ]
  refine takeH 14 (v := ?_) rfl (by kernel_rfl) (by kernel_rfl) (by kernel_rfl) (fun _ _ _ h => h) (by rfl) ?_ (by assumption) ?_
  rotate_left
  · intro W hW
    go_simp
    try with_reducible rfl
  try simp only [Act.put, List.setIfInBounds_toArray, List.set_cons_zero, List.set_cons_succ]
  refine wpAnyH_ready (rs := [7, 17]) (by kernel_rfl) (by simp) (readyH rfl (fun K hK => ?_) (readyH rfl (fun K hK => ?_) AllReadyH.nil))
  · rw [if_pos (by rfl)]
    go_simp
    refine (HS1.out w4.drew HT4.out).mono ?_
    rintro e w5 ⟨a1, c1, rfl, hs, hf, hb'⟩
    have hb : Below w4.heap.size w4 w5 := ⟨hb'.os, hb'.tape, hb'.output, hb'.size, hb'.block⟩
    have HFA : Hid (∀ q o, a1 = some ⟨q, o, none⟩ → w4.heap.size ≤ q ∧ q < w5.heap.size) := hf
    have HA5 := Lib.hid hs
    have HB5 : Hid (Below w.heap.size w w5) := HB4.out.trans (hb.mono HB4.out.size)
    have HR5 := Lib.hid ((hb.block rb (Array.getElem?_eq_some_iff.1 HR4.out).1).trans HR4.out)
    have HT5 : Hid (Tz w5) := tz_kept HTZ.out HB5.out.block
    have HZ5 : Hid (w4.heap.size ≤ w5.heap.size) := hb.size
    have g0_5 := (World.cell?_of_block (a := ⟨xb, xo, none⟩) (hb.block xb (World.block_lt_of_cell? w4 _ g0_4))).trans g0_4
    have g1_5 := (World.cell?_of_block (a := ⟨xb, xo + 1, none⟩) (hb.block xb (World.block_lt_of_cell? w4 _ g1_4))).trans g1_4
    have g2_5 := (World.cell?_of_block (a := ⟨xb, xo + 2, none⟩) (hb.block xb (World.block_lt_of_cell? w4 _ g2_4))).trans g2_4
    have f1_5 := (World.cell?_of_block (a := ⟨b, off + 1, none⟩) (hb.block b (World.block_lt_of_cell? w4 _ f1_4))).trans f1_4
    have f2_5 := (World.cell?_of_block (a := ⟨b, off + 2, none⟩) (hb.block b (World.block_lt_of_cell? w4 _ f2_4))).trans f2_4
    clear hs hf hb hb'
    refine hK.out _ _ ⟨g0_5, g1_5, f1_5, f2_5⟩ (fun hH => ?_)
    clear hK K
    try simp only [Act.put, List.setIfInBounds_toArray, List.set_cons_zero, List.set_cons_succ]
    refine wpAnyH_ready (rs := [15, 17]) (by kernel_rfl) (by simp) (readyH rfl (fun K hK => ?_) (readyH rfl (fun K hK => ?_) AllReadyH.nil))
    · rw [if_pos (by rfl)]
      go_simp
      refine (HS2.out w5 HT5.out).mono ?_
      rintro e w6 ⟨a2, c2, rfl, hs, hf, hb'⟩
      have hb : Below w5.heap.size w5 w6 := ⟨hb'.os, hb'.tape, hb'.output, hb'.size, hb'.block⟩
      have HFC : Hid (∀ q o, a2 = some ⟨q, o, none⟩ → w5.heap.size ≤ q ∧ q < w6.heap.size) := hf
      have HC6 := Lib.hid hs
      have HB6 : Hid (Below w.heap.size w w6) := HB5.out.trans (hb.mono HB5.out.size)
      have HR6 := Lib.hid ((hb.block rb (Array.getElem?_eq_some_iff.1 HR5.out).1).trans HR5.out)
      have HT6 : Hid (Tz w6) := tz_kept HTZ.out HB6.out.block
      have HZ6 : Hid (w5.heap.size ≤ w6.heap.size) := hb.size
      have g0_6 := (World.cell?_of_block (a := ⟨xb, xo, none⟩) (hb.block xb (World.block_lt_of_cell? w5 _ g0_5))).trans g0_5
      have g1_6 := (World.cell?_of_block (a := ⟨xb, xo + 1, none⟩) (hb.block xb (World.block_lt_of_cell? w5 _ g1_5))).trans g1_5
      have g2_6 := (World.cell?_of_block (a := ⟨xb, xo + 2, none⟩) (hb.block xb (World.block_lt_of_cell? w5 _ g2_5))).trans g2_5
      have f1_6 := (World.cell?_of_block (a := ⟨b, off + 1, none⟩) (hb.block b (World.block_lt_of_cell? w5 _ f1_5))).trans f1_5
      have f2_6 := (World.cell?_of_block (a := ⟨b, off + 2, none⟩) (hb.block b (World.block_lt_of_cell? w5 _ f2_5))).trans f2_5
      have HA6 : Hid (SeqAt w6 a1 (ns L.refs)) := HA5.out.below hb (Nat.le_refl _)
      clear hs hf hb hb'
      refine hK.out _ _ ⟨g0_6, g1_6, f1_6, f2_6⟩ (fun hH => ?_)
      clear hK K
      try simp only [Act.put, List.setIfInBounds_toArray, List.set_cons_zero, List.set_cons_succ]
      refine takeH 16 (v := ?_) rfl (by kernel_rfl) (by kernel_rfl) (by kernel_rfl) (fun _ _ _ h => h) (by rfl) ?_ (by assumption) ?_
      rotate_left
      · intro W hW
        go_simp
        try with_reducible rfl
      try simp only [Act.put, List.setIfInBounds_toArray, List.set_cons_zero, List.set_cons_succ]
      refine wpAnyH_ready (rs := [17]) (by kernel_rfl) (by simp) (readyH rfl (fun K hK => ?_) AllReadyH.nil)
      rw [if_pos (by rfl)]
      go_simp
      have hb : Below w6.heap.size w6 (w6.alloc (.cells #[.int .i64 0, .slice none 0 0, .int .i64 0, .slice none 0 0] 60)) := ((Below.refl _ w6).alloc (Nat.le_refl _) _)
      obtain ⟨lb, hlb⟩ : ∃ lb, lb = w6.heap.size := ⟨_, rfl⟩
      have HLE : Hid (lb = w6.heap.size) := hlb
      have HL7 : Hid ((w6.alloc (.cells #[.int .i64 0, .slice none 0 0, .int .i64 0, .slice none 0 0] 60)).heap[lb]? = some (.cells #[.int .i64 0, .slice none 0 0, .int .i64 0, .slice none 0 0] 60 (0, 0))) := by rw [hlb]; exact heap_alloc_new w6 _
      rw [← hlb]
      generalize (w6.alloc (.cells #[.int .i64 0, .slice none 0 0, .int .i64 0, .slice none 0 0] 60)) = w7 at *
      clear hlb
      have HLT : Hid (lb < w7.heap.size) := (Array.getElem?_eq_some_iff.1 HL7.out).1
      have HB7 : Hid (Below w.heap.size w w7) := HB6.out.trans (hb.mono HB6.out.size)
      have HR7 := Lib.hid ((hb.block rb (Array.getElem?_eq_some_iff.1 HR6.out).1).trans HR6.out)
      have HT7 : Hid (Tz w7) := tz_kept HTZ.out HB7.out.block
      have HZ7 : Hid (w6.heap.size ≤ w7.heap.size) := hb.size
      have g0_7 := (World.cell?_of_block (a := ⟨xb, xo, none⟩) (hb.block xb (World.block_lt_of_cell? w6 _ g0_6))).trans g0_6
      have g1_7 := (World.cell?_of_block (a := ⟨xb, xo + 1, none⟩) (hb.block xb (World.block_lt_of_cell? w6 _ g1_6))).trans g1_6
      have g2_7 := (World.cell?_of_block (a := ⟨xb, xo + 2, none⟩) (hb.block xb (World.block_lt_of_cell? w6 _ g2_6))).trans g2_6
      have f1_7 := (World.cell?_of_block (a := ⟨b, off + 1, none⟩) (hb.block b (World.block_lt_of_cell? w6 _ f1_6))).trans f1_6
      have f2_7 := (World.cell?_of_block (a := ⟨b, off + 2, none⟩) (hb.block b (World.block_lt_of_cell? w6 _ f2_6))).trans f2_6
      have HA7 : Hid (SeqAt w7 a1 (ns L.refs)) := HA6.out.below hb (Nat.le_refl _)
      have HC7 : Hid (SeqAt w7 a2 (ns L.recs)) := HC6.out.below hb (Nat.le_refl _)
      clear hb
      refine hK.out _ _ ⟨g0_7, g1_7, f1_7, f2_7⟩ (fun hH => ?_)
      clear hK K
      try simp only [Act.put, List.setIfInBounds_toArray, List.set_cons_zero, List.set_cons_succ]
      have l0 := cells_of_block HL7.out 0
      have l1 := cells_of_block HL7.out 1
      have l2 := cells_of_block HL7.out 2
      have l3 := cells_of_block HL7.out 3
      simp at l0 l1 l2 l3
      obtain ⟨l0, m0⟩ := l0
      obtain ⟨l1, m1⟩ := l1
      obtain ⟨l2, m2⟩ := l2
      obtain ⟨l3, m3⟩ := l3
      refine takeH 18 (v := ?_) rfl (by kernel_rfl) (by kernel_rfl) (by kernel_rfl) (fun _ _ _ h => h) (by rfl) ?_ (by assumption) ?_
      rotate_left
      · intro W hW
        go_simp
        try with_reducible rfl
      try simp only [Act.put, List.setIfInBounds_toArray, List.set_cons_zero, List.set_cons_succ]
      refine lastH_done (by kernel_rfl) rfl (by rfl) ?_
      go_simp
      have hq : rb < w4.heap.size ∧ xb < w4.heap.size ∧ w4.heap.size ≤ lb ∧ (∀ q o, a1 = some ⟨q, o, none⟩ → w4.heap.size ≤ q ∧ q ≠ lb) ∧ (∀ q o, a2 = some ⟨q, o, none⟩ → w4.heap.size ≤ q ∧ q ≠ lb) := by
        have e1 := HLE.out
        have e2 := HLT.out
        have e5 := HZ5.out
        have e6 := HZ6.out
        have e7 := HZ7.out
        refine ⟨(Array.getElem?_eq_some_iff.1 HR4.out).1, World.block_lt_of_cell? w4 _ g0_4, by omega, fun q o e => ?_, fun q o e => ?_⟩
        · have := HFA.out q o e; omega
        · have := HFC.out q o e; omega
      have HQ := Lib.hid hq
      have HLB : Hid (((((w7.setCell ⟨lb, 0, none⟩ (.int .i64 fx)).setCell ⟨lb, 1, none⟩ (.slice a1 n1 c1)).setCell ⟨lb, 2, none⟩ (.int .i64 rx)).setCell ⟨lb, 3, none⟩ (.slice a2 n2 c2)).heap[lb]? = some (.cells #[.int .i64 fx, .slice a1 n1 c1, .int .i64 rx, .slice a2 n2 c2] 60 (0, 0))) := by
        show _ = _
        simpa using block_setCell (block_setCell (block_setCell (block_setCell HL7.out 0 (.int .i64 fx)) 1 (.slice a1 n1 c1)) 2 (.int .i64 rx)) 3 (.slice a2 n2 c2)
      have hkc : ∀ k, k ≠ lb → ((((w7.setCell ⟨lb, 0, none⟩ (.int .i64 fx)).setCell ⟨lb, 1, none⟩ (.slice a1 n1 c1)).setCell ⟨lb, 2, none⟩ (.int .i64 rx)).setCell ⟨lb, 3, none⟩ (.slice a2 n2 c2)).heap[k]? = w7.heap[k]? := fun k hk => by rw [Below.heap_setCell _ _ _ _ hk, Below.heap_setCell _ _ _ _ hk, Below.heap_setCell _ _ _ _ hk, Below.heap_setCell _ _ _ _ hk]
      have HB8 : Hid (Below w.heap.size w ((((w7.setCell ⟨lb, 0, none⟩ (.int .i64 fx)).setCell ⟨lb, 1, none⟩ (.slice a1 n1 c1)).setCell ⟨lb, 2, none⟩ (.int .i64 rx)).setCell ⟨lb, 3, none⟩ (.slice a2 n2 c2))) := by
        have e : w.heap.size ≤ lb := by have := HB4.out.size; have := hq.2.2.1; omega
        exact (((HB7.out.setCell e _).setCell e _).setCell e _).setCell e _
      clear l0 l1 l2 l3 m0 m1 m2 m3 hH
      generalize (((w7.setCell ⟨lb, 0, none⟩ (.int .i64 fx)).setCell ⟨lb, 1, none⟩ (.slice a1 n1 c1)).setCell ⟨lb, 2, none⟩ (.int .i64 rx)).setCell ⟨lb, 3, none⟩ (.slice a2 n2 c2) = w8 at *
      have HR8 := Lib.hid ((hkc rb (by omega)).trans HR7.out)
      have HA8 : Hid (SeqAt w8 a1 (ns L.refs)) := HA7.out.off lb (fun q o e => (hq.2.2.2.1 q o e).2) _ hkc
      have HC8 : Hid (SeqAt w8 a2 (ns L.recs)) := HC7.out.off lb (fun q o e => (hq.2.2.2.2 q o e).2) _ hkc
      have HLA : Hid (LayAt w8 (.agg #[.int .i64 fx, .slice a1 n1 c1, .int .i64 rx, .slice a2 n2 c2]) L) := by
        have e := HFX.out
        refine ⟨a1, c1, a2, c2, by rw [← e.1, ← e.2.1, ← e.2.2.1, ← e.2.2.2], HA8.out, HC8.out⟩
      have y2 := (World.cell?_of_block (a := ⟨xb, xo + 2, none⟩) (hkc xb (by omega))).trans g2_7
      have y3 := (cells_of_block HLB.out 0).1
      have y4 := (cells_of_block HLB.out 1).1
      have y5 := (cells_of_block HLB.out 2).1
      have y6 := (cells_of_block HLB.out 3).1
      simp at y3 y4 y5 y6
      clear hkc hq
      go_wp2_with fail
      refine (HRT.out _ w8 HLA.out).mono ?_
      rintro e w9 ⟨rfl, hb9⟩
      have HB9 : Hid (Below w.heap.size w w9) := HB8.out.trans (hb9.mono HB8.out.size)
      have HL9 := Lib.hid ((hb9.block lb (Array.getElem?_eq_some_iff.1 HLB.out).1).trans HLB.out)
      have HR9 := Lib.hid ((hb9.block rb (Array.getElem?_eq_some_iff.1 HR8.out).1).trans HR8.out)
      have HA9 : Hid (SeqAt w9 a1 (ns L.refs)) := HA8.out.below hb9 (Nat.le_refl _)
      have HC9 : Hid (SeqAt w9 a2 (ns L.recs)) := HC8.out.below hb9 (Nat.le_refl _)
      have z3 := (cells_of_block HL9.out 0).1
      have z4 := (cells_of_block HL9.out 1).1
      have z5 := (cells_of_block HL9.out 2).1
      have z6 := (cells_of_block HL9.out 3).1
      simp at z3 z4 z5 z6
      have r0 := cells_of_block HR9.out 0
      have r1 := cells_of_block HR9.out 1
      have r2 := cells_of_block HR9.out 2
      have r3 := cells_of_block HR9.out 3
      simp at r0 r1 r2 r3
      obtain ⟨r0, q0⟩ := r0
      obtain ⟨r1, q1⟩ := r1
      obtain ⟨r2, q2⟩ := r2
      obtain ⟨r3, q3⟩ := r3
      clear hb9 y2 y3 y4 y5 y6
      go_wp2_with fail
      try simp only [Exit.inBlock, Exit.then]
      have hbk : ((((w9.setCell ⟨rb, 0, none⟩ (.int .i64 fx)).setCell ⟨rb, 1, none⟩ (.slice a1 n1 c1)).setCell ⟨rb, 2, none⟩ (.int .i64 rx)).setCell ⟨rb, 3, none⟩ (.slice a2 n2 c2)).heap[rb]? = some (.cells #[.int .i64 fx, .slice a1 n1 c1, .int .i64 rx, .slice a2 n2 c2] 60 (0, 0)) := by
        simpa using block_setCell (block_setCell (block_setCell (block_setCell HR9.out 0 (.int .i64 fx)) 1 (.slice a1 n1 c1)) 2 (.int .i64 rx)) 3 (.slice a2 n2 c2)
      have hkr : ∀ k, k ≠ rb → ((((w9.setCell ⟨rb, 0, none⟩ (.int .i64 fx)).setCell ⟨rb, 1, none⟩ (.slice a1 n1 c1)).setCell ⟨rb, 2, none⟩ (.int .i64 rx)).setCell ⟨rb, 3, none⟩ (.slice a2 n2 c2)).heap[k]? = w9.heap[k]? := fun k hk => by rw [Below.heap_setCell _ _ _ _ hk, Below.heap_setCell _ _ _ _ hk, Below.heap_setCell _ _ _ _ hk, Below.heap_setCell _ _ _ _ hk]
      have e : w.heap.size ≤ rb := Nat.le_of_eq HRE.out.symm
      have hlay : LayAt ((((w9.setCell ⟨rb, 0, none⟩ (.int .i64 fx)).setCell ⟨rb, 1, none⟩ (.slice a1 n1 c1)).setCell ⟨rb, 2, none⟩ (.int .i64 rx)).setCell ⟨rb, 3, none⟩ (.slice a2 n2 c2)) (.agg #[.int .i64 fx, .slice a1 n1 c1, .int .i64 rx, .slice a2 n2 c2]) L := by
        have e := HFX.out
        have h1 := HQ.out.1
        exact ⟨a1, c1, a2, c2, by rw [← e.1, ← e.2.1, ← e.2.2.1, ← e.2.2.2], HA9.out.off rb (fun q o e => by have := (HQ.out.2.2.2.1 q o e).1; omega) _ hkr, HC9.out.off rb (fun q o e => by have := (HQ.out.2.2.2.2 q o e).1; omega) _ hkr⟩
      exact bodyPost_ret (results_blk rfl _ _ rb _ _ _ _ rfl hbk Tryz.underlying60 rfl rfl) rfl ⟨_, rfl, hlay, (((HB9.out.setCell e _).setCell e _).setCell e _).setCell e _⟩
    · rw [if_pos (by rfl)]
      go_simp
      have hb : Below w5.heap.size w5 (w5.alloc (.cells #[.int .i64 0, .slice none 0 0, .int .i64 0, .slice none 0 0] 60)) := ((Below.refl _ w5).alloc (Nat.le_refl _) _)
      obtain ⟨lb, hlb⟩ : ∃ lb, lb = w5.heap.size := ⟨_, rfl⟩
      have HLE : Hid (lb = w5.heap.size) := hlb
      have HL6 : Hid ((w5.alloc (.cells #[.int .i64 0, .slice none 0 0, .int .i64 0, .slice none 0 0] 60)).heap[lb]? = some (.cells #[.int .i64 0, .slice none 0 0, .int .i64 0, .slice none 0 0] 60 (0, 0))) := by rw [hlb]; exact heap_alloc_new w5 _
      rw [← hlb]
      generalize (w5.alloc (.cells #[.int .i64 0, .slice none 0 0, .int .i64 0, .slice none 0 0] 60)) = w6 at *
      clear hlb
      have HLT : Hid (lb < w6.heap.size) := (Array.getElem?_eq_some_iff.1 HL6.out).1
      have HB6 : Hid (Below w.heap.size w w6) := HB5.out.trans (hb.mono HB5.out.size)
      have HR6 := Lib.hid ((hb.block rb (Array.getElem?_eq_some_iff.1 HR5.out).1).trans HR5.out)
      have HT6 : Hid (Tz w6) := tz_kept HTZ.out HB6.out.block
      have HZ6 : Hid (w5.heap.size ≤ w6.heap.size) := hb.size
      have g0_6 := (World.cell?_of_block (a := ⟨xb, xo, none⟩) (hb.block xb (World.block_lt_of_cell? w5 _ g0_5))).trans g0_5
      have g1_6 := (World.cell?_of_block (a := ⟨xb, xo + 1, none⟩) (hb.block xb (World.block_lt_of_cell? w5 _ g1_5))).trans g1_5
      have g2_6 := (World.cell?_of_block (a := ⟨xb, xo + 2, none⟩) (hb.block xb (World.block_lt_of_cell? w5 _ g2_5))).trans g2_5
      have f1_6 := (World.cell?_of_block (a := ⟨b, off + 1, none⟩) (hb.block b (World.block_lt_of_cell? w5 _ f1_5))).trans f1_5
      have f2_6 := (World.cell?_of_block (a := ⟨b, off + 2, none⟩) (hb.block b (World.block_lt_of_cell? w5 _ f2_5))).trans f2_5
      have HA6 : Hid (SeqAt w6 a1 (ns L.refs)) := HA5.out.below hb (Nat.le_refl _)
      clear hb
      refine hK.out _ _ ⟨g0_6, g1_6, f1_6, f2_6⟩ (fun hH => ?_)
      clear hK K
      try simp only [Act.put, List.setIfInBounds_toArray, List.set_cons_zero, List.set_cons_succ]
      refine wpAnyH_ready (rs := [15]) (by kernel_rfl) (by simp) (readyH rfl (fun K hK => ?_) AllReadyH.nil)
      rw [if_pos (by rfl)]
      go_simp
      refine (HS2.out w6 HT6.out).mono ?_
      rintro e w7 ⟨a2, c2, rfl, hs, hf, hb'⟩
      have hb : Below w6.heap.size w6 w7 := ⟨hb'.os, hb'.tape, hb'.output, hb'.size, hb'.block⟩
      have HFC : Hid (∀ q o, a2 = some ⟨q, o, none⟩ → w6.heap.size ≤ q ∧ q < w7.heap.size) := hf
      have HC7 := Lib.hid hs
      have HB7 : Hid (Below w.heap.size w w7) := HB6.out.trans (hb.mono HB6.out.size)
      have HR7 := Lib.hid ((hb.block rb (Array.getElem?_eq_some_iff.1 HR6.out).1).trans HR6.out)
      have HT7 : Hid (Tz w7) := tz_kept HTZ.out HB7.out.block
      have HZ7 : Hid (w6.heap.size ≤ w7.heap.size) := hb.size
      have g0_7 := (World.cell?_of_block (a := ⟨xb, xo, none⟩) (hb.block xb (World.block_lt_of_cell? w6 _ g0_6))).trans g0_6
      have g1_7 := (World.cell?_of_block (a := ⟨xb, xo + 1, none⟩) (hb.block xb (World.block_lt_of_cell? w6 _ g1_6))).trans g1_6
      have g2_7 := (World.cell?_of_block (a := ⟨xb, xo + 2, none⟩) (hb.block xb (World.block_lt_of_cell? w6 _ g2_6))).trans g2_6
      have f1_7 := (World.cell?_of_block (a := ⟨b, off + 1, none⟩) (hb.block b (World.block_lt_of_cell? w6 _ f1_6))).trans f1_6
      have f2_7 := (World.cell?_of_block (a := ⟨b, off + 2, none⟩) (hb.block b (World.block_lt_of_cell? w6 _ f2_6))).trans f2_6
      have HL7 := Lib.hid ((hb.block lb (Array.getElem?_eq_some_iff.1 HL6.out).1).trans HL6.out)
      have HA7 : Hid (SeqAt w7 a1 (ns L.refs)) := HA6.out.below hb (Nat.le_refl _)
      clear hs hf hb hb'
      refine hK.out _ _ ⟨g0_7, g1_7, f1_7, f2_7⟩ (fun hH => ?_)
      clear hK K
      try simp only [Act.put, List.setIfInBounds_toArray, List.set_cons_zero, List.set_cons_succ]
      have l0 := cells_of_block HL7.out 0
      have l1 := cells_of_block HL7.out 1
      have l2 := cells_of_block HL7.out 2
      have l3 := cells_of_block HL7.out 3
      simp at l0 l1 l2 l3
      obtain ⟨l0, m0⟩ := l0
      obtain ⟨l1, m1⟩ := l1
      obtain ⟨l2, m2⟩ := l2
      obtain ⟨l3, m3⟩ := l3
      refine takeH 16 (v := ?_) rfl (by kernel_rfl) (by kernel_rfl) (by kernel_rfl) (fun _ _ _ h => h) (by rfl) ?_ (by assumption) ?_
      rotate_left
      · intro W hW
        go_simp
        try with_reducible rfl
      try simp only [Act.put, List.setIfInBounds_toArray, List.set_cons_zero, List.set_cons_succ]
      refine takeH 18 (v := ?_) rfl (by kernel_rfl) (by kernel_rfl) (by kernel_rfl) (fun _ _ _ h => h) (by rfl) ?_ (by assumption) ?_
      rotate_left
      · intro W hW
        go_simp
        try with_reducible rfl
      try simp only [Act.put, List.setIfInBounds_toArray, List.set_cons_zero, List.set_cons_succ]
      refine lastH_done (by kernel_rfl) rfl (by rfl) ?_
      go_simp
      have hq : rb < w4.heap.size ∧ xb < w4.heap.size ∧ w4.heap.size ≤ lb ∧ (∀ q o, a1 = some ⟨q, o, none⟩ → w4.heap.size ≤ q ∧ q ≠ lb) ∧ (∀ q o, a2 = some ⟨q, o, none⟩ → w4.heap.size ≤ q ∧ q ≠ lb) := by
        have e1 := HLE.out
        have e2 := HLT.out
        have e5 := HZ5.out
        have e6 := HZ6.out
        have e7 := HZ7.out
        refine ⟨(Array.getElem?_eq_some_iff.1 HR4.out).1, World.block_lt_of_cell? w4 _ g0_4, by omega, fun q o e => ?_, fun q o e => ?_⟩
        · have := HFA.out q o e; omega
        · have := HFC.out q o e; omega
      have HQ := Lib.hid hq
      have HLB : Hid (((((w7.setCell ⟨lb, 0, none⟩ (.int .i64 fx)).setCell ⟨lb, 1, none⟩ (.slice a1 n1 c1)).setCell ⟨lb, 2, none⟩ (.int .i64 rx)).setCell ⟨lb, 3, none⟩ (.slice a2 n2 c2)).heap[lb]? = some (.cells #[.int .i64 fx, .slice a1 n1 c1, .int .i64 rx, .slice a2 n2 c2] 60 (0, 0))) := by
        show _ = _
        simpa using block_setCell (block_setCell (block_setCell (block_setCell HL7.out 0 (.int .i64 fx)) 1 (.slice a1 n1 c1)) 2 (.int .i64 rx)) 3 (.slice a2 n2 c2)
      have hkc : ∀ k, k ≠ lb → ((((w7.setCell ⟨lb, 0, none⟩ (.int .i64 fx)).setCell ⟨lb, 1, none⟩ (.slice a1 n1 c1)).setCell ⟨lb, 2, none⟩ (.int .i64 rx)).setCell ⟨lb, 3, none⟩ (.slice a2 n2 c2)).heap[k]? = w7.heap[k]? := fun k hk => by rw [Below.heap_setCell _ _ _ _ hk, Below.heap_setCell _ _ _ _ hk, Below.heap_setCell _ _ _ _ hk, Below.heap_setCell _ _ _ _ hk]
      have HB8 : Hid (Below w.heap.size w ((((w7.setCell ⟨lb, 0, none⟩ (.int .i64 fx)).setCell ⟨lb, 1, none⟩ (.slice a1 n1 c1)).setCell ⟨lb, 2, none⟩ (.int .i64 rx)).setCell ⟨lb, 3, none⟩ (.slice a2 n2 c2))) := by
        have e : w.heap.size ≤ lb := by have := HB4.out.size; have := hq.2.2.1; omega
        exact (((HB7.out.setCell e _).setCell e _).setCell e _).setCell e _
      clear l0 l1 l2 l3 m0 m1 m2 m3 hH
      generalize (((w7.setCell ⟨lb, 0, none⟩ (.int .i64 fx)).setCell ⟨lb, 1, none⟩ (.slice a1 n1 c1)).setCell ⟨lb, 2, none⟩ (.int .i64 rx)).setCell ⟨lb, 3, none⟩ (.slice a2 n2 c2) = w8 at *
      have HR8 := Lib.hid ((hkc rb (by omega)).trans HR7.out)
      have HA8 : Hid (SeqAt w8 a1 (ns L.refs)) := HA7.out.off lb (fun q o e => (hq.2.2.2.1 q o e).2) _ hkc
      have HC8 : Hid (SeqAt w8 a2 (ns L.recs)) := HC7.out.off lb (fun q o e => (hq.2.2.2.2 q o e).2) _ hkc
      have HLA : Hid (LayAt w8 (.agg #[.int .i64 fx, .slice a1 n1 c1, .int .i64 rx, .slice a2 n2 c2]) L) := by
        have e := HFX.out
        refine ⟨a1, c1, a2, c2, by rw [← e.1, ← e.2.1, ← e.2.2.1, ← e.2.2.2], HA8.out, HC8.out⟩
      have y2 := (World.cell?_of_block (a := ⟨xb, xo + 2, none⟩) (hkc xb (by omega))).trans g2_7
      have y3 := (cells_of_block HLB.out 0).1
      have y4 := (cells_of_block HLB.out 1).1
      have y5 := (cells_of_block HLB.out 2).1
      have y6 := (cells_of_block HLB.out 3).1
      simp at y3 y4 y5 y6
      clear hkc hq
      go_wp2_with fail
      refine (HRT.out _ w8 HLA.out).mono ?_
      rintro e w9 ⟨rfl, hb9⟩
      have HB9 : Hid (Below w.heap.size w w9) := HB8.out.trans (hb9.mono HB8.out.size)
      have HL9 := Lib.hid ((hb9.block lb (Array.getElem?_eq_some_iff.1 HLB.out).1).trans HLB.out)
      have HR9 := Lib.hid ((hb9.block rb (Array.getElem?_eq_some_iff.1 HR8.out).1).trans HR8.out)
      have HA9 : Hid (SeqAt w9 a1 (ns L.refs)) := HA8.out.below hb9 (Nat.le_refl _)
      have HC9 : Hid (SeqAt w9 a2 (ns L.recs)) := HC8.out.below hb9 (Nat.le_refl _)
      have z3 := (cells_of_block HL9.out 0).1
      have z4 := (cells_of_block HL9.out 1).1
      have z5 := (cells_of_block HL9.out 2).1
      have z6 := (cells_of_block HL9.out 3).1
      simp at z3 z4 z5 z6
      have r0 := cells_of_block HR9.out 0
      have r1 := cells_of_block HR9.out 1
      have r2 := cells_of_block HR9.out 2
      have r3 := cells_of_block HR9.out 3
      simp at r0 r1 r2 r3
      obtain ⟨r0, q0⟩ := r0
      obtain ⟨r1, q1⟩ := r1
      obtain ⟨r2, q2⟩ := r2
      obtain ⟨r3, q3⟩ := r3
      clear hb9 y2 y3 y4 y5 y6
      go_wp2_with fail
      try simp only [Exit.inBlock, Exit.then]
      have hbk : ((((w9.setCell ⟨rb, 0, none⟩ (.int .i64 fx)).setCell ⟨rb, 1, none⟩ (.slice a1 n1 c1)).setCell ⟨rb, 2, none⟩ (.int .i64 rx)).setCell ⟨rb, 3, none⟩ (.slice a2 n2 c2)).heap[rb]? = some (.cells #[.int .i64 fx, .slice a1 n1 c1, .int .i64 rx, .slice a2 n2 c2] 60 (0, 0)) := by
        simpa using block_setCell (block_setCell (block_setCell (block_setCell HR9.out 0 (.int .i64 fx)) 1 (.slice a1 n1 c1)) 2 (.int .i64 rx)) 3 (.slice a2 n2 c2)
      have hkr : ∀ k, k ≠ rb → ((((w9.setCell ⟨rb, 0, none⟩ (.int .i64 fx)).setCell ⟨rb, 1, none⟩ (.slice a1 n1 c1)).setCell ⟨rb, 2, none⟩ (.int .i64 rx)).setCell ⟨rb, 3, none⟩ (.slice a2 n2 c2)).heap[k]? = w9.heap[k]? := fun k hk => by rw [Below.heap_setCell _ _ _ _ hk, Below.heap_setCell _ _ _ _ hk, Below.heap_setCell _ _ _ _ hk, Below.heap_setCell _ _ _ _ hk]
      have e : w.heap.size ≤ rb := Nat.le_of_eq HRE.out.symm
      have hlay : LayAt ((((w9.setCell ⟨rb, 0, none⟩ (.int .i64 fx)).setCell ⟨rb, 1, none⟩ (.slice a1 n1 c1)).setCell ⟨rb, 2, none⟩ (.int .i64 rx)).setCell ⟨rb, 3, none⟩ (.slice a2 n2 c2)) (.agg #[.int .i64 fx, .slice a1 n1 c1, .int .i64 rx, .slice a2 n2 c2]) L := by
        have e := HFX.out
        have h1 := HQ.out.1
        exact ⟨a1, c1, a2, c2, by rw [← e.1, ← e.2.1, ← e.2.2.1, ← e.2.2.2], HA9.out.off rb (fun q o e => by have := (HQ.out.2.2.2.1 q o e).1; omega) _ hkr, HC9.out.off rb (fun q o e => by have := (HQ.out.2.2.2.2 q o e).1; omega) _ hkr⟩
      exact bodyPost_ret (results_blk rfl _ _ rb _ _ _ _ rfl hbk Tryz.underlying60 rfl rfl) rfl ⟨_, rfl, hlay, (((HB9.out.setCell e _).setCell e _).setCell e _).setCell e _⟩
  · rw [if_pos (by rfl)]
    go_simp
    have hb : Below w4.heap.size w4 (w4.alloc (.cells #[.int .i64 0, .slice none 0 0, .int .i64 0, .slice none 0 0] 60)).drew := ((Below.refl _ w4).alloc (Nat.le_refl _) _).drew
    obtain ⟨lb, hlb⟩ : ∃ lb, lb = w4.heap.size := ⟨_, rfl⟩
    have HLE : Hid (lb = w4.heap.size) := hlb
    have HL5 : Hid ((w4.alloc (.cells #[.int .i64 0, .slice none 0 0, .int .i64 0, .slice none 0 0] 60)).drew.heap[lb]? = some (.cells #[.int .i64 0, .slice none 0 0, .int .i64 0, .slice none 0 0] 60 (0, 0))) := by rw [hlb]; exact heap_alloc_new w4 _
    rw [← hlb]
    generalize (w4.alloc (.cells #[.int .i64 0, .slice none 0 0, .int .i64 0, .slice none 0 0] 60)).drew = w5 at *
    clear hlb
    have HLT : Hid (lb < w5.heap.size) := (Array.getElem?_eq_some_iff.1 HL5.out).1
    have HB5 : Hid (Below w.heap.size w w5) := HB4.out.trans (hb.mono HB4.out.size)
    have HR5 := Lib.hid ((hb.block rb (Array.getElem?_eq_some_iff.1 HR4.out).1).trans HR4.out)
    have HT5 : Hid (Tz w5) := tz_kept HTZ.out HB5.out.block
    have HZ5 : Hid (w4.heap.size ≤ w5.heap.size) := hb.size
    have g0_5 := (World.cell?_of_block (a := ⟨xb, xo, none⟩) (hb.block xb (World.block_lt_of_cell? w4 _ g0_4))).trans g0_4
    have g1_5 := (World.cell?_of_block (a := ⟨xb, xo + 1, none⟩) (hb.block xb (World.block_lt_of_cell? w4 _ g1_4))).trans g1_4
    have g2_5 := (World.cell?_of_block (a := ⟨xb, xo + 2, none⟩) (hb.block xb (World.block_lt_of_cell? w4 _ g2_4))).trans g2_4
    have f1_5 := (World.cell?_of_block (a := ⟨b, off + 1, none⟩) (hb.block b (World.block_lt_of_cell? w4 _ f1_4))).trans f1_4
    have f2_5 := (World.cell?_of_block (a := ⟨b, off + 2, none⟩) (hb.block b (World.block_lt_of_cell? w4 _ f2_4))).trans f2_4
    clear hb
    refine hK.out _ _ ⟨g0_5, g1_5, f1_5, f2_5⟩ (fun hH => ?_)
    clear hK K
    try simp only [Act.put, List.setIfInBounds_toArray, List.set_cons_zero, List.set_cons_succ]
    refine wpAnyH_ready (rs := [7]) (by kernel_rfl) (by simp) (readyH rfl (fun K hK => ?_) AllReadyH.nil)
    rw [if_pos (by rfl)]
    go_simp
    refine (HS1.out w5 HT5.out).mono ?_
    rintro e w6 ⟨a1, c1, rfl, hs, hf, hb'⟩
    have hb : Below w5.heap.size w5 w6 := ⟨hb'.os, hb'.tape, hb'.output, hb'.size, hb'.block⟩
    have HFA : Hid (∀ q o, a1 = some ⟨q, o, none⟩ → w5.heap.size ≤ q ∧ q < w6.heap.size) := hf
    have HA6 := Lib.hid hs
    have HB6 : Hid (Below w.heap.size w w6) := HB5.out.trans (hb.mono HB5.out.size)
    have HR6 := Lib.hid ((hb.block rb (Array.getElem?_eq_some_iff.1 HR5.out).1).trans HR5.out)
    have HT6 : Hid (Tz w6) := tz_kept HTZ.out HB6.out.block
    have HZ6 : Hid (w5.heap.size ≤ w6.heap.size) := hb.size
    have g0_6 := (World.cell?_of_block (a := ⟨xb, xo, none⟩) (hb.block xb (World.block_lt_of_cell? w5 _ g0_5))).trans g0_5
    have g1_6 := (World.cell?_of_block (a := ⟨xb, xo + 1, none⟩) (hb.block xb (World.block_lt_of_cell? w5 _ g1_5))).trans g1_5
    have g2_6 := (World.cell?_of_block (a := ⟨xb, xo + 2, none⟩) (hb.block xb (World.block_lt_of_cell? w5 _ g2_5))).trans g2_5
    have f1_6 := (World.cell?_of_block (a := ⟨b, off + 1, none⟩) (hb.block b (World.block_lt_of_cell? w5 _ f1_5))).trans f1_5
    have f2_6 := (World.cell?_of_block (a := ⟨b, off + 2, none⟩) (hb.block b (World.block_lt_of_cell? w5 _ f2_5))).trans f2_5
    have HL6 := Lib.hid ((hb.block lb (Array.getElem?_eq_some_iff.1 HL5.out).1).trans HL5.out)
    clear hs hf hb hb'
    refine hK.out _ _ ⟨g0_6, g1_6, f1_6, f2_6⟩ (fun hH => ?_)
    clear hK K
    try simp only [Act.put, List.setIfInBounds_toArray, List.set_cons_zero, List.set_cons_succ]
    refine wpAnyH_ready (rs := [15]) (by kernel_rfl) (by simp) (readyH rfl (fun K hK => ?_) AllReadyH.nil)
    rw [if_pos (by rfl)]
    go_simp
    refine (HS2.out w6 HT6.out).mono ?_
    rintro e w7 ⟨a2, c2, rfl, hs, hf, hb'⟩
    have hb : Below w6.heap.size w6 w7 := ⟨hb'.os, hb'.tape, hb'.output, hb'.size, hb'.block⟩
    have HFC : Hid (∀ q o, a2 = some ⟨q, o, none⟩ → w6.heap.size ≤ q ∧ q < w7.heap.size) := hf
    have HC7 := Lib.hid hs
    have HB7 : Hid (Below w.heap.size w w7) := HB6.out.trans (hb.mono HB6.out.size)
    have HR7 := Lib.hid ((hb.block rb (Array.getElem?_eq_some_iff.1 HR6.out).1).trans HR6.out)
    have HT7 : Hid (Tz w7) := tz_kept HTZ.out HB7.out.block
    have HZ7 : Hid (w6.heap.size ≤ w7.heap.size) := hb.size
    have g0_7 := (World.cell?_of_block (a := ⟨xb, xo, none⟩) (hb.block xb (World.block_lt_of_cell? w6 _ g0_6))).trans g0_6
    have g1_7 := (World.cell?_of_block (a := ⟨xb, xo + 1, none⟩) (hb.block xb (World.block_lt_of_cell? w6 _ g1_6))).trans g1_6
    have g2_7 := (World.cell?_of_block (a := ⟨xb, xo + 2, none⟩) (hb.block xb (World.block_lt_of_cell? w6 _ g2_6))).trans g2_6
    have f1_7 := (World.cell?_of_block (a := ⟨b, off + 1, none⟩) (hb.block b (World.block_lt_of_cell? w6 _ f1_6))).trans f1_6
    have f2_7 := (World.cell?_of_block (a := ⟨b, off + 2, none⟩) (hb.block b (World.block_lt_of_cell? w6 _ f2_6))).trans f2_6
    have HL7 := Lib.hid ((hb.block lb (Array.getElem?_eq_some_iff.1 HL6.out).1).trans HL6.out)
    have HA7 : Hid (SeqAt w7 a1 (ns L.refs)) := HA6.out.below hb (Nat.le_refl _)
    clear hs hf hb hb'
    refine hK.out _ _ ⟨g0_7, g1_7, f1_7, f2_7⟩ (fun hH => ?_)
    clear hK K
    try simp only [Act.put, List.setIfInBounds_toArray, List.set_cons_zero, List.set_cons_succ]
    have l0 := cells_of_block HL7.out 0
    have l1 := cells_of_block HL7.out 1
    have l2 := cells_of_block HL7.out 2
    have l3 := cells_of_block HL7.out 3
    simp at l0 l1 l2 l3
    obtain ⟨l0, m0⟩ := l0
    obtain ⟨l1, m1⟩ := l1
    obtain ⟨l2, m2⟩ := l2
    obtain ⟨l3, m3⟩ := l3
    refine takeH 16 (v := ?_) rfl (by kernel_rfl) (by kernel_rfl) (by kernel_rfl) (fun _ _ _ h => h) (by rfl) ?_ (by assumption) ?_
    rotate_left
    · intro W hW
      go_simp
      try with_reducible rfl
    try simp only [Act.put, List.setIfInBounds_toArray, List.set_cons_zero, List.set_cons_succ]
    refine takeH 18 (v := ?_) rfl (by kernel_rfl) (by kernel_rfl) (by kernel_rfl) (fun _ _ _ h => h) (by rfl) ?_ (by assumption) ?_
    rotate_left
    · intro W hW
      go_simp
      try with_reducible rfl
    try simp only [Act.put, List.setIfInBounds_toArray, List.set_cons_zero, List.set_cons_succ]
    refine lastH_done (by kernel_rfl) rfl (by rfl) ?_
    go_simp
    have hq : rb < w4.heap.size ∧ xb < w4.heap.size ∧ w4.heap.size ≤ lb ∧ (∀ q o, a1 = some ⟨q, o, none⟩ → w4.heap.size ≤ q ∧ q ≠ lb) ∧ (∀ q o, a2 = some ⟨q, o, none⟩ → w4.heap.size ≤ q ∧ q ≠ lb) := by
      have e1 := HLE.out
      have e2 := HLT.out
      have e5 := HZ5.out
      have e6 := HZ6.out
      have e7 := HZ7.out
      refine ⟨(Array.getElem?_eq_some_iff.1 HR4.out).1, World.block_lt_of_cell? w4 _ g0_4, by omega, fun q o e => ?_, fun q o e => ?_⟩
      · have := HFA.out q o e; omega
      · have := HFC.out q o e; omega
    have HQ := Lib.hid hq
    have HLB : Hid (((((w7.setCell ⟨lb, 0, none⟩ (.int .i64 fx)).setCell ⟨lb, 1, none⟩ (.slice a1 n1 c1)).setCell ⟨lb, 2, none⟩ (.int .i64 rx)).setCell ⟨lb, 3, none⟩ (.slice a2 n2 c2)).heap[lb]? = some (.cells #[.int .i64 fx, .slice a1 n1 c1, .int .i64 rx, .slice a2 n2 c2] 60 (0, 0))) := by
      show _ = _
      simpa using block_setCell (block_setCell (block_setCell (block_setCell HL7.out 0 (.int .i64 fx)) 1 (.slice a1 n1 c1)) 2 (.int .i64 rx)) 3 (.slice a2 n2 c2)
    have hkc : ∀ k, k ≠ lb → ((((w7.setCell ⟨lb, 0, none⟩ (.int .i64 fx)).setCell ⟨lb, 1, none⟩ (.slice a1 n1 c1)).setCell ⟨lb, 2, none⟩ (.int .i64 rx)).setCell ⟨lb, 3, none⟩ (.slice a2 n2 c2)).heap[k]? = w7.heap[k]? := fun k hk => by rw [Below.heap_setCell _ _ _ _ hk, Below.heap_setCell _ _ _ _ hk, Below.heap_setCell _ _ _ _ hk, Below.heap_setCell _ _ _ _ hk]
    have HB8 : Hid (Below w.heap.size w ((((w7.setCell ⟨lb, 0, none⟩ (.int .i64 fx)).setCell ⟨lb, 1, none⟩ (.slice a1 n1 c1)).setCell ⟨lb, 2, none⟩ (.int .i64 rx)).setCell ⟨lb, 3, none⟩ (.slice a2 n2 c2))) := by
      have e : w.heap.size ≤ lb := by have := HB4.out.size; have := hq.2.2.1; omega
      exact (((HB7.out.setCell e _).setCell e _).setCell e _).setCell e _
    clear l0 l1 l2 l3 m0 m1 m2 m3 hH
    generalize (((w7.setCell ⟨lb, 0, none⟩ (.int .i64 fx)).setCell ⟨lb, 1, none⟩ (.slice a1 n1 c1)).setCell ⟨lb, 2, none⟩ (.int .i64 rx)).setCell ⟨lb, 3, none⟩ (.slice a2 n2 c2) = w8 at *
    have HR8 := Lib.hid ((hkc rb (by omega)).trans HR7.out)
    have HA8 : Hid (SeqAt w8 a1 (ns L.refs)) := HA7.out.off lb (fun q o e => (hq.2.2.2.1 q o e).2) _ hkc
    have HC8 : Hid (SeqAt w8 a2 (ns L.recs)) := HC7.out.off lb (fun q o e => (hq.2.2.2.2 q o e).2) _ hkc
    have HLA : Hid (LayAt w8 (.agg #[.int .i64 fx, .slice a1 n1 c1, .int .i64 rx, .slice a2 n2 c2]) L) := by
      have e := HFX.out
      refine ⟨a1, c1, a2, c2, by rw [← e.1, ← e.2.1, ← e.2.2.1, ← e.2.2.2], HA8.out, HC8.out⟩
    have y2 := (World.cell?_of_block (a := ⟨xb, xo + 2, none⟩) (hkc xb (by omega))).trans g2_7
    have y3 := (cells_of_block HLB.out 0).1
    have y4 := (cells_of_block HLB.out 1).1
    have y5 := (cells_of_block HLB.out 2).1
    have y6 := (cells_of_block HLB.out 3).1
    simp at y3 y4 y5 y6
    clear hkc hq
    go_wp2_with fail
    refine (HRT.out _ w8 HLA.out).mono ?_
    rintro e w9 ⟨rfl, hb9⟩
    have HB9 : Hid (Below w.heap.size w w9) := HB8.out.trans (hb9.mono HB8.out.size)
    have HL9 := Lib.hid ((hb9.block lb (Array.getElem?_eq_some_iff.1 HLB.out).1).trans HLB.out)
    have HR9 := Lib.hid ((hb9.block rb (Array.getElem?_eq_some_iff.1 HR8.out).1).trans HR8.out)
    have HA9 : Hid (SeqAt w9 a1 (ns L.refs)) := HA8.out.below hb9 (Nat.le_refl _)
    have HC9 : Hid (SeqAt w9 a2 (ns L.recs)) := HC8.out.below hb9 (Nat.le_refl _)
    have z3 := (cells_of_block HL9.out 0).1
    have z4 := (cells_of_block HL9.out 1).1
    have z5 := (cells_of_block HL9.out 2).1
    have z6 := (cells_of_block HL9.out 3).1
    simp at z3 z4 z5 z6
    have r0 := cells_of_block HR9.out 0
    have r1 := cells_of_block HR9.out 1
    have r2 := cells_of_block HR9.out 2
    have r3 := cells_of_block HR9.out 3
    simp at r0 r1 r2 r3
    obtain ⟨r0, q0⟩ := r0
    obtain ⟨r1, q1⟩ := r1
    obtain ⟨r2, q2⟩ := r2
    obtain ⟨r3, q3⟩ := r3
    clear hb9 y2 y3 y4 y5 y6
    go_wp2_with fail
    try simp only [Exit.inBlock, Exit.then]
    have hbk : ((((w9.setCell ⟨rb, 0, none⟩ (.int .i64 fx)).setCell ⟨rb, 1, none⟩ (.slice a1 n1 c1)).setCell ⟨rb, 2, none⟩ (.int .i64 rx)).setCell ⟨rb, 3, none⟩ (.slice a2 n2 c2)).heap[rb]? = some (.cells #[.int .i64 fx, .slice a1 n1 c1, .int .i64 rx, .slice a2 n2 c2] 60 (0, 0)) := by
      simpa using block_setCell (block_setCell (block_setCell (block_setCell HR9.out 0 (.int .i64 fx)) 1 (.slice a1 n1 c1)) 2 (.int .i64 rx)) 3 (.slice a2 n2 c2)
    have hkr : ∀ k, k ≠ rb → ((((w9.setCell ⟨rb, 0, none⟩ (.int .i64 fx)).setCell ⟨rb, 1, none⟩ (.slice a1 n1 c1)).setCell ⟨rb, 2, none⟩ (.int .i64 rx)).setCell ⟨rb, 3, none⟩ (.slice a2 n2 c2)).heap[k]? = w9.heap[k]? := fun k hk => by rw [Below.heap_setCell _ _ _ _ hk, Below.heap_setCell _ _ _ _ hk, Below.heap_setCell _ _ _ _ hk, Below.heap_setCell _ _ _ _ hk]
    have e : w.heap.size ≤ rb := Nat.le_of_eq HRE.out.symm
    have hlay : LayAt ((((w9.setCell ⟨rb, 0, none⟩ (.int .i64 fx)).setCell ⟨rb, 1, none⟩ (.slice a1 n1 c1)).setCell ⟨rb, 2, none⟩ (.int .i64 rx)).setCell ⟨rb, 3, none⟩ (.slice a2 n2 c2)) (.agg #[.int .i64 fx, .slice a1 n1 c1, .int .i64 rx, .slice a2 n2 c2]) L := by
      have e := HFX.out
      have h1 := HQ.out.1
      exact ⟨a1, c1, a2, c2, by rw [← e.1, ← e.2.1, ← e.2.2.1, ← e.2.2.2], HA9.out.off rb (fun q o e => by have := (HQ.out.2.2.2.1 q o e).1; omega) _ hkr, HC9.out.off rb (fun q o e => by have := (HQ.out.2.2.2.2 q o e).1; omega) _ hkr⟩
    exact bodyPost_ret (results_blk rfl _ _ rb _ _ _ _ rfl hbk Tryz.underlying60 rfl rfl) rfl ⟨_, rfl, hlay, (((HB9.out.setCell e _).setCell e _).setCell e _).setCell e _⟩
end Go.Proofs.YtcdpnfchmpncjaaGreatDoor
