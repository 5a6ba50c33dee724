/-
  Parts of the proof, one behind the other: KHead2, KHead3, KHead4.
-/
import Derived.Test.YtcdpnfchmpncjaaGreatDoorMa17
set_option linter.unusedSimpArgs false
set_option linter.unusedVariables false
namespace Go.Tr
open Go.RowKit
theorem SeqAt.of_block {w : World} {b : Nat} {cs : List Value} {T : TypeId} (h : w.heap[b]? = some (.cells cs.toArray T (0, 0))) : SeqAt w (some ⟨b, 0, none⟩) cs := fun _ => ⟨b, 0, rfl, fun j hj => by
  rw [Nat.zero_add, cell_of_row w b j _ _ (0, 0) h, List.getElem?_toArray]
  simp [List.getD, List.getElem?_eq_getElem hj]⟩
end Go.Tr
namespace Go.Proofs.YtcdpnfchmpncjaaGreatDoor
open Go.RowKit Go.Tr Go.Shelf
variable {w w' : World}
theorem hpack_any {slot count layout : Nat} (h1 : 1 ≤ layout) (h2 : layout ≤ 64) (h3 : count ≤ 1024) (h4 : slot < 4096) (fb ub : Nat) (W : World) (hf : W.heap[fb]? = some (.cells (pcells hfs).toArray 212 (0, 0))) (hu : W.heap[ub]? = some (.cells #[.int .u64 slot, .int .u64 count, .int .u64 layout, .int .u64 0, .int .u64 165] 34 (0, 0))) :
    Calls Tryz.prog 176 #[.slice (some ⟨fb, 0, none⟩) 5 5, .slice (some ⟨ub, 0, none⟩) 5 5] W fun e w' => e = .returned (.tuple #[.int .u64 (hdrN slot count layout : Nat), .int .i64 0]) ∧ Below W.heap.size W w' := by
  have := fpack_any hfs [slot, count, layout, 0, 165] (some ⟨fb, 0, none⟩) (some ⟨ub, 0, none⟩) 5 5 5 W (SeqAt.of_block hf) (SeqAt.of_block (T := 34) hu) rfl rfl (by decide) hfs_ok (fun k f x hk hx => by
    rcases k with _ | _ | _ | _ | _ | k
    · simp [hfs] at hk hx; subst hk hx; simp only; omega
    · simp [hfs] at hk hx; subst hk hx; simp only; omega
    · simp [hfs] at hk hx; subst hk hx; simp only; omega
    · simp [hfs] at hk hx; subst hk hx; decide
    · simp [hfs] at hk hx; subst hk hx; decide
    · simp [hfs] at hk)
  rw [hdr_pack (by omega) (by omega) (by omega)] at this
  exact this
set_option maxRecDepth 100000 in
theorem hencode_any (layout count slot : Nat) (w : World) (h1 : 1 ≤ layout) (h2 : layout ≤ 64) (h3 : count ≤ 1024) (h4 : slot < 4096) : Calls Tryz.prog 133 #[.agg #[.int .i64 layout, .int .i64 count, .int .i64 slot]] w fun e w' => e = .returned (.tuple #[.int .u64 (hdrN slot count layout : Nat), .int .i64 0]) ∧ Below w.heap.size w w' := by
  have hw1 : IntKind.u64.wrap (slot : Int) = (slot : Int) := by rw [IntWalk.u64_in _ (by omega)]
  have hw2 : IntKind.u64.wrap (count : Int) = (count : Int) := by rw [IntWalk.u64_in _ (by omega)]
  have hw3 : IntKind.u64.wrap (layout : Int) = (layout : Int) := by rw [IntWalk.u64_in _ (by omega)]
  have HMAY := Lib.hid (hmay_any layout count slot · h1 h2 h3 h4)
  have HPK := Lib.hid (@hpack_any slot count layout h1 h2 h3 h4)
  go_enter Tryz.func133, Tryz.ntmps133
  go_wp2_with fail
  have HBA : Hid (Below w.heap.size w (w.alloc (.cells #[.int .i64 layout, .int .i64 count, .int .i64 slot] 128))) := (Below.refl _ w).alloc (Nat.le_refl _) _
  obtain ⟨xb, hxb⟩ : ∃ xb, xb = w.heap.size := ⟨_, rfl⟩
  have HXB : Hid ((w.alloc (.cells #[.int .i64 layout, .int .i64 count, .int .i64 slot] 128)).heap[xb]? = some (.cells #[.int .i64 layout, .int .i64 count, .int .i64 slot] 128 (0, 0))) := by rw [hxb]; exact heap_alloc_new _ _
  rw [← hxb]
  rw [← hxb] at HBA
  generalize w.alloc (.cells #[.int .i64 layout, .int .i64 count, .int .i64 slot] 128) = wa at *
  refine (HMAY.out wa).mono ?_
  rintro e w1 ⟨rfl, hb1⟩
  have hxl := (Array.getElem?_eq_some_iff.1 HXB.out).1
  have HB1 : Hid (Below w.heap.size w w1) := by rw [← hxb]; exact HBA.out.trans (hb1.mono (by omega))
  have HX1 := Lib.hid ((hb1.block xb hxl).trans HXB.out)
  have x0 := (cells_of_block HX1.out 0).1
  have x1 := (cells_of_block HX1.out 1).1
  have x2 := (cells_of_block HX1.out 2).1
  simp at x0 x1 x2
  clear hb1 hxl hxb
  go_wp2_with fail
  refine wp_region_held_drew (S := fun W => W.cell? ⟨xb, 0, none⟩ = some (.int .i64 layout) ∧ W.cell? ⟨xb, 1, none⟩ = some (.int .i64 count) ∧ W.cell? ⟨xb, 2, none⟩ = some (.int .i64 slot)) (by kernel_rfl) ⟨x0, x1, x2⟩ (fun hH => ?_)
  refine takeH 1 (v := ?_) rfl (by kernel_rfl) (by kernel_rfl) (by kernel_rfl) (fun _ _ _ h => h) (by rfl) ?_ (by assumption) ?_
  rotate_left
  · intro W hW
    go_simp
    try with_reducible rfl
  try simp only [Act.put, List.setIfInBounds_toArray, List.set_cons_zero, List.set_cons_succ]
  refine takeH 2 (v := ?_) rfl (by kernel_rfl) (by kernel_rfl) (by kernel_rfl) (fun _ _ _ h => h) (by rfl) ?_ (by assumption) ?_
  rotate_left
  · intro W hW
    go_simp
    try with_reducible rfl
  try simp only [Act.put, List.setIfInBounds_toArray, List.set_cons_zero, List.set_cons_succ]
  refine takeH 3 (v := ?_) rfl (by kernel_rfl) (by kernel_rfl) (by kernel_rfl) (fun _ _ _ h => h) (by rfl) ?_ (by assumption) ?_
  rotate_left
  · intro W hW
    go_simp
    try with_reducible rfl
  try simp only [Act.put, List.setIfInBounds_toArray, List.set_cons_zero, List.set_cons_succ]
  refine takeH 4 (v := ?_) rfl (by kernel_rfl) (by kernel_rfl) (by kernel_rfl) (fun _ _ _ h => h) (by rfl) ?_ (by assumption) ?_
  rotate_left
  · intro W hW
    go_simp
    try with_reducible rfl
  try simp only [Act.put, List.setIfInBounds_toArray, List.set_cons_zero, List.set_cons_succ]
  refine takeH 5 (v := ?_) rfl (by kernel_rfl) (by kernel_rfl) (by kernel_rfl) (fun _ _ _ h => h) (by rfl) ?_ (by assumption) ?_
  rotate_left
  · intro W hW
    go_simp
    try with_reducible rfl
  try simp only [Act.put, List.setIfInBounds_toArray, List.set_cons_zero, List.set_cons_succ]
  refine takeH 6 (v := ?_) rfl (by kernel_rfl) (by kernel_rfl) (by kernel_rfl) (fun _ _ _ h => h) (by rfl) ?_ (by assumption) ?_
  rotate_left
  · intro W hW
    go_simp
    try with_reducible rfl
  try simp only [Act.put, List.setIfInBounds_toArray, List.set_cons_zero, List.set_cons_succ]
  refine takeH 7 (v := ?_) rfl (by kernel_rfl) (by kernel_rfl) (by kernel_rfl) (fun _ _ _ h => h) (by rfl) ?_ (by assumption) ?_
  rotate_left
  · intro W hW
    go_simp
    try with_reducible rfl
  try simp only [Act.put, List.setIfInBounds_toArray, List.set_cons_zero, List.set_cons_succ]
  refine takeH 8 (v := ?_) rfl (by kernel_rfl) (by kernel_rfl) (by kernel_rfl) (fun _ _ _ h => h) (by rfl) ?_ (by assumption) ?_
  rotate_left
  · intro W hW
    go_simp
    try with_reducible rfl
  try simp only [Act.put, List.setIfInBounds_toArray, List.set_cons_zero, List.set_cons_succ]
  refine takeH 9 (v := ?_) rfl (by kernel_rfl) (by kernel_rfl) (by kernel_rfl) (fun _ _ _ h => h) (by rfl) ?_ (by assumption) ?_
  rotate_left
  · intro W hW
    go_simp
    try with_reducible rfl
  try simp only [Act.put, List.setIfInBounds_toArray, List.set_cons_zero, List.set_cons_succ]
  have hxl1 : xb < w1.heap.size := (Array.getElem?_eq_some_iff.1 HX1.out).1
  refine wpAnyH_ready (rs := [0, 10]) (by kernel_rfl) (by simp) (readyH rfl (fun K hK => ?_) (readyH rfl (fun K hK => ?_) AllReadyH.nil))
  · rw [if_pos (by rfl)]
    go_simp
    refine (hfields_any _).mono ?_
    rintro e w2 ⟨rfl, rfl⟩
    have hx2 : (w1.drew.alloc (.cells (pcells hfs).toArray 212)).heap[xb]? = w1.heap[xb]? := Below.heap_alloc _ _ _ hxl1
    refine hK.out _ _ ⟨(World.cell?_of_block (a := ⟨xb, 0, none⟩) hx2).trans x0, (World.cell?_of_block (a := ⟨xb, 1, none⟩) hx2).trans x1, (World.cell?_of_block (a := ⟨xb, 2, none⟩) hx2).trans x2⟩ (fun hH => ?_)
    clear hK K
    try simp only [Act.put, List.setIfInBounds_toArray, List.set_cons_zero, List.set_cons_succ]
    refine wpAnyH_ready (rs := [10]) (by kernel_rfl) (by simp) (readyH rfl (fun K hK => ?_) AllReadyH.nil)
    rw [if_pos (by rfl)]
    go_simp
    have hx3 : ((w1.alloc (.cells (pcells hfs).toArray 212)).alloc (.cells #[.int .u64 slot, .int .u64 count, .int .u64 layout, .int .u64 0, .int .u64 165] 34)).heap[xb]? = w1.heap[xb]? := (Below.heap_alloc _ _ _ (by simp; omega)).trans hx2
    have HB3 : Hid (Below w.heap.size w (((w1.alloc (.cells (pcells hfs).toArray 212)).alloc (.cells #[.int .u64 slot, .int .u64 count, .int .u64 layout, .int .u64 0, .int .u64 165] 34)).drew)) := ((HB1.out.alloc HB1.out.size _).alloc (by have := HB1.out.size; simp; omega) _).drew
    refine hK.out _ _ ⟨(World.cell?_of_block (a := ⟨xb, 0, none⟩) hx3).trans x0, (World.cell?_of_block (a := ⟨xb, 1, none⟩) hx3).trans x1, (World.cell?_of_block (a := ⟨xb, 2, none⟩) hx3).trans x2⟩ (fun hH => ?_)
    clear hK K
    try simp only [Act.put, List.setIfInBounds_toArray, List.set_cons_zero, List.set_cons_succ]
    refine wpAnyH_ready (rs := [11]) (by kernel_rfl) (by simp) (readyH rfl (fun K hK => ?_) AllReadyH.nil)
    rw [if_pos (by rfl)]
    go_simp
    refine (HPK.out w1.heap.size (w1.heap.size + 1) _ ?hf ?hu).mono ?_
    case hf => exact (Below.heap_alloc (w1.alloc _) _ _ (by simp)).trans (heap_alloc_new w1 _)
    case hu => exact heap_alloc2_new w1 _ _
    rintro e w4 ⟨rfl, hb4⟩
    have HB4 : Hid (Below w.heap.size w w4) := HB3.out.trans (hb4.mono HB3.out.size)
    have hx4 : w4.heap[xb]? = w1.heap[xb]? := (hb4.block xb (by simp; omega)).trans hx3
    clear hb4
    refine hK.out _ _ ⟨(World.cell?_of_block (a := ⟨xb, 0, none⟩) hx4).trans x0, (World.cell?_of_block (a := ⟨xb, 1, none⟩) hx4).trans x1, (World.cell?_of_block (a := ⟨xb, 2, none⟩) hx4).trans x2⟩ (fun hH => ?_)
    clear hK K
    try simp only [Act.put, List.setIfInBounds_toArray, List.set_cons_zero, List.set_cons_succ]
    refine takeH 12 (v := ?_) rfl (by kernel_rfl) (by kernel_rfl) (by kernel_rfl) (fun _ _ _ h => h) (by rfl) ?_ (by assumption) ?_
    rotate_left
    · intro W hW
      go_simp
      try with_reducible rfl
    try simp only [Act.put, List.setIfInBounds_toArray, List.set_cons_zero, List.set_cons_succ]
    refine takeH 13 (v := ?_) rfl (by kernel_rfl) (by kernel_rfl) (by kernel_rfl) (fun _ _ _ h => h) (by rfl) ?_ (by assumption) ?_
    rotate_left
    · intro W hW
      go_simp
      try with_reducible rfl
    try simp only [Act.put, List.setIfInBounds_toArray, List.set_cons_zero, List.set_cons_succ]
    refine takeH 14 (v := ?_) rfl (by kernel_rfl) (by kernel_rfl) (by kernel_rfl) (fun _ _ _ h => h) (by rfl) ?_ (by assumption) ?_
    rotate_left
    · intro W hW
      go_simp
      try with_reducible rfl
    try simp only [Act.put, List.setIfInBounds_toArray, List.set_cons_zero, List.set_cons_succ]
    refine takeH 15 (v := ?_) rfl (by kernel_rfl) (by kernel_rfl) (by kernel_rfl) (fun _ _ _ h => h) (by rfl) ?_ (by assumption) ?_
    rotate_left
    · intro W hW
      go_simp
      try with_reducible rfl
    try simp only [Act.put, List.setIfInBounds_toArray, List.set_cons_zero, List.set_cons_succ]
    refine wpAnyH_done (by kernel_rfl) ?_ _
    go_wp2_with fail
    go_ret2
    exact ⟨rfl, HB4.out⟩
  · rw [if_pos (by rfl)]
    go_simp
    have hx2 : (w1.alloc (.cells #[.int .u64 slot, .int .u64 count, .int .u64 layout, .int .u64 0, .int .u64 165] 34)).heap[xb]? = w1.heap[xb]? := Below.heap_alloc _ _ _ hxl1
    refine hK.out _ _ ⟨(World.cell?_of_block (a := ⟨xb, 0, none⟩) hx2).trans x0, (World.cell?_of_block (a := ⟨xb, 1, none⟩) hx2).trans x1, (World.cell?_of_block (a := ⟨xb, 2, none⟩) hx2).trans x2⟩ (fun hH => ?_)
    clear hK K
    try simp only [Act.put, List.setIfInBounds_toArray, List.set_cons_zero, List.set_cons_succ]
    refine wpAnyH_ready (rs := [0]) (by kernel_rfl) (by simp) (readyH rfl (fun K hK => ?_) AllReadyH.nil)
    rw [if_pos (by rfl)]
    go_simp
    refine (hfields_any _).mono ?_
    rintro e w2 ⟨rfl, rfl⟩
    have hx3 : ((w1.alloc (.cells #[.int .u64 slot, .int .u64 count, .int .u64 layout, .int .u64 0, .int .u64 165] 34)).drew.alloc (.cells (pcells hfs).toArray 212)).heap[xb]? = w1.heap[xb]? := (Below.heap_alloc _ _ _ (by simp; omega)).trans hx2
    have HB3 : Hid (Below w.heap.size w ((w1.alloc (.cells #[.int .u64 slot, .int .u64 count, .int .u64 layout, .int .u64 0, .int .u64 165] 34)).drew.alloc (.cells (pcells hfs).toArray 212))) := ((HB1.out.alloc HB1.out.size _).drew.alloc (by have := HB1.out.size; simp; omega) _)
    refine hK.out _ _ ⟨(World.cell?_of_block (a := ⟨xb, 0, none⟩) hx3).trans x0, (World.cell?_of_block (a := ⟨xb, 1, none⟩) hx3).trans x1, (World.cell?_of_block (a := ⟨xb, 2, none⟩) hx3).trans x2⟩ (fun hH => ?_)
    clear hK K
    try simp only [Act.put, List.setIfInBounds_toArray, List.set_cons_zero, List.set_cons_succ]
    refine wpAnyH_ready (rs := [11]) (by kernel_rfl) (by simp) (readyH rfl (fun K hK => ?_) AllReadyH.nil)
    rw [if_pos (by rfl)]
    go_simp
    refine (HPK.out (w1.heap.size + 1) w1.heap.size _ ?hf ?hu).mono ?_
    case hf => exact heap_alloc2_new w1 _ _
    case hu => exact (Below.heap_alloc (w1.alloc _) _ _ (by simp)).trans (heap_alloc_new w1 _)
    rintro e w4 ⟨rfl, hb4⟩
    have HB4 : Hid (Below w.heap.size w w4) := HB3.out.trans (hb4.mono HB3.out.size)
    have hx4 : w4.heap[xb]? = w1.heap[xb]? := (hb4.block xb (by simp; omega)).trans hx3
    clear hb4
    refine hK.out _ _ ⟨(World.cell?_of_block (a := ⟨xb, 0, none⟩) hx4).trans x0, (World.cell?_of_block (a := ⟨xb, 1, none⟩) hx4).trans x1, (World.cell?_of_block (a := ⟨xb, 2, none⟩) hx4).trans x2⟩ (fun hH => ?_)
    clear hK K
    try simp only [Act.put, List.setIfInBounds_toArray, List.set_cons_zero, List.set_cons_succ]
    refine takeH 12 (v := ?_) rfl (by kernel_rfl) (by kernel_rfl) (by kernel_rfl) (fun _ _ _ h => h) (by rfl) ?_ (by assumption) ?_
    rotate_left
    · intro W hW
      go_simp
      try with_reducible rfl
    try simp only [Act.put, List.setIfInBounds_toArray, List.set_cons_zero, List.set_cons_succ]
    refine takeH 13 (v := ?_) rfl (by kernel_rfl) (by kernel_rfl) (by kernel_rfl) (fun _ _ _ h => h) (by rfl) ?_ (by assumption) ?_
    rotate_left
    · intro W hW
      go_simp
      try with_reducible rfl
    try simp only [Act.put, List.setIfInBounds_toArray, List.set_cons_zero, List.set_cons_succ]
    refine takeH 14 (v := ?_) rfl (by kernel_rfl) (by kernel_rfl) (by kernel_rfl) (fun _ _ _ h => h) (by rfl) ?_ (by assumption) ?_
    rotate_left
    · intro W hW
      go_simp
      try with_reducible rfl
    try simp only [Act.put, List.setIfInBounds_toArray, List.set_cons_zero, List.set_cons_succ]
    refine takeH 15 (v := ?_) rfl (by kernel_rfl) (by kernel_rfl) (by kernel_rfl) (fun _ _ _ h => h) (by rfl) ?_ (by assumption) ?_
    rotate_left
    · intro W hW
      go_simp
      try with_reducible rfl
    try simp only [Act.put, List.setIfInBounds_toArray, List.set_cons_zero, List.set_cons_succ]
    refine wpAnyH_done (by kernel_rfl) ?_ _
    go_wp2_with fail
    go_ret2
    exact ⟨rfl, HB4.out⟩
end Go.Proofs.YtcdpnfchmpncjaaGreatDoor
namespace Go.Proofs.YtcdpnfchmpncjaaGreatDoor
open Go.RowKit Go.Tr Go.Shelf
variable {w w' : World}
set_option maxRecDepth 100000 in
theorem hdecode_any (layout count slot : Nat) (w : World) (h1 : 1 ≤ layout) (h2 : layout ≤ 64) (h3 : count ≤ 1024) (h4 : slot < 4096) : Calls Tryz.prog 157 #[.int .u64 (hdrN slot count layout : Nat)] w fun e w' => e = .returned (.tuple #[.agg #[.int .i64 layout, .int .i64 count, .int .i64 slot], .int .i64 0]) ∧ Below w.heap.size w w' := by
  have HMAY := Lib.hid (hmay_any layout count slot · h1 h2 h3 h4)
  have HUN : Hid (∀ (fb : Nat) (W : World), W.heap[fb]? = some (.cells (pcells hfs).toArray 212 (0, 0)) → Calls Tryz.prog 79 #[.int .u64 (hdrN slot count layout : Nat), .slice (some ⟨fb, 0, none⟩) 5 5] W fun e w' => ∃ v, e = .returned (.tuple #[v, .int .i64 0]) ∧ OwnO w' 1 v 5 (us [slot, count, layout, 0, 165]) ∧ Below W.heap.size W w') := fun fb W hf => by
    have := funpack_any (hdrN slot count layout) hfs (some ⟨fb, 0, none⟩) 5 5 W (hdr_lt (by omega) (by omega) (by omega)) (SeqAt.of_block hf) rfl (by decide) hfs_ok
    rw [hdr_unpack (by omega) (by omega) (by omega)] at this
    exact this
  have hw1 : IntKind.i64.wrap (slot : Int) = (slot : Int) := by rw [IntWalk.i64_in _ (by omega)]
  have hw2 : IntKind.i64.wrap (count : Int) = (count : Int) := by rw [IntWalk.i64_in _ (by omega)]
  have hw3 : IntKind.i64.wrap (layout : Int) = (layout : Int) := by rw [IntWalk.i64_in _ (by omega)]
  obtain ⟨WN, hWN⟩ : ∃ WN, WN = hdrN slot count layout := ⟨_, rfl⟩
  rw [← hWN] at HUN ⊢
  clear hWN
  go_enter Tryz.func157, Tryz.ntmps157
  go_wp2_with fail
  have HBA : Hid (Below w.heap.size w (w.alloc (.cells #[.int .i64 0, .int .i64 0, .int .i64 0] 128))) := (Below.refl _ w).alloc (Nat.le_refl _) _
  obtain ⟨rb, hrb⟩ : ∃ rb, rb = w.heap.size := ⟨_, rfl⟩
  have HRB : Hid ((w.alloc (.cells #[.int .i64 0, .int .i64 0, .int .i64 0] 128)).heap[rb]? = some (.cells #[.int .i64 0, .int .i64 0, .int .i64 0] 128 (0, 0))) := by rw [hrb]; exact heap_alloc_new _ _
  rw [← hrb]
  have HRE : Hid (rb = w.heap.size) := hrb
  generalize w.alloc (.cells #[.int .i64 0, .int .i64 0, .int .i64 0] 128) = wa at *
  clear hrb
  refine (hfields_any wa).mono ?_
  rintro e w1 ⟨rfl, rfl⟩
  go_wp2_with fail
  refine (HUN.out _ _ (heap_alloc_new wa _)).mono ?_
  rintro e w2 ⟨v, rfl, hown, hb2⟩
  have hrl : rb < wa.heap.size := (Array.getElem?_eq_some_iff.1 HRB.out).1
  have HB2 : Hid (Below w.heap.size w w2) := (HBA.out.alloc HBA.out.size _).trans (hb2.mono (by have := HBA.out.size; simp; omega))
  have HR2 := Lib.hid ((hb2.block rb (by simp; omega)).trans ((Below.heap_alloc wa _ rb hrl).trans HRB.out))
  obtain ⟨va, vc, rfl, hsq, -, -⟩ := hown.seq
  obtain ⟨b, off, rfl, hc⟩ := hsq (by simp [us])
  have c0 := hc 0 (by simp [us])
  have c1 := hc 1 (by simp [us])
  have c2 := hc 2 (by simp [us])
  have c3 := hc 3 (by simp [us])
  have c4 := hc 4 (by simp [us])
  simp [us, uv] at c0 c1 c2 c3 c4
  clear hown hb2 hsq hc
  go_wp2_with fail
  refine wp_region_lastH (S := fun W => W.cell? ⟨b, off, none⟩ = some (.int .u64 slot) ∧ W.cell? ⟨b, off + 1, none⟩ = some (.int .u64 count) ∧ W.cell? ⟨b, off + 2, none⟩ = some (.int .u64 layout)) 14 (by kernel_rfl) (by kernel_rfl) ⟨c0, c1, c2⟩ (fun hH => ?_)
  simp only [lastOps, nop, List.modify_toArray, List.modify_succ_cons, List.modify_zero_cons]
  refine takeH 0 (v := ?_) rfl (by kernel_rfl) (by kernel_rfl) (by kernel_rfl) (fun _ _ _ h => h) (by rfl) ?_ (by assumption) ?_
  rotate_left
  · intro W hW
    go_simp
    try with_reducible rfl
  try simp only [Act.put, List.setIfInBounds_toArray, List.set_cons_zero, List.set_cons_succ]
  refine takeH 1 (v := ?_) rfl (by kernel_rfl) (by kernel_rfl) (by kernel_rfl) (fun _ _ _ h => h) (by rfl) ?_ (by assumption) ?_
  rotate_left
  · intro W hW
    go_simp
    try with_reducible rfl
  try simp only [Act.put, List.setIfInBounds_toArray, List.set_cons_zero, List.set_cons_succ]
  refine takeH 2 (v := ?_) rfl (by kernel_rfl) (by kernel_rfl) (by kernel_rfl) (fun _ _ _ h => h) (by rfl) ?_ (by assumption) ?_
  rotate_left
  · intro W hW
    go_simp
    try with_reducible rfl
  try simp only [Act.put, List.setIfInBounds_toArray, List.set_cons_zero, List.set_cons_succ]
  refine takeH 3 (v := ?_) rfl (by kernel_rfl) (by kernel_rfl) (by kernel_rfl) (fun _ _ _ h => h) (by rfl) ?_ (by assumption) ?_
  rotate_left
  · intro W hW
    go_simp
    try with_reducible rfl
  try simp only [Act.put, List.setIfInBounds_toArray, List.set_cons_zero, List.set_cons_succ]
  refine takeH 4 (v := ?_) rfl (by kernel_rfl) (by kernel_rfl) (by kernel_rfl) (fun _ _ _ h => h) (by rfl) ?_ (by assumption) ?_
  rotate_left
  · intro W hW
    go_simp
    try with_reducible rfl
  try simp only [Act.put, List.setIfInBounds_toArray, List.set_cons_zero, List.set_cons_succ]
  refine takeH 5 (v := ?_) rfl (by kernel_rfl) (by kernel_rfl) (by kernel_rfl) (fun _ _ _ h => h) (by rfl) ?_ (by assumption) ?_
  rotate_left
  · intro W hW
    go_simp
    try with_reducible rfl
  try simp only [Act.put, List.setIfInBounds_toArray, List.set_cons_zero, List.set_cons_succ]
  refine takeH 6 (v := ?_) rfl (by kernel_rfl) (by kernel_rfl) (by kernel_rfl) (fun _ _ _ h => h) (by rfl) ?_ (by assumption) ?_
  rotate_left
  · intro W hW
    go_simp
    try with_reducible rfl
  try simp only [Act.put, List.setIfInBounds_toArray, List.set_cons_zero, List.set_cons_succ]
  refine takeH 7 (v := ?_) rfl (by kernel_rfl) (by kernel_rfl) (by kernel_rfl) (fun _ _ _ h => h) (by rfl) ?_ (by assumption) ?_
  rotate_left
  · intro W hW
    go_simp
    try with_reducible rfl
  try simp only [Act.put, List.setIfInBounds_toArray, List.set_cons_zero, List.set_cons_succ]
  refine takeH 8 (v := ?_) rfl (by kernel_rfl) (by kernel_rfl) (by kernel_rfl) (fun _ _ _ h => h) (by rfl) ?_ (by assumption) ?_
  rotate_left
  · intro W hW
    go_simp
    try with_reducible rfl
  try simp only [Act.put, List.setIfInBounds_toArray, List.set_cons_zero, List.set_cons_succ]
  refine takeH 9 (v := ?_) rfl (by kernel_rfl) (by kernel_rfl) (by kernel_rfl) (fun _ _ _ h => h) (by rfl) ?_ (by assumption) ?_
  rotate_left
  · intro W hW
    go_simp
    try with_reducible rfl
  try simp only [Act.put, List.setIfInBounds_toArray, List.set_cons_zero, List.set_cons_succ]
  refine takeH 10 (v := ?_) rfl (by kernel_rfl) (by kernel_rfl) (by kernel_rfl) (fun _ _ _ h => h) (by rfl) ?_ (by assumption) ?_
  rotate_left
  · intro W hW
    go_simp
    try with_reducible rfl
  try simp only [Act.put, List.setIfInBounds_toArray, List.set_cons_zero, List.set_cons_succ]
  refine takeH 11 (v := ?_) rfl (by kernel_rfl) (by kernel_rfl) (by kernel_rfl) (fun _ _ _ h => h) (by rfl) ?_ (by assumption) ?_
  rotate_left
  · intro W hW
    go_simp
    try with_reducible rfl
  try simp only [Act.put, List.setIfInBounds_toArray, List.set_cons_zero, List.set_cons_succ]
  refine takeH 12 (v := ?_) rfl (by kernel_rfl) (by kernel_rfl) (by kernel_rfl) (fun _ _ _ h => h) (by rfl) ?_ (by assumption) ?_
  rotate_left
  · intro W hW
    go_simp
    try with_reducible rfl
  try simp only [Act.put, List.setIfInBounds_toArray, List.set_cons_zero, List.set_cons_succ]
  refine wpAnyH_ready (rs := [13]) (by kernel_rfl) (by simp) (readyH rfl (fun K hK => ?_) AllReadyH.nil)
  rw [if_pos (by rfl)]
  go_simp
  have hbl : b < w2.heap.size := World.block_lt_of_cell? w2 _ c0
  refine hK.out _ _ ⟨(World.cell?_alloc_lt _ _ _ hbl).trans hH.1, (World.cell?_alloc_lt _ _ _ hbl).trans hH.2.1, (World.cell?_alloc_lt _ _ _ hbl).trans hH.2.2⟩ (fun hH => ?_)
  clear hK K
  try simp only [Act.put, List.setIfInBounds_toArray, List.set_cons_zero, List.set_cons_succ]
  refine takeH 14 (v := ?_) rfl (by kernel_rfl) (by kernel_rfl) (by kernel_rfl) (fun _ _ _ h => h) (by rfl) ?_ (by assumption) ?_
  rotate_left
  · intro W hW
    go_simp
    try with_reducible rfl
  try simp only [Act.put, List.setIfInBounds_toArray, List.set_cons_zero, List.set_cons_succ]
  refine lastH_done (by kernel_rfl) rfl (by rfl) ?_
  go_simp
  have HB3 : Hid (Below w.heap.size w (w2.alloc (.cells #[.int .i64 layout, .int .i64 count, .int .i64 slot] 128)).drew) := (HB2.out.alloc HB2.out.size _).drew
  obtain ⟨xb, hxb⟩ : ∃ xb, xb = w2.heap.size := ⟨_, rfl⟩
  have hrl2 : rb < w2.heap.size := (Array.getElem?_eq_some_iff.1 HR2.out).1
  have HX3 : Hid ((w2.alloc (.cells #[.int .i64 layout, .int .i64 count, .int .i64 slot] 128)).drew.heap[xb]? = some (.cells #[.int .i64 layout, .int .i64 count, .int .i64 slot] 128 (0, 0))) := by rw [hxb]; exact heap_alloc_new _ _
  have HR3 : Hid ((w2.alloc (.cells #[.int .i64 layout, .int .i64 count, .int .i64 slot] 128)).drew.heap[rb]? = some (.cells #[.int .i64 0, .int .i64 0, .int .i64 0] 128 (0, 0))) := (Below.heap_alloc _ _ _ hrl2).trans HR2.out
  have d3 : (w2.alloc (.cells #[.int .i64 layout, .int .i64 count, .int .i64 slot] 128)).drew.cell? ⟨b, off + 3, none⟩ = some (.int .u64 0) := (World.cell?_alloc_lt _ _ _ hbl).trans c3
  have d4 : (w2.alloc (.cells #[.int .i64 layout, .int .i64 count, .int .i64 slot] 128)).drew.cell? ⟨b, off + 4, none⟩ = some (.int .u64 165) := (World.cell?_alloc_lt _ _ _ hbl).trans c4
  rw [← hxb]
  generalize (w2.alloc (.cells #[.int .i64 layout, .int .i64 count, .int .i64 slot] 128)).drew = w3 at *
  have e0 := (cells_of_block HX3.out 0).1
  have e1 := (cells_of_block HX3.out 1).1
  have e2 := (cells_of_block HX3.out 2).1
  simp at e0 e1 e2
  clear hxb c0 c1 c2 c3 c4 hrl2 hbl hH
  go_wp2_with fail
  refine (HMAY.out w3).mono ?_
  rintro e w4 ⟨rfl, hb4⟩
  have HB4 : Hid (Below w.heap.size w w4) := HB3.out.trans (hb4.mono HB3.out.size)
  have HX4 := Lib.hid ((hb4.block xb (Array.getElem?_eq_some_iff.1 HX3.out).1).trans HX3.out)
  have HR4 := Lib.hid ((hb4.block rb (Array.getElem?_eq_some_iff.1 HR3.out).1).trans HR3.out)
  have f0 := (cells_of_block HX4.out 0).1
  have f1 := (cells_of_block HX4.out 1).1
  have f2 := (cells_of_block HX4.out 2).1
  simp at f0 f1 f2
  have r0 := cells_of_block HR4.out 0
  have r1 := cells_of_block HR4.out 1
  have r2 := cells_of_block HR4.out 2
  simp at r0 r1 r2
  obtain ⟨r0, g0⟩ := r0
  obtain ⟨r1, g1⟩ := r1
  obtain ⟨r2, g2⟩ := r2
  clear hb4 d3 d4 e0 e1 e2
  go_wp2_with fail
  try simp only [Exit.inBlock, Exit.then]
  have hbk : (((w4.setCell ⟨rb, 0, none⟩ (.int .i64 layout)).setCell ⟨rb, 1, none⟩ (.int .i64 count)).setCell ⟨rb, 2, none⟩ (.int .i64 slot)).heap[rb]? = some (.cells #[.int .i64 layout, .int .i64 count, .int .i64 slot] 128 (0, 0)) := by
    simpa using block_setCell (block_setCell (block_setCell HR4.out 0 (.int .i64 layout)) 1 (.int .i64 count)) 2 (.int .i64 slot)
  refine bodyPost_ret (results_blk rfl _ _ rb _ _ _ _ rfl hbk Tryz.underlying128 rfl rfl) rfl ⟨rfl, ?_⟩
  have e : w.heap.size ≤ rb := Nat.le_of_eq HRE.out.symm
  exact ((HB4.out.setCell e _).setCell e _).setCell e _
end Go.Proofs.YtcdpnfchmpncjaaGreatDoor
namespace Go.Proofs.YtcdpnfchmpncjaaGreatDoor
open Go.RowKit Go.Tr Go.Shelf
variable {w w' : World}
theorem lpack_any {idx gen : Nat} (h1 : idx < 4096) (h3 : gen ≤ 255) (fb ub : Nat) (W : World) (hf : W.heap[fb]? = some (.cells (pcells lfs).toArray 212 (0, 0))) (hu : W.heap[ub]? = some (.cells #[.int .u64 ((idx : Int) + 2), .int .u64 gen] 34 (0, 0))) :
    Calls Tryz.prog 176 #[.slice (some ⟨fb, 0, none⟩) 2 2, .slice (some ⟨ub, 0, none⟩) 2 2] W fun e w' => e = .returned (.tuple #[.int .u64 (linkN idx gen : Nat), .int .i64 0]) ∧ Below W.heap.size W w' := by
  have := fpack_any lfs [idx + 2, gen] (some ⟨fb, 0, none⟩) (some ⟨ub, 0, none⟩) 2 2 2 W (SeqAt.of_block hf) (SeqAt.of_block (T := 34) hu) rfl rfl (by decide) lfs_ok (fun k f x hk hx => by
    rcases k with _ | _ | k
    · simp [lfs] at hk hx; subst hk hx; simp only; omega
    · simp [lfs] at hk hx; subst hk hx; simp only; omega
    · simp [lfs] at hk)
  rw [link_pack h1 (by omega)] at this
  exact this
set_option maxRecDepth 100000 in
theorem hword_any (idx gen : Nat) (w : World) (h1 : idx < 4096) (h2 : 1 ≤ gen) (h3 : gen ≤ 255) : Calls Tryz.prog 140 #[.agg #[.int .i64 2, .int .i64 idx, .int .i64 gen]] w fun e w' => e = .returned (.tuple #[.int .u64 (linkN idx gen : Nat), .int .i64 0]) ∧ Below w.heap.size w w' := by
  have hw1 : IntKind.u64.wrap (idx : Int) = (idx : Int) := by rw [IntWalk.u64_in _ (by omega)]
  have hw2 : IntKind.u64.wrap (gen : Int) = (gen : Int) := by rw [IntWalk.u64_in _ (by omega)]
  have hw3 : IntKind.u64.wrap ((idx : Int) + 2) = (idx : Int) + 2 := by rw [IntWalk.u64_in _ (by omega)]
  have HAL := Lib.hid (halive_any idx gen · h1 h2 h3)
  have HPK := Lib.hid (@lpack_any idx gen h1 h3)
  go_enter Tryz.func140, Tryz.ntmps140
  go_wp2_with fail
  have HBA : Hid (Below w.heap.size w (w.alloc (.cells #[.int .i64 2, .int .i64 idx, .int .i64 gen] 69))) := (Below.refl _ w).alloc (Nat.le_refl _) _
  obtain ⟨xb, hxb⟩ : ∃ xb, xb = w.heap.size := ⟨_, rfl⟩
  have HXB : Hid ((w.alloc (.cells #[.int .i64 2, .int .i64 idx, .int .i64 gen] 69)).heap[xb]? = some (.cells #[.int .i64 2, .int .i64 idx, .int .i64 gen] 69 (0, 0))) := by rw [hxb]; exact heap_alloc_new _ _
  rw [← hxb]
  rw [← hxb] at HBA
  generalize w.alloc (.cells #[.int .i64 2, .int .i64 idx, .int .i64 gen] 69) = wa at *
  refine (HAL.out wa).mono ?_
  rintro e w1 ⟨rfl, hb1⟩
  have hxl := (Array.getElem?_eq_some_iff.1 HXB.out).1
  have HB1 : Hid (Below w.heap.size w w1) := by rw [← hxb]; exact HBA.out.trans (hb1.mono (by omega))
  have HX1 := Lib.hid ((hb1.block xb hxl).trans HXB.out)
  have x0 := (cells_of_block HX1.out 0).1
  have x1 := (cells_of_block HX1.out 1).1
  have x2 := (cells_of_block HX1.out 2).1
  simp at x0 x1 x2
  clear hb1 hxl hxb
  go_wp2_with fail
  refine wp_region_held_drew (S := fun W => W.cell? ⟨xb, 0, none⟩ = some (.int .i64 2) ∧ W.cell? ⟨xb, 1, none⟩ = some (.int .i64 idx) ∧ W.cell? ⟨xb, 2, none⟩ = some (.int .i64 gen)) (by kernel_rfl) ⟨x0, x1, x2⟩ (fun hH => ?_)
  refine takeH 1 (v := ?_) rfl (by kernel_rfl) (by kernel_rfl) (by kernel_rfl) (fun _ _ _ h => h) (by rfl) ?_ (by assumption) ?_
  rotate_left
  · intro W hW
    go_simp
    try with_reducible rfl
  try simp only [Act.put, List.setIfInBounds_toArray, List.set_cons_zero, List.set_cons_succ]
  refine takeH 2 (v := ?_) rfl (by kernel_rfl) (by kernel_rfl) (by kernel_rfl) (fun _ _ _ h => h) (by rfl) ?_ (by assumption) ?_
  rotate_left
  · intro W hW
    go_simp
    try with_reducible rfl
  try simp only [Act.put, List.setIfInBounds_toArray, List.set_cons_zero, List.set_cons_succ]
  refine takeH 3 (v := ?_) rfl (by kernel_rfl) (by kernel_rfl) (by kernel_rfl) (fun _ _ _ h => h) (by rfl) ?_ (by assumption) ?_
  rotate_left
  · intro W hW
    go_simp
    try with_reducible rfl
  try simp only [Act.put, List.setIfInBounds_toArray, List.set_cons_zero, List.set_cons_succ]
  refine takeH 4 (v := ?_) rfl (by kernel_rfl) (by kernel_rfl) (by kernel_rfl) (fun _ _ _ h => h) (by rfl) ?_ (by assumption) ?_
  rotate_left
  · intro W hW
    go_simp
    try with_reducible rfl
  try simp only [Act.put, List.setIfInBounds_toArray, List.set_cons_zero, List.set_cons_succ]
  refine takeH 5 (v := ?_) rfl (by kernel_rfl) (by kernel_rfl) (by kernel_rfl) (fun _ _ _ h => h) (by rfl) ?_ (by assumption) ?_
  rotate_left
  · intro W hW
    go_simp
    try with_reducible rfl
  try simp only [Act.put, List.setIfInBounds_toArray, List.set_cons_zero, List.set_cons_succ]
  refine takeH 6 (v := ?_) rfl (by kernel_rfl) (by kernel_rfl) (by kernel_rfl) (fun _ _ _ h => h) (by rfl) ?_ (by assumption) ?_
  rotate_left
  · intro W hW
    go_simp
    try with_reducible rfl
  try simp only [Act.put, List.setIfInBounds_toArray, List.set_cons_zero, List.set_cons_succ]
  refine takeH 7 (v := ?_) rfl (by kernel_rfl) (by kernel_rfl) (by kernel_rfl) (fun _ _ _ h => h) (by rfl) ?_ (by assumption) ?_
  rotate_left
  · intro W hW
    go_simp
    try with_reducible rfl
  try simp only [Act.put, List.setIfInBounds_toArray, List.set_cons_zero, List.set_cons_succ]
  refine takeH 8 (v := ?_) rfl (by kernel_rfl) (by kernel_rfl) (by kernel_rfl) (fun _ _ _ h => h) (by rfl) ?_ (by assumption) ?_
  rotate_left
  · intro W hW
    go_simp
    try with_reducible rfl
  try simp only [Act.put, List.setIfInBounds_toArray, List.set_cons_zero, List.set_cons_succ]
  refine takeH 9 (v := ?_) rfl (by kernel_rfl) (by kernel_rfl) (by kernel_rfl) (fun _ _ _ h => h) (by rfl) ?_ (by assumption) ?_
  rotate_left
  · intro W hW
    go_simp
    try with_reducible rfl
  try simp only [Act.put, List.setIfInBounds_toArray, List.set_cons_zero, List.set_cons_succ]
  have hxl1 : xb < w1.heap.size := (Array.getElem?_eq_some_iff.1 HX1.out).1
  refine wpAnyH_ready (rs := [0, 10]) (by kernel_rfl) (by simp) (readyH rfl (fun K hK => ?_) (readyH rfl (fun K hK => ?_) AllReadyH.nil))
  · rw [if_pos (by rfl)]
    go_simp
    refine (hlinks_any _).mono ?_
    rintro e w2 ⟨rfl, rfl⟩
    have hx2 : (w1.drew.alloc (.cells (pcells lfs).toArray 212)).heap[xb]? = w1.heap[xb]? := Below.heap_alloc _ _ _ hxl1
    refine hK.out _ _ ⟨(World.cell?_of_block (a := ⟨xb, 0, none⟩) hx2).trans x0, (World.cell?_of_block (a := ⟨xb, 1, none⟩) hx2).trans x1, (World.cell?_of_block (a := ⟨xb, 2, none⟩) hx2).trans x2⟩ (fun hH => ?_)
    clear hK K
    try simp only [Act.put, List.setIfInBounds_toArray, List.set_cons_zero, List.set_cons_succ]
    refine wpAnyH_ready (rs := [10]) (by kernel_rfl) (by simp) (readyH rfl (fun K hK => ?_) AllReadyH.nil)
    rw [if_pos (by rfl)]
    go_simp
    have hx3 : ((w1.alloc (.cells (pcells lfs).toArray 212)).alloc (.cells #[.int .u64 ((idx : Int) + 2), .int .u64 gen] 34)).heap[xb]? = w1.heap[xb]? := (Below.heap_alloc _ _ _ (by simp; omega)).trans hx2
    have HB3 : Hid (Below w.heap.size w (((w1.alloc (.cells (pcells lfs).toArray 212)).alloc (.cells #[.int .u64 ((idx : Int) + 2), .int .u64 gen] 34)).drew)) := ((HB1.out.alloc HB1.out.size _).alloc (by have := HB1.out.size; simp; omega) _).drew
    refine hK.out _ _ ⟨(World.cell?_of_block (a := ⟨xb, 0, none⟩) hx3).trans x0, (World.cell?_of_block (a := ⟨xb, 1, none⟩) hx3).trans x1, (World.cell?_of_block (a := ⟨xb, 2, none⟩) hx3).trans x2⟩ (fun hH => ?_)
    clear hK K
    try simp only [Act.put, List.setIfInBounds_toArray, List.set_cons_zero, List.set_cons_succ]
    refine wpAnyH_ready (rs := [11]) (by kernel_rfl) (by simp) (readyH rfl (fun K hK => ?_) AllReadyH.nil)
    rw [if_pos (by rfl)]
    go_simp
    refine (HPK.out w1.heap.size (w1.heap.size + 1) _ ?hf ?hu).mono ?_
    case hf => exact (Below.heap_alloc (w1.alloc _) _ _ (by simp)).trans (heap_alloc_new w1 _)
    case hu => exact heap_alloc2_new w1 _ _
    rintro e w4 ⟨rfl, hb4⟩
    have HB4 : Hid (Below w.heap.size w w4) := HB3.out.trans (hb4.mono HB3.out.size)
    have hx4 : w4.heap[xb]? = w1.heap[xb]? := (hb4.block xb (by simp; omega)).trans hx3
    clear hb4
    refine hK.out _ _ ⟨(World.cell?_of_block (a := ⟨xb, 0, none⟩) hx4).trans x0, (World.cell?_of_block (a := ⟨xb, 1, none⟩) hx4).trans x1, (World.cell?_of_block (a := ⟨xb, 2, none⟩) hx4).trans x2⟩ (fun hH => ?_)
    clear hK K
    try simp only [Act.put, List.setIfInBounds_toArray, List.set_cons_zero, List.set_cons_succ]
    refine takeH 12 (v := ?_) rfl (by kernel_rfl) (by kernel_rfl) (by kernel_rfl) (fun _ _ _ h => h) (by rfl) ?_ (by assumption) ?_
    rotate_left
    · intro W hW
      go_simp
      try with_reducible rfl
    try simp only [Act.put, List.setIfInBounds_toArray, List.set_cons_zero, List.set_cons_succ]
    refine takeH 13 (v := ?_) rfl (by kernel_rfl) (by kernel_rfl) (by kernel_rfl) (fun _ _ _ h => h) (by rfl) ?_ (by assumption) ?_
    rotate_left
    · intro W hW
      go_simp
      try with_reducible rfl
    try simp only [Act.put, List.setIfInBounds_toArray, List.set_cons_zero, List.set_cons_succ]
    refine takeH 14 (v := ?_) rfl (by kernel_rfl) (by kernel_rfl) (by kernel_rfl) (fun _ _ _ h => h) (by rfl) ?_ (by assumption) ?_
    rotate_left
    · intro W hW
      go_simp
      try with_reducible rfl
    try simp only [Act.put, List.setIfInBounds_toArray, List.set_cons_zero, List.set_cons_succ]
    refine takeH 15 (v := ?_) rfl (by kernel_rfl) (by kernel_rfl) (by kernel_rfl) (fun _ _ _ h => h) (by rfl) ?_ (by assumption) ?_
    rotate_left
    · intro W hW
      go_simp
      try with_reducible rfl
    try simp only [Act.put, List.setIfInBounds_toArray, List.set_cons_zero, List.set_cons_succ]
    refine wpAnyH_done (by kernel_rfl) ?_ _
    go_wp2_with fail
    go_ret2
    exact ⟨rfl, HB4.out⟩
  · rw [if_pos (by rfl)]
    go_simp
    have hx2 : (w1.alloc (.cells #[.int .u64 ((idx : Int) + 2), .int .u64 gen] 34)).heap[xb]? = w1.heap[xb]? := Below.heap_alloc _ _ _ hxl1
    refine hK.out _ _ ⟨(World.cell?_of_block (a := ⟨xb, 0, none⟩) hx2).trans x0, (World.cell?_of_block (a := ⟨xb, 1, none⟩) hx2).trans x1, (World.cell?_of_block (a := ⟨xb, 2, none⟩) hx2).trans x2⟩ (fun hH => ?_)
    clear hK K
    try simp only [Act.put, List.setIfInBounds_toArray, List.set_cons_zero, List.set_cons_succ]
    refine wpAnyH_ready (rs := [0]) (by kernel_rfl) (by simp) (readyH rfl (fun K hK => ?_) AllReadyH.nil)
    rw [if_pos (by rfl)]
    go_simp
    refine (hlinks_any _).mono ?_
    rintro e w2 ⟨rfl, rfl⟩
    have hx3 : ((w1.alloc (.cells #[.int .u64 ((idx : Int) + 2), .int .u64 gen] 34)).drew.alloc (.cells (pcells lfs).toArray 212)).heap[xb]? = w1.heap[xb]? := (Below.heap_alloc _ _ _ (by simp; omega)).trans hx2
    have HB3 : Hid (Below w.heap.size w ((w1.alloc (.cells #[.int .u64 ((idx : Int) + 2), .int .u64 gen] 34)).drew.alloc (.cells (pcells lfs).toArray 212))) := ((HB1.out.alloc HB1.out.size _).drew.alloc (by have := HB1.out.size; simp; omega) _)
    refine hK.out _ _ ⟨(World.cell?_of_block (a := ⟨xb, 0, none⟩) hx3).trans x0, (World.cell?_of_block (a := ⟨xb, 1, none⟩) hx3).trans x1, (World.cell?_of_block (a := ⟨xb, 2, none⟩) hx3).trans x2⟩ (fun hH => ?_)
    clear hK K
    try simp only [Act.put, List.setIfInBounds_toArray, List.set_cons_zero, List.set_cons_succ]
    refine wpAnyH_ready (rs := [11]) (by kernel_rfl) (by simp) (readyH rfl (fun K hK => ?_) AllReadyH.nil)
    rw [if_pos (by rfl)]
    go_simp
    refine (HPK.out (w1.heap.size + 1) w1.heap.size _ ?hf ?hu).mono ?_
    case hf => exact heap_alloc2_new w1 _ _
    case hu => exact (Below.heap_alloc (w1.alloc _) _ _ (by simp)).trans (heap_alloc_new w1 _)
    rintro e w4 ⟨rfl, hb4⟩
    have HB4 : Hid (Below w.heap.size w w4) := HB3.out.trans (hb4.mono HB3.out.size)
    have hx4 : w4.heap[xb]? = w1.heap[xb]? := (hb4.block xb (by simp; omega)).trans hx3
    clear hb4
    refine hK.out _ _ ⟨(World.cell?_of_block (a := ⟨xb, 0, none⟩) hx4).trans x0, (World.cell?_of_block (a := ⟨xb, 1, none⟩) hx4).trans x1, (World.cell?_of_block (a := ⟨xb, 2, none⟩) hx4).trans x2⟩ (fun hH => ?_)
    clear hK K
    try simp only [Act.put, List.setIfInBounds_toArray, List.set_cons_zero, List.set_cons_succ]
    refine takeH 12 (v := ?_) rfl (by kernel_rfl) (by kernel_rfl) (by kernel_rfl) (fun _ _ _ h => h) (by rfl) ?_ (by assumption) ?_
    rotate_left
    · intro W hW
      go_simp
      try with_reducible rfl
    try simp only [Act.put, List.setIfInBounds_toArray, List.set_cons_zero, List.set_cons_succ]
    refine takeH 13 (v := ?_) rfl (by kernel_rfl) (by kernel_rfl) (by kernel_rfl) (fun _ _ _ h => h) (by rfl) ?_ (by assumption) ?_
    rotate_left
    · intro W hW
      go_simp
      try with_reducible rfl
    try simp only [Act.put, List.setIfInBounds_toArray, List.set_cons_zero, List.set_cons_succ]
    refine takeH 14 (v := ?_) rfl (by kernel_rfl) (by kernel_rfl) (by kernel_rfl) (fun _ _ _ h => h) (by rfl) ?_ (by assumption) ?_
    rotate_left
    · intro W hW
      go_simp
      try with_reducible rfl
    try simp only [Act.put, List.setIfInBounds_toArray, List.set_cons_zero, List.set_cons_succ]
    refine takeH 15 (v := ?_) rfl (by kernel_rfl) (by kernel_rfl) (by kernel_rfl) (fun _ _ _ h => h) (by rfl) ?_ (by assumption) ?_
    rotate_left
    · intro W hW
      go_simp
      try with_reducible rfl
    try simp only [Act.put, List.setIfInBounds_toArray, List.set_cons_zero, List.set_cons_succ]
    refine wpAnyH_done (by kernel_rfl) ?_ _
    go_wp2_with fail
    go_ret2
    exact ⟨rfl, HB4.out⟩
end Go.Proofs.YtcdpnfchmpncjaaGreatDoor
