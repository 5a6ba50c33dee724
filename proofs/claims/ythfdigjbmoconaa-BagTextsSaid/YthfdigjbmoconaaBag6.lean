/-
  Package bag at int: Join.
-/
import Derived.Test.YthfdigjbmoconaaBag5
import Derived.Test.YthfdigjbmoconaaRegion
import Derived.Test.YthfdigjbmoconaaAppSeq
set_option linter.unusedSimpArgs false
set_option linter.unusedVariables false
namespace Go.Proofs.Ythfdigjbmoconaa
open Go.RowKit Go.Tr
variable {w w' w0 : World} {g g2 : Nat} {F G : Nat → Prop} {zs zo : List Int}
theorem own_nil {w : World} {base : Nat} {e : TypeId} {a : Option Addr} {n c : Nat} {xs : List Value} (h : w.ownsRow base e 1 (.slice a n c) n xs) : a = none → n = 0 ∧ c = 0 := by
  rintro rfl
  obtain ⟨_, ⟨h1, h2⟩ | ⟨g, cap, cur, h1, _⟩⟩ := h
  · cases h1; exact ⟨rfl, rfl⟩
  · cases h1
set_option maxRecDepth 100000 in
set_option maxHeartbeats 2000000 in
theorem bjoinF_any {vo : Value} (w : World) (h : Bag w g F zs) (h2 : BagAt 0 w g2 vo zo) (hl : zs.length ≤ 400000) (hl2 : zo.length ≤ 400000) : Calls Try.prog 16 #[.pointer (some ⟨g, 0, none⟩), .pointer (some ⟨g2, 0, none⟩)] w fun e w' => e = .returned (.tuple #[]) ∧ Bag w' g (grow F w w') (setL (zs ++ zo)) ∧ Only F w w' := by
  obtain ⟨i0, hi, hz0, hz1, hz2⟩ := info_parts infoIntB
  obtain ⟨v, hb, hF, hFv⟩ := h
  obtain ⟨c0, f0⟩ := hb.head
  obtain ⟨c1, f1⟩ := h2.head
  obtain ⟨a, c, rfl, hs⟩ := hb.seq
  obtain ⟨a2, cc2, rfl, hs2⟩ := h2.seq
  have HNIL := Lib.hid (own_nil h2.own)
  have HS := Lib.hid hs
  have HS2 := Lib.hid hs2
  have HBG := Lib.hid hb
  have HLT : Hid (g < w.heap.size ∧ g2 < w.heap.size) := ⟨hb.lt, h2.lt⟩
  have HYR : Hid ((setL (zs ++ zo)).Pairwise (· < ·)) := setL_rises _
  have HYE : Hid (Lib.compact (sortL (zs ++ zo)) = setL (zs ++ zo)) := rfl
  have HYL : Hid ((zs ++ zo).length ≤ 800000) := by show _ ≤ _; rw [List.length_append]; omega
  obtain ⟨ys, hys⟩ : ∃ ys, ys = setL (zs ++ zo) := ⟨_, rfl⟩
  rw [← hys] at HYR HYE ⊢
  obtain ⟨n, hn⟩ : ∃ n, n = zs.length := ⟨_, rfl⟩
  obtain ⟨m, hm⟩ : ∃ m, m = zo.length := ⟨_, rfl⟩
  rw [← hn] at c0 hl
  rw [← hm] at c1 hl2 HNIL
  have HN := Lib.hid hn.symm
  have HM := Lib.hid hm.symm
  clear hb h2 hs hs2 hys hn hm
  go_enter Try.func16, Try.ntmps16
  go_wp2_with fail
  refine wp_region_held_drew (S := fun W => W.cell? ⟨g, 0, none⟩ = some (.slice a n c) ∧ W.cell? ⟨g2, 0, none⟩ = some (.slice a2 m cc2)) (by kernel_rfl) ⟨c0, c1⟩ (fun hH => ?_)
  refine takeH 0 (v := ?_) rfl (by kernel_rfl) (by kernel_rfl) (by kernel_rfl) (fun _ _ _ h => h) (by rfl) ?_ (by assumption) ?_
  rotate_left
  · intro W hW
    obtain ⟨hW1, hW2⟩ := hW
    go_simp
    try with_reducible rfl
  try simp only [Act.put, List.setIfInBounds_toArray, List.set_cons_zero, List.set_cons_succ]
  refine takeH 1 (v := ?_) rfl (by kernel_rfl) (by kernel_rfl) (by kernel_rfl) (fun _ _ _ h => h) (by rfl) ?_ (by assumption) ?_
  rotate_left
  · intro W hW
    obtain ⟨hW1, hW2⟩ := hW
    go_simp
    try with_reducible rfl
  try simp only [Act.put, List.setIfInBounds_toArray, List.set_cons_zero, List.set_cons_succ]
  refine takeH 2 (v := ?_) rfl (by kernel_rfl) (by kernel_rfl) (by kernel_rfl) (fun _ _ _ h => h) (by rfl) ?_ (by assumption) ?_
  rotate_left
  · intro W hW
    obtain ⟨hW1, hW2⟩ := hW
    go_simp
    try with_reducible rfl
  try simp only [Act.put, List.setIfInBounds_toArray, List.set_cons_zero, List.set_cons_succ]
  refine takeH 3 (v := ?_) rfl (by kernel_rfl) (by kernel_rfl) (by kernel_rfl) (fun _ _ _ h => h) (by rfl) ?_ (by assumption) ?_
  rotate_left
  · intro W hW
    obtain ⟨hW1, hW2⟩ := hW
    go_simp
    try with_reducible rfl
  try simp only [Act.put, List.setIfInBounds_toArray, List.set_cons_zero, List.set_cons_succ]
  refine takeH 5 (v := ?_) rfl (by kernel_rfl) (by kernel_rfl) (by kernel_rfl) (fun _ _ _ h => h) (by rfl) ?_ (by assumption) ?_
  rotate_left
  · intro W hW
    obtain ⟨hW1, hW2⟩ := hW
    go_simp
    try with_reducible rfl
  try simp only [Act.put, List.setIfInBounds_toArray, List.set_cons_zero, List.set_cons_succ]
  refine takeH 6 (v := ?_) rfl (by kernel_rfl) (by kernel_rfl) (by kernel_rfl) (fun _ _ _ h => h) (by rfl) ?_ (by assumption) ?_
  rotate_left
  · intro W hW
    obtain ⟨hW1, hW2⟩ := hW
    go_simp
    try with_reducible rfl
  try simp only [Act.put, List.setIfInBounds_toArray, List.set_cons_zero, List.set_cons_succ]
  refine takeH 7 (v := ?_) rfl (by kernel_rfl) (by kernel_rfl) (by kernel_rfl) (fun _ _ _ h => h) (by rfl) ?_ (by assumption) ?_
  rotate_left
  · intro W hW
    obtain ⟨hW1, hW2⟩ := hW
    go_simp
    try with_reducible rfl
  try simp only [Act.put, List.setIfInBounds_toArray, List.set_cons_zero, List.set_cons_succ]
  refine takeH 8 (v := ?_) rfl (by kernel_rfl) (by kernel_rfl) (by kernel_rfl) (fun _ _ _ h => h) (by rfl) ?_ (by assumption) ?_
  rotate_left
  · intro W hW
    obtain ⟨hW1, hW2⟩ := hW
    go_simp
    try with_reducible rfl
  try simp only [Act.put, List.setIfInBounds_toArray, List.set_cons_zero, List.set_cons_succ]
  refine wpAnyH_ready (rs := [4]) (by kernel_rfl) (by simp) (readyH rfl (fun K hK => ?_) AllReadyH.nil)
  rw [if_pos (by rfl)]
  go_simp
  refine (clone_any a n c zs w.drew (HS.out.below (Drawn.below ⟨1, rfl⟩ w.heap.size) (Nat.le_refl _)) HN.out (by omega)).mono ?_
  rintro e w1 ⟨v1, rfl, ho, hbl⟩
  have HO1 := Lib.hid ho
  have HB1 : Hid (Below w.heap.size w w1) := Below.trans (Drawn.below ⟨1, rfl⟩ _) hbl
  obtain ⟨oa, oc, rfl, -, -, -⟩ := ownsRow_seq ho
  have hH1 : w1.cell? ⟨g, 0, none⟩ = some (.slice a n c) ∧ w1.cell? ⟨g2, 0, none⟩ = some (.slice a2 m cc2) :=
    ⟨(World.cell?_of_block (a := ⟨g, 0, none⟩) (HB1.out.block g HLT.out.1)).trans c0, (World.cell?_of_block (a := ⟨g2, 0, none⟩) (HB1.out.block g2 HLT.out.2)).trans c1⟩
  clear ho hbl
  refine hK.out _ _ hH1 (fun hH => ?_)
  clear hK K
  try simp only [Act.put, List.setIfInBounds_toArray, List.set_cons_zero, List.set_cons_succ]
  refine wpAnyH_ready (rs := [9]) (by kernel_rfl) (by simp) (readyH rfl (fun K hK => ?_) AllReadyH.nil)
  rw [if_pos (by rfl)]
  have HQ2 := Lib.hid (HS2.out.below HB1.out (Nat.le_refl _))
  have HO1' : Hid (w1.ownsRow w.heap.size 3 1 (.slice oa zs.length oc) n (ints zs)) := by have : own3 w1 3 w.heap.size (.slice oa zs.length oc) zs := HO1.out; unfold own3 at this; rw [HN.out] at this ⊢; exact this
  refine wpO_append_seq (.tmp 15) (.tmp 19) 22 rfl w.heap.size 3 i0 _ 1 8 Try.underlying22 hi hz0 hz1 hz2 rfl (by decide) (.slice oa zs.length oc) n (ints zs) rfl HO1'.out a2 m cc2 (ints zo) rfl HNIL.out (by rw [ints_length, HM.out]; omega) HQ2.out (ints_oneCell .i64 zo) (by unfold maxLen; omega) (by omega) HB1.out.size ?_
  intro v2 w2 hown hgrow hob
  have HO2 : Hid (own3 w2 3 w.heap.size v2 (zs ++ zo)) := by
    show w2.ownsRow _ _ _ _ _ _
    have e : ints (zs ++ zo) = ints zs ++ ints zo := by simp [ints]
    rw [e, List.length_append, HN.out, HM.out]; exact hown
  have HB2 : Hid (Below w.heap.size w w2) := HB1.out.grown hgrow HB1.out.size (fun j hj => (HO1'.out.lt j hj).1)
  have hH2 : w2.cell? ⟨g, 0, none⟩ = some (.slice a n c) ∧ w2.cell? ⟨g2, 0, none⟩ = some (.slice a2 m cc2) :=
    ⟨(World.cell?_of_block (a := ⟨g, 0, none⟩) (HB2.out.block g HLT.out.1)).trans c0, (World.cell?_of_block (a := ⟨g2, 0, none⟩) (HB2.out.block g2 HLT.out.2)).trans c1⟩
  clear hown hgrow hob HO1 HO1' HQ2 HB1
  refine hK.out _ _ hH2 (fun hH => ?_)
  clear hK K
  try simp only [Act.put, List.setIfInBounds_toArray, List.set_cons_zero, List.set_cons_succ]
  refine takeH 10 (v := ?_) rfl (by kernel_rfl) (by kernel_rfl) (by kernel_rfl) (fun _ _ _ h => h) (by rfl) ?_ (by assumption) ?_
  rotate_left
  · intro W hW
    obtain ⟨hW1, hW2⟩ := hW
    go_simp
    try with_reducible rfl
  try simp only [Act.put, List.setIfInBounds_toArray, List.set_cons_zero, List.set_cons_succ]
  refine wpAnyH_done (by kernel_rfl) ?_ _
  clear c0 c1 f0 f1 hH1 hH2
  go_wp2_with fail
  refine (sort_own w.heap.size v2 (zs ++ zo) _ HO2.out (by have := HYL.out; omega)).mono ?_
  rintro e w3 ⟨rfl, ho, hg⟩
  have HB3 := Lib.hid (HB2.out.grown hg HB2.out.size (fun k hk => (HO2.out.lt k hk).1))
  have HO3 := Lib.hid ho
  clear ho hg HO2 HB2
  go_wp2_with fail
  refine (compact_own w.heap.size v2 (sortL (zs ++ zo)) _ HO3.out (by rw [sortL_length]; have := HYL.out; omega) (compact_le _)).mono ?_
  rintro e w4 ⟨v4, rfl, ho, hg, hbl⟩
  rw [HYE.out] at ho
  have HB4 := Lib.hid (HB3.out.grown hg HB3.out.size (fun k hk => (HO3.out.lt k hk).1))
  have hgg : w4.heap[g]? = w.heap[g]? := HB4.out.block g HLT.out.1
  have c2 : w4.cell? ⟨g, 0, none⟩ = some (.slice a n c) := by rw [World.cell?_of_block (a := ⟨g, 0, none⟩) (w := w) hgg]; exact HBG.out.head.1.trans (by rw [HN.out])
  have f2 : w4.frozen? ⟨g, 0, none⟩ = false := by rw [World.frozen?_of_block (a := ⟨g, 0, none⟩) (w := w) hgg]; exact HBG.out.head.2
  have HST := Lib.hid (HBG.out.store hF hFv (Only.of_below HB4.out F) hgg (ownsRow_mono ho (Nat.zero_le _)) HYR.out (fun k hk => Or.inr (ho.lt k hk).1))
  obtain ⟨va, vc, rfl, -, -, -⟩ := ownsRow_seq ho
  clear ho hg hbl hgg
  go_wp2_with fail
  go_end0
  exact ⟨rfl, HST.out.1, HST.out.2⟩
end Go.Proofs.Ythfdigjbmoconaa
