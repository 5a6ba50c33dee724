/-
  Package bag at string: the walks of New (of none), Put, Del, Len; a bag of texts that stand for numbers.
-/
import Derived.Test.YthfdigjbmoconaaBagS1
set_option linter.unusedSimpArgs false
set_option linter.unusedVariables false
namespace Go.Proofs.Ythfdigjbmoconaa
open Go.RowKit Go.Tr
/-- Since a world whose heap had the size n₀: at g a bag with the texts of zs, whose slice v is its own. -/
structure BagSAt (n₀ : Nat) (w : World) (g : Nat) (v : Value) (zs : List Int) : Prop where
  block : w.heap[g]? = some (.cells #[v] 68 (0, 0))
  own : ownS w n₀ v zs
  ne : v.ownBlock ≠ some g
  newg : n₀ ≤ g
  rises : zs.Pairwise (· < ·)
  in7 : In7 zs
variable {n₀ : Nat} {w w' w0 : World} {g : Nat} {F G : Nat → Prop} {v : Value} {zs : List Int}
theorem BagSAt.lt (h : BagSAt n₀ w g v zs) : g < w.heap.size := (Array.getElem?_eq_some_iff.1 h.block).1
theorem BagSAt.kept (h : BagSAt n₀ w g v zs) (h1 : w'.heap[g]? = w.heap[g]?) (h2 : ∀ k, v.ownBlock = some k → w'.heap[k]? = w.heap[k]?) : BagSAt n₀ w' g v zs :=
  ⟨h1.trans h.block, ownsRow_kept h.own h2, h.ne, h.newg, h.rises, h.in7⟩
theorem BagSAt.below (h : BagSAt n₀ w g v zs) (hb : Below w.heap.size w w') : BagSAt n₀ w' g v zs := h.kept (hb.block _ h.lt) (fun k hk => hb.block _ (h.own.lt k hk).2)
theorem BagSAt.head (h : BagSAt n₀ w g v zs) : w.cell? ⟨g, 0, none⟩ = some v ∧ w.frozen? ⟨g, 0, none⟩ = false := ⟨cell_of_row w g 0 _ _ (0, 0) h.block, by simp [World.frozen?, h.block]⟩
theorem BagSAt.seq (h : BagSAt n₀ w g v zs) : ∃ a c, v = .slice a zs.length c ∧ SeqAt w a (strs zs) := by
  obtain ⟨a, c, rfl, hs, -, -⟩ := ownsRow_seq h.own
  exact ⟨a, c, rfl, hs⟩

theorem bnewS_any (w : World) :
    Calls Try.prog 23 #[.slice none 0 0] w fun e w' => ∃ g v, e = .returned (.pointer (some ⟨g, 0, none⟩)) ∧ BagSAt w.heap.size w' g v [] ∧ Below w.heap.size w w' := by
  go_enter Try.func23, Try.ntmps23
  go_wp2_with fail
  refine (Any.slices_Clone_string_nil laysCloneS 0 0 w).mono ?_
  rintro e w1 ⟨rfl, rfl⟩
  go_wp2_with fail
  refine (Any.slices_Sort_string_none laysSortS none 0 _).mono ?_
  rintro e w1 ⟨rfl, rfl⟩
  go_wp2_with fail
  refine (Any.slices_Compact_string_empty laysCompactS none 0 _).mono ?_
  rintro e w1 ⟨rfl, rfl⟩
  go_wp2_with fail
  go_ret
  exact ⟨_, _, rfl, ⟨heap_alloc_new _ _, World.ownsRow_nil _ _ _ _, by simp [Value.ownBlock], Nat.le_refl _, List.Pairwise.nil, fun z hz => by simp at hz⟩, (Below.refl _ _).alloc (Nat.le_refl _) _⟩
theorem blenS_any (w : World) (h : BagSAt n₀ w g v zs) : Calls Try.prog 28 #[.pointer (some ⟨g, 0, none⟩)] w fun e w' => e = .returned (.int .i64 zs.length) ∧ w = w' := by
  obtain ⟨c0, f0⟩ := h.head
  obtain ⟨a, c, rfl, -⟩ := h.seq
  clear h
  go_enter Try.func28, Try.ntmps28
  go_wp2_with fail
  go_ret
  exact ⟨rfl, rfl⟩
/-- A bag that has zs; its blocks are of F. -/
def BagS (w : World) (g : Nat) (F : Nat → Prop) (zs : List Int) : Prop := ∃ v, BagSAt 0 w g v zs ∧ F g ∧ ∀ k, v.ownBlock = some k → F k
theorem BagS.below (h : BagS w g F zs) (hb : Below w.heap.size w w') : BagS w' g F zs := by obtain ⟨v, h1, h2⟩ := h; exact ⟨v, h1.below hb, h2⟩
theorem BagS.only (h : BagS w g F zs) (ho : Only G w w') (hd : ∀ k, F k → ¬ G k) : BagS w' g F zs := by
  obtain ⟨v, h1, h2, h3⟩ := h
  exact ⟨v, h1.kept (ho.block _ h1.lt (hd _ h2)) (fun k hk => ho.block _ (h1.own.lt k hk).2 (hd _ (h3 k hk))), h2, h3⟩
theorem BagS.mono (h : BagS w g F zs) (hs : ∀ k, F k → G k) : BagS w g G zs := by obtain ⟨v, h1, h2, h3⟩ := h; exact ⟨v, h1, hs _ h2, fun k hk => hs _ (h3 k hk)⟩
theorem BagS.rises (h : BagS w g F zs) : zs.Pairwise (· < ·) := by obtain ⟨v, h1, _⟩ := h; exact h1.rises
theorem BagS.in7 (h : BagS w g F zs) : In7 zs := by obtain ⟨v, h1, _⟩ := h; exact h1.in7
/-- The field has been written: with a slice of the bag's block, or of a new one. -/
theorem BagSAt.store {v v' : Value} {zs' : List Int} (h : BagSAt 0 w g v zs) (hF : F g) (hFv : ∀ k, v.ownBlock = some k → F k) (ho : Only F w w') (hg : w'.heap[g]? = w.heap[g]?) (hv : ownS w' 0 v' zs') (hr : zs'.Pairwise (· < ·)) (h7 : In7 zs') (hf : ∀ k, v'.ownBlock = some k → v.ownBlock = some k ∨ w.heap.size ≤ k) :
    BagS (w'.setCell ⟨g, 0, none⟩ v') g (grow F w (w'.setCell ⟨g, 0, none⟩ v')) zs' ∧ Only F w (w'.setCell ⟨g, 0, none⟩ v') := by
  have hs : (w'.setCell ⟨g, 0, none⟩ v').heap.size = w'.heap.size := by simp [World.setCell]
  have hne : ∀ k, v'.ownBlock = some k → k ≠ g := fun k hk e => by
    subst e
    rcases hf k hk with h1 | h1
    · exact h.ne h1
    · have := h.lt; omega
  refine ⟨⟨v', ⟨by simp [World.setCell, Array.getElem?_modify, hg.trans h.block], ownsRow_kept hv (fun k hk => Below.heap_setCell _ _ _ _ (by simpa using hne k hk)), fun e => hne g e rfl, Nat.zero_le _, hr, h7⟩, Or.inl hF, fun k hk => ?_⟩, ho.setCell (Or.inl hF) _⟩
  rcases hf k hk with h1 | h1
  · exact Or.inl (hFv k h1)
  · exact Or.inr ⟨h1, by rw [hs]; exact (hv.lt k hk).2⟩
set_option maxRecDepth 100000 in
set_option maxHeartbeats 2000000 in
theorem bdelS_any (x : Int) (w : World) (hx7 : 0 ≤ x ∧ x ≤ 127) (h : BagS w g F zs) (hl : zs.length ≤ 1000000) : Calls Try.prog 25 #[.pointer (some ⟨g, 0, none⟩), .string (tx x)] w fun e w' => e = .returned (.bool (hasL zs x)) ∧ BagS w' g (grow F w w') (outL zs x) ∧ Only F w w' := by
  have HB0 := Lib.hid h
  obtain ⟨v, hb, hF, hFv⟩ := h
  obtain ⟨c0, f0⟩ := hb.head
  obtain ⟨a, c, rfl, hs⟩ := hb.seq
  have HS := Lib.hid hs
  have HR : Hid (zs.Pairwise (· < ·)) := hb.rises
  have H7 : Hid (In7 zs) := hb.in7
  have HX7 := Lib.hid hx7
  clear hx7
  have HBG := Lib.hid hb
  by_cases hx : x ∈ zs
  · have HP := Lib.hid (posL_mem hb.rises hx)
    have hplt : posL zs x < zs.length := (List.getElem?_eq_some_iff.1 HP.out).1
    obtain ⟨p, hp⟩ : ∃ p, p = posL zs x := ⟨_, rfl⟩
    have HPP : Hid (zs.countP (· < x) = p) := hp.symm
    rw [← hp] at HP hplt
    have HX : Hid (hasL zs x = true) := hasL_true hx
    obtain ⟨b0, off0, ea, hcell⟩ := hs (by rw [strs_length]; omega)
    have HE : Hid (zs.take p ++ zs.drop (p + 1) = outL zs x) := erase_out hb.rises HP.out
    have HYR : Hid ((outL zs x).Pairwise (· < ·)) := outL_rises hb.rises x
    have HY7 : Hid (In7 (outL zs x)) := fun z hz => H7.out z (mem_outL.1 hz).1
    obtain ⟨ys, hys⟩ : ∃ ys, ys = outL zs x := ⟨_, rfl⟩
    rw [← hys] at HE HYR HY7 ⊢
    clear hys
    have hoff : ∃ g', a = some ⟨g', 0, none⟩ := by
      rcases hb.own.2 with ⟨e, _⟩ | ⟨g', cap', cur, e, _⟩
      · rw [ea] at e; simp at e
      · injection e with e1 e2 e3; exact ⟨g', e1⟩
    obtain ⟨g', rfl⟩ := hoff
    have HPI : Hid ((p : Int) + 1 = ((p + 1 : Nat) : Int)) := by show _ = _; omega
    have hp63 : p < 1000000 := by omega
    rw [HX.out]
    clear hb hs hx hp hcell ea
    go_enter Try.func25, Try.ntmps25
    go_wp2_with fail
    refine (searchS_any _ _ c zs x _ HS.out rfl (by omega) HR.out H7.out HX7.out).mono ?_
    rintro e w1 ⟨rfl, hd⟩
    rw [HPP.out, HX.out]
    have HB1 := Lib.hid (HBG.out.below (hd.below _))
    have HD := Lib.hid (hd.below w.heap.size)
    obtain ⟨c1, f1⟩ := HB1.out.head
    clear hd c0 f0
    go_wp2_with fail
    rw [HPI.out]
    refine (delete_ownS 0 g' c zs p _ HB1.out.own hplt).mono ?_
    rintro e w2 ⟨rfl, ho, hg⟩
    rw [HE.out] at ho ⊢
    have hgl := HB1.out.lt
    have hgg : w2.heap[g]? = w1.heap[g]? := hg.block g hgl (fun e => HB1.out.ne e.symm)
    have c2 : w2.cell? ⟨g, 0, none⟩ = some (.slice (some ⟨g', 0, none⟩) zs.length c) := by rw [World.cell?_of_block (a := ⟨g, 0, none⟩) (w := w1) hgg]; exact c1
    have f2 : w2.frozen? ⟨g, 0, none⟩ = false := by rw [World.frozen?_of_block (a := ⟨g, 0, none⟩) (w := w1) hgg]; exact f1
    have HO2 : Hid (Only F w1 w2) := (Only.refl F w1).grown hg (fun k hk => Or.inl (hFv k hk))
    have HST := Lib.hid (HB1.out.store hF hFv HO2.out hgg ho HYR.out HY7.out (fun k hk => Or.inl hk))
    clear ho hg hgg c1 f1 hgl
    go_wp2_with fail
    go_ret
    exact ⟨rfl, HST.out.1.mono (fun k hk => hk.imp id (fun h => ⟨Nat.le_trans HD.out.size h.1, h.2⟩)), (Only.of_below HD.out F).trans HST.out.2 (fun k hk => Or.inl hk)⟩
  · have HX : Hid (hasL zs x = false) := hasL_false hx
    have HE : Hid (outL zs x = zs) := outL_none hx
    rw [HX.out, HE.out]
    clear hb hs hx HE
    go_enter Try.func25, Try.ntmps25
    go_wp2_with fail
    refine (searchS_any a _ c zs x _ HS.out rfl (by omega) HR.out H7.out HX7.out).mono ?_
    rintro e w1 ⟨rfl, hd⟩
    rw [HX.out]
    have HD := Lib.hid (hd.below w.heap.size)
    generalize List.countP _ zs = cc
    clear hd
    go_wp2_with fail
    go_ret
    exact ⟨rfl, (HB0.out.below HD.out).mono (fun k hk => Or.inl hk), Only.of_below HD.out F⟩
set_option maxRecDepth 100000 in
set_option maxHeartbeats 2000000 in
theorem bputS_any (x : Int) (w : World) (hx7 : 0 ≤ x ∧ x ≤ 127) (h : BagS w g F zs) (hl : zs.length ≤ 900000) : Calls Try.prog 24 #[.pointer (some ⟨g, 0, none⟩), .string (tx x)] w fun e w' => e = .returned (.bool (!hasL zs x)) ∧ BagS w' g (grow F w w') (putL zs x) ∧ Only F w w' := by
  have HB0 := Lib.hid h
  obtain ⟨v, hb, hF, hFv⟩ := h
  obtain ⟨c0, f0⟩ := hb.head
  obtain ⟨a, c, rfl, hs⟩ := hb.seq
  have HS := Lib.hid hs
  have HR : Hid (zs.Pairwise (· < ·)) := hb.rises
  have H7 : Hid (In7 zs) := hb.in7
  have HX7 := Lib.hid hx7
  clear hx7
  have HBG := Lib.hid hb
  by_cases hx : hasL zs x = true
  · have HX := Lib.hid hx
    have HE : Hid (putL zs x = zs) := by show _ = _; unfold putL; rw [if_pos hx]
    rw [HX.out, HE.out]
    clear hb hs hx HE
    go_enter Try.func24, Try.ntmps24
    go_wp2_with fail
    refine (searchS_any a _ c zs x _ HS.out rfl (by omega) HR.out H7.out HX7.out).mono ?_
    rintro e w1 ⟨rfl, hd⟩
    rw [HX.out]
    have HD := Lib.hid (hd.below w.heap.size)
    generalize List.countP _ zs = cc
    clear hd
    go_wp2_with fail
    go_ret
    exact ⟨rfl, (HB0.out.below HD.out).mono (fun k hk => Or.inl hk), Only.of_below HD.out F⟩
  · have HX : Hid (hasL zs x = false) := by show _ = _; simpa using hx
    have HYR : Hid ((putL zs x).Pairwise (· < ·)) := putL_rises hb.rises x
    have HY7 : Hid (In7 (putL zs x)) := fun z hz => (mem_putL.1 hz).elim (H7.out z) (fun e => by rw [e]; exact HX7.out)
    have HE : Hid (putL zs x = insL zs (posL zs x) x) := by show _ = _; unfold putL; rw [if_neg hx]
    have hple := posL_le zs x
    obtain ⟨p, hp⟩ : ∃ p, p = posL zs x := ⟨_, rfl⟩
    have HPP : Hid (zs.countP (· < x) = p) := hp.symm
    rw [← hp] at HE hple
    obtain ⟨ys, hys⟩ : ∃ ys, ys = putL zs x := ⟨_, rfl⟩
    rw [← hys] at HE HYR HY7 ⊢
    rw [HX.out]
    clear hb hs hx hp hys
    go_enter Try.func24, Try.ntmps24
    go_wp2_with fail
    refine (searchS_any a _ c zs x _ HS.out rfl (by omega) HR.out H7.out HX7.out).mono ?_
    rintro e w1 ⟨rfl, hd⟩
    rw [HPP.out, HX.out]
    have HB1 := Lib.hid (HBG.out.below (hd.below _))
    have HD := Lib.hid (hd.below w.heap.size)
    obtain ⟨c1, f1⟩ := HB1.out.head
    clear hd c0 f0
    go_wp2_with fail
    have HB2 := Lib.hid (HB1.out.below ((Below.refl _ w1).alloc (Nat.le_refl _) (.cells #[.string (tx x)] 9)))
    refine (insert_ownS 0 (.slice a zs.length c) zs p x w1.heap.size _ HB2.out.own hple (heap_alloc_new w1 _) (fun e => by have := (HB1.out.own.lt _ e).2; omega) (by omega) (Nat.zero_le _)).mono ?_
    rintro e w2 ⟨v', rfl, ho, hon, hf⟩
    rw [← HE.out] at ho
    have hgl := HB1.out.lt
    have hgg : w2.heap[g]? = w1.heap[g]? := (hon.block g (by simp; omega) (fun e => HB1.out.ne e)).trans (Below.heap_alloc w1 _ _ hgl)
    have c2 : w2.cell? ⟨g, 0, none⟩ = some (.slice a zs.length c) := by rw [World.cell?_of_block (a := ⟨g, 0, none⟩) (w := w1) hgg]; exact c1
    have f2 : w2.frozen? ⟨g, 0, none⟩ = false := by rw [World.frozen?_of_block (a := ⟨g, 0, none⟩) (w := w1) hgg]; exact f1
    have HO2 : Hid (Only F w1 w2) := ((Only.refl F w1).alloc _).trans (hon.mono (fun k hk => hFv k hk)) (fun k hk => Or.inl hk)
    have HST := Lib.hid (HB1.out.store hF hFv HO2.out hgg ho HYR.out HY7.out (fun k hk => (hf k hk).imp id (fun h => by simp at h; omega)))
    obtain ⟨va, vc, rfl, -, -, -⟩ := ownsRow_seq ho
    clear ho hon hf hgg c1 f1 hgl
    go_wp2_with fail
    go_ret
    exact ⟨rfl, HST.out.1.mono (fun k hk => hk.imp id (fun h => ⟨Nat.le_trans HD.out.size h.1, h.2⟩)), (Only.of_below HD.out F).trans HST.out.2 (fun k hk => Or.inl hk)⟩

end Go.Proofs.Ythfdigjbmoconaa
