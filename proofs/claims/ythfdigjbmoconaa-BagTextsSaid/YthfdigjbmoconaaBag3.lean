/-
  Package bag at int: Del; a bag that the call has made.
-/
import Derived.Test.YthfdigjbmoconaaBag2
set_option linter.unusedSimpArgs false
set_option linter.unusedVariables false
namespace Go.Proofs.Ythfdigjbmoconaa
open Go.RowKit Go.Tr

/-! ### places and members of a rising list -/
theorem posL_split {zs : List Int} (k : Nat) (x : Int) (h1 : ∀ z ∈ zs.take k, z < x) (h2 : ∀ z ∈ zs.drop k, x ≤ z) (hk : k ≤ zs.length) : posL zs x = k := by
  unfold posL
  have a : (zs.take k).countP (· < x) = k := by
    have : (zs.take k).countP (· < x) = (zs.take k).length := List.countP_eq_length.2 (fun z hz => by simpa using h1 z hz)
    rw [this, List.length_take]; omega
  have b : (zs.drop k).countP (· < x) = 0 := List.countP_eq_zero.2 (fun z hz => by have := h2 z hz; simp; omega)
  have e : zs.countP (· < x) = (zs.take k).countP (· < x) + (zs.drop k).countP (· < x) := by rw [← List.countP_append, List.take_append_drop]
  rw [e, a, b]; rfl
theorem posL_at {zs : List Int} (hr : zs.Pairwise (· < ·)) {i : Nat} {x : Int} (h : zs[i]? = some x) : posL zs x = i := by
  obtain ⟨hi, rfl⟩ := List.getElem?_eq_some_iff.1 h
  have hg : ∀ i j (hi : i < zs.length) (hj : j < zs.length), i < j → zs[i] < zs[j] := fun i j hi hj hij => List.pairwise_iff_getElem.1 hr i j hi hj hij
  refine posL_split i _ (fun z hz => ?_) (fun z hz => ?_) (by omega)
  · obtain ⟨j, hj, rfl⟩ := List.mem_iff_getElem.1 hz
    rw [List.length_take] at hj
    rw [List.getElem_take]
    exact hg j i (by omega) hi (by omega)
  · obtain ⟨j, hj, rfl⟩ := List.mem_iff_getElem.1 hz
    rw [List.length_drop] at hj
    rw [List.getElem_drop]
    by_cases h0 : j = 0
    · subst h0; exact Int.le_refl _
    · have := hg i (i + j) hi (by omega) (by omega); omega
theorem posL_mem {zs : List Int} (hr : zs.Pairwise (· < ·)) {x : Int} (h : x ∈ zs) : zs[posL zs x]? = some x := by
  obtain ⟨i, hi, rfl⟩ := List.mem_iff_getElem.1 h
  have h1 := List.getElem?_eq_getElem hi
  rw [posL_at hr h1, h1]
def outL (l : List Int) (x : Int) : List Int := l.filter fun y => !(y == x)
theorem mem_outL {l : List Int} {x y : Int} : y ∈ outL l x ↔ y ∈ l ∧ y ≠ x := by simp [outL]
theorem outL_rises {l : List Int} (h : l.Pairwise (· < ·)) (x : Int) : (outL l x).Pairwise (· < ·) := h.filter _
theorem outL_none {l : List Int} {x : Int} (h : x ∉ l) : outL l x = l := List.filter_eq_self.2 (fun y hy => by simp; intro e; subst e; exact h hy)
theorem erase_out : ∀ {zs : List Int} {p : Nat} {x : Int}, zs.Pairwise (· < ·) → zs[p]? = some x → zs.take p ++ zs.drop (p + 1) = outL zs x
  | [], p, x, _, h => by simp at h
  | y :: t, 0, x, hr, h => by
    simp at h; subst h
    have := (List.pairwise_cons.1 hr).1
    have e : outL (y :: t) y = t := by
      unfold outL
      rw [List.filter_cons]
      simp only [beq_self_eq_true, Bool.not_true, Bool.false_eq_true, if_false]
      exact List.filter_eq_self.2 (fun z hz => by have := this z hz; simp; omega)
    simp [e]
  | y :: t, p + 1, x, hr, h => by
    obtain ⟨h1, h2⟩ := List.pairwise_cons.1 hr
    have hx : t[p]? = some x := by simpa using h
    have hne : y ≠ x := by have := h1 x (List.mem_of_getElem? hx); omega
    have ih := erase_out h2 hx
    have e : outL (y :: t) x = y :: outL t x := by
      unfold outL
      rw [List.filter_cons]
      simp [hne]
    rw [e, ← ih]
    simp
theorem hasL_true {l : List Int} {x : Int} (h : x ∈ l) : hasL l x = true := (hasL_iff _ _).2 h
theorem hasL_false {l : List Int} {x : Int} (h : x ∉ l) : hasL l x = false := by
  cases hh : hasL l x
  · rfl
  · exact absurd ((hasL_iff _ _).1 hh) h

/-- What a library function has written into the slice that it was handed: fewer, and zeros behind them. -/
theorem own_shrunk {w w' : World} {base g cap : Nat} {zs ys : List Int} {q : Nat} (h : own3 w 3 base (.slice (some ⟨g, 0, none⟩) zs.length cap) zs) (hle : ys.length ≤ zs.length)
    (he : w' = Go.Sort.putRow (Value.int .i64) (Go.Sort.ahead w q) g 0 (ys ++ List.replicate (zs.length - ys.length) 0).toArray) : own3 w' 3 base (.slice (some ⟨g, 0, none⟩) ys.length cap) ys ∧ w.grownBy w' (some g) := by
  subst he
  obtain ⟨hx, hr⟩ := h
  rcases hr with ⟨e, _⟩ | ⟨g', cap', cur, e, hbase, hb, h1, h2, h3, h4⟩
  · cases e
  · cases e
    have hb' := heap_sortedI (n := q) (os := #[]) (ys ++ List.replicate (zs.length - ys.length) 0).toArray hb
    rw [Go.Sort.grow_empty] at hb'
    have hg := grownBy_sortedI (w := w) (g := g) (n := q) (os := #[]) (ys ++ List.replicate (zs.length - ys.length) 0).toArray
    rw [Go.Sort.grow_empty] at hg
    refine ⟨⟨by simp [ints_length], Or.inr ⟨g, cap, _, rfl, hbase, hb', by omega, h2, by simp [Go.Sort.putCells, h3], ?_⟩⟩, hg⟩
    have := take_putCellsI cur (ys ++ List.replicate (zs.length - ys.length) 0) (by simp; omega)
    have h5 := congrArg (List.take ys.length) this
    rw [List.take_take, Nat.min_eq_left (by simp)] at h5
    rw [Nat.mul_one, h5, List.map_append, List.take_append_of_le_length (by simp)]
    rw [List.take_of_length_le (by simp)]
    rfl
theorem delete_own (base : Nat) (g cap : Nat) (zs : List Int) (p : Nat) (w : World) (h : own3 w 3 base (.slice (some ⟨g, 0, none⟩) zs.length cap) zs) (hp : p < zs.length) :
    Calls Try.prog 38 #[.slice (some ⟨g, 0, none⟩) zs.length cap, .int .i64 p, .int .i64 ((p + 1 : Nat) : Int)] w fun e w' => e = .returned (.slice (some ⟨g, 0, none⟩) (zs.take p ++ zs.drop (p + 1)).length cap) ∧ own3 w' 3 base (.slice (some ⟨g, 0, none⟩) (zs.take p ++ zs.drop (p + 1)).length cap) (zs.take p ++ zs.drop (p + 1)) ∧ w.grownBy w' (some g) := by
  have hlen : (zs.take p ++ zs.drop (p + 1)).length = zs.length - 1 := by simp; omega
  have h0 := h
  obtain ⟨hx, hr⟩ := h
  rcases hr with ⟨e, _⟩ | ⟨g', cap', cur, e, hbase, hb, h1, h2, h3, h4⟩
  · cases e
  · cases e
    have hH := holds_of_blockI (ss := zs) hb (by have := h4; rw [ints_map] at this; simpa using this)
    refine (Any.slices_Delete_int laysDelete g 0 cap p (p + 1) zs w hH h1 (by simpa [maxLen] using h2) (by omega) (by omega)).mono ?_
    rintro e w' ⟨rfl, q, he⟩
    have e1 : p + 1 - p = 1 := by omega
    rw [e1] at he ⊢
    obtain ⟨a, b⟩ := own_shrunk (w' := w') (q := q) (ys := zs.take p ++ zs.drop (p + 1)) h0 (by omega) (by rw [he, hlen, show zs.length - (zs.length - 1) = 1 by omega])
    exact ⟨by rw [hlen], a, b⟩

/-- A bag that has zs; its blocks are of F. -/
def Bag (w : World) (g : Nat) (F : Nat → Prop) (zs : List Int) : Prop := ∃ v, BagAt 0 w g v zs ∧ F g ∧ ∀ k, v.ownBlock = some k → F k
variable {w w' : World} {g : Nat} {F G : Nat → Prop} {zs : List Int}
theorem Bag.below (h : Bag w g F zs) (hb : Below w.heap.size w w') : Bag w' g F zs := by obtain ⟨v, h1, h2⟩ := h; exact ⟨v, h1.below hb, h2⟩
theorem Bag.only (h : Bag w g F zs) (ho : Only G w w') (hd : ∀ k, F k → ¬ G k) : Bag w' g F zs := by
  obtain ⟨v, h1, h2, h3⟩ := h
  exact ⟨v, h1.kept (ho.block _ h1.lt (hd _ h2)) (fun k hk => ho.block _ (h1.own.lt k hk).2 (hd _ (h3 k hk))), h2, h3⟩
theorem Bag.mono (h : Bag w g F zs) (hs : ∀ k, F k → G k) : Bag w g G zs := by obtain ⟨v, h1, h2, h3⟩ := h; exact ⟨v, h1, hs _ h2, fun k hk => hs _ (h3 k hk)⟩
theorem Bag.rises (h : Bag w g F zs) : zs.Pairwise (· < ·) := by obtain ⟨v, h1, _⟩ := h; exact h1.rises
/-- The field has been written: with a slice of the bag's block, or of a new one. -/
theorem BagAt.store {v v' : Value} {zs' : List Int} (h : BagAt 0 w g v zs) (hF : F g) (hFv : ∀ k, v.ownBlock = some k → F k) (ho : Only F w w') (hg : w'.heap[g]? = w.heap[g]?) (hv : own3 w' 3 0 v' zs') (hr : zs'.Pairwise (· < ·)) (hf : ∀ k, v'.ownBlock = some k → v.ownBlock = some k ∨ w.heap.size ≤ k) :
    Bag (w'.setCell ⟨g, 0, none⟩ v') g (grow F w (w'.setCell ⟨g, 0, none⟩ v')) zs' ∧ Only F w (w'.setCell ⟨g, 0, none⟩ v') := by
  have hs : (w'.setCell ⟨g, 0, none⟩ v').heap.size = w'.heap.size := by simp [World.setCell]
  have hne : ∀ k, v'.ownBlock = some k → k ≠ g := fun k hk e => by
    subst e
    rcases hf k hk with h1 | h1
    · exact h.ne h1
    · have := h.lt; omega
  refine ⟨⟨v', ⟨by simp [World.setCell, Array.getElem?_modify, hg.trans h.block], ownsRow_kept hv (fun k hk => Below.heap_setCell _ _ _ _ (by simpa using hne k hk)), fun e => hne g e rfl, Nat.zero_le _, hr⟩, Or.inl hF, fun k hk => ?_⟩, ho.setCell (Or.inl hF) _⟩
  rcases hf k hk with h1 | h1
  · exact Or.inl (hFv k h1)
  · exact Or.inr ⟨h1, by rw [hs]; exact (hv.lt k hk).2⟩
set_option maxRecDepth 100000 in
set_option maxHeartbeats 2000000 in
theorem bdelF_any (x : Int) (w : World) (h : Bag w g F zs) (hl : zs.length ≤ 1000000) : Calls Try.prog 13 #[.pointer (some ⟨g, 0, none⟩), .int .i64 x] w fun e w' => e = .returned (.bool (hasL zs x)) ∧ Bag w' g (grow F w w') (outL zs x) ∧ Only F w w' := by
  have HB0 := Lib.hid h
  obtain ⟨v, hb, hF, hFv⟩ := h
  obtain ⟨c0, f0⟩ := hb.head
  obtain ⟨a, c, rfl, hs⟩ := hb.seq
  have HS := Lib.hid hs
  have HR : Hid (zs.Pairwise (· ≤ ·)) := rises_le hb.rises
  have HBG := Lib.hid hb
  by_cases hx : x ∈ zs
  · have HP := Lib.hid (posL_mem hb.rises hx)
    have hplt : posL zs x < zs.length := (List.getElem?_eq_some_iff.1 HP.out).1
    obtain ⟨p, hp⟩ : ∃ p, p = posL zs x := ⟨_, rfl⟩
    have HPP : Hid (zs.countP (· < x) = p) := hp.symm
    rw [← hp] at HP hplt
    have HX : Hid (hasL zs x = true) := hasL_true hx
    obtain ⟨b0, off0, ea, hcell⟩ := hs (by rw [ints_length]; omega)
    have HE : Hid (zs.take p ++ zs.drop (p + 1) = outL zs x) := erase_out hb.rises HP.out
    have HYR : Hid ((outL zs x).Pairwise (· < ·)) := outL_rises hb.rises x
    obtain ⟨ys, hys⟩ : ∃ ys, ys = outL zs x := ⟨_, rfl⟩
    rw [← hys] at HE HYR ⊢
    clear hys
    have hoff : ∃ g', a = some ⟨g', 0, none⟩ := by
      rcases hb.own.2 with ⟨e, _⟩ | ⟨g', cap', cur, e, _⟩
      · rw [ea] at e; simp at e
      · injection e with e1 e2 e3; exact ⟨g', e1⟩
    obtain ⟨g', rfl⟩ := hoff
    have HPI : Hid ((p : Int) + 1 = ((p + 1 : Nat) : Int)) := by show _ = _; omega
    have hp63 : p < 1000000 := by omega
    rw [HX.out]
    clear hb hs hx hp hcell ea
    go_enter Try.func13, Try.ntmps13
    go_wp2_with fail
    refine (search_any _ _ c zs x _ HS.out rfl (by omega) HR.out).mono ?_
    rintro e w1 ⟨rfl, hd⟩
    rw [HPP.out, HX.out]
    have HB1 := Lib.hid (HBG.out.below (hd.below _))
    have HD := Lib.hid (hd.below w.heap.size)
    obtain ⟨c1, f1⟩ := HB1.out.head
    clear hd c0 f0
    go_wp2_with fail
    rw [HPI.out]
    refine (delete_own 0 g' c zs p _ HB1.out.own hplt).mono ?_
    rintro e w2 ⟨rfl, ho, hg⟩
    rw [HE.out] at ho ⊢
    have hgl := HB1.out.lt
    have hgg : w2.heap[g]? = w1.heap[g]? := hg.block g hgl (fun e => HB1.out.ne e.symm)
    have c2 : w2.cell? ⟨g, 0, none⟩ = some (.slice (some ⟨g', 0, none⟩) zs.length c) := by rw [World.cell?_of_block (a := ⟨g, 0, none⟩) (w := w1) hgg]; exact c1
    have f2 : w2.frozen? ⟨g, 0, none⟩ = false := by rw [World.frozen?_of_block (a := ⟨g, 0, none⟩) (w := w1) hgg]; exact f1
    have HO2 : Hid (Only F w1 w2) := (Only.refl F w1).grown hg (fun k hk => Or.inl (hFv k hk))
    have HST := Lib.hid (HB1.out.store hF hFv HO2.out hgg ho HYR.out (fun k hk => Or.inl hk))
    clear ho hg hgg c1 f1 hgl
    go_wp2_with fail
    go_ret
    exact ⟨rfl, HST.out.1.mono (fun k hk => hk.imp id (fun h => ⟨Nat.le_trans HD.out.size h.1, h.2⟩)), (Only.of_below HD.out F).trans HST.out.2 (fun k hk => Or.inl hk)⟩
  · have HX : Hid (hasL zs x = false) := hasL_false hx
    have HE : Hid (outL zs x = zs) := outL_none hx
    rw [HX.out, HE.out]
    clear hb hs hx HE
    go_enter Try.func13, Try.ntmps13
    go_wp2_with fail
    refine (search_any a _ c zs x _ HS.out rfl (by omega) HR.out).mono ?_
    rintro e w1 ⟨rfl, hd⟩
    rw [HX.out]
    have HD := Lib.hid (hd.below w.heap.size)
    generalize List.countP _ zs = cc
    clear hd
    go_wp2_with fail
    go_ret
    exact ⟨rfl, (HB0.out.below HD.out).mono (fun k hk => Or.inl hk), Only.of_below HD.out F⟩
end Go.Proofs.Ythfdigjbmoconaa
