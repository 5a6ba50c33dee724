/-
  Parts of the proof, one behind the other: KBag.
-/
import Derived.Test.YtcdpnfchmpncjaaGreatDoorMa13
set_option linter.unusedSimpArgs false
set_option linter.unusedVariables false
namespace Go.Proofs.YtcdpnfchmpncjaaGreatDoor
open Go.RowKit Go.Tr
structure BagAt (n₀ : Nat) (w : World) (g : Nat) (v : Value) (zs : List Int) : Prop where
  block : w.heap[g]? = some (.cells #[v] 157 (0, 0))
  own : own3 w 3 n₀ v zs
  ne : v.ownBlock ≠ some g
  newg : n₀ ≤ g
  rises : zs.Pairwise (· < ·)
variable {n₀ : Nat} {w w' : World} {g : Nat} {v : Value} {zs : List Int}
theorem BagAt.lt (h : BagAt n₀ w g v zs) : g < w.heap.size := (Array.getElem?_eq_some_iff.1 h.block).1
theorem ownsRow_kept {w w' : World} {base : Nat} {e : TypeId} {size n : Nat} {v : Value} {xs : List Value} (h : w.ownsRow base e size v n xs) (hk : ∀ k, v.ownBlock = some k → w'.heap[k]? = w.heap[k]?) : w'.ownsRow base e size v n xs := by
  obtain ⟨h1, h2⟩ := h
  refine ⟨h1, h2.imp id ?_⟩
  rintro ⟨k, cap, cur, rfl, h3, h4, h5⟩
  exact ⟨k, cap, cur, rfl, h3, (hk k rfl).trans h4, h5⟩
theorem BagAt.kept (h : BagAt n₀ w g v zs) (h1 : w'.heap[g]? = w.heap[g]?) (h2 : ∀ k, v.ownBlock = some k → w'.heap[k]? = w.heap[k]?) : BagAt n₀ w' g v zs :=
  ⟨h1.trans h.block, ownsRow_kept h.own h2, h.ne, h.newg, h.rises⟩
theorem BagAt.below (h : BagAt n₀ w g v zs) (hb : Below w.heap.size w w') : BagAt n₀ w' g v zs := h.kept (hb.block _ h.lt) (fun k hk => hb.block _ (h.own.lt k hk).2)
theorem BagAt.head (h : BagAt n₀ w g v zs) : w.cell? ⟨g, 0, none⟩ = some v ∧ w.frozen? ⟨g, 0, none⟩ = false := ⟨cell_of_row w g 0 _ _ (0, 0) h.block, by simp [World.frozen?, h.block]⟩
theorem BagAt.seq (h : BagAt n₀ w g v zs) : ∃ a c, v = .slice a zs.length c ∧ SeqAt w a (ints zs) := by
  obtain ⟨a, c, rfl, hs, -, -⟩ := ownsRow_seq h.own
  exact ⟨a, c, rfl, hs⟩
set_option maxRecDepth 100000 in
theorem bnew_any (a : Option Addr) (n c : Nat) (zs : List Int) (w : World) (h : SeqAt w a (ints zs)) (hl : zs.length = n) (hs : n ≤ 1000000) :
    Calls Tryz.prog 36 #[.slice a n c] w fun e w' => ∃ g v, e = .returned (.pointer (some ⟨g, 0, none⟩)) ∧ BagAt w.heap.size w' g v (setL zs) ∧ Below w.heap.size w w' := by
  have HC := Lib.hid (clone_any a n c zs w h hl hs)
  have hsl : zs.length ≤ 1000000 := by omega
  have HL := Lib.hid hsl
  clear h hl hsl
  go_enter Tryz.func36, Tryz.ntmps36
  go_wp2_with fail
  refine HC.out.mono ?_
  rintro e w1 ⟨v1, rfl, ho, hb⟩
  have HO := Lib.hid ho
  have HB := Lib.hid hb
  clear ho hb HC
  go_wp2_with fail
  refine (sort_own w.heap.size v1 zs _ HO.out (by have := HL.out; omega)).mono ?_
  rintro e w2 ⟨rfl, ho, hg⟩
  have HB2 := Lib.hid (HB.out.grown hg HB.out.size (fun k hk => (HO.out.lt k hk).1))
  have HO2 := Lib.hid ho
  clear ho hg HO HB
  go_wp2_with fail
  refine (compact_own w.heap.size v1 (sortL zs) _ HO2.out (by rw [sortL_length]; have := HL.out; omega) (compact_le _)).mono ?_
  rintro e w3 ⟨v3, rfl, ho, hg, -⟩
  have HB3 := Lib.hid (HB2.out.grown hg HB2.out.size (fun k hk => (HO2.out.lt k hk).1))
  have HO3 := Lib.hid ho
  clear ho hg HO2 HB2
  obtain ⟨va, vc, rfl, -, -, -⟩ := ownsRow_seq HO3.out
  go_wp2_with fail
  go_ret
  refine ⟨_, _, rfl, ⟨heap_alloc_new w3 _, ownsRow_kept HO3.out (fun k hk => Below.heap_alloc _ _ _ (HO3.out.lt k hk).2), fun e => ?_, HB3.out.size, setL_rises zs⟩, HB3.out.alloc HB3.out.size _⟩
  have := (HO3.out.lt _ e).2
  omega
def posL (zs : List Int) (x : Int) : Nat := zs.countP (· < x)
theorem posL_le (zs : List Int) (x : Int) : posL zs x ≤ zs.length := List.countP_le_length
theorem posL_split {zs : List Int} (k : Nat) (x : Int) (h1 : ∀ z ∈ zs.take k, z < x) (h2 : ∀ z ∈ zs.drop k, x ≤ z) (hk : k ≤ zs.length) : posL zs x = k := by
  unfold posL
  have a : (zs.take k).countP (· < x) = k := by
    have : (zs.take k).countP (· < x) = (zs.take k).length := List.countP_eq_length.2 (fun z hz => by simpa using h1 z hz)
    rw [this, List.length_take]; omega
  have b : (zs.drop k).countP (· < x) = 0 := List.countP_eq_zero.2 (fun z hz => by have := h2 z hz; simp; omega)
  have e : zs.countP (· < x) = (zs.take k).countP (· < x) + (zs.drop k).countP (· < x) := by rw [← List.countP_append, List.take_append_drop]
  rw [e, a, b]; rfl
theorem posL_at {zs : List Int} (hr : zs.Pairwise (· < ·)) {i : Nat} {x : Int} (h : zs[i]? = some x) : posL zs x = i := by
  obtain ⟨hi, rfl⟩ := List.getElem?_eq_some_iff.1 h
  have hg : ∀ i j (hi : i < zs.length) (hj : j < zs.length), i < j → zs[i] < zs[j] := fun i j hi hj hij => List.pairwise_iff_getElem.1 hr i j hi hj hij
  refine posL_split i _ (fun z hz => ?_) (fun z hz => ?_) (by omega)
  · obtain ⟨j, hj, rfl⟩ := List.mem_iff_getElem.1 hz
    rw [List.length_take] at hj
    rw [List.getElem_take]
    exact hg j i (by omega) hi (by omega)
  · obtain ⟨j, hj, rfl⟩ := List.mem_iff_getElem.1 hz
    rw [List.length_drop] at hj
    rw [List.getElem_drop]
    by_cases h0 : j = 0
    · subst h0; exact Int.le_refl _
    · have := hg i (i + j) hi (by omega) (by omega); omega
theorem posL_mem {zs : List Int} (hr : zs.Pairwise (· < ·)) {x : Int} (h : x ∈ zs) : zs[posL zs x]? = some x := by
  obtain ⟨i, hi, rfl⟩ := List.mem_iff_getElem.1 h
  have h1 := List.getElem?_eq_getElem hi
  rw [posL_at hr h1, h1]
def outL (l : List Int) (x : Int) : List Int := l.filter fun y => !(y == x)
theorem mem_outL {l : List Int} {x y : Int} : y ∈ outL l x ↔ y ∈ l ∧ y ≠ x := by simp [outL]
theorem outL_rises {l : List Int} (h : l.Pairwise (· < ·)) (x : Int) : (outL l x).Pairwise (· < ·) := h.filter _
theorem outL_none {l : List Int} {x : Int} (h : x ∉ l) : outL l x = l := List.filter_eq_self.2 (fun y hy => by simp; intro e; subst e; exact h hy)
theorem erase_out : ∀ {zs : List Int} {p : Nat} {x : Int}, zs.Pairwise (· < ·) → zs[p]? = some x → zs.take p ++ zs.drop (p + 1) = outL zs x
  | [], p, x, _, h => by simp at h
  | y :: t, 0, x, hr, h => by
    simp at h; subst h
    have := (List.pairwise_cons.1 hr).1
    have e : outL (y :: t) y = t := by
      unfold outL
      rw [List.filter_cons]
      simp only [beq_self_eq_true, Bool.not_true, Bool.false_eq_true, if_false]
      exact List.filter_eq_self.2 (fun z hz => by have := this z hz; simp; omega)
    simp [e]
  | y :: t, p + 1, x, hr, h => by
    obtain ⟨h1, h2⟩ := List.pairwise_cons.1 hr
    have hx : t[p]? = some x := by simpa using h
    have hne : y ≠ x := by have := h1 x (List.mem_of_getElem? hx); omega
    have ih := erase_out h2 hx
    have e : outL (y :: t) x = y :: outL t x := by
      unfold outL
      rw [List.filter_cons]
      simp [hne]
    rw [e, ← ih]
    simp
theorem hasL_true {l : List Int} {x : Int} (h : x ∈ l) : hasL l x = true := (hasL_iff _ _).2 h
theorem hasL_false {l : List Int} {x : Int} (h : x ∉ l) : hasL l x = false := by
  cases hh : hasL l x
  · rfl
  · exact absurd ((hasL_iff _ _).1 hh) h
theorem own_shrunk {w w' : World} {base g cap : Nat} {zs ys : List Int} {q : Nat} (h : own3 w 3 base (.slice (some ⟨g, 0, none⟩) zs.length cap) zs) (hle : ys.length ≤ zs.length)
    (he : w' = Go.Sort.putRow (Value.int .i64) (Go.Sort.ahead w q) g 0 (ys ++ List.replicate (zs.length - ys.length) 0).toArray) : own3 w' 3 base (.slice (some ⟨g, 0, none⟩) ys.length cap) ys ∧ w.grownBy w' (some g) := by
  subst he
  obtain ⟨hx, hr⟩ := h
  rcases hr with ⟨e, _⟩ | ⟨g', cap', cur, e, hbase, hb, h1, h2, h3, h4⟩
  · cases e
  · cases e
    have hb' := heap_sortedI (n := q) (os := #[]) (ys ++ List.replicate (zs.length - ys.length) 0).toArray hb
    rw [Go.Sort.grow_empty] at hb'
    have hg := grownBy_sortedI (w := w) (g := g) (n := q) (os := #[]) (ys ++ List.replicate (zs.length - ys.length) 0).toArray
    rw [Go.Sort.grow_empty] at hg
    refine ⟨⟨by simp [ints_length], Or.inr ⟨g, cap, _, rfl, hbase, hb', by omega, h2, by simp [Go.Sort.putCells, h3], ?_⟩⟩, hg⟩
    have := take_putCellsI cur (ys ++ List.replicate (zs.length - ys.length) 0) (by simp; omega)
    have h5 := congrArg (List.take ys.length) this
    rw [List.take_take, Nat.min_eq_left (by simp)] at h5
    rw [Nat.mul_one, h5, List.map_append, List.take_append_of_le_length (by simp)]
    rw [List.take_of_length_le (by simp)]
    rfl
theorem delete_own (base : Nat) (g cap : Nat) (zs : List Int) (p : Nat) (w : World) (h : own3 w 3 base (.slice (some ⟨g, 0, none⟩) zs.length cap) zs) (hp : p < zs.length) :
    Calls Tryz.prog 156 #[.slice (some ⟨g, 0, none⟩) zs.length cap, .int .i64 p, .int .i64 ((p + 1 : Nat) : Int)] w fun e w' => e = .returned (.slice (some ⟨g, 0, none⟩) (zs.take p ++ zs.drop (p + 1)).length cap) ∧ own3 w' 3 base (.slice (some ⟨g, 0, none⟩) (zs.take p ++ zs.drop (p + 1)).length cap) (zs.take p ++ zs.drop (p + 1)) ∧ w.grownBy w' (some g) := by
  have hlen : (zs.take p ++ zs.drop (p + 1)).length = zs.length - 1 := by simp; omega
  have h0 := h
  obtain ⟨hx, hr⟩ := h
  rcases hr with ⟨e, _⟩ | ⟨g', cap', cur, e, hbase, hb, h1, h2, h3, h4⟩
  · cases e
  · cases e
    have hH := holds_of_blockI (ss := zs) hb (by have := h4; rw [ints_map] at this; simpa using this)
    refine (Any.slices_Delete_int laysDelete g 0 cap p (p + 1) zs w hH h1 (by simpa [maxLen] using h2) (by omega) (by omega)).mono ?_
    rintro e w' ⟨rfl, q, he⟩
    have e1 : p + 1 - p = 1 := by omega
    rw [e1] at he ⊢
    obtain ⟨a, b⟩ := own_shrunk (w' := w') (q := q) (ys := zs.take p ++ zs.drop (p + 1)) h0 (by omega) (by rw [he, hlen, show zs.length - (zs.length - 1) = 1 by omega])
    exact ⟨by rw [hlen], a, b⟩
def Bag (w : World) (g : Nat) (F : Nat → Prop) (zs : List Int) : Prop := ∃ v, BagAt 0 w g v zs ∧ F g ∧ ∀ k, v.ownBlock = some k → F k
variable {w w' : World} {g : Nat} {F G : Nat → Prop} {zs : List Int}
theorem Bag.below (h : Bag w g F zs) (hb : Below w.heap.size w w') : Bag w' g F zs := by obtain ⟨v, h1, h2⟩ := h; exact ⟨v, h1.below hb, h2⟩
theorem Bag.only (h : Bag w g F zs) (ho : Only G w w') (hd : ∀ k, F k → ¬ G k) : Bag w' g F zs := by
  obtain ⟨v, h1, h2, h3⟩ := h
  exact ⟨v, h1.kept (ho.block _ h1.lt (hd _ h2)) (fun k hk => ho.block _ (h1.own.lt k hk).2 (hd _ (h3 k hk))), h2, h3⟩
theorem Bag.mono (h : Bag w g F zs) (hs : ∀ k, F k → G k) : Bag w g G zs := by obtain ⟨v, h1, h2, h3⟩ := h; exact ⟨v, h1, hs _ h2, fun k hk => hs _ (h3 k hk)⟩
theorem Bag.rises (h : Bag w g F zs) : zs.Pairwise (· < ·) := by obtain ⟨v, h1, _⟩ := h; exact h1.rises
theorem BagAt.store {v v' : Value} {zs' : List Int} (h : BagAt 0 w g v zs) (hF : F g) (hFv : ∀ k, v.ownBlock = some k → F k) (ho : Only F w w') (hg : w'.heap[g]? = w.heap[g]?) (hv : own3 w' 3 0 v' zs') (hr : zs'.Pairwise (· < ·)) (hf : ∀ k, v'.ownBlock = some k → v.ownBlock = some k ∨ w.heap.size ≤ k) :
    Bag (w'.setCell ⟨g, 0, none⟩ v') g (grow F w (w'.setCell ⟨g, 0, none⟩ v')) zs' ∧ Only F w (w'.setCell ⟨g, 0, none⟩ v') := by
  have hs : (w'.setCell ⟨g, 0, none⟩ v').heap.size = w'.heap.size := by simp [World.setCell]
  have hne : ∀ k, v'.ownBlock = some k → k ≠ g := fun k hk e => by
    subst e
    rcases hf k hk with h1 | h1
    · exact h.ne h1
    · have := h.lt; omega
  refine ⟨⟨v', ⟨by simp [World.setCell, Array.getElem?_modify, hg.trans h.block], ownsRow_kept hv (fun k hk => Below.heap_setCell _ _ _ _ (by simpa using hne k hk)), fun e => hne g e rfl, Nat.zero_le _, hr⟩, Or.inl hF, fun k hk => ?_⟩, ho.setCell (Or.inl hF) _⟩
  rcases hf k hk with h1 | h1
  · exact Or.inl (hFv k h1)
  · exact Or.inr ⟨h1, by rw [hs]; exact (hv.lt k hk).2⟩
set_option maxRecDepth 100000 in
set_option maxHeartbeats 2000000 in
theorem bdelF_any (x : Int) (w : World) (h : Bag w g F zs) (hl : zs.length ≤ 1000000) : Calls Tryz.prog 114 #[.pointer (some ⟨g, 0, none⟩), .int .i64 x] w fun e w' => e = .returned (.bool (hasL zs x)) ∧ Bag w' g (grow F w w') (outL zs x) ∧ Only F w w' := by
  have HB0 := Lib.hid h
  obtain ⟨v, hb, hF, hFv⟩ := h
  obtain ⟨c0, f0⟩ := hb.head
  obtain ⟨a, c, rfl, hs⟩ := hb.seq
  have HS := Lib.hid hs
  have HR : Hid (zs.Pairwise (· ≤ ·)) := rises_le hb.rises
  have HBG := Lib.hid hb
  by_cases hx : x ∈ zs
  · have HP := Lib.hid (posL_mem hb.rises hx)
    have hplt : posL zs x < zs.length := (List.getElem?_eq_some_iff.1 HP.out).1
    obtain ⟨p, hp⟩ : ∃ p, p = posL zs x := ⟨_, rfl⟩
    have HPP : Hid (zs.countP (· < x) = p) := hp.symm
    rw [← hp] at HP hplt
    have HX : Hid (hasL zs x = true) := hasL_true hx
    obtain ⟨b0, off0, ea, hcell⟩ := hs (by rw [ints_length]; omega)
    have HE : Hid (zs.take p ++ zs.drop (p + 1) = outL zs x) := erase_out hb.rises HP.out
    have HYR : Hid ((outL zs x).Pairwise (· < ·)) := outL_rises hb.rises x
    obtain ⟨ys, hys⟩ : ∃ ys, ys = outL zs x := ⟨_, rfl⟩
    rw [← hys] at HE HYR ⊢
    clear hys
    have hoff : ∃ g', a = some ⟨g', 0, none⟩ := by
      rcases hb.own.2 with ⟨e, _⟩ | ⟨g', cap', cur, e, _⟩
      · rw [ea] at e; simp at e
      · injection e with e1 e2 e3; exact ⟨g', e1⟩
    obtain ⟨g', rfl⟩ := hoff
    have HPI : Hid ((p : Int) + 1 = ((p + 1 : Nat) : Int)) := by show _ = _; omega
    have hp63 : p < 1000000 := by omega
    rw [HX.out]
    clear hb hs hx hp hcell ea
    go_enter Tryz.func114, Tryz.ntmps114
    go_wp2_with fail
    refine (search_any _ _ c zs x _ HS.out rfl (by omega) HR.out).mono ?_
    rintro e w1 ⟨rfl, hd⟩
    rw [HPP.out, HX.out]
    have HB1 := Lib.hid (HBG.out.below (hd.below _))
    have HD := Lib.hid (hd.below w.heap.size)
    obtain ⟨c1, f1⟩ := HB1.out.head
    clear hd c0 f0
    go_wp2_with fail
    rw [HPI.out]
    refine (delete_own 0 g' c zs p _ HB1.out.own hplt).mono ?_
    rintro e w2 ⟨rfl, ho, hg⟩
    rw [HE.out] at ho ⊢
    have hgl := HB1.out.lt
    have hgg : w2.heap[g]? = w1.heap[g]? := hg.block g hgl (fun e => HB1.out.ne e.symm)
    have c2 : w2.cell? ⟨g, 0, none⟩ = some (.slice (some ⟨g', 0, none⟩) zs.length c) := by rw [World.cell?_of_block (a := ⟨g, 0, none⟩) (w := w1) hgg]; exact c1
    have f2 : w2.frozen? ⟨g, 0, none⟩ = false := by rw [World.frozen?_of_block (a := ⟨g, 0, none⟩) (w := w1) hgg]; exact f1
    have HO2 : Hid (Only F w1 w2) := (Only.refl F w1).grown hg (fun k hk => Or.inl (hFv k hk))
    have HST := Lib.hid (HB1.out.store hF hFv HO2.out hgg ho HYR.out (fun k hk => Or.inl hk))
    clear ho hg hgg c1 f1 hgl
    go_wp2_with fail
    go_ret
    exact ⟨rfl, HST.out.1.mono (fun k hk => hk.imp id (fun h => ⟨Nat.le_trans HD.out.size h.1, h.2⟩)), (Only.of_below HD.out F).trans HST.out.2 (fun k hk => Or.inl hk)⟩
  · have HX : Hid (hasL zs x = false) := hasL_false hx
    have HE : Hid (outL zs x = zs) := outL_none hx
    rw [HX.out, HE.out]
    clear hb hs hx HE
    go_enter Tryz.func114, Tryz.ntmps114
    go_wp2_with fail
    refine (search_any a _ c zs x _ HS.out rfl (by omega) HR.out).mono ?_
    rintro e w1 ⟨rfl, hd⟩
    rw [HX.out]
    have HD := Lib.hid (hd.below w.heap.size)
    generalize List.countP _ zs = cc
    clear hd
    go_wp2_with fail
    go_ret
    exact ⟨rfl, (HB0.out.below HD.out).mono (fun k hk => Or.inl hk), Only.of_below HD.out F⟩
theorem block_setCells (b : Nat) (T : TypeId) : ∀ (vs : List Value) (o : Nat) (w : World) (cs : Array Value), w.heap[b]? = some (.cells cs T (0, 0)) → o + vs.length ≤ cs.size →
    ∃ cs', (w.setCells b o vs).heap[b]? = some (.cells cs' T (0, 0)) ∧ cs'.size = cs.size ∧ (∀ j, j < vs.length → cs'[o + j]? = vs[j]?) ∧ ∀ k, k < o ∨ o + vs.length ≤ k → cs'[k]? = cs[k]?
  | [], o, w, cs, h, _ => ⟨cs, h, rfl, by simp, fun _ _ => rfl⟩
  | v :: r, o, w, cs, h, hs => by
    have hs' : o + 1 + r.length ≤ cs.size := by simp at hs; omega
    have hb : (w.setCell ⟨b, o, none⟩ v).heap[b]? = some (.cells (cs.setIfInBounds o v) T (0, 0)) := by simp [World.setCell, Array.getElem?_modify, h]
    obtain ⟨cs', h1, h2, h3, h4⟩ := block_setCells b T r (o + 1) _ _ hb (by simpa using hs')
    refine ⟨cs', h1, by simpa using h2, fun j hj => ?_, fun k hk => ?_⟩
    · cases j with
      | zero =>
        rw [Nat.add_zero, h4 o (Or.inl (by omega))]
        have : o < cs.size := by omega
        simp [this]
      | succ j =>
        have := h3 j (by simp at hj; omega)
        rw [show o + (j + 1) = o + 1 + j by omega, this]; simp
    · have hk' : k < o + 1 ∨ o + 1 + r.length ≤ k := by simp at hk; omega
      rw [h4 k hk', Array.getElem?_setIfInBounds, if_neg (by simp at hk; omega)]
def insV (cs : List Value) (p : Nat) (v : Value) : List Value := cs.take p ++ v :: cs.drop p
theorem insV_get {cs : List Value} {p : Nat} {v : Value} (hp : p ≤ cs.length) (k : Nat) : (insV cs p v)[k]? = if k < p then cs[k]? else if k = p then some v else cs[k - 1]? := by
  unfold insV
  by_cases h1 : k < p
  · rw [if_pos h1, List.getElem?_append_left (by simp; omega), List.getElem?_take_of_lt h1]
  · rw [if_neg h1, List.getElem?_append_right (by simp; omega)]
    have hl : (cs.take p).length = p := by simp; omega
    rw [hl]
    by_cases h2 : k = p
    · subst h2; simp
    · rw [if_neg h2]
      obtain ⟨j, rfl⟩ : ∃ j, k = p + 1 + j := ⟨k - p - 1, by omega⟩
      rw [show p + 1 + j - p = j + 1 by omega, List.getElem?_cons_succ, List.getElem?_drop]
      congr 1; omega
theorem insV_length {cs : List Value} {p : Nat} (v : Value) (hp : p ≤ cs.length) : (insV cs p v).length = cs.length + 1 := by unfold insV; simp; omega
def insL (zs : List Int) (p : Nat) (x : Int) : List Int := zs.take p ++ x :: zs.drop p
theorem insL_length {zs : List Int} {p : Nat} (x : Int) (hp : p ≤ zs.length) : (insL zs p x).length = zs.length + 1 := by unfold insL; simp; omega
theorem ints_insL (zs : List Int) (p : Nat) (x : Int) : ints (insL zs p x) = insV (ints zs) p (iv x) := by simp [ints, insL, insV, List.map_take, List.map_drop]
theorem own_of_block {w : World} {base b cap : Nat} {cs : Array Value} {ys : List Int} (hb : w.heap[b]? = some (.cells cs 3 (0, 0))) (hbase : base ≤ b) (hn : ys.length ≤ cap) (hc : cap ≤ maxLen) (hs : cs.size = cap) (h : ∀ k, k < ys.length → cs[k]? = (ints ys)[k]?) : own3 w 3 base (.slice (some ⟨b, 0, none⟩) ys.length cap) ys := by
  refine ⟨by simp [ints_length], Or.inr ⟨b, cap, cs, rfl, hbase, hb, hn, hc, by omega, ?_⟩⟩
  apply List.ext_getElem?
  intro k
  by_cases hk : k < ys.length
  · rw [Nat.mul_one, List.getElem?_take_of_lt hk, Array.getElem?_toList, h k hk]
  · rw [List.getElem?_eq_none (by simp; omega), List.getElem?_eq_none (by rw [ints_length]; omega)]
theorem insert_own (base : Nat) (v : Value) (zs : List Int) (p : Nat) (x : Int) (vb : Nat) (w : World) (h : own3 w 3 base v zs) (hp : p ≤ zs.length) (hvb : w.heap[vb]? = some (.cells #[iv x] 3 (0, 0))) (hne : v.ownBlock ≠ some vb) (hs : zs.length ≤ 1000000) (hbase : base ≤ w.heap.size) :
    Calls Tryz.prog 138 #[v, .int .i64 p, .slice (some ⟨vb, 0, none⟩) 1 1] w fun e w' => ∃ v', e = .returned v' ∧ own3 w' 3 base v' (insL zs p x) ∧ Only (fun k => v.ownBlock = some k) w w' ∧ ∀ k, v'.ownBlock = some k → v.ownBlock = some k ∨ w.heap.size ≤ k := by
  have hvs : ∀ (j : Nat) (u : Value), [iv x][j]? = some u → w.cell? ⟨vb, 0 + j, none⟩ = some u := fun j u hu => by
    cases j with
    | zero => simp at hu; subst hu; exact cell_of_row w vb 0 _ _ (0, 0) hvb
    | succ j => simp at hu
  have h1v : ∀ u ∈ [iv x], u.oneCell' = true := fun u hu => by simp at hu; subst hu; rfl
  have hil := ints_length zs
  have hIL := insL_length x hp
  have hget := insV_get (cs := ints zs) (v := iv x) (p := p) (by rw [hil]; exact hp)
  have zsz : ∀ n, (Builtin.zeroCells (Value.int .i64 0).cells n).size = n := fun n => by rw [size_zeroCells]; simp [Value.cells]
  have h1c : ∀ u ∈ ints zs, u.oneCell' = true := ints_oneCell .i64 zs
  rcases h.2 with ⟨rfl, hn0⟩ | ⟨b, cap, cur, rfl, hbb, hb, h1, h2, h3, h4⟩
  · have hz : zs = [] := List.eq_nil_of_length_eq_zero hn0
    subst hz
    obtain rfl : p = 0 := by simpa using hp
    refine (Any2.slices_Insert_int_end_grow laysInsert none 0 0 vb 0 1 1 [] [iv x] w (by decide) (by decide) (by decide) (by decide) rfl rfl (fun _ => rfl) (fun a e => by cases e) hvs h1v).mono ?_
    rintro e w' ⟨rfl, rfl⟩
    have hg := grownCap_ge w 1 0 3
    have hm := grownCap_le_maxLen w 1 0 3 (by decide)
    refine ⟨_, rfl, own_of_block (ys := insL [] 0 x) (heap_alloc_new w.drew _) hbase hg hm ?_ ?_, (Only.refl _ w).drew.alloc _, fun k hk => Or.inr ?_⟩
    · rw [show laysInsert_ren.t 3 = 3 from rfl]
      have := zsz (grownCap w 1 0 3 - 1)
      simp [this]; omega
    · intro k hk
      have : k = 0 := by simp [insL] at hk; omega
      subst this
      rw [Array.getElem?_append_left (by simp)]
      simp [insL, ints]
    · simp [Value.ownBlock] at hk; omega
  · have hcur : ∀ k, k < zs.length → cur[k]? = (ints zs)[k]? := fun k hk => by
      rw [← h4, Nat.mul_one, List.getElem?_take_of_lt hk, Array.getElem?_toList]
    have hsz : cur.size = cap := by omega
    have hcs : ∀ (j : Nat) (u : Value), (ints zs)[j]? = some u → w.cell? ⟨b, 0 + j, none⟩ = some u := fun j u hu => by
      have hj : j < zs.length := by have := (List.getElem?_eq_some_iff.1 hu).1; rw [hil] at this; exact this
      rw [Nat.zero_add, cell_of_row w b j cur _ (0, 0) hb, hcur j hj]; exact hu
    have hfz : ∀ j, w.frozen? ⟨b, 0 + j, none⟩ = false := fun j => by simp [World.frozen?, hb]
    have hsp : ∀ j, j < cap → (w.cell? ⟨b, 0 + j, none⟩).isSome = true := fun j hj => by
      rw [Nat.zero_add, cell_of_row w b j cur _ (0, 0) hb]; simp; omega
    have hOwn : (Value.slice (some ⟨b, 0, none⟩) zs.length cap).ownBlock = some b := rfl
    have hvbb : vb ≠ b := fun e => hne (by rw [e]; rfl)
    by_cases hr : zs.length + 1 ≤ cap
    · by_cases hpn : p < zs.length
      · refine (Any2.slices_Insert_int_shift laysInsert b 0 zs.length cap p vb 0 1 1 (ints zs) [iv x] w hpn (by decide) hr (by simpa [maxLen] using h2) hvbb hil rfl hcs (fun j hj => hsp j (by omega)) (fun j _ => hfz j) hvs h1c h1v 3 3 1 cap (by simp [World.shape?, hvb]) (by simp [World.shape?, hb, hsz]) (by omega) (by simp [World.frozen?, hvb]) (by simp [World.frozen?, hvb])).mono ?_
        rintro e w' ⟨rfl, rfl⟩
        obtain ⟨c1, d1, d2, d3, d4⟩ := block_setCells b 3 ((ints zs).drop p) (0 + (p + 1)) w.drew cur hb (by rw [List.length_drop, hil]; omega)
        obtain ⟨c2, e1, e2, e3, e4⟩ := block_setCells b 3 [iv x] (0 + p) _ c1 d1 (by simp; omega)
        refine ⟨_, rfl, by
          have := own_of_block (ys := insL zs p x) e1 hbb (by rw [hIL]; exact hr) h2 (by omega) (fun k hk => ?_)
          · rw [hIL] at this; exact this
          · rw [hIL] at hk
            rw [ints_insL, hget]
            by_cases k1 : k < p
            · rw [if_pos k1, e4 k (Or.inl (by omega)), d4 k (Or.inl (by omega)), hcur k (by omega)]
            · rw [if_neg k1]
              by_cases k2 : k = p
              · subst k2; rw [if_pos rfl]; have := e3 0 (by simp); simpa using this
              · rw [if_neg k2, e4 k (Or.inr (by simp; omega))]
                have := d3 (k - (p + 1)) (by rw [List.length_drop, hil]; omega)
                rw [show 0 + (p + 1) + (k - (p + 1)) = k by omega, List.getElem?_drop, show p + (k - (p + 1)) = k - 1 by omega] at this
                exact this, ?_, fun k hk => Or.inl hk⟩
        exact (((Only.refl _ w).drew.grown (grown_setCells b _ _ w.drew) (fun k hk => Or.inl hk)).grown (grown_setCells b _ _ _) (fun k hk => Or.inl hk))
      · have hpe : p = zs.length := by omega
        subst hpe
        refine (Any2.slices_Insert_int_end_room laysInsert b 0 zs.length cap vb 0 1 1 [iv x] w (by decide) hr (by simpa [maxLen] using h2) rfl (fun j hj => by have := hsp (zs.length + j) (by omega); rw [Nat.add_assoc]; exact this) (fun j _ => by rw [Nat.add_assoc]; exact hfz _) hvs h1v).mono ?_
        rintro e w' ⟨rfl, rfl⟩
        obtain ⟨c1, d1, d2, d3, d4⟩ := block_setCells b 3 [iv x] (0 + zs.length) w cur hb (by simp; omega)
        refine ⟨_, rfl, by
          have := own_of_block (ys := insL zs zs.length x) d1 hbb (by rw [hIL]; exact hr) h2 (by omega) (fun k hk => ?_)
          · rw [hIL] at this; exact this
          · rw [hIL] at hk
            rw [ints_insL, hget]
            by_cases k1 : k < zs.length
            · rw [if_pos k1, d4 k (Or.inl (by omega)), hcur k k1]
            · have k2 : k = zs.length := by omega
              subst k2
              rw [if_neg k1, if_pos rfl]
              have := d3 0 (by simp); simpa using this, ?_, fun k hk => Or.inl hk⟩
        exact (Only.refl _ w).grown (grown_setCells b _ _ w) (fun k hk => Or.inl hk)
    · have hg := grownCap_ge w (zs.length + 1) cap 3
      have hm := grownCap_le_maxLen w (zs.length + 1) cap 3 (by unfold maxLen; omega)
      by_cases hpn : p < zs.length
      · refine (Any2.slices_Insert_int_grow laysInsert b 0 zs.length cap p vb 0 1 1 (ints zs) [iv x] w hpn (by decide) h1 (by omega) (by omega) hil rfl hcs hvs h1c h1v).mono ?_
        rintro e w' ⟨rfl, rfl⟩
        have hz1 := zsz (zs.length + 1 - p)
        have hz2 := zsz (grownCap w (zs.length + 1) cap 3 - (zs.length + 1))
        obtain ⟨c1, d1, d2, d3, d4⟩ := block_setCells w.heap.size 3 [iv x] p (w.alloc (.cells (((ints zs).take p).toArray ++ Builtin.zeroCells (Value.int .i64 0).cells (zs.length + 1 - p) ++ Builtin.zeroCells (Value.int .i64 0).cells (grownCap w (zs.length + 1) cap 3 - (zs.length + 1))) 3)).drew _ (heap_alloc_new w _) (by simp [hz1, hz2, hil]; omega)
        have hd2 : c1.size = grownCap w (zs.length + 1) cap 3 := by rw [d2]; simp [hz1, hz2, hil]; omega
        obtain ⟨c2, e1, e2, e3, e4⟩ := block_setCells w.heap.size 3 ((ints zs).drop p) (p + 1) (((w.alloc (.cells (((ints zs).take p).toArray ++ Builtin.zeroCells (Value.int .i64 0).cells (zs.length + 1 - p) ++ Builtin.zeroCells (Value.int .i64 0).cells (grownCap w (zs.length + 1) cap 3 - (zs.length + 1))) 3)).drew.setCells w.heap.size p [iv x]).drew) c1 d1 (by rw [List.length_drop, hil]; omega)
        refine ⟨_, rfl, by
          have := own_of_block (ys := insL zs p x) (cap := grownCap w (zs.length + 1) cap 3) e1 hbase (by rw [hIL]; exact hg) hm (by omega) (fun k hk => ?_)
          · rw [hIL] at this; exact this
          · rw [hIL] at hk
            rw [ints_insL, hget]
            by_cases k1 : k < p
            · rw [if_pos k1, e4 k (Or.inl (by omega)), d4 k (Or.inl (by omega))]
              rw [Array.getElem?_append_left (by simp [hz1, hil]; omega), Array.getElem?_append_left (by simp [hil]; omega)]
              simp [List.getElem?_take_of_lt k1]
            · rw [if_neg k1]
              by_cases k2 : k = p
              · subst k2; rw [if_pos rfl, e4 k (Or.inl (by omega))]; have := d3 0 (by simp); simpa using this
              · rw [if_neg k2]
                have := e3 (k - (p + 1)) (by rw [List.length_drop, hil]; omega)
                rw [show p + 1 + (k - (p + 1)) = k by omega, List.getElem?_drop, show p + (k - (p + 1)) = k - 1 by omega] at this
                exact this, ?_, fun k hk => Or.inr (by simp [Value.ownBlock] at hk; omega)⟩
        exact (((((Only.refl _ w).alloc _).drew.grown (grown_setCells w.heap.size _ _ _) (fun k hk => by cases hk; exact Or.inr (Nat.le_refl _))).drew).grown (grown_setCells w.heap.size _ _ _) (fun k hk => by cases hk; exact Or.inr (Nat.le_refl _)))
      · have hpe : p = zs.length := by omega
        subst hpe
        refine (Any2.slices_Insert_int_end_grow laysInsert (some ⟨b, 0, none⟩) zs.length cap vb 0 1 1 (ints zs) [iv x] w (by decide) h1 (by omega) (by omega) hil rfl (fun e => by cases e) (fun a e j u hu => by cases e; have := hcs j u hu; unfold Addr.add; split <;> simp_all) hvs h1v).mono ?_
        rintro e w' ⟨rfl, rfl⟩
        have hz2 := zsz (grownCap w (zs.length + 1) cap 3 - (zs.length + 1))
        refine ⟨_, rfl, by
          have := own_of_block (ys := insL zs zs.length x) (cap := grownCap w (zs.length + 1) cap 3) (heap_alloc_new w.drew (.cells ((ints zs ++ [iv x]).toArray ++ Builtin.zeroCells (Value.int .i64 0).cells (grownCap w (zs.length + 1) cap 3 - (zs.length + 1))) 3)) hbase (by rw [hIL]; exact hg) hm (by simp [hz2, hil]; omega) (fun k hk => ?_)
          · rw [hIL] at this; exact this
          · rw [hIL] at hk
            rw [Array.getElem?_append_left (by simp [hil]; omega)]
            simp [ints_insL, insV, ← hil], (Only.refl _ w).drew.alloc _, fun k hk => Or.inr (by simp [Value.ownBlock] at hk; omega)⟩
def putL (zs : List Int) (x : Int) : List Int := if hasL zs x = true then zs else insL zs (posL zs x) x
theorem posL_low {zs : List Int} (hr : zs.Pairwise (· < ·)) (x : Int) : (∀ z ∈ zs.take (posL zs x), z < x) ∧ ∀ z ∈ zs.drop (posL zs x), x ≤ z := by
  induction zs with
  | nil => simp
  | cons y t ih =>
    obtain ⟨h1, h2⟩ := List.pairwise_cons.1 hr
    obtain ⟨i1, i2⟩ := ih h2
    by_cases hy : y < x
    · have e : posL (y :: t) x = posL t x + 1 := by unfold posL; rw [List.countP_cons]; simp [hy]
      rw [e]
      refine ⟨fun z hz => ?_, fun z hz => i2 z (by simpa using hz)⟩
      rw [List.take_succ_cons] at hz
      rcases List.mem_cons.1 hz with rfl | hz
      · exact hy
      · exact i1 z hz
    · have e0 : posL t x = 0 := List.countP_eq_zero.2 (fun z hz => by have := h1 z hz; simp; omega)
      have e : posL (y :: t) x = 0 := by
        have : posL (y :: t) x = posL t x + 0 := by unfold posL; rw [List.countP_cons]; simp; omega
        rw [this, e0]
      rw [e]
      refine ⟨fun z hz => by simp at hz, fun z hz => ?_⟩
      simp at hz
      rcases hz with rfl | hz
      · omega
      · have := h1 z hz; omega
theorem putL_rises {zs : List Int} (hr : zs.Pairwise (· < ·)) (x : Int) : (putL zs x).Pairwise (· < ·) := by
  unfold putL
  by_cases h : hasL zs x = true
  · rw [if_pos h]; exact hr
  · rw [if_neg h]
    have hn : x ∉ zs := fun hx => h (hasL_true hx)
    obtain ⟨h1, h2⟩ := posL_low hr x
    unfold insL
    have ht := List.take_append_drop (posL zs x) zs
    rw [← ht] at hr
    obtain ⟨a, b, c⟩ := List.pairwise_append.1 hr
    refine List.pairwise_append.2 ⟨by simpa using a, List.pairwise_cons.2 ⟨fun z hz => ?_, by simpa using b⟩, fun y hy z hz => ?_⟩
    · have := h2 z hz
      have hne : z ≠ x := fun e => hn (by rw [← e]; exact List.mem_of_mem_drop hz)
      omega
    · rcases List.mem_cons.1 hz with rfl | hz
      · exact h1 y hy
      · have := h1 y hy; have := h2 z hz; omega
theorem mem_putL {zs : List Int} {x y : Int} : y ∈ putL zs x ↔ y ∈ zs ∨ y = x := by
  unfold putL
  by_cases h : hasL zs x = true
  · rw [if_pos h]
    exact ⟨Or.inl, fun h' => h'.elim id (fun e => by subst e; exact (hasL_iff _ _).1 h)⟩
  · rw [if_neg h]
    unfold insL
    rw [List.mem_append, List.mem_cons]
    have ht := List.take_append_drop (posL zs x) zs
    have : y ∈ zs ↔ y ∈ zs.take (posL zs x) ∨ y ∈ zs.drop (posL zs x) := by rw [← List.mem_append, ht]
    rw [this]
    constructor
    · rintro (h | rfl | h)
      · exact Or.inl (Or.inl h)
      · exact Or.inr rfl
      · exact Or.inl (Or.inr h)
    · rintro ((h | h) | rfl)
      · exact Or.inl h
      · exact Or.inr (Or.inr h)
      · exact Or.inr (Or.inl rfl)
theorem putL_length (zs : List Int) (x : Int) : (putL zs x).length ≤ zs.length + 1 := by
  unfold putL
  split
  · omega
  · rw [insL_length x (posL_le zs x)]; omega
variable {w w' w0 : World} {g : Nat} {F G : Nat → Prop} {zs : List Int}
set_option maxRecDepth 100000 in
set_option maxHeartbeats 2000000 in
theorem bputF_any (x : Int) (w : World) (h : Bag w g F zs) (hl : zs.length ≤ 900000) : Calls Tryz.prog 91 #[.pointer (some ⟨g, 0, none⟩), .int .i64 x] w fun e w' => e = .returned (.bool (!hasL zs x)) ∧ Bag w' g (grow F w w') (putL zs x) ∧ Only F w w' := by
  have HB0 := Lib.hid h
  obtain ⟨v, hb, hF, hFv⟩ := h
  obtain ⟨c0, f0⟩ := hb.head
  obtain ⟨a, c, rfl, hs⟩ := hb.seq
  have HS := Lib.hid hs
  have HR : Hid (zs.Pairwise (· ≤ ·)) := rises_le hb.rises
  have HBG := Lib.hid hb
  by_cases hx : hasL zs x = true
  · have HX := Lib.hid hx
    have HE : Hid (putL zs x = zs) := by show _ = _; unfold putL; rw [if_pos hx]
    rw [HX.out, HE.out]
    clear hb hs hx HE
    go_enter Tryz.func91, Tryz.ntmps91
    go_wp2_with fail
    refine (search_any a _ c zs x _ HS.out rfl (by omega) HR.out).mono ?_
    rintro e w1 ⟨rfl, hd⟩
    rw [HX.out]
    have HD := Lib.hid (hd.below w.heap.size)
    generalize List.countP _ zs = cc
    clear hd
    go_wp2_with fail
    go_ret
    exact ⟨rfl, (HB0.out.below HD.out).mono (fun k hk => Or.inl hk), Only.of_below HD.out F⟩
  · have HX : Hid (hasL zs x = false) := by show _ = _; simpa using hx
    have HYR : Hid ((putL zs x).Pairwise (· < ·)) := putL_rises hb.rises x
    have HE : Hid (putL zs x = insL zs (posL zs x) x) := by show _ = _; unfold putL; rw [if_neg hx]
    have hple := posL_le zs x
    obtain ⟨p, hp⟩ : ∃ p, p = posL zs x := ⟨_, rfl⟩
    have HPP : Hid (zs.countP (· < x) = p) := hp.symm
    rw [← hp] at HE hple
    obtain ⟨ys, hys⟩ : ∃ ys, ys = putL zs x := ⟨_, rfl⟩
    rw [← hys] at HE HYR ⊢
    rw [HX.out]
    clear hb hs hx hp hys
    go_enter Tryz.func91, Tryz.ntmps91
    go_wp2_with fail
    refine (search_any a _ c zs x _ HS.out rfl (by omega) HR.out).mono ?_
    rintro e w1 ⟨rfl, hd⟩
    rw [HPP.out, HX.out]
    have HB1 := Lib.hid (HBG.out.below (hd.below _))
    have HD := Lib.hid (hd.below w.heap.size)
    obtain ⟨c1, f1⟩ := HB1.out.head
    clear hd c0 f0
    go_wp2_with fail
    have HB2 := Lib.hid (HB1.out.below ((Below.refl _ w1).alloc (Nat.le_refl _) (.cells #[.int .i64 x] 3)))
    refine (insert_own 0 (.slice a zs.length c) zs p x w1.heap.size _ HB2.out.own hple (heap_alloc_new w1 _) (fun e => by have := (HB1.out.own.lt _ e).2; omega) (by omega) (Nat.zero_le _)).mono ?_
    rintro e w2 ⟨v', rfl, ho, hon, hf⟩
    rw [← HE.out] at ho
    have hgl := HB1.out.lt
    have hgg : w2.heap[g]? = w1.heap[g]? := (hon.block g (by simp; omega) (fun e => HB1.out.ne e)).trans (Below.heap_alloc w1 _ _ hgl)
    have c2 : w2.cell? ⟨g, 0, none⟩ = some (.slice a zs.length c) := by rw [World.cell?_of_block (a := ⟨g, 0, none⟩) (w := w1) hgg]; exact c1
    have f2 : w2.frozen? ⟨g, 0, none⟩ = false := by rw [World.frozen?_of_block (a := ⟨g, 0, none⟩) (w := w1) hgg]; exact f1
    have HO2 : Hid (Only F w1 w2) := ((Only.refl F w1).alloc _).trans (hon.mono (fun k hk => hFv k hk)) (fun k hk => Or.inl hk)
    have HST := Lib.hid (HB1.out.store hF hFv HO2.out hgg ho HYR.out (fun k hk => (hf k hk).imp id (fun h => by simp at h; omega)))
    obtain ⟨va, vc, rfl, -, -, -⟩ := ownsRow_seq ho
    clear ho hon hf hgg c1 f1 hgl
    go_wp2_with fail
    go_ret
    exact ⟨rfl, HST.out.1.mono (fun k hk => hk.imp id (fun h => ⟨Nat.le_trans HD.out.size h.1, h.2⟩)), (Only.of_below HD.out F).trans HST.out.2 (fun k hk => Or.inl hk)⟩
end Go.Proofs.YtcdpnfchmpncjaaGreatDoor
