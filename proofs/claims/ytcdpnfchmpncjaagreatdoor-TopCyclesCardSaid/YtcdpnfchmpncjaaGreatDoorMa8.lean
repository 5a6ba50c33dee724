/-
  Parts of the proof, one behind the other: SortK, KBump2.
-/
import Derived.Sort.OwnSortedInts
import Derived.Maps.AppendAt
import Derived.Test.YtcdpnfchmpncjaaGreatDoorMa7
set_option linter.unusedSimpArgs false
set_option linter.unusedVariables false
namespace Go.Proofs.YtcdpnfchmpncjaaGreatDoor
open Go.RowKit Go.Tr
def sortL (zs : List Int) : List Int := zs.mergeSort fun x y => decide (x ≤ y)
theorem sortL_perm (zs : List Int) : (sortL zs).Perm zs := List.mergeSort_perm _ _
theorem sortL_length (zs : List Int) : (sortL zs).length = zs.length := (sortL_perm zs).length_eq
theorem mem_sortL {zs : List Int} {x : Int} : x ∈ sortL zs ↔ x ∈ zs := (sortL_perm zs).mem_iff
theorem sortL_sorted (zs : List Int) : (sortL zs).Pairwise (· ≤ ·) := by
  have := List.pairwise_mergeSort (le := fun x y : Int => decide (x ≤ y)) (fun a b c h1 h2 => by simp at *; omega) (fun a b => by simp; omega) zs
  exact this.imp (fun h => by simpa using h)
theorem ints_map (zs : List Int) : ints zs = zs.map (Value.int .i64) := rfl
theorem sort_own (base : Nat) (v : Value) (zs : List Int) (w : World) (h : own3 w 3 base v zs) (hsz : zs.length < 4611686018427387904) :
    Calls Tryz.prog 71 #[v] w fun e w' => e = .returned (.tuple #[]) ∧ own3 w' 3 base v (sortL zs) ∧ w.grownBy w' v.ownBlock := by
  have h0 := h
  obtain ⟨hx, hr⟩ := h
  rcases hr with ⟨rfl, hn⟩ | ⟨g, cap, cur, rfl, hbase, hb, h1, h2, h3, h4⟩
  · have hz : zs = [] := List.eq_nil_of_length_eq_zero hn
    subst hz
    refine (Any.slices_Sort_int_none laysSort none 0 w).mono ?_
    rintro e w' ⟨rfl, rfl⟩
    exact ⟨rfl, by rw [show sortL [] = [] by simp [sortL]]; exact h0, ⟨rfl, rfl, rfl, Nat.le_refl _, fun _ _ _ => rfl⟩⟩
  · have hH := holds_of_blockI (ss := zs) hb (by have := h4; rw [ints_map] at this; simpa using this)
    refine (Any.slices_Sort_int laysSort g 0 cap zs w hH (Array.getElem?_eq_some_iff.1 hb).1 hsz).mono ?_
    rintro e w' ⟨rfl, n, os, rfl⟩
    refine ⟨rfl, ?_, grownBy_sortedI _⟩
    have := ownsRow_sortedI (n := n) (os := os) (ts := sortL zs) (sortL_length zs) hbase hb h1 h2 h3
    show World.ownsRow _ _ _ _ _ _ _
    rw [sortL_length]
    exact this
theorem search_any (a : Option Addr) (n c : Nat) (zs : List Int) (x : Int) (w : World) (h : SeqAt w a (ints zs)) (hl : zs.length = n) (hbig : n < 4611686018427387904) (hs : zs.Pairwise (· ≤ ·)) :
    Calls Tryz.prog 137 #[.slice a n c, .int .i64 x] w fun e w' => e = .returned (.tuple #[.int .i64 (zs.countP (· < x) : Nat), .bool (hasL zs x)]) ∧ Drawn w w' := by
  have hc : zs.contains x = hasL zs x := by
    rw [Bool.eq_iff_iff, hasL_iff]; simp
  by_cases h0 : n = 0
  · subst h0
    have hz : zs = [] := List.eq_nil_of_length_eq_zero hl
    subst hz
    refine (Any.slices_BinarySearch_int_empty laysSearch a c x w).mono ?_
    rintro e w' ⟨rfl, rfl⟩
    exact ⟨by rw [← hc]; rfl, Drawn.refl _⟩
  · obtain ⟨b, off, rfl, hcell⟩ := h (by rw [ints_length]; omega)
    have ht : zs.take n = zs := List.take_of_length_le (by omega)
    refine (Any.slices_BinarySearch_int laysSearch b off n c zs x w (by omega) hbig (fun j hj => ?_) (by rw [ht]; exact hs)).mono ?_
    · rw [hcell j (by rw [ints_length]; exact hj)]
      simp [ints, List.getD, hj, iv]
    · rintro e w' ⟨rfl, q, rfl⟩
      rw [ht, hc]
      exact ⟨rfl, ⟨q, rfl⟩⟩
theorem compact_own (base : Nat) (v : Value) (zs : List Int) (w : World) (h : own3 w 3 base v zs) (hsz : zs.length ≤ 9223372036854775807) (hle : (Lib.compact zs).length ≤ zs.length) :
    Calls Tryz.prog 85 #[v] w fun e w' => ∃ v', e = .returned v' ∧ own3 w' 3 base v' (Lib.compact zs) ∧ w.grownBy w' v.ownBlock ∧ v'.ownBlock = v.ownBlock := by
  have h0 := h
  obtain ⟨hx, hr⟩ := h
  rcases hr with ⟨rfl, hn⟩ | ⟨g, cap, cur, rfl, hbase, hb, h1, h2, h3, h4⟩
  · have hz : zs = [] := List.eq_nil_of_length_eq_zero hn
    subst hz
    refine (Any.slices_Compact_int_empty laysCompact none 0 w).mono ?_
    rintro e w' ⟨rfl, rfl⟩
    exact ⟨_, rfl, h0, ⟨rfl, rfl, rfl, Nat.le_refl _, fun _ _ _ => rfl⟩, rfl⟩
  · have hH := holds_of_blockI (ss := zs) hb (by have := h4; rw [ints_map] at this; simpa using this)
    refine (Any.slices_Compact_int laysCompact g 0 cap zs w hH hsz h1).mono ?_
    rintro e w' ⟨rfl, q, rfl⟩
    have hb' := heap_sortedI (n := q) (os := #[]) (Lib.compact zs ++ List.replicate (zs.length - (Lib.compact zs).length) 0).toArray hb
    rw [Go.Sort.grow_empty] at hb'
    have hg := grownBy_sortedI (w := w) (g := g) (n := q) (os := #[]) (Lib.compact zs ++ List.replicate (zs.length - (Lib.compact zs).length) 0).toArray
    rw [Go.Sort.grow_empty] at hg
    refine ⟨_, rfl, ⟨by simp [ints_length], Or.inr ⟨g, cap, _, rfl, hbase, hb', by omega, h2, by simp [Go.Sort.putCells, h3], ?_⟩⟩, hg, rfl⟩
    have := take_putCellsI cur (Lib.compact zs ++ List.replicate (zs.length - (Lib.compact zs).length) 0) (by simp; omega)
    have h5 := congrArg (List.take (Lib.compact zs).length) this
    rw [List.take_take, Nat.min_eq_left (by simp)] at h5
    rw [Nat.mul_one, h5, List.map_append, List.take_append_of_le_length (by simp)]
    rw [List.take_of_length_le (by simp)]
    rfl
theorem compact_rises {zs : List Int} (h : zs.Pairwise (· ≤ ·)) : (Lib.compact zs).Pairwise (· < ·) ∧ ∀ x, x ∈ Lib.compact zs ↔ x ∈ zs := by
  have hle : ∀ i j, i ≤ j → j < zs.length → zs.toArray[i]! ≤ zs.toArray[j]! := fun i j hij hj => by
    rw [List.pairwise_iff_getElem] at h
    rw [getElem!_pos zs.toArray i (by simp; omega), getElem!_pos zs.toArray j (by simpa using hj)]
    rcases Nat.lt_or_ge i j with h1 | h1
    · simpa using h i j (by omega) hj h1
    · have : i = j := by omega
      subst this; exact Int.le_refl _
  have key : ∀ m, m ≤ zs.length → (Lib.compactUpTo zs.toArray m).Pairwise (· < ·) ∧ ∀ x, x ∈ Lib.compactUpTo zs.toArray m ↔ ∃ j, j < m ∧ zs.toArray[j]! = x := by
    intro m
    induction m with
    | zero => intro _; simp [Lib.compactUpTo]
    | succ m ih =>
      intro hm
      obtain ⟨p1, p2⟩ := ih (by omega)
      rw [Lib.compactUpTo_succ]
      by_cases hk : Lib.keeps zs.toArray m = true
      · rw [if_pos hk]
        have hk' : m = 0 ∨ zs.toArray[m]! ≠ zs.toArray[m - 1]! := by simpa [Lib.keeps] using hk
        refine ⟨List.pairwise_append.2 ⟨p1, by simp, fun a ha b hb => ?_⟩, fun x => ?_⟩
        · simp only [List.mem_singleton] at hb
          obtain ⟨j, hj, rfl⟩ := (p2 a).1 ha
          rcases hk' with h0 | h0
          · omega
          · have h1 := hle j (m - 1) (by omega) (by omega)
            have h2 := hle (m - 1) m (by omega) (by omega)
            omega
        · rw [List.mem_append, p2, List.mem_singleton]
          constructor
          · rintro (⟨j, hj, rfl⟩ | rfl)
            · exact ⟨j, by omega, rfl⟩
            · exact ⟨m, by omega, rfl⟩
          · rintro ⟨j, hj, rfl⟩
            rcases Nat.lt_or_ge j m with h1 | h1
            · exact Or.inl ⟨j, h1, rfl⟩
            · have : j = m := by omega
              subst this; exact Or.inr rfl
      · rw [if_neg hk, List.append_nil]
        have hk' : m ≠ 0 ∧ zs.toArray[m]! = zs.toArray[m - 1]! := by
          simp only [Lib.keeps, decide_eq_true_eq, not_or, Classical.not_not] at hk
          exact ⟨hk.1, hk.2⟩
        refine ⟨p1, fun x => (p2 x).trans ⟨fun ⟨j, hj, e⟩ => ⟨j, by omega, e⟩, fun ⟨j, hj, e⟩ => ?_⟩⟩
        rcases Nat.lt_or_ge j m with h1 | h1
        · exact ⟨j, h1, e⟩
        · have : j = m := by omega
          subst this
          exact ⟨j - 1, by omega, by rw [← hk'.2]; exact e⟩
  obtain ⟨k1, k2⟩ := key zs.length (Nat.le_refl _)
  refine ⟨k1, fun x => (k2 x).trans ?_⟩
  rw [List.mem_iff_getElem]
  constructor
  · rintro ⟨j, hj, rfl⟩; exact ⟨j, hj, by rw [getElem!_pos zs.toArray j (by simpa using hj)]; simp⟩
  · rintro ⟨j, hj, rfl⟩; exact ⟨j, hj, by rw [getElem!_pos zs.toArray j (by simpa using hj)]; simp⟩
theorem compact_le (zs : List Int) : (Lib.compact zs).length ≤ zs.length := by
  unfold Lib.compact Lib.compactUpTo
  rw [List.length_map]
  have := List.length_filter_le (Lib.keeps zs.toArray) (List.range zs.length)
  simpa using this
def setL (zs : List Int) : List Int := Lib.compact (sortL zs)
theorem setL_rises (zs : List Int) : (setL zs).Pairwise (· < ·) := (compact_rises (sortL_sorted zs)).1
theorem mem_setL {zs : List Int} {x : Int} : x ∈ setL zs ↔ x ∈ zs := ((compact_rises (sortL_sorted zs)).2 x).trans mem_sortL
theorem setL_length (zs : List Int) : (setL zs).length ≤ zs.length := Nat.le_trans (compact_le _) (Nat.le_of_eq (sortL_length zs))
theorem rises_le {zs : List Int} (h : zs.Pairwise (· < ·)) : zs.Pairwise (· ≤ ·) := h.imp (fun h => by omega)
theorem rises_eq : ∀ {xs ys : List Int}, xs.Pairwise (· < ·) → ys.Pairwise (· < ·) → (∀ z, z ∈ xs ↔ z ∈ ys) → xs = ys
  | [], [], _, _, _ => rfl
  | [], y :: ys, _, _, h => by have := (h y).2 (by simp); cases this
  | x :: xs, [], _, _, h => by have := (h x).1 (by simp); cases this
  | x :: xs, y :: ys, h1, h2, h => by
    obtain ⟨a1, a2⟩ := List.pairwise_cons.1 h1
    obtain ⟨b1, b2⟩ := List.pairwise_cons.1 h2
    have e : x = y := by
      rcases List.mem_cons.1 ((h x).1 (by simp)) with e | e
      · exact e
      · rcases List.mem_cons.1 ((h y).2 (by simp)) with e2 | e2
        · exact e2.symm
        · have := a1 y e2; have := b1 x e; omega
    subst e
    congr 1
    refine rises_eq a2 b2 (fun z => ⟨fun hz => ?_, fun hz => ?_⟩)
    · rcases List.mem_cons.1 ((h z).1 (List.mem_cons_of_mem _ hz)) with e | e
      · have := a1 z hz; omega
      · exact e
    · rcases List.mem_cons.1 ((h z).2 (List.mem_cons_of_mem _ hz)) with e | e
      · have := b1 z hz; omega
      · exact e
theorem clone_any (a : Option Addr) (n c : Nat) (zs : List Int) (w : World) (h : SeqAt w a (ints zs)) (hl : zs.length = n) (hs : n ≤ 1000000) :
    Calls Tryz.prog 84 #[.slice a n c] w fun e w' => ∃ v, e = .returned v ∧ own3 w' 3 w.heap.size v zs ∧ Below w.heap.size w w' := by
  by_cases h0 : n = 0
  · subst h0
    have hz : zs = [] := List.eq_nil_of_length_eq_zero hl
    subst hz
    cases a with
    | none =>
      refine (Any.slices_Clone_int_nil laysClone 0 c w).mono ?_
      rintro e w' ⟨rfl, rfl⟩
      exact ⟨_, rfl, World.ownsRow_nil _ _ _ _, Below.refl _ _⟩
    | some a =>
      refine (Any.slices_Clone_int_zero laysClone a c w).mono ?_
      rintro e w' ⟨v, rfl, ho, -, hb⟩
      exact ⟨v, rfl, ho, hb⟩
  · obtain ⟨b, off, rfl, hcell⟩ := h (by rw [ints_length]; omega)
    refine (Any.slices_Clone_int laysClone b off n c zs w (by omega) (by omega) (fun j hj => ?_)).mono ?_
    · rw [hcell j (by rw [ints_length]; exact hj)]
      simp [ints, List.getD, hj, iv]
    · rintro e w' ⟨v, rfl, ho, -, hb⟩
      refine ⟨v, rfl, ?_, hb⟩
      rw [List.take_of_length_le (by omega)] at ho
      show World.ownsRow _ _ _ _ _ _ _
      rw [hl]; exact ho
end Go.Proofs.YtcdpnfchmpncjaaGreatDoor
namespace Go.Tr
open Go.RowKit
def runL (p : Nat × Nat) : List Int := (List.range p.2).map fun c => ((p.1 + c : Nat) : Int)
def chunksL (ps : List (Nat × Nat)) : List Int := ps.flatMap runL
theorem runL_snoc (d j : Nat) : runL (d, j + 1) = runL (d, j) ++ [((d + j : Nat) : Int)] := by simp [runL, List.range_succ]
theorem runL_length (p : Nat × Nat) : (runL p).length = p.2 := by simp [runL]
theorem take_next {α : Type} {ps : List α} {k : Nat} {p : α} (h : ps[k]? = some p) : ps.take (k + 1) = ps.take k ++ [p] := by
  rw [List.take_add_one, h]; rfl
theorem chunksL_next {ps : List (Nat × Nat)} {k : Nat} {p : Nat × Nat} (h : ps[k]? = some p) : chunksL (ps.take (k + 1)) = chunksL (ps.take k) ++ runL p := by
  rw [take_next h]; simp [chunksL]
theorem chunksL_le {ps : List (Nat × Nat)} {k : Nat} {p : Nat × Nat} (h : ps[k]? = some p) : (chunksL (ps.take k)).length + p.2 ≤ (chunksL ps).length := by
  have h1 : chunksL ps = chunksL (ps.take (k + 1)) ++ chunksL (ps.drop (k + 1)) := by rw [chunksL, chunksL, chunksL, ← List.flatMap_append, List.take_append_drop]
  rw [h1, chunksL_next h]
  simp [runL_length]
end Go.Tr
namespace Go.Proofs.YtcdpnfchmpncjaaGreatDoor
open Go.RowKit Go.Tr Go.Shelf
variable {w w' : World} {F G : Nat → Prop} {g s o a en : Nat} {ps : List (Nat × Nat)}
theorem infoIntU : (Tryz.prog.info? 3).map (fun i => (i.zero, i.size, i.bytes)) = some (some (.int .i64 0), 1, 8) := by kernel_rfl
set_option maxRecDepth 100000 in
theorem uchunks_any (w : World) (h : SpF 154 w F g s o ps a en) (hn : ps.length ≤ 100000) (hl : (chunksL ps).length ≤ 100000) (hp : ∀ p ∈ ps, p.1 + p.2 ≤ 1048576) : Calls Tryz.prog 69 #[.pointer (some ⟨g, 0, none⟩)] w fun e w' => ∃ v, e = .returned v ∧ own3 w' 3 w.heap.size v (chunksL ps) ∧ Below w.heap.size w w' := by
  obtain ⟨i0, hi, hz0, hz1, hz2⟩ := info_parts infoIntU
  obtain ⟨pa, pc, c0, c1, c2, c3, c4, HS⟩ := h.head
  obtain ⟨n, hpn⟩ : ∃ n, n = ps.length := ⟨_, rfl⟩
  rw [← hpn] at c2 hn
  have HPN := Lib.hid hpn
  have HPS := Lib.hid hp
  have HL := Lib.hid hl
  clear h hpn hp hl
  go_enter Tryz.func69, Tryz.ntmps69
  go_wp2_with fail
  clear c0 c1 c2 c3 c4
  go_loopw [3, 15] (fun v i wr => ∃ k : Nat, k ≤ n ∧ i = .int .i64 (k : Int) ∧ Hid (own3 wr 3 w.heap.size v (chunksL (ps.take k))) ∧ Hid (Below w.heap.size w wr)) (fun _ i _ => n - (intOf i).toNat)
  case atStart => exact ⟨0, Nat.zero_le _, rfl, World.ownsRow_nil _ _ _ _, Below.refl _ w⟩
  case round =>
    obtain ⟨k, hk, rfl, HV, HB⟩ := hrel
    by_cases hlt : k < n
    · have hlt' : (k : Int) < (n : Int) := by omega
      obtain ⟨b, off, d, m, rfl, hc1, hc2, HP⟩ := (HS.out.below HB.out (Nat.le_refl _)).part (k := k) (by rw [← HPN.out]; exact hlt)
      have hdm : d + m ≤ 1048576 := HPS.out _ (List.mem_of_getElem? HP.out)
      have hlm : (chunksL (ps.take k)).length + m ≤ 100000 := Nat.le_trans (chunksL_le HP.out) HL.out
      have HNX := Lib.hid (chunksL_next HP.out)
      obtain ⟨M, hM⟩ : ∃ M, M = chunksL (ps.take k) := ⟨_, rfl⟩
      rw [← hM] at HV hlm HNX
      have HW : Hid (own3 (wr.alloc (.cells #[.int .i64 d, .int .i64 m] 199)) 3 w.heap.size u3 M) := HV.out.alloc _
      have HBW : Hid (Below w.heap.size w (wr.alloc (.cells #[.int .i64 d, .int .i64 m] 199))) := HB.out.alloc HB.out.size _
      have HBX : Hid ((wr.alloc (.cells #[.int .i64 d, .int .i64 m] 199)).heap[wr.heap.size]? = some (.cells #[.int .i64 d, .int .i64 m] 199 (0, 0))) := heap_alloc_new _ _
      have hsb : w.heap.size ≤ wr.heap.size := HB.out.size
      obtain ⟨xb, hxb⟩ : ∃ xb, xb = wr.heap.size := ⟨_, rfl⟩
      have HN0 : Hid (∀ q, u3.ownBlock = some q → q ≠ xb) := fun q hq e => by have := (HV.out.lt q hq).2; omega
      rw [← hxb] at HBX
      have hcm := (cells_of_block HBX.out 1).1
      simp at hcm
      clear HV HP hM HB
      go_wp2_with fail
      rw [← hxb]
      generalize hw2 : wr.alloc (.cells #[.int .i64 d, .int .i64 m] 199) = wa at *
      have HXA : Hid (xb < wa.heap.size) := (Array.getElem?_eq_some_iff.1 HBX.out).1
      clear hw2 hxb hcm hsb
      go_loopw [3, 21] (fun v i w2 => ∃ j : Nat, j ≤ m ∧ i = .int .i64 (j : Int) ∧ Hid (own3 w2 3 w.heap.size v (M ++ runL (d, j))) ∧ Hid (Below w.heap.size w w2) ∧ Hid (w2.heap[xb]? = some (.cells #[.int .i64 d, .int .i64 m] 199 (0, 0))) ∧ Hid (∀ q, v.ownBlock = some q → q ≠ xb)) (fun _ i _ => m - (intOf i).toNat)
      case atStart => exact ⟨0, Nat.zero_le _, rfl, by show own3 _ _ _ _ _; simpa [runL] using HW.out, HBW, HBX, HN0⟩
      case round =>
        clear HW HBW HBX HN0
        obtain ⟨j, hj, rfl, HV, HB, HX, HN⟩ := hrel
        have c0 := (cells_of_block HX.out 0).1
        simp at c0
        obtain ⟨L, hL⟩ : ∃ L, L = M ++ runL (d, j) := ⟨_, rfl⟩
        have hLl : L.length ≤ 99999 + 1 := by rw [hL, List.length_append, runL_length]; simp only; omega
        have HLE : Hid (L ++ [(d : Int) + (j : Int)] = M ++ runL (d, j + 1)) := by show _ = _; rw [hL, runL_snoc, List.append_assoc, Int.natCast_add]
        have HLE0 := Lib.hid hL
        rw [← hL] at HV
        clear hL
        obtain ⟨mn, hmn⟩ : ∃ mn, mn = L.length := ⟨_, rfl⟩
        have HV' : Hid (wr.ownsRow w.heap.size 3 1 u3 mn (ints L)) := by rw [hmn]; exact HV.out
        have HMN := Lib.hid hmn.symm
        rw [← hmn] at hLl
        clear hmn
        obtain ⟨oa8, oc8, rfl, -, hoc8, -⟩ := ownsRow_seq HV'.out
        by_cases hjm : j < m
        · have hjm' : (j : Int) < (m : Int) := by omega
          go_wp2_with (first
            | (at_builtin; refine wpList_append_own_at _ rfl (.tmp 24) (.tmp 29) 42 rfl w.heap.size 3 i0 _ 1 8 Tryz.underlying42 hi hz0 hz1 hz2 rfl (by decide) _ _ _ rfl (HV'.out.alloc _) ⟨wr.heap.size, 0, none⟩ 1 1 (ints [(d : Int) + (j : Int)]) rfl rfl ?_ (ints_oneCell .i64 [(d : Int) + (j : Int)]) (by unfold maxLen; omega) (by omega) (by have := HB.out.size; simp; omega) ?_)
            | fail)
          · intro q u hu
            exact news_block wr (ints [(d : Int) + (j : Int)]) 3 q u hu
          · intro v' w4 hown hgrow _ hob
            have HV4 : Hid (own3 w4 3 w.heap.size v' (M ++ runL (d, j + 1))) := by
              rw [← HLE.out]
              unfold own3
              have := hown
              rw [← HMN.out] at this
              show w4.ownsRow _ _ _ _ _ _
              simpa [ints] using this
            have HB4 : Hid (Below w.heap.size w w4) := (HB.out.alloc HB.out.size _).grown hgrow (by have := HB.out.size; simp; omega) (fun j hj => (HV'.out.lt j hj).1)
            have hxl := (Array.getElem?_eq_some_iff.1 HX.out).1
            have HX4 : Hid (w4.heap[xb]? = some (.cells #[.int .i64 d, .int .i64 m] 199 (0, 0))) := (hgrow.block xb (by simp; omega) (fun e => HN.out xb e.symm rfl)).trans ((Below.heap_alloc _ _ _ hxl).trans HX.out)
            have HN4 : Hid (∀ q, v'.ownBlock = some q → q ≠ xb) := fun q hq => by
              rcases hob with h | h
              · exact HN.out q (h ▸ hq)
              · rw [h] at hq; simp at hq; omega
            clear hown hgrow hob hxl
            go_wp2
            go_roundw
            case rel => exact ⟨j + 1, by omega, by go_num, HV4, HB4, HX4, HN4⟩
            case measure => simp [intOf]; omega
        · have hjm' : ¬ (j : Int) < (m : Int) := by omega
          have hjm2 : j = m := by omega
          have HV5 : Hid (own3 wr 3 w.heap.size (.slice oa8 mn oc8) (chunksL (ps.take (k + 1)))) := by
            rw [HNX.out, ← hjm2, ← HLE0.out]; exact HV.out
          clear hjm2
          go_wp2
          go_roundw
          case rel => exact ⟨k + 1, by omega, by go_num, HV5, HB⟩
          case measure => simp [intOf]; omega
    · have hlt' : ¬ ((k : Int) < (n : Int)) := by omega
      have HV4 : Hid (own3 wr 3 w.heap.size u3 (chunksL ps)) := by
        have := HV.out; rw [List.take_of_length_le (by rw [← HPN.out]; omega)] at this; exact this
      go_wp2
      go_ret
      exact ⟨_, rfl, HV4.out, HB.out⟩
end Go.Proofs.YtcdpnfchmpncjaaGreatDoor
