/-
  slices.Sort, slices.Compact, slices.BinarySearch at []int: what they do with a slice of the call's own.
-/
import Derived.Test.YthfdigjbmoconaaShelfB
import Derived.Test.YthfdigjbmoconaaOrderParts
import Derived.Sort.OwnSortedInts
set_option linter.unusedSimpArgs false
set_option linter.unusedVariables false
namespace Go.Proofs.Ythfdigjbmoconaa
open Go.RowKit Go.Tr

def sortL (zs : List Int) : List Int := zs.mergeSort fun x y => decide (x ≤ y)
theorem sortL_perm (zs : List Int) : (sortL zs).Perm zs := List.mergeSort_perm _ _
theorem sortL_length (zs : List Int) : (sortL zs).length = zs.length := (sortL_perm zs).length_eq
theorem mem_sortL {zs : List Int} {x : Int} : x ∈ sortL zs ↔ x ∈ zs := (sortL_perm zs).mem_iff
theorem sortL_sorted (zs : List Int) : (sortL zs).Pairwise (· ≤ ·) := by
  have := List.pairwise_mergeSort (le := fun x y : Int => decide (x ≤ y)) (fun a b c h1 h2 => by simp at *; omega) (fun a b => by simp; omega) zs
  exact this.imp (fun h => by simpa using h)
theorem ints_map (zs : List Int) : ints zs = zs.map (Value.int .i64) := rfl

theorem sort_own (base : Nat) (v : Value) (zs : List Int) (w : World) (h : own3 w 3 base v zs) (hsz : zs.length < 4611686018427387904) :
    Calls Try.prog 35 #[v] w fun e w' => e = .returned (.tuple #[]) ∧ own3 w' 3 base v (sortL zs) ∧ w.grownBy w' v.ownBlock := by
  have h0 := h
  obtain ⟨hx, hr⟩ := h
  rcases hr with ⟨rfl, hn⟩ | ⟨g, cap, cur, rfl, hbase, hb, h1, h2, h3, h4⟩
  · have hz : zs = [] := List.eq_nil_of_length_eq_zero hn
    subst hz
    refine (Any.slices_Sort_int_none laysSort none 0 w).mono ?_
    rintro e w' ⟨rfl, rfl⟩
    exact ⟨rfl, by rw [show sortL [] = [] by simp [sortL]]; exact h0, ⟨rfl, rfl, rfl, Nat.le_refl _, fun _ _ _ => rfl⟩⟩
  · have hH := holds_of_blockI (ss := zs) hb (by have := h4; rw [ints_map] at this; simpa using this)
    refine (Any.slices_Sort_int laysSort g 0 cap zs w hH (Array.getElem?_eq_some_iff.1 hb).1 hsz).mono ?_
    rintro e w' ⟨rfl, n, os, rfl⟩
    refine ⟨rfl, ?_, grownBy_sortedI _⟩
    have := ownsRow_sortedI (n := n) (os := os) (ts := sortL zs) (sortL_length zs) hbase hb h1 h2 h3
    show World.ownsRow _ _ _ _ _ _ _
    rw [sortL_length]
    exact this

theorem search_any (a : Option Addr) (n c : Nat) (zs : List Int) (x : Int) (w : World) (h : SeqAt w a (ints zs)) (hl : zs.length = n) (hbig : n < 4611686018427387904) (hs : zs.Pairwise (· ≤ ·)) :
    Calls Try.prog 37 #[.slice a n c, .int .i64 x] w fun e w' => e = .returned (.tuple #[.int .i64 (zs.countP (· < x) : Nat), .bool (hasL zs x)]) ∧ Drawn w w' := by
  have hc : zs.contains x = hasL zs x := by
    rw [Bool.eq_iff_iff, hasL_iff]; simp
  by_cases h0 : n = 0
  · subst h0
    have hz : zs = [] := List.eq_nil_of_length_eq_zero hl
    subst hz
    refine (Any.slices_BinarySearch_int_empty laysSearch a c x w).mono ?_
    rintro e w' ⟨rfl, rfl⟩
    exact ⟨by rw [← hc]; rfl, Drawn.refl _⟩
  · obtain ⟨b, off, rfl, hcell⟩ := h (by rw [ints_length]; omega)
    have ht : zs.take n = zs := List.take_of_length_le (by omega)
    refine (Any.slices_BinarySearch_int laysSearch b off n c zs x w (by omega) hbig (fun j hj => ?_) (by rw [ht]; exact hs)).mono ?_
    · rw [hcell j (by rw [ints_length]; exact hj)]
      simp [ints, List.getD, hj, iv]
    · rintro e w' ⟨rfl, q, rfl⟩
      rw [ht, hc]
      exact ⟨rfl, ⟨q, rfl⟩⟩

theorem compact_own (base : Nat) (v : Value) (zs : List Int) (w : World) (h : own3 w 3 base v zs) (hsz : zs.length ≤ 9223372036854775807) (hle : (Lib.compact zs).length ≤ zs.length) :
    Calls Try.prog 36 #[v] w fun e w' => ∃ v', e = .returned v' ∧ own3 w' 3 base v' (Lib.compact zs) ∧ w.grownBy w' v.ownBlock ∧ v'.ownBlock = v.ownBlock := by
  have h0 := h
  obtain ⟨hx, hr⟩ := h
  rcases hr with ⟨rfl, hn⟩ | ⟨g, cap, cur, rfl, hbase, hb, h1, h2, h3, h4⟩
  · have hz : zs = [] := List.eq_nil_of_length_eq_zero hn
    subst hz
    refine (Any.slices_Compact_int_empty laysCompact none 0 w).mono ?_
    rintro e w' ⟨rfl, rfl⟩
    exact ⟨_, rfl, h0, ⟨rfl, rfl, rfl, Nat.le_refl _, fun _ _ _ => rfl⟩, rfl⟩
  · have hH := holds_of_blockI (ss := zs) hb (by have := h4; rw [ints_map] at this; simpa using this)
    refine (Any.slices_Compact_int laysCompact g 0 cap zs w hH hsz h1).mono ?_
    rintro e w' ⟨rfl, q, rfl⟩
    have hb' := heap_sortedI (n := q) (os := #[]) (Lib.compact zs ++ List.replicate (zs.length - (Lib.compact zs).length) 0).toArray hb
    rw [Go.Sort.grow_empty] at hb'
    have hg := grownBy_sortedI (w := w) (g := g) (n := q) (os := #[]) (Lib.compact zs ++ List.replicate (zs.length - (Lib.compact zs).length) 0).toArray
    rw [Go.Sort.grow_empty] at hg
    refine ⟨_, rfl, ⟨by simp [ints_length], Or.inr ⟨g, cap, _, rfl, hbase, hb', by omega, h2, by simp [Go.Sort.putCells, h3], ?_⟩⟩, hg, rfl⟩
    have := take_putCellsI cur (Lib.compact zs ++ List.replicate (zs.length - (Lib.compact zs).length) 0) (by simp; omega)
    have h5 := congrArg (List.take (Lib.compact zs).length) this
    rw [List.take_take, Nat.min_eq_left (by simp)] at h5
    rw [Nat.mul_one, h5, List.map_append, List.take_append_of_le_length (by simp)]
    rw [List.take_of_length_le (by simp)]
    rfl
theorem compact_rises {zs : List Int} (h : zs.Pairwise (· ≤ ·)) : (Lib.compact zs).Pairwise (· < ·) ∧ ∀ x, x ∈ Lib.compact zs ↔ x ∈ zs := by
  have hle : ∀ i j, i ≤ j → j < zs.length → zs.toArray[i]! ≤ zs.toArray[j]! := fun i j hij hj => by
    rw [List.pairwise_iff_getElem] at h
    rw [getElem!_pos zs.toArray i (by simp; omega), getElem!_pos zs.toArray j (by simpa using hj)]
    rcases Nat.lt_or_ge i j with h1 | h1
    · simpa using h i j (by omega) hj h1
    · have : i = j := by omega
      subst this; exact Int.le_refl _
  have key : ∀ m, m ≤ zs.length → (Lib.compactUpTo zs.toArray m).Pairwise (· < ·) ∧ ∀ x, x ∈ Lib.compactUpTo zs.toArray m ↔ ∃ j, j < m ∧ zs.toArray[j]! = x := by
    intro m
    induction m with
    | zero => intro _; simp [Lib.compactUpTo]
    | succ m ih =>
      intro hm
      obtain ⟨p1, p2⟩ := ih (by omega)
      rw [Lib.compactUpTo_succ]
      by_cases hk : Lib.keeps zs.toArray m = true
      · rw [if_pos hk]
        have hk' : m = 0 ∨ zs.toArray[m]! ≠ zs.toArray[m - 1]! := by simpa [Lib.keeps] using hk
        refine ⟨List.pairwise_append.2 ⟨p1, by simp, fun a ha b hb => ?_⟩, fun x => ?_⟩
        · simp only [List.mem_singleton] at hb
          obtain ⟨j, hj, rfl⟩ := (p2 a).1 ha
          rcases hk' with h0 | h0
          · omega
          · have h1 := hle j (m - 1) (by omega) (by omega)
            have h2 := hle (m - 1) m (by omega) (by omega)
            omega
        · rw [List.mem_append, p2, List.mem_singleton]
          constructor
          · rintro (⟨j, hj, rfl⟩ | rfl)
            · exact ⟨j, by omega, rfl⟩
            · exact ⟨m, by omega, rfl⟩
          · rintro ⟨j, hj, rfl⟩
            rcases Nat.lt_or_ge j m with h1 | h1
            · exact Or.inl ⟨j, h1, rfl⟩
            · have : j = m := by omega
              subst this; exact Or.inr rfl
      · rw [if_neg hk, List.append_nil]
        have hk' : m ≠ 0 ∧ zs.toArray[m]! = zs.toArray[m - 1]! := by
          simp only [Lib.keeps, decide_eq_true_eq, not_or, Classical.not_not] at hk
          exact ⟨hk.1, hk.2⟩
        refine ⟨p1, fun x => (p2 x).trans ⟨fun ⟨j, hj, e⟩ => ⟨j, by omega, e⟩, fun ⟨j, hj, e⟩ => ?_⟩⟩
        rcases Nat.lt_or_ge j m with h1 | h1
        · exact ⟨j, h1, e⟩
        · have : j = m := by omega
          subst this
          exact ⟨j - 1, by omega, by rw [← hk'.2]; exact e⟩
  obtain ⟨k1, k2⟩ := key zs.length (Nat.le_refl _)
  refine ⟨k1, fun x => (k2 x).trans ?_⟩
  rw [List.mem_iff_getElem]
  constructor
  · rintro ⟨j, hj, rfl⟩; exact ⟨j, hj, by rw [getElem!_pos zs.toArray j (by simpa using hj)]; simp⟩
  · rintro ⟨j, hj, rfl⟩; exact ⟨j, hj, by rw [getElem!_pos zs.toArray j (by simpa using hj)]; simp⟩
theorem compact_le (zs : List Int) : (Lib.compact zs).length ≤ zs.length := by
  unfold Lib.compact Lib.compactUpTo
  rw [List.length_map]
  have := List.length_filter_le (Lib.keeps zs.toArray) (List.range zs.length)
  simpa using this


/-- What a bag of some has: each once, rising. -/
def setL (zs : List Int) : List Int := Lib.compact (sortL zs)
theorem setL_rises (zs : List Int) : (setL zs).Pairwise (· < ·) := (compact_rises (sortL_sorted zs)).1
theorem mem_setL {zs : List Int} {x : Int} : x ∈ setL zs ↔ x ∈ zs := ((compact_rises (sortL_sorted zs)).2 x).trans mem_sortL
theorem setL_length (zs : List Int) : (setL zs).length ≤ zs.length := Nat.le_trans (compact_le _) (Nat.le_of_eq (sortL_length zs))
theorem rises_le {zs : List Int} (h : zs.Pairwise (· < ·)) : zs.Pairwise (· ≤ ·) := h.imp (fun h => by omega)
theorem rises_eq : ∀ {xs ys : List Int}, xs.Pairwise (· < ·) → ys.Pairwise (· < ·) → (∀ z, z ∈ xs ↔ z ∈ ys) → xs = ys
  | [], [], _, _, _ => rfl
  | [], y :: ys, _, _, h => by have := (h y).2 (by simp); cases this
  | x :: xs, [], _, _, h => by have := (h x).1 (by simp); cases this
  | x :: xs, y :: ys, h1, h2, h => by
    obtain ⟨a1, a2⟩ := List.pairwise_cons.1 h1
    obtain ⟨b1, b2⟩ := List.pairwise_cons.1 h2
    have e : x = y := by
      rcases List.mem_cons.1 ((h x).1 (by simp)) with e | e
      · exact e
      · rcases List.mem_cons.1 ((h y).2 (by simp)) with e2 | e2
        · exact e2.symm
        · have := a1 y e2; have := b1 x e; omega
    subst e
    congr 1
    refine rises_eq a2 b2 (fun z => ⟨fun hz => ?_, fun hz => ?_⟩)
    · rcases List.mem_cons.1 ((h z).1 (List.mem_cons_of_mem _ hz)) with e | e
      · have := a1 z hz; omega
      · exact e
    · rcases List.mem_cons.1 ((h z).2 (List.mem_cons_of_mem _ hz)) with e | e
      · have := b1 z hz; omega
      · exact e
/-- slices.Clone at []int. -/
theorem clone_any (a : Option Addr) (n c : Nat) (zs : List Int) (w : World) (h : SeqAt w a (ints zs)) (hl : zs.length = n) (hs : n ≤ 1000000) :
    Calls Try.prog 34 #[.slice a n c] w fun e w' => ∃ v, e = .returned v ∧ own3 w' 3 w.heap.size v zs ∧ Below w.heap.size w w' := by
  by_cases h0 : n = 0
  · subst h0
    have hz : zs = [] := List.eq_nil_of_length_eq_zero hl
    subst hz
    cases a with
    | none =>
      refine (Any.slices_Clone_int_nil laysClone 0 c w).mono ?_
      rintro e w' ⟨rfl, rfl⟩
      exact ⟨_, rfl, World.ownsRow_nil _ _ _ _, Below.refl _ _⟩
    | some a =>
      refine (Any.slices_Clone_int_zero laysClone a c w).mono ?_
      rintro e w' ⟨v, rfl, ho, -, hb⟩
      exact ⟨v, rfl, ho, hb⟩
  · obtain ⟨b, off, rfl, hcell⟩ := h (by rw [ints_length]; omega)
    refine (Any.slices_Clone_int laysClone b off n c zs w (by omega) (by omega) (fun j hj => ?_)).mono ?_
    · rw [hcell j (by rw [ints_length]; exact hj)]
      simp [ints, List.getD, hj, iv]
    · rintro e w' ⟨v, rfl, ho, -, hb⟩
      refine ⟨v, rfl, ?_, hb⟩
      rw [List.take_of_length_le (by omega)] at ho
      show World.ownsRow _ _ _ _ _ _ _
      rw [hl]; exact ho
end Go.Proofs.Ythfdigjbmoconaa
