/-
  slices.Sort, slices.Compact, slices.BinarySearch at []int: what they do with a slice of the call's own.
-/
import Derived.Test.YtcfapidalngebaaShelf
import Derived.Test.YtcfapidalngebaaOrderParts
import Derived.Sort.OwnSortedInts
set_option linter.unusedSimpArgs false
set_option linter.unusedVariables false
namespace Go.Proofs.Ytcfapidalngebaa
open Go.RowKit Go.Tr

def sortL (zs : List Int) : List Int := zs.mergeSort fun x y => decide (x ≤ y)
theorem sortL_perm (zs : List Int) : (sortL zs).Perm zs := List.mergeSort_perm _ _
theorem sortL_length (zs : List Int) : (sortL zs).length = zs.length := (sortL_perm zs).length_eq
theorem mem_sortL {zs : List Int} {x : Int} : x ∈ sortL zs ↔ x ∈ zs := (sortL_perm zs).mem_iff
theorem sortL_sorted (zs : List Int) : (sortL zs).Pairwise (· ≤ ·) := by
  have := List.pairwise_mergeSort (le := fun x y : Int => decide (x ≤ y)) (fun a b c h1 h2 => by simp at *; omega) (fun a b => by simp; omega) zs
  exact this.imp (fun h => by simpa using h)
theorem ints_map (zs : List Int) : ints zs = zs.map (Value.int .i64) := rfl

theorem sort_own (base : Nat) (v : Value) (zs : List Int) (w : World) (h : own3 w 3 base v zs) (hsz : zs.length < 4611686018427387904) :
    Calls Try.prog 41 #[v] w fun e w' => e = .returned (.tuple #[]) ∧ own3 w' 3 base v (sortL zs) ∧ w.grownBy w' v.ownBlock := by
  have h0 := h
  obtain ⟨hx, hr⟩ := h
  rcases hr with ⟨rfl, hn⟩ | ⟨g, cap, cur, rfl, hbase, hb, h1, h2, h3, h4⟩
  · have hz : zs = [] := List.eq_nil_of_length_eq_zero hn
    subst hz
    refine (Any.slices_Sort_int_none laysSort none 0 w).mono ?_
    rintro e w' ⟨rfl, rfl⟩
    exact ⟨rfl, by rw [show sortL [] = [] by simp [sortL]]; exact h0, ⟨rfl, rfl, rfl, Nat.le_refl _, fun _ _ _ => rfl⟩⟩
  · have hH := holds_of_blockI (ss := zs) hb (by have := h4; rw [ints_map] at this; simpa using this)
    refine (Any.slices_Sort_int laysSort g 0 cap zs w hH (Array.getElem?_eq_some_iff.1 hb).1 hsz).mono ?_
    rintro e w' ⟨rfl, n, os, rfl⟩
    refine ⟨rfl, ?_, grownBy_sortedI _⟩
    have := ownsRow_sortedI (n := n) (os := os) (ts := sortL zs) (sortL_length zs) hbase hb h1 h2 h3
    show World.ownsRow _ _ _ _ _ _ _
    rw [sortL_length]
    exact this

theorem search_any (a : Option Addr) (n c : Nat) (zs : List Int) (x : Int) (w : World) (h : SeqAt w a (ints zs)) (hl : zs.length = n) (hbig : n < 4611686018427387904) (hs : zs.Pairwise (· ≤ ·)) :
    Calls Try.prog 43 #[.slice a n c, .int .i64 x] w fun e w' => e = .returned (.tuple #[.int .i64 (zs.countP (· < x) : Nat), .bool (hasL zs x)]) ∧ Drawn w w' := by
  have hc : zs.contains x = hasL zs x := by
    rw [Bool.eq_iff_iff, hasL_iff]; simp
  by_cases h0 : n = 0
  · subst h0
    have hz : zs = [] := List.eq_nil_of_length_eq_zero hl
    subst hz
    refine (Any.slices_BinarySearch_int_empty laysSearch a c x w).mono ?_
    rintro e w' ⟨rfl, rfl⟩
    exact ⟨by rw [← hc]; rfl, Drawn.refl _⟩
  · obtain ⟨b, off, rfl, hcell⟩ := h (by rw [ints_length]; omega)
    have ht : zs.take n = zs := List.take_of_length_le (by omega)
    refine (Any.slices_BinarySearch_int laysSearch b off n c zs x w (by omega) hbig (fun j hj => ?_) (by rw [ht]; exact hs)).mono ?_
    · rw [hcell j (by rw [ints_length]; exact hj)]
      simp [ints, List.getD, hj, iv]
    · rintro e w' ⟨rfl, q, rfl⟩
      rw [ht, hc]
      exact ⟨rfl, ⟨q, rfl⟩⟩

theorem compact_own (base : Nat) (v : Value) (zs : List Int) (w : World) (h : own3 w 3 base v zs) (hsz : zs.length ≤ 9223372036854775807) (hle : (Lib.compact zs).length ≤ zs.length) :
    Calls Try.prog 44 #[v] w fun e w' => ∃ v', e = .returned v' ∧ own3 w' 3 base v' (Lib.compact zs) ∧ w.grownBy w' v.ownBlock ∧ v'.ownBlock = v.ownBlock := by
  have h0 := h
  obtain ⟨hx, hr⟩ := h
  rcases hr with ⟨rfl, hn⟩ | ⟨g, cap, cur, rfl, hbase, hb, h1, h2, h3, h4⟩
  · have hz : zs = [] := List.eq_nil_of_length_eq_zero hn
    subst hz
    refine (Any.slices_Compact_int_empty laysCompact none 0 w).mono ?_
    rintro e w' ⟨rfl, rfl⟩
    exact ⟨_, rfl, h0, ⟨rfl, rfl, rfl, Nat.le_refl _, fun _ _ _ => rfl⟩, rfl⟩
  · have hH := holds_of_blockI (ss := zs) hb (by have := h4; rw [ints_map] at this; simpa using this)
    refine (Any.slices_Compact_int laysCompact g 0 cap zs w hH hsz h1).mono ?_
    rintro e w' ⟨rfl, q, rfl⟩
    have hb' := heap_sortedI (n := q) (os := #[]) (Lib.compact zs ++ List.replicate (zs.length - (Lib.compact zs).length) 0).toArray hb
    rw [Go.Sort.grow_empty] at hb'
    have hg := grownBy_sortedI (w := w) (g := g) (n := q) (os := #[]) (Lib.compact zs ++ List.replicate (zs.length - (Lib.compact zs).length) 0).toArray
    rw [Go.Sort.grow_empty] at hg
    refine ⟨_, rfl, ⟨by simp [ints_length], Or.inr ⟨g, cap, _, rfl, hbase, hb', by omega, h2, by simp [Go.Sort.putCells, h3], ?_⟩⟩, hg, rfl⟩
    have := take_putCellsI cur (Lib.compact zs ++ List.replicate (zs.length - (Lib.compact zs).length) 0) (by simp; omega)
    have h5 := congrArg (List.take (Lib.compact zs).length) this
    rw [List.take_take, Nat.min_eq_left (by simp)] at h5
    rw [Nat.mul_one, h5, List.map_append, List.take_append_of_le_length (by simp)]
    rw [List.take_of_length_le (by simp)]
    rfl
end Go.Proofs.Ytcfapidalngebaa
