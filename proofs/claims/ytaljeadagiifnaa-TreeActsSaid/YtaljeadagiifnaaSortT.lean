/-
  slices.Sort at []int, and the keys of a map with int keys, collected: what they do.
-/
import Derived.Test.YtaljeadagiifnaaShelfT
import Derived.Test.YtaljeadagiifnaaOrderParts
import Derived.Sort.OwnSortedInts
set_option linter.unusedSimpArgs false
set_option linter.unusedVariables false
namespace Go.Proofs.Ytaljeadagiifnaa
open Go.RowKit Go.Tr

def sortL (zs : List Int) : List Int := zs.mergeSort fun x y => decide (x ≤ y)
theorem sortL_perm (zs : List Int) : (sortL zs).Perm zs := List.mergeSort_perm _ _
theorem sortL_length (zs : List Int) : (sortL zs).length = zs.length := (sortL_perm zs).length_eq
theorem mem_sortL {zs : List Int} {x : Int} : x ∈ sortL zs ↔ x ∈ zs := (sortL_perm zs).mem_iff
theorem sortL_sorted (zs : List Int) : (sortL zs).Pairwise (· ≤ ·) := by
  have := List.pairwise_mergeSort (le := fun x y : Int => decide (x ≤ y)) (fun a b c h1 h2 => by simp at *; omega) (fun a b => by simp; omega) zs
  exact this.imp (fun h => by simpa using h)
theorem ints_map (zs : List Int) : ints zs = zs.map (Value.int .i64) := rfl

theorem sort_own (base : Nat) (v : Value) (zs : List Int) (w : World) (h : own3 w 3 base v zs) (hsz : zs.length < 4611686018427387904) :
    Calls Try.prog 26 #[v] w fun e w' => e = .returned (.tuple #[]) ∧ own3 w' 3 base v (sortL zs) ∧ w.grownBy w' v.ownBlock := by
  have h0 := h
  obtain ⟨hx, hr⟩ := h
  rcases hr with ⟨rfl, hn⟩ | ⟨g, cap, cur, rfl, hbase, hb, h1, h2, h3, h4⟩
  · have hz : zs = [] := List.eq_nil_of_length_eq_zero hn
    subst hz
    refine (Any.slices_Sort_int_none laysSort none 0 w).mono ?_
    rintro e w' ⟨rfl, rfl⟩
    exact ⟨rfl, by rw [show sortL [] = [] by simp [sortL]]; exact h0, ⟨rfl, rfl, rfl, Nat.le_refl _, fun _ _ _ => rfl⟩⟩
  · have hH := holds_of_blockI (ss := zs) hb (by have := h4; rw [ints_map] at this; simpa using this)
    refine (Any.slices_Sort_int laysSort g 0 cap zs w hH (Array.getElem?_eq_some_iff.1 hb).1 hsz).mono ?_
    rintro e w' ⟨rfl, n, os, rfl⟩
    refine ⟨rfl, ?_, grownBy_sortedI _⟩
    have := ownsRow_sortedI (n := n) (os := os) (ts := sortL zs) (sortL_length zs) hbase hb h1 h2 h3
    show World.ownsRow _ _ _ _ _ _ _
    rw [sortL_length]
    exact this

theorem rises_sort {zs : List Int} (h : zs.Nodup) : (sortL zs).Pairwise (· < ·) := by
  have h1 := sortL_sorted zs
  have h2 : (sortL zs).Nodup := (sortL_perm _).nodup_iff.2 h
  exact (h1.and h2).imp (fun h => by have := h.1; have := h.2; omega)

/-! ### maps.Keys, slices.Collect -/
open Go.Maps Go.WideElems
/-- A map's values are not looked at. -/
def anyR : Value → Option (DataW Unit × List MemPlace) := fun _ => some (.lit (.bool true), [])
theorem insert_perm {H : Type} (x : Lit × DataW H) : ∀ l : List (Lit × DataW H), (DataW.insert x l).Perm (x :: l)
  | [] => List.Perm.refl _
  | y :: r => by
    unfold DataW.insert
    split
    · exact List.Perm.refl _
    · exact ((insert_perm x r).cons y).trans (List.Perm.swap _ _ _)
theorem foldr_perm {H : Type} : ∀ l : List (Lit × DataW H), (l.foldr DataW.insert []).Perm l
  | [] => List.Perm.refl _
  | x :: r => (insert_perm x _).trans ((foldr_perm r).cons x)
theorem mapI_owns {w : World} {b : Nat} {l : List (Int × Value)} (h : MapI w b l) (hw : ∀ x ∈ keysA l, (Lit.int .i64 x).wf = true) (hl : l.length ≤ maxLen) :
    ∃ D : DataW Unit, w.ownsMap Try.prog 3 anyR b l.length D ∧ (intKeys D).Perm (keysA l) ∧ Maps.size D = l.length := by
  obtain ⟨es, clock, hb, hs, he⟩ := h
  have hlen : es.size = l.length := by have := congrArg List.length he; simpa using this
  have hrd : ∀ x ∈ es.toList, ∃ y, rd Try.prog 3 anyR x = some y := fun x hx => by
    obtain ⟨p, hp, hk, hv⟩ := kv_keys he x hx
    have hwf := hw p.1 (List.mem_map.2 ⟨p, hp, rfl⟩)
    refine ⟨(.int .i64 p.1, .lit (.bool true)), ?_⟩
    unfold rd
    rw [hk]
    simp [keyOf, Try.underlying3, mapKey, hwf, anyR]
  refine ⟨_, ⟨es, clock, hb, ⟨by omega, hs, hrd⟩, by omega, rfl⟩, ?_, ?_⟩
  · show (((es.toList.map (rg Try.prog 3 anyR)).foldr DataW.insert []).map fun p => Go.intOf p.1).Perm _
    refine ((foldr_perm _).map _).trans ?_
    rw [List.map_map]
    have e2 : keysA l = es.toList.map fun x => Go.intOf ((rg Try.prog 3 anyR) x).1 := by
      have h3 : (l.map ent).map (fun v => match v.1 with | .int _ z => z | _ => 0) = keysA l := by
        unfold keysA ent; rw [List.map_map]; rfl
      rw [← h3, ← he, List.map_map]
      apply List.map_congr_left
      intro x hx
      obtain ⟨p, hp, hk, hv⟩ := kv_keys he x hx
      have hwf := hw p.1 (List.mem_map.2 ⟨p, hp, rfl⟩)
      simp [kv, rg, rd, hk, keyOf, Try.underlying3, mapKey, hwf, anyR, Go.intOf]
    rw [e2]
    exact List.Perm.refl _
  · show ((es.toList.map (rg Try.prog 3 anyR)).foldr DataW.insert []).length = _
    rw [length_sorted, List.length_map]; simpa using hlen
theorem keys_call (mb : Option Nat) (w : World) : Calls Try.prog 28 #[.map mb] w fun e w' => e = .returned (.func (.func 38) #[] #[.pointer (some ⟨w.heap.size, 0, none⟩)]) ∧ w' = w.alloc (.cells #[.map mb] 50) :=
  (callsIn_wide (n := 5)).1 (AnyZI.keys_in laysKeys Fence.wide 5 trivial rfl mb w)
set_option maxHeartbeats 1000000 in
theorem collect_call {w : World} {b : Nat} {l : List (Int × Value)} (h : MapI w b l) (hw : ∀ x ∈ keysA l, (Lit.int .i64 x).wf = true) (hl : l.length ≤ 1000000) :
    Calls Try.prog 27 #[.func (.func 38) #[] #[.pointer (some ⟨w.heap.size, 0, none⟩)]] (w.alloc (.cells #[.map (some b)] 50)) fun e w' => ∃ v ss, e = .returned v ∧ ss.Perm (keysA l) ∧ own3 w' 3 (w.heap.size + 1) v ss ∧ Below (w.heap.size + 1) (w.alloc (.cells #[.map (some b)] 50)) w' := by
  obtain ⟨D, hown, hp, hs⟩ := mapI_owns h hw (by unfold maxLen; omega)
  have hbl := h.lt
  refine (callsIn_wide (n := 5)).1 ?_
  have hseq : SeqGives Fence.wide 3 Try.prog 38 #[.pointer (some ⟨w.heap.size, 0, none⟩)] encZ (fun ss => ss.Perm (intKeys D)) (Maps.size D) (w.alloc (.cells #[.map (some b)] 50)) :=
    AnyZI.keys_gives (ρ := laysKeys_ren) { laysKeys with } Fence.wide _ trivial rfl (by omega) w.heap.size b l.length D _ (by simp) (by simp) (by
      obtain ⟨es, clock, hb, Ft, hs, hD⟩ := hown
      exact ⟨es, clock, (Below.heap_alloc _ _ b hbl).trans hb, Ft, hs, hD⟩)
  have hC := AnyZI.collect_in laysCollect Fence.wide 5 trivial trivial rfl (by omega) 38 #[.pointer (some ⟨w.heap.size, 0, none⟩)] trivial (enters_of Try.func38 (by kernel_rfl) rfl) _ (Maps.size D) (by rw [hs]; unfold maxLen; omega) (by rw [hs]; omega) _ hseq
  refine hC.mono ?_
  rintro e w' ⟨v, ss, rfl, hS, hrow, -, hb⟩
  rw [World.size_alloc] at hrow hb
  exact ⟨v, ss, rfl, hS.trans hp, hrow, hb⟩
end Go.Proofs.Ytaljeadagiifnaa
