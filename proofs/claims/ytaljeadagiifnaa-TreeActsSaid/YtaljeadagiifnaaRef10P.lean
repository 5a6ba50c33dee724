/-
  The document's tree as plain data: the parents' list of a tree of the package. No program in sight.
-/
import Derived.Test.YtaljeadagiifnaaTreePlain
import Derived.Test.YtaljeadagiifnaaTree7
set_option linter.unusedSimpArgs false
set_option linter.unusedVariables false
namespace Go.Tr

/-- The document's list: each number's parent, -1 where there is none. -/
def TS.up (S : TS) (x : Int) : Int := (lookA S.tab x).getD (-1)
def refP (S : TS) : List Int := (List.range (S.last.toNat + 1)).map fun i : Nat => S.up i
theorem refP_length (S : TS) : (refP S).length = S.last.toNat + 1 := by simp [refP]
theorem refP_at (S : TS) {k : Nat} (h : k ≤ S.last.toNat) : (refP S)[k]? = some (S.up k) := by
  have : k < S.last.toNat + 1 := by omega
  simp [refP, this]
theorem up_some {S : TS} {x p : Int} (h : lookA S.tab x = some p) : S.up x = p := by simp [TS.up, h]
theorem up_none {S : TS} {x : Int} (h : S.has x = false) : S.up x = -1 := by simp [TS.up, hasA_none.1 h]
theorem up_live {S : TS} {x : Int} (h : S.has x = true) : S.up x = S.par x := by
  obtain ⟨p, hp⟩ := hasA_some.1 h
  simp [TS.up, TS.par, hp]
theorem up_nonneg {S : TS} (hS : S.WF) (x : Int) : 0 ≤ S.up x ↔ S.has x = true := by
  cases h : S.has x
  · rw [up_none h]; simp
  · obtain ⟨p, hp⟩ := hasA_some.1 h
    rw [up_some hp]
    have := hS.low x p hp
    simp; omega
theorem up_eq {S : TS} {id : Int} (hi : 0 ≤ id) (x : Int) : S.up x = id ↔ lookA S.tab x = some id := by
  unfold TS.up
  cases lookA S.tab x
  · simp; omega
  · simp
theorem has_out {S : TS} (hS : S.WF) {x : Int} (h : ¬ (1 ≤ x ∧ x ≤ S.last)) : S.has x = false := by
  cases hh : S.has x
  · rfl
  · exact absurd (hS.pos hh) h
theorem list_ext {a b : List Int} (hl : a.length = b.length) (h : ∀ k, k < a.length → a[k]? = b[k]?) : a = b := by
  apply List.ext_getElem? 
  intro k
  by_cases hk : k < a.length
  · exact h k hk
  · rw [List.getElem?_eq_none (by omega), List.getElem?_eq_none (by omega)]
theorem refP_add {S : TS} (hS : S.WF) (p : Int) : refP (S.add p) = refP S ++ [p] := by
  have h0 := hS.last0
  have hl : (S.add p).last = S.last + 1 := rfl
  refine list_ext (by rw [refP_length, List.length_append, refP_length, hl]; simp; omega) (fun k hk => ?_)
  rw [refP_length, hl] at hk
  rw [refP_at _ (by rw [hl]; omega)]
  unfold TS.up
  rw [look_add hS]
  by_cases he : k = S.last.toNat + 1
  · rw [if_pos (by omega), List.getElem?_append_right (by rw [refP_length]; omega), refP_length, he]; simp
  · rw [if_neg (by omega), List.getElem?_append_left (by rw [refP_length]; omega), refP_at _ (by omega)]; rfl
theorem refP_free {S : TS} {zs : List Int} {k : Nat} {z : Nat} (h : zs[k]? = some (z : Int)) (hz : z ≤ S.last.toNat) : refP (S.free (zs.take (k + 1))) = (refP (S.free (zs.take k))).set z (-1) := by
  refine list_ext (by rw [List.length_set, refP_length, refP_length]; rfl) (fun j hj => ?_)
  rw [refP_length] at hj
  have hl : ∀ l, (S.free l).last = S.last := fun _ => rfl
  rw [hl] at hj
  rw [refP_at _ (by rw [hl]; omega)]
  have e := free_take (S := S) h
  unfold TS.up
  rw [e]
  by_cases hjz : j = z
  · subst hjz
    rw [lookA_del_same, List.getElem?_set_self (by rw [refP_length, hl]; omega)]; rfl
  · rw [lookA_del_other _ (by omega), List.getElem?_set_ne (by omega), refP_at _ (by rw [hl]; omega)]; rfl
/-- The list behind the first k of a merge's numbers. -/
def mergeP (S : TS) (id p : Int) (k : Nat) : List Int := (List.range (S.last.toNat + 1)).map fun i : Nat => if i < k ∧ S.up i = id then p else S.up i
theorem mergeP_length (S : TS) (id p : Int) (k : Nat) : (mergeP S id p k).length = S.last.toNat + 1 := by simp [mergeP]
theorem mergeP_at (S : TS) (id p : Int) (k : Nat) {j : Nat} (h : j ≤ S.last.toNat) : (mergeP S id p k)[j]? = some (if j < k ∧ S.up j = id then p else S.up j) := by
  have : j < S.last.toNat + 1 := by omega
  simp [mergeP, this]
theorem mergeP_start {S : TS} (hS : S.WF) {id : Int} (hi : 0 ≤ id) (p : Int) : mergeP S id p 1 = refP S := by
  refine list_ext (by rw [mergeP_length, refP_length]) (fun j hj => ?_)
  rw [mergeP_length] at hj
  rw [mergeP_at _ _ _ _ (by omega), refP_at _ (by omega)]
  by_cases h : j < 1 ∧ S.up j = id
  · have : j = 0 := by omega
    subst this
    have h1 := (up_eq hi _).1 h.2
    have := hS.low _ _ h1
    omega
  · rw [if_neg h]
theorem mergeP_skip {S : TS} {id p : Int} {k : Nat} (h : S.up k ≠ id) : mergeP S id p (k + 1) = mergeP S id p k := by
  refine list_ext (by rw [mergeP_length, mergeP_length]) (fun j hj => ?_)
  rw [mergeP_length] at hj
  rw [mergeP_at _ _ _ _ (by omega), mergeP_at _ _ _ _ (by omega)]
  by_cases hjk : j = k
  · subst hjk; rw [if_neg (fun e => h e.2), if_neg (fun e => h e.2)]
  · by_cases h1 : j < k ∧ S.up j = id
    · rw [if_pos h1, if_pos ⟨by omega, h1.2⟩]
    · rw [if_neg h1, if_neg (fun e => h1 ⟨by omega, e.2⟩)]
theorem mergeP_take {S : TS} {id p : Int} {k : Nat} (h : S.up k = id) (hk : k ≤ S.last.toNat) : mergeP S id p (k + 1) = (mergeP S id p k).set k p := by
  refine list_ext (by rw [List.length_set, mergeP_length, mergeP_length]) (fun j hj => ?_)
  rw [mergeP_length] at hj
  rw [mergeP_at _ _ _ _ (by omega)]
  by_cases hjk : j = k
  · subst hjk; rw [if_pos ⟨by omega, h⟩, List.getElem?_set_self (by rw [mergeP_length]; omega)]
  · rw [List.getElem?_set_ne (by omega), mergeP_at _ _ _ _ (by omega)]
    by_cases h1 : j < k ∧ S.up j = id
    · rw [if_pos h1, if_pos ⟨by omega, h1.2⟩]
    · rw [if_neg h1, if_neg (fun e => h1 ⟨by omega, e.2⟩)]
theorem mergeP_end {S : TS} {id : Nat} (hi : S.has id = true) (p : Int) (hl : id ≤ S.last.toNat) : (mergeP S id p (S.last.toNat + 1)).set id (-1) = refP (S.merge id p) := by
  have hll : (S.merge id p).last = S.last := rfl
  refine list_ext (by rw [List.length_set, mergeP_length, refP_length, hll]) (fun j hj => ?_)
  rw [List.length_set, mergeP_length] at hj
  rw [refP_at _ (by rw [hll]; omega)]
  have e2 : (S.merge id p).up j = ((if (j : Int) = id then none else (lookA S.tab j).map fun v => if v = (id : Int) then p else v) : Option Int).getD (-1) := by unfold TS.up; rw [look_merge]
  rw [e2]
  by_cases hji : j = id
  · subst hji; rw [List.getElem?_set_self (by rw [mergeP_length]; omega), if_pos rfl]; rfl
  · rw [List.getElem?_set_ne (by omega), mergeP_at _ _ _ _ (by omega), if_neg (show ¬ (j : Int) = (id : Int) by omega)]
    have e : (j < S.last.toNat + 1 ∧ S.up j = id) ↔ lookA S.tab j = some (id : Int) := ⟨fun h => (up_eq (by omega) _).1 h.2, fun h => ⟨by omega, (up_eq (by omega) _).2 h⟩⟩
    by_cases h1 : lookA S.tab j = some (id : Int)
    · rw [if_pos (e.2 h1), h1]; simp
    · rw [if_neg (fun h => h1 (e.1 h))]
      unfold TS.up
      cases hh : lookA S.tab (j : Int) with
      | none => rfl
      | some v => rw [hh] at h1; have : v ≠ (id : Int) := fun e => h1 (by rw [e]); simp [this]

/-! ### numbers picked, rising -/
def pick (f : Int → Bool) (k : Nat) : List Int := ((List.range k).map fun i : Nat => (i : Int)).filter f
theorem pick_succ (f : Int → Bool) (k : Nat) : pick f (k + 1) = pick f k ++ if f k = true then [(k : Int)] else [] := by
  unfold pick
  rw [List.range_succ, List.map_append, List.filter_append]
  congr 1
  by_cases h : f k = true
  · simp [h]
  · simp [h]
theorem mem_pick {f : Int → Bool} {k : Nat} {x : Int} : x ∈ pick f k ↔ 0 ≤ x ∧ x < k ∧ f x = true := by
  unfold pick
  rw [List.mem_filter, List.mem_map]
  constructor
  · rintro ⟨⟨i, hi, rfl⟩, h⟩
    have := List.mem_range.1 hi
    exact ⟨by omega, by omega, h⟩
  · rintro ⟨h0, h1, h2⟩
    exact ⟨⟨x.toNat, List.mem_range.2 (by omega), by omega⟩, h2⟩
theorem pick_rises (f : Int → Bool) (k : Nat) : (pick f k).Pairwise (· < ·) := by
  unfold pick
  refine List.Pairwise.filter _ ?_
  rw [List.pairwise_map]
  exact (List.pairwise_lt_range (n := k)).imp (fun h => by omega)
theorem pick_le (f : Int → Bool) (k : Nat) : (pick f k).length ≤ k := by
  unfold pick
  exact Nat.le_trans (List.length_filter_le _ _) (by simp)
theorem pick_one {f : Int → Bool} (h : f 0 = false) : pick f 1 = [] := by
  rw [pick_succ]; simp [pick, h]
theorem all_length {S : TS} (hS : S.WF) : (pick S.has (S.last.toNat + 1)).length = S.tab.length := by
  have h0 := hS.last0
  have hm : ∀ x, x ∈ pick S.has (S.last.toNat + 1) ↔ x ∈ keysA S.tab := fun x => by
    rw [mem_pick, ← hasA_iff]
    exact ⟨fun h => h.2.2, fun h => by have := hS.pos h; exact ⟨by omega, by omega, h⟩⟩
  have a := length_of_sub (rises_nodup (pick_rises S.has _)) (fun y hy => (hm y).1 hy)
  have b := length_of_sub hS.nodup (fun y hy => (hm y).2 hy)
  simp [keysA] at a b ⊢
  omega
/-- Is the parent this one? -/
def TS.kidB (S : TS) (id x : Int) : Bool := decide (S.up x = id)
open Classical in
noncomputable def TS.underB (S : TS) (id x : Int) : Bool := decide (S.has x = true ∧ Desc S.tab id x)
theorem underB_iff {S : TS} {id x : Int} : S.underB id x = true ↔ S.has x = true ∧ Desc S.tab id x := by simp [TS.underB]
end Go.Tr
namespace Go.Proofs.Ytaljeadagiifnaa
open Go.RowKit Go.Tr
theorem kids_pick {S : TS} (hS : S.WF) {id : Int} (hi : 0 ≤ id) : KidsOf S id (pick (S.kidB id) (S.last.toNat + 1)) := by
  have h0 := hS.last0
  refine ⟨pick_rises _ _, fun x => ?_⟩
  rw [mem_pick]
  unfold TS.kidB
  rw [decide_eq_true_iff, up_eq hi]
  exact ⟨fun h => h.2.2, fun h => by have := hS.low _ _ h; exact ⟨by omega, by omega, h⟩⟩
theorem under_pick {S : TS} (hS : S.WF) {id : Int} (hi : S.has id = true) : UnderOf S id (pick (S.underB id) (S.last.toNat + 1)) := by
  have h0 := hS.last0
  refine ⟨pick_rises _ _, fun x => ?_⟩
  rw [mem_pick, underB_iff]
  exact ⟨fun h => ⟨hi, h.2.2.2⟩, fun h => by have h2 := h.2.live hi; have := hS.pos h2; exact ⟨by omega, by omega, h2, h.2⟩⟩
theorem KidsOf.same {S : TS} {id : Int} {a b : List Int} (h1 : KidsOf S id a) (h2 : KidsOf S id b) : a = b := rises_eq h1.1 h2.1 (fun z => (h1.2 z).trans (h2.2 z).symm)
theorem UnderOf.same {S : TS} {id : Int} {a b : List Int} (h1 : UnderOf S id a) (h2 : UnderOf S id b) : a = b := rises_eq h1.1 h2.1 (fun z => (h1.2 z).trans (h2.2 z).symm)
end Go.Proofs.Ytaljeadagiifnaa
