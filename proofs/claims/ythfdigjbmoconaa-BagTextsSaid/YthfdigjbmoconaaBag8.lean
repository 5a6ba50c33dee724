/-
  Bags beside each other and a slice of the call's own, whose block they leave.
-/
import Derived.Test.YthfdigjbmoconaaBag7
set_option linter.unusedSimpArgs false
set_option linter.unusedVariables false
namespace Go.Proofs.Ythfdigjbmoconaa
open Go.RowKit Go.Tr
variable {w w' w0 : World} {g g2 : Nat} {F G : Nat → Prop} {zs zo : List Int} {l : List (Nat × List Int)}
def BagsF (Fs : Nat → Nat → Prop) (w0 w : World) (l : List (Nat × List Int)) : Prop := (∀ i p, l[i]? = some p → Bag w p.1 (Fs i) p.2) ∧ (∀ i k, Fs i k → w0.heap.size ≤ k ∧ k < w.heap.size) ∧ (∀ i j k, i ≠ j → Fs i k → ¬ Fs j k) ∧ Below w0.heap.size w0 w
theorem bagsF_write {Fs : Nat → Nat → Prop} {i : Nat} {zs' : List Int} (h : BagsF Fs w0 w l) (k1 : Bag w' g (grow (Fs i) w w') zs') (k2 : Only (Fs i) w w') : BagsF (fun j => if j = i then grow (Fs i) w w' else Fs j) w0 w' (l.set i (g, zs')) := by
  obtain ⟨h1, h2, h3, h4⟩ := h
  have hs : ∀ k, Fs i k → w0.heap.size ≤ k := fun k hk => (h2 i k hk).1
  refine ⟨fun j p hp => ?_, fun j k hk => ?_, fun j j' k hne hk hk' => ?_, h4.trans (k2.below h4.size hs)⟩
  · by_cases e : j = i
    · subst e
      have hlt := (List.getElem?_eq_some_iff.1 hp).1
      rw [List.getElem?_set_self (by simpa using hlt)] at hp
      cases hp
      simpa using k1
    · rw [List.getElem?_set_ne (fun e' => e e'.symm)] at hp
      simp only [if_neg e]
      exact (h1 j p hp).only k2 (fun k hk hk' => h3 j i k e hk hk')
  · by_cases e : j = i
    · simp only [if_pos e] at hk
      rcases hk with hk | hk
      · exact ⟨hs k hk, Nat.lt_of_lt_of_le (h2 i k hk).2 k2.size⟩
      · exact ⟨Nat.le_trans h4.size hk.1, hk.2⟩
    · simp only [if_neg e] at hk
      exact ⟨(h2 j k hk).1, Nat.lt_of_lt_of_le (h2 j k hk).2 k2.size⟩
  · by_cases e : j = i
    · simp only [if_pos e] at hk
      simp only [if_neg (fun e' : j' = i => hne (e.trans e'.symm))] at hk'
      rcases hk with hk | hk
      · exact h3 i j' k (fun e' => hne (e.trans e')) hk hk'
      · have := (h2 j' k hk').2; omega
    · simp only [if_neg e] at hk
      by_cases e' : j' = i
      · simp only [if_pos e'] at hk'
        rcases hk' with hk' | hk'
        · exact h3 i j k (fun e2 => e e2.symm) hk' hk
        · have := (h2 j k hk).2; omega
      · simp only [if_neg e'] at hk'
        exact h3 j j' k hne hk hk'

/-- .. and the blocks of Y are none of theirs. -/
def BagsY (w0 w : World) (l : List (Nat × List Int)) (Y : Nat → Prop) : Prop := ∃ Fs, BagsF Fs w0 w l ∧ Fs 1000 = Y
variable {Y : Nat → Prop}
theorem BagsY.bags (h : BagsY w0 w l Y) : Bags w0 w l := by obtain ⟨Fs, h, _⟩ := h; exact ⟨Fs, h⟩
theorem BagsY.lt (h : BagsY w0 w l Y) {k : Nat} (hk : Y k) : k < w.heap.size := by obtain ⟨Fs, h, rfl⟩ := h; exact (h.2.1 1000 k hk).2
theorem BagsY.read (h : BagsY w0 w l Y) (hb : Below w.heap.size w w') : BagsY w0 w' l Y := by
  obtain ⟨Fs, ⟨h1, h2, h3, h4⟩, h5⟩ := h
  exact ⟨Fs, ⟨fun i p hp => (h1 i p hp).below hb, fun i k hk => ⟨(h2 i k hk).1, Nat.lt_of_lt_of_le (h2 i k hk).2 hb.size⟩, h3, h4.trans (hb.mono h4.size)⟩, h5⟩
/-- A slice of the call's own has come. -/
theorem Bags.keep (h : Bags w0 w l) (hll : l.length ≤ 1000) {n : Nat} {v : Value} {xs : List Value} {e : TypeId} (hb : Below w.heap.size w w') (ho : w'.ownsRow w.heap.size e 1 v n xs) : BagsY w0 w' l (fun k => v.ownBlock = some k) := by
  obtain ⟨Fs, h1, h2, h3, h4⟩ := h
  refine ⟨fun j => if j = 1000 then (fun k => v.ownBlock = some k) else if j < l.length then Fs j else fun _ => False, ⟨fun j p hp => ?_, fun j k hk => ?_, fun j j' k hne hk hk' => ?_, h4.trans (hb.mono h4.size)⟩, by simp⟩
  · have hj := (List.getElem?_eq_some_iff.1 hp).1
    simp only [if_neg (show ¬ j = 1000 by omega), if_pos hj]
    exact (h1 j p hp).below hb
  · by_cases e1 : j = 1000
    · simp only [if_pos e1] at hk
      exact ⟨Nat.le_trans h4.size (ho.lt k hk).1, (ho.lt k hk).2⟩
    · simp only [if_neg e1] at hk
      by_cases e2 : j < l.length
      · simp only [if_pos e2] at hk
        exact ⟨(h2 j k hk).1, Nat.lt_of_lt_of_le (h2 j k hk).2 hb.size⟩
      · simp only [if_neg e2] at hk
  · by_cases e1 : j = 1000
    · simp only [if_pos e1] at hk
      have e1' : ¬ j' = 1000 := fun e => hne (e1.trans e.symm)
      simp only [if_neg e1'] at hk'
      by_cases e2 : j' < l.length
      · simp only [if_pos e2] at hk'
        have := (h2 j' k hk').2; have := (ho.lt k hk).1; omega
      · simp only [if_neg e2] at hk'
    · simp only [if_neg e1] at hk
      by_cases e2 : j < l.length
      · simp only [if_pos e2] at hk
        by_cases e3 : j' = 1000
        · simp only [if_pos e3] at hk'
          have := (h2 j k hk).2; have := (ho.lt k hk').1; omega
        · simp only [if_neg e3] at hk'
          by_cases e4 : j' < l.length
          · simp only [if_pos e4] at hk'
            exact h3 j j' k hne hk hk'
          · simp only [if_neg e4] at hk'
      · simp only [if_neg e2] at hk
theorem BagsY.write {Fs : Nat → Nat → Prop} {i : Nat} {zs' : List Int} (h : BagsF Fs w0 w l) (hi : i ≠ 1000) (k1 : Bag w' g (grow (Fs i) w w') zs') (k2 : Only (Fs i) w w') : BagsY w0 w' (l.set i (g, zs')) (Fs 1000) ∧ ∀ k, Fs 1000 k → w'.heap[k]? = w.heap[k]? :=
  ⟨⟨_, bagsF_write h k1 k2, by simp only [if_neg (fun e : (1000 : Nat) = i => hi e.symm)]⟩, fun k hk => k2.block k (h.2.1 1000 k hk).2 (fun hf => h.2.2.1 i 1000 k hi hf hk)⟩
theorem joinY (i j : Nat) (w : World) (h : BagsY w0 w l Y) (hi : l[i]? = some (g, zs)) (hj : l[j]? = some (g2, zo)) (hl : zs.length ≤ 400000) (hl2 : zo.length ≤ 400000) (hne : i ≠ 1000) : Calls Try.prog 16 #[.pointer (some ⟨g, 0, none⟩), .pointer (some ⟨g2, 0, none⟩)] w fun e w' => e = .returned (.tuple #[]) ∧ BagsY w0 w' (l.set i (g, setL (zs ++ zo))) Y ∧ ∀ k, Y k → w'.heap[k]? = w.heap[k]? := by
  obtain ⟨Fs, h, rfl⟩ := h
  obtain ⟨vo, hb, _⟩ := h.1 j _ hj
  exact (bjoinF_any w (h.1 i _ hi) hb (show zs.length ≤ 400000 from hl) hl2).mono fun e w' ⟨e1, e2, e3⟩ => ⟨e1, BagsY.write h hne e2 e3⟩
theorem lessY (i j : Nat) (w : World) (h : BagsY w0 w l Y) (hi : l[i]? = some (g, zs)) (hj : l[j]? = some (g2, zo)) (hl : zs.length ≤ 1000000) (hl2 : zo.length ≤ 1000000) (hne : i ≠ 1000) : Calls Try.prog 17 #[.pointer (some ⟨g, 0, none⟩), .pointer (some ⟨g2, 0, none⟩)] w fun e w' => e = .returned (.tuple #[]) ∧ BagsY w0 w' (l.set i (g, lessL zs zo)) Y ∧ ∀ k, Y k → w'.heap[k]? = w.heap[k]? := by
  obtain ⟨Fs, h, rfl⟩ := h
  obtain ⟨vo, hb, _⟩ := h.1 j _ hj
  exact (blessF_any w (h.1 i _ hi) hb (show zs.length ≤ 1000000 from hl) hl2).mono fun e w' ⟨e1, e2, e3⟩ => ⟨e1, BagsY.write h hne e2 e3⟩
theorem hasY (i : Nat) (x : Int) (w : World) (h : BagsY w0 w l Y) (hi : l[i]? = some (g, zs)) (hl : zs.length ≤ 1000000) : Calls Try.prog 14 #[.pointer (some ⟨g, 0, none⟩), .int .i64 x] w fun e w' => e = .returned (.bool (hasL zs x)) ∧ Drawn w w' :=
  (hasB i x w h.bags hi hl).mono fun e w' ⟨e1, e2, e3⟩ => ⟨e1, e3⟩
theorem allY (i : Nat) (w : World) (h : BagsY w0 w l Y) (hi : l[i]? = some (g, zs)) (hl : zs.length ≤ 1000000) : Calls Try.prog 11 #[.pointer (some ⟨g, 0, none⟩)] w fun e w' => ∃ a c, e = .returned (.slice a zs.length c) ∧ w'.ownsRow w.heap.size 3 1 (.slice a zs.length c) zs.length (ints zs) ∧ Below w.heap.size w w' :=
  (allB i w h.bags hi hl).mono fun e w' ⟨a, c, e1, e2, e3, e4⟩ => ⟨a, c, e1, e2, e4⟩
theorem lenY (i : Nat) (w : World) (h : BagsY w0 w l Y) (hi : l[i]? = some (g, zs)) : Calls Try.prog 15 #[.pointer (some ⟨g, 0, none⟩)] w fun e w' => e = .returned (.int .i64 zs.length) ∧ w = w' := lenB i w h.bags hi
end Go.Proofs.Ythfdigjbmoconaa
