/-
  turnrowlaw14.GrayWalks: the plain law: what is told, step by step, is what is reached, in the order of chapter 13.
-/
import Derived.Test.YtcfapidalngebaaGrayPlain
import Derived.Test.YtcfapidalngebaaOrdPlain
set_option linter.unusedSimpArgs false
set_option linter.unusedVariables false
namespace Go.Tr

theorem addAll_putW (bl : List Int) : ∀ (xs wl : List Int), bl ++ putW bl wl xs = addAll (bl ++ wl) xs
  | [], wl => rfl
  | x :: r, wl => by
    have h := addAll_putW bl r (if x ∈ wl ∨ x ∈ bl then wl else wl ++ [x])
    show bl ++ putW bl (if x ∈ wl ∨ x ∈ bl then wl else wl ++ [x]) r = addAll (add1 (bl ++ wl) x) r
    rw [h]
    congr 1
    by_cases hm : x ∈ wl ∨ x ∈ bl
    · rw [if_pos hm, add1_old ((hasL_iff _ _).2 (by simp; exact hm.symm))]
    · rw [if_neg hm, add1_new ((hasL_iff' _ _).2 (by simp; exact ⟨fun h1 => hm (Or.inr h1), fun h1 => hm (Or.inl h1)⟩)), List.append_assoc]

def WalkAt (roots : List Int) (E : Edges) (S : GS) (got : List Int) (k : Nat) : Prop := ∃ wl, Rep S wl got ∧ got.length = k ∧ got ++ wl = stO roots E (k + 1) ∧ S.Small (100 + 100 * k)
def WalkIn (roots : List Int) (E : Edges) (S : GS) (got : List Int) (x : Int) (k j : Nat) : Prop :=
  ∃ wl, Rep S wl (got ++ [x]) ∧ got.length = k ∧ (got ++ [x]) ++ wl = addAll (stO roots E (k + 1)) (adj (E.take j) x) ∧ (stO roots E (k + 1))[k]? = some x ∧ S.Small (101 + 100 * k + j)

theorem walk0 (roots : List Int) (E : Edges) (h : roots.length ≤ 60) : WalkAt roots E (GS.new.put roots) [] 0 := by
  refine ⟨putW [] [] roots, Rep.new.put roots, rfl, addAll_putW [] roots [], ?_⟩
  have : GS.new.Small 0 := ⟨by decide, by decide, by decide, by decide, by decide⟩
  exact (this.put roots).mono (by omega)
theorem WalkAt.le {roots : List Int} {E : Edges} {S : GS} {got : List Int} {k : Nat} (h : WalkAt roots E S got k) : k ≤ roots.length + E.length := by
  obtain ⟨wl, h1, h2, h3, h4⟩ := h
  have := stO_length roots E (k + 1)
  rw [← h3, List.length_append] at this
  omega
theorem WalkAt.fin {roots : List Int} {E : Edges} {S : GS} {got : List Int} {k : Nat} (h : WalkAt roots E S got k) (hn : S.next.1 = none) : got = orderL roots E := by
  have hk := h.le
  obtain ⟨wl, h1, h2, h3, h4⟩ := h
  cases wl with
  | nil =>
    rw [List.append_nil] at h3
    rw [h3]
    exact stO_order roots E (by rw [← h3]; omega) (by omega)
  | cons x t => have := h1.next_some.1; rw [hn] at this; cases this
theorem WalkAt.step {roots : List Int} {E : Edges} {S : GS} {got : List Int} {k : Nat} (h : WalkAt roots E S got k) {x : Int} (hn : S.next.1 = some x) : WalkIn roots E S.next.2 got x k 0 := by
  obtain ⟨wl, h1, h2, h3, h4⟩ := h
  cases wl with
  | nil => have := h1.next_none.1; rw [hn] at this; cases this
  | cons y t =>
    have hy := h1.next_some
    rw [hn] at hy
    obtain ⟨e, h5⟩ := hy
    cases e
    refine ⟨t, h5, h2, ?_, ?_, (Small_next h4).mono (by omega)⟩
    · show _ = stO roots E (k + 1)
      rw [← h3]; simp
    · rw [← h3, List.getElem?_append_right (by omega), h2]; simp
theorem WalkIn.skip {roots : List Int} {E : Edges} {S : GS} {got : List Int} {x : Int} {k j : Nat} (h : WalkIn roots E S got x k j) {e1 e2 : Int} (he : E[j]? = some (e1, e2)) (hn : e1 ≠ x) : WalkIn roots E S got x k (j + 1) := by
  obtain ⟨wl, h1, h2, h3, h4, h5⟩ := h
  refine ⟨wl, h1, h2, ?_, h4, h5.mono (by omega)⟩
  rw [take_snoc he, adj_snoc, if_neg hn, List.append_nil]; exact h3
theorem WalkIn.put {roots : List Int} {E : Edges} {S : GS} {got : List Int} {x : Int} {k j : Nat} (h : WalkIn roots E S got x k j) {e2 : Int} (he : E[j]? = some (x, e2)) : WalkIn roots E (S.put [e2]) got x k (j + 1) := by
  obtain ⟨wl, h1, h2, h3, h4, h5⟩ := h
  refine ⟨putW (got ++ [x]) wl [e2], h1.put [e2], h2, ?_, h4, (h5.put [e2]).mono (by simp; omega)⟩
  rw [take_snoc he, adj_snoc, if_pos rfl, addAll_append, ← h3]
  exact addAll_putW _ _ _
theorem WalkIn.last {roots : List Int} {E : Edges} {S : GS} {got : List Int} {x : Int} {k : Nat} {n : Nat} (h : WalkIn roots E S got x k n) (hl : E.length = n) (hn : n ≤ 60) : WalkAt roots E S (got ++ [x]) (k + 1) := by
  obtain ⟨wl, h1, h2, h3, h4, h5⟩ := h
  refine ⟨wl, h1, by simp [h2], ?_, h5.mono (by omega)⟩
  rw [h3, List.take_of_length_le (by omega), stO_step h4]
theorem WalkIn.lt {roots : List Int} {E : Edges} {S : GS} {got : List Int} {x : Int} {k j : Nat} (h : WalkIn roots E S got x k j) : k < roots.length + E.length ∧ S.Small (101 + 100 * k + j) ∧ got.length = k := by
  obtain ⟨wl, h1, h2, h3, h4, h5⟩ := h
  have := stO_length roots E (k + 1)
  have h6 := (List.getElem?_eq_some_iff.1 h4).1
  exact ⟨by omega, h5, h2⟩
end Go.Tr
