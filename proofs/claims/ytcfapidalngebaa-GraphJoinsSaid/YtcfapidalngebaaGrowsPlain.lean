/-
  turnrowlaw13.GraphGrows: the plain law.
-/
import Derived.Test.YtcfapidalngebaaReach
set_option linter.unusedSimpArgs false
set_option linter.unusedVariables false
namespace Go.Proofs.Ytcfapidalngebaa
open Go.RowKit Go.Tr

/-- What is reached is the least: it lies in whatever holds the roots, and is closed. -/
theorem order_least {roots : List Int} {E : Edges} (C : Int → Prop) (h0 : ∀ y ∈ roots, C y) (h1 : ∀ x y, C x → (x, y) ∈ E → C y) : ∀ y ∈ orderL roots E, C y := by
  have : ∀ n, ∀ y ∈ stO roots E n, C y := by
    intro n
    induction n with
    | zero => intro y hy; cases hy
    | succ n ih =>
      intro y hy
      rw [stO_succ] at hy
      rcases mem_addAll.1 hy with h | h
      · exact ih y h
      · cases n with
        | zero => exact h0 y h
        | succ m =>
          simp only [nextO, nextOf] at h
          split at h
          · rename_i x hx
            exact h1 x y (ih x (List.mem_of_getElem? hx)) (mem_adj.1 h)
          · cases h
  exact this _
theorem grows_sub {roots : List Int} {E M : Edges} {x : Int} (h : x ∈ reachL roots E) : x ∈ reachL roots (E ++ M) := by
  rw [mem_reachL] at h ⊢
  exact order_least (fun y => y ∈ orderL roots (E ++ M)) (fun y hy => order_roots _ _ y hy) (fun a b ha hab => order_closed _ _ ha (List.mem_append_left _ hab)) x h
theorem grows_edge {roots : List Int} {E M : Edges} {x y : Int} (h : x ∈ reachL roots E) (hm : (x, y) ∈ M) : y ∈ reachL roots (E ++ M) := by
  have := grows_sub (M := M) h
  rw [mem_reachL] at this ⊢
  exact order_closed _ _ this (List.mem_append_right _ hm)
theorem rises_at {zs : List Int} (h : zs.Pairwise (· < ·)) {k : Nat} {x y : Int} (hx : zs[k]? = some x) (hy : zs[k + 1]? = some y) : x < y := by
  rw [List.pairwise_iff_getElem] at h
  obtain ⟨h1, e1⟩ := List.getElem?_eq_some_iff.1 hx
  obtain ⟨h2, e2⟩ := List.getElem?_eq_some_iff.1 hy
  have := h k (k + 1) h1 h2 (by omega)
  rw [e1, e2] at this
  exact this
end Go.Proofs.Ytcfapidalngebaa
