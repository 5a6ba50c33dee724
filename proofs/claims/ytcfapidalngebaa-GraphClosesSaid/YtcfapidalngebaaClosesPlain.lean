/-
  What GraphCloses asks of the order of what is reached, on lists.
-/
import Derived.Test.YtcfapidalngebaaOrdPlain
set_option linter.unusedSimpArgs false
set_option linter.unusedVariables false
namespace Go.Tr

/-- Each one is a root, or some edge goes to it from one that stands ahead of it. -/
def Why (roots : List Int) (E : Edges) (l : List Int) : Prop := ∀ i x, l[i]? = some x → x ∈ roots ∨ ∃ e ∈ E, e.2 = x ∧ e.1 ∈ l.take i

theorem why_addAll {roots : List Int} {E : Edges} {l xs : List Int} (h : Why roots E l) (hx : ∀ x ∈ xs, x ∈ roots ∨ ∃ e ∈ E, e.2 = x ∧ e.1 ∈ l) : Why roots E (addAll l xs) := by
  induction xs generalizing l with
  | nil => exact h
  | cons y xs ih =>
    show Why roots E (addAll (add1 l y) xs)
    have hpre : ∀ z ∈ l, z ∈ add1 l y := fun z hz => mem_add1.2 (Or.inl hz)
    refine ih ?_ (fun x hx' => (hx x (by simp [hx'])).imp id (fun ⟨e, h1, h2, h3⟩ => ⟨e, h1, h2, hpre _ h3⟩))
    intro i x hi
    unfold add1 at hi ⊢
    split at hi
    · rename_i hh; rw [if_pos hh]; exact h i x hi
    · rename_i hh; rw [if_neg hh]
      rw [List.getElem?_append] at hi
      split at hi
      · rename_i hlt
        refine (h i x hi).imp id (fun ⟨e, h1, h2, h3⟩ => ⟨e, h1, h2, ?_⟩)
        rw [List.take_append_of_le_length (by omega)]; exact h3
      · rename_i hge
        have : i = l.length ∧ x = y := by
          by_cases h0 : i - l.length = 0
          · rw [h0] at hi; simp at hi; exact ⟨by omega, hi.symm⟩
          · rw [List.getElem?_eq_none (by simp; omega)] at hi; cases hi
        obtain ⟨rfl, rfl⟩ := this
        refine (hx x (by simp)).imp id (fun ⟨e, h1, h2, h3⟩ => ⟨e, h1, h2, ?_⟩)
        rw [List.take_append_of_le_length (Nat.le_refl _), List.take_length]; exact h3
theorem stO_why (roots : List Int) (E : Edges) (n : Nat) : Why roots E (stO roots E n) := by
  induction n with
  | zero => intro i x h; simp [stO] at h
  | succ n ih =>
    rw [stO_succ]
    refine why_addAll ih (fun x hx => ?_)
    cases n with
    | zero => exact Or.inl hx
    | succ m =>
      simp only [nextO, nextOf] at hx
      cases hm : (stO roots E (m + 1))[m]? with
      | none => rw [hm] at hx; simp at hx
      | some y =>
        rw [hm] at hx
        exact Or.inr ⟨(y, x), mem_adj.1 hx, rfl, List.mem_of_getElem? hm⟩

/-- What the inner loop has found behind k edges. -/
def whyB (roots : List Int) (E : Edges) (o : List Int) (i : Nat) (x : Int) (k : Nat) : Bool := hasL roots x || (E.take k).any fun e => e.2 == x && hasL (o.take i) e.1
theorem whyB_start (roots : List Int) (E : Edges) (o : List Int) (i : Nat) (x : Int) : whyB roots E o i x 0 = hasL roots x := by simp [whyB]
theorem whyB_snoc {roots : List Int} {E : Edges} {o : List Int} {i : Nat} {x : Int} {k : Nat} {a b : Int} (h : E[k]? = some (a, b)) : whyB roots E o i x (k + 1) = (whyB roots E o i x k || (b == x && hasL (o.take i) a)) := by
  unfold whyB; rw [take_snoc h]; simp [List.any_append, Bool.or_assoc]
theorem whyB_true {roots : List Int} {E : Edges} {i : Nat} {x : Int} {k : Nat} (h : (orderL roots E)[i]? = some x) (hk : E.length ≤ k) : whyB roots E (orderL roots E) i x k = true := by
  unfold whyB
  rw [List.take_of_length_le hk]
  rcases stO_why roots E _ i x h with h1 | ⟨e, h1, h2, h3⟩
  · rw [(hasL_iff _ _).2 h1]; rfl
  · rw [Bool.or_eq_true]; right
    rw [List.any_eq_true]
    refine ⟨e, h1, ?_⟩
    have : hasL (List.take i (orderL roots E)) e.1 = true := (hasL_iff _ _).2 h3
    simp [h2, this]
theorem order_once {roots : List Int} {E : Edges} {i : Nat} {x : Int} (h : (orderL roots E)[i]? = some x) : hasL ((orderL roots E).take i) x = false := by
  rw [hasL_iff']
  intro hm
  obtain ⟨j, hj⟩ := List.getElem?_of_mem hm
  rw [List.getElem?_take] at hj
  split at hj
  · rename_i hji
    have h1 := List.getElem?_eq_some_iff.1 h
    have h2 := List.getElem?_eq_some_iff.1 hj
    have := (List.getElem_inj (h₀ := h1.1) (h₁ := h2.1) (order_nodup roots E)).1 (by rw [h1.2, h2.2])
    omega
  · cases hj
end Go.Tr
