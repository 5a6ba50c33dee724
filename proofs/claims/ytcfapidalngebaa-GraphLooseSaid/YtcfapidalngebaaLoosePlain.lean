/-
  Edges that are told twice, edges from a node to itself, edges from what isn't reached: the order of what is reached is the same. On lists.
-/
import Derived.Test.YtcfapidalngebaaOrdPlain
set_option linter.unusedSimpArgs false
set_option linter.unusedVariables false
namespace Go.Tr

/-- Each edge twice, and one from its end to itself. -/
def thrice (E : Edges) : Edges := E.flatMap fun e => [e, e, (e.2, e.2)]
theorem thrice_snoc (E : Edges) (e : Int × Int) : thrice (E ++ [e]) = thrice E ++ [e, e, (e.2, e.2)] := by simp [thrice]
theorem thrice_length (E : Edges) : (thrice E).length = 3 * E.length := by induction E <;> simp_all [thrice]; omega
/-- Those of some edges that don't go from one of some nodes. -/
def loose (o : List Int) (M : Edges) : Edges := M.filter fun e => !hasL o e.1
theorem loose_snoc_in {o : List Int} {M : Edges} {e : Int × Int} (h : hasL o e.1 = true) : loose o (M ++ [e]) = loose o M := by simp [loose, List.filter_append, h]
theorem loose_snoc_out {o : List Int} {M : Edges} {e : Int × Int} (h : hasL o e.1 = false) : loose o (M ++ [e]) = loose o M ++ [e] := by simp [loose, List.filter_append, h]
theorem loose_length (o : List Int) (M : Edges) : (loose o M).length ≤ M.length := List.length_filter_le _ _

theorem adj_append (A B : Edges) (x : Int) : adj (A ++ B) x = adj A x ++ adj B x := by simp [adj]
theorem adj_loose {o : List Int} {M : Edges} {x : Int} (h : x ∈ o) : adj (loose o M) x = [] := by
  simp only [adj, loose, List.filter_filter, List.map_eq_nil_iff, List.filter_eq_nil_iff]
  intro e _ h2
  simp at h2
  have := (hasL_iff' o e.1).1 h2.2
  rw [h2.1] at this
  exact this h
theorem add1_mem {l : List Int} {x : Int} (h : x ∈ l) : add1 l x = l := add1_old ((hasL_iff _ _).2 h)
theorem addAll_thrice (E : Edges) (x : Int) : ∀ l : List Int, x ∈ l → addAll l (adj (thrice E) x) = addAll l (adj E x) := by
  induction E with
  | nil => intro l _; rfl
  | cons e E ih =>
    intro l hl
    have e1 : thrice (e :: E) = [e, e, (e.2, e.2)] ++ thrice E := rfl
    have e2 : e :: E = [e] ++ E := rfl
    rw [e1, e2, adj_append, adj_append, addAll_append, addAll_append]
    have key : addAll l (adj [e, e, (e.2, e.2)] x) = addAll l (adj [e] x) ∧ x ∈ addAll l (adj [e] x) := by
      refine ⟨?_, mem_addAll.2 (Or.inl hl)⟩
      by_cases h1 : e.1 = x
      · by_cases h2 : e.2 = x
        · simp [adj, List.filter_cons, h1, h2, addAll, add1_mem hl]
        · simp [adj, List.filter_cons, h1, h2, addAll, add1_mem (mem_add1.2 (Or.inr rfl))]
      · by_cases h2 : e.2 = x
        · simp [adj, List.filter_cons, h1, h2, addAll, add1_mem hl]
        · simp [adj, List.filter_cons, h1, h2, addAll]
    rw [key.1]
    exact ih _ key.2
theorem stO_loose (roots : List Int) (E M : Edges) (n : Nat) : stO roots (thrice E ++ loose (orderL roots E) M) n = stO roots E n := by
  induction n with
  | zero => rfl
  | succ n ih =>
    rw [stO_succ, stO_succ, ih]
    cases n with
    | zero => rfl
    | succ m =>
      simp only [nextO, nextOf, ih]
      cases hm : (stO roots E (m + 1))[m]? with
      | none => rfl
      | some x =>
        have hx := List.mem_of_getElem? hm
        obtain ⟨r, hr⟩ := stO_sub_order roots E (m + 1)
        have ho : x ∈ orderL roots E := by rw [hr]; exact List.mem_append_left _ hx
        simp only []
        rw [adj_append, adj_loose ho, List.append_nil]
        exact addAll_thrice E x _ hx
theorem order_loose (roots : List Int) (E M : Edges) : orderL roots (thrice E ++ loose (orderL roots E) M) = orderL roots E := by
  have h1 := orderL_end roots (thrice E ++ loose (orderL roots E) M) (roots.length + E.length + 2)
  rw [stO_loose, Nat.add_comm, orderL_end] at h1
  exact h1.symm
end Go.Tr
