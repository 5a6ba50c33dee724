/-
  What is reached from some roots, in the order of chapter 13, as a plain function on lists; the same round by round.
-/
import Derived.Test.YthfdigjbmoconaaMapI
set_option linter.unusedSimpArgs false
set_option linter.unusedVariables false
namespace Go.Tr

abbrev Edges := List (Int × Int)
/-- Where the edges of a node go, in order. -/
def adj (E : Edges) (x : Int) : List Int := (E.filter fun e => e.1 == x).map (·.2)
/-- One node more, if it isn't there. -/
def add1 (l : List Int) (x : Int) : List Int := if hasL l x then l else l ++ [x]
def addAll (l xs : List Int) : List Int := xs.foldl add1 l
/-- The list that is gone through in round n, l having been come to. -/
def nextOf (roots : List Int) (E : Edges) (l : List Int) : Nat → List Int
  | 0 => roots
  | m + 1 => match l[m]? with | some x => adj E x | none => []
/-- What has been come to when n lists have been gone through. -/
def stO (roots : List Int) (E : Edges) : Nat → List Int
  | 0 => []
  | n + 1 => addAll (stO roots E n) (nextOf roots E (stO roots E n) n)
def nextO (roots : List Int) (E : Edges) (n : Nat) : List Int := nextOf roots E (stO roots E n) n
theorem stO_succ (roots : List Int) (E : Edges) (n : Nat) : stO roots E (n + 1) = addAll (stO roots E n) (nextO roots E n) := rfl
def orderL (roots : List Int) (E : Edges) : List Int := stO roots E (roots.length + E.length + 2)

theorem add1_old {l : List Int} {x : Int} (h : hasL l x = true) : add1 l x = l := by simp [add1, h]
theorem add1_new {l : List Int} {x : Int} (h : hasL l x = false) : add1 l x = l ++ [x] := by simp [add1, h]
theorem addAll_snoc (l xs : List Int) (x : Int) : addAll l (xs ++ [x]) = add1 (addAll l xs) x := by simp [addAll]
theorem add1_prefix (l : List Int) (x : Int) : ∃ r, add1 l x = l ++ r := by
  unfold add1; split
  · exact ⟨[], by simp⟩
  · exact ⟨[x], rfl⟩
theorem addAll_prefix (l xs : List Int) : ∃ r, addAll l xs = l ++ r := by
  induction xs generalizing l with
  | nil => exact ⟨[], by simp [addAll]⟩
  | cons x xs ih =>
    obtain ⟨r1, h1⟩ := add1_prefix l x
    obtain ⟨r2, h2⟩ := ih (add1 l x)
    exact ⟨r1 ++ r2, by show addAll (add1 l x) xs = _; rw [h2, h1, List.append_assoc]⟩
theorem stO_prefix (roots : List Int) (E : Edges) (n : Nat) : ∃ r, stO roots E (n + 1) = stO roots E n ++ r := by rw [stO_succ]; exact addAll_prefix _ _

theorem addAll_append (l xs ys : List Int) : addAll l (xs ++ ys) = addAll (addAll l xs) ys := by simp [addAll]
theorem part_length (roots : List Int) (E : Edges) (n j : Nat) : (addAll (stO roots E n) ((nextO roots E n).take j)).length ≤ (stO roots E (n + 1)).length := by
  rw [stO_succ]
  have := addAll_append (stO roots E n) ((nextO roots E n).take j) ((nextO roots E n).drop j)
  rw [List.take_append_drop] at this
  rw [this]
  obtain ⟨r, h⟩ := addAll_prefix (addAll (stO roots E n) ((nextO roots E n).take j)) ((nextO roots E n).drop j)
  rw [h]; simp
theorem part_old {l xs : List Int} {j : Nat} {x : Int} (h : xs[j]? = some x) (hh : hasL (addAll l (xs.take j)) x = true) : addAll l (xs.take (j + 1)) = addAll l (xs.take j) := by
  rw [take_snoc h, addAll_snoc, add1_old hh]
theorem part_new {l xs : List Int} {j : Nat} {x : Int} (h : xs[j]? = some x) (hh : hasL (addAll l (xs.take j)) x = false) : addAll l (xs.take (j + 1)) = addAll l (xs.take j) ++ [x] := by
  rw [take_snoc h, addAll_snoc, add1_new hh]

theorem addAll_length (l xs : List Int) : (addAll l xs).length ≤ l.length + xs.length := by
  induction xs generalizing l with
  | nil => simp [addAll]
  | cons x xs ih =>
    have h1 := ih (add1 l x)
    have h2 : (add1 l x).length ≤ l.length + 1 := by unfold add1; split <;> simp
    show (addAll (add1 l x) xs).length ≤ _
    simp; omega
theorem mem_add1 {l : List Int} {x y : Int} : y ∈ add1 l x ↔ y ∈ l ∨ y = x := by
  unfold add1; split
  · rename_i h; rw [hasL_iff] at h
    exact ⟨Or.inl, fun h' => h'.elim id (fun e => e ▸ h)⟩
  · simp
theorem mem_addAll {l xs : List Int} {y : Int} : y ∈ addAll l xs ↔ y ∈ l ∨ y ∈ xs := by
  induction xs generalizing l with
  | nil => simp [addAll]
  | cons x xs ih =>
    show y ∈ addAll (add1 l x) xs ↔ _
    rw [ih, mem_add1]; simp only [List.mem_cons]
    constructor
    · rintro ((h | h) | h) <;> simp_all
    · rintro (h | h | h) <;> simp_all
theorem nodup_add1 {l : List Int} (h : l.Nodup) (x : Int) : (add1 l x).Nodup := by
  unfold add1; split
  · exact h
  · rename_i hx
    have hx' : x ∉ l := by rw [← hasL_iff']; simpa using hx
    exact List.nodup_append.2 ⟨h, by simp, by intro a ha b hb; simp at hb; subst hb; intro e; subst e; exact hx' ha⟩
theorem nodup_addAll {l : List Int} (h : l.Nodup) (xs : List Int) : (addAll l xs).Nodup := by
  induction xs generalizing l with
  | nil => exact h
  | cons x xs ih => exact ih (nodup_add1 h x)
theorem stO_nodup (roots : List Int) (E : Edges) (n : Nat) : (stO roots E n).Nodup := by
  induction n with
  | zero => simp [stO]
  | succ n ih => rw [stO_succ]; exact nodup_addAll ih _
theorem mem_adj {E : Edges} {x y : Int} : y ∈ adj E x ↔ (x, y) ∈ E := by
  simp only [adj, List.mem_map, List.mem_filter, beq_iff_eq]
  constructor
  · rintro ⟨⟨a, b⟩, ⟨h1, h2⟩, h3⟩; simp at h2 h3; subst h2; subst h3; exact h1
  · intro h; exact ⟨(x, y), ⟨h, rfl⟩, rfl⟩

/-- All that is come to is a root, or the end of an edge. -/
theorem stO_sub (roots : List Int) (E : Edges) (n : Nat) : ∀ y ∈ stO roots E n, y ∈ roots ++ E.map (·.2) := by
  induction n with
  | zero => simp [stO]
  | succ n ih =>
    intro y hy
    rw [stO_succ, mem_addAll] at hy
    rcases hy with hy | hy
    · exact ih y hy
    · unfold nextO nextOf at hy
      split at hy
      · exact List.mem_append_left _ hy
      · split at hy
        · exact List.mem_append_right _ (List.mem_map.2 ⟨_, mem_adj.1 hy, rfl⟩)
        · simp at hy
theorem length_of_sub {α : Type} [BEq α] [LawfulBEq α] : ∀ {l m : List α}, l.Nodup → (∀ y ∈ l, y ∈ m) → l.length ≤ m.length
  | [], _, _, _ => Nat.zero_le _
  | x :: l, m, hn, hs => by
    have hx : x ∈ m := hs x (by simp)
    have hn' := List.nodup_cons.1 hn
    have := length_of_sub (m := m.erase x) hn'.2 (fun y hy => (List.mem_erase_of_ne (fun e => by subst e; exact hn'.1 hy)).2 (hs y (by simp [hy])))
    rw [List.length_erase_of_mem hx] at this
    have h0 : 0 < m.length := List.length_pos_of_mem hx
    simp only [List.length_cons]; omega
theorem stO_length (roots : List Int) (E : Edges) (n : Nat) : (stO roots E n).length ≤ roots.length + E.length := by
  have := length_of_sub (stO_nodup roots E n) (stO_sub roots E n)
  simpa using this

/-- Once a round finds no list any more nothing is added. -/
theorem stO_end (roots : List Int) (E : Edges) {n : Nat} (h : (stO roots E n).length < n) (m : Nat) : stO roots E (n + m) = stO roots E n := by
  induction m with
  | zero => rfl
  | succ m ih =>
    rw [← Nat.add_assoc, stO_succ, ih]
    have : nextO roots E (n + m) = [] := by
      cases hn : n + m with
      | zero => omega
      | succ q =>
        simp only [nextO, nextOf]
        rw [← hn, ih]
        rw [List.getElem?_eq_none (by omega)]
    rw [this]; rfl
theorem stO_order (roots : List Int) (E : Edges) {n : Nat} (h : (stO roots E n).length < n) (hn : n ≤ roots.length + E.length + 2) : stO roots E n = orderL roots E := by
  have := stO_end roots E h (roots.length + E.length + 2 - n)
  rw [orderL, ← this]; congr 1; omega
theorem orderL_end (roots : List Int) (E : Edges) (m : Nat) : stO roots E (roots.length + E.length + 2 + m) = orderL roots E :=
  stO_end roots E (by have := stO_length roots E (roots.length + E.length + 2); omega) m

/-! ### what is reached -/
theorem nextO_sub_succ (roots : List Int) (E : Edges) (n : Nat) : ∀ y ∈ nextO roots E n, y ∈ stO roots E (n + 1) := by
  intro y hy; rw [stO_succ, mem_addAll]; exact Or.inr hy
theorem stO_mono (roots : List Int) (E : Edges) (n m : Nat) : ∃ r, stO roots E (n + m) = stO roots E n ++ r := by
  induction m with
  | zero => exact ⟨[], by simp⟩
  | succ m ih =>
    obtain ⟨r, h⟩ := ih
    obtain ⟨r', h'⟩ := stO_prefix roots E (n + m)
    exact ⟨r ++ r', by rw [← Nat.add_assoc, h', h, List.append_assoc]⟩
theorem stO_sub_order (roots : List Int) (E : Edges) (n : Nat) : ∃ r, orderL roots E = stO roots E n ++ r := by
  obtain ⟨r, h⟩ := stO_mono roots E n (roots.length + E.length + 2)
  exact ⟨r, by rw [← h, Nat.add_comm, ← orderL_end roots E n]⟩
theorem order_roots (roots : List Int) (E : Edges) : ∀ y ∈ roots, y ∈ orderL roots E := by
  intro y hy
  obtain ⟨r, h⟩ := stO_sub_order roots E 1
  rw [h]; exact List.mem_append_left _ (nextO_sub_succ roots E 0 y hy)
theorem order_closed (roots : List Int) (E : Edges) {x y : Int} (hx : x ∈ orderL roots E) (hE : (x, y) ∈ E) : y ∈ orderL roots E := by
  obtain ⟨i, hi⟩ := List.getElem?_of_mem hx
  have hil := (List.getElem?_eq_some_iff.1 hi).1
  have hlen := stO_length roots E (roots.length + E.length + 2)
  have h1 : stO roots E (roots.length + E.length + 2 + (i + 1)) = orderL roots E := orderL_end roots E _
  have h2 := nextO_sub_succ roots E (roots.length + E.length + 2 + (i + 1)) 
  -- the round that goes through x's list: number i + 1
  have hp := stO_sub_order roots E (i + 2)
  obtain ⟨r, hr⟩ := hp
  have hq := stO_sub_order roots E (i + 1)
  obtain ⟨q, hq⟩ := hq
  by_cases hin : i < (stO roots E (i + 1)).length
  · have hx1 : (stO roots E (i + 1))[i]? = some x := by
      rw [hq, List.getElem?_append_left hin] at hi; exact hi
    have : y ∈ nextO roots E (i + 1) := by simp only [nextO, nextOf, hx1]; exact mem_adj.2 hE
    rw [hr]; exact List.mem_append_left _ (nextO_sub_succ roots E (i + 1) y this)
  · have he := stO_end roots E (n := i + 1) (by omega) (roots.length + E.length + 2)
    have h3 : stO roots E (i + 1 + (roots.length + E.length + 2)) = orderL roots E := by rw [Nat.add_comm]; exact orderL_end roots E _
    rw [h3] at he
    rw [he] at hil; omega
theorem adj_snoc (E : Edges) (e : Int × Int) (x : Int) : adj (E ++ [e]) x = adj E x ++ if e.1 = x then [e.2] else [] := by
  unfold adj
  by_cases h : e.1 = x <;> simp [h]
theorem partO_length (roots : List Int) (E : Edges) (n j : Nat) (x : Int) : (addAll (stO roots E n) (adj (E.take j) x)).length ≤ roots.length + E.length := by
  have := length_of_sub (m := roots ++ E.map (·.2)) (nodup_addAll (stO_nodup roots E n) (adj (E.take j) x)) (fun y hy => by
    rcases mem_addAll.1 hy with h | h
    · exact stO_sub roots E n y h
    · exact List.mem_append_right _ (List.mem_map.2 ⟨(x, y), List.mem_of_mem_take (mem_adj.1 h), rfl⟩))
  simpa using this
theorem addAll_at {l xs : List Int} {k : Nat} {x : Int} (h : l[k]? = some x) : (addAll l xs)[k]? = some x := by
  obtain ⟨r, hr⟩ := addAll_prefix l xs
  rw [hr, List.getElem?_append_left (List.getElem?_eq_some_iff.1 h).1, h]
theorem stO_step {roots : List Int} {E : Edges} {k : Nat} {x : Int} (h : (stO roots E (k + 1))[k]? = some x) : stO roots E (k + 2) = addAll (stO roots E (k + 1)) (adj E x) := by
  rw [stO_succ]
  show addAll _ (match (stO roots E (k + 1))[k]? with | some x => adj E x | none => []) = _
  rw [h]
theorem order_nodup (roots : List Int) (E : Edges) : (orderL roots E).Nodup := stO_nodup _ _ _
theorem order_length (roots : List Int) (E : Edges) : (orderL roots E).length ≤ roots.length + E.length := stO_length _ _ _

end Go.Tr
