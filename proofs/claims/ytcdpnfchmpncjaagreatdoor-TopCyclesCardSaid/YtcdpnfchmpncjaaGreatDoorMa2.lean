/-
  Parts of the proof, one behind the other: OrdPlain, OrderParts.
-/
import Derived.Test.YtcdpnfchmpncjaaGreatDoorChecked
import Derived.Maps.AppendAt
import Derived.Test.YtcdpnfchmpncjaaGreatDoorMa1
set_option linter.unusedSimpArgs false
set_option linter.unusedVariables false
namespace Go.Tr
abbrev Edges := List (Int × Int)
def adj (E : Edges) (x : Int) : List Int := (E.filter fun e => e.1 == x).map (·.2)
def add1 (l : List Int) (x : Int) : List Int := if hasL l x then l else l ++ [x]
def addAll (l xs : List Int) : List Int := xs.foldl add1 l
def nextOf (roots : List Int) (E : Edges) (l : List Int) : Nat → List Int
  | 0 => roots
  | m + 1 => match l[m]? with | some x => adj E x | none => []
def stO (roots : List Int) (E : Edges) : Nat → List Int
  | 0 => []
  | n + 1 => addAll (stO roots E n) (nextOf roots E (stO roots E n) n)
def nextO (roots : List Int) (E : Edges) (n : Nat) : List Int := nextOf roots E (stO roots E n) n
theorem stO_succ (roots : List Int) (E : Edges) (n : Nat) : stO roots E (n + 1) = addAll (stO roots E n) (nextO roots E n) := rfl
def orderL (roots : List Int) (E : Edges) : List Int := stO roots E (roots.length + E.length + 2)
theorem add1_old {l : List Int} {x : Int} (h : hasL l x = true) : add1 l x = l := by simp [add1, h]
theorem add1_new {l : List Int} {x : Int} (h : hasL l x = false) : add1 l x = l ++ [x] := by simp [add1, h]
theorem addAll_snoc (l xs : List Int) (x : Int) : addAll l (xs ++ [x]) = add1 (addAll l xs) x := by simp [addAll]
theorem add1_prefix (l : List Int) (x : Int) : ∃ r, add1 l x = l ++ r := by
  unfold add1; split
  · exact ⟨[], by simp⟩
  · exact ⟨[x], rfl⟩
theorem addAll_prefix (l xs : List Int) : ∃ r, addAll l xs = l ++ r := by
  induction xs generalizing l with
  | nil => exact ⟨[], by simp [addAll]⟩
  | cons x xs ih =>
    obtain ⟨r1, h1⟩ := add1_prefix l x
    obtain ⟨r2, h2⟩ := ih (add1 l x)
    exact ⟨r1 ++ r2, by show addAll (add1 l x) xs = _; rw [h2, h1, List.append_assoc]⟩
theorem stO_prefix (roots : List Int) (E : Edges) (n : Nat) : ∃ r, stO roots E (n + 1) = stO roots E n ++ r := by rw [stO_succ]; exact addAll_prefix _ _
theorem addAll_append (l xs ys : List Int) : addAll l (xs ++ ys) = addAll (addAll l xs) ys := by simp [addAll]
theorem part_length (roots : List Int) (E : Edges) (n j : Nat) : (addAll (stO roots E n) ((nextO roots E n).take j)).length ≤ (stO roots E (n + 1)).length := by
  rw [stO_succ]
  have := addAll_append (stO roots E n) ((nextO roots E n).take j) ((nextO roots E n).drop j)
  rw [List.take_append_drop] at this
  rw [this]
  obtain ⟨r, h⟩ := addAll_prefix (addAll (stO roots E n) ((nextO roots E n).take j)) ((nextO roots E n).drop j)
  rw [h]; simp
theorem part_old {l xs : List Int} {j : Nat} {x : Int} (h : xs[j]? = some x) (hh : hasL (addAll l (xs.take j)) x = true) : addAll l (xs.take (j + 1)) = addAll l (xs.take j) := by
  rw [take_snoc h, addAll_snoc, add1_old hh]
theorem part_new {l xs : List Int} {j : Nat} {x : Int} (h : xs[j]? = some x) (hh : hasL (addAll l (xs.take j)) x = false) : addAll l (xs.take (j + 1)) = addAll l (xs.take j) ++ [x] := by
  rw [take_snoc h, addAll_snoc, add1_new hh]
theorem addAll_length (l xs : List Int) : (addAll l xs).length ≤ l.length + xs.length := by
  induction xs generalizing l with
  | nil => simp [addAll]
  | cons x xs ih =>
    have h1 := ih (add1 l x)
    have h2 : (add1 l x).length ≤ l.length + 1 := by unfold add1; split <;> simp
    show (addAll (add1 l x) xs).length ≤ _
    simp; omega
theorem mem_add1 {l : List Int} {x y : Int} : y ∈ add1 l x ↔ y ∈ l ∨ y = x := by
  unfold add1; split
  · rename_i h; rw [hasL_iff] at h
    exact ⟨Or.inl, fun h' => h'.elim id (fun e => e ▸ h)⟩
  · simp
theorem mem_addAll {l xs : List Int} {y : Int} : y ∈ addAll l xs ↔ y ∈ l ∨ y ∈ xs := by
  induction xs generalizing l with
  | nil => simp [addAll]
  | cons x xs ih =>
    show y ∈ addAll (add1 l x) xs ↔ _
    rw [ih, mem_add1]; simp only [List.mem_cons]
    constructor
    · rintro ((h | h) | h) <;> simp_all
    · rintro (h | h | h) <;> simp_all
theorem nodup_add1 {l : List Int} (h : l.Nodup) (x : Int) : (add1 l x).Nodup := by
  unfold add1; split
  · exact h
  · rename_i hx
    have hx' : x ∉ l := by rw [← hasL_iff']; simpa using hx
    exact List.nodup_append.2 ⟨h, by simp, by intro a ha b hb; simp at hb; subst hb; intro e; subst e; exact hx' ha⟩
theorem nodup_addAll {l : List Int} (h : l.Nodup) (xs : List Int) : (addAll l xs).Nodup := by
  induction xs generalizing l with
  | nil => exact h
  | cons x xs ih => exact ih (nodup_add1 h x)
theorem stO_nodup (roots : List Int) (E : Edges) (n : Nat) : (stO roots E n).Nodup := by
  induction n with
  | zero => simp [stO]
  | succ n ih => rw [stO_succ]; exact nodup_addAll ih _
theorem mem_adj {E : Edges} {x y : Int} : y ∈ adj E x ↔ (x, y) ∈ E := by
  simp only [adj, List.mem_map, List.mem_filter, beq_iff_eq]
  constructor
  · rintro ⟨⟨a, b⟩, ⟨h1, h2⟩, h3⟩; simp at h2 h3; subst h2; subst h3; exact h1
  · intro h; exact ⟨(x, y), ⟨h, rfl⟩, rfl⟩
theorem stO_sub (roots : List Int) (E : Edges) (n : Nat) : ∀ y ∈ stO roots E n, y ∈ roots ++ E.map (·.2) := by
  induction n with
  | zero => simp [stO]
  | succ n ih =>
    intro y hy
    rw [stO_succ, mem_addAll] at hy
    rcases hy with hy | hy
    · exact ih y hy
    · unfold nextO nextOf at hy
      split at hy
      · exact List.mem_append_left _ hy
      · split at hy
        · exact List.mem_append_right _ (List.mem_map.2 ⟨_, mem_adj.1 hy, rfl⟩)
        · simp at hy
theorem length_of_sub {α : Type} [BEq α] [LawfulBEq α] : ∀ {l m : List α}, l.Nodup → (∀ y ∈ l, y ∈ m) → l.length ≤ m.length
  | [], _, _, _ => Nat.zero_le _
  | x :: l, m, hn, hs => by
    have hx : x ∈ m := hs x (by simp)
    have hn' := List.nodup_cons.1 hn
    have := length_of_sub (m := m.erase x) hn'.2 (fun y hy => (List.mem_erase_of_ne (fun e => by subst e; exact hn'.1 hy)).2 (hs y (by simp [hy])))
    rw [List.length_erase_of_mem hx] at this
    have h0 : 0 < m.length := List.length_pos_of_mem hx
    simp only [List.length_cons]; omega
theorem stO_length (roots : List Int) (E : Edges) (n : Nat) : (stO roots E n).length ≤ roots.length + E.length := by
  have := length_of_sub (stO_nodup roots E n) (stO_sub roots E n)
  simpa using this
theorem stO_end (roots : List Int) (E : Edges) {n : Nat} (h : (stO roots E n).length < n) (m : Nat) : stO roots E (n + m) = stO roots E n := by
  induction m with
  | zero => rfl
  | succ m ih =>
    rw [← Nat.add_assoc, stO_succ, ih]
    have : nextO roots E (n + m) = [] := by
      cases hn : n + m with
      | zero => omega
      | succ q =>
        simp only [nextO, nextOf]
        rw [← hn, ih]
        rw [List.getElem?_eq_none (by omega)]
    rw [this]; rfl
theorem stO_order (roots : List Int) (E : Edges) {n : Nat} (h : (stO roots E n).length < n) (hn : n ≤ roots.length + E.length + 2) : stO roots E n = orderL roots E := by
  have := stO_end roots E h (roots.length + E.length + 2 - n)
  rw [orderL, ← this]; congr 1; omega
theorem orderL_end (roots : List Int) (E : Edges) (m : Nat) : stO roots E (roots.length + E.length + 2 + m) = orderL roots E :=
  stO_end roots E (by have := stO_length roots E (roots.length + E.length + 2); omega) m
theorem nextO_sub_succ (roots : List Int) (E : Edges) (n : Nat) : ∀ y ∈ nextO roots E n, y ∈ stO roots E (n + 1) := by
  intro y hy; rw [stO_succ, mem_addAll]; exact Or.inr hy
theorem stO_mono (roots : List Int) (E : Edges) (n m : Nat) : ∃ r, stO roots E (n + m) = stO roots E n ++ r := by
  induction m with
  | zero => exact ⟨[], by simp⟩
  | succ m ih =>
    obtain ⟨r, h⟩ := ih
    obtain ⟨r', h'⟩ := stO_prefix roots E (n + m)
    exact ⟨r ++ r', by rw [← Nat.add_assoc, h', h, List.append_assoc]⟩
theorem stO_sub_order (roots : List Int) (E : Edges) (n : Nat) : ∃ r, orderL roots E = stO roots E n ++ r := by
  obtain ⟨r, h⟩ := stO_mono roots E n (roots.length + E.length + 2)
  exact ⟨r, by rw [← h, Nat.add_comm, ← orderL_end roots E n]⟩
theorem order_roots (roots : List Int) (E : Edges) : ∀ y ∈ roots, y ∈ orderL roots E := by
  intro y hy
  obtain ⟨r, h⟩ := stO_sub_order roots E 1
  rw [h]; exact List.mem_append_left _ (nextO_sub_succ roots E 0 y hy)
theorem order_closed (roots : List Int) (E : Edges) {x y : Int} (hx : x ∈ orderL roots E) (hE : (x, y) ∈ E) : y ∈ orderL roots E := by
  obtain ⟨i, hi⟩ := List.getElem?_of_mem hx
  have hil := (List.getElem?_eq_some_iff.1 hi).1
  have hlen := stO_length roots E (roots.length + E.length + 2)
  have h1 : stO roots E (roots.length + E.length + 2 + (i + 1)) = orderL roots E := orderL_end roots E _
  have h2 := nextO_sub_succ roots E (roots.length + E.length + 2 + (i + 1))
  -- the round that goes through x's list: number i + 1
  have hp := stO_sub_order roots E (i + 2)
  obtain ⟨r, hr⟩ := hp
  have hq := stO_sub_order roots E (i + 1)
  obtain ⟨q, hq⟩ := hq
  by_cases hin : i < (stO roots E (i + 1)).length
  · have hx1 : (stO roots E (i + 1))[i]? = some x := by
      rw [hq, List.getElem?_append_left hin] at hi; exact hi
    have : y ∈ nextO roots E (i + 1) := by simp only [nextO, nextOf, hx1]; exact mem_adj.2 hE
    rw [hr]; exact List.mem_append_left _ (nextO_sub_succ roots E (i + 1) y this)
  · have he := stO_end roots E (n := i + 1) (by omega) (roots.length + E.length + 2)
    have h3 : stO roots E (i + 1 + (roots.length + E.length + 2)) = orderL roots E := by rw [Nat.add_comm]; exact orderL_end roots E _
    rw [h3] at he
    rw [he] at hil; omega
theorem adj_snoc (E : Edges) (e : Int × Int) (x : Int) : adj (E ++ [e]) x = adj E x ++ if e.1 = x then [e.2] else [] := by
  unfold adj
  by_cases h : e.1 = x <;> simp [h]
theorem partO_length (roots : List Int) (E : Edges) (n j : Nat) (x : Int) : (addAll (stO roots E n) (adj (E.take j) x)).length ≤ roots.length + E.length := by
  have := length_of_sub (m := roots ++ E.map (·.2)) (nodup_addAll (stO_nodup roots E n) (adj (E.take j) x)) (fun y hy => by
    rcases mem_addAll.1 hy with h | h
    · exact stO_sub roots E n y h
    · exact List.mem_append_right _ (List.mem_map.2 ⟨(x, y), List.mem_of_mem_take (mem_adj.1 h), rfl⟩))
  simpa using this
theorem addAll_at {l xs : List Int} {k : Nat} {x : Int} (h : l[k]? = some x) : (addAll l xs)[k]? = some x := by
  obtain ⟨r, hr⟩ := addAll_prefix l xs
  rw [hr, List.getElem?_append_left (List.getElem?_eq_some_iff.1 h).1, h]
theorem stO_step {roots : List Int} {E : Edges} {k : Nat} {x : Int} (h : (stO roots E (k + 1))[k]? = some x) : stO roots E (k + 2) = addAll (stO roots E (k + 1)) (adj E x) := by
  rw [stO_succ]
  show addAll _ (match (stO roots E (k + 1))[k]? with | some x => adj E x | none => []) = _
  rw [h]
theorem order_nodup (roots : List Int) (E : Edges) : (orderL roots E).Nodup := stO_nodup _ _ _
theorem order_length (roots : List Int) (E : Edges) : (orderL roots E).length ≤ roots.length + E.length := stO_length _ _ _
end Go.Tr
namespace Go.Tr
open Go.RowKit
abbrev nils : Value := .slice none 0 0
abbrev Grp := List (Int × (Value × List Int))
def own3 (w : World) (e : TypeId) (base : Nat) (v : Value) (zs : List Int) : Prop := w.ownsRow base e 1 v zs.length (ints zs)
def Groups (w : World) (e : TypeId) (b : Nat) (r : Grp) : Prop :=
  MapI w b (mapA (·.1) r) ∧ (∀ p ∈ r, own3 w e (b + 1) p.2.1 p.2.2) ∧ ∀ p ∈ r, ∀ q ∈ r, p.1 ≠ q.1 → p.2.1.ownBlock = none ∨ p.2.1.ownBlock ≠ q.2.1.ownBlock
theorem Groups.made (w : World) (e : TypeId) : Groups (w.alloc (.map #[] 0)) e w.heap.size [] := ⟨MapI.made w, by simp, by simp⟩
theorem Groups.look {w : World} {e : TypeId} {b : Nat} {r : Grp} (h : Groups w e b r) (x : Int) :
    ∃ v, (lookA (mapA (·.1) r) x).getD nils = v ∧ own3 w e (b + 1) v ((lookA (mapA (·.2) r) x).getD []) ∧ v.ownBlock ≠ some b ∧
      ∀ p ∈ r, p.1 ≠ x → p.2.1.ownBlock = none ∨ p.2.1.ownBlock ≠ v.ownBlock := by
  obtain ⟨h1, h2, h3⟩ := h
  have hne : ∀ v zs, own3 w e (b + 1) v zs → v.ownBlock ≠ some b := fun v zs ho e1 => by have := (ho.lt b e1).1; omega
  rw [lookA_mapA, lookA_mapA]
  cases hl : lookA r x with
  | none =>
    refine ⟨nils, rfl, World.ownsRow_nil _ _ _ _, by simp [Value.ownBlock], fun p _ _ => ?_⟩
    cases p.2.1.ownBlock <;> simp [Value.ownBlock]
  | some t =>
    have hm := lookA_mem hl
    exact ⟨t.1, rfl, h2 _ hm, hne _ _ (h2 _ hm), fun p hp hx => h3 p hp _ hm hx⟩
theorem mem_putA {α : Type} {l : List (Int × α)} {x : Int} {v : α} {p : Int × α} (h : p ∈ putA l x v) : (p ∈ l ∧ p.1 ≠ x) ∨ p = (x, v) := by
  unfold putA at h
  split at h
  · obtain ⟨q, hq, e⟩ := List.mem_map.1 h
    by_cases hx : q.1 == x
    · rw [if_pos hx] at e; exact Or.inr e.symm
    · rw [if_neg hx] at e; subst e; exact Or.inl ⟨hq, by simpa using hx⟩
  · rename_i hh
    rcases List.mem_append.1 h with hp | hp
    · refine Or.inl ⟨hp, fun e => hh ?_⟩
      rw [hasA_iff]; exact List.mem_map.2 ⟨p, hp, e⟩
    · exact Or.inr (by simpa using hp)
theorem Groups.step {w w1 w2 : World} {e : TypeId} {b : Nat} {r : Grp} (h : Groups w e b r) {x : Int} {v v' : Value} {zs' : List Int} (hv : (lookA (mapA (·.1) r) x).getD nils = v)
    (hg : w.grownBy w1 v.ownBlock) (ho : own3 w1 e (b + 1) v' zs') (hloc : v'.ownBlock = v.ownBlock ∨ ∃ g, v'.ownBlock = some g ∧ w.heap.size ≤ g)
    (hm : MapI w2 b (putA (mapA (·.1) r) x v')) (hg2 : w1.grownBy w2 (some b)) : Groups w2 e b (putA r x (v', zs')) := by
  obtain ⟨v0, hv0, hov, hvb, hap⟩ := h.look x
  rw [hv] at hv0; subst hv0
  obtain ⟨h1, h2, h3⟩ := h
  have hne : ∀ (w : World) v zs, own3 w e (b + 1) v zs → v.ownBlock = none ∨ v.ownBlock ≠ some b := fun w v zs ho => by
    cases hb : v.ownBlock with
    | none => exact Or.inl rfl
    | some g => refine Or.inr fun e1 => ?_; have := (ho.lt g hb).1; cases e1; omega
  have old : ∀ p ∈ r, p.1 ≠ x → own3 w2 e (b + 1) p.2.1 p.2.2 := fun p hp hx =>
    ((h2 p hp).kept hg (hap p hp hx)).kept hg2 (hne w1 _ _ ((h2 p hp).kept hg (hap p hp hx)))
  have far : ∀ p ∈ r, p.1 ≠ x → p.2.1.ownBlock = none ∨ p.2.1.ownBlock ≠ v'.ownBlock := fun p hp hx => by
    rcases hloc with h | ⟨g, h, hge⟩
    · rw [h]; exact hap p hp hx
    · cases hb : p.2.1.ownBlock with
      | none => exact Or.inl rfl
      | some q => refine Or.inr fun e1 => ?_; have := ((h2 p hp).lt q hb).2; rw [h] at e1; cases e1; omega
  refine ⟨by have e0 := putA_mapA (fun p : Value × List Int => p.1) r x (v', zs'); rw [← e0]; exact hm, fun p hp => ?_, fun p hp q hq hpq => ?_⟩
  · rcases mem_putA hp with ⟨hp, hx⟩ | rfl
    · exact old p hp hx
    · exact ho.kept hg2 (hne w1 _ _ ho)
  · rcases mem_putA hp with ⟨hp, hx⟩ | rfl
    · rcases mem_putA hq with ⟨hq, _⟩ | rfl
      · exact h3 p hp q hq hpq
      · exact far p hp hx
    · rcases mem_putA hq with ⟨hq, hy⟩ | rfl
      · rcases far q hq hy with h | h
        · show v'.ownBlock = none ∨ v'.ownBlock ≠ q.2.1.ownBlock
          rw [h]
          cases v'.ownBlock with
          | none => exact Or.inl rfl
          | some g => exact Or.inr (by simp)
        · exact Or.inr h.symm
      · exact absurd rfl hpq
def grp (E : Edges) : List (Int × List Int) := E.foldl (fun g e => putA g e.1 ((lookA g e.1).getD [] ++ [e.2])) []
theorem grp_snoc (E : Edges) (e : Int × Int) : grp (E ++ [e]) = putA (grp E) e.1 ((lookA (grp E) e.1).getD [] ++ [e.2]) := by simp [grp]
theorem grp_adj (E : Edges) (x : Int) : (lookA (grp E) x).getD [] = adj E x := by
  refine snocInd (p := fun E => (lookA (grp E) x).getD [] = adj E x) rfl (fun E e ih => ?_) E
  · show (lookA (grp (E ++ [e])) x).getD [] = adj (E ++ [e]) x
    rw [grp_snoc]
    by_cases h : x = e.1
    · subst h
      rw [lookA_put_same, ih]; simp [adj, List.filter_append]
    · have hne : (e.1 == x) = false := by simp; exact fun e' => h e'.symm
      rw [lookA_put_other _ _ h, ih]; simp [adj, List.filter_append, hne]
theorem adj_length (E : Edges) (x : Int) : (adj E x).length ≤ E.length := by simp [adj]; exact List.length_filter_le _ _
theorem grown_drew (w : World) (row : Option Nat) : w.grownBy w.drew row := ⟨rfl, rfl, rfl, Nat.le_refl _, fun _ _ _ => rfl⟩
theorem grown_two (w : World) (a b : Obj) (row : Option Nat) : w.grownBy ((w.alloc a).alloc b).drew row :=
  ((World.grownBy_alloc w a row).trans (World.grownBy_alloc _ b row)).trans (grown_drew _ row)
theorem news_one {w : World} {n : Nat} (x : Value) (t : TypeId) (hn : n = w.heap.size) : ∀ j u, [x][j]? = some u → (w.alloc (.cells #[x] t)).drew.cell? ((⟨n, 0, none⟩ : Addr).add j) = some u := by
  subst hn; exact cell_one_new w x t
theorem ord_round {w wr wa w1 w2 : World} {e : TypeId} {r : Grp} {E : Edges} {k : Nat} {x y : Int} {v v' : Value} (HG : Groups wr e w.heap.size r ∧ mapA (·.2) r = grp (E.take k)) (hK : E[k]? = some (x, y))
    (hbl : Below w.heap.size w wr) (hws : w.heap.size + 1 ≤ wr.heap.size) (hv : (lookA (mapA (·.1) r) x).getD nils = v) (ha : wr.grownBy wa v.ownBlock)
    (hg : wa.grownBy w1 v.ownBlock) (ho : own3 w1 e (w.heap.size + 1) v' ((lookA (mapA (·.2) r) x).getD [] ++ [y])) (hloc : v.ownBlock = v'.ownBlock ∨ ∃ g, v'.ownBlock = some g ∧ wr.heap.size ≤ g)
    (hm : MapI w2 w.heap.size (putA (mapA (·.1) r) x v')) (hg2 : w1.grownBy w2 (some w.heap.size)) :
    (Groups w2 e w.heap.size (putA r x (v', (lookA (mapA (·.2) r) x).getD [] ++ [y])) ∧ mapA (·.2) (putA r x (v', (lookA (mapA (·.2) r) x).getD [] ++ [y])) = grp (E.take (k + 1))) ∧ Below w.heap.size w w2 ∧ w.heap.size + 1 ≤ w2.heap.size := by
  obtain ⟨v0, hv0, hov, hvb, _⟩ := HG.1.look x
  rw [hv] at hv0; subst hv0
  refine ⟨⟨HG.1.step hv (ha.trans hg) ho (hloc.imp Eq.symm id) hm hg2, ?_⟩, ((hbl.grown (ha.trans hg) (by omega) (fun j hj => ?_)).grown hg2 (by have := (ha.trans hg).size; omega) (fun j hj => by cases hj; exact Nat.le_refl _)), ?_⟩
  · have e0 := putA_mapA (fun p : Value × List Int => p.2) r x (v', (lookA (mapA (·.2) r) x).getD [] ++ [y])
    rw [← e0, take_snoc hK, grp_snoc, HG.2]
  · have := (hov.lt j hj).1; omega
  · have h1 := (ha.trans hg).size; have h2 := hg2.size; omega
theorem look_length {r : Grp} {E : Edges} {k : Nat} (h : mapA (·.2) r = grp (E.take k)) (x : Int) : ((lookA (mapA (·.2) r) x).getD []).length ≤ k := by
  rw [h, grp_adj]
  exact Nat.le_trans (adj_length _ _) (List.length_take_le _ _)
def ecells (E : Edges) : List Value := E.flatMap fun e => [iv e.1, iv e.2]
theorem ecells_length (E : Edges) : (ecells E).length = 2 * E.length := by induction E <;> simp_all [ecells]; omega
theorem ecells_at {E : Edges} {k : Nat} {e : Int × Int} (h : E[k]? = some e) : (ecells E).getD (2 * k) undef = .int .i64 e.1 ∧ (ecells E).getD (2 * k + 1) undef = .int .i64 e.2 := by
  induction E generalizing k with
  | nil => simp at h
  | cons f E ih =>
    cases k with
    | zero => simp at h; subst h; simp [ecells, iv]
    | succ k =>
      simp at h
      have := ih h
      simp only [ecells, List.flatMap_cons] at this ⊢
      have e1 : 2 * (k + 1) = (2 * k) + 2 := by omega
      rw [e1]
      simpa [List.getD] using this
theorem SeqAt.edge {w : World} {a : Option Addr} {E : Edges} (h : SeqAt w a (ecells E)) {k : Nat} (hk : k < E.length) :
    ∃ b off x y, a = some ⟨b, off, none⟩ ∧ w.cell? ⟨b, off + k * 2, none⟩ = some (.int .i64 x) ∧ w.cell? ⟨b, off + k * 2 + 1, none⟩ = some (.int .i64 y) ∧ Hid (E[k]? = some (x, y)) := by
  obtain ⟨b, off, e, hc⟩ := h (by rw [ecells_length]; omega)
  have hE : E[k]? = some E[k] := List.getElem?_eq_getElem hk
  have h1 := ecells_at hE
  refine ⟨b, off, E[k].1, E[k].2, e, ?_, ?_, hE⟩
  · have := hc (2 * k) (by rw [ecells_length]; omega); rw [h1.1] at this; rw [← this]; congr 2; omega
  · have := hc (2 * k + 1) (by rw [ecells_length]; omega); rw [h1.2] at this; rw [← this]; congr 2; omega
theorem news_block (w : World) (cs : List Value) (t : TypeId) : ∀ j u, cs[j]? = some u → (w.alloc (.cells cs.toArray t)).cell? ((⟨w.heap.size, 0, none⟩ : Addr).add j) = some u := by
  intro j u hu
  have hadd : (⟨w.heap.size, 0, none⟩ : Addr).add j = ⟨w.heap.size, j, none⟩ := by unfold Addr.add; split <;> simp_all
  rw [hadd, cell_of_row _ _ j cs.toArray t (0, 0) (heap_alloc_new w _)]
  simpa using hu
theorem ecells_append (A B : Edges) : ecells (A ++ B) = ecells A ++ ecells B := by simp [ecells]
theorem ecells_one (E : Edges) : ∀ u ∈ ecells E, u.oneCell' = true := by
  intro u hu
  simp only [ecells, List.mem_flatMap] at hu
  obtain ⟨e, _, hu⟩ := hu
  simp at hu
  rcases hu with rfl | rfl <;> rfl
theorem ownsRow_mono {w : World} {base base' : Nat} {e : TypeId} {size : Nat} {v : Value} {n : Nat} {xs : List Value} (h : w.ownsRow base e size v n xs) (hb : base' ≤ base) : w.ownsRow base' e size v n xs := by
  obtain ⟨h1, h2⟩ := h
  refine ⟨h1, h2.imp id ?_⟩
  rintro ⟨g, cap, cur, h3, h4, h5⟩
  exact ⟨g, cap, cur, h3, Nat.le_trans hb h4, h5⟩
theorem ownsRow_seq {w : World} {base : Nat} {e : TypeId} {size : Nat} {v : Value} {n : Nat} {xs : List Value} (h : w.ownsRow base e size v n xs) : ∃ a cap, v = .slice a n cap ∧ SeqAt w a xs ∧ n ≤ cap ∧ cap ≤ maxLen := by
  have hx := h.1
  have hc := fun g => h.cells (g := g)
  rcases h.2 with ⟨rfl, rfl⟩ | ⟨g, cap, cur, rfl, hb, hg, hn, hcm, _⟩
  · exact ⟨none, 0, rfl, fun h0 => by simp at hx; subst hx; simp at h0, Nat.le_refl _, Nat.zero_le _⟩
  · refine ⟨_, cap, rfl, fun _ => ⟨g, 0, rfl, fun j hj => ?_⟩, hn, hcm⟩
    have h1 := hc g rfl j xs[j] (List.getElem?_eq_getElem hj)
    have hadd : (⟨g, 0, none⟩ : Addr).add j = ⟨g, 0 + j, none⟩ := by unfold Addr.add; split <;> simp_all
    rw [hadd] at h1
    rw [h1]; simp [List.getD, List.getElem?_eq_getElem hj]
def OrdInv (wo wr : World) (eI eS : TypeId) (lf : List (Int × Value)) (vr : Value) (L : List Int) (vl vn : Value) : Prop :=
  own3 wr eI (wo.heap.size + 1) vl L ∧ wr.ownsRow (wo.heap.size + 1) eS 1 vn (L.length + 1) (vr :: L.map fun x => (lookA lf x).getD nils) ∧ MapI wr wo.heap.size (L.map fun x => (x, iv 1)) ∧ Below wo.heap.size wo wr ∧
    (vl.ownBlock = none ∨ vl.ownBlock ≠ vn.ownBlock) ∧ wo.heap.size + 1 ≤ wr.heap.size
theorem seen_look (L : List Int) (x : Int) : (lookA (L.map fun x => (x, iv 1)) x).getD (.int .i64 0) = .int .i64 (if hasL L x then 1 else 0) := by
  have : (hasL L x = true ∧ lookA (L.map fun x => (x, iv 1)) x = some (iv 1)) ∨ (hasL L x = false ∧ lookA (L.map fun x => (x, iv 1)) x = none) := by
    cases h : hasL L x with
    | true =>
      refine Or.inl ⟨rfl, ?_⟩
      rw [hasL_iff] at h
      cases hl : lookA (L.map fun x => (x, iv 1)) x with
      | none => exact absurd rfl (lookA_none.1 hl (x, iv 1) (List.mem_map.2 ⟨x, h, rfl⟩))
      | some u =>
        obtain ⟨y, _, e⟩ := List.mem_map.1 (lookA_mem hl)
        simp at e; rw [← e.2]
    | false =>
      refine Or.inr ⟨rfl, lookA_none.2 ?_⟩
      rw [hasL_iff'] at h
      intro p hp e
      obtain ⟨y, hy, e'⟩ := List.mem_map.1 hp
      subst e'; simp at e; subst e; exact h hy
  rcases this with ⟨h1, h2⟩ | ⟨h1, h2⟩ <;> rw [h1, h2] <;> rfl
theorem seen_put {L : List Int} {x : Int} (h : hasL L x = false) : putA (L.map fun x => (x, iv 1)) x (iv 1) = (L ++ [x]).map fun x => (x, iv 1) := by
  have : hasA (L.map fun x => (x, iv 1)) x = false := by
    rw [hasL_iff'] at h
    have h2 : ¬ hasA (L.map fun x => (x, iv 1)) x = true := fun e => h (by rw [hasA_iff] at e; simpa [keysA] using e)
    simpa using h2
  rw [putA, this]; simp
theorem OrdInv.ne {wo wr : World} {eI eS : TypeId} {lf : List (Int × Value)} {vr : Value} {L : List Int} {vl vn : Value} (h : OrdInv wo wr eI eS lf vr L vl vn) :
    (vl.ownBlock = none ∨ vl.ownBlock ≠ some wo.heap.size) ∧ (vn.ownBlock = none ∨ vn.ownBlock ≠ some wo.heap.size) := by
  obtain ⟨h1, h2, _⟩ := h
  constructor
  · cases hb : vl.ownBlock with
    | none => exact Or.inl rfl
    | some g => refine Or.inr fun e => ?_; have := (h1.lt g hb).1; cases e; omega
  · cases hb : vn.ownBlock with
    | none => exact Or.inl rfl
    | some g => refine Or.inr fun e => ?_; have := (h2.lt g hb).1; cases e; omega
theorem ord_start (wo : World) (eI eS : TypeId) (lf : List (Int × Value)) (vr : Value) :
    OrdInv wo ((wo.alloc (.map #[] 0)).alloc (.cells #[vr] eS)) eI eS lf vr [] nils (.slice (some ⟨wo.heap.size + 1, 0, none⟩) 1 1) := by
  refine ⟨World.ownsRow_nil _ _ _ _, ⟨by simp, .inr ⟨wo.heap.size + 1, 1, #[vr], rfl, Nat.le_refl _, ?_, Nat.le_refl _, by decide, by simp, by simp⟩⟩, ?_, ?_, Or.inl rfl, by simp⟩
  · have := heap_alloc_new (wo.alloc (.map #[] 0)) (.cells #[vr] eS)
    simpa using this
  · exact (MapI.made wo).kept (Below.heap_alloc _ _ _ (by simp))
  · exact ((Below.refl _ _).alloc (Nat.le_refl _) _).alloc (by simp) _
theorem ord_mid1 {wo wr w1 : World} {eI eS : TypeId} {lf : List (Int × Value)} {vr : Value} {L : List Int} {vl vn : Value} (h : OrdInv wo wr eI eS lf vr L vl vn)
    (hg1 : wr.grownBy w1 (some wo.heap.size)) : w1.ownsRow (wo.heap.size + 1) eI 1 vl L.length (ints L) ∧ wo.heap.size + 1 ≤ w1.heap.size := ⟨h.1.kept hg1 h.ne.1, Nat.le_trans h.2.2.2.2.2 hg1.size⟩
theorem ord_mid {wo wr w1 w2 : World} {o1 : Obj} {eI eS : TypeId} {lf : List (Int × Value)} {vr : Value} {L : List Int} {vl vn : Value} (h : OrdInv wo wr eI eS lf vr L vl vn)
    (hg1 : wr.grownBy w1 (some wo.heap.size)) (hg2 : (w1.alloc o1).grownBy w2 vl.ownBlock) :
    w2.ownsRow (wo.heap.size + 1) eS 1 vn (L.length + 1) (vr :: L.map fun x => (lookA lf x).getD nils) ∧ Below wo.heap.size wo w2 ∧ w1.heap.size + 1 ≤ w2.heap.size ∧ own3 w1 eI (wo.heap.size + 1) vl L := by
  obtain ⟨hnl, hnn⟩ := h.ne
  obtain ⟨h1, h2, h3, h4, h5, h6⟩ := h
  have hs1 := hg1.size
  have hs2 := hg2.size
  simp at hs2
  refine ⟨((h2.kept hg1 hnn).alloc o1).kept hg2 ?_, (((h4.grown hg1 (by omega) (fun j hj => by cases hj; exact Nat.le_refl _)).alloc (by omega) o1).grown hg2 (by simp; omega) (fun j hj => ?_)), hs2, h1.kept hg1 hnl⟩
  · rcases h5 with h5 | h5
    · rw [h5]; cases hb : vn.ownBlock with
      | none => exact Or.inl rfl
      | some g => exact Or.inr (by simp)
    · exact Or.inr (Ne.symm h5)
  · have := (h1.lt j hj).1; omega
theorem ord_visit {wo wr w1 w2 w3 : World} {o1 o2 : Obj} {eI eS : TypeId} {lf : List (Int × Value)} {vr : Value} {L : List Int} {vl vn vl' vn' : Value} {x : Int} (h : OrdInv wo wr eI eS lf vr L vl vn) (hx : hasL L x = false)
    (hm : MapI w1 wo.heap.size (putA (L.map fun x => (x, iv 1)) x (iv 1))) (hg1 : wr.grownBy w1 (some wo.heap.size))
    (ho2 : w2.ownsRow (wo.heap.size + 1) eI 1 vl' (L.length + 1) (ints L ++ [iv x])) (hg2 : (w1.alloc o1).grownBy w2 vl.ownBlock) (hl2 : vl'.ownBlock = vl.ownBlock ∨ vl'.ownBlock = some (w1.alloc o1).heap.size)
    (ho3 : w3.ownsRow (wo.heap.size + 1) eS 1 vn' (L.length + 1 + 1) ((vr :: L.map fun x => (lookA lf x).getD nils) ++ [(lookA lf x).getD nils])) (hg3 : (w2.alloc o2).grownBy w3 vn.ownBlock)
    (hl3 : vn'.ownBlock = vn.ownBlock ∨ vn'.ownBlock = some (w2.alloc o2).heap.size) : OrdInv wo w3 eI eS lf vr (L ++ [x]) vl' vn' := by
  obtain ⟨hm1, hm2, hm3, _⟩ := ord_mid h hg1 hg2
  obtain ⟨hnl, hnn⟩ := h.ne
  obtain ⟨h1, h2, h3, h4, h5, h6⟩ := h
  have hs1 := hg1.size
  have hs2 := hg2.size
  have hs3 := hg3.size
  simp at hs2 hs3
  -- where the new list lies, and where the old rows lay
  have hlv : ∀ g, vl.ownBlock = some g → g < wr.heap.size := fun g hg => (h1.lt g hg).2
  have hln : ∀ g, vn.ownBlock = some g → wo.heap.size + 1 ≤ g ∧ g < wr.heap.size := fun g hg => h2.lt g hg
  have hb2 : ∀ g, vl'.ownBlock = some g → wo.heap.size + 1 ≤ g ∧ g < w2.heap.size := fun g hg => ho2.lt g hg
  have hdis : vl'.ownBlock = none ∨ vl'.ownBlock ≠ vn.ownBlock := by
    rcases hl2 with e | e
    · rw [e]; exact h5
    · rw [e]; right; intro e2
      have := (hln _ e2.symm).2
      simp at this; omega
  refine ⟨?_, ?_, ?_, (hm2.alloc (by omega) o2).grown hg3 (by simp; omega) (fun j hj => by have := (hln j hj).1; omega), ?_, by omega⟩
  · have := (ho2.alloc o2).kept hg3 hdis
    simpa [own3, ints, iv] using this
  · simpa using ho3
  · rw [← seen_put hx]
    have e1 : w2.heap[wo.heap.size]? = w1.heap[wo.heap.size]? := by
      rw [hg2.block _ (by simp; omega) (fun e => by rcases hnl with h | h <;> simp_all), Below.heap_alloc _ _ _ (by omega)]
    have e2 : w3.heap[wo.heap.size]? = w2.heap[wo.heap.size]? := by
      rw [hg3.block _ (by simp; omega) (fun e => by rcases hnn with h | h <;> simp_all), Below.heap_alloc _ _ _ (by omega)]
    exact hm.kept (e2.trans e1)
  · rcases hl3 with e | e
    · rw [e]; exact hdis
    · cases hb : vl'.ownBlock with
      | none => exact Or.inl rfl
      | some g => right; rw [e]; intro e2; have := (hb2 g hb).2; simp at e2; omega
def OrdHead (wo wr : World) (eI eS : TypeId) (lf : List (Int × Value)) (vr : Value) (roots : List Int) (E : Edges) (n m : Nat) (vl : Value) (an : Option Addr) (capn : Nat) : Prop :=
  m = (stO roots E n).length ∧ n ≤ m + 1 ∧ m ≤ roots.length + E.length ∧ OrdInv wo wr eI eS lf vr (stO roots E n) vl (.slice an (m + 1) capn) ∧ SeqAt wr an (vr :: (stO roots E n).map fun x => (lookA lf x).getD nils)
theorem ordHead_mk {wo wr : World} {eI eS : TypeId} {lf : List (Int × Value)} {vr : Value} {roots : List Int} {E : Edges} {n : Nat} {vl vn : Value} (hn : n ≤ (stO roots E n).length + 1)
    (h : OrdInv wo wr eI eS lf vr (stO roots E n) vl vn) : ∃ m an capn, vn = .slice an (m + 1) capn ∧ Hid (OrdHead wo wr eI eS lf vr roots E n m vl an capn) := by
  obtain ⟨an, capn, rfl, hs, _, _⟩ := ownsRow_seq h.2.1
  exact ⟨_, an, capn, rfl, rfl, hn, stO_length roots E n, h, hs⟩
theorem look_slice {wo : World} {e : TypeId} {b : Nat} {r : Grp} (hg : Groups wo e b r) (x : Int) : ∃ a n c, (lookA (mapA (·.1) r) x).getD nils = .slice a n c := by
  obtain ⟨v, hv, hov, _⟩ := hg.look x
  obtain ⟨a, cap, rfl, _⟩ := ownsRow_seq hov
  exact ⟨_, _, _, hv⟩
theorem ord_list {wo : World} {eI : TypeId} {b : Nat} {r : Grp} {roots : List Int} {E : Edges} {ra : Option Addr} {rn rc n : Nat} (hr : SeqAt wo ra (ints roots)) (hrn : roots.length = rn)
    (hg : Groups wo eI b r) (hE : mapA (·.2) r = grp E) (hn : n < (stO roots E n).length + 1) (hsz : rn + E.length ≤ 1000000) :
    ∃ a len cap, (Value.slice ra rn rc :: (stO roots E n).map fun x => (lookA (mapA (·.1) r) x).getD nils)[n]? = some (.slice a len cap) ∧ SeqAt wo a (ints (nextO roots E n)) ∧ (nextO roots E n).length = len ∧ len ≤ 1000000 := by
  cases n with
  | zero => exact ⟨ra, rn, rc, rfl, hr, hrn, by omega⟩
  | succ m =>
    have hml : m < (stO roots E (m + 1)).length := by omega
    obtain ⟨v, hv, hov, _, _⟩ := hg.look (stO roots E (m + 1))[m]
    rw [hE, grp_adj] at hov
    obtain ⟨a, cap, rfl, hs, _, _⟩ := ownsRow_seq hov
    have hx : nextO roots E (m + 1) = adj E (stO roots E (m + 1))[m] := by simp [nextO, nextOf, List.getElem?_eq_getElem hml]
    refine ⟨a, (adj E (stO roots E (m + 1))[m]).length, cap, ?_, by rw [hx]; exact hs, by rw [hx], by have := adj_length E (stO roots E (m + 1))[m]; omega⟩
    simp only [List.getElem?_cons_succ, List.getElem?_map, List.getElem?_eq_getElem hml, Option.map_some]
    rw [hv]
end Go.Tr
