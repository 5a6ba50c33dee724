/-
  What a call may have turned, block by block; a slice of the call's own whose first cell may lie anywhere in its block, and the append to it.
-/
import Derived.Test.YthfdigjbmoconaaOrderParts
import Derived.ArgAppend
set_option linter.unusedSimpArgs false
set_option linter.unusedVariables false
namespace Go.Tr
open Go.RowKit

/-- Of the blocks that there were none has turned but those of F. -/
structure Only (F : Nat → Prop) (w w' : World) : Prop where
  os : w'.os = w.os
  tape : w'.tape = w.tape
  output : w'.output = w.output
  size : w.heap.size ≤ w'.heap.size
  block : ∀ k, k < w.heap.size → ¬ F k → w'.heap[k]? = w.heap[k]?

/-- F, and the blocks that have come since. -/
def grow (F : Nat → Prop) (w w' : World) : Nat → Prop := fun k => F k ∨ (w.heap.size ≤ k ∧ k < w'.heap.size)

theorem Only.refl (F : Nat → Prop) (w : World) : Only F w w := ⟨rfl, rfl, rfl, Nat.le_refl _, fun _ _ _ => rfl⟩
theorem Only.mono {F G : Nat → Prop} {w w' : World} (h : Only F w w') (hs : ∀ k, F k → G k) : Only G w w' := ⟨h.os, h.tape, h.output, h.size, fun k hk hn => h.block k hk (fun hf => hn (hs k hf))⟩
theorem Only.trans {F G : Nat → Prop} {a b c : World} (h : Only F a b) (k : Only G b c) (hG : ∀ j, G j → F j ∨ a.heap.size ≤ j) : Only F a c :=
  ⟨k.os.trans h.os, k.tape.trans h.tape, k.output.trans h.output, Nat.le_trans h.size k.size, fun j hj hn =>
    (k.block j (Nat.lt_of_lt_of_le hj h.size) (fun hg => (hG j hg).elim hn (fun h' => by omega))).trans (h.block j hj hn)⟩
theorem Only.grow {F : Nat → Prop} {a b c : World} (h : Only F a b) (k : Only (grow F a b) b c) : Only F a c := h.trans k (fun j hj => hj.imp id (fun h' => h'.1))
theorem Only.alloc {F : Nat → Prop} {a w : World} (h : Only F a w) (o : Obj) : Only F a (w.alloc o) :=
  ⟨h.os, h.tape, h.output, by have := h.size; simp; omega, fun k hk hn => (Below.heap_alloc w o k (Nat.lt_of_lt_of_le hk h.size)).trans (h.block k hk hn)⟩
theorem Only.drew {F : Nat → Prop} {a w : World} (h : Only F a w) : Only F a w.drew := ⟨h.os, h.tape, h.output, h.size, h.block⟩
theorem Only.drawn {F : Nat → Prop} {a w w' : World} (h : Only F a w) (hd : Drawn w w') : Only F a w' := by obtain ⟨n, rfl⟩ := hd; exact ⟨h.os, h.tape, h.output, h.size, h.block⟩
theorem Only.setCell {F : Nat → Prop} {a w : World} (h : Only F a w) {p : Addr} (hp : F p.block ∨ a.heap.size ≤ p.block) (u : Value) : Only F a (w.setCell p u) :=
  ⟨h.os, h.tape, h.output, by simpa [World.setCell] using h.size, fun k hk hn => (Below.heap_setCell w p u k (fun e => by subst e; rcases hp with h' | h'; exact hn h'; omega)).trans (h.block k hk hn)⟩
theorem Only.grown {F : Nat → Prop} {a w w' : World} {row : Option Nat} (h : Only F a w) (hg : w.grownBy w' row) (hr : ∀ k, row = some k → F k ∨ a.heap.size ≤ k) : Only F a w' :=
  ⟨hg.os.trans h.os, hg.tape.trans h.tape, hg.output.trans h.output, Nat.le_trans h.size hg.size, fun k hk hn =>
    (hg.block k (Nat.lt_of_lt_of_le hk h.size) (fun e => by rcases hr k e.symm with h' | h'; exact hn h'; omega)).trans (h.block k hk hn)⟩
theorem Only.below {F : Nat → Prop} {w w' : World} (h : Only F w w') {B : Nat} (hB : B ≤ w.heap.size) (hF : ∀ k, F k → B ≤ k) : Below B w w' :=
  ⟨h.os, h.tape, h.output, h.size, fun k hk => h.block k (by omega) (fun hf => by have := hF k hf; omega)⟩
theorem Only.of_below {w w' : World} (h : Below w.heap.size w w') (F : Nat → Prop) : Only F w w' := ⟨h.os, h.tape, h.output, h.size, fun k hk _ => h.block k hk⟩
theorem Only.grownBy {F : Nat → Prop} {w w' : World} (h : Only F w w') {g : Nat} (hF : ∀ k, F k → k < w.heap.size → k = g) : w.grownBy w' (some g) :=
  ⟨h.os, h.tape, h.output, h.size, fun k hk hn => h.block k hk (fun hf => hn (by rw [hF k hf hk]))⟩
theorem grow_mono {F G : Nat → Prop} (h : ∀ k, F k → G k) {w w' : World} : ∀ k, grow F w w' k → grow G w w' k := fun k hk => hk.imp (h k) id
theorem grow_trans {F : Nat → Prop} {a b c : World} (h1 : a.heap.size ≤ b.heap.size) (h2 : b.heap.size ≤ c.heap.size) : ∀ k, grow (grow F a b) b c k → grow F a c k := fun k hk => by
  rcases hk with (hk | hk) | hk
  · exact Or.inl hk
  · exact Or.inr ⟨hk.1, by omega⟩
  · exact Or.inr ⟨by omega, hk.2⟩
theorem SeqAt.only {F : Nat → Prop} {w w' : World} {a : Option Addr} {vs : List Value} (h : SeqAt w a vs) (ho : Only F w w') (hn : 0 < vs.length → ∀ b o, a = some ⟨b, o, none⟩ → ¬ F b) : SeqAt w' a vs := by
  intro h0
  obtain ⟨b, off, e, hc⟩ := h h0
  refine ⟨b, off, e, fun j hj => ?_⟩
  have := hc j hj
  rw [World.cell?_of_block (a := ⟨b, off + j, none⟩) (w := w) (ho.block b (World.block_lt_of_cell? w _ this) (hn h0 b off e))]
  exact this

/-- A slice that owns the cells from its first one on, up to its capacity: n elements, whose cells are xs. -/
def OwnO (w : World) (size : Nat) (v : Value) (n : Nat) (xs : List Value) : Prop :=
  (v = .slice none 0 0 ∧ n = 0 ∧ xs = []) ∨
  ∃ g off cap, v = .slice (some ⟨g, off, none⟩) n cap ∧ n ≤ cap ∧ cap ≤ maxLen ∧ xs.length = n * size ∧ g < w.heap.size ∧ (∀ j, j < cap * size → (w.cell? ⟨g, off + j, none⟩).isSome = true ∧ w.frozen? ⟨g, off + j, none⟩ = false) ∧
    ∀ j, j < n * size → w.cell? ⟨g, off + j, none⟩ = xs[j]?

theorem OwnO.nil (w : World) (size : Nat) : OwnO w size (.slice none 0 0) 0 [] := Or.inl ⟨rfl, rfl, rfl⟩
theorem OwnO.length {w : World} {size : Nat} {v : Value} {n : Nat} {xs : List Value} (h : OwnO w size v n xs) : xs.length = n * size := by
  rcases h with ⟨_, rfl, rfl⟩ | ⟨g, off, cap, _, _, _, h, _⟩
  · simp
  · exact h
theorem OwnO.lt {w : World} {size : Nat} {v : Value} {n : Nat} {xs : List Value} (h : OwnO w size v n xs) : ∀ k, v.ownBlock = some k → k < w.heap.size := by
  intro k hk
  rcases h with ⟨rfl, _⟩ | ⟨g, off, cap, rfl, _, _, _, h, _⟩
  · simp [Value.ownBlock] at hk
  · simp [Value.ownBlock] at hk; omega
theorem OwnO.kept {w w' : World} {size : Nat} {v : Value} {n : Nat} {xs : List Value} (h : OwnO w size v n xs) (hb : ∀ k, v.ownBlock = some k → w'.heap[k]? = w.heap[k]?) : OwnO w' size v n xs := by
  rcases h with h | ⟨g, off, cap, rfl, h1, h2, h3, h4, h5, h6⟩
  · exact Or.inl h
  · have e := hb g rfl
    refine Or.inr ⟨g, off, cap, rfl, h1, h2, h3, ?_, fun j hj => ?_, fun j hj => ?_⟩
    · have h7 : (w.heap[g]?).isSome = true := by simp [h4]
      rw [← e] at h7
      simpa using h7
    · rw [World.cell?_of_block (a := ⟨g, off + j, none⟩) (w := w) e, World.frozen?_of_block (a := ⟨g, off + j, none⟩) (w := w) e]; exact h5 j hj
    · rw [World.cell?_of_block (a := ⟨g, off + j, none⟩) (w := w) e]; exact h6 j hj
theorem OwnO.only {F : Nat → Prop} {w w' : World} {size : Nat} {v : Value} {n : Nat} {xs : List Value} (h : OwnO w size v n xs) (ho : Only F w w') (hn : ∀ k, v.ownBlock = some k → ¬ F k) : OwnO w' size v n xs :=
  h.kept (fun k hk => ho.block k (h.lt k hk) (hn k hk))
theorem OwnO.seq {w : World} {size : Nat} {v : Value} {n : Nat} {xs : List Value} (h : OwnO w size v n xs) : ∃ a cap, v = .slice a n cap ∧ SeqAt w a xs ∧ n ≤ cap ∧ cap ≤ maxLen := by
  have hx := h.length
  rcases h with ⟨rfl, rfl, rfl⟩ | ⟨g, off, cap, rfl, h1, h2, h3, h4, h5, h6⟩
  · exact ⟨none, 0, rfl, fun h0 => by simp at h0, Nat.le_refl _, Nat.zero_le _⟩
  · refine ⟨_, cap, rfl, fun _ => ⟨g, off, rfl, fun j hj => ?_⟩, h1, h2⟩
    rw [h6 j (by omega)]
    simp [List.getD, List.getElem?_eq_getElem hj]
theorem OwnO.of_row {w : World} {base : Nat} {e : TypeId} {size : Nat} {v : Value} {n : Nat} {xs : List Value} (h : w.ownsRow base e size v n xs) : OwnO w size v n xs := by
  have hx := h.1
  have hc := fun g => h.cells (g := g)
  rcases h.2 with ⟨rfl, rfl⟩ | ⟨g, cap, cur, rfl, hb, hg, hn, hcm, hcs, _⟩
  · exact Or.inl ⟨rfl, rfl, by simpa using hx⟩
  · refine Or.inr ⟨g, 0, cap, rfl, hn, hcm, hx, (Array.getElem?_eq_some_iff.1 hg).1, fun j hj => ?_, fun j hj => ?_⟩
    · rw [Nat.zero_add, cell_of_row w g j cur e (0, 0) hg]
      refine ⟨by simp; omega, ?_⟩
      simp [World.frozen?, hg]
    · have hjx : j < xs.length := by omega
      have h1 := hc g rfl j xs[j] (List.getElem?_eq_getElem hjx)
      have hadd : (⟨g, 0, none⟩ : Addr).add j = ⟨g, 0 + j, none⟩ := by unfold Addr.add; split <;> simp_all
      rw [hadd] at h1
      rw [h1, List.getElem?_eq_getElem hjx]

section
variable {P : Program} {w : World}

theorem heap_setCells_eq (g : Nat) : ∀ (vs : List Value) (o : Nat) (w : World) (i : Nat), i ≠ g → (w.setCells g o vs).heap[i]? = w.heap[i]?
  | [], _, _, _, _ => rfl
  | v :: r, o, w, i, h => by rw [World.setCells, heap_setCells_eq g r (o + 1) _ i h, Below.heap_setCell _ _ _ _ h]
theorem size_setCells (g : Nat) : ∀ (vs : List Value) (o : Nat) (w : World), (w.setCells g o vs).heap.size = w.heap.size
  | [], _, _ => rfl
  | v :: r, o, w => by rw [World.setCells, size_setCells g r]; simp [World.setCell]
theorem grown_setCells (g o : Nat) (vs : List Value) (w : World) : w.grownBy (w.setCells g o vs) (some g) := by
  refine ⟨?_, ?_, ?_, by rw [size_setCells]; exact Nat.le_refl _, fun k _ hn => heap_setCells_eq g vs o w k (fun e => hn (by rw [e]))⟩
  · induction vs generalizing o w with
    | nil => rfl
    | cons v r ih => rw [World.setCells, ih]; rfl
  · induction vs generalizing o w with
    | nil => rfl
    | cons v r ih => rw [World.setCells, ih]; rfl
  · induction vs generalizing o w with
    | nil => rfl
    | cons v r ih => rw [World.setCells, ih]; rfl

theorem isSome_setCells' (b : Nat) (vs : List Value) (o : Nat) (w : World) (k : Nat) (hk : (w.cell? ⟨b, k, none⟩).isSome = true) (h : ∀ j, j < vs.length → (w.cell? ⟨b, o + j, none⟩).isSome = true) : ((w.setCells b o vs).cell? ⟨b, k, none⟩).isSome = true := by
  by_cases hin : o ≤ k ∧ k < o + vs.length
  · have := World.cell?_setCells_in b vs o w h (k - o) (by omega)
    rw [show o + (k - o) = k by omega] at this
    rw [this]; rfl
  · rw [World.cell?_setCells_out b vs o w _ (fun _ _ => by simp; omega)]; exact hk

/-- The append: there may be room, or not. -/
theorem OwnO.append {size bytes : Nat} {v : Value} {n : Nat} {xs : List Value} (h : OwnO w size v n xs) {t ty e : TypeId} {i : TypeInfo} {z : Value} (ht : P.underlying t = some (.slice e)) (hi : P.info? e = some i) (hz : i.zero = some z) (hsize : i.size = size) (hby : i.bytes = bytes)
    (hzs : z.cells.size = size) (hsz : 0 < size) (a : Addr) (m c : Nat) (news : List Value) (hl : news.length = m * size) (hnews : ∀ j u, news[j]? = some u → w.cell? (a.add j) = some u) (h1 : ∀ u ∈ news, u.oneCell' = true) (h63 : n + m ≤ maxLen) (hbytes : (n + m) * bytes ≤ 140737488355328) :
    ∃ v' w', (Builtin.append_ #[t, t] ty #[v, .slice (some a) m c]).run P w = .ok v' w' ∧ OwnO w' size v' (n + m) (xs ++ news) ∧ w.grownBy w' v.ownBlock ∧ ∀ k, v'.ownBlock = some k → v.ownBlock = some k ∨ (w.heap.size ≤ k ∧ k < w'.heap.size) := by
  have hx := h.length
  have fresh : ∀ v' w', w'.ownsRow w.heap.size e size v' (n + m) (xs ++ news) → w.grownBy w' none → OwnO w' size v' (n + m) (xs ++ news) ∧ w.grownBy w' v.ownBlock ∧ ∀ k, v'.ownBlock = some k → v.ownBlock = some k ∨ (w.heap.size ≤ k ∧ k < w'.heap.size) := fun v' w' r1 r2 =>
    ⟨OwnO.of_row r1, ⟨r2.os, r2.tape, r2.output, r2.size, fun k hk _ => r2.block k hk (by simp)⟩, fun k hk => Or.inr (r1.lt k hk)⟩
  rcases h with ⟨rfl, rfl, rfl⟩ | ⟨g, off, cap, rfl, g1, g2, g3, g4, g5, g6⟩
  · obtain ⟨v', w', hrun, r1, r2, _⟩ := run_append_own (P := P) w w.heap.size t ty e i z size bytes ht hi hz hsize hby hzs hsz (.slice none 0 0) 0 [] (World.ownsRow_nil w _ e size) a m c news hl hnews h1 h63 hbytes (Nat.le_refl _)
    exact ⟨v', w', hrun, fresh v' w' r1 r2⟩
  · by_cases hr : n + m ≤ cap
    · subst hsize
      have hcap : n * i.size + news.length ≤ cap * i.size := by rw [hl, ← Nat.add_mul]; exact Nat.mul_le_mul_right _ hr
      have hspare : ∀ j, j < news.length → (w.cell? ⟨g, off + n * i.size + j, none⟩).isSome = true ∧ w.frozen? ⟨g, off + n * i.size + j, none⟩ = false := fun j hj => by
        rw [Nat.add_assoc]; exact g5 (n * i.size + j) (by omega)
      have hrun := run_append_room_cells (P := P) w t ty e i ht hi g off n cap a m c news hl hnews h1 hr (fun j hj => (hspare j hj).1) (fun j hj => (hspare j hj).2)
      refine ⟨_, _, hrun, Or.inr ⟨g, off, cap, rfl, hr, g2, by rw [List.length_append, hx, hl, Nat.add_mul], by rw [size_setCells]; exact g4, fun j hj => ⟨?_, ?_⟩, fun j hj => ?_⟩, grown_setCells _ _ _ _, fun k hk => Or.inl hk⟩
      · exact isSome_setCells' g news (off + n * i.size) w (off + j) (g5 j hj).1 (fun q hq => (hspare q hq).1)
      · rw [World.frozen?_setCells]; exact (g5 j hj).2
      · by_cases hjn : j < n * i.size
        · rw [World.cell?_setCells_out g news _ w _ (fun _ _ => by simp; omega), g6 j hjn, List.getElem?_append_left (by omega)]
        · have hj2 : j - n * i.size < news.length := by rw [hl]; rw [Nat.add_mul] at hj; omega
          have := World.cell?_setCells_in g news (off + n * i.size) w (fun q hq => (hspare q hq).1) (j - n * i.size) hj2
          rw [show off + n * i.size + (j - n * i.size) = off + j by omega] at this
          rw [this, List.getElem?_append_right (by omega), hx, List.getElem?_eq_getElem hj2]
    · obtain ⟨v', w', hrun, r1, r2⟩ := run_append_arg_grows (P := P) w t ty e i z size bytes ht hi hz hsize hby hzs hsz ⟨g, off, none⟩ n cap xs hx (fun j u hj => by
        have hjx := (List.getElem?_eq_some_iff.1 hj).1
        rw [Addr.add_lit, g6 j (by omega)]; exact hj) a m c news hl hnews (by omega) h63 hbytes
      exact ⟨v', w', hrun, fresh v' w' r1 r2⟩

theorem OwnO.cells {size : Nat} {g off cap : Nat} {n : Nat} {xs : List Value} (h : OwnO w size (.slice (some ⟨g, off, none⟩) n cap) n xs) : ∀ j, j < n * size → w.cell? ⟨g, off + j, none⟩ = xs[j]? := by
  rcases h with ⟨h0, _⟩ | ⟨g', off', cap', e, g1, g2, g3, g4, g5, g6⟩
  · cases h0
  · cases e; exact g6
/-- 'v[1:]'. -/
theorem OwnO.tail {size : Nat} {v : Value} {n : Nat} {xs : List Value} (h : OwnO w size v (n + 1) xs) (hsz : 0 < size) : ∃ g off cap, v = .slice (some ⟨g, off, none⟩) (n + 1) cap ∧ n + 1 ≤ cap ∧ cap ≤ maxLen ∧
    OwnO w size (.slice (if cap = 1 then some ⟨g, off, none⟩ else some ⟨g, off + size, none⟩) n (cap - 1)) n (xs.drop size) := by
  have hx := h.length
  rcases h with ⟨_, h0, _⟩ | ⟨g, off, cap, rfl, g1, g2, g3, g4, g5, g6⟩
  · omega
  · refine ⟨g, off, cap, rfl, g1, g2, ?_⟩
    have hm1 : (n + 1) * size = n * size + size := by rw [Nat.add_mul, Nat.one_mul]
    by_cases hc : cap = 1
    · subst hc
      have hn : n = 0 := by omega
      subst hn
      rw [if_pos rfl]
      refine Or.inr ⟨g, off, 0, rfl, Nat.le_refl _, Nat.zero_le _, by simp; omega, g4, fun j hj => by simp at hj, fun j hj => by simp at hj⟩
    · rw [if_neg hc]
      have hc1 : cap * size = (cap - 1) * size + size := by
        have : cap = (cap - 1) + 1 := by omega
        rw [this, Nat.add_mul, Nat.one_mul]; simp
      refine Or.inr ⟨g, off + size, cap - 1, rfl, by omega, by omega, by simp [hx, hm1], g4, fun j hj => ?_, fun j hj => ?_⟩
      · rw [Nat.add_assoc]; exact g5 (size + j) (by omega)
      · rw [Nat.add_assoc, g6 (size + j) (by omega), List.getElem?_drop]
end

section
variable {P : Program} (w : World) {ops : Array Oper} {rest : List Oper} {o : Oper} {a : Act} {Q : Exit → Act → World → Prop}

theorem wpO_appendO {K : Act → World → Prop} (s x : Operand) (t : TypeId) (hop : o.op = Op.call { callee := Callee.builtin Builtin.append, args := #[s, x], argTypes := #[t, t] })
    (e : TypeId) (i : TypeInfo) (z : Value) (size bytes : Nat) (ht : P.underlying t = some (.slice e)) (hi : P.info? e = some i) (hz : i.zero = some z) (hsize : i.size = size) (hby : i.bytes = bytes) (hzs : z.cells.size = size) (hsz : 0 < size)
    (v : Value) (n : Nat) (xs : List Value) (hs : a.eval s = v) (h : OwnO w size v n xs) (ad : Addr) (m c : Nat) (news : List Value) (hx : a.eval x = .slice (some ad) m c) (hl : news.length = m * size) (hnews : ∀ j u, news[j]? = some u → w.cell? (ad.add j) = some u) (h1 : ∀ u ∈ news, u.oneCell' = true)
    (h63 : n + m ≤ maxLen) (hbytes : (n + m) * bytes ≤ 140737488355328)
    (hK : ∀ v' w', OwnO w' size v' (n + m) (xs ++ news) → w.grownBy w' v.ownBlock → (∀ k, v'.ownBlock = some k → v.ownBlock = some k ∨ (w.heap.size ≤ k ∧ k < w'.heap.size)) → K (a.put o.dst v') w') : Oper.wp P o a w K Q := by
  obtain ⟨v', w', hrun, r1, r2, r3⟩ := h.append (P := P) (ty := o.type) ht hi hz hsize hby hzs hsz ad m c news hl hnews h1 h63 hbytes
  unfold Oper.wp
  simp [execOp, hop, resolve, invoke, builtin, hs, hx, hrun, Result.andThen]
  exact hK v' w' r1 r2 r3
theorem wpList_appendO (hg : o.guard = none) (s x : Operand) (t : TypeId) (hop : o.op = Op.call { callee := Callee.builtin Builtin.append, args := #[s, x], argTypes := #[t, t] })
    (e : TypeId) (i : TypeInfo) (z : Value) (size bytes : Nat) (ht : P.underlying t = some (.slice e)) (hi : P.info? e = some i) (hz : i.zero = some z) (hsize : i.size = size) (hby : i.bytes = bytes) (hzs : z.cells.size = size) (hsz : 0 < size)
    (v : Value) (n : Nat) (xs : List Value) (hs : a.eval s = v) (h : OwnO w size v n xs) (ad : Addr) (m c : Nat) (news : List Value) (hx : a.eval x = .slice (some ad) m c) (hl : news.length = m * size) (hnews : ∀ j u, news[j]? = some u → w.cell? (ad.add j) = some u) (h1 : ∀ u ∈ news, u.oneCell' = true)
    (h63 : n + m ≤ maxLen) (hbytes : (n + m) * bytes ≤ 140737488355328)
    (hK : ∀ v' w', OwnO w' size v' (n + m) (xs ++ news) → w.grownBy w' v.ownBlock → (∀ k, v'.ownBlock = some k → v.ownBlock = some k ∨ (w.heap.size ≤ k ∧ k < w'.heap.size)) → wpList P ops Q rest (a.put o.dst v') w') : wpList P ops Q (o :: rest) a w :=
  wpList_plain hg fun _ hK' => wpO_appendO w s x t hop e i z size bytes ht hi hz hsize hby hzs hsz v n xs hs h ad m c news hx hl hnews h1 h63 hbytes fun v' w' r1 r2 r3 => hK' _ _ (hK v' w' r1 r2 r3)
theorem step_appendO {K : Act → World → Prop} {E : Prop} (hg : o.guard = none) (s x : Operand) (t : TypeId) (hop : o.op = Op.call { callee := Callee.builtin Builtin.append, args := #[s, x], argTypes := #[t, t] })
    (e : TypeId) (i : TypeInfo) (z : Value) (size bytes : Nat) (ht : P.underlying t = some (.slice e)) (hi : P.info? e = some i) (hz : i.zero = some z) (hsize : i.size = size) (hby : i.bytes = bytes) (hzs : z.cells.size = size) (hsz : 0 < size)
    (v : Value) (n : Nat) (xs : List Value) (hs : a.eval s = v) (h : OwnO w size v n xs) (ad : Addr) (m c : Nat) (news : List Value) (hx : a.eval x = .slice (some ad) m c) (hl : news.length = m * size) (hnews : ∀ j u, news[j]? = some u → w.cell? (ad.add j) = some u) (h1 : ∀ u ∈ news, u.oneCell' = true)
    (h63 : n + m ≤ maxLen) (hbytes : (n + m) * bytes ≤ 140737488355328)
    (hK : ∀ v' w', OwnO w' size v' (n + m) (xs ++ news) → w.grownBy w' v.ownBlock → (∀ k, v'.ownBlock = some k → v.ownBlock = some k ∨ (w.heap.size ≤ k ∧ k < w'.heap.size)) → K (a.put o.dst v') w') : if Region.wanted o (yielded ops a.tmps) = true then Oper.wp P o a w K Q else E := by
  rw [if_pos (by simp [Region.wanted, hg])]
  exact
  wpO_appendO w s x t hop e i z size bytes ht hi hz hsize hby hzs hsz v n xs hs h ad m c news hx hl hnews h1 h63 hbytes hK
end
end Go.Tr
