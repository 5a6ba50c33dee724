/-
  Parts of the proof, one behind the other: Foot, KComp, Region.
-/
import Derived.ArgAppend
import Derived.Deep.RegionHeld3
import Derived.Deep.AppendLies
import Derived.StillTailTactics
import Derived.Test.YtcdpnfchmpncjaaGreatDoorMa2
set_option linter.unusedSimpArgs false
set_option linter.unusedVariables false
namespace Go.Tr
open Go.RowKit
structure Only (F : Nat → Prop) (w w' : World) : Prop where
  os : w'.os = w.os
  tape : w'.tape = w.tape
  output : w'.output = w.output
  size : w.heap.size ≤ w'.heap.size
  block : ∀ k, k < w.heap.size → ¬ F k → w'.heap[k]? = w.heap[k]?
def grow (F : Nat → Prop) (w w' : World) : Nat → Prop := fun k => F k ∨ (w.heap.size ≤ k ∧ k < w'.heap.size)
theorem Only.refl (F : Nat → Prop) (w : World) : Only F w w := ⟨rfl, rfl, rfl, Nat.le_refl _, fun _ _ _ => rfl⟩
theorem Only.mono {F G : Nat → Prop} {w w' : World} (h : Only F w w') (hs : ∀ k, F k → G k) : Only G w w' := ⟨h.os, h.tape, h.output, h.size, fun k hk hn => h.block k hk (fun hf => hn (hs k hf))⟩
theorem Only.trans {F G : Nat → Prop} {a b c : World} (h : Only F a b) (k : Only G b c) (hG : ∀ j, G j → F j ∨ a.heap.size ≤ j) : Only F a c :=
  ⟨k.os.trans h.os, k.tape.trans h.tape, k.output.trans h.output, Nat.le_trans h.size k.size, fun j hj hn =>
    (k.block j (Nat.lt_of_lt_of_le hj h.size) (fun hg => (hG j hg).elim hn (fun h' => by omega))).trans (h.block j hj hn)⟩
theorem Only.grow {F : Nat → Prop} {a b c : World} (h : Only F a b) (k : Only (grow F a b) b c) : Only F a c := h.trans k (fun j hj => hj.imp id (fun h' => h'.1))
theorem Only.alloc {F : Nat → Prop} {a w : World} (h : Only F a w) (o : Obj) : Only F a (w.alloc o) :=
  ⟨h.os, h.tape, h.output, by have := h.size; simp; omega, fun k hk hn => (Below.heap_alloc w o k (Nat.lt_of_lt_of_le hk h.size)).trans (h.block k hk hn)⟩
theorem Only.drew {F : Nat → Prop} {a w : World} (h : Only F a w) : Only F a w.drew := ⟨h.os, h.tape, h.output, h.size, h.block⟩
theorem Only.drawn {F : Nat → Prop} {a w w' : World} (h : Only F a w) (hd : Drawn w w') : Only F a w' := by obtain ⟨n, rfl⟩ := hd; exact ⟨h.os, h.tape, h.output, h.size, h.block⟩
theorem Only.setCell {F : Nat → Prop} {a w : World} (h : Only F a w) {p : Addr} (hp : F p.block ∨ a.heap.size ≤ p.block) (u : Value) : Only F a (w.setCell p u) :=
  ⟨h.os, h.tape, h.output, by simpa [World.setCell] using h.size, fun k hk hn => (Below.heap_setCell w p u k (fun e => by subst e; rcases hp with h' | h'; exact hn h'; omega)).trans (h.block k hk hn)⟩
theorem Only.grown {F : Nat → Prop} {a w w' : World} {row : Option Nat} (h : Only F a w) (hg : w.grownBy w' row) (hr : ∀ k, row = some k → F k ∨ a.heap.size ≤ k) : Only F a w' :=
  ⟨hg.os.trans h.os, hg.tape.trans h.tape, hg.output.trans h.output, Nat.le_trans h.size hg.size, fun k hk hn =>
    (hg.block k (Nat.lt_of_lt_of_le hk h.size) (fun e => by rcases hr k e.symm with h' | h'; exact hn h'; omega)).trans (h.block k hk hn)⟩
theorem Only.below {F : Nat → Prop} {w w' : World} (h : Only F w w') {B : Nat} (hB : B ≤ w.heap.size) (hF : ∀ k, F k → B ≤ k) : Below B w w' :=
  ⟨h.os, h.tape, h.output, h.size, fun k hk => h.block k (by omega) (fun hf => by have := hF k hf; omega)⟩
theorem Only.of_below {w w' : World} (h : Below w.heap.size w w') (F : Nat → Prop) : Only F w w' := ⟨h.os, h.tape, h.output, h.size, fun k hk _ => h.block k hk⟩
theorem Only.grownBy {F : Nat → Prop} {w w' : World} (h : Only F w w') {g : Nat} (hF : ∀ k, F k → k < w.heap.size → k = g) : w.grownBy w' (some g) :=
  ⟨h.os, h.tape, h.output, h.size, fun k hk hn => h.block k hk (fun hf => hn (by rw [hF k hf hk]))⟩
theorem grow_mono {F G : Nat → Prop} (h : ∀ k, F k → G k) {w w' : World} : ∀ k, grow F w w' k → grow G w w' k := fun k hk => hk.imp (h k) id
theorem grow_trans {F : Nat → Prop} {a b c : World} (h1 : a.heap.size ≤ b.heap.size) (h2 : b.heap.size ≤ c.heap.size) : ∀ k, grow (grow F a b) b c k → grow F a c k := fun k hk => by
  rcases hk with (hk | hk) | hk
  · exact Or.inl hk
  · exact Or.inr ⟨hk.1, by omega⟩
  · exact Or.inr ⟨by omega, hk.2⟩
theorem SeqAt.only {F : Nat → Prop} {w w' : World} {a : Option Addr} {vs : List Value} (h : SeqAt w a vs) (ho : Only F w w') (hn : 0 < vs.length → ∀ b o, a = some ⟨b, o, none⟩ → ¬ F b) : SeqAt w' a vs := by
  intro h0
  obtain ⟨b, off, e, hc⟩ := h h0
  refine ⟨b, off, e, fun j hj => ?_⟩
  have := hc j hj
  rw [World.cell?_of_block (a := ⟨b, off + j, none⟩) (w := w) (ho.block b (World.block_lt_of_cell? w _ this) (hn h0 b off e))]
  exact this
def OwnO (w : World) (size : Nat) (v : Value) (n : Nat) (xs : List Value) : Prop :=
  (v = .slice none 0 0 ∧ n = 0 ∧ xs = []) ∨
  ∃ g off cap, v = .slice (some ⟨g, off, none⟩) n cap ∧ n ≤ cap ∧ cap ≤ maxLen ∧ xs.length = n * size ∧ g < w.heap.size ∧ (∀ j, j < cap * size → (w.cell? ⟨g, off + j, none⟩).isSome = true ∧ w.frozen? ⟨g, off + j, none⟩ = false) ∧
    ∀ j, j < n * size → w.cell? ⟨g, off + j, none⟩ = xs[j]?
theorem OwnO.nil (w : World) (size : Nat) : OwnO w size (.slice none 0 0) 0 [] := Or.inl ⟨rfl, rfl, rfl⟩
theorem OwnO.length {w : World} {size : Nat} {v : Value} {n : Nat} {xs : List Value} (h : OwnO w size v n xs) : xs.length = n * size := by
  rcases h with ⟨_, rfl, rfl⟩ | ⟨g, off, cap, _, _, _, h, _⟩
  · simp
  · exact h
theorem OwnO.lt {w : World} {size : Nat} {v : Value} {n : Nat} {xs : List Value} (h : OwnO w size v n xs) : ∀ k, v.ownBlock = some k → k < w.heap.size := by
  intro k hk
  rcases h with ⟨rfl, _⟩ | ⟨g, off, cap, rfl, _, _, _, h, _⟩
  · simp [Value.ownBlock] at hk
  · simp [Value.ownBlock] at hk; omega
theorem OwnO.kept {w w' : World} {size : Nat} {v : Value} {n : Nat} {xs : List Value} (h : OwnO w size v n xs) (hb : ∀ k, v.ownBlock = some k → w'.heap[k]? = w.heap[k]?) : OwnO w' size v n xs := by
  rcases h with h | ⟨g, off, cap, rfl, h1, h2, h3, h4, h5, h6⟩
  · exact Or.inl h
  · have e := hb g rfl
    refine Or.inr ⟨g, off, cap, rfl, h1, h2, h3, ?_, fun j hj => ?_, fun j hj => ?_⟩
    · have h7 : (w.heap[g]?).isSome = true := by simp [h4]
      rw [← e] at h7
      simpa using h7
    · rw [World.cell?_of_block (a := ⟨g, off + j, none⟩) (w := w) e, World.frozen?_of_block (a := ⟨g, off + j, none⟩) (w := w) e]; exact h5 j hj
    · rw [World.cell?_of_block (a := ⟨g, off + j, none⟩) (w := w) e]; exact h6 j hj
theorem OwnO.only {F : Nat → Prop} {w w' : World} {size : Nat} {v : Value} {n : Nat} {xs : List Value} (h : OwnO w size v n xs) (ho : Only F w w') (hn : ∀ k, v.ownBlock = some k → ¬ F k) : OwnO w' size v n xs :=
  h.kept (fun k hk => ho.block k (h.lt k hk) (hn k hk))
theorem OwnO.seq {w : World} {size : Nat} {v : Value} {n : Nat} {xs : List Value} (h : OwnO w size v n xs) : ∃ a cap, v = .slice a n cap ∧ SeqAt w a xs ∧ n ≤ cap ∧ cap ≤ maxLen := by
  have hx := h.length
  rcases h with ⟨rfl, rfl, rfl⟩ | ⟨g, off, cap, rfl, h1, h2, h3, h4, h5, h6⟩
  · exact ⟨none, 0, rfl, fun h0 => by simp at h0, Nat.le_refl _, Nat.zero_le _⟩
  · refine ⟨_, cap, rfl, fun _ => ⟨g, off, rfl, fun j hj => ?_⟩, h1, h2⟩
    rw [h6 j (by omega)]
    simp [List.getD, List.getElem?_eq_getElem hj]
theorem OwnO.of_row {w : World} {base : Nat} {e : TypeId} {size : Nat} {v : Value} {n : Nat} {xs : List Value} (h : w.ownsRow base e size v n xs) : OwnO w size v n xs := by
  have hx := h.1
  have hc := fun g => h.cells (g := g)
  rcases h.2 with ⟨rfl, rfl⟩ | ⟨g, cap, cur, rfl, hb, hg, hn, hcm, hcs, _⟩
  · exact Or.inl ⟨rfl, rfl, by simpa using hx⟩
  · refine Or.inr ⟨g, 0, cap, rfl, hn, hcm, hx, (Array.getElem?_eq_some_iff.1 hg).1, fun j hj => ?_, fun j hj => ?_⟩
    · rw [Nat.zero_add, cell_of_row w g j cur e (0, 0) hg]
      refine ⟨by simp; omega, ?_⟩
      simp [World.frozen?, hg]
    · have hjx : j < xs.length := by omega
      have h1 := hc g rfl j xs[j] (List.getElem?_eq_getElem hjx)
      have hadd : (⟨g, 0, none⟩ : Addr).add j = ⟨g, 0 + j, none⟩ := by unfold Addr.add; split <;> simp_all
      rw [hadd] at h1
      rw [h1, List.getElem?_eq_getElem hjx]
section
variable {P : Program} {w : World}
theorem heap_setCells_eq (g : Nat) : ∀ (vs : List Value) (o : Nat) (w : World) (i : Nat), i ≠ g → (w.setCells g o vs).heap[i]? = w.heap[i]?
  | [], _, _, _, _ => rfl
  | v :: r, o, w, i, h => by rw [World.setCells, heap_setCells_eq g r (o + 1) _ i h, Below.heap_setCell _ _ _ _ h]
theorem size_setCells (g : Nat) : ∀ (vs : List Value) (o : Nat) (w : World), (w.setCells g o vs).heap.size = w.heap.size
  | [], _, _ => rfl
  | v :: r, o, w => by rw [World.setCells, size_setCells g r]; simp [World.setCell]
theorem grown_setCells (g o : Nat) (vs : List Value) (w : World) : w.grownBy (w.setCells g o vs) (some g) := by
  refine ⟨?_, ?_, ?_, by rw [size_setCells]; exact Nat.le_refl _, fun k _ hn => heap_setCells_eq g vs o w k (fun e => hn (by rw [e]))⟩
  · induction vs generalizing o w with
    | nil => rfl
    | cons v r ih => rw [World.setCells, ih]; rfl
  · induction vs generalizing o w with
    | nil => rfl
    | cons v r ih => rw [World.setCells, ih]; rfl
  · induction vs generalizing o w with
    | nil => rfl
    | cons v r ih => rw [World.setCells, ih]; rfl
theorem isSome_setCells' (b : Nat) (vs : List Value) (o : Nat) (w : World) (k : Nat) (hk : (w.cell? ⟨b, k, none⟩).isSome = true) (h : ∀ j, j < vs.length → (w.cell? ⟨b, o + j, none⟩).isSome = true) : ((w.setCells b o vs).cell? ⟨b, k, none⟩).isSome = true := by
  by_cases hin : o ≤ k ∧ k < o + vs.length
  · have := World.cell?_setCells_in b vs o w h (k - o) (by omega)
    rw [show o + (k - o) = k by omega] at this
    rw [this]; rfl
  · rw [World.cell?_setCells_out b vs o w _ (fun _ _ => by simp; omega)]; exact hk
theorem OwnO.append {size bytes : Nat} {v : Value} {n : Nat} {xs : List Value} (h : OwnO w size v n xs) {t ty e : TypeId} {i : TypeInfo} {z : Value} (ht : P.underlying t = some (.slice e)) (hi : P.info? e = some i) (hz : i.zero = some z) (hsize : i.size = size) (hby : i.bytes = bytes)
    (hzs : z.cells.size = size) (hsz : 0 < size) (a : Addr) (m c : Nat) (news : List Value) (hl : news.length = m * size) (hnews : ∀ j u, news[j]? = some u → w.cell? (a.add j) = some u) (h1 : ∀ u ∈ news, u.oneCell' = true) (h63 : n + m ≤ maxLen) (hbytes : (n + m) * bytes ≤ 140737488355328) :
    ∃ v' w', (Builtin.append_ #[t, t] ty #[v, .slice (some a) m c]).run P w = .ok v' w' ∧ OwnO w' size v' (n + m) (xs ++ news) ∧ w.grownBy w' v.ownBlock ∧ ∀ k, v'.ownBlock = some k → v.ownBlock = some k ∨ (w.heap.size ≤ k ∧ k < w'.heap.size) := by
  have hx := h.length
  have fresh : ∀ v' w', w'.ownsRow w.heap.size e size v' (n + m) (xs ++ news) → w.grownBy w' none → OwnO w' size v' (n + m) (xs ++ news) ∧ w.grownBy w' v.ownBlock ∧ ∀ k, v'.ownBlock = some k → v.ownBlock = some k ∨ (w.heap.size ≤ k ∧ k < w'.heap.size) := fun v' w' r1 r2 =>
    ⟨OwnO.of_row r1, ⟨r2.os, r2.tape, r2.output, r2.size, fun k hk _ => r2.block k hk (by simp)⟩, fun k hk => Or.inr (r1.lt k hk)⟩
  rcases h with ⟨rfl, rfl, rfl⟩ | ⟨g, off, cap, rfl, g1, g2, g3, g4, g5, g6⟩
  · obtain ⟨v', w', hrun, r1, r2, _⟩ := run_append_own (P := P) w w.heap.size t ty e i z size bytes ht hi hz hsize hby hzs hsz (.slice none 0 0) 0 [] (World.ownsRow_nil w _ e size) a m c news hl hnews h1 h63 hbytes (Nat.le_refl _)
    exact ⟨v', w', hrun, fresh v' w' r1 r2⟩
  · by_cases hr : n + m ≤ cap
    · subst hsize
      have hcap : n * i.size + news.length ≤ cap * i.size := by rw [hl, ← Nat.add_mul]; exact Nat.mul_le_mul_right _ hr
      have hspare : ∀ j, j < news.length → (w.cell? ⟨g, off + n * i.size + j, none⟩).isSome = true ∧ w.frozen? ⟨g, off + n * i.size + j, none⟩ = false := fun j hj => by
        rw [Nat.add_assoc]; exact g5 (n * i.size + j) (by omega)
      have hrun := run_append_room_cells (P := P) w t ty e i ht hi g off n cap a m c news hl hnews h1 hr (fun j hj => (hspare j hj).1) (fun j hj => (hspare j hj).2)
      refine ⟨_, _, hrun, Or.inr ⟨g, off, cap, rfl, hr, g2, by rw [List.length_append, hx, hl, Nat.add_mul], by rw [size_setCells]; exact g4, fun j hj => ⟨?_, ?_⟩, fun j hj => ?_⟩, grown_setCells _ _ _ _, fun k hk => Or.inl hk⟩
      · exact isSome_setCells' g news (off + n * i.size) w (off + j) (g5 j hj).1 (fun q hq => (hspare q hq).1)
      · rw [World.frozen?_setCells]; exact (g5 j hj).2
      · by_cases hjn : j < n * i.size
        · rw [World.cell?_setCells_out g news _ w _ (fun _ _ => by simp; omega), g6 j hjn, List.getElem?_append_left (by omega)]
        · have hj2 : j - n * i.size < news.length := by rw [hl]; rw [Nat.add_mul] at hj; omega
          have := World.cell?_setCells_in g news (off + n * i.size) w (fun q hq => (hspare q hq).1) (j - n * i.size) hj2
          rw [show off + n * i.size + (j - n * i.size) = off + j by omega] at this
          rw [this, List.getElem?_append_right (by omega), hx, List.getElem?_eq_getElem hj2]
    · obtain ⟨v', w', hrun, r1, r2⟩ := run_append_arg_grows (P := P) w t ty e i z size bytes ht hi hz hsize hby hzs hsz ⟨g, off, none⟩ n cap xs hx (fun j u hj => by
        have hjx := (List.getElem?_eq_some_iff.1 hj).1
        rw [Addr.add_lit, g6 j (by omega)]; exact hj) a m c news hl hnews (by omega) h63 hbytes
      exact ⟨v', w', hrun, fresh v' w' r1 r2⟩
theorem OwnO.cells {size : Nat} {g off cap : Nat} {n : Nat} {xs : List Value} (h : OwnO w size (.slice (some ⟨g, off, none⟩) n cap) n xs) : ∀ j, j < n * size → w.cell? ⟨g, off + j, none⟩ = xs[j]? := by
  rcases h with ⟨h0, _⟩ | ⟨g', off', cap', e, g1, g2, g3, g4, g5, g6⟩
  · cases h0
  · cases e; exact g6
theorem OwnO.tail {size : Nat} {v : Value} {n : Nat} {xs : List Value} (h : OwnO w size v (n + 1) xs) (hsz : 0 < size) : ∃ g off cap, v = .slice (some ⟨g, off, none⟩) (n + 1) cap ∧ n + 1 ≤ cap ∧ cap ≤ maxLen ∧
    OwnO w size (.slice (if cap = 1 then some ⟨g, off, none⟩ else some ⟨g, off + size, none⟩) n (cap - 1)) n (xs.drop size) := by
  have hx := h.length
  rcases h with ⟨_, h0, _⟩ | ⟨g, off, cap, rfl, g1, g2, g3, g4, g5, g6⟩
  · omega
  · refine ⟨g, off, cap, rfl, g1, g2, ?_⟩
    have hm1 : (n + 1) * size = n * size + size := by rw [Nat.add_mul, Nat.one_mul]
    by_cases hc : cap = 1
    · subst hc
      have hn : n = 0 := by omega
      subst hn
      rw [if_pos rfl]
      refine Or.inr ⟨g, off, 0, rfl, Nat.le_refl _, Nat.zero_le _, by simp; omega, g4, fun j hj => by simp at hj, fun j hj => by simp at hj⟩
    · rw [if_neg hc]
      have hc1 : cap * size = (cap - 1) * size + size := by
        have : cap = (cap - 1) + 1 := by omega
        rw [this, Nat.add_mul, Nat.one_mul]; simp
      refine Or.inr ⟨g, off + size, cap - 1, rfl, by omega, by omega, by simp [hx, hm1], g4, fun j hj => ?_, fun j hj => ?_⟩
      · rw [Nat.add_assoc]; exact g5 (size + j) (by omega)
      · rw [Nat.add_assoc, g6 (size + j) (by omega), List.getElem?_drop]
end
section
variable {P : Program} (w : World) {ops : Array Oper} {rest : List Oper} {o : Oper} {a : Act} {Q : Exit → Act → World → Prop}
theorem wpO_appendO {K : Act → World → Prop} (s x : Operand) (t : TypeId) (hop : o.op = Op.call { callee := Callee.builtin Builtin.append, args := #[s, x], argTypes := #[t, t] })
    (e : TypeId) (i : TypeInfo) (z : Value) (size bytes : Nat) (ht : P.underlying t = some (.slice e)) (hi : P.info? e = some i) (hz : i.zero = some z) (hsize : i.size = size) (hby : i.bytes = bytes) (hzs : z.cells.size = size) (hsz : 0 < size)
    (v : Value) (n : Nat) (xs : List Value) (hs : a.eval s = v) (h : OwnO w size v n xs) (ad : Addr) (m c : Nat) (news : List Value) (hx : a.eval x = .slice (some ad) m c) (hl : news.length = m * size) (hnews : ∀ j u, news[j]? = some u → w.cell? (ad.add j) = some u) (h1 : ∀ u ∈ news, u.oneCell' = true)
    (h63 : n + m ≤ maxLen) (hbytes : (n + m) * bytes ≤ 140737488355328)
    (hK : ∀ v' w', OwnO w' size v' (n + m) (xs ++ news) → w.grownBy w' v.ownBlock → (∀ k, v'.ownBlock = some k → v.ownBlock = some k ∨ (w.heap.size ≤ k ∧ k < w'.heap.size)) → K (a.put o.dst v') w') : Oper.wp P o a w K Q := by
  obtain ⟨v', w', hrun, r1, r2, r3⟩ := h.append (P := P) (ty := o.type) ht hi hz hsize hby hzs hsz ad m c news hl hnews h1 h63 hbytes
  unfold Oper.wp
  simp [execOp, hop, resolve, invoke, builtin, hs, hx, hrun, Result.andThen]
  exact hK v' w' r1 r2 r3
theorem wpList_appendO (hg : o.guard = none) (s x : Operand) (t : TypeId) (hop : o.op = Op.call { callee := Callee.builtin Builtin.append, args := #[s, x], argTypes := #[t, t] })
    (e : TypeId) (i : TypeInfo) (z : Value) (size bytes : Nat) (ht : P.underlying t = some (.slice e)) (hi : P.info? e = some i) (hz : i.zero = some z) (hsize : i.size = size) (hby : i.bytes = bytes) (hzs : z.cells.size = size) (hsz : 0 < size)
    (v : Value) (n : Nat) (xs : List Value) (hs : a.eval s = v) (h : OwnO w size v n xs) (ad : Addr) (m c : Nat) (news : List Value) (hx : a.eval x = .slice (some ad) m c) (hl : news.length = m * size) (hnews : ∀ j u, news[j]? = some u → w.cell? (ad.add j) = some u) (h1 : ∀ u ∈ news, u.oneCell' = true)
    (h63 : n + m ≤ maxLen) (hbytes : (n + m) * bytes ≤ 140737488355328)
    (hK : ∀ v' w', OwnO w' size v' (n + m) (xs ++ news) → w.grownBy w' v.ownBlock → (∀ k, v'.ownBlock = some k → v.ownBlock = some k ∨ (w.heap.size ≤ k ∧ k < w'.heap.size)) → wpList P ops Q rest (a.put o.dst v') w') : wpList P ops Q (o :: rest) a w :=
  wpList_plain hg fun _ hK' => wpO_appendO w s x t hop e i z size bytes ht hi hz hsize hby hzs hsz v n xs hs h ad m c news hx hl hnews h1 h63 hbytes fun v' w' r1 r2 r3 => hK' _ _ (hK v' w' r1 r2 r3)
theorem step_appendO {K : Act → World → Prop} {E : Prop} (hg : o.guard = none) (s x : Operand) (t : TypeId) (hop : o.op = Op.call { callee := Callee.builtin Builtin.append, args := #[s, x], argTypes := #[t, t] })
    (e : TypeId) (i : TypeInfo) (z : Value) (size bytes : Nat) (ht : P.underlying t = some (.slice e)) (hi : P.info? e = some i) (hz : i.zero = some z) (hsize : i.size = size) (hby : i.bytes = bytes) (hzs : z.cells.size = size) (hsz : 0 < size)
    (v : Value) (n : Nat) (xs : List Value) (hs : a.eval s = v) (h : OwnO w size v n xs) (ad : Addr) (m c : Nat) (news : List Value) (hx : a.eval x = .slice (some ad) m c) (hl : news.length = m * size) (hnews : ∀ j u, news[j]? = some u → w.cell? (ad.add j) = some u) (h1 : ∀ u ∈ news, u.oneCell' = true)
    (h63 : n + m ≤ maxLen) (hbytes : (n + m) * bytes ≤ 140737488355328)
    (hK : ∀ v' w', OwnO w' size v' (n + m) (xs ++ news) → w.grownBy w' v.ownBlock → (∀ k, v'.ownBlock = some k → v.ownBlock = some k ∨ (w.heap.size ≤ k ∧ k < w'.heap.size)) → K (a.put o.dst v') w') : if Region.wanted o (yielded ops a.tmps) = true then Oper.wp P o a w K Q else E := by
  rw [if_pos (by simp [Region.wanted, hg])]
  exact
  wpO_appendO w s x t hop e i z size bytes ht hi hz hsize hby hzs hsz v n xs hs h ad m c news hx hl hnews h1 h63 hbytes hK
end
end Go.Tr
namespace Go.Tr
open Go.RowKit
abbrev Part := World → (Nat → Prop) → Prop
def Fr (F : Nat → Prop) (tau : Nat → Nat) (j : Nat) : Nat → Prop := fun k => F k ∧ tau k = j
def Comp (X : Nat → Part) (w : World) (F : Nat → Prop) : Prop := (∀ k, F k → k < w.heap.size) ∧ ∃ tau, ∀ j, X j w (Fr F tau j)
structure Parts (X : Nat → Part) : Prop where
  kept : ∀ j (w w' : World) F, X j w F → (∀ k, F k → k < w.heap.size → w'.heap[k]? = w.heap[k]?) → X j w' F
  mono : ∀ j (w : World) F G, X j w F → (∀ k, F k → G k) → X j w G
variable {X : Nat → Part} {w w' : World} {F : Nat → Prop}
theorem Comp.below (hp : Parts X) (h : Comp X w F) (hb : Below w.heap.size w w') : Comp X w' F :=
  ⟨fun k hk => Nat.lt_of_lt_of_le (h.1 k hk) hb.size, h.2.imp fun _ ht j => hp.kept j w w' _ (ht j) (fun k _ hl => hb.block k hl)⟩
theorem grow_lt {w w' : World} (h : ∀ k, F k → k < w.heap.size) (hs : w.heap.size ≤ w'.heap.size) : ∀ k, grow F w w' k → k < w'.heap.size := fun k hk => by
  rcases hk with hk | hk
  · have := h k hk; omega
  · exact hk.2
theorem Comp.other {tau : Nat → Nat} {U : Nat → Prop} (hp : Parts X) (hF : ∀ k, F k → k < w.heap.size) (i j : Nat) (h : X j w (Fr F tau j)) (ho : Only U w w') (hU : ∀ k, U k → F k ∧ tau k ≠ j) :
    X j w' (Fr (grow F w w') (fun k => if k < w.heap.size then tau k else i) j) := by
  refine hp.mono j w' _ _ (hp.kept j w w' _ h (fun k hk hl => ho.block k hl (fun hu => (hU k hu).2 hk.2))) (fun k hk => ⟨Or.inl hk.1, ?_⟩)
  show (if k < w.heap.size then tau k else i) = j
  rw [if_pos (hF k hk.1)]; exact hk.2
theorem Comp.self {tau : Nat → Nat} {X' : Nat → Part} (hp : Parts X') (hF : ∀ k, F k → k < w.heap.size) (i : Nat) (h : X' i w' (grow (Fr F tau i) w w')) :
    X' i w' (Fr (grow F w w') (fun k => if k < w.heap.size then tau k else i) i) := by
  refine hp.mono i w' _ _ h (fun k hk => ?_)
  rcases hk with hk | hk
  · refine ⟨Or.inl hk.1, ?_⟩
    show (if k < w.heap.size then tau k else i) = i
    rw [if_pos (hF k hk.1)]; exact hk.2
  · refine ⟨Or.inr hk, ?_⟩
    show (if k < w.heap.size then tau k else i) = i
    rw [if_neg (by omega)]
theorem Comp.part1 (hp : Parts X) (h : Comp X w F) (i : Nat) : ∃ G : Nat → Prop, (∀ k, G k → F k) ∧ X i w G ∧ (∀ j, j ≠ i → ∃ H : Nat → Prop, (∀ k, H k → F k ∧ ¬ G k) ∧ X j w H) ∧
    ∀ (X' : Nat → Part) (w' : World), Parts X' → (∀ j, j ≠ i → X' j = X j) → X' i w' (grow G w w') → Only G w w' → Comp X' w' (grow F w w') ∧ Only F w w' := by
  obtain ⟨hF, tau, ht⟩ := h
  refine ⟨Fr F tau i, fun k hk => hk.1, ht i, fun j hj => ⟨Fr F tau j, fun k hk => ⟨hk.1, fun e => hj (by rw [← hk.2, e.2])⟩, ht j⟩, fun X' w' hp' he hi ho => ⟨⟨grow_lt hF ho.size, fun k => if k < w.heap.size then tau k else i, fun j => ?_⟩, ho.mono (fun k hk => hk.1)⟩⟩
  by_cases hj : j = i
  · subst hj; exact Comp.self hp' hF j hi
  · rw [he j hj]
    exact Comp.other hp hF i j (ht j) ho (fun k hk => ⟨hk.1, fun e => hj (by rw [← e, hk.2])⟩)
theorem Comp.part2 (hp : Parts X) (h : Comp X w F) (i l : Nat) (hil : i ≠ l) : ∃ G H : Nat → Prop, (∀ k, G k → F k) ∧ (∀ k, H k → F k) ∧ (∀ k, G k → ¬ H k) ∧ X i w G ∧ X l w H ∧
    ∀ (X' : Nat → Part) (w' : World), Parts X' → (∀ j, j ≠ i → j ≠ l → X' j = X j) → X' i w' (grow G w w') → X' l w' H → Only (fun k => G k ∨ H k) w w' → Comp X' w' (grow F w w') ∧ Only F w w' := by
  obtain ⟨hF, tau, ht⟩ := h
  refine ⟨Fr F tau i, Fr F tau l, fun k hk => hk.1, fun k hk => hk.1, fun k hk hl => hil (by rw [← hk.2, hl.2]), ht i, ht l, fun X' w' hp' he hi hl ho => ⟨⟨grow_lt hF ho.size, fun k => if k < w.heap.size then tau k else i, fun j => ?_⟩, ho.mono (fun k hk => hk.elim (·.1) (·.1))⟩⟩
  by_cases hj : j = i
  · subst hj; exact Comp.self hp' hF j hi
  · by_cases hjl : j = l
    · subst hjl
      refine hp'.mono j w' _ _ hl (fun k hk => ⟨Or.inl hk.1, ?_⟩)
      show (if k < w.heap.size then tau k else i) = j
      rw [if_pos (hF k hk.1)]; exact hk.2
    · rw [he j hj hjl]
      refine Comp.other hp hF i j (ht j) ho (fun k hk => ?_)
      rcases hk with hk | hk
      · exact ⟨hk.1, fun e => hj (by rw [← e, hk.2])⟩
      · exact ⟨hk.1, fun e => hjl (by rw [← e, hk.2])⟩
theorem Comp.part3 (hp : Parts X) (h : Comp X w F) (i l m : Nat) (hil : i ≠ l) (him : i ≠ m) (hlm : l ≠ m) : ∃ G H K : Nat → Prop, (∀ k, G k → F k) ∧ (∀ k, H k → F k) ∧ (∀ k, K k → F k) ∧ (∀ k, G k → ¬ H k) ∧ (∀ k, K k → ¬ G k ∧ ¬ H k) ∧ X i w G ∧ X l w H ∧ X m w K ∧
    ∀ (X' : Nat → Part) (w' : World), Parts X' → (∀ j, j ≠ i → j ≠ l → j ≠ m → X' j = X j) → X' i w' (grow G w w') → X' l w' H → X' m w' K → Only (fun k => G k ∨ H k ∨ K k) w w' → Comp X' w' (grow F w w') ∧ Only F w w' := by
  obtain ⟨hF, tau, ht⟩ := h
  refine ⟨Fr F tau i, Fr F tau l, Fr F tau m, fun k hk => hk.1, fun k hk => hk.1, fun k hk => hk.1, fun k hk hl => hil (by rw [← hk.2, hl.2]), fun k hk => ⟨fun hl => him (by rw [← hl.2, hk.2]), fun hl => hlm (by rw [← hl.2, hk.2])⟩, ht i, ht l, ht m, fun X' w' hp' he hi hl hm ho => ⟨⟨grow_lt hF ho.size, fun k => if k < w.heap.size then tau k else i, fun j => ?_⟩, ho.mono (fun k hk => hk.elim (·.1) (fun hk => hk.elim (·.1) (·.1)))⟩⟩
  have put : ∀ j, X' j w' (Fr F tau j) → X' j w' (Fr (grow F w w') (fun k => if k < w.heap.size then tau k else i) j) := fun j hl => hp'.mono j w' _ _ hl (fun k hk => ⟨Or.inl hk.1, by
    show (if k < w.heap.size then tau k else i) = j
    rw [if_pos (hF k hk.1)]; exact hk.2⟩)
  by_cases hj : j = i
  · subst hj; exact Comp.self hp' hF j hi
  · by_cases hjl : j = l
    · subst hjl; exact put j hl
    · by_cases hjm : j = m
      · subst hjm; exact put j hm
      · rw [he j hj hjl hjm]
        refine Comp.other hp hF i j (ht j) ho (fun k hk => ?_)
        rcases hk with hk | hk | hk
        · exact ⟨hk.1, fun e => hj (by rw [← e, hk.2])⟩
        · exact ⟨hk.1, fun e => hjl (by rw [← e, hk.2])⟩
        · exact ⟨hk.1, fun e => hjm (by rw [← e, hk.2])⟩
theorem Comp.read (h : Comp X w F) (i : Nat) : ∃ G : Nat → Prop, (∀ k, G k → F k) ∧ X i w G := by
  obtain ⟨hF, tau, ht⟩ := h
  exact ⟨_, fun k hk => hk.1, ht i⟩
end Go.Tr
namespace Go.Tr
variable {P : Program} {ops : Array Oper} {Q : Exit → Act → World → Prop} {md : Region.Mode} {S : World → Prop}
theorem at_drop {l : List Oper} {i : Nat} {o : Oper} (h : (l.drop i).head? = some o) : l[i]? = some o := by
  rw [← h, List.head?_drop]
theorem readyH {fuel : Nat} {listed : Array Bool} {a : Act} {w : World} {i : Nat} {o : Oper} {rs : List Nat} (ho : (ops.toList.drop i).head? = some o)
    (h : ∀ K' : Act → World → Prop, Shut (∀ a w, S w → (S w → wpAnyH P md ops Q S fuel (listed.setIfInBounds i true) a w) → K' a w) → if Region.wanted o (yielded ops a.tmps) = true then Oper.wp P o a w K' Q else K' (a.put o.dst undef) w)
    (hs : AllReadyH P md ops Q S fuel listed a w rs) : AllReadyH P md ops Q S fuel listed a w (i :: rs) :=
  AllReadyH.cons (by have := at_drop ho; simpa using this) h hs
theorem takeH (i : Nat) {oi : Oper} {v : Value} {fuel : Nat} {listed : Array Bool} {a : Act} {w : World} (ho : (ops.toList.drop i).head? = some oi)
    (hs : Region.noSelect ops = true) (hf : Region.free md ops listed i = true) (hr : (Region.ready md ops listed).contains i = true)
    (hQ : ∀ c a w, Q (.panic c) (a.put oi.dst v) w → Q (.panic c) a w) (hw : Region.wanted oi (yielded ops a.tmps) = true) (hy : ∀ w, S w → (execOp a.eval oi).run P w = .ok (.value v) w) (hS : S w)
    (h : wpAnyH P md ops Q S fuel (listed.setIfInBounds i true) (a.put oi.dst v) w) : wpAnyH P md ops Q S (fuel + 1) listed a w :=
  wpAnyH_take (by have := at_drop ho; simpa using this) hs hf hr hQ (Or.inl ⟨hw, hy⟩) hS h
def nop (o : Oper) : Oper := { o with dst := none, op := .move (.const undef), guard := none }
def lastOps (ops : Array Oper) (l : Nat) : Array Oper := ops.modify l nop
def LastQ (P : Program) (ops : Array Oper) (Q : Exit → Act → World → Prop) (l : Nat) : Exit → Act → World → Prop
  | .normal, a, w => wpOp P ops Q l (fun a' w' => Q .normal a' w') a w
  | e, a, w => Q e a w
def under (md : Region.Mode) (ops : Array Oper) (j : Nat) : Nat → Nat → Bool
  | 0, _ => false
  | n + 1, i => match ops[i]? with | some o => o.after.any (fun e => Region.binds md e && (e.on == j || under md ops j n e.on)) | none => false
def Closed (md : Region.Mode) (ops : Array Oper) (listed : Array Bool) : Prop := ∀ (i : Nat) (o : Oper), ops[i]? = some o → listed.getD i false = true → ∀ e ∈ o.after, Region.binds md e = true → listed.getD e.on false = true
theorem under_spec {listed : Array Bool} (hc : Closed md ops listed) {j : Nat} : ∀ (n i : Nat) (o : Oper), ops[i]? = some o → (∀ e ∈ o.after, Region.binds md e = true → listed.getD e.on false = true) → under md ops j n i = true → listed.getD j false = true
  | 0, _, _, _, _, h => by cases h
  | n + 1, i, o, ho, hall, h => by
    unfold under at h
    rw [ho] at h
    obtain ⟨e, he, hb⟩ := Array.any_eq_true'.1 h
    simp only [Bool.and_eq_true, Bool.or_eq_true, beq_iff_eq] at hb
    obtain ⟨hb, hj | hj⟩ := hb
    · rw [← hj]; exact hall e he hb
    · have hl := hall e he hb
      cases ho' : ops[e.on]? with
      | none => cases n <;> simp [under, ho'] at hj
      | some o' => exact under_spec hc n e.on o' ho' (hc e.on o' ho' hl) hj
theorem Closed.set {listed : Array Bool} (hc : Closed md ops listed) {i : Nat} {o : Oper} (ho : ops[i]? = some o) (hall : ∀ e ∈ o.after, Region.binds md e = true → listed.getD e.on false = true) : Closed md ops (listed.setIfInBounds i true) := by
  have hmono : ∀ k, listed.getD k false = true → (listed.setIfInBounds i true).getD k false = true := fun k hk => by
    by_cases hik : i = k
    · subst hik
      have : i < listed.size := by
        rcases Nat.lt_or_ge i listed.size with h | h
        · exact h
        · simp [Array.getD, Nat.not_lt.2 h] at hk
      simp [this]
    · simp [Array.getElem?_setIfInBounds, hik] at hk ⊢; exact hk
  intro k o' ho' hk e he hb
  refine hmono _ ?_
  by_cases hik : i = k
  · subst hik; rw [ho] at ho'; cases ho'; exact hall e he hb
  · refine hc k o' ho' ?_ e he hb
    simp [Array.getElem?_setIfInBounds, hik] at hk ⊢; exact hk
def lastB (md : Region.Mode) (ops : Array Oper) (l : Nat) : Bool :=
  decide (l < ops.size) && (List.range ops.size).all (fun j => j == l || under md ops j 3 l) &&
  (List.range ops.size).all (fun i => match ops[i]? with | some o => o.after.all (fun e => !Region.binds md e || decide (e.on < i)) && (match o.guard with | some (j, _) => !(j == l) | none => true) | none => false)
theorem lastOps_ne {l i : Nat} (h : i ≠ l) : (lastOps ops l)[i]? = ops[i]? := by unfold lastOps; rw [Array.getElem?_modify, if_neg (Ne.symm h)]
theorem lastOps_eq {l : Nat} : (lastOps ops l)[l]? = ops[l]?.map nop := by unfold lastOps; rw [Array.getElem?_modify, if_pos rfl]
theorem lastOps_after (l i : Nat) : (lastOps ops l)[i]?.map (·.after) = ops[i]?.map (·.after) := by
  by_cases h : i = l
  · subst h; rw [lastOps_eq]; cases ops[i]? <;> rfl
  · rw [lastOps_ne h]
theorem lastOps_ready (md : Region.Mode) (l : Nat) (listed : Array Bool) : Region.ready md (lastOps ops l) listed = Region.ready md ops listed := by
  unfold Region.ready
  have hs : (lastOps ops l).size = ops.size := by simp [lastOps]
  rw [hs]
  apply List.filter_congr
  intro i _
  have := lastOps_after (ops := ops) l i
  cases h1 : (lastOps ops l)[i]? <;> cases h2 : ops[i]? <;> simp [h1, h2] at this ⊢
  rw [this]
theorem letsOut_last {l : Nat} (h : LetsOut (LastQ P ops Q l)) : LetsOut Q := h
theorem wp_last {l : Nat} {o : Oper} {a : Act} {w : World} {K K' : Act → World → Prop} (h : ∀ a w, K a w → K' a w) (hh : o.wp P a w K (LastQ P ops Q l)) : o.wp P a w K' Q := by
  unfold Oper.wp at *
  generalize (execOp a.eval o).run P w = r at *
  cases r with
  | ok n w' =>
    cases n <;> simp only [Oper.upon] at hh ⊢ <;>
      first
        | exact h _ _ hh
        | exact Calls.mono hh (fun e w'' he => by cases e <;> first | exact h _ _ he | exact he)
        | exact Rows.mono hh (fun _ _ he => h _ _ he)
  | halt x w' => cases x <;> simp only [Oper.upon] at hh ⊢ <;> exact hh
theorem wanted_last {l : Nat} {o : Oper} (hg : match o.guard with | some (j, _) => (!(j == l)) = true | none => True) (tmps : Array Value) : Region.wanted o (yielded (lastOps ops l) tmps) = Region.wanted o (yielded ops tmps) := by
  unfold Region.wanted
  cases h : o.guard with
  | none => rfl
  | some p =>
    obtain ⟨j, b⟩ := p
    rw [h] at hg
    simp only [yielded]
    rw [lastOps_ne (by simpa using hg)]
theorem exists_ready {l : Nat} {listed : Array Bool} (hl : l < ops.size) (hb : ∀ (i : Nat) (o : Oper), ops[i]? = some o → ∀ e ∈ o.after, Region.binds md e = true → e.on < i) (hs : listed.size = ops.size) (hun : listed.getD l true = false) : Region.ready md ops listed ≠ [] := by
  induction l using Nat.strongRecOn with
  | _ l ih =>
    obtain ⟨o, ho⟩ : ∃ o, ops[l]? = some o := ⟨ops[l], by simp [hl]⟩
    by_cases hr : ∀ e ∈ o.after, Region.binds md e = true → listed.getD e.on false = true
    · intro h0
      have : l ∈ Region.ready md ops listed := mem_ready.2 ⟨hun, o, ho, hr⟩
      rw [h0] at this; cases this
    · simp only [Classical.not_forall] at hr
      obtain ⟨e, he, hbe, hn⟩ := hr
      have hlt := hb l o ho e he hbe
      refine ih e.on hlt (by omega) ?_
      have : e.on < listed.size := by omega
      simp [this] at hn ⊢
      exact hn
theorem lastB_spec {l : Nat} (h : lastB md ops l = true) : l < ops.size ∧ (∀ j, j < ops.size → j ≠ l → under md ops j 3 l = true) ∧
    (∀ (i : Nat) (o : Oper), ops[i]? = some o → ∀ e ∈ o.after, Region.binds md e = true → e.on < i) ∧ ∀ (i : Nat) (o : Oper), ops[i]? = some o → (match o.guard with | some (j, _) => (!(j == l)) = true | none => True) := by
  unfold lastB at h
  simp only [Bool.and_eq_true, decide_eq_true_eq, List.all_eq_true, List.mem_range] at h
  obtain ⟨⟨h1, h2⟩, h3⟩ := h
  refine ⟨h1, fun j hj hne => ?_, fun i o ho e he hb => ?_, fun i o ho => ?_⟩
  · have := h2 j hj
    simp only [Bool.or_eq_true, beq_iff_eq] at this
    exact this.resolve_left hne
  · have := h3 i (Array.getElem?_eq_some_iff.1 ho).1
    rw [ho] at this
    simp only [Bool.and_eq_true] at this
    have h4 := Array.all_eq_true_iff_forall_mem.1 this.1 e he
    simpa [hb] using h4
  · have := h3 i (Array.getElem?_eq_some_iff.1 ho).1
    rw [ho] at this
    simp only [Bool.and_eq_true] at this
    have h4 := this.2
    cases hg : o.guard with
    | none => trivial
    | some p => obtain ⟨j, b⟩ := p; rw [hg] at h4; exact h4
theorem wpAny_last {l : Nat} (hB : lastB md ops l = true) : ∀ (fuel : Nat) (listed : Array Bool) (a : Act) (w : World), listed.size = ops.size → listed.getD l true = false → Closed md ops listed →
    wpAny P md (lastOps ops l) (LastQ P ops Q l) fuel listed a w → wpAny P md ops Q fuel listed a w := by
  obtain ⟨hl, hw, hb, hg⟩ := lastB_spec hB
  intro fuel
  induction fuel with
  | zero =>
    intro listed a w hs hun hc H
    rw [wpAny, lastOps_ready] at H
    exact absurd H.1 (exists_ready hl hb hs hun)
  | succ fuel ih =>
    intro listed a w hs hun hc H
    rw [wpAny, lastOps_ready] at H
    refine ⟨fun h0 => absurd h0 (exists_ready hl hb hs hun), fun i hi => ?_⟩
    have h1 := H.2 i hi
    by_cases hil : i = l
    · subst hil
      obtain ⟨_, o, ho, hall⟩ := mem_ready.1 hi
      have hempty : Region.ready md ops (listed.setIfInBounds i true) = [] := by
        cases hr : Region.ready md ops (listed.setIfInBounds i true) with
        | nil => rfl
        | cons j r =>
          exfalso
          have hj : j ∈ Region.ready md ops (listed.setIfInBounds i true) := by rw [hr]; simp
          obtain ⟨hjun, oj, hoj, _⟩ := mem_ready.1 hj
          have hjs := (Array.getElem?_eq_some_iff.1 hoj).1
          by_cases hji : j = i
          · subst hji
            rw [show (listed.setIfInBounds j true).getD j true = true by simp [hs, hjs]] at hjun
            cases hjun
          · rw [getD_set_ne true (Ne.symm hji)] at hjun
            have := under_spec hc 3 i o ho hall (hw j hjs hji)
            simp [hs, hjs] at this hjun
            rw [this] at hjun; cases hjun
      have hq : LastQ P ops Q i .normal a w := by
        unfold wpOp at h1
        rw [lastOps_eq, ho] at h1
        simp only [Option.map_some] at h1
        rw [if_pos (by rfl)] at h1
        rcases h1 with h1 | ⟨h1, _⟩
        · have h2 : wpAny P md (lastOps ops i) (LastQ P ops Q i) fuel (listed.setIfInBounds i true) a w := h1
          cases fuel with
          | zero => exact h2.2
          | succ f => exact h2.1 (by rw [lastOps_ready]; exact hempty)
        · exfalso
          have h2 := h1.1
          have h3 : ((execOp a.eval (nop o)).runT P w #[]).2 = #[] := rfl
          rw [h3] at h2
          simp at h2
      refine wpOp_mono (fun a' w' h2 => ?_) hq
      cases fuel with
      | zero => exact ⟨hempty, h2⟩
      | succ f => exact ⟨fun _ => h2, by rw [hempty]; simp⟩
    · have hun' : (listed.setIfInBounds i true).getD l true = false := by rw [getD_set_ne true hil]; exact hun
      obtain ⟨_, o', ho', hall'⟩ := mem_ready.1 hi
      have hc' := hc.set ho' hall'
      unfold wpOp at h1 ⊢
      rw [lastOps_ne hil] at h1
      cases ho : ops[i]? with
      | none => rw [ho] at h1; exact ih _ _ _ (by simpa using hs) hun' hc' h1
      | some o =>
        rw [ho] at h1
        simp only [] at h1 ⊢
        rw [wanted_last (hg i o ho)] at h1
        split
        · rename_i hwt
          rw [if_pos hwt] at h1
          rcases h1 with h1 | ⟨h1, h2⟩
          · exact Or.inl (wp_last (fun a' w' h => ih _ _ _ (by simpa using hs) hun' hc' h) h1)
          · exact Or.inr ⟨h1, letsOut_last h2⟩
        · rename_i hwt
          rw [if_neg hwt] at h1
          exact ih _ _ _ (by simpa using hs) hun' hc' h1
theorem wp_region_lastH {id : Nat} {a : Act} {w : World} (l : Nat) (hm : P.follows .mixedOrders = true) (hB : lastB .any ops l = true) (hS : S w.drew)
    (h : S w.drew → wpAnyH P .any (lastOps ops l) (LastQ P ops Q l) S ops.size (Array.replicate ops.size false) a w.drew) : (Code.region id ops true).wp P Q a w := by
  refine wp_region_any hm (wpAny_last hB _ _ _ _ (by simp) ?_ (fun i o _ hk => ?_) (wpAny_of_held _ _ _ _ (h hS)))
  · have := (lastB_spec hB).1
    simp [this]
  · simp [Array.getElem?_replicate] at hk
    split at hk <;> cases hk
theorem lastH_done {ops' : Array Oper} {l : Nat} {listed : Array Bool} {a : Act} {w : World} {o : Oper} {fuel : Nat} (hr : Region.ready md ops' listed = []) (ho : (ops.toList.drop l).head? = some o) (hw : Region.wanted o (yielded ops a.tmps) = true)
    (h : Oper.wp P o a w (fun a' w' => Q .normal a' w') Q) : wpAnyH P md ops' (LastQ P ops Q l) S fuel listed a w := by
  refine wpAnyH_done hr ?_ _
  show wpOp P ops Q l _ a w
  have := at_drop ho
  unfold wpOp
  rw [show ops[l]? = some o by simpa using this]
  simp only []
  rw [if_pos hw]
  exact Or.inl h
end Go.Tr
