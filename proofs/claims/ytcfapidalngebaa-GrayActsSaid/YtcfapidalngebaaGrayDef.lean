/-
  Package gray: what a list holds, as plain data, and where it lies in memory.
-/
import Derived.Test.YtcfapidalngebaaFoot
import Derived.Test.YtcfapidalngebaaRegion
import Derived.Test.YtcfapidalngebaaChecked
set_option linter.unusedSimpArgs false
set_option linter.unusedVariables false
namespace Go.Tr
open Go.RowKit

/-- What stands at each key (color, turn); what waits, or waited (key, turn); the last turn; how many wait. -/
structure GS where
  tab : List (Int × (Int × Int))
  q : List (Int × Int)
  last : Int
  wait : Int

def thingV (t : Int × Int) : Value := .agg #[.int .i64 t.1, .int .i64 t.2]
def GS.at (S : GS) (x : Int) : Int × Int := (lookA S.tab x).getD (0, 0)
def GS.color (S : GS) (x : Int) : Int := (S.at x).1
def GS.enter (S : GS) (x : Int) : GS := { tab := putA S.tab x (1, S.last + 1), q := S.q ++ [(x, S.last + 1)], last := S.last + 1, wait := S.wait + 1 }
def GS.put1 (S : GS) (x : Int) : GS := if S.color x = 0 then S.enter x else S
def GS.put (S : GS) (xs : List Int) : GS := xs.foldl GS.put1 S
def GS.putN (S : GS) : List Int → Int
  | [] => 0
  | x :: xs => (if S.color x = 0 then 1 else 0) + (S.put1 x).putN xs
def GS.again (S : GS) (x : Int) : GS := if S.color x = 2 then S.enter x else S
def GS.paint (S : GS) (x : Int) : GS := if S.color x = 2 then S else { S with tab := putA S.tab x (2, 0), wait := if S.color x = 1 then S.wait - 1 else S.wait }
def GS.pop (S : GS) : GS := { S with q := S.q.drop 1 }
def GS.new : GS := ⟨[], [], 0, 0⟩
/-- No number is so great that a sum of it and a few would wrap. -/
def GS.Small (S : GS) (N : Int) : Prop := 0 ≤ S.last ∧ S.last ≤ N ∧ -N ≤ S.wait ∧ S.wait ≤ N ∧ (S.q.length : Int) ≤ N

/-- The list at g, in blocks of F alone. T: its struct's type. -/
def GrayAt (T : TypeId) (w : World) (g : Nat) (F : Nat → Prop) (S : GS) : Prop :=
  F g ∧ ∃ bm qv, w.heap[g]? = some (.cells #[.map (some bm), qv, .int .i64 S.last, .int .i64 S.wait] T (0, 0)) ∧ F bm ∧ bm ≠ g ∧ MapI w bm (mapA thingV S.tab) ∧ OwnO w 2 qv S.q.length (ecells S.q) ∧
    ∀ k, qv.ownBlock = some k → F k ∧ k ≠ g ∧ k ≠ bm

theorem GrayAt.mono {T : TypeId} {w : World} {g : Nat} {F G : Nat → Prop} {S : GS} (h : GrayAt T w g F S) (hs : ∀ k, F k → G k) : GrayAt T w g G S := by
  obtain ⟨h1, bm, qv, h2, h3, h4, h5, h6, h7⟩ := h
  exact ⟨hs _ h1, bm, qv, h2, hs _ h3, h4, h5, h6, fun k hk => ⟨hs _ (h7 k hk).1, (h7 k hk).2⟩⟩
theorem GrayAt.lt {T : TypeId} {w : World} {g : Nat} {F : Nat → Prop} {S : GS} (h : GrayAt T w g F S) : g < w.heap.size := by
  obtain ⟨_, bm, qv, h2, _⟩ := h; exact (Array.getElem?_eq_some_iff.1 h2).1
theorem GrayAt.only {T : TypeId} {w w' : World} {g : Nat} {F G : Nat → Prop} {S : GS} (h : GrayAt T w g F S) (ho : Only G w w') (hd : ∀ k, F k → ¬ G k) : GrayAt T w' g F S := by
  have hl := h.lt
  obtain ⟨h1, bm, qv, h2, h3, h4, h5, h6, h7⟩ := h
  exact ⟨h1, bm, qv, (ho.block g hl (hd g h1)).trans h2, h3, h4, h5.kept (ho.block bm h5.lt (hd bm h3)), h6.only ho (fun k hk => hd k (h7 k hk).1), h7⟩
theorem GrayAt.drawn {T : TypeId} {w w' : World} {g : Nat} {F : Nat → Prop} {S : GS} (h : GrayAt T w g F S) (hd : Drawn w w') : GrayAt T w' g F S := by obtain ⟨n, rfl⟩ := hd; exact h

theorem cells_of_block {w : World} {g : Nat} {cs : Array Value} {T : TypeId} (h : w.heap[g]? = some (.cells cs T (0, 0))) (j : Nat) : w.cell? ⟨g, j, none⟩ = cs[j]? ∧ w.frozen? ⟨g, j, none⟩ = false :=
  ⟨cell_of_row w g j cs T (0, 0) h, by simp [World.frozen?, h]⟩
theorem block_setCell {w : World} {g : Nat} {cs : Array Value} {T : TypeId} (h : w.heap[g]? = some (.cells cs T (0, 0))) (j : Nat) (v : Value) : (w.setCell ⟨g, j, none⟩ v).heap[g]? = some (.cells (cs.setIfInBounds j v) T (0, 0)) := by
  simp [World.setCell, Array.getElem?_modify, h]
/-- What comes first of those that still wait, and what is left. -/
def nextQ (S : GS) : List (Int × Int) → Option Int × GS
  | [] => (none, { S with q := [] })
  | (x, n) :: r => if S.at x = (1, n) then (some x, { S with q := r }.paint x) else nextQ S r
def GS.next (S : GS) : Option Int × GS := nextQ S S.q
def lenAt (g : Nat) (w : World) : Nat := match w.cell? ⟨g, 1, none⟩ with | some (.slice _ n _) => n | _ => 0
theorem Only.undrew {F : Nat → Prop} {w w' : World} {n : Nat} (h : Only F (w.drewN n) w') : Only F w w' := ⟨h.os, h.tape, h.output, h.size, h.block⟩
theorem GrayAt.painted {T : TypeId} {w w1 w2 : World} {g bm : Nat} {F : Nat → Prop} {S S' : GS} {qv : Value} (f1 : F g) (f3 : F bm) (h4 : bm ≠ g) (hb : w1.heap[g]? = some (.cells #[.map (some bm), qv, .int .i64 S'.last, .int .i64 S'.wait] T (0, 0)))
    (ho : Only F w w1) (hq : OwnO w1 2 qv S'.q.length (ecells S'.q)) (hm : MapI w2 bm (mapA thingV S'.tab)) (hg : w1.grownBy w2 (some bm)) (h7 : ∀ k, qv.ownBlock = some k → F k ∧ k ≠ g ∧ k ≠ bm) : GrayAt T w2 g (grow F w w2) S' ∧ Only F w w2 := by
  have hl : g < w1.heap.size := (Array.getElem?_eq_some_iff.1 hb).1
  refine ⟨⟨Or.inl f1, bm, qv, (hg.block g hl (by simp; exact fun e => h4 e.symm)).trans hb, Or.inl f3, h4, hm, hq.kept (fun k hk => hg.block k (hq.lt k hk) (by simp; exact (h7 k hk).2.2)), fun k hk => ⟨Or.inl (h7 k hk).1, (h7 k hk).2⟩⟩, ho.grown hg (fun k hk => by cases hk; exact Or.inl f3)⟩
theorem exec_lookI {P : Program} {o : Oper} {a : Act} {w : World} (m x : Operand) (t : TypeId) (hop : o.op = Op.lookup t m x false) (k e : TypeId) (ht : P.underlying t = some (.map k e)) (hk : P.underlying k = some (.int .i64))
    (z : Value) (hz : ∀ w, (zeroValue e).run P w = .ok z w) (b : Nat) (l : List (Int × Value)) (hm : a.eval m = .map (some b)) (h : MapI w b l) (y : Int) (hx : a.eval x = .int .i64 y) : (execOp a.eval o).run P w = .ok (.value ((lookA l y).getD z)) w := by
  simp [execOp, hop, hm, hx, h.look ht hk hz false y, Result.andThen]
/-- The queue's head taken off, and a new cell for it. -/
theorem GrayAt.popped {T T' : TypeId} {w w1 : World} {g bm : Nat} {F : Nat → Prop} {qg qo qc x n : _} {r : List (Int × Int)} {sa : Option Addr} {sc : Nat} {last wait : Int} {tab : List (Int × (Int × Int))} (f1 : grow F w w1 g) (f3 : grow F w w1 bm) (h4 : bm ≠ g)
    (hb : w1.heap[g]? = some (.cells #[.map (some bm), .slice (some ⟨qg, qo, none⟩) (r.length + 1) qc, .int .i64 last, .int .i64 wait] T (0, 0))) (ho : Only F w w1) (hm : MapI w1 bm (mapA thingV tab)) (hq : OwnO w1 2 (.slice sa r.length sc) r.length (List.drop 2 (ecells ((x, n) :: r))))
    (hqb : ∀ k, (Value.slice sa r.length sc).ownBlock = some k → k = qg) (h7 : ∀ k, (Value.slice (some ⟨qg, qo, none⟩) (r.length + 1) qc).ownBlock = some k → grow F w w1 k ∧ k ≠ g ∧ k ≠ bm) :
    Hid (GrayAt T ((w1.setCell ⟨g, 1, none⟩ (.slice sa r.length sc)).alloc (.cells #[.int .i64 x, .int .i64 n] T')) g (fun k => grow F w ((w1.setCell ⟨g, 1, none⟩ (.slice sa r.length sc)).alloc (.cells #[.int .i64 x, .int .i64 n] T')) k ∧ k ≠ w1.heap.size) ⟨tab, r, last, wait⟩) ∧
      Hid (Only F w ((w1.setCell ⟨g, 1, none⟩ (.slice sa r.length sc)).alloc (.cells #[.int .i64 x, .int .i64 n] T'))) ∧
      ((w1.setCell ⟨g, 1, none⟩ (.slice sa r.length sc)).alloc (.cells #[.int .i64 x, .int .i64 n] T')).heap[w1.heap.size]? = some (.cells #[.int .i64 x, .int .i64 n] T' (0, 0)) := by
  have hl : g < w1.heap.size := (Array.getElem?_eq_some_iff.1 hb).1
  have hs : (w1.setCell ⟨g, 1, none⟩ (.slice sa r.length sc)).heap.size = w1.heap.size := by simp [World.setCell]
  generalize hW : (w1.setCell ⟨g, 1, none⟩ (.slice sa r.length sc)).alloc (.cells #[.int .i64 x, .int .i64 n] T') = W
  have hsW : W.heap.size = w1.heap.size + 1 := by rw [← hW]; simp [hs]
  have hk : ∀ k, k ≠ g → k < w1.heap.size → W.heap[k]? = w1.heap[k]? := fun k hk hl' => by rw [← hW, Below.heap_alloc _ _ _ (by rw [hs]; exact hl'), Below.heap_setCell _ _ _ _ hk]
  have hgr : ∀ k, grow F w w1 k → grow F w W k := fun k hk => hk.imp id (fun h => ⟨h.1, by omega⟩)
  refine ⟨⟨⟨hgr _ f1, by omega⟩, bm, .slice sa r.length sc, ?_, ⟨hgr _ f3, Nat.ne_of_lt hm.lt⟩, h4, hm.kept (hk bm h4 hm.lt), ?_, fun k hk' => ?_⟩, ?_, ?_⟩
  · rw [← hW, Below.heap_alloc _ _ _ (by rw [hs]; exact hl)]
    exact block_setCell hb 1 _
  · exact OwnO.kept (n := r.length) (xs := ecells r) hq (fun k hk' => by
      have h := h7 qg rfl
      rw [hqb k hk']
      exact hk qg h.2.1 (by have := hq.lt k hk'; rw [hqb k hk'] at this; exact this))
  · have hlt := hq.lt k hk'
    rw [hqb k hk'] at hlt ⊢
    have h := h7 qg rfl
    exact ⟨⟨hgr _ h.1, by omega⟩, h.2⟩
  · rw [← hW]
    exact ((ho.setCell (by rcases f1 with h | h; exact Or.inl h; exact Or.inr h.1) _).alloc _)
  · rw [← hW, ← hs]
    exact heap_alloc_new _ _
theorem putN_snoc (x : Int) : ∀ (xs : List Int) (S : GS), S.putN (xs ++ [x]) = S.putN xs + if (S.put xs).color x = 0 then 1 else 0
  | [], S => by by_cases h : S.color x = 0 <;> simp [GS.putN, GS.put, h]
  | y :: r, S => by
    simp only [List.cons_append, GS.putN]
    rw [putN_snoc x r (S.put1 y)]
    simp only [GS.put, List.foldl_cons]
    omega
theorem put_snoc (x : Int) (xs : List Int) (S : GS) : S.put (xs ++ [x]) = (S.put xs).put1 x := by simp [GS.put]
theorem GS.Small.enter {S : GS} {N : Int} (h : S.Small N) (x : Int) : (S.enter x).Small (N + 1) := by
  obtain ⟨h1, h2, h3, h4, h5⟩ := h
  refine ⟨?_, ?_, ?_, ?_, ?_⟩ <;> simp [GS.enter] <;> omega
theorem GS.Small.mono {S : GS} {N M : Int} (h : S.Small N) (hm : N ≤ M) : S.Small M := by obtain ⟨h1, h2, h3, h4, h5⟩ := h; exact ⟨h1, by omega, by omega, by omega, by omega⟩
theorem GS.Small.put1 {S : GS} {N : Int} (h : S.Small N) (x : Int) : (S.put1 x).Small (N + 1) := by
  unfold GS.put1; split
  · exact h.enter x
  · exact h.mono (by omega)
theorem GS.Small.put : ∀ (xs : List Int) {S : GS} {N : Int}, S.Small N → (S.put xs).Small (N + xs.length)
  | [], S, N, h => by simpa [GS.put] using h
  | x :: r, S, N, h => by have := GS.Small.put r (h.put1 x); simp only [GS.put, List.foldl_cons] at this ⊢; exact this.mono (by simp; omega)
theorem putN_le : ∀ (xs : List Int) (S : GS), 0 ≤ S.putN xs ∧ S.putN xs ≤ xs.length
  | [], S => by simp [GS.putN]
  | x :: r, S => by have := putN_le r (S.put1 x); simp only [GS.putN, List.length_cons]; split <;> omega
theorem look_thing (S : GS) (x : Int) : (lookA (mapA thingV S.tab) x).getD (.agg #[.int .i64 0, .int .i64 0]) = .agg #[.int .i64 (S.at x).1, .int .i64 (S.at x).2] := by
  rw [lookA_mapA, GS.at]
  cases lookA S.tab x <;> rfl
end Go.Tr
