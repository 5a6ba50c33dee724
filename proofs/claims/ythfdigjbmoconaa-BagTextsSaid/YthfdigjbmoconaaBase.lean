/-
  Plain words for the walks over this seat: what a slice's cells read as, whatever its address.
-/
import Derived.WalkKit
import Derived.WalkSpells
import Derived.Lib.Hide
import Derived.Deep.Draws
set_option linter.unusedSimpArgs false
set_option linter.unusedVariables false
namespace Go.Tr
open Go.RowKit

/-- A slice's cells, from its address on, one by one: nothing is asked of the address of a slice without cells. -/
def SeqAt (w : World) (a : Option Addr) (vs : List Value) : Prop :=
  0 < vs.length → ∃ b off, a = some ⟨b, off, none⟩ ∧ ∀ j, j < vs.length → w.cell? ⟨b, off + j, none⟩ = some (vs.getD j undef)

/-- The same world but for the count of draws. -/
def Drawn (w w' : World) : Prop := ∃ n, w' = w.drewN n
theorem Drawn.refl (w : World) : Drawn w w := ⟨0, rfl⟩
theorem Drawn.step {w w' : World} (h : Drawn w w') (n : Nat) : Drawn w (w'.drewN n) := by obtain ⟨m, rfl⟩ := h; exact ⟨m + n, World.drewN_drewN ..⟩
theorem Drawn.trans {a b c : World} (h : Drawn a b) (k : Drawn b c) : Drawn a c := by obtain ⟨n, rfl⟩ := k; exact h.step n
theorem Drawn.below {w w' : World} (h : Drawn w w') (B : Nat) : Below B w w' := by obtain ⟨n, rfl⟩ := h; exact ⟨rfl, rfl, rfl, Nat.le_refl _, fun _ _ => rfl⟩
theorem SeqAt.drawn {w w' : World} {a : Option Addr} {vs : List Value} (h : SeqAt w a vs) (hd : Drawn w w') : SeqAt w' a vs := by obtain ⟨n, rfl⟩ := hd; exact h

/-- A contract's word inside a region that draws its order. -/
theorem quiet_same {P : Program} {f : FuncId} {args : Array Value} {w : World} {n : Nat} {v : Value} (h : Calls P f args (w.drewN n) fun e w' => e = .returned v ∧ w.drewN n = w') :
    Calls P f args (w.drewN n) fun e w'' => e = .returned v ∧ ∃ m, w'' = w.drewN m := h.mono fun _ _ ⟨he, hm⟩ => ⟨he, n, hm.symm⟩
theorem quiet_drawn {P : Program} {f : FuncId} {args : Array Value} {w : World} {n : Nat} {v : Value} (h : Calls P f args (w.drewN n) fun e w' => e = .returned v ∧ Drawn (w.drewN n) w') :
    Calls P f args (w.drewN n) fun e w'' => e = .returned v ∧ ∃ m, w'' = w.drewN m := h.mono fun _ _ ⟨he, m, hm⟩ => ⟨he, n + m, by rw [hm, World.drewN_drewN]⟩

/-- Numbers as cells. -/
def iv (z : Int) : Value := .int .i64 z
def ints (zs : List Int) : List Value := zs.map iv

theorem ints_length (zs : List Int) : (ints zs).length = zs.length := by simp [ints]
theorem ints_getD (zs : List Int) (j : Nat) (h : j < zs.length) : (ints zs).getD j undef = .int .i64 (zs[j]?.getD 0) := by
  simp [ints, List.getD, List.getElem?_eq_getElem h, iv]

theorem SeqAt.ints {w : World} {a : Option Addr} {zs : List Int} (h : SeqAt w a (ints zs)) {k : Nat} (hk : k < zs.length) :
    ∃ b off z, a = some ⟨b, off, none⟩ ∧ w.cell? ⟨b, off + k, none⟩ = some (.int .i64 z) ∧ Hid (zs[k]? = some z) := by
  obtain ⟨b, off, e, hc⟩ := h (by rw [ints_length]; omega)
  refine ⟨b, off, zs[k]?.getD 0, e, by rw [hc k (by rw [ints_length]; exact hk), ints_getD zs k hk], ?_⟩
  show zs[k]? = _
  simp [List.getElem?_eq_getElem hk]

/-- A block read whole. -/
theorem seqAt_block {w : World} {b : Nat} {cs : Array Value} {t : TypeId} {fr : Nat × Nat} (h : w.heap[b]? = some (.cells cs t fr)) : SeqAt w (some ⟨b, 0, none⟩) cs.toList := by
  intro _
  refine ⟨b, 0, rfl, fun j hj => ?_⟩
  rw [Nat.zero_add, cell_of_row w b j cs t fr h]
  have : j < cs.size := by simpa using hj
  simp [List.getD, this]

theorem ints_take (zs : List Int) (k : Nat) : ints (zs.take k) = (ints zs).take k := by simp [ints, List.map_take]
theorem SeqAt.take {w : World} {a : Option Addr} {vs : List Value} (h : SeqAt w a vs) (k : Nat) : SeqAt w a (vs.take k) := by
  intro h0
  have hl : (vs.take k).length = min k vs.length := List.length_take
  obtain ⟨b, off, e, hc⟩ := h (by omega)
  refine ⟨b, off, e, fun j hj => ?_⟩
  rw [hc j (by omega)]
  simp [List.getD, List.getElem?_take, show j < k by omega]
theorem SeqAt.takeI {w : World} {a : Option Addr} {zs : List Int} (h : SeqAt w a (Tr.ints zs)) (k : Nat) : SeqAt w a (Tr.ints (zs.take k)) := by rw [Tr.ints_take]; exact h.take k

/-- Is a number on a list? (A name that the walk does not open.) -/
def hasL (zs : List Int) (x : Int) : Bool := zs.contains x
theorem hasL_iff (zs : List Int) (x : Int) : hasL zs x = true ↔ x ∈ zs := by simp [hasL]
theorem hasL_iff' (zs : List Int) (x : Int) : hasL zs x = false ↔ x ∉ zs := by simp [hasL]
/-- Are two lists of numbers alike? -/
def sameL (xs ys : List Int) : Bool := xs == ys
theorem sameL_iff (xs ys : List Int) : sameL xs ys = true ↔ xs = ys := by simp [sameL]
theorem sameL_iff' (xs ys : List Int) : sameL xs ys = false ↔ xs ≠ ys := by simp [sameL]
theorem snocInd {α : Type} {p : List α → Prop} (h0 : p []) (hs : ∀ l x, p l → p (l ++ [x])) (l : List α) : p l := by
  have : ∀ r : List α, p r.reverse := fun r => by
    induction r with
    | nil => exact h0
    | cons x r ih => rw [List.reverse_cons]; exact hs _ _ ih
  have := this l.reverse
  rwa [List.reverse_reverse] at this
theorem take_snoc {α : Type} {l : List α} {k : Nat} {z : α} (h : l[k]? = some z) : l.take (k + 1) = l.take k ++ [z] := by
  obtain ⟨hk, e⟩ := List.getElem?_eq_some_iff.1 h
  rw [List.take_succ_eq_append_getElem hk, e]

/-- Old cells read as before where nothing old has turned. -/
theorem SeqAt.below {B : Nat} {w w' : World} {a : Option Addr} {vs : List Value} (h : SeqAt w a vs) (hb : Below B w w') (hB : w.heap.size ≤ B) : SeqAt w' a vs := by
  intro h0
  obtain ⟨b, off, e, hc⟩ := h h0
  refine ⟨b, off, e, fun j hj => ?_⟩
  rw [hb.cell (p := ⟨b, off + j, none⟩) (Nat.lt_of_lt_of_le (World.block_lt_of_cell? w _ (hc j hj)) hB)]
  exact hc j hj

end Go.Tr
