/-
  Acts (turnrowlaw14.Act): from a reading to what the walks are told.
-/
import Derived.Test.YthfdigjbmoconaaOpen
set_option linter.unusedSimpArgs false
set_option linter.unusedVariables false
namespace Go.Tr
open Go.ChangeShapes Go.WideShapes Go.RowKit Go.Deep

/-- One act: kind, x, and the slice with its numbers. -/
structure AV where
  kind : Int
  x : Int
  a : Option Addr
  n : Nat
  c : Nat
  l : List Int
deriving Inhabited
def AV.cells (A : AV) : List Value := [.int .i64 A.kind, .int .i64 A.x, .slice A.a A.n A.c]
def acells (L : List AV) : List Value := L.flatMap AV.cells
def AV.ok (w : World) (A : AV) : Prop := SeqAt w A.a (ints A.l) ∧ A.l.length = A.n ∧ (A.n ≤ A.c ∧ (A.a = none → A.n = 0 ∧ A.c = 0)) ∧ A.n ≤ maxLen
theorem acells_length (L : List AV) : (acells L).length = 3 * L.length := by induction L <;> simp_all [acells, AV.cells]; omega
theorem acells_at {L : List AV} {k : Nat} {A : AV} (h : L[k]? = some A) : ∀ j, j < 3 → (acells L)[3 * k + j]? = A.cells[j]? := by
  induction L generalizing k with
  | nil => simp at h
  | cons B L ih =>
    intro j hj
    have e : acells (B :: L) = B.cells ++ acells L := rfl
    cases k with
    | zero =>
      simp at h; subst h
      rw [e, Nat.mul_zero, Nat.zero_add, List.getElem?_append_left (by simpa [AV.cells] using hj)]
    | succ k =>
      rw [e, List.getElem?_append_right (by simp [AV.cells]; omega)]
      have := ih (k := k) (by simpa using h) j hj
      rw [← this]
      congr 1
      simp [AV.cells]; omega
theorem SeqAt.act {w : World} {a : Option Addr} {L : List AV} (h : SeqAt w a (acells L)) {k : Nat} (hk : k < L.length) :
    ∃ b off A, a = some ⟨b, off, none⟩ ∧ w.cell? ⟨b, off + k * 3, none⟩ = some (.int .i64 A.kind) ∧ w.cell? ⟨b, off + k * 3 + 1, none⟩ = some (.int .i64 A.x) ∧ w.cell? ⟨b, off + k * 3 + 2, none⟩ = some (.slice A.a A.n A.c) ∧ Hid (L[k]? = some A) := by
  obtain ⟨b, off, e, hc⟩ := h (by rw [acells_length]; omega)
  have hA : L[k]? = some L[k] := List.getElem?_eq_getElem hk
  have h0 := acells_at hA
  have each : ∀ j, j < 3 → w.cell? ⟨b, off + k * 3 + j, none⟩ = L[k].cells[j]? := fun j hj => by
    have h1 := hc (3 * k + j) (by rw [acells_length]; omega)
    have h2 := h0 j hj
    rw [show off + k * 3 + j = off + (3 * k + j) by omega, h1]
    rw [← h2]
    rw [List.getElem?_eq_getElem (by rw [acells_length]; omega), List.getD, List.getElem?_eq_getElem (by rw [acells_length]; omega)]
    rfl
  exact ⟨b, off, L[k], e, each 0 (by omega), each 1 (by omega), each 2 (by omega), hA⟩

section
variable {H : Type} {enc : TypeId × Value → H} {P : Program} {w : World} {base : Nat} {sp : Nat → Bool} {held : Bool}

theorem openA {t e : TypeId} {f0 f1 f2 : Field} {a : Option Addr} {n c : Nat} {d : DataW H} {ps : List MemPlace} {ti : TypeId} (ht : P.underlying t = some (.slice e)) (he : P.underlying e = some (.struct #[f0, f1, f2]))
    (ce : P.cellsOf e = 3) (o0 : f0.offset = 0) (o1 : f1.offset = 1) (o2 : f2.offset = 2) (c0 : P.cellsOf f0.type = 1) (c1 : P.cellsOf f1.type = 1) (c2 : P.cellsOf f2.type = 1)
    (k0 : P.underlying f0.type = some (.int .i64)) (k1 : P.underlying f1.type = some (.int .i64)) (k2 : P.underlying f2.type = some (.slice ti)) (ki : P.underlying ti = some (.int .i64)) (ci : P.cellsOf ti = 1)
    (h : DataW.Trod enc P w base sp held t (.slice a n c) d ps) : ∃ L : List AV, SeqAt w a (acells L) ∧ L.length = n ∧ n ≤ c ∧ n ≤ maxLen ∧ ∀ A ∈ L, A.ok w := by
  obtain ⟨fuel, hf⟩ := h
  rcases open_slice ht hf with ⟨hcs, hx⟩ | ⟨x, l, c', m, q, D, Pl, hcs, _, hl, hm, hmm, _, hcell⟩
  · simp [Value.cells] at hcs
    obtain ⟨rfl, rfl, rfl⟩ := hcs
    exact ⟨[], fun h0 => by simp [acells] at h0, rfl, Nat.le_refl _, Nat.zero_le _, by simp⟩
  · simp [Value.cells] at hcs
    obtain ⟨rfl, rfl, rfl⟩ := hcs
    have hlm : n ≤ m := by rw [hmm]; split <;> omega
    have each : ∀ i, i < n → ∃ A : AV, A.ok w ∧ ∀ j, j < 3 → w.cell? (x.add (i * 3 + j)) = A.cells[j]? := fun i hi => by
      obtain ⟨cs', h1, h2⟩ := hcell i (by omega)
      rw [ce] at h1
      obtain ⟨_, hlen, hcell'⟩ := World.cells?_some h1
      obtain ⟨xs, k, hk, hxy, _, hxl, hff⟩ := DataW.trod_struct he h2
      match xs, hxl, cs', hlen with
      | [y0, y1, y2], _, [v0, v1, v2], _ =>
        have g0 := hff 0 f0 rfl
        have g1 := hff 1 f1 rfl
        have g2 := hff 2 f2 rfl
        simp [o0, o1, o2, c0, c1, c2] at g0 g1 g2
        obtain ⟨u, e0, _, _⟩ := DataW.trod_int k0 g0
        obtain ⟨v, e1, _, _⟩ := DataW.trod_int k1 g1
        simp at e0 e1
        subst e0 e1
        have hs : ∃ a' n' c', v2 = .slice a' n' c' ∧ (a' = none → n' = 0 ∧ c' = 0) := by
          rcases open_slice k2 g2 with ⟨hcs2, _⟩ | ⟨x2, l2, c2', _, _, _, _, hcs2, _⟩
          · simp at hcs2; exact ⟨_, _, _, hcs2, fun _ => ⟨rfl, rfl⟩⟩
          · simp at hcs2; exact ⟨_, _, _, hcs2, fun e => by cases e⟩
        obtain ⟨a', n', c'', rfl, hnl⟩ := hs
        obtain ⟨zs, r1, r2, r3, r4, _⟩ := openI (a := a') (n := n') (c := c'') (d := y2.1) (ps := y2.2) k2 ki ci ⟨k, by simpa [Value.cells] using g2⟩
        refine ⟨⟨u, v, a', n', c'', zs⟩, ⟨r1, r2, ⟨r3, hnl⟩, r4⟩, fun j hj => ?_⟩
        have e := hcell' j hj
        rw [add_add] at e
        match j, hj with
        | 0, _ => simpa [AV.cells] using e
        | 1, _ => simpa [AV.cells] using e
        | 2, _ => simpa [AV.cells] using e
    obtain ⟨f, hfA⟩ := choose_lt each
    refine ⟨(List.range n).map f, fun h0 => ?_, by simp, hl, Nat.le_trans hl hm, fun A hA => ?_⟩
    · have h1 : 0 < n := by rw [acells_length] at h0; simp at h0; omega
      have hs := spot_none (by have := (hfA 0 h1).2 0 (by omega); simpa [AV.cells] using this)
      obtain ⟨b, off, spot⟩ := x
      simp at hs; subst hs
      refine ⟨b, off, rfl, fun j hj => ?_⟩
      rw [acells_length] at hj
      simp at hj
      have hA : ((List.range n).map f)[j / 3]? = some (f (j / 3)) := by simp [show j / 3 < n by omega]
      have h2 := acells_at hA (j % 3) (Nat.mod_lt _ (by omega))
      have h3 := (hfA (j / 3) (by omega)).2 (j % 3) (Nat.mod_lt _ (by omega))
      rw [add_plain] at h3
      have e3 : 3 * (j / 3) + j % 3 = j := Nat.div_add_mod j 3
      rw [e3, ← h3] at h2
      rw [show off + j = off + (j / 3 * 3 + j % 3) by omega]
      rw [← h2, List.getD, List.getElem?_eq_getElem (by rw [acells_length]; simpa using hj)]
      rfl
    · obtain ⟨i, hi, rfl⟩ := List.mem_map.1 hA
      exact (hfA i (List.mem_range.1 hi)).1
end
end Go.Tr
