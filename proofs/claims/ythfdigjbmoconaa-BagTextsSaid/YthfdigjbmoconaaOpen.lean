/-
  From a reading of an argument to what the walks are told of it: slices of ints, slices of pairs of ints.
-/
import Derived.Test.YthfdigjbmoconaaOrderParts
import Derived.ProofKit
import Derived.OpenShut
import Derived.Deep.SlicePairs
set_option linter.unusedSimpArgs false
set_option linter.unusedVariables false
namespace Go.Tr
open Go.ChangeShapes Go.WideShapes Go.RowKit Go.Deep

section
variable {H : Type} {enc : TypeId × Value → H} {P : Program} {w : World} {base : Nat} {sp : Nat → Bool} {held : Bool}

theorem spot_none {w : World} {a : Addr} {v : Value} (h : w.cell? (a.add 0) = some v) : a.spot = none := by simpa [Addr.add] using World.cell?_spot h

theorem openI {t e : TypeId} {a : Option Addr} {n c : Nat} {d : DataW H} {ps : List MemPlace} (ht : P.underlying t = some (.slice e)) (he : P.underlying e = some (.int .i64)) (hc : P.cellsOf e = 1)
    (h : DataW.Trod enc P w base sp held t (.slice a n c) d ps) : ∃ zs, SeqAt w a (ints zs) ∧ zs.length = n ∧ n ≤ c ∧ n ≤ maxLen ∧ ∀ z ∈ zs, (Lit.int .i64 z).wf = true := by
  obtain ⟨fuel, hf⟩ := h
  rcases open_ints ht he hc hf with ⟨hcs, hx⟩ | ⟨x, l, c', zs, hcs, _, hl, hm, hz, hx, hcell, hwz⟩
  · simp [Value.cells] at hcs
    obtain ⟨rfl, rfl, rfl⟩ := hcs
    exact ⟨[], fun h0 => by simp [ints] at h0, rfl, Nat.le_refl _, Nat.zero_le _, by simp⟩
  · simp [Value.cells] at hcs
    obtain ⟨rfl, rfl, rfl⟩ := hcs
    have hlz : n ≤ zs.length := by rw [hz]; split <;> omega
    refine ⟨zs.take n, fun h0 => ?_, by simp; omega, hl, Nat.le_trans hl hm, fun z hz => hwz z (List.mem_of_mem_take hz)⟩
    · have h1 : 0 < n := by simp [ints] at h0; omega
      have hs := spot_none (hcell 0 (by omega))
      obtain ⟨b, off, spot⟩ := x
      simp at hs; subst hs
      refine ⟨b, off, rfl, fun j hj => ?_⟩
      simp [ints] at hj
      have := hcell j (by omega)
      rw [add_plain] at this
      rw [this]
      simp [ints, List.getD, show j < n by omega, show j < zs.length by omega, iv]

theorem openE {t e : TypeId} {f0 f1 : Field} {a : Option Addr} {n c : Nat} {d : DataW H} {ps : List MemPlace} (ht : P.underlying t = some (.slice e)) (he : P.underlying e = some (.struct #[f0, f1]))
    (ce : P.cellsOf e = 2) (o0 : f0.offset = 0) (o1 : f1.offset = 1) (c0 : P.cellsOf f0.type = 1) (c1 : P.cellsOf f1.type = 1) (k0 : P.underlying f0.type = some (.int .i64)) (k1 : P.underlying f1.type = some (.int .i64))
    (h : DataW.Trod enc P w base sp held t (.slice a n c) d ps) : ∃ E : Edges, SeqAt w a (ecells E) ∧ E.length = n ∧ n ≤ c ∧ n ≤ maxLen := by
  obtain ⟨fuel, hf⟩ := h
  rcases open_slice_pairs ht he ce o0 o1 c0 c1 hf with ⟨hcs, hx⟩ | ⟨x, l, c', m, q, V0, V1, D0, D1, P0, P1, hcs, _, hl, hm, hmm, hx, hcell⟩
  · simp [Value.cells] at hcs
    obtain ⟨rfl, rfl, rfl⟩ := hcs
    exact ⟨[], fun h0 => by simp [ecells] at h0, rfl, Nat.le_refl _, Nat.zero_le _⟩
  · simp [Value.cells] at hcs
    obtain ⟨rfl, rfl, rfl⟩ := hcs
    have hlm : n ≤ m := by rw [hmm]; split <;> omega
    have each : ∀ i, i < n → ∃ e : Int × Int, w.cell? (x.add (i * 2)) = some (.int .i64 e.1) ∧ w.cell? (x.add (i * 2 + 1)) = some (.int .i64 e.2) := fun i hi => by
      obtain ⟨g0, g1, t0, t1⟩ := hcell i (by omega)
      obtain ⟨u, e0, _, _⟩ := DataW.trod_int k0 t0
      obtain ⟨v, e1, _, _⟩ := DataW.trod_int k1 t1
      simp at e0 e1
      exact ⟨(u, v), by rw [g0, e0], by rw [g1, e1]⟩
    obtain ⟨f, hfE⟩ := choose_lt each
    refine ⟨(List.range n).map f, fun h0 => ?_, by simp, hl, Nat.le_trans hl hm⟩
    have h1 : 0 < n := by rw [ecells_length] at h0; simp at h0; omega
    have hs := spot_none (by simpa using (hfE 0 h1).1)
    obtain ⟨b, off, spot⟩ := x
    simp at hs; subst hs
    refine ⟨b, off, rfl, fun j hj => ?_⟩
    rw [ecells_length] at hj
    simp at hj
    have hE : ((List.range n).map f)[j / 2]? = some (f (j / 2)) := by simp [show j / 2 < n by omega]
    have h2 := ecells_at hE
    have h3 := hfE (j / 2) (by omega)
    rw [add_plain, add_plain] at h3
    rcases Nat.mod_two_eq_zero_or_one j with h4 | h4
    · have : j = 2 * (j / 2) := by omega
      rw [this, h2.1, ← h3.1]; congr 2; omega
    · have : j = 2 * (j / 2) + 1 := by omega
      rw [this, h2.2, ← h3.2]; congr 2; omega

theorem trod_blocks {t : TypeId} {v : Value} {d : DataW H} {ps : List MemPlace} (h : DataW.Trod enc P w base sp held t v d ps) : ∀ x ∈ ps, x.block < w.heap.size := by
  obtain ⟨m, hm⟩ := h; exact DataW.trod_lt m _ _ _ hm
end
end Go.Tr
