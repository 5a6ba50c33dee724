/-
  The texts that stand for the numbers 0 to 127: three digits each.
-/
import Derived.Sort.OwnSorted
import Derived.Laws.Strings
import Derived.Test.YthfdigjbmoconaaBag5
set_option linter.unusedSimpArgs false
set_option linter.unusedVariables false
namespace Go.Tr
open Go.RowKit

def tb (x : Int) : List UInt8 := [UInt8.ofNat (48 + (100 + x.toNat) / 100), UInt8.ofNat (48 + (100 + x.toNat) / 10 % 10), UInt8.ofNat (48 + (100 + x.toNat) % 10)]
def tx (x : Int) : ByteArray := ⟨(tb x).toArray⟩
def sv (x : Int) : Value := .string (tx x)
def strs (zs : List Int) : List Value := zs.map sv
def In7 (zs : List Int) : Prop := ∀ z ∈ zs, 0 ≤ z ∧ z ≤ 127
theorem strs_length (zs : List Int) : (strs zs).length = zs.length := by simp [strs]
theorem strs_oneCell (zs : List Int) : ∀ v ∈ strs zs, v.oneCell' = true := fun v hv => by obtain ⟨z, -, rfl⟩ := List.mem_map.1 hv; rfl
theorem strs_enc (zs : List Int) : strs zs = (zs.map tb).map Go.Proofs.encStr := by simp only [strs, List.map_map]; rfl
theorem tb_less : ∀ (i j : Fin 128), Go.Op.bytesLess (tb (i.val : Int)) (tb (j.val : Int)) = decide (i.val < j.val) := by decide +kernel
theorem tx_less {x y : Int} (hx : 0 ≤ x ∧ x ≤ 127) (hy : 0 ≤ y ∧ y ≤ 127) : Go.Op.bytesLess (tx x).toList (tx y).toList = decide (x < y) := by
  rw [ByteArray.toList_eq, ByteArray.toList_eq]
  have h := tb_less ⟨x.toNat, by omega⟩ ⟨y.toNat, by omega⟩
  simp only [] at h
  rw [Int.toNat_of_nonneg hx.1, Int.toNat_of_nonneg hy.1] at h
  show Go.Op.bytesLess (tb x) (tb y) = _
  rw [h, decide_eq_decide]
  omega
theorem bytesLess_irr : ∀ l : List UInt8, Go.Op.bytesLess l l = false
  | [] => rfl
  | a :: l => by unfold Go.Op.bytesLess; rw [bytesLess_irr l]; simp
theorem tx_inj {x y : Int} (hx : 0 ≤ x ∧ x ≤ 127) (hy : 0 ≤ y ∧ y ≤ 127) (h : tx x = tx y) : x = y := by
  have h1 := tx_less hx hy
  have h2 := tx_less hy hx
  rw [h, bytesLess_irr] at h1 h2
  have h1 := of_decide_eq_false h1.symm
  have h2 := of_decide_eq_false h2.symm
  omega
end Go.Tr
