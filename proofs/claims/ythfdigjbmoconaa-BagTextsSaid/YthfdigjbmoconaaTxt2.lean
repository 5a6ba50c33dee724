/-
  turnrowref06.Digits at numbers of three digits, and the law's own closure 'text'.
-/
import Derived.WalkLawsBesides
import Derived.WalkSpells
import Derived.Laws.IdiomStrings
import Derived.Laws.Bits128
import Derived.Test.YthfdigjbmoconaaTxt
set_option linter.unusedSimpArgs false
set_option linter.unusedVariables false
namespace Go.Proofs.Ythfdigjbmoconaa
open Go.RowKit Go.Tr

/-- The last j digits of m. -/
def dgs (m : Nat) : Nat → List UInt8
  | 0 => []
  | j + 1 => UInt8.ofNat (48 + m / 10 ^ j % 10) :: dgs m j
theorem dgs_length (m j : Nat) : (dgs m j).length = j := by induction j <;> simp_all [dgs]
theorem byte_of (k : Nat) : ((UInt8.ofNat (48 + k % 10)).toNat : Int) = 48 + (k : Int) % 10 := by
  simp only [UInt8.toNat_ofNat']; omega
set_option maxRecDepth 100000 in
set_option maxHeartbeats 1000000 in
theorem digits_any (m : Nat) (w : World) (hm : 100 ≤ m) (hm2 : m ≤ 227) :
    Calls Try.prog 22 #[.int .i64 m] w fun e w' => e = .returned (.string ⟨(dgs m 3).toArray⟩) ∧ Below w.heap.size w w' := by
  go_enter Try.func22, Try.ntmps22
  go_wp2_with fail
  go_loopw [0, 3] (fun n s wr => ∃ j k : Nat, j ≤ 3 ∧ Hid (k = m / 10 ^ j) ∧ n = .int .i64 k ∧ s = .string ⟨(dgs m j).toArray⟩ ∧ Hid (Below w.heap.size w wr)) (fun n _ _ => (intOf n).toNat)
  case atStart => exact ⟨0, m, by omega, by simp [Hid], rfl, rfl, Below.refl _ _⟩
  case round =>
    obtain ⟨j, k, hj, HK, rfl, rfl, HB⟩ := hrel
    have hkl : k ≤ 227 := by have := HK.out; rw [this]; exact Nat.le_trans (Nat.div_le_self _ _) hm2
    by_cases h3 : j < 3
    · have hk0 : 0 < k := by
        have h := HK.out
        have hjj : j = 0 ∨ j = 1 ∨ j = 2 := by omega
        rcases hjj with rfl | rfl | rfl <;> omega
      have HK2 : Hid (k / 10 = m / 10 ^ (j + 1)) := by show _ = _; rw [HK.out, Nat.div_div_eq_div_mul, Nat.pow_succ]
      obtain ⟨cb, hcb⟩ : ∃ cb : UInt8, cb = UInt8.ofNat (48 + k % 10) := ⟨_, rfl⟩
      have hcv : (convert 64 9 (.slice (some ⟨wr.heap.size, 0, none⟩) 1 1)).run Try.prog (wr.alloc (.cells #[.int .u8 (48 + (k : Int) % 10)] 5)) = .ok (.string ⟨#[cb]⟩) (wr.alloc (.cells #[.int .u8 (48 + (k : Int) % 10)] 5)) := by
        have := run_convert_bytes_back (P := Try.prog) (wr.alloc (.cells #[.int .u8 (48 + (k : Int) % 10)] 5)) 64 9 5 ⟨wr.heap.size, 0, none⟩ 1 [cb] Try.underlying64 Try.underlying5 Try.underlying9 (fun i hi => by
          simp at hi; subst hi
          rw [hcb]
          refine (cell_of_row _ wr.heap.size 0 _ 5 (0, 0) (heap_alloc_new wr _)).trans ?_
          simp [byte_of]; omega)
        exact this
      have HC := Lib.hid hcb
      obtain ⟨l, hl⟩ : ∃ l, l = dgs m j := ⟨_, rfl⟩
      have hll : l.length = j := by rw [hl]; exact dgs_length m j
      have hadd : ∀ W : World, (Op.stringOp .add ⟨#[cb]⟩ ⟨l.toArray⟩).run Try.prog W = .ok (.string ⟨(cb :: l).toArray⟩) W := fun W => by
        have e : (⟨#[cb]⟩ : ByteArray) ++ ⟨l.toArray⟩ = ⟨(cb :: l).toArray⟩ := by
          apply ByteArray.ext
          rw [ByteArray.data_append]
          simp
        rw [← e]
        exact run_string_add_sum W _ _ (by show #[cb].size + l.toArray.size ≤ _; simp [hll]; omega)
      rw [← hl]
      have HL := Lib.hid hl
      have HB2 := fun o => Lib.hid (HB.out.alloc HB.out.size o)
      clear hcb hl hll
      go_wp2
      go_roundw
      case rel => exact ⟨j + 1, k / 10, by omega, HK2, by go_num, by rw [HC.out, HL.out, HK.out]; rfl, HB2 _⟩
      case measure => simp [intOf]; omega
    · obtain rfl : j = 3 := by omega
      have hk0 : k = 0 := by have := HK.out; omega
      subst hk0
      obtain ⟨l, hl⟩ : ∃ l, l = dgs m 3 := ⟨_, rfl⟩
      have hll : l.length = 3 := by rw [hl]; exact dgs_length m 3
      have HL := Lib.hid hl
      have he : l.isEmpty = false := by
        clear hl
        cases l with
        | nil => simp at hll
        | cons a t => rfl
      have hs1 : (⟨l.toArray⟩ : ByteArray).toList.isEmpty = false := by rw [ByteArray.toList_eq]; simpa using he
      rw [← hl]
      clear hl hll
      go_wp2
      go_ret
      exact ⟨by rw [HL.out]; rfl, HB.out⟩
theorem dgs_tb : ∀ i : Fin 128, dgs (100 + i.val) 3 = tb (i.val : Int) := by decide +kernel
theorem dgs_tx (x : Int) (h0 : 0 ≤ x) (h1 : x ≤ 127) : (⟨(dgs (100 + x.toNat) 3).toArray⟩ : ByteArray) = tx x := by
  have h := dgs_tb ⟨x.toNat, by omega⟩
  simp only [] at h
  rw [h, Int.toNat_of_nonneg h0]
  rfl
set_option maxRecDepth 100000 in
/-- 'text': of a number's last seven bits. -/
theorem text_any (y : Int) (w : World) :
    Calls Try.prog 21 #[.int .i64 y] w fun e w' => e = .returned (.string (tx (y % 128))) ∧ Below w.heap.size w w' := by
  have hb := i64_and127 y
  have h0 : 0 ≤ y % 128 := by omega
  have h1 : y % 128 ≤ 127 := by omega
  obtain ⟨z, hz⟩ : ∃ z, z = y % 128 := ⟨_, rfl⟩
  rw [← hz] at hb h0 h1 ⊢
  clear hz
  have HD := Lib.hid (digits_any (100 + z.toNat) w (by omega) (by omega))
  have HX := Lib.hid (dgs_tx z h0 h1)
  have HC : Hid (((100 + z.toNat : Nat) : Int) = 100 + z) := by show _ = _; omega
  rw [HX.out, HC.out] at HD
  clear HX HC
  go_enter Try.func21, Try.ntmps21
  go_wp2_with fail
  refine HD.out.mono ?_
  rintro e w' ⟨rfl, hb⟩
  have HB := Lib.hid hb
  go_wp2
  go_ret
  exact ⟨rfl, HB.out⟩
end Go.Proofs.Ythfdigjbmoconaa
