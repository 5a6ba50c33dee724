/-
  turnrowlaw08.great: the walk.
-/
import Derived.Test.YthfdigjbmoconaaActs
import Derived.Test.YthfdigjbmoconaaChecked
set_option linter.unusedSimpArgs false
set_option linter.unusedVariables false
namespace Go.Proofs.Ythfdigjbmoconaa
open Go.RowKit Go.Tr

def greatA (L : List AV) : Bool := decide (50 < L.length) || L.any fun A => decide (50 < A.n)
theorem greatA_step {L : List AV} {A : AV} {k : Nat} (h : L[k]? = some A) (h1 : (L.take k).any (fun A => decide (50 < A.n)) = false) (h2 : ¬ 50 < A.n) : (L.take (k + 1)).any (fun A => decide (50 < A.n)) = false := by
  rw [take_snoc h, List.any_append, h1]; simp; omega

set_option maxRecDepth 100000 in
theorem great08_any (a : Option Addr) (n c : Nat) (L : List AV) (w : World) (h : SeqAt w a (acells L)) (hl : L.length = n) (hm : n ≤ 9223372036854775807) (hA : ∀ A ∈ L, A.n ≤ 9223372036854775807) :
    Calls Try.prog 20 #[.slice a n c] w fun e w' => e = .returned (.bool (greatA L)) ∧ Below w.heap.size w w' := by
  have H := Lib.hid h; clear h
  have HL := Lib.hid hl; clear hl
  have HAn := Lib.hid hA; clear hA
  by_cases hbig : 50 < n
  · have HG : Hid (greatA L = true) := by show _ = _; unfold greatA; rw [HL.out]; simp [hbig]
    go_enter Try.func20, Try.ntmps20
    go_wp2
    go_ret
    exact ⟨by rw [HG.out]; rfl, Below.refl _ _⟩
  · have HG : Hid (greatA L = L.any fun A => decide (50 < A.n)) := by show _ = _; unfold greatA; rw [HL.out]; simp [hbig]
    go_enter Try.func20, Try.ntmps20
    go_wp2
    go_loopw [10] (fun i wr => ∃ k : Nat, k ≤ n ∧ i = .int .i64 k ∧ Hid ((L.take k).any (fun A => decide (50 < A.n)) = false) ∧ Hid (Below w.heap.size w wr)) (fun i _ => n - (intOf i).toNat)
    case atStart => exact ⟨0, Nat.zero_le _, rfl, rfl, Below.refl _ _⟩
    case round =>
      obtain ⟨k, hk, rfl, HN, HB⟩ := hrel
      by_cases hlt : k < n
      · obtain ⟨b, off, A, rfl, hc0, hc1, hc2, HK⟩ := (H.out.below HB.out (Nat.le_refl _)).act (k := k) (by rw [HL.out]; exact hlt)
        have hmem : A ∈ L := List.mem_of_getElem? HK.out
        have hAn := HAn.out A hmem
        have HB2 := fun o => Lib.hid (HB.out.alloc HB.out.size o)
        obtain ⟨Ak, Ax, Aa, An, Ac, Al⟩ := A
        simp only [] at hAn hc0 hc1 hc2
        by_cases hg : 50 < An
        · have HE : Hid (greatA L = true) := by
            show _ = _
            rw [HG.out, List.any_eq_true]
            exact ⟨_, hmem, by simpa using hg⟩
          go_wp2
          go_ret
          exact ⟨by rw [HE.out]; rfl, (HB2 _).out⟩
        · have HS := Lib.hid (greatA_step HK.out HN.out hg)
          go_wp2
          go_roundw
          case rel => exact ⟨k + 1, by omega, by go_num, HS, HB2 _⟩
          case measure => simp [intOf]; omega
      · have HE : Hid (greatA L = false) := by
          show _ = _
          have := HN.out
          rw [List.take_of_length_le (by rw [HL.out]; omega)] at this
          rw [HG.out, this]
        go_wp2
        go_ret
        exact ⟨by rw [HE.out]; rfl, HB.out⟩
end Go.Proofs.Ythfdigjbmoconaa
