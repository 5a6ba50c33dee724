/-
  turnrowlaw13.alive: the document's example of Order. The walk.
-/
import Derived.Test.YtcfapidalngebaaOrder
import Derived.Test.YtcfapidalngebaaSame
set_option linter.unusedSimpArgs false
set_option linter.unusedVariables false
namespace Go.Proofs.Ytcfapidalngebaa
open Go.RowKit Go.Tr

set_option maxRecDepth 100000 in
theorem alive13_any (w : World) : Calls Try.prog 14 #[] w fun e w' => e = .returned (.bool true) ∧ Below w.heap.size w w' := by
  go_enter Try.func14, Try.ntmps14
  go_wp2_with fail
  refine (order_any _ _ 2 2 4 4 [5, 2] [(2, 7), (5, 1), (1, 5), (9, 3)] _ ?h1 ?h2 rfl rfl (by decide)).mono ?_
  case h1 => exact seqAt_block (cs := #[iv 5, iv 2]) ((Below.heap_alloc _ _ _ (by simp)).trans (heap_alloc_new w _))
  case h2 => exact seqAt_block (b := w.heap.size + 1) (cs := #[iv 2, iv 7, iv 5, iv 1, iv 1, iv 5, iv 9, iv 3]) (by have := heap_alloc_new (w.alloc (.cells #[iv 5, iv 2] 3)) (.cells #[iv 2, iv 7, iv 5, iv 1, iv 1, iv 5, iv 9, iv 3] 29); simpa [iv] using this)
  rintro e w1 ⟨v, rfl, ho, hb⟩
  obtain ⟨a, cap, rfl, hs, _⟩ := ownsRow_seq ho
  have HS := Lib.hid hs
  have HB := Lib.hid hb
  clear hs ho hb
  have e0 : (orderL [5, 2] [(2, 7), (5, 1), (1, 5), (9, 3)]) = [5, 2, 1, 7] := by decide
  rw [e0] at HS
  simp only [e0, List.length_cons, List.length_nil, Nat.zero_add, Nat.reduceAdd]
  go_wp2_with fail
  refine (same_any a _ 4 cap 4 4 [5, 2, 1, 7] [5, 2, 1, 7] _ ?h3 ?h4 rfl rfl (by decide)).mono ?_
  case h3 => exact HS.out.below ((Below.refl _ _).alloc (Nat.le_refl _) _) (Nat.le_refl _)
  case h4 => exact seqAt_block (cs := #[iv 5, iv 2, iv 1, iv 7]) (heap_alloc_new w1 _)
  rintro e w2 ⟨rfl, hd⟩
  have HD := Lib.hid hd; clear hd
  go_wp2
  go_ret
  refine ⟨rfl, ((((Below.refl _ w).alloc (Nat.le_refl _) _).alloc (by simp) _).trans (HB.out.mono (by simp; omega))).trans ((((Below.refl _ w1).alloc ?_ _)).trans (HD.out.below _))⟩
  have := HB.out.size; simp at this; omega
end Go.Proofs.Ytcfapidalngebaa
