/-
  turnrowlaw08.alive; BagWalks.
-/
import Derived.Test.YthfdigjbmoconaaBagAll
import Derived.Test.YthfdigjbmoconaaSame
set_option linter.unusedSimpArgs false
set_option linter.unusedVariables false
namespace Go.Proofs.Ythfdigjbmoconaa
open Go.RowKit Go.Tr

theorem own_below {w w' : World} {base : Nat} {e : TypeId} {v : Value} {zs : List Int} (h : own3 w e base v zs) (hb : Below w.heap.size w w') : own3 w' e base v zs := ownsRow_kept h (fun k hk => hb.block _ (h.lt k hk).2)
theorem ex_set : setL [3, 1, 3] = [1, 3] := rises_eq (setL_rises _) (by decide) (fun z => by rw [mem_setL]; simp; omega)
theorem ex_pos : posL [1, 3] 2 = 1 := by decide
set_option maxRecDepth 100000 in
set_option maxHeartbeats 1000000 in
theorem alive08_any (w : World) : Calls Try.prog 10 #[] w fun e w' => e = .returned (.bool true) ∧ Below w.heap.size w w' := by
  have HN := Lib.hid (bnew_any (some ⟨w.heap.size, 0, none⟩) 3 3 [3, 1, 3] (w.alloc (.cells #[iv 3, iv 1, iv 3] 3)) (seqAt_block (cs := #[iv 3, iv 1, iv 3]) (heap_alloc_new w _)) rfl (by decide))
  rw [ex_set] at HN
  go_enter Try.func10, Try.ntmps10
  go_wp2_with fail
  refine HN.out.mono ?_
  rintro e w1 ⟨g, v, rfl, hbag, hb⟩
  have HB1 : Hid (Below w.heap.size w w1) := ((Below.refl _ w).alloc (Nat.le_refl _) _).trans (hb.mono (by simp))
  have HG := Lib.hid hbag
  clear hbag hb HN
  go_wp2_with fail
  refine (bfirst_any 2 _ HG.out (by decide)).mono ?_
  rintro e w2 ⟨rfl, hd⟩
  rw [ex_pos]
  have HB2 := Lib.hid (HB1.out.trans (hd.below _))
  have HG2 := Lib.hid (HG.out.below (hd.below _))
  clear hd HB1 HG
  simp only [show ([1, 3] : List Int)[1]?.getD 0 = 3 from rfl, show decide (1 < ([1, 3] : List Int).length) = true from rfl]
  go_wp2_with fail
  refine (all_any _ HG2.out (by decide)).mono ?_
  rintro e w3 ⟨v3, rfl, ho, hb⟩
  have HB3 := Lib.hid (HB2.out.trans (hb.mono HB2.out.size))
  have HG3 := Lib.hid (HG2.out.below hb)
  obtain ⟨a3, c3, rfl, hq, -, -⟩ := ownsRow_seq ho
  have HQ := Lib.hid hq
  clear ho hb hq HB2 HG2
  go_wp2_with fail
  refine (same_any a3 _ 2 c3 2 2 [1, 3] [1, 3] _ ?h3 ?h4 rfl rfl (by decide)).mono ?_
  case h3 => exact HQ.out.below ((Below.refl _ _).alloc (Nat.le_refl _) _) (Nat.le_refl _)
  case h4 => exact seqAt_block (cs := #[iv 1, iv 3]) (heap_alloc_new w3 _)
  rintro e w4 ⟨rfl, hd⟩
  rw [show sameL [1, 3] [1, 3] = true from rfl]
  have hb4 : Below w3.heap.size w3 w4 := ((Below.refl _ w3).alloc (Nat.le_refl _) _).trans (hd.below _)
  have HB4 := Lib.hid (HB3.out.trans (hb4.mono HB3.out.size))
  have HG4 := Lib.hid (HG3.out.below hb4)
  clear hd hb4 HB3 HG3
  go_wp2_with fail
  refine (blen_any _ HG4.out).mono ?_
  rintro e w5 ⟨rfl, rfl⟩
  go_wp2_with fail
  go_ret
  exact ⟨rfl, HB4.out⟩
end Go.Proofs.Ythfdigjbmoconaa
