/-
  Parts of the proof, one behind the other: KDrop.
-/
import Derived.Test.YtcdpnfchmpncjaaGreatDoorMa37
set_option linter.unusedSimpArgs false
set_option linter.unusedVariables false
namespace Go.Proofs.YtcdpnfchmpncjaaGreatDoor
open Go.RowKit Go.Tr Go.Shelf
variable {w w' : World} {F G : Nat → Prop} {g s o a en C Wd : Nat} {ps : List (Nat × Nat)} {ws own : List Nat}
theorem udropN_any (c : Nat) (w : World) (h : SpF 154 w F g s o ps a en) (hl : ps.length ≤ 100000) (hf : findPart ps c = none) :
    Calls Tryz.prog 70 #[.pointer (some ⟨g, 0, none⟩), .int .i64 c] w fun e w' => e = .returned (.int .i64 6) ∧ Below w.heap.size w w' := by
  have HFD := Lib.hid (ufind_any c w h (by omega))
  rw [hf] at HFD
  clear h hl hf
  go_enter Tryz.func70, Tryz.ntmps70
  go_wp2_with fail
  refine HFD.out.mono ?_
  rintro e w1 ⟨rfl, hb1⟩
  unfold partV
  have HB1 := Lib.hid hb1
  clear hb1
  go_wp2
  go_ret
  exact ⟨rfl, HB1.out.alloc HB1.out.size _⟩
end Go.Proofs.YtcdpnfchmpncjaaGreatDoor
