/-
  turnrowlaw14.alive: the walk.
-/
import Derived.Test.YtcfapidalngebaaGrayS
set_option linter.unusedSimpArgs false
set_option linter.unusedVariables false
namespace Go.Proofs.Ytcfapidalngebaa
open Go.RowKit Go.Tr

def al0 : GS := GS.new.put [4, 7, 4]
def al1 : GS := al0.next.2
def al2 : GS := al1.put [4]
def al3 : GS := al2.again 4
def al4 : GS := al3.next.2
theorem al0_putN : GS.new.putN [4, 7, 4] = 2 := by decide
theorem al0_next : al0.next.1 = some 4 := by decide
theorem al1_putN : al1.putN [4] = 0 := by decide
theorem al2_color : al2.color 4 = 2 := by decide
theorem al3_next : al3.next.1 = some 7 := by decide
theorem al4_color : al4.color 4 = 1 ∧ al4.color 7 = 2 ∧ al4.color 9 = 0 := by decide

set_option maxRecDepth 100000 in
set_option maxHeartbeats 1000000 in
theorem alive14_any (w : World) : Calls Try.prog 20 #[] w fun e w' => e = .returned (.bool true) ∧ Below w.heap.size w w' := by
  go_enter Try.func20, Try.ntmps20
  go_wp2_with fail
  refine (newS _).mono ?_
  rintro e w1 ⟨g, rfl, hg⟩
  have HG := Lib.hid hg; clear hg
  go_wp2_with fail
  refine (putA 3 [4, 7, 4] _ _ _ ?hcs HG.out rfl ?hsm).mono ?_
  case hcs => rfl
  case hsm => refine ⟨?_, ?_, ?_, ?_, ?_⟩ <;> decide
  rintro e w2 ⟨rfl, hg⟩
  rw [al0_putN]
  have HG2 : Hid (GInv w g w2 al0) := hg; clear hg HG
  go_wp2_with fail
  refine (nextS _ HG2.out ?hsm).mono ?_
  case hsm => refine ⟨?_, ?_, ?_, ?_, ?_⟩ <;> decide
  rintro e w3 ⟨rfl, hg⟩
  rw [show nextV al0.next = .tuple #[.int .i64 4, .bool true] by rw [nextV, al0_next]; rfl]
  have HG3 : Hid (GInv w g w3 al1) := hg; clear hg HG2
  go_wp2_with fail
  refine (putA 1 [4] _ _ _ ?hcs HG3.out rfl ?hsm).mono ?_
  case hcs => rfl
  case hsm => refine ⟨?_, ?_, ?_, ?_, ?_⟩ <;> decide
  rintro e w4 ⟨rfl, hg⟩
  rw [al1_putN]
  have HG4 : Hid (GInv w g w4 al2) := hg; clear hg HG3
  go_wp2_with fail
  refine (againS 4 _ HG4.out ?hsm).mono ?_
  case hsm => refine ⟨?_, ?_, ?_, ?_, ?_⟩ <;> decide
  rintro e w5 ⟨rfl, hg⟩
  rw [al2_color]
  have HG5 : Hid (GInv w g w5 al3) := hg; clear hg HG4
  go_wp2_with fail
  refine (nextS _ HG5.out ?hsm).mono ?_
  case hsm => refine ⟨?_, ?_, ?_, ?_, ?_⟩ <;> decide
  rintro e w6 ⟨rfl, hg⟩
  rw [show nextV al3.next = .tuple #[.int .i64 7, .bool true] by rw [nextV, al3_next]; rfl]
  have HG6 : Hid (GInv w g w6 al4) := hg; clear hg HG5
  go_wp2_with fail
  refine (colorS 4 _ HG6.out).mono ?_
  rintro e w7 ⟨rfl, rfl⟩
  rw [al4_color.1]
  go_wp2_with fail
  refine (colorS 7 _ HG6.out).mono ?_
  rintro e w7 ⟨rfl, rfl⟩
  rw [al4_color.2.1]
  go_wp2_with fail
  refine (colorS 9 _ HG6.out).mono ?_
  rintro e w7 ⟨rfl, rfl⟩
  rw [al4_color.2.2]
  go_wp2_with fail
  go_ret
  exact ⟨rfl, HG6.out.toBelow⟩
end Go.Proofs.Ytcfapidalngebaa
