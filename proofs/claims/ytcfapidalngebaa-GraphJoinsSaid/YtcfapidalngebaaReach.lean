/-
  graph.Reach: what is reached, rising. The walk.
-/
import Derived.Test.YtcfapidalngebaaSort
import Derived.Test.YtcfapidalngebaaOrder
set_option linter.unusedSimpArgs false
set_option linter.unusedVariables false
namespace Go.Proofs.Ytcfapidalngebaa
open Go.RowKit Go.Tr

def reachL (roots : List Int) (E : Edges) : List Int := sortL (orderL roots E)
theorem mem_reachL {roots : List Int} {E : Edges} {x : Int} : x ∈ reachL roots E ↔ x ∈ orderL roots E := mem_sortL
theorem reachL_length (roots : List Int) (E : Edges) : (reachL roots E).length ≤ roots.length + E.length := by unfold reachL; rw [sortL_length]; exact order_length roots E
theorem reachL_rises (roots : List Int) (E : Edges) : (reachL roots E).Pairwise (· < ·) := by
  have h1 := sortL_sorted (orderL roots E)
  have h2 : (sortL (orderL roots E)).Nodup := (sortL_perm _).nodup_iff.2 (order_nodup roots E)
  exact (h1.and h2).imp (fun h => by have := h.1; have := h.2; omega)

set_option maxRecDepth 100000 in
theorem reach_any (ra ea : Option Addr) (rn rc en ec : Nat) (roots : List Int) (E : Edges) (w : World) (hr : SeqAt w ra (ints roots)) (he : SeqAt w ea (ecells E)) (hrn : roots.length = rn) (hen : E.length = en) (hs : rn + en ≤ 1000000) :
    Calls Try.prog 29 #[.slice ra rn rc, .slice ea en ec] w fun e w' => ∃ v, e = .returned v ∧ own3 w' 3 w.heap.size v (reachL roots E) ∧ Below w.heap.size w w' := by
  have HRN := Lib.hid hrn
  have HEN := Lib.hid hen
  have HO := fun W hW1 hW2 => Lib.hid (order_any ra ea rn rc en ec roots E W hW1 hW2 hrn hen (by omega))
  have HR := Lib.hid hr
  have HE := Lib.hid he
  have hol := order_length roots E
  clear hr he hrn hen
  go_enter Try.func29, Try.ntmps29
  go_wp2_with fail
  refine (HO _ HR.out HE.out).out.mono ?_
  rintro e w1 ⟨v, rfl, ho, hb⟩
  have HV := Lib.hid ho
  have HB := Lib.hid hb
  clear ho hb HO
  go_wp2_with fail
  refine (sort_own w.heap.size v (orderL roots E) w1 HV.out (by have := HRN.out; have := HEN.out; omega)).mono ?_
  rintro e w2 ⟨rfl, ho, hg⟩
  have HV2 := Lib.hid ho
  have HB2 : Hid (Below w.heap.size w w2) := HB.out.grown hg HB.out.size (fun j hj => (HV.out.lt j hj).1)
  clear ho hg
  go_wp2
  go_ret
  exact ⟨_, rfl, HV2.out, HB2.out⟩
end Go.Proofs.Ytcfapidalngebaa
