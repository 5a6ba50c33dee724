/-
  Package bag at string: All.
-/
import Derived.RangeFuncNested
import Derived.RangeFuncBound
import Derived.RangeFuncCalls
import Derived.RangeFuncBox
import Derived.RangeFuncLeaves
import Derived.Shelf.Abstract
import Derived.Shelf.RegionOpen
import Derived.OwnWalkIn
import Derived.TacticsInMore
import Derived.LoopNIn
import Derived.LoopIn
import Derived.Maps.AppendAt
import Derived.Maps.OwnIn
import Derived.Test.YthfdigjbmoconaaBagS2
set_option linter.unusedSimpArgs false
set_option linter.unusedVariables false
namespace Go.Proofs.Ythfdigjbmoconaa
open Go.RowKit Go.Shelf Go.Tr


set_option maxRecDepth 100000 in
set_option maxHeartbeats 2000000 in
/-- The closure of slices.Values: 'for _, v := range s { if !yield(v) { return } }'. -/
theorem svalues1 (l Bs b off len cap : Nat) (zs : List Int) (hreach : len ≤ 1000000) (hl : zs.length = len) (J Jx : List Int → World → Prop)
    (hY : ∀ pre x W, J pre W → pre.length < len → YieldAt Fence.wide 1 Try.prog l #[.string (tx x)] W fun e W' =>
      (e = .returned (.bool true) ∧ J (pre ++ [x]) W' ∧ KeepsB b W W') ∨ (e = .returned (.bool false) ∧ Jx (pre ++ [x]) W'))
    (W : World) (hBs : W.cell? ⟨Bs, 0, none⟩ = some (.slice (some ⟨b, off, none⟩) len cap)) (hc : ∀ j z, zs[j]? = some z → W.cell? ⟨b, off + j, none⟩ = some (.string (tx z))) (h0 : J [] W) :
    CallsIn Fence.wide 2 Try.prog 64 #[.func (.yield l) #[] #[], .pointer (some ⟨Bs, 0, none⟩)] W fun e W' => (∃ v, e = .returned v) ∧
      ((∃ ys, ys = zs ∧ J ys W') ∨ (∃ pre, pre <+: zs ∧ Jx pre W')) := by
  refine callsIn_of_wp Try.func64 rfl trivial ?_ rfl
  simp only [Try.ntmps64, List.size_toArray, List.length_cons, List.length_nil, Nat.reduceAdd, Nat.reduceSub, Array.replicate_succ, Array.replicate_zero, List.push_toArray, List.append_toArray, List.nil_append, List.cons_append]
  gi_wp2
  gi_loopw [7] (fun i wr => ∃ k : Nat, k ≤ len ∧ i = .int .i64 k ∧ J (zs.take k) wr ∧ KeepsB b W wr)
    (fun i _ => len - (intOf i).toNat)
  case atStart => exact ⟨0, Nat.zero_le _, rfl, h0, rfl⟩
  case round =>
    obtain ⟨k, hk, rfl, hJs, hnx⟩ := hrel
    by_cases hlt : k < len
    · obtain ⟨z, hz⟩ : ∃ z, zs[k]? = some z := ⟨_, List.getElem?_eq_getElem (by omega)⟩
      obtain ⟨fn, tmps, assign, body, hy, hR⟩ := hY _ z wr hJs (by rw [List.length_take]; omega)
      have hcx' : wr.cell? ⟨b, off + k, none⟩ = some (.string (tx z)) := (World.cell?_of_block (a := ⟨b, off + k, none⟩) hnx).trans (hc k z hz)
      have htk : Hid (zs.take (k + 1) = zs.take k ++ [z]) := take_snoc hz
      clear hz
      gi_wp2
      refine hR.mono ?_
      rintro e W3 (⟨rfl, hJ3, hk3⟩ | ⟨rfl, hJx3⟩)
      · gi_wp2
        go_roundw
        case rel => exact ⟨k + 1, by omega, by simp, by rw [htk.out]; exact hJ3, keepsB_t hnx hk3⟩
        case measure => simp [intOf]; omega
      · gi_wp2
        refine bodyPost_ret (results_none rfl _ _ _) rfl ?_
        exact ⟨⟨_, rfl⟩, .inr ⟨_, by rw [← htk.out]; exact List.take_prefix _ _, hJx3⟩⟩
    · obtain rfl : k = len := by omega
      gi_wp2
      go_end0
      exact ⟨⟨_, rfl⟩, .inl ⟨_, List.take_of_length_le (by omega), hJs⟩⟩
set_option maxRecDepth 100000 in
set_option maxHeartbeats 1000000 in
/-- .. where there is none: no round. -/
theorem svalues1_none (l Bs c : Nat) (a : Option Addr) (J : List Int → World → Prop) (W : World) (hBs : W.cell? ⟨Bs, 0, none⟩ = some (.slice a 0 c)) (h0 : J [] W) :
    CallsIn Fence.wide 2 Try.prog 64 #[.func (.yield l) #[] #[], .pointer (some ⟨Bs, 0, none⟩)] W fun e W' => (∃ v, e = .returned v) ∧ J [] W' := by
  refine callsIn_of_wp Try.func64 rfl trivial ?_ rfl
  simp only [Try.ntmps64, List.size_toArray, List.length_cons, List.length_nil, Nat.reduceAdd, Nat.reduceSub, Array.replicate_succ, Array.replicate_zero, List.push_toArray, List.append_toArray, List.nil_append, List.cons_append]
  gi_wp2
  gi_loopw [7] (fun i wr => i = .int .i64 0 ∧ J [] wr) (fun _ _ => 0)
  case atStart => exact ⟨rfl, h0⟩
  case round =>
    obtain ⟨rfl, hJs⟩ := hrel
    gi_wp2
    go_end0
    exact ⟨⟨_, rfl⟩, hJs⟩
/-- What slices.Values has handed back: all of zs, in order; or a part, from its start on. -/
theorem svalues_stops (Bs b cap : Nat) (a : Option Addr) (zs : List Int) (hs : zs.length ≤ 1000000) (w : World) (hBs : Bs < w.heap.size) (hc : w.cell? ⟨Bs, 0, none⟩ = some (.slice a zs.length cap)) (hI : SeqAt w a (strs zs)) (hb : ∀ b' o, a = some ⟨b', o, none⟩ → b' = b) :
    SeqStopsK Fence.wide 2 Try.prog 64 #[.pointer (some ⟨Bs, 0, none⟩)] (fun x : Int => #[Value.string (tx x)]) (KeepsB b) (fun ys => ys = zs) (fun pre => pre <+: zs) zs.length w := fun l J Jx W hW _ _ hY h0 => by
  have hc' := (hW.cell (p := ⟨Bs, 0, none⟩) hBs).trans hc
  by_cases h : zs.length = 0
  · have hz : zs = [] := List.eq_nil_of_length_eq_zero h
    subst hz
    exact (svalues1_none l Bs cap a J W hc' h0).mono fun e W' ⟨he, hj⟩ => ⟨he, .inl ⟨_, rfl, hj⟩⟩
  · have hI' := hI.below hW (Nat.le_refl _)
    obtain ⟨b', off, rfl, hcell⟩ := hI' (by rw [strs_length]; omega)
    obtain rfl := hb b' off rfl
    refine svalues1 l Bs b' off zs.length cap zs hs rfl J Jx hY W hc' (fun j z hj => ?_) h0
    have hjl := (List.getElem?_eq_some_iff.1 hj).1
    rw [hcell j (by rw [strs_length]; exact hjl)]
    simp [strs, List.getD, hjl, sv]
    simpa [hjl] using congrArg (Option.map tx) hj

variable {n₀ : Nat} {w w' : World} {g : Nat} {v : Value} {zs : List Int}
theorem svals_any (a : Option Addr) (n c : Nat) (w : World) : Calls Try.prog 50 #[.slice a n c] w fun e w' => e = .returned (.func (.func 64) #[] #[.pointer (some ⟨w.heap.size, 0, none⟩)]) ∧ w' = w.alloc (.cells #[.slice a n c] 44) := by
  go_enter Try.func50, Try.ntmps50
  go_wp2
  go_ret
  exact ⟨rfl, rfl⟩
theorem sall_any (w : World) (h : BagSAt n₀ w g v zs) (hs : zs.length ≤ 1000000) : Calls Try.prog 27 #[.pointer (some ⟨g, 0, none⟩)] w fun e w' => ∃ Bs b a cap, e = .returned (.func (.func 64) #[] #[.pointer (some ⟨Bs, 0, none⟩)]) ∧ Bs < w'.heap.size ∧ w'.cell? ⟨Bs, 0, none⟩ = some (.slice a zs.length cap) ∧ SeqAt w' a (strs zs) ∧ (∀ b' o, a = some ⟨b', o, none⟩ → b' = b) ∧ w.heap.size ≤ b ∧ b < w'.heap.size ∧ Below w.heap.size w w' := by
  obtain ⟨c0, f0⟩ := h.head
  obtain ⟨a, c, rfl, hsq⟩ := h.seq
  have HC := Lib.hid (cloneS_any a _ c zs w hsq rfl hs)
  clear h hsq
  go_enter Try.func27, Try.ntmps27
  go_wp2_with fail
  refine HC.out.mono ?_
  rintro e w1 ⟨v1, rfl, ho, hb⟩
  have HO := Lib.hid ho
  have HB := Lib.hid hb
  obtain ⟨a1, c1, rfl, hq1, -, -⟩ := ownsRow_seq ho
  have HQ := Lib.hid hq1
  clear ho hb HC hq1
  go_wp2_with fail
  refine (svals_any a1 _ c1 _).mono ?_
  rintro e w2 ⟨rfl, rfl⟩
  go_wp2
  go_ret
  have hb2 : Below w1.heap.size w1 (w1.alloc (.cells #[.slice a1 zs.length c1] 44)) := (Below.refl _ w1).alloc (Nat.le_refl _) _
  refine ⟨w1.heap.size, ((Value.slice a1 zs.length c1).ownBlock).getD w1.heap.size, a1, c1, rfl, by simp, cell_of_row _ _ 0 _ 44 (0, 0) (heap_alloc_new w1 _), HQ.out.below hb2 (Nat.le_refl _), fun b' o e => by subst e; rfl, ?_, ?_, HB.out.trans (hb2.mono HB.out.size)⟩
  · cases hh : (Value.slice a1 zs.length c1).ownBlock with
    | none => exact HB.out.size
    | some k => exact (HO.out.lt k hh).1
  · cases hh : (Value.slice a1 zs.length c1).ownBlock with
    | none => simp
    | some k => have := (HO.out.lt k hh).2; simp; omega

end Go.Proofs.Ythfdigjbmoconaa
