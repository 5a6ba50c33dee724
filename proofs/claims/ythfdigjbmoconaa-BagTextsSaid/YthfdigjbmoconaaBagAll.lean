/-
  Package bag at int: All, and turnrowlaw08.all, which ranges over it.
-/
import Derived.RangeFuncNested
import Derived.RangeFuncBound
import Derived.RangeFuncCalls
import Derived.RangeFuncBox
import Derived.RangeFuncLeaves
import Derived.Shelf.Abstract
import Derived.Shelf.RegionOpen
import Derived.OwnWalkIn
import Derived.TacticsInMore
import Derived.LoopNIn
import Derived.LoopIn
import Derived.Maps.AppendAt
import Derived.Maps.OwnIn
import Derived.Test.YthfdigjbmoconaaBag1
set_option linter.unusedSimpArgs false
set_option linter.unusedVariables false
namespace Go.Proofs.Ythfdigjbmoconaa
open Go.RowKit Go.Shelf Go.Tr


/-- What a round must keep: block b. -/
def KeepsB (b : Nat) (W W' : World) : Prop := W'.heap[b]? = W.heap[b]?
theorem keepsB_t {b : Nat} {A B C : World} (h : KeepsB b A B) (k : KeepsB b B C) : KeepsB b A C := Eq.trans k h

set_option maxRecDepth 100000 in
set_option maxHeartbeats 2000000 in
/-- The closure of slices.Values: 'for _, v := range s { if !yield(v) { return } }'. -/
theorem bvalues1 (l Bs b off len cap : Nat) (zs : List Int) (hreach : len ≤ 1000000) (hl : zs.length = len) (J Jx : List Int → World → Prop)
    (hY : ∀ pre x W, J pre W → pre.length < len → YieldAt Fence.wide 1 Try.prog l #[.int .i64 x] W fun e W' =>
      (e = .returned (.bool true) ∧ J (pre ++ [x]) W' ∧ KeepsB b W W') ∨ (e = .returned (.bool false) ∧ Jx (pre ++ [x]) W'))
    (W : World) (hBs : W.cell? ⟨Bs, 0, none⟩ = some (.slice (some ⟨b, off, none⟩) len cap)) (hc : ∀ j z, zs[j]? = some z → W.cell? ⟨b, off + j, none⟩ = some (.int .i64 z)) (h0 : J [] W) :
    CallsIn Fence.wide 2 Try.prog 63 #[.func (.yield l) #[] #[], .pointer (some ⟨Bs, 0, none⟩)] W fun e W' => (∃ v, e = .returned v) ∧
      ((∃ ys, ys = zs ∧ J ys W') ∨ (∃ pre, pre <+: zs ∧ Jx pre W')) := by
  refine callsIn_of_wp Try.func63 rfl trivial ?_ rfl
  simp only [Try.ntmps63, List.size_toArray, List.length_cons, List.length_nil, Nat.reduceAdd, Nat.reduceSub, Array.replicate_succ, Array.replicate_zero, List.push_toArray, List.append_toArray, List.nil_append, List.cons_append]
  gi_wp2
  gi_loopw [7] (fun i wr => ∃ k : Nat, k ≤ len ∧ i = .int .i64 k ∧ J (zs.take k) wr ∧ KeepsB b W wr)
    (fun i _ => len - (intOf i).toNat)
  case atStart => exact ⟨0, Nat.zero_le _, rfl, h0, rfl⟩
  case round =>
    obtain ⟨k, hk, rfl, hJs, hnx⟩ := hrel
    by_cases hlt : k < len
    · obtain ⟨z, hz⟩ : ∃ z, zs[k]? = some z := ⟨_, List.getElem?_eq_getElem (by omega)⟩
      obtain ⟨fn, tmps, assign, body, hy, hR⟩ := hY _ z wr hJs (by rw [List.length_take]; omega)
      have hcx' : wr.cell? ⟨b, off + k, none⟩ = some (.int .i64 z) := (World.cell?_of_block (a := ⟨b, off + k, none⟩) hnx).trans (hc k z hz)
      have htk : Hid (zs.take (k + 1) = zs.take k ++ [z]) := take_snoc hz
      clear hz
      gi_wp2
      refine hR.mono ?_
      rintro e W3 (⟨rfl, hJ3, hk3⟩ | ⟨rfl, hJx3⟩)
      · gi_wp2
        go_roundw
        case rel => exact ⟨k + 1, by omega, by simp, by rw [htk.out]; exact hJ3, keepsB_t hnx hk3⟩
        case measure => simp [intOf]; omega
      · gi_wp2
        refine bodyPost_ret (results_none rfl _ _ _) rfl ?_
        exact ⟨⟨_, rfl⟩, .inr ⟨_, by rw [← htk.out]; exact List.take_prefix _ _, hJx3⟩⟩
    · obtain rfl : k = len := by omega
      gi_wp2
      go_end0
      exact ⟨⟨_, rfl⟩, .inl ⟨_, List.take_of_length_le (by omega), hJs⟩⟩
set_option maxRecDepth 100000 in
set_option maxHeartbeats 1000000 in
/-- .. where there is none: no round. -/
theorem bvalues1_none (l Bs c : Nat) (a : Option Addr) (J : List Int → World → Prop) (W : World) (hBs : W.cell? ⟨Bs, 0, none⟩ = some (.slice a 0 c)) (h0 : J [] W) :
    CallsIn Fence.wide 2 Try.prog 63 #[.func (.yield l) #[] #[], .pointer (some ⟨Bs, 0, none⟩)] W fun e W' => (∃ v, e = .returned v) ∧ J [] W' := by
  refine callsIn_of_wp Try.func63 rfl trivial ?_ rfl
  simp only [Try.ntmps63, List.size_toArray, List.length_cons, List.length_nil, Nat.reduceAdd, Nat.reduceSub, Array.replicate_succ, Array.replicate_zero, List.push_toArray, List.append_toArray, List.nil_append, List.cons_append]
  gi_wp2
  gi_loopw [7] (fun i wr => i = .int .i64 0 ∧ J [] wr) (fun _ _ => 0)
  case atStart => exact ⟨rfl, h0⟩
  case round =>
    obtain ⟨rfl, hJs⟩ := hrel
    gi_wp2
    go_end0
    exact ⟨⟨_, rfl⟩, hJs⟩
/-- What slices.Values has handed back: all of zs, in order; or a part, from its start on. -/
theorem bvalues_stops (Bs b cap : Nat) (a : Option Addr) (zs : List Int) (hs : zs.length ≤ 1000000) (w : World) (hBs : Bs < w.heap.size) (hc : w.cell? ⟨Bs, 0, none⟩ = some (.slice a zs.length cap)) (hI : SeqAt w a (ints zs)) (hb : ∀ b' o, a = some ⟨b', o, none⟩ → b' = b) :
    SeqStopsK Fence.wide 2 Try.prog 63 #[.pointer (some ⟨Bs, 0, none⟩)] (fun x : Int => #[Value.int .i64 x]) (KeepsB b) (fun ys => ys = zs) (fun pre => pre <+: zs) zs.length w := fun l J Jx W hW _ _ hY h0 => by
  have hc' := (hW.cell (p := ⟨Bs, 0, none⟩) hBs).trans hc
  by_cases h : zs.length = 0
  · have hz : zs = [] := List.eq_nil_of_length_eq_zero h
    subst hz
    exact (bvalues1_none l Bs cap a J W hc' h0).mono fun e W' ⟨he, hj⟩ => ⟨he, .inl ⟨_, rfl, hj⟩⟩
  · have hI' := hI.below hW (Nat.le_refl _)
    obtain ⟨b', off, rfl, hcell⟩ := hI' (by rw [ints_length]; omega)
    obtain rfl := hb b' off rfl
    refine bvalues1 l Bs b' off zs.length cap zs hs rfl J Jx hY W hc' (fun j z hj => ?_) h0
    have hjl := (List.getElem?_eq_some_iff.1 hj).1
    rw [hcell j (by rw [ints_length]; exact hjl)]
    simp [ints, List.getD, hj, iv]

variable {n₀ : Nat} {w w' : World} {g : Nat} {v : Value} {zs : List Int}
theorem vals_any (a : Option Addr) (n c : Nat) (w : World) : Calls Try.prog 48 #[.slice a n c] w fun e w' => e = .returned (.func (.func 63) #[] #[.pointer (some ⟨w.heap.size, 0, none⟩)]) ∧ w' = w.alloc (.cells #[.slice a n c] 22) := by
  go_enter Try.func48, Try.ntmps48
  go_wp2
  go_ret
  exact ⟨rfl, rfl⟩
theorem ball_any (w : World) (h : BagAt n₀ w g v zs) (hs : zs.length ≤ 1000000) : Calls Try.prog 26 #[.pointer (some ⟨g, 0, none⟩)] w fun e w' => ∃ Bs b a cap, e = .returned (.func (.func 63) #[] #[.pointer (some ⟨Bs, 0, none⟩)]) ∧ Bs < w'.heap.size ∧ w'.cell? ⟨Bs, 0, none⟩ = some (.slice a zs.length cap) ∧ SeqAt w' a (ints zs) ∧ (∀ b' o, a = some ⟨b', o, none⟩ → b' = b) ∧ w.heap.size ≤ b ∧ b < w'.heap.size ∧ Below w.heap.size w w' := by
  obtain ⟨c0, f0⟩ := h.head
  obtain ⟨a, c, rfl, hsq⟩ := h.seq
  have HC := Lib.hid (clone_any a _ c zs w hsq rfl hs)
  clear h hsq
  go_enter Try.func26, Try.ntmps26
  go_wp2_with fail
  refine HC.out.mono ?_
  rintro e w1 ⟨v1, rfl, ho, hb⟩
  have HO := Lib.hid ho
  have HB := Lib.hid hb
  obtain ⟨a1, c1, rfl, hq1, -, -⟩ := ownsRow_seq ho
  have HQ := Lib.hid hq1
  clear ho hb HC hq1
  go_wp2_with fail
  refine (vals_any a1 _ c1 _).mono ?_
  rintro e w2 ⟨rfl, rfl⟩
  go_wp2
  go_ret
  have hb2 : Below w1.heap.size w1 (w1.alloc (.cells #[.slice a1 zs.length c1] 22)) := (Below.refl _ w1).alloc (Nat.le_refl _) _
  refine ⟨w1.heap.size, ((Value.slice a1 zs.length c1).ownBlock).getD w1.heap.size, a1, c1, rfl, by simp, cell_of_row _ _ 0 _ 22 (0, 0) (heap_alloc_new w1 _), HQ.out.below hb2 (Nat.le_refl _), fun b' o e => by subst e; rfl, ?_, ?_, HB.out.trans (hb2.mono HB.out.size)⟩
  · cases hh : (Value.slice a1 zs.length c1).ownBlock with
    | none => exact HB.out.size
    | some k => exact (HO.out.lt k hh).1
  · cases hh : (Value.slice a1 zs.length c1).ownBlock with
    | none => simp
    | some k => have := (HO.out.lt k hh).2; simp; omega

theorem infoIntB : (Try.prog.info? 3).map (fun i => (i.zero, i.size, i.bytes)) = some (some (.int .i64 0), 1, 8) := by kernel_rfl
theorem keepsB_b {b n : Nat} (hb : b < n) (W : World) (l : Nat) (o o' : Obj) (hl : n ≤ l) (h : W.heap[l]? = some o) (_ : o.isCells = false) (_ : o.isWalk = false) : KeepsB b W (W.putObj l o') :=
  (grownBy_putObj' W l o').block b (by have := (Array.getElem?_eq_some_iff.1 h).1; omega) (by simp; omega)
set_option maxRecDepth 100000 in
set_option maxHeartbeats 2000000 in
/-- 'for x := range b.All() { out = append(out, x) }': what the bag has, in a slice of the call's own. -/
theorem all_any (w : World) (h : BagAt n₀ w g v zs) (hs : zs.length ≤ 1000000) : Calls Try.prog 11 #[.pointer (some ⟨g, 0, none⟩)] w fun e w' => ∃ v', e = .returned v' ∧ own3 w' 3 w.heap.size v' zs ∧ Below w.heap.size w w' := by
  obtain ⟨i0, hi, hz0, hz1, hz2⟩ := info_parts infoIntB
  have HB := Lib.hid (callsIn_wide (n := 2).2 (ball_any _ (h.below ((Below.refl _ w).alloc (Nat.le_refl _) (.cells #[.slice none 0 0] 22))) hs))
  clear h
  refine (callsIn_wide (n := 3)).1 ?_
  refine callsIn_of_wp_marks Try.func11 rfl trivial ?_ rfl
  simp only [Try.ntmps11, List.size_toArray, List.length_cons, List.length_nil, Nat.reduceAdd, Nat.reduceSub, Array.replicate_succ, Array.replicate_zero, List.push_toArray, List.append_toArray, List.nil_append, List.cons_append]
  gi_wp2_with (refine ⟨trivial, ?_⟩; gi_at_call 26; refine HB.out.mono ?_; rintro e w2 ⟨Bs, b, a, cap, rfl, hBs, hcs, hI, hb, hb1, hb2, hbl⟩)
  have bO : Boxed w2 w.heap.size 22 (.slice none 0 0) := (hbl.block w.heap.size (by simp)).trans (Boxed.new w 22 (.slice none 0 0))
  have hB0 : Below w.heap.size w w2 := ((Below.refl _ w).alloc (Nat.le_refl _) _).trans (hbl.mono (by simp))
  have hsz := hB0.size
  simp only [World.size_alloc] at hb1
  refine wpIn_rangeFunc_ownG rfl (by omega) (gf := 63) (lb := #[.pointer (some ⟨Bs, 0, none⟩)]) rfl trivial (enters_of Try.func63 (by kernel_rfl) rfl)
    (bvalues_stops Bs b cap a zs hs w2 hBs hcs hI hb) (fun h k => keepsB_t h k) (keepsB_b hb2) (Below.refl _ _) (fun _ => rfl)
    (fun pre W => (∃ v, Boxed W w.heap.size 22 v ∧ W.ownsRow w.heap.size 3 1 v pre.length (ints pre) ∧ (∀ k, v.ownBlock = some k → b < k)) ∧ Below w.heap.size w W ∧ b < W.heap.size)
    (fun _ _ _ => False)
    (OwnFrom.and (Own.from (holdsRow_own w.heap.size w.heap.size 22 3 1 (fun pre : List Int => pre.length) (fun pre => ints pre) (fun pre v => ∀ k, v.ownBlock = some k → b < k)) _) (OwnFrom.and (ownFrom_below (Nat.le_refl _) hsz) (fun s A B row hs hg _ => Nat.lt_of_lt_of_le hs hg.size)))
    (fun _ _ _ _ _ hs _ _ => hs)
    ⟨⟨_, bO, World.ownsRow_nil _ _ _ _, fun k hk => by simp [Value.ownBlock] at hk⟩, hB0, hb2⟩
    (fun x => { tmps := #[.pointer (some ⟨g, 0, none⟩), undef, .slice none 0 0, .pointer (some ⟨w.heap.size, 0, none⟩), .int .i64 x, .pointer (some ⟨g, 0, none⟩), .func (.func 63) #[] #[.pointer (some ⟨Bs, 0, none⟩)], .int .i64 x, undef, undef, undef, undef, undef], defers := [] }) ?assign ?body ?done ?stop
  case assign =>
    intro l x W K hK
    have hsem := @Oper.semAt_some
    gi_wp2
    exact hK
  case body =>
    rintro l pre x W ⟨⟨v, hv, hrow, hnb⟩, hB, hbW⟩ hlt
    have hc := hv.cell
    have hpl : pre.length < 1000000 := by omega
    have hsem := @Oper.semAt_some
    gi_wp2_with (gi_at_builtin; refine wpListIn_append_own_at _ rfl _ _ 22 rfl w.heap.size 3 i0 (.int .i64 0) 1 8 Try.underlying22 hi hz0 hz1 hz2 rfl (by decide) _ _ _ rfl (hrow.alloc _) ⟨W.heap.size, 0, none⟩ 1 1 [.int .i64 x] rfl rfl (cell_one_new _ _ _) (by simp [Value.oneCell']) (by unfold maxLen; omega) (by omega) (by have := hB.size; simp; omega) ?_; intro v' w1 hown' hgrow _ hob; obtain ⟨g', cap', rfl⟩ := ownsRow_succ hown'; obtain ⟨hv1, hv2, hr2, hk2, hb2⟩ := hv.appended (by decide) hrow hB.size (Nat.le_refl _) hown' hgrow; have hc1 := hv1.cell; have hf1 := hv1.frozen)
    have hkb : KeepsB b W (w1.setCell ⟨w.heap.size, 0, none⟩ (.slice (some ⟨g', 0, none⟩) (pre.length + 1) cap')) := by
      have h1 : w1.heap[b]? = W.heap[b]? := (hgrow.block b (by simp; omega) (fun e => by have := hnb b e.symm; omega)).trans (Below.heap_alloc W _ _ hbW)
      exact (Below.heap_setCell w1 ⟨w.heap.size, 0, none⟩ _ b (by simp; omega)).trans h1
    refine ⟨hk2.from _, hkb, ⟨_, hv2, by simpa [ints, iv] using hr2, fun k hk => ?_⟩, hB.trans hb2, Nat.lt_of_lt_of_le hbW hb2.size⟩
    rcases hob with e | e
    · exact hnb k ((show v.ownBlock = some k from by rw [← hk]; exact e.symm))
    · have : some k = some (W.heap.size + 1) := by rw [← hk, e]; simp
      cases this
      omega
  case done =>
    rintro D ys W hD rfl ⟨⟨v, hv, hrow, hnb⟩, hB, hbW⟩ hK
    have hc := hv.cell
    gi_wp2
    refine ⟨by simp, .inl ⟨_, _, rfl, run_takeDeferred hK, ?_⟩⟩
    exact ⟨_, results_tmp rfl _ _ _, v, rfl, ownsRow_putObj hrow _ hK rfl, hB.trans (belowK_b (w := w) (Nat.le_refl _) W D _ _ (by omega) hK rfl rfl)⟩
  case stop =>
    rintro D c pre W _ _ h _
    exact h.elim
end Go.Proofs.Ythfdigjbmoconaa
