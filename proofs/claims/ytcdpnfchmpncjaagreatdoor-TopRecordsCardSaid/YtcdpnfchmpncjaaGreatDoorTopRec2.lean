/-
  Parts of the proof, one behind the other: KTable, KTable2, KTable3, KTable4, KOne, Round, KIter, KBag, KBagAll, TreePlain, KTree, KIter2, KField, KField2, KField3, KHead, KHead2, KHead3, KHead4, KHead5, KLay, KLay2, KLay3, KSlots, KLay4.
-/
import Derived.Deep.CutBlock
import Derived.StillTailTactics
import Derived.OrdersIn
import Derived.OrdersHeld
import Derived.Deep.RegionHeld
import Derived.RangeFuncWrites
import Derived.RangeFuncCalls
import Derived.RangeFuncNested
import Derived.RangeFuncBound
import Derived.RangeFuncBox
import Derived.RangeFuncLeaves
import Derived.Shelf.Abstract
import Derived.Shelf.RegionOpen
import Derived.OwnWalkIn
import Derived.TacticsInMore
import Derived.LoopNIn
import Derived.LoopIn
import Derived.Maps.AppendAt
import Derived.Maps.OwnIn
import Derived.Lib.ItoaNum
import Derived.Sort.EveryDepth
import Derived.Test.YtcdpnfchmpncjaaGreatDoorTopRec1
set_option linter.unusedSimpArgs false
set_option linter.unusedVariables false
namespace Go.Tr
open Go.RowKit
structure Sl where
  gen : Nat
  used : Bool
  addr : Nat
  region : Nat
  held : Bool
  pinned : Bool
def Sl.free : Sl := ⟨0, false, 0, 0, false, false⟩
def slV (x : Sl) : List Value := [.int .i64 (x.gen : Nat), .bool x.used, .int .i64 (x.addr : Nat), .int .i64 (x.region : Nat), .bool x.held, .bool x.pinned]
def slcells (xs : List Sl) : List Value := xs.flatMap slV
def entryV (x : Sl) : Value := .agg #[.int .i64 (x.addr : Nat), .int .i64 (x.region : Nat), .bool x.held, .bool x.pinned]
theorem slcells_length (xs : List Sl) : (slcells xs).length = xs.length * 6 := by
  induction xs with
  | nil => rfl
  | cons x r ih => simp only [slcells, List.flatMap_cons, List.length_append, List.length_cons] at ih ⊢; rw [ih]; simp [slV]; omega
theorem slcells_get : ∀ {xs : List Sl} {i j : Nat} {x : Sl}, xs[i]? = some x → j < 6 → (slcells xs)[i * 6 + j]? = (slV x)[j]?
  | [], i, j, x, h, _ => by simp at h
  | y :: r, 0, j, x, h, hj => by
    obtain rfl : y = x := by simpa using h
    show (slV y ++ slcells r)[0 * 6 + j]? = _
    rw [Nat.zero_mul, Nat.zero_add, List.getElem?_append_left (by simpa [slV] using hj)]
  | y :: r, i + 1, j, x, h, hj => by
    show (slV y ++ slcells r)[(i + 1) * 6 + j]? = _
    rw [List.getElem?_append_right (by simp [slV]; omega), show (i + 1) * 6 + j - (slV y).length = i * 6 + j by simp [slV]; omega]
    exact slcells_get (by simpa using h) hj
theorem slcells_set : ∀ {xs : List Sl} {i j : Nat} {x x' : Sl} {v : Value}, xs[i]? = some x → slV x' = (slV x).set j v → j < 6 → (slcells xs).set (i * 6 + j) v = slcells (xs.set i x')
  | [], i, j, x, x', v, h, _, _ => by simp at h
  | y :: r, 0, j, x, x', v, h, hx, hj => by
    obtain rfl : y = x := by simpa using h
    show (slV y ++ slcells r).set (0 * 6 + j) v = slV x' ++ slcells r
    rw [Nat.zero_mul, Nat.zero_add, List.set_append_left _ _ (by simpa [slV] using hj), ← hx]
  | y :: r, i + 1, j, x, x', v, h, hx, hj => by
    show (slV y ++ slcells r).set ((i + 1) * 6 + j) v = slV y ++ slcells (r.set i x')
    rw [List.set_append_right _ _ (by simp [slV]; omega), show (i + 1) * 6 + j - (slV y).length = i * 6 + j by simp [slV]; omega]
    rw [slcells_set (by simpa using h) hx hj]
def usedB (xs : List Sl) : Nat → Bool := fun i => (xs.getD i Sl.free).used
theorem sl_cells {w : World} {b : Nat} {xs : List Sl} {U : TypeId} (h : w.heap[b]? = some (.cells (slcells xs).toArray U (0, 0))) {i : Nat} {x : Sl} (hx : xs[i]? = some x) (j : Nat) (hj : j < 6) : w.cell? ⟨b, i * 6 + j, none⟩ = (slV x)[j]? ∧ w.frozen? ⟨b, i * 6 + j, none⟩ = false := by
  refine ⟨?_, by simp [World.frozen?, h]⟩
  rw [cell_of_row w b _ _ _ (0, 0) h, List.getElem?_toArray]
  exact slcells_get hx hj
theorem setCell_sl {w : World} {b : Nat} {xs : List Sl} {U : TypeId} (h : w.heap[b]? = some (.cells (slcells xs).toArray U (0, 0))) {i j : Nat} {x x' : Sl} {v : Value} (hx : xs[i]? = some x) (he : slV x' = (slV x).set j v) (hj : j < 6) : (w.setCell ⟨b, i * 6 + j, none⟩ v).heap[b]? = some (.cells (slcells (xs.set i x')).toArray U (0, 0)) := by
  have := block_setCell h (i * 6 + j) v
  rw [List.setIfInBounds_toArray, slcells_set hx he hj] at this
  exact this
end Go.Tr
namespace Go.Proofs.YtcdpnfchmpncjaaGreatDoor
open Go.RowKit Go.Tr Go.Shelf
variable {w w' : World} {F G : Nat → Prop} {t tb m K : Nat} {Fm : Nat → Prop} {sl : List Sl}
structure TbAt (w : World) (t tb m : Nat) (Fm : Nat → Prop) (K : Nat) (sl : List Sl) : Prop where
  block : w.heap[t]? = some (.cells #[.slice (some ⟨tb, 0, none⟩) K K, .pointer (some ⟨m, 0, none⟩), .int .i64 0] 101 (0, 0))
  slots : w.heap[tb]? = some (.cells (slcells sl).toArray 172 (0, 0))
  map : BMF w Fm m K (usedB sl)
  ne : t ≠ tb
  nf : ¬ Fm t ∧ ¬ Fm tb
  len : sl.length = K
  kb : 1 ≤ K ∧ K ≤ 4096
def TbF (w : World) (F : Nat → Prop) (t K : Nat) (sl : List Sl) : Prop := ∃ tb m Fm, TbAt w t tb m Fm K sl ∧ F t ∧ F tb ∧ ∀ k, Fm k → F k
theorem TbAt.lt (h : TbAt w t tb m Fm K sl) : t < w.heap.size ∧ tb < w.heap.size := ⟨(Array.getElem?_eq_some_iff.1 h.block).1, (Array.getElem?_eq_some_iff.1 h.slots).1⟩
theorem TbF.kept (h : TbF w F t K sl) (hk : ∀ k, F k → k < w.heap.size → w'.heap[k]? = w.heap[k]?) : TbF w' F t K sl := by
  obtain ⟨tb, m, Fm, h, h1, h2, h3⟩ := h
  exact ⟨tb, m, Fm, ⟨(hk _ h1 h.lt.1).trans h.block, (hk _ h2 h.lt.2).trans h.slots, h.map.kept (fun k hf hl => hk k (h3 k hf) hl), h.ne, h.nf, h.len, h.kb⟩, h1, h2, h3⟩
theorem TbAt.head (h : TbAt w t tb m Fm K sl) : w.cell? ⟨t, 0, none⟩ = some (.slice (some ⟨tb, 0, none⟩) K K) ∧ w.cell? ⟨t, 1, none⟩ = some (.pointer (some ⟨m, 0, none⟩)) ∧ w.cell? ⟨t, 2, none⟩ = some (.int .i64 0) := by
  refine ⟨?_, ?_, ?_⟩
  · have := (cells_of_block h.block 0).1; simpa using this
  · have := (cells_of_block h.block 1).1; simpa using this
  · have := (cells_of_block h.block 2).1; simpa using this
set_option maxRecDepth 100000 in
theorem tfind_at {x : Sl} {i : Nat} (w : World) (h : TbAt w t tb m Fm K sl) (hx : sl[i]? = some x) (hu : x.used = true) : Calls Tryz.prog 92 #[.pointer (some ⟨t, 0, none⟩), .agg #[.int .i64 i, .int .i64 x.gen]] w fun e w' => e = .returned (.tuple #[.pointer (some ⟨tb, i * 6, none⟩), .int .i64 0]) ∧ Below w.heap.size w w' := by
  obtain ⟨c0, -, -⟩ := h.head
  have s0 := (sl_cells h.slots hx 0 (by omega)).1
  have s1 := (sl_cells h.slots hx 1 (by omega)).1
  simp [slV] at s0 s1
  rw [hu] at s1
  have hiK : i < K := by rw [← h.len]; exact (List.getElem?_eq_some_iff.1 hx).1
  have hkb := h.kb.2
  obtain ⟨ht, htb⟩ := h.lt
  obtain ⟨gn, hgn⟩ : ∃ gn, gn = x.gen := ⟨_, rfl⟩
  rw [← hgn] at s0 ⊢
  have k1 : ¬ (i : Int) < 0 := by omega
  have k2 : ¬ (K : Int) ≤ (i : Int) := by omega
  have k3 : (0 : Int) ≤ (i : Int) := by omega
  have k4 : (i : Int) < (K : Int) := by omega
  obtain ⟨xb, hxb⟩ : ∃ xb, xb = w.heap.size := ⟨_, rfl⟩
  have b0 := fun u => (World.cell?_of_block (a := ⟨t, 0, none⟩) (Below.heap_alloc w u t ht)).trans c0
  have b1 := fun u => (World.cell?_of_block (a := ⟨tb, i * 6, none⟩) (Below.heap_alloc w u tb htb)).trans s0
  have b2 := fun u => (World.cell?_of_block (a := ⟨tb, i * 6 + 1, none⟩) (Below.heap_alloc w u tb htb)).trans s1
  clear h hx hu hgn c0 s0 s1 ht htb
  go_enter Tryz.func92, Tryz.ntmps92
  go_wp2_with fail
  have a0 : (w.alloc (.cells #[.int .i64 i, .int .i64 gn] 38)).cell? ⟨xb, 0, none⟩ = some (.int .i64 i) := by rw [hxb]; simp
  have a1 : (w.alloc (.cells #[.int .i64 i, .int .i64 gn] 38)).cell? ⟨xb, 1, none⟩ = some (.int .i64 gn) := by rw [hxb]; simp
  have d0 := b0 (.cells #[.int .i64 i, .int .i64 gn] 38)
  have d1 := b1 (.cells #[.int .i64 i, .int .i64 gn] 38)
  have d2 := b2 (.cells #[.int .i64 i, .int .i64 gn] 38)
  have HBB : Hid (Below w.heap.size w (w.alloc (.cells #[.int .i64 i, .int .i64 gn] 38))) := (Below.refl _ w).alloc (Nat.le_refl _) _
  rw [← hxb]
  generalize w.alloc (.cells #[.int .i64 i, .int .i64 gn] 38) = wa at *
  clear b0 b1 b2 hxb
  refine wp_region_held_drew (S := fun W => W.cell? ⟨xb, 0, none⟩ = some (.int .i64 i) ∧ W.cell? ⟨xb, 1, none⟩ = some (.int .i64 gn) ∧ W.cell? ⟨t, 0, none⟩ = some (.slice (some ⟨tb, 0, none⟩) K K) ∧ W.cell? ⟨tb, i * 6, none⟩ = some (.int .i64 gn) ∧ W.cell? ⟨tb, i * 6 + 1, none⟩ = some (.bool true)) (by kernel_rfl) ⟨a0, a1, d0, d1, d2⟩ (fun hH => ?_)
  refine Go.Tr.tz 0 (v := ?_) rfl ?_ ?_
  rotate_left
  · intro W hW
    go_simp
    try with_reducible rfl
  try simp only [Go.Tr.nz]
  refine Go.Tr.tz 1 (v := ?_) rfl ?_ ?_
  rotate_left
  · intro W hW
    go_simp
    try with_reducible rfl
  try simp only [Go.Tr.nz]
  refine takeH 2 (v := .bool false) rfl (by kernel_rfl) (by kernel_rfl) (by kernel_rfl) (fun _ _ _ h => h) (by rfl) ?_ (by assumption) ?_
  · intro W hW
    go_simp
    try first | with_reducible rfl | simp [*]
  try simp only [Go.Tr.nz]
  refine takeH 3 (v := .bool false) rfl (by kernel_rfl) (by kernel_rfl) (by kernel_rfl) (fun _ _ _ h => h) (by rfl) ?_ (by assumption) ?_
  · intro W hW
    go_simp
    try first | with_reducible rfl | simp [*]
  try simp only [Go.Tr.nz]
  refine Go.Tr.tz 4 (v := ?_) rfl ?_ ?_
  rotate_left
  · intro W hW
    go_simp
    try with_reducible rfl
  try simp only [Go.Tr.nz]
  refine Go.Tr.tz 5 (v := ?_) rfl ?_ ?_
  rotate_left
  · intro W hW
    go_simp
    try with_reducible rfl
  try simp only [Go.Tr.nz]
  refine Go.Tr.tz 6 (v := ?_) rfl ?_ ?_
  rotate_left
  · intro W hW
    go_simp
    try with_reducible rfl
  try simp only [Go.Tr.nz]
  refine Go.Tr.tz 7 (v := ?_) rfl ?_ ?_
  rotate_left
  · intro W hW
    go_simp
    try with_reducible rfl
  try simp only [Go.Tr.nz]
  refine Go.Tr.tz 8 (v := ?_) rfl ?_ ?_
  rotate_left
  · intro W hW
    go_simp
    try with_reducible rfl
  try simp only [Go.Tr.nz]
  refine Go.Tr.tz 9 (v := ?_) rfl ?_ ?_
  rotate_left
  · intro W hW
    go_simp
    try with_reducible rfl
  try simp only [Go.Tr.nz]
  refine Go.Tr.tz 10 (v := ?_) rfl ?_ ?_
  rotate_left
  · intro W hW
    go_simp
    try with_reducible rfl
  try simp only [Go.Tr.nz]
  refine takeH 11 (v := .bool false) rfl (by kernel_rfl) (by kernel_rfl) (by kernel_rfl) (fun _ _ _ h => h) (by rfl) ?_ (by assumption) ?_
  · intro W hW
    go_simp
    try first | with_reducible rfl | simp [*]
  try simp only [Go.Tr.nz]
  refine takeH 12 (v := .bool false) rfl (by kernel_rfl) (by kernel_rfl) (by kernel_rfl) (fun _ _ _ h => h) (by rfl) ?_ (by assumption) ?_
  · intro W hW
    go_simp
    try first | with_reducible rfl | simp [*]
  try simp only [Go.Tr.nz]
  refine takeH 13 (v := .bool false) rfl (by kernel_rfl) (by kernel_rfl) (by kernel_rfl) (fun _ _ _ h => h) (by rfl) ?_ (by assumption) ?_
  · intro W hW
    go_simp
    try first | with_reducible rfl | simp [*]
  try simp only [Go.Tr.nz]
  refine Go.Tr.tz 14 (v := ?_) rfl ?_ ?_
  rotate_left
  · intro W hW
    go_simp
    try with_reducible rfl
  try simp only [Go.Tr.nz]
  refine Go.Tr.tz 15 (v := ?_) rfl ?_ ?_
  rotate_left
  · intro W hW
    go_simp
    try with_reducible rfl
  try simp only [Go.Tr.nz]
  refine Go.Tr.tz 16 (v := ?_) rfl ?_ ?_
  rotate_left
  · intro W hW
    go_simp
    try with_reducible rfl
  try simp only [Go.Tr.nz]
  refine Go.Tr.tz 17 (v := ?_) rfl ?_ ?_
  rotate_left
  · intro W hW
    go_simp
    try with_reducible rfl
  try simp only [Go.Tr.nz]
  refine Go.Tr.tz 18 (v := ?_) rfl ?_ ?_
  rotate_left
  · intro W hW
    go_simp
    try with_reducible rfl
  try simp only [Go.Tr.nz]
  refine Go.Tr.tz 19 (v := ?_) rfl ?_ ?_
  rotate_left
  · intro W hW
    go_simp
    try with_reducible rfl
  try simp only [Go.Tr.nz]
  refine Go.Tr.tz 20 (v := ?_) rfl ?_ ?_
  rotate_left
  · intro W hW
    go_simp
    try with_reducible rfl
  try simp only [Go.Tr.nz]
  refine Go.Tr.tz 21 (v := ?_) rfl ?_ ?_
  rotate_left
  · intro W hW
    go_simp
    try with_reducible rfl
  try simp only [Go.Tr.nz]
  refine Go.Tr.tz 22 (v := ?_) rfl ?_ ?_
  rotate_left
  · intro W hW
    go_simp
    try with_reducible rfl
  try simp only [Go.Tr.nz]
  refine takeH 23 (v := .bool false) rfl (by kernel_rfl) (by kernel_rfl) (by kernel_rfl) (fun _ _ _ h => h) (by rfl) ?_ (by assumption) ?_
  · intro W hW
    go_simp
    try first | with_reducible rfl | simp [*]
  try simp only [Go.Tr.nz]
  refine takeH 24 (v := .bool false) rfl (by kernel_rfl) (by kernel_rfl) (by kernel_rfl) (fun _ _ _ h => h) (by rfl) ?_ (by assumption) ?_
  · intro W hW
    go_simp
    try first | with_reducible rfl | simp [*]
  try simp only [Go.Tr.nz]
  refine takeH 25 (v := .bool false) rfl (by kernel_rfl) (by kernel_rfl) (by kernel_rfl) (fun _ _ _ h => h) (by rfl) ?_ (by assumption) ?_
  · intro W hW
    go_simp
    try first | with_reducible rfl | simp [*]
  try simp only [Go.Tr.nz]
  refine Go.Tr.tz 26 (v := ?_) rfl ?_ ?_
  rotate_left
  · intro W hW
    go_simp
    try with_reducible rfl
  try simp only [Go.Tr.nz]
  refine Go.Tr.tz 27 (v := ?_) rfl ?_ ?_
  rotate_left
  · intro W hW
    go_simp
    try with_reducible rfl
  try simp only [Go.Tr.nz]
  refine Go.Tr.tz 28 (v := ?_) rfl ?_ ?_
  rotate_left
  · intro W hW
    go_simp
    try with_reducible rfl
  try simp only [Go.Tr.nz]
  refine Go.Tr.tz 29 (v := ?_) rfl ?_ ?_
  rotate_left
  · intro W hW
    go_simp
    try with_reducible rfl
  try simp only [Go.Tr.nz]
  refine Go.Tr.tz 30 (v := ?_) rfl ?_ ?_
  rotate_left
  · intro W hW
    go_simp
    try with_reducible rfl
  try simp only [Go.Tr.nz]
  refine Go.Tr.tz 31 (v := ?_) rfl ?_ ?_
  rotate_left
  · intro W hW
    go_simp
    try with_reducible rfl
  try simp only [Go.Tr.nz]
  refine Go.Tr.tz 32 (v := ?_) rfl ?_ ?_
  rotate_left
  · intro W hW
    go_simp
    try with_reducible rfl
  try simp only [Go.Tr.nz]
  refine Go.Tr.tz 33 (v := ?_) rfl ?_ ?_
  rotate_left
  · intro W hW
    go_simp
    try with_reducible rfl
  try simp only [Go.Tr.nz]
  refine Go.Tr.tz 34 (v := ?_) rfl ?_ ?_
  rotate_left
  · intro W hW
    go_simp
    try with_reducible rfl
  try simp only [Go.Tr.nz]
  refine Go.Tr.tz 35 (v := ?_) rfl ?_ ?_
  rotate_left
  · intro W hW
    go_simp
    try with_reducible rfl
  try simp only [Go.Tr.nz]
  refine Go.Tr.tz 36 (v := ?_) rfl ?_ ?_
  rotate_left
  · intro W hW
    go_simp
    try with_reducible rfl
  try simp only [Go.Tr.nz]
  refine takeH 37 (v := .bool false) rfl (by kernel_rfl) (by kernel_rfl) (by kernel_rfl) (fun _ _ _ h => h) (by rfl) ?_ (by assumption) ?_
  · intro W hW
    go_simp
    try first | with_reducible rfl | simp [*]
  try simp only [Go.Tr.nz]
  refine takeH 38 (v := .bool false) rfl (by kernel_rfl) (by kernel_rfl) (by kernel_rfl) (fun _ _ _ h => h) (by rfl) ?_ (by assumption) ?_
  · intro W hW
    go_simp
    try first | with_reducible rfl | simp [*]
  try simp only [Go.Tr.nz]
  refine wpAnyH_done (by kernel_rfl) ?_ _
  go_wp2_with fail
  go_quiet (fail)
  go_wp2
  go_ret2
  exact ⟨rfl, HBB.out.drew.trans (Drawn.below ⟨nq, rfl⟩ _)⟩
end Go.Proofs.YtcdpnfchmpncjaaGreatDoor

namespace Go.Tr
open Go.RowKit
theorem usedB_set (xs : List Sl) {i : Nat} (hi : i < xs.length) (x' : Sl) : usedB (xs.set i x') = setB (usedB xs) i x'.used := by
  funext j
  simp only [usedB, setB, List.getD, List.getElem?_set]
  by_cases e : i = j
  · subst e; simp [hi]
  · simp [e, Ne.symm e]
theorem usedB_same {xs : List Sl} {i : Nat} {x x' : Sl} (hx : xs[i]? = some x) (h : x'.used = x.used) : usedB (xs.set i x') = usedB xs := by
  funext j
  simp only [usedB, List.getD, List.getElem?_set]
  have hi := (List.getElem?_eq_some_iff.1 hx).1
  by_cases e : i = j
  · subst e; rw [if_pos rfl, if_pos hi, hx]; simpa using h
  · simp [e]
theorem setCell_sl4 {w : World} {b : Nat} {xs : List Sl} {U : TypeId} (h : w.heap[b]? = some (.cells (slcells xs).toArray U (0, 0))) {i : Nat} {x : Sl} (hx : xs[i]? = some x) (ad rg : Nat) (hd pn : Bool) :
    ((((w.setCell ⟨b, i * 6 + 2, none⟩ (.int .i64 (ad : Nat))).setCell ⟨b, i * 6 + 3, none⟩ (.int .i64 (rg : Nat))).setCell ⟨b, i * 6 + 4, none⟩ (.bool hd)).setCell ⟨b, i * 6 + 5, none⟩ (.bool pn)).heap[b]? = some (.cells (slcells (xs.set i ⟨x.gen, x.used, ad, rg, hd, pn⟩)).toArray U (0, 0)) := by
  have hi := (List.getElem?_eq_some_iff.1 hx).1
  have h1 := setCell_sl h (j := 2) (x' := ⟨x.gen, x.used, ad, x.region, x.held, x.pinned⟩) (v := .int .i64 (ad : Nat)) hx rfl (by omega)
  have h2 := setCell_sl h1 (i := i) (j := 3) (x' := ⟨x.gen, x.used, ad, rg, x.held, x.pinned⟩) (v := .int .i64 (rg : Nat)) (List.getElem?_set_self hi) rfl (by omega)
  rw [List.set_set] at h2
  have h3 := setCell_sl h2 (i := i) (j := 4) (x' := ⟨x.gen, x.used, ad, rg, hd, x.pinned⟩) (v := .bool hd) (List.getElem?_set_self hi) rfl (by omega)
  rw [List.set_set] at h3
  have h4 := setCell_sl h3 (i := i) (j := 5) (x' := ⟨x.gen, x.used, ad, rg, hd, pn⟩) (v := .bool pn) (List.getElem?_set_self hi) rfl (by omega)
  rw [List.set_set] at h4
  exact h4
end Go.Tr
namespace Go.Proofs.YtcdpnfchmpncjaaGreatDoor
open Go.RowKit Go.Tr Go.Shelf
variable {w w' : World} {F G : Nat → Prop} {t tb m K : Nat} {Fm : Nat → Prop} {sl : List Sl}
theorem TbAt.kept (h : TbAt w t tb m Fm K sl) (hk : ∀ k, k < w.heap.size → w'.heap[k]? = w.heap[k]?) : TbAt w' t tb m Fm K sl :=
  ⟨(hk _ h.lt.1).trans h.block, (hk _ h.lt.2).trans h.slots, h.map.kept (fun k hf hl => hk k hl), h.ne, h.nf, h.len, h.kb⟩
theorem TbAt.upd {W : World} {i : Nat} {x x' : Sl} (h : TbAt w t tb m Fm K sl) (hx : sl[i]? = some x) (hu : x'.used = x.used) (hk : ∀ k, k ≠ tb → W.heap[k]? = w.heap[k]?) (hs : W.heap[tb]? = some (.cells (slcells (sl.set i x')).toArray 172 (0, 0))) : TbAt W t tb m Fm K (sl.set i x') :=
  ⟨(hk _ h.ne).trans h.block, hs, by rw [usedB_same hx hu]; exact h.map.kept (fun k hf _ => hk k (fun e => h.nf.2 (e ▸ hf))), h.ne, h.nf, by rw [List.length_set]; exact h.len, h.kb⟩
set_option maxRecDepth 100000 in
theorem tget_any {x : Sl} {i : Nat} (w : World) (h : TbF w F t K sl) (hx : sl[i]? = some x) (hu : x.used = true) : Calls Tryz.prog 94 #[.pointer (some ⟨t, 0, none⟩), .agg #[.int .i64 i, .int .i64 x.gen]] w fun e w' => e = .returned (.tuple #[entryV x, .int .i64 0]) ∧ Below w.heap.size w w' := by
  obtain ⟨tb, m, Fm, h, -⟩ := h
  have HT := Lib.hid h
  have HX := Lib.hid hx
  have HU := Lib.hid hu
  clear h hx hu
  go_enter Tryz.func94, Tryz.ntmps94
  go_wp2_with fail
  have HBA : Hid (Below w.heap.size w ((w.alloc (.cells #[.int .i64 i, .int .i64 x.gen] 38)).alloc (.cells #[.int .i64 0, .int .i64 0, .bool false, .bool false] 93))) := ((Below.refl _ w).alloc (Nat.le_refl _) _).alloc (by simp) _
  obtain ⟨rb, hrb⟩ : ∃ rb, rb = w.heap.size + 1 := ⟨_, rfl⟩
  have HRB : Hid (((w.alloc (.cells #[.int .i64 i, .int .i64 x.gen] 38)).alloc (.cells #[.int .i64 0, .int .i64 0, .bool false, .bool false] 93)).heap[rb]? = some (.cells #[.int .i64 0, .int .i64 0, .bool false, .bool false] 93 (0, 0))) := by
    rw [hrb]; exact heap_alloc2_new w _ _
  rw [← hrb]
  generalize (w.alloc (.cells #[.int .i64 i, .int .i64 x.gen] 38)).alloc (.cells #[.int .i64 0, .int .i64 0, .bool false, .bool false] 93) = wa at *
  have HRL : Hid (w.heap.size ≤ rb) := by rw [hrb]; exact Nat.le_add_right _ _
  clear hrb
  refine (tfind_at wa (HT.out.kept HBA.out.block) HX.out HU.out).mono ?_
  rintro e w1 ⟨rfl, hb⟩
  have HB1 : Hid (Below w.heap.size w w1) := HBA.out.trans (hb.mono HBA.out.size)
  have hrb1 : w1.heap[rb]? = wa.heap[rb]? := hb.block rb (Array.getElem?_eq_some_iff.1 HRB.out).1
  have HR1 := Lib.hid (hrb1.trans HRB.out)
  have ht1 := HT.out.kept (w' := w1) HB1.out.block
  have s2 := (sl_cells ht1.slots HX.out 2 (by omega)).1
  have s3 := (sl_cells ht1.slots HX.out 3 (by omega)).1
  have s4 := (sl_cells ht1.slots HX.out 4 (by omega)).1
  have s5 := (sl_cells ht1.slots HX.out 5 (by omega)).1
  simp [slV] at s2 s3 s4 s5
  have r0 := cells_of_block HR1.out 0
  have r1 := cells_of_block HR1.out 1
  have r2 := cells_of_block HR1.out 2
  have r3 := cells_of_block HR1.out 3
  simp at r0 r1 r2 r3
  obtain ⟨r0, f0⟩ := r0
  obtain ⟨r1, f1⟩ := r1
  obtain ⟨r2, f2⟩ := r2
  obtain ⟨r3, f3⟩ := r3
  clear hb hrb1 ht1 HBA HRB
  go_wp2_with fail
  try simp only [Exit.inBlock, Exit.then]
  have hbk : ((((w1.setCell ⟨rb, 0, none⟩ (.int .i64 x.addr)).setCell ⟨rb, 1, none⟩ (.int .i64 x.region)).setCell ⟨rb, 2, none⟩ (.bool x.held)).setCell ⟨rb, 3, none⟩ (.bool x.pinned)).heap[rb]? = some (.cells #[.int .i64 x.addr, .int .i64 x.region, .bool x.held, .bool x.pinned] 93 (0, 0)) := by
    simpa using block_setCell (block_setCell (block_setCell (block_setCell HR1.out 0 (.int .i64 x.addr)) 1 (.int .i64 x.region)) 2 (.bool x.held)) 3 (.bool x.pinned)
  refine bodyPost_ret (results_blk rfl _ _ rb _ _ _ _ rfl hbk Tryz.underlying93 rfl rfl) rfl ⟨rfl, ?_⟩
  have e := HRL.out
  exact (((HB1.out.setCell e _).setCell e _).setCell e _).setCell e _
set_option maxRecDepth 100000 in
theorem tset_any {x : Sl} {i : Nat} (ad rg : Nat) (hd pn : Bool) (w : World) (h : TbF w F t K sl) (hf : ∀ k, F k → k < w.heap.size) (hx : sl[i]? = some x) (hu : x.used = true) : Calls Tryz.prog 41 #[.pointer (some ⟨t, 0, none⟩), .agg #[.int .i64 i, .int .i64 x.gen], .agg #[.int .i64 ad, .int .i64 rg, .bool hd, .bool pn]] w fun e w' => e = .returned (.int .i64 0) ∧ TbF w' F t K (sl.set i ⟨x.gen, x.used, ad, rg, hd, pn⟩) ∧ Only F w w' := by
  obtain ⟨tb, m, Fm, h, h1, h2, h3⟩ := h
  have HT := Lib.hid h
  have HX := Lib.hid hx
  have HU := Lib.hid hu
  have HF1 := Lib.hid h1
  have HF2 := Lib.hid h2
  have HF3 := Lib.hid h3
  clear h hx hu h1 h2 h3 hf
  go_enter Tryz.func41, Tryz.ntmps41
  go_wp2_with fail
  have HBA : Hid (Below w.heap.size w ((w.alloc (.cells #[.int .i64 i, .int .i64 x.gen] 38)).alloc (.cells #[.int .i64 ad, .int .i64 rg, .bool hd, .bool pn] 93))) := ((Below.refl _ w).alloc (Nat.le_refl _) _).alloc (by simp) _
  obtain ⟨eb, heb⟩ : ∃ eb, eb = w.heap.size + 1 := ⟨_, rfl⟩
  have HEB : Hid (((w.alloc (.cells #[.int .i64 i, .int .i64 x.gen] 38)).alloc (.cells #[.int .i64 ad, .int .i64 rg, .bool hd, .bool pn] 93)).heap[eb]? = some (.cells #[.int .i64 ad, .int .i64 rg, .bool hd, .bool pn] 93 (0, 0))) := by
    rw [heb]; exact heap_alloc2_new w _ _
  rw [← heb]
  generalize (w.alloc (.cells #[.int .i64 i, .int .i64 x.gen] 38)).alloc (.cells #[.int .i64 ad, .int .i64 rg, .bool hd, .bool pn] 93) = wa at *
  clear heb
  refine (tfind_at wa (HT.out.kept HBA.out.block) HX.out HU.out).mono ?_
  rintro e w1 ⟨rfl, hb⟩
  have HB1 : Hid (Below w.heap.size w w1) := HBA.out.trans (hb.mono HBA.out.size)
  have heb1 : w1.heap[eb]? = wa.heap[eb]? := hb.block eb (Array.getElem?_eq_some_iff.1 HEB.out).1
  have HE1 := Lib.hid (heb1.trans HEB.out)
  have ht1 := HT.out.kept (w' := w1) HB1.out.block
  have HT1 := Lib.hid ht1
  have s2 := (sl_cells ht1.slots HX.out 2 (by omega))
  have s3 := (sl_cells ht1.slots HX.out 3 (by omega))
  have s4 := (sl_cells ht1.slots HX.out 4 (by omega))
  have s5 := (sl_cells ht1.slots HX.out 5 (by omega))
  simp [slV] at s2 s3 s4 s5
  obtain ⟨s2, f2⟩ := s2
  obtain ⟨s3, f3⟩ := s3
  obtain ⟨s4, f4⟩ := s4
  obtain ⟨s5, f5⟩ := s5
  have r0 := (cells_of_block HE1.out 0).1
  have r1 := (cells_of_block HE1.out 1).1
  have r2 := (cells_of_block HE1.out 2).1
  have r3 := (cells_of_block HE1.out 3).1
  simp at r0 r1 r2 r3
  clear hb heb1 ht1 HBA HEB
  go_wp2_with fail
  go_ret
  refine ⟨rfl, ⟨tb, m, Fm, HT1.out.upd HX.out rfl (fun k hk => ?_) (setCell_sl4 HT1.out.slots HX.out ad rg hd pn), HF1.out, HF2.out, HF3.out⟩, ?_⟩
  · rw [Below.heap_setCell _ _ _ _ hk, Below.heap_setCell _ _ _ _ hk, Below.heap_setCell _ _ _ _ hk, Below.heap_setCell _ _ _ _ hk]
  · exact ((((Only.of_below HB1.out F).setCell (p := ⟨tb, i * 6 + 2, none⟩) (Or.inl HF2.out) _).setCell (p := ⟨tb, i * 6 + 3, none⟩) (Or.inl HF2.out) _).setCell (p := ⟨tb, i * 6 + 4, none⟩) (Or.inl HF2.out) _).setCell (p := ⟨tb, i * 6 + 5, none⟩) (Or.inl HF2.out) _
set_option maxRecDepth 100000 in
theorem tat_any {x : Sl} {i : Nat} (w : World) (h : TbF w F t K sl) (hx : sl[i]? = some x) (hu : x.used = true) : Calls Tryz.prog 106 #[.pointer (some ⟨t, 0, none⟩), .int .i64 i] w fun e w' => e = .returned (.tuple #[.agg #[.int .i64 i, .int .i64 x.gen], .bool true]) ∧ Below w.heap.size w w' := by
  obtain ⟨tb, m, Fm, h, -⟩ := h
  have hiK : i < K := by rw [← h.len]; exact (List.getElem?_eq_some_iff.1 hx).1
  have hkb := h.kb.2
  have k1 : ¬ (i : Int) < 0 := by omega
  have k2 : ¬ (K : Int) ≤ (i : Int) := by omega
  have k3 : (0 : Int) ≤ (i : Int) := by omega
  have k4 : (i : Int) < (K : Int) := by omega
  have HBA : Hid (Below w.heap.size w (w.alloc (.cells #[.int .i64 0, .int .i64 0] 38))) := (Below.refl _ w).alloc (Nat.le_refl _) _
  obtain ⟨rb, hrb⟩ : ∃ rb, rb = w.heap.size := ⟨_, rfl⟩
  have HRB : Hid ((w.alloc (.cells #[.int .i64 0, .int .i64 0] 38)).heap[rb]? = some (.cells #[.int .i64 0, .int .i64 0] 38 (0, 0))) := by
    rw [hrb]; exact heap_alloc_new w _
  have HT := Lib.hid (h.kept HBA.out.block)
  have HX := Lib.hid hx
  have HRL : Hid (w.heap.size ≤ rb) := Nat.le_of_eq hrb.symm
  obtain ⟨c0, -, -⟩ := HT.out.head
  have s0 := (sl_cells HT.out.slots HX.out 0 (by omega)).1
  have s1 := (sl_cells HT.out.slots HX.out 1 (by omega)).1
  simp [slV] at s0 s1
  rw [hu] at s1
  have r0 := cells_of_block HRB.out 0
  have r1 := cells_of_block HRB.out 1
  simp at r0 r1
  obtain ⟨r0, f0⟩ := r0
  obtain ⟨r1, f1⟩ := r1
  clear h hx hu
  go_enter Tryz.func106, Tryz.ntmps106
  go_wp2_with fail
  try simp only [Exit.inBlock, Exit.then]
  exact bodyPost_ret (results_blk rfl _ _ w.heap.size _ _ _ _ rfl (heap_alloc_new w _) Tryz.underlying38 rfl rfl) rfl ⟨rfl, (Below.refl _ w).alloc (Nat.le_refl _) _⟩
set_option maxRecDepth 100000 in
theorem tleft_any (w : World) (h : TbF w F t K sl) : Calls Tryz.prog 15 #[.pointer (some ⟨t, 0, none⟩)] w fun e w' => e = .returned (.int .i64 ((K : Int) - (cntB (usedB sl) K : Nat))) ∧ Drawn w w' := by
  obtain ⟨tb, m, Fm, h, -⟩ := h
  obtain ⟨c0, c1, c2⟩ := h.head
  have HC : Hid (∀ W : World, W.heap = w.heap → Calls Tryz.prog 42 #[.pointer (some ⟨m, 0, none⟩)] W fun e w' => e = .returned (.int .i64 (cntB (usedB sl) K)) ∧ W = w') := fun W e => mcountF W (h.map.kept (fun k _ _ => by rw [e]))
  have hcl := cntB_le (usedB sl) K
  have hkb := h.kb.2
  obtain ⟨cn, hcn⟩ : ∃ cn, cn = cntB (usedB sl) K := ⟨_, rfl⟩
  rw [← hcn] at HC hcl ⊢
  clear h hcn
  go_enter Tryz.func15, Tryz.ntmps15
  go_wp2_with fail
  go_quiet ((go_at_call 42; exact quiet_same (HC.out _ rfl)))
  go_wp2
  go_ret
  exact ⟨rfl, ⟨_, rfl⟩⟩
end Go.Proofs.YtcdpnfchmpncjaaGreatDoor

namespace Go.Proofs.YtcdpnfchmpncjaaGreatDoor
open Go.RowKit Go.Tr Go.Shelf
variable {w w' : World} {F G : Nat → Prop} {t tb m K : Nat} {Fm : Nat → Prop} {sl : List Sl}
theorem infoSlot : (Tryz.prog.info? 172).map (fun i => (i.zero, i.size, i.bytes)) = some (some (.agg #[.int .i64 0, .bool false, .int .i64 0, .int .i64 0, .bool false, .bool false]), 6, 40) := by kernel_rfl
theorem slV_free (j : Nat) (hj : j < 6) : (#[.int .i64 0, .bool false, .int .i64 0, .int .i64 0, .bool false, .bool false] : Array Value)[j]! = (slV Sl.free)[j]?.getD undef := by
  rcases j with _ | _ | _ | _ | _ | _ | j
  · rfl
  · rfl
  · rfl
  · rfl
  · rfl
  · rfl
  · omega
theorem made_sl (q : Nat) : madeCells (Value.agg #[.int .i64 0, .bool false, .int .i64 0, .int .i64 0, .bool false, .bool false]).cells (q * 6) = (slcells (List.replicate q Sl.free)).toArray := by
  apply Array.ext_getElem?
  intro i
  have hR : (slcells (List.replicate q Sl.free)).toArray[i]? = (slcells (List.replicate q Sl.free))[i]? := by simp
  rw [hR]
  unfold madeCells
  by_cases hi : i < q * 6
  · have h1 := slcells_get (xs := List.replicate q Sl.free) (i := i / 6) (j := i % 6) (x := Sl.free) (by rw [List.getElem?_replicate, if_pos (by omega)]) (by omega)
    rw [show i / 6 * 6 + i % 6 = i by omega] at h1
    rw [h1]
    have h2 : (slV Sl.free)[i % 6]? = some ((slV Sl.free)[i % 6]?.getD undef) := by
      rw [List.getElem?_eq_getElem (by show _ < 6; omega)]; rfl
    rw [h2, ← slV_free (i % 6) (by omega)]
    have hc : (Value.agg #[.int .i64 0, .bool false, .int .i64 0, .int .i64 0, .bool false, .bool false]).cells = #[.int .i64 0, .bool false, .int .i64 0, .int .i64 0, .bool false, .bool false] := by kernel_rfl
    rw [hc, Array.getElem?_map, Array.getElem?_range, if_pos hi]
    rfl
  · rw [List.getElem?_eq_none (by rw [slcells_length, List.length_replicate]; omega)]
    simp; omega
theorem make_sl (q : Nat) (w : World) (hq : q ≤ 4096) : (Instr.makeSlice 99 (.int .i64 (q : Int)) (.int .i64 (q : Int))).run Tryz.prog w = .ok (.slice (some ⟨w.heap.size, 0, none⟩) q q) (w.alloc (.cells (slcells (List.replicate q Sl.free)).toArray 172)) := by
  obtain ⟨i0, hi, hz0, hz1, hz2⟩ := info_parts infoSlot
  have := run_make (P := Tryz.prog) w 99 172 i0 _ Tryz.underlying99 hi hz0 .i64 .i64 q q (by omega) (Int.le_refl _) (by rw [hz2]; omega) (by omega)
  rw [hz1, Int.toNat_natCast, made_sl] at this
  exact this
set_option maxRecDepth 100000 in
theorem tnew_any (K : Nat) (w : World) (h1 : 1 ≤ K) (h2 : K ≤ 4096) : Calls Tryz.prog 74 #[.int .i64 K] w fun e w' => ∃ t, e = .returned (.tuple #[.pointer (some ⟨t, 0, none⟩), .int .i64 0]) ∧ TbF w' (fun k => w.heap.size ≤ k ∧ k < w'.heap.size) t K (List.replicate K Sl.free) ∧ Below w.heap.size w w' := by
  have HB := Lib.hid (mnewb_any K w h1 (by omega))
  go_enter Tryz.func74, Tryz.ntmps74
  go_wp2_with fail
  refine HB.out.mono ?_
  rintro e w1 ⟨m, rfl, hm0, hm, hbl⟩
  have HM := Lib.hid hm
  have HBL := Lib.hid hbl
  have HM0 := Lib.hid hm0
  have hm2 := fun W => make_sl K W h2
  clear hm hbl hm0
  go_wp2_with fail
  go_ret2
  have hsz := HBL.out.size
  have hub : usedB (List.replicate K Sl.free) = fun _ => false := by
    funext i
    by_cases hi : i < K <;> simp [usedB, List.getD, List.getElem?_replicate, hi] <;> rfl
  refine ⟨w1.heap.size + 1, rfl, ⟨w1.heap.size, m, fun k => w.heap.size ≤ k ∧ k < w1.heap.size, ⟨?_, (Below.heap_alloc _ _ _ (by simp)).trans (heap_alloc_new w1 _), ?_, by omega, ⟨by omega, by omega⟩, by simp, h1, h2⟩, by simp; omega, by simp; omega, fun k hk => by simp; omega⟩, (HBL.out.alloc HBL.out.size _).alloc (by simp; omega) _⟩
  · exact heap_alloc2_new w1 _ _
  · rw [hub]
    exact HM.out.kept (fun k hf hl => (Below.heap_alloc _ _ _ (by simp; omega)).trans (Below.heap_alloc _ _ _ hl))
end Go.Proofs.YtcdpnfchmpncjaaGreatDoor

namespace Go.Tr
open Go.RowKit
theorem nextIs_low {B : Nat → Bool} {n i : Nat} (hi : i < n) (hb : B i = false) (hl : ∀ j, j < i → B j = true) : nextIs B n false 0 = i := by
  obtain ⟨s1, s2, s3, s4⟩ := nextIs_spec B n false (Nat.zero_le n)
  rcases Nat.lt_trichotomy (nextIs B n false 0) i with h | h | h
  · have h1 := hl _ h
    rw [s3 (by omega)] at h1; cases h1
  · exact h
  · have h1 := s4 i (Nat.zero_le _) h
    exact absurd hb h1
end Go.Tr
namespace Go.Proofs.YtcdpnfchmpncjaaGreatDoor
open Go.RowKit Go.Tr Go.Shelf
theorem tz_kept {w w' : World} (h : Tz w) (hk : ∀ k, k < w.heap.size → w'.heap[k]? = w.heap[k]?) : Tz w' := by
  intro j hj
  have h1 := h j hj
  rw [World.cell?_of_block (a := ⟨_, j, none⟩) (hk _ (World.block_lt_of_cell? w _ h1))]
  exact h1
variable {w w' : World} {F G : Nat → Prop} {t tb m K : Nat} {Fm : Nat → Prop} {sl : List Sl}
theorem TbAt.turn {W : World} {i : Nat} {x x' : Sl} (h : TbAt w t tb m Fm K sl) (hx : sl[i]? = some x) (hk : W.heap[t]? = w.heap[t]?) (hs : W.heap[tb]? = some (.cells (slcells (sl.set i x')).toArray 172 (0, 0))) (hm : BMF W Fm m K (setB (usedB sl) i x'.used)) : TbAt W t tb m Fm K (sl.set i x') :=
  ⟨hk.trans h.block, hs, by rw [usedB_set sl (List.getElem?_eq_some_iff.1 hx).1]; exact hm, h.ne, h.nf, by rw [List.length_set]; exact h.len, h.kb⟩
set_option maxRecDepth 100000 in
theorem tadd_any {x : Sl} {i : Nat} (ad rg : Nat) (hd pn : Bool) (w : World) (h : TbF w F t K sl) (hT : Tz w) (hfs : ∀ k, F k → k < w.heap.size) (hx : sl[i]? = some x) (hu : x.used = false) (hlow : ∀ j, j < i → usedB sl j = true) (hgen : x.gen ≤ 255) : Calls Tryz.prog 89 #[.pointer (some ⟨t, 0, none⟩), .agg #[.int .i64 ad, .int .i64 rg, .bool hd, .bool pn]] w fun e w' => e = .returned (.tuple #[.agg #[.int .i64 i, .int .i64 (x.gen + 1 : Nat)], .int .i64 0]) ∧ TbF w' F t K (sl.set i ⟨x.gen + 1, true, ad, rg, hd, pn⟩) ∧ Only F w w' := by
  obtain ⟨tb, m, Fm, h, h1, h2, h3⟩ := h
  have hiK : i < K := by rw [← h.len]; exact (List.getElem?_eq_some_iff.1 hx).1
  have hub : usedB sl i = false := by simp [usedB, List.getD, hx, hu]
  have HFV : Hid (firstV (usedB sl) K 0 = .tuple #[.int .i64 (i : Nat), .bool true]) := firstV_yes (nextIs_low hiK hub hlow) hiK
  have HT := Lib.hid h
  have HTZ := Lib.hid hT
  have HX := Lib.hid hx
  have HF1 := Lib.hid h1
  have HF2 := Lib.hid h2
  have HF3 := Lib.hid h3
  have HFS := Lib.hid hfs
  have hkb := h.kb.2
  clear h hx hu h1 h2 h3 hub hlow hT hfs
  go_enter Tryz.func89, Tryz.ntmps89
  have HBA : Hid (Below w.heap.size w ((w.alloc (.cells #[.int .i64 ad, .int .i64 rg, .bool hd, .bool pn] 93)).alloc (.cells #[.int .i64 0, .int .i64 0] 38))) := ((Below.refl _ w).alloc (Nat.le_refl _) _).alloc (by simp) _
  obtain ⟨eb, heb⟩ : ∃ eb, eb = w.heap.size := ⟨_, rfl⟩
  obtain ⟨rb, hrb⟩ : ∃ rb, rb = w.heap.size + 1 := ⟨_, rfl⟩
  have HEB : Hid (((w.alloc (.cells #[.int .i64 ad, .int .i64 rg, .bool hd, .bool pn] 93)).alloc (.cells #[.int .i64 0, .int .i64 0] 38)).heap[eb]? = some (.cells #[.int .i64 ad, .int .i64 rg, .bool hd, .bool pn] 93 (0, 0))) := by
    rw [heb]; exact (Below.heap_alloc _ _ _ (by simp)).trans (heap_alloc_new w _)
  have HRB : Hid (((w.alloc (.cells #[.int .i64 ad, .int .i64 rg, .bool hd, .bool pn] 93)).alloc (.cells #[.int .i64 0, .int .i64 0] 38)).heap[rb]? = some (.cells #[.int .i64 0, .int .i64 0] 38 (0, 0))) := by
    rw [hrb]; exact heap_alloc2_new w _ _
  have HEL : Hid (w.heap.size ≤ eb ∧ w.heap.size ≤ rb) := ⟨by omega, by omega⟩
  have htA := HT.out.kept HBA.out.block
  have c1 := htA.head.2.1
  clear htA
  go_wp2_with fail
  rw [← hrb, ← heb]
  rw [← heb] at HBA HEL
  have HTA : Hid (TbAt ((w.alloc (.cells #[.int .i64 ad, .int .i64 rg, .bool hd, .bool pn] 93)).alloc (.cells #[.int .i64 0, .int .i64 0] 38)) t tb m Fm K sl) := HT.out.kept (by rw [heb] at HBA; exact HBA.out.block)
  have HTZA : Hid (Tz ((w.alloc (.cells #[.int .i64 ad, .int .i64 rg, .bool hd, .bool pn] 93)).alloc (.cells #[.int .i64 0, .int .i64 0] 38))) := tz_kept HTZ.out (by rw [heb] at HBA; exact HBA.out.block)
  generalize (w.alloc (.cells #[.int .i64 ad, .int .i64 rg, .bool hd, .bool pn] 93)).alloc (.cells #[.int .i64 0, .int .i64 0] 38) = wa at *
  clear c1 HTZ
  have HEW : Hid (eb = w.heap.size) := heb
  clear heb hrb
  refine (mfirstb_any 0 wa HTA.out.map HTZA.out (by omega) (Nat.zero_le _)).mono ?_
  rintro e w' ⟨rfl, rfl⟩
  rw [HFV.out]
  have c0 := HTA.out.head.1
  have c1 := HTA.out.head.2.1
  go_wp2_with fail
  refine (msetF i true wa HTA.out.map (by omega) hiK).mono ?_
  rintro e w1 ⟨rfl, hbm, hon, hsz⟩
  have HON := Lib.hid hon
  have HBM := Lib.hid hbm
  have HSZ := Lib.hid hsz
  have ht1 : w1.heap[t]? = wa.heap[t]? := hon.block t HTA.out.lt.1 HTA.out.nf.1
  have htb1 : w1.heap[tb]? = wa.heap[tb]? := hon.block tb HTA.out.lt.2 HTA.out.nf.2
  have heb1 : w1.heap[eb]? = wa.heap[eb]? := hon.block eb (Array.getElem?_eq_some_iff.1 HEB.out).1 (fun hf => by have h1 := HFS.out eb (HF3.out eb hf); have h2 := HEL.out.1; have h3 := HEW.out; omega)
  have hrb1 : w1.heap[rb]? = wa.heap[rb]? := hon.block rb (Array.getElem?_eq_some_iff.1 HRB.out).1 (fun hf => by have h1 := HFS.out rb (HF3.out rb hf); have h2 := HEL.out.2; have h3 := HEW.out; omega)
  have HT1 := Lib.hid (ht1.trans HTA.out.block)
  have HTB1 := Lib.hid (htb1.trans HTA.out.slots)
  have HE1 := Lib.hid (heb1.trans HEB.out)
  have HR1 := Lib.hid (hrb1.trans HRB.out)
  have d0 := (cells_of_block HT1.out 0).1
  simp at d0
  have s0 := sl_cells HTB1.out HX.out 0 (by omega)
  have s1 := sl_cells HTB1.out HX.out 1 (by omega)
  have s2 := sl_cells HTB1.out HX.out 2 (by omega)
  have s3 := sl_cells HTB1.out HX.out 3 (by omega)
  have s4 := sl_cells HTB1.out HX.out 4 (by omega)
  have s5 := sl_cells HTB1.out HX.out 5 (by omega)
  simp [slV] at s0 s1 s2 s3 s4 s5
  obtain ⟨s0, f0⟩ := s0
  obtain ⟨s1, f1⟩ := s1
  obtain ⟨s2, f2⟩ := s2
  obtain ⟨s3, f3⟩ := s3
  obtain ⟨s4, f4⟩ := s4
  obtain ⟨s5, f5⟩ := s5
  have e0 := (cells_of_block HE1.out 0).1
  have e1 := (cells_of_block HE1.out 1).1
  have e2 := (cells_of_block HE1.out 2).1
  have e3 := (cells_of_block HE1.out 3).1
  simp at e0 e1 e2 e3
  have r0 := cells_of_block HR1.out 0
  have r1 := cells_of_block HR1.out 1
  simp at r0 r1
  obtain ⟨r0, g0⟩ := r0
  obtain ⟨r1, g1⟩ := r1
  have hne : tb ≠ eb := fun e => by have h1 := HFS.out tb HF2.out; have h2 := HEL.out.1; have h3 := HEW.out; omega
  have hne2 : tb ≠ rb := fun e => by have h1 := HFS.out tb HF2.out; have h2 := HEL.out.2; have h3 := HEW.out; omega
  have hiK' : (i : Int) < (K : Int) := by omega
  clear hbm hon hsz ht1 htb1 heb1 hrb1 c0 c1
  obtain ⟨gn, hgn⟩ : ∃ gn, gn = x.gen := ⟨_, rfl⟩
  rw [← hgn] at s0 hgen
  have HGN := Lib.hid hgn
  clear hgn
  go_wp2_with fail
  have hset := setCell_sl HTB1.out (j := 0) (x' := ⟨gn + 1, x.used, x.addr, x.region, x.held, x.pinned⟩) (v := .int .i64 ((gn : Int) + 1)) HX.out (by rw [HGN.out]; rfl) (by omega)
  rw [Nat.add_zero] at hset
  have HTB2 := Lib.hid hset
  have hkk : ∀ k, k ≠ tb → (w1.setCell ⟨tb, i * 6, none⟩ (.int .i64 ((gn : Int) + 1))).heap[k]? = w1.heap[k]? := fun k hk => Below.heap_setCell _ _ _ _ hk
  have HO2 : Hid (Only F w1 (w1.setCell ⟨tb, i * 6, none⟩ (.int .i64 ((gn : Int) + 1)))) := (Only.refl F w1).setCell (p := ⟨tb, i * 6, none⟩) (Or.inl HF2.out) _
  clear hset s0 s1 s2 s3 s4 s5 f0 f1 f2 f3 f4 f5 e0 e1 e2 e3 r0 r1 g0 g1 d0
  generalize w1.setCell ⟨tb, i * 6, none⟩ (.int .i64 ((gn : Int) + 1)) = w2 at *
  have HKK := Lib.hid hkk
  have hlen : i < sl.length := (List.getElem?_eq_some_iff.1 HX.out).1
  have hx2 : (sl.set i ⟨gn + 1, x.used, x.addr, x.region, x.held, x.pinned⟩)[i]? = some ⟨gn + 1, x.used, x.addr, x.region, x.held, x.pinned⟩ := List.getElem?_set_self hlen
  have s0 := sl_cells HTB2.out hx2 0 (by omega)
  have s1 := sl_cells HTB2.out hx2 1 (by omega)
  have s2 := sl_cells HTB2.out hx2 2 (by omega)
  have s3 := sl_cells HTB2.out hx2 3 (by omega)
  have s4 := sl_cells HTB2.out hx2 4 (by omega)
  have s5 := sl_cells HTB2.out hx2 5 (by omega)
  simp [slV] at s0 s1 s2 s3 s4 s5
  obtain ⟨s0, f0⟩ := s0
  obtain ⟨s1, f1⟩ := s1
  obtain ⟨s2, f2⟩ := s2
  obtain ⟨s3, f3⟩ := s3
  obtain ⟨s4, f4⟩ := s4
  obtain ⟨s5, f5⟩ := s5
  have HE2 := Lib.hid ((hkk eb (Ne.symm hne)).trans HE1.out)
  have HR2 := Lib.hid ((hkk rb (Ne.symm hne2)).trans HR1.out)
  have e0 := (cells_of_block HE2.out 0).1
  have e1 := (cells_of_block HE2.out 1).1
  have e2 := (cells_of_block HE2.out 2).1
  have e3 := (cells_of_block HE2.out 3).1
  simp at e0 e1 e2 e3
  have r0 := cells_of_block HR2.out 0
  have r1 := cells_of_block HR2.out 1
  simp at r0 r1
  obtain ⟨r0, g0⟩ := r0
  obtain ⟨r1, g1⟩ := r1
  clear hkk hx2
  go_region
  rename_i Kc hKc
  refine hKc _ _ ?_
  have HTB3 : Hid ((((((w2.setCell ⟨tb, i * 6 + 1, none⟩ (.bool true)).setCell ⟨tb, i * 6 + 2, none⟩ (.int .i64 ad)).setCell ⟨tb, i * 6 + 2 + 1, none⟩ (.int .i64 rg)).setCell ⟨tb, i * 6 + 2 + 2, none⟩ (.bool hd)).setCell ⟨tb, i * 6 + 2 + 3, none⟩ (.bool pn)).heap[tb]? = some (.cells (slcells (sl.set i ⟨gn + 1, true, ad, rg, hd, pn⟩)).toArray 172 (0, 0))) := by
    have h1 := setCell_sl HTB2.out (i := i) (j := 1) (x' := ⟨gn + 1, true, x.addr, x.region, x.held, x.pinned⟩) (v := .bool true) (List.getElem?_set_self hlen) rfl (by omega)
    rw [List.set_set] at h1
    have h2 := setCell_sl4 h1 (i := i) (x := ⟨gn + 1, true, x.addr, x.region, x.held, x.pinned⟩) (List.getElem?_set_self hlen) ad rg hd pn
    rw [List.set_set] at h2
    exact h2
  have hkk : ∀ k, k ≠ tb → (((((w2.setCell ⟨tb, i * 6 + 1, none⟩ (.bool true)).setCell ⟨tb, i * 6 + 2, none⟩ (.int .i64 ad)).setCell ⟨tb, i * 6 + 2 + 1, none⟩ (.int .i64 rg)).setCell ⟨tb, i * 6 + 2 + 2, none⟩ (.bool hd)).setCell ⟨tb, i * 6 + 2 + 3, none⟩ (.bool pn)).heap[k]? = w2.heap[k]? := fun k hk => by
    rw [Below.heap_setCell _ _ _ _ hk, Below.heap_setCell _ _ _ _ hk, Below.heap_setCell _ _ _ _ hk, Below.heap_setCell _ _ _ _ hk, Below.heap_setCell _ _ _ _ hk]
  have HO3 : Hid (Only F w2 (((((w2.setCell ⟨tb, i * 6 + 1, none⟩ (.bool true)).setCell ⟨tb, i * 6 + 2, none⟩ (.int .i64 ad)).setCell ⟨tb, i * 6 + 2 + 1, none⟩ (.int .i64 rg)).setCell ⟨tb, i * 6 + 2 + 2, none⟩ (.bool hd)).setCell ⟨tb, i * 6 + 2 + 3, none⟩ (.bool pn))) := (((((Only.refl F w2).setCell (p := ⟨tb, _, none⟩) (Or.inl HF2.out) _).setCell (p := ⟨tb, _, none⟩) (Or.inl HF2.out) _).setCell (p := ⟨tb, _, none⟩) (Or.inl HF2.out) _).setCell (p := ⟨tb, _, none⟩) (Or.inl HF2.out) _).setCell (p := ⟨tb, _, none⟩) (Or.inl HF2.out) _
  clear s0 s1 s2 s3 s4 s5 f0 f1 f2 f3 f4 f5 e0 e1 e2 e3 r0 r1 g0 g1
  generalize ((((w2.setCell ⟨tb, i * 6 + 1, none⟩ (.bool true)).setCell ⟨tb, i * 6 + 2, none⟩ (.int .i64 ad)).setCell ⟨tb, i * 6 + 2 + 1, none⟩ (.int .i64 rg)).setCell ⟨tb, i * 6 + 2 + 2, none⟩ (.bool hd)).setCell ⟨tb, i * 6 + 2 + 3, none⟩ (.bool pn) = w3 at *
  have HR3 := Lib.hid ((hkk rb (Ne.symm hne2)).trans HR2.out)
  have HK3 := Lib.hid hkk
  have s0 := (sl_cells HTB3.out (List.getElem?_set_self hlen) 0 (by omega)).1
  simp [slV] at s0
  have r0 := cells_of_block HR3.out 0
  have r1 := cells_of_block HR3.out 1
  simp at r0 r1
  obtain ⟨r0, g0⟩ := r0
  obtain ⟨r1, g1⟩ := r1
  clear hkk
  go_wp2_with fail
  try simp only [Exit.inBlock, Exit.then]
  have hrne : ∀ k, F k → k ≠ rb := fun k hf e => by have h1 := HFS.out k hf; have h2 := HEL.out.2; have h3 := HEW.out; omega
  have hbk : ((w3.setCell ⟨rb, 0, none⟩ (.int .i64 i)).setCell ⟨rb, 1, none⟩ (.int .i64 ((gn : Int) + 1))).heap[rb]? = some (.cells #[.int .i64 i, .int .i64 ((gn : Int) + 1)] 38 (0, 0)) := by
    simpa using block_setCell (block_setCell HR3.out 0 (.int .i64 i)) 1 (.int .i64 ((gn : Int) + 1))
  have hkf : ∀ k, k ≠ rb → ((w3.setCell ⟨rb, 0, none⟩ (.int .i64 i)).setCell ⟨rb, 1, none⟩ (.int .i64 ((gn : Int) + 1))).heap[k]? = w3.heap[k]? := fun k hk => by
    rw [Below.heap_setCell _ _ _ _ hk, Below.heap_setCell _ _ _ _ hk]
  have hoa : Only F w wa := Only.of_below (by have := HBA.out; rw [HEW.out] at this; exact this) F
  have ho1 : Only F w w3 := ((hoa.trans (HON.out.mono HF3.out) (fun k hk => Or.inl hk)).trans HO2.out (fun k hk => Or.inl hk)).trans HO3.out (fun k hk => Or.inl hk)
  have htne : t ≠ tb := HTA.out.ne
  have hr0 : w.heap.size ≤ rb := by have h2 := HEL.out.2; have h3 := HEW.out; omega
  refine bodyPost_ret (results_blk rfl _ _ rb _ _ _ _ rfl (show _ = _ from hbk) Tryz.underlying38 rfl rfl) rfl ⟨?_, ?_, ((ho1.setCell (p := ⟨rb, 0, none⟩) (Or.inr hr0) _).setCell (p := ⟨rb, 1, none⟩) (Or.inr hr0) _).drew⟩
  · rw [← HGN.out]; rfl
  · rw [← HGN.out]
    refine ⟨tb, m, Fm, ⟨?_, ?_, ?_, htne, HTA.out.nf, by rw [List.length_set]; exact HTA.out.len, HTA.out.kb⟩, HF1.out, HF2.out, HF3.out⟩
    · exact (hkf t (hrne t HF1.out)).trans ((HK3.out t htne).trans ((HKK.out t htne).trans HT1.out))
    · exact (hkf tb hne2).trans HTB3.out
    · rw [usedB_set sl hlen]
      refine HBM.out.kept (fun k hf _ => ?_)
      have hkt : k ≠ tb := fun e => HTA.out.nf.2 (e ▸ hf)
      exact (hkf k (hrne k (HF3.out k hf))).trans ((HK3.out k hkt).trans (HKK.out k hkt))
set_option maxRecDepth 100000 in
theorem tdrop_any {x : Sl} {i : Nat} (w : World) (h : TbF w F t K sl) (hfs : ∀ k, F k → k < w.heap.size) (hx : sl[i]? = some x) (hu : x.used = true) (hgen : x.gen < 255) : Calls Tryz.prog 115 #[.pointer (some ⟨t, 0, none⟩), .agg #[.int .i64 i, .int .i64 x.gen]] w fun e w' => e = .returned (.int .i64 0) ∧ TbF w' F t K (sl.set i ⟨x.gen, false, 0, 0, false, false⟩) ∧ Only F w w' := by
  obtain ⟨tb, m, Fm, h, h1, h2, h3⟩ := h
  have hiK : i < K := by rw [← h.len]; exact (List.getElem?_eq_some_iff.1 hx).1
  have HT := Lib.hid h
  have HX := Lib.hid hx
  have HU := Lib.hid hu
  have HF1 := Lib.hid h1
  have HF2 := Lib.hid h2
  have HF3 := Lib.hid h3
  have HFS := Lib.hid hfs
  have hkb := h.kb.2
  clear h hx hu h1 h2 h3 hfs
  go_enter Tryz.func115, Tryz.ntmps115
  go_wp2_with fail
  have HBA : Hid (Below w.heap.size w (w.alloc (.cells #[.int .i64 i, .int .i64 x.gen] 38))) := (Below.refl _ w).alloc (Nat.le_refl _) _
  obtain ⟨eb, heb⟩ : ∃ eb, eb = w.heap.size := ⟨_, rfl⟩
  have HEB : Hid ((w.alloc (.cells #[.int .i64 i, .int .i64 x.gen] 38)).heap[eb]? = some (.cells #[.int .i64 i, .int .i64 x.gen] 38 (0, 0))) := by
    rw [heb]; exact heap_alloc_new w _
  have HTA := Lib.hid (HT.out.kept HBA.out.block)
  rw [← heb]
  rw [← heb] at HBA
  generalize w.alloc (.cells #[.int .i64 i, .int .i64 x.gen] 38) = wa at *
  have HEW : Hid (eb = w.heap.size) := heb
  clear heb
  refine (tfind_at wa HTA.out HX.out HU.out).mono ?_
  rintro e w1 ⟨rfl, hb⟩
  have ht1 := HTA.out.kept (w' := w1) hb.block
  have HT1 := Lib.hid ht1
  have HE1 := Lib.hid ((hb.block eb (Array.getElem?_eq_some_iff.1 HEB.out).1).trans HEB.out)
  have HB1 : Hid (Only F w w1) := (Only.of_below (by have := HBA.out; rw [HEW.out] at this; exact this) F).trans (Only.of_below hb F) (fun k hk => Or.inl hk)
  have s0 := sl_cells ht1.slots HX.out 0 (by omega)
  have s1 := sl_cells ht1.slots HX.out 1 (by omega)
  have s2 := sl_cells ht1.slots HX.out 2 (by omega)
  have s3 := sl_cells ht1.slots HX.out 3 (by omega)
  have s4 := sl_cells ht1.slots HX.out 4 (by omega)
  have s5 := sl_cells ht1.slots HX.out 5 (by omega)
  simp [slV] at s0 s1 s2 s3 s4 s5
  obtain ⟨s0, f0⟩ := s0
  obtain ⟨s1, f1⟩ := s1
  obtain ⟨s2, f2⟩ := s2
  obtain ⟨s3, f3⟩ := s3
  obtain ⟨s4, f4⟩ := s4
  obtain ⟨s5, f5⟩ := s5
  have e0 := (cells_of_block HE1.out 0).1
  simp at e0
  have c1 := ht1.head.2.1
  have htne : t ≠ tb := ht1.ne
  have hne : eb ≠ tb := fun e => by have h1 := HFS.out tb HF2.out; have h3 := HEW.out; omega
  obtain ⟨gn, hgn⟩ : ∃ gn, gn = x.gen := ⟨_, rfl⟩
  rw [← hgn] at s0 hgen
  have HGN := Lib.hid hgn
  have hg255 : ((gn : Int) == 255) = false := by simp; omega
  clear hb ht1 hgn
  go_wp2_with fail
  have hlen : i < sl.length := (List.getElem?_eq_some_iff.1 HX.out).1
  have HTB3 : Hid ((((((w1.setCell ⟨tb, i * 6 + 1, none⟩ (.bool false)).setCell ⟨tb, i * 6 + 2, none⟩ (.int .i64 0)).setCell ⟨tb, i * 6 + 2 + 1, none⟩ (.int .i64 0)).setCell ⟨tb, i * 6 + 2 + 2, none⟩ (.bool false)).setCell ⟨tb, i * 6 + 2 + 3, none⟩ (.bool false)).heap[tb]? = some (.cells (slcells (sl.set i ⟨gn, false, 0, 0, false, false⟩)).toArray 172 (0, 0))) := by
    have h1 := setCell_sl HT1.out.slots (i := i) (j := 1) (x' := ⟨gn, false, x.addr, x.region, x.held, x.pinned⟩) (v := .bool false) HX.out (by rw [HGN.out]; rfl) (by omega)
    have h2 := setCell_sl4 h1 (i := i) (x := ⟨gn, false, x.addr, x.region, x.held, x.pinned⟩) (List.getElem?_set_self hlen) 0 0 false false
    rw [List.set_set] at h2
    exact h2
  have hkk : ∀ k, k ≠ tb → (((((w1.setCell ⟨tb, i * 6 + 1, none⟩ (.bool false)).setCell ⟨tb, i * 6 + 2, none⟩ (.int .i64 0)).setCell ⟨tb, i * 6 + 2 + 1, none⟩ (.int .i64 0)).setCell ⟨tb, i * 6 + 2 + 2, none⟩ (.bool false)).setCell ⟨tb, i * 6 + 2 + 3, none⟩ (.bool false)).heap[k]? = w1.heap[k]? := fun k hk => by
    rw [Below.heap_setCell _ _ _ _ hk, Below.heap_setCell _ _ _ _ hk, Below.heap_setCell _ _ _ _ hk, Below.heap_setCell _ _ _ _ hk, Below.heap_setCell _ _ _ _ hk]
  have HO3 : Hid (Only F w1 (((((w1.setCell ⟨tb, i * 6 + 1, none⟩ (.bool false)).setCell ⟨tb, i * 6 + 2, none⟩ (.int .i64 0)).setCell ⟨tb, i * 6 + 2 + 1, none⟩ (.int .i64 0)).setCell ⟨tb, i * 6 + 2 + 2, none⟩ (.bool false)).setCell ⟨tb, i * 6 + 2 + 3, none⟩ (.bool false))) := (((((Only.refl F w1).setCell (p := ⟨tb, _, none⟩) (Or.inl HF2.out) _).setCell (p := ⟨tb, _, none⟩) (Or.inl HF2.out) _).setCell (p := ⟨tb, _, none⟩) (Or.inl HF2.out) _).setCell (p := ⟨tb, _, none⟩) (Or.inl HF2.out) _).setCell (p := ⟨tb, _, none⟩) (Or.inl HF2.out) _
  clear s0 s1 s2 s3 s4 s5 f0 f1 f2 f3 f4 f5
  generalize ((((w1.setCell ⟨tb, i * 6 + 1, none⟩ (.bool false)).setCell ⟨tb, i * 6 + 2, none⟩ (.int .i64 0)).setCell ⟨tb, i * 6 + 2 + 1, none⟩ (.int .i64 0)).setCell ⟨tb, i * 6 + 2 + 2, none⟩ (.bool false)).setCell ⟨tb, i * 6 + 2 + 3, none⟩ (.bool false) = w3 at *
  have d1 := (World.cell?_of_block (a := ⟨t, 1, none⟩) (hkk t htne)).trans c1
  have d2 := (World.cell?_of_block (a := ⟨eb, 0, none⟩) (hkk eb hne)).trans e0
  have HKK := Lib.hid hkk
  have HBM : Hid (BMF w3 Fm m K (usedB sl)) := HT1.out.map.kept (fun k hf _ => hkk k (fun e => HT1.out.nf.2 (e ▸ hf)))
  clear hkk c1 e0
  refine wp_region_held_drew (S := fun W => W.cell? ⟨t, 1, none⟩ = some (.pointer (some ⟨m, 0, none⟩)) ∧ W.cell? ⟨eb, 0, none⟩ = some (.int .i64 i)) (by kernel_rfl) ⟨d1, d2⟩ (fun hH => ?_)
  refine Go.Tr.tz 0 (v := ?_) rfl ?_ ?_
  rotate_left
  · intro W hW
    go_simp
    try with_reducible rfl
  try simp only [Go.Tr.nz]
  refine Go.Tr.tz 1 (v := ?_) rfl ?_ ?_
  rotate_left
  · intro W hW
    go_simp
    try with_reducible rfl
  try simp only [Go.Tr.nz]
  refine Go.Tr.tz 2 (v := ?_) rfl ?_ ?_
  rotate_left
  · intro W hW
    go_simp
    try with_reducible rfl
  try simp only [Go.Tr.nz]
  refine Go.Tr.tz 3 (v := ?_) rfl ?_ ?_
  rotate_left
  · intro W hW
    go_simp
    try with_reducible rfl
  try simp only [Go.Tr.nz]
  refine Go.Tr.tz 4 (v := ?_) rfl ?_ ?_
  rotate_left
  · intro W hW
    go_simp
    try with_reducible rfl
  try simp only [Go.Tr.nz]
  refine Go.Tr.tz 5 (v := ?_) rfl ?_ ?_
  rotate_left
  · intro W hW
    go_simp
    try with_reducible rfl
  try simp only [Go.Tr.nz]
  refine wpAnyH_ready (rs := [6]) (by kernel_rfl) (by simp) (readyH rfl (fun K hK => ?_) AllReadyH.nil)
  rw [if_pos (by rfl)]
  go_simp
  refine (msetF i false w3.drew (HBM.out.kept (fun _ _ _ => rfl)) (by omega) hiK).mono ?_
  rintro e w4 ⟨rfl, hbm, hon, hsz⟩
  have HBM4 := Lib.hid hbm
  have HON4 := Lib.hid hon
  have hk4 : ∀ k, k < w3.heap.size → ¬ Fm k → w4.heap[k]? = w3.heap[k]? := fun k hl hn => hon.block k hl hn
  have HK4 := Lib.hid hk4
  have htl3 : t < w3.heap.size := World.block_lt_of_cell? w3 _ d1
  have hel3 : eb < w3.heap.size := World.block_lt_of_cell? w3 _ d2
  have hne4 : ¬ Fm eb := fun hf => by have h1 := HFS.out eb (HF3.out eb hf); have h3 := HEW.out; omega
  have g1 := (World.cell?_of_block (a := ⟨t, 1, none⟩) (hk4 t htl3 HT1.out.nf.1)).trans d1
  have g2 := (World.cell?_of_block (a := ⟨eb, 0, none⟩) (hk4 eb hel3 hne4)).trans d2
  clear hbm hon hk4
  refine hK.out _ _ ⟨g1, g2⟩ (fun hH => ?_)
  clear hK K
  try simp only [Go.Tr.nz]
  refine wpAnyH_done (by kernel_rfl) ?_ _
  go_wp2_with fail
  go_ret
  refine ⟨rfl, ?_, ?_⟩
  · rw [← HGN.out]
    have htb3 : tb < w3.heap.size := (Array.getElem?_eq_some_iff.1 HTB3.out).1
    refine ⟨tb, m, Fm, ⟨?_, (HK4.out tb htb3 HT1.out.nf.2).trans HTB3.out, ?_, htne, HT1.out.nf, by rw [List.length_set]; exact HT1.out.len, HT1.out.kb⟩, HF1.out, HF2.out, HF3.out⟩
    · exact (HK4.out t htl3 HT1.out.nf.1).trans ((HKK.out t htne).trans HT1.out.block)
    · rw [usedB_set sl hlen]; exact HBM4.out
  · exact (HB1.out.trans HO3.out (fun k hk => Or.inl hk)).drew.trans (HON4.out.mono HF3.out) (fun k hk => Or.inl hk)
end Go.Proofs.YtcdpnfchmpncjaaGreatDoor

namespace Go.Tr
open Go.RowKit
section
variable {P : Program} {ops : Array Oper} {md : Region.Mode} {Q : Exit → Act → World → Prop} {S : World → Prop}
theorem tk (i : Nat) {oi : Oper} {v : Value} {fuel : Nat} {listed : Array Bool} {a : Act} {w : World} (ho : (ops.toList.drop i).head? = some oi)
    (hy : ∀ w, S w → (execOp a.eval oi).run P w = .ok (.value v) w) (h : wpAnyH P md ops Q S fuel (listed.setIfInBounds i true) (a.put oi.dst v) w) (hS : S w := by assumption)
    (hs : Region.noSelect ops = true := by kernel_rfl) (hf : Region.free md ops listed i = true := by kernel_rfl) (hr : (Region.ready md ops listed).contains i = true := by kernel_rfl)
    (hQ : ∀ c a w, Q (.panic c) (a.put oi.dst v) w → Q (.panic c) a w := by exact fun _ _ _ h => h) (hw : Region.wanted oi (yielded ops a.tmps) = true := by rfl) : wpAnyH P md ops Q S (fuel + 1) listed a w :=
  takeH i ho hs hf hr hQ hw hy hS h
theorem rd (i : Nat) {oi : Oper} {fuel : Nat} {listed : Array Bool} {a : Act} {w : World} (ho : (ops.toList.drop i).head? = some oi)
    (h : ∀ K' : Act → World → Prop, Shut (∀ a w, S w → (S w → wpAnyH P md ops Q S fuel (listed.setIfInBounds i true) a w) → K' a w) → Oper.wp P oi a w K' Q)
    (hw : Region.wanted oi (yielded ops a.tmps) = true := by rfl) (hr : Region.ready md ops listed = [i] := by kernel_rfl) : wpAnyH P md ops Q S (fuel + 1) listed a w :=
  wpAnyH_ready hr (by simp) (readyH ho (fun K hK => by rw [if_pos hw]; exact h K hK) AllReadyH.nil)
theorem rd2 (i j : Nat) {oi oj : Oper} {fuel : Nat} {listed : Array Bool} {a : Act} {w : World} (ho : (ops.toList.drop i).head? = some oi) (hoj : (ops.toList.drop j).head? = some oj)
    (h : ∀ K' : Act → World → Prop, Shut (∀ a w, S w → (S w → wpAnyH P md ops Q S fuel (listed.setIfInBounds i true) a w) → K' a w) → Oper.wp P oi a w K' Q)
    (h2 : ∀ K' : Act → World → Prop, Shut (∀ a w, S w → (S w → wpAnyH P md ops Q S fuel (listed.setIfInBounds j true) a w) → K' a w) → Oper.wp P oj a w K' Q)
    (hw : Region.wanted oi (yielded ops a.tmps) = true := by rfl) (hw2 : Region.wanted oj (yielded ops a.tmps) = true := by rfl) (hr : Region.ready md ops listed = [i, j] := by kernel_rfl) : wpAnyH P md ops Q S (fuel + 1) listed a w :=
  wpAnyH_ready hr (by simp) (readyH ho (fun K hK => by rw [if_pos hw]; exact h K hK) (readyH hoj (fun K hK => by rw [if_pos hw2]; exact h2 K hK) AllReadyH.nil))
theorem still_look {Qs : Act → Prop} {o : Oper} {rest : List Oper} {a : Act} {w : World} (m x : Operand) (t : TypeId) (hop : o.op = Op.lookup t m x false) (v mv xv : Value) (hm : a.eval m = mv) (hx : a.eval x = xv) (hrun : (Instr.lookup t mv xv false).run P w = .ok v w)
    (h : wpStill P ops w Qs rest (a.put o.dst v)) (hw : Region.wanted o (yielded ops a.tmps) = true := by rfl) : wpStill P ops w Qs (o :: rest) a := by
  unfold wpStill
  rw [if_pos hw]
  unfold Oper.still
  simp [execOp, hop, hm, hx, hrun, Result.andThen, Oper.stillUpon]
  exact h
theorem list_look {Qs : Exit → Act → World → Prop} {o : Oper} {rest : List Oper} {a : Act} {w : World} (m x : Operand) (t : TypeId) (hop : o.op = Op.lookup t m x false) (v mv xv : Value) (hm : a.eval m = mv) (hx : a.eval x = xv) (hrun : (Instr.lookup t mv xv false).run P w = .ok v w)
    (h : wpList P ops Qs rest (a.put o.dst v) w) (hg : o.guard = none := by rfl) : wpList P ops Qs (o :: rest) a w := by
  refine wpList_plain hg fun K' hK' => ?_
  unfold Oper.wp
  simp [execOp, hop, hm, hx, hrun, Result.andThen]
  exact hK' _ _ h
theorem exec_look {o : Oper} {a : Act} {w : World} (m x : Operand) (t : TypeId) (hop : o.op = Op.lookup t m x false) (v mv xv : Value) (hm : a.eval m = mv) (hx : a.eval x = xv) (hrun : (Instr.lookup t mv xv false).run P w = .ok v w) : (execOp a.eval o).run P w = .ok (.value v) w := by
  simp [execOp, hop, hm, hx, hrun, Result.andThen]
end
end Go.Tr

namespace Go
variable {P : Program} {l n : Nat} {Q : Exit → Act → World → Prop}
theorem rowsIn_wide {row : String} {args : Array Value} {w : World} {R : Value → World → Prop} (h : Rows P row args w R) : RowsIn (Fence.wide.inRound l) n P row args w R :=
  fun c cs _ => let ⟨v, w', r, s⟩ := h c cs; ⟨v, w', r, stepsIn_wide.2 s⟩
theorem Oper.wpIn_round {o : Oper} {a : Act} {w : World} {next : Act → World → Prop} (hd : ∀ c, o.op ≠ .defer c) (h : o.wp P a w next Q) : o.wpIn (Fence.wide.inRound l) n P a w next Q := by
  refine ⟨fun f _ => trivial, ?_⟩
  rw [Fence.inRound_round, Oper.semAt_eq _ _ _ hd]
  unfold Oper.wp at h
  generalize (execOp a.eval o).run P w = r at h ⊢
  cases r with
  | ok x w' =>
    cases x with
    | value v => exact h
    | skip => exact h
    | defer d => exact h
    | enter f args =>
      refine ⟨fun h => ?_, CallsIn.inRound l (callsIn_wide.2 h)⟩
      cases h
    | row r args =>
      refine ⟨fun h => ?_, rowsIn_wide h⟩
      cases h
    | _ => exact h.elim
  | halt s w' =>
    cases s with
    | panic v => exact h
    | _ => exact h.elim
def plainOps (ops : Array Oper) : Bool := ops.all fun o => match o.op with | .defer _ => false | _ => true
theorem plainOps_spec {ops : Array Oper} (h : plainOps ops = true) {i : Nat} {o : Oper} (ho : ops[i]? = some o) : ∀ c, o.op ≠ .defer c := by
  unfold plainOps at h
  rw [Array.all_eq_true] at h
  obtain ⟨hi, rfl⟩ := Array.getElem?_eq_some_iff.1 ho
  have := h i hi
  intro c e
  rw [e] at this
  cases this
variable {ops : Array Oper} {md : Region.Mode}
theorem wpOpIn_round (hp : plainOps ops = true) (hlo : ¬ LetsOut Q) {i : Nat} {a : Act} {w : World} {K : Act → World → Prop} (h : wpOp P ops Q i K a w) : wpOpIn (Fence.wide.inRound l) n P ops Q i K a w := by
  unfold wpOp at h
  unfold wpOpIn
  cases ho : ops[i]? with
  | none => simp only [ho] at h; exact h
  | some o =>
    simp only [ho] at h ⊢
    split at h
    · rename_i hw
      rw [if_pos hw]
      rcases h with h | h
      · exact Oper.wpIn_round (plainOps_spec hp ho) h
      · exact absurd h.2 hlo
    · rename_i hw
      rw [if_neg hw]
      exact ⟨fun _ _ => trivial, h⟩
theorem wpAnyIn_round (hp : plainOps ops = true) (hlo : ¬ LetsOut Q) : ∀ (fuel : Nat) (listed : Array Bool) (a : Act) (w : World), wpAny P md ops Q fuel listed a w → wpAnyIn (Fence.wide.inRound l) n P md ops Q fuel listed a w
  | 0, _, _, _, h => h
  | fuel + 1, listed, a, w, h => ⟨h.1, fun i hi => wpOpIn_round hp hlo (wpOp_mono (fun a w h => wpAnyIn_round hp hlo fuel _ a w h) (h.2 i hi))⟩
theorem wpIn_region_held_drew {id : Nat} {a : Act} {w : World} {S : World → Prop} (hp : plainOps ops = true) (hlo : ¬ LetsOut Q) (hm : P.follows .mixedOrders = true) (hS : S w.drew)
    (h : S w.drew → wpAnyH P .any ops Q S ops.size (Array.replicate ops.size false) a w.drew) : (Code.region id ops true).wpIn (Fence.wide.inRound l) n P Q a w :=
  wpIn_region_any hm (wpAnyIn_round hp hlo _ _ _ _ (wpAny_of_held _ _ _ _ (h hS)))
end Go

namespace Go
open Go.RowKit
variable {P : Program}
def SeqAll {α : Type} (St : Nat → World → World → Prop) (Kp : World → World → Prop) (P : Program) (gf : Nat) (lb : Array Value) (encs : α → Array Value) (xs : List α) (w : World) : Prop :=
  ∀ (l : Nat) (J : List α → World → Prop) (W : World), Below w.heap.size w W → (∀ pre A B, J pre A → St W.heap.size A B → J pre B) →
    (∀ pre x W1, J pre W1 → pre ++ [x] <+: xs → YieldAt Fence.wide 1 P l (encs x) W1 fun e W' => e = .returned (.bool true) ∧ J (pre ++ [x]) W' ∧ Kp W1 W') →
    J [] W →
    CallsIn Fence.wide 2 P gf (#[.func (.yield l) #[] #[]] ++ lb) W fun e W' => (∃ v, e = .returned v) ∧ J xs W'
theorem YieldAt.any {n m l : Nat} {args : Array Value} {W : World} {R : Ending → World → Prop} (h : YieldAt Fence.wide n P l args W R) : YieldAt Fence.wide m P l args W R := by
  obtain ⟨fn, tmps, assign, body, h1, h2, h3⟩ := h
  exact ⟨fn, tmps, assign, body, h1, h2, fun c cs _ => h3 c cs (room_wide _)⟩
theorem YieldAt.inRound {n l l' : Nat} {args : Array Value} {W : World} {R : Ending → World → Prop} (h : YieldAt Fence.wide n P l args W R) : YieldAt (Fence.wide.inRound l') n P l args W R := h
theorem RoundIn.any {n m l : Nat} {f : FuncId} {tmps : Array Value} {assign body : Code} {W : World} {R : Ending → World → Prop} (h : RoundIn Fence.wide n P l f tmps assign body W R) : RoundIn Fence.wide m P l f tmps assign body W R :=
  ⟨h.1, fun c cs _ => h.2 c cs (room_wide _)⟩
def goesOn (D l : Nat) (Kp : World → World → Prop) (W : World) (J : World → Prop) : Act → World → Prop := fun _ W' => W'.heap[l]? = W.heap[l]? ∧ W'.heap[D]? = W.heap[D]? ∧ Kp W W' ∧ J W'
theorem range_all {α : Type} {m : Nat} {g : Operand} {ps : Array Tmp} {assign body : Code} {Q : Exit → Act → World → Prop} {a : Act} {w w0 : World} {gf : Nat} {lb : Array Value}
    (hg : a.eval g = .func (.func gf) #[] lb) (eg : ∀ args w, (callFunc gf args).run P w = .ok (.enter gf args) w)
    {St : Nat → World → World → Prop} {Kp : World → World → Prop} {encs : α → Array Value} {xs : List α} (hseq : SeqAll St Kp P gf lb encs xs w0) (hb0 : Below w0.heap.size w0 w) (hps : ∀ x, (encs x).size = ps.size)
    (hKt : ∀ {A B C : World}, Kp A B → Kp B C → Kp A C) (hKb : ∀ (W : World) (r r' : Loop), W.heap[w.heap.size + 1]? = some (.loop r) → Kp W (W.putObj (w.heap.size + 1) (.loop r')))
    (I : List α → World → Prop) (hIb : ∀ pre W (r r' : Loop), I pre W → W.heap[w.heap.size + 1]? = some (.loop r) → I pre (W.putObj (w.heap.size + 1) (.loop r')))
    (hSt : ∀ pre A B, I pre A → St (w.heap.size + 2) A B → I pre B) (hSk : ∀ A B k, St (w.heap.size + 2) A B → k < w.heap.size + 2 → k < A.heap.size → B.heap[k]? = A.heap[k]?)
    (h0 : ∀ r, I [] ((w.alloc (.deferred (some []))).alloc (.loop r)))
    (hround : ∀ (pre : List α) (x : α) (W : World), I pre W → pre ++ [x] <+: xs → w.heap.size + 1 < W.heap.size → assign.wpIn (Fence.wide.inRound (w.heap.size + 1)) m P
      (Exit.then (fun a1 W1 => W1.heap[w.heap.size + 1]? = W.heap[w.heap.size + 1]? ∧ W1.heap[w.heap.size]? = W.heap[w.heap.size]? ∧ Kp W W1 ∧ ∀ (r : Loop), Kp W1 (W1.putObj (w.heap.size + 1) (.loop r)) →
        body.wpIn (Fence.wide.inRound (w.heap.size + 1)) m P (Exit.then (goesOn w.heap.size (w.heap.size + 1) Kp (W1.putObj (w.heap.size + 1) (.loop r)) (I (pre ++ [x]))) (fun _ _ _ => False)) a1 (W1.putObj (w.heap.size + 1) (.loop r)))
        (fun _ _ _ => False)) { tmps := (ps.zip (encs x)).foldl (fun t (p, v) => t.setIfInBounds p v) a.tmps, defers := [] } W)
    (hdone : ∀ (W : World), I xs W → W.heap[w.heap.size]? = some (.deferred (some [])) → Q .normal { a with defers := { target := .collected w.heap.size, args := #[] } :: a.defers } W) :
    (Code.rangeFunc g ps assign body).wpIn Fence.wide (m + 2) P Q a w := by
  refine wpIn_rangeFunc ?_
  intro fn hfn
  obtain ⟨rec, hrec⟩ : ∃ rec : LoopState → Loop, rec = fun st => { state := st, pending := none, fn, tmps := a.tmps, params := ps, assign, body, defers := w.heap.size } := ⟨_, rfl⟩
  have hL1 : ((w.alloc (.deferred (some []))).alloc (.loop (rec .ready))).heap[w.heap.size + 1]? = some (.loop (rec .ready)) := by
    have := World.alloc_heap_new (w.alloc (.deferred (some []))) (.loop (rec .ready)); rwa [World.size_alloc] at this
  have hD1 : ((w.alloc (.deferred (some []))).alloc (.loop (rec .ready))).heap[w.heap.size]? = some (.deferred (some [])) :=
    (Below.heap_alloc _ _ _ (by simp)).trans (World.alloc_heap_new w _)
  have hI1 := h0 (rec .ready)
  have hsz : ((w.alloc (.deferred (some []))).alloc (.loop (rec .ready))).heap.size = w.heap.size + 2 := by simp
  have hb1 : Below w0.heap.size w0 ((w.alloc (.deferred (some []))).alloc (.loop (rec .ready))) := hb0.trans ((((Below.refl _ w).alloc (Nat.le_refl _) _).alloc (by simp) _).mono hb0.size)
  have hent : (Instr.enterLoop fn a.tmps ps assign body none).run P w = .ok (w.heap.size + 1, [{ target := .collected w.heap.size, args := #[] }]) ((w.alloc (.deferred (some []))).alloc (.loop (rec .ready))) := by
    rw [hrec]; exact run_enterLoop_outer _ _ _ _ _
  generalize (w.alloc (.deferred (some []))).alloc (.loop (rec .ready)) = W0 at *
  refine ⟨w.heap.size + 1, [{ target := .collected w.heap.size, args := #[] }], W0, { target := .fn (.func gf) lb, args := #[.func (.yield (w.heap.size + 1)) #[] #[]] }, W0, gf, #[.func (.yield (w.heap.size + 1)) #[] #[]] ++ lb, W0, hent, ?_, fun _ _ => trivial, ?_, fun _ => by omega, ?_⟩
  · simp only [resolve, hg]
    simp [go_sem]
  · simp [invoke, go_sem, eg]
  have hcall := hseq (w.heap.size + 1) (fun pre W => I pre W ∧ W.heap[w.heap.size + 1]? = some (.loop (rec .ready)) ∧ W.heap[w.heap.size]? = some (.deferred (some []))) W0 hb1
    (fun pre A B h hs => by
      rw [hsz] at hs
      have k1 := (Array.getElem?_eq_some_iff.1 h.2.1).1
      exact ⟨hSt pre A B h.1 hs, (hSk A B _ hs (by omega) k1).trans h.2.1, (hSk A B _ hs (by omega) (by omega)).trans h.2.2⟩)
    (fun pre x W ⟨hi, hl, hd⟩ hpre => by
      have hlt := (Array.getElem?_eq_some_iff.1 hl).1
      have hy := run_yield (P := P) (args := encs x) hl (by rw [hrec]; exact hps x)
      rw [hrec] at hy
      refine ⟨fn, _, assign, body, hy, RoundIn.any (n := m) (roundIn_of_wpIn trivial (wpIn_mono (hround pre x W hi hpre hlt) ?_))⟩
      intro e a1 W1 he
      cases e with
      | normal =>
        obtain ⟨e1, e2, e3, hbody⟩ := he
        have hl1 := e1.trans hl
        have hd1 := e2.trans hd
        refine ⟨_, run_beginRound hl1 (by rw [hrec]), ?_⟩
        have hlt1 := (Array.getElem?_eq_some_iff.1 hl1).1
        have hkb := hKb W1 (rec .ready) { rec .ready with state := .busy } hl1
        refine wpIn_mono (hbody { rec .ready with state := .busy } hkb) ?_
        intro e a2 W2 he2
        cases e with
        | normal =>
          obtain ⟨f1, f2, f3, f4⟩ := he2
          have hl2 := f1.trans (World.putObj_heap_same (o := .loop { rec .ready with state := .busy }) hlt1)
          have hd2 := (f2.trans (World.putObj_heap_other (by omega))).trans hd1
          refine ⟨_, _, run_endRound none hl2, rfl, ⟨hIb _ _ _ _ f4 hl2, ?_, (World.putObj_heap_other (by omega)).trans hd2⟩, hKt e3 (hKt hkb (hKt f3 (hKb _ _ _ hl2)))⟩
          rw [World.putObj_heap_same (Array.getElem?_eq_some_iff.1 hl2).1, hrec]
          rfl
        | _ => exact he2.elim
      | _ => exact he.elim)
    ⟨hI1, hL1, hD1⟩
  refine CallsIn.mono (n := m + 2 - 1) ⟨trivial, fun cs _ => hcall.2 cs (room_wide _)⟩ ?_
  rintro e W' ⟨⟨v, rfl⟩, hi, hl, hd⟩
  refine ⟨none, _, ?_, hdone _ (hIb _ _ (rec .ready) { rec .ready with state := .exhausted } hi hl) ((World.putObj_heap_other (by omega)).trans hd)⟩
  have := run_endLoop (P := P) hl (by rw [hrec]; simp)
  rw [hrec] at this ⊢
  exact this
end Go

namespace Go.Proofs.YtcdpnfchmpncjaaGreatDoor
open Go.RowKit Go.Tr
structure BagAt (n₀ : Nat) (w : World) (g : Nat) (v : Value) (zs : List Int) : Prop where
  block : w.heap[g]? = some (.cells #[v] 157 (0, 0))
  own : own3 w 3 n₀ v zs
  ne : v.ownBlock ≠ some g
  newg : n₀ ≤ g
  rises : zs.Pairwise (· < ·)
variable {n₀ : Nat} {w w' : World} {g : Nat} {v : Value} {zs : List Int}
theorem BagAt.lt (h : BagAt n₀ w g v zs) : g < w.heap.size := (Array.getElem?_eq_some_iff.1 h.block).1
theorem ownsRow_kept {w w' : World} {base : Nat} {e : TypeId} {size n : Nat} {v : Value} {xs : List Value} (h : w.ownsRow base e size v n xs) (hk : ∀ k, v.ownBlock = some k → w'.heap[k]? = w.heap[k]?) : w'.ownsRow base e size v n xs := by
  obtain ⟨h1, h2⟩ := h
  refine ⟨h1, h2.imp id ?_⟩
  rintro ⟨k, cap, cur, rfl, h3, h4, h5⟩
  exact ⟨k, cap, cur, rfl, h3, (hk k rfl).trans h4, h5⟩
theorem BagAt.kept (h : BagAt n₀ w g v zs) (h1 : w'.heap[g]? = w.heap[g]?) (h2 : ∀ k, v.ownBlock = some k → w'.heap[k]? = w.heap[k]?) : BagAt n₀ w' g v zs :=
  ⟨h1.trans h.block, ownsRow_kept h.own h2, h.ne, h.newg, h.rises⟩
theorem BagAt.below (h : BagAt n₀ w g v zs) (hb : Below w.heap.size w w') : BagAt n₀ w' g v zs := h.kept (hb.block _ h.lt) (fun k hk => hb.block _ (h.own.lt k hk).2)
theorem BagAt.head (h : BagAt n₀ w g v zs) : w.cell? ⟨g, 0, none⟩ = some v ∧ w.frozen? ⟨g, 0, none⟩ = false := ⟨cell_of_row w g 0 _ _ (0, 0) h.block, by simp [World.frozen?, h.block]⟩
theorem BagAt.seq (h : BagAt n₀ w g v zs) : ∃ a c, v = .slice a zs.length c ∧ SeqAt w a (ints zs) := by
  obtain ⟨a, c, rfl, hs, -, -⟩ := ownsRow_seq h.own
  exact ⟨a, c, rfl, hs⟩
set_option maxRecDepth 100000 in
theorem bnew_any (a : Option Addr) (n c : Nat) (zs : List Int) (w : World) (h : SeqAt w a (ints zs)) (hl : zs.length = n) (hs : n ≤ 1000000) :
    Calls Tryz.prog 36 #[.slice a n c] w fun e w' => ∃ g v, e = .returned (.pointer (some ⟨g, 0, none⟩)) ∧ BagAt w.heap.size w' g v (setL zs) ∧ Below w.heap.size w w' := by
  have HC := Lib.hid (clone_any a n c zs w h hl hs)
  have hsl : zs.length ≤ 1000000 := by omega
  have HL := Lib.hid hsl
  clear h hl hsl
  go_enter Tryz.func36, Tryz.ntmps36
  go_wp2_with fail
  refine HC.out.mono ?_
  rintro e w1 ⟨v1, rfl, ho, hb⟩
  have HO := Lib.hid ho
  have HB := Lib.hid hb
  clear ho hb HC
  go_wp2_with fail
  refine (sort_own w.heap.size v1 zs _ HO.out (by have := HL.out; omega)).mono ?_
  rintro e w2 ⟨rfl, ho, hg⟩
  have HB2 := Lib.hid (HB.out.grown hg HB.out.size (fun k hk => (HO.out.lt k hk).1))
  have HO2 := Lib.hid ho
  clear ho hg HO HB
  go_wp2_with fail
  refine (compact_own w.heap.size v1 (sortL zs) _ HO2.out (by rw [sortL_length]; have := HL.out; omega) (compact_le _)).mono ?_
  rintro e w3 ⟨v3, rfl, ho, hg, -⟩
  have HB3 := Lib.hid (HB2.out.grown hg HB2.out.size (fun k hk => (HO2.out.lt k hk).1))
  have HO3 := Lib.hid ho
  clear ho hg HO2 HB2
  obtain ⟨va, vc, rfl, -, -, -⟩ := ownsRow_seq HO3.out
  go_wp2_with fail
  go_ret
  refine ⟨_, _, rfl, ⟨heap_alloc_new w3 _, ownsRow_kept HO3.out (fun k hk => Below.heap_alloc _ _ _ (HO3.out.lt k hk).2), fun e => ?_, HB3.out.size, setL_rises zs⟩, HB3.out.alloc HB3.out.size _⟩
  have := (HO3.out.lt _ e).2
  omega
def posL (zs : List Int) (x : Int) : Nat := zs.countP (· < x)
theorem posL_le (zs : List Int) (x : Int) : posL zs x ≤ zs.length := List.countP_le_length
theorem posL_split {zs : List Int} (k : Nat) (x : Int) (h1 : ∀ z ∈ zs.take k, z < x) (h2 : ∀ z ∈ zs.drop k, x ≤ z) (hk : k ≤ zs.length) : posL zs x = k := by
  unfold posL
  have a : (zs.take k).countP (· < x) = k := by
    have : (zs.take k).countP (· < x) = (zs.take k).length := List.countP_eq_length.2 (fun z hz => by simpa using h1 z hz)
    rw [this, List.length_take]; omega
  have b : (zs.drop k).countP (· < x) = 0 := List.countP_eq_zero.2 (fun z hz => by have := h2 z hz; simp; omega)
  have e : zs.countP (· < x) = (zs.take k).countP (· < x) + (zs.drop k).countP (· < x) := by rw [← List.countP_append, List.take_append_drop]
  rw [e, a, b]; rfl
theorem posL_at {zs : List Int} (hr : zs.Pairwise (· < ·)) {i : Nat} {x : Int} (h : zs[i]? = some x) : posL zs x = i := by
  obtain ⟨hi, rfl⟩ := List.getElem?_eq_some_iff.1 h
  have hg : ∀ i j (hi : i < zs.length) (hj : j < zs.length), i < j → zs[i] < zs[j] := fun i j hi hj hij => List.pairwise_iff_getElem.1 hr i j hi hj hij
  refine posL_split i _ (fun z hz => ?_) (fun z hz => ?_) (by omega)
  · obtain ⟨j, hj, rfl⟩ := List.mem_iff_getElem.1 hz
    rw [List.length_take] at hj
    rw [List.getElem_take]
    exact hg j i (by omega) hi (by omega)
  · obtain ⟨j, hj, rfl⟩ := List.mem_iff_getElem.1 hz
    rw [List.length_drop] at hj
    rw [List.getElem_drop]
    by_cases h0 : j = 0
    · subst h0; exact Int.le_refl _
    · have := hg i (i + j) hi (by omega) (by omega); omega
theorem posL_mem {zs : List Int} (hr : zs.Pairwise (· < ·)) {x : Int} (h : x ∈ zs) : zs[posL zs x]? = some x := by
  obtain ⟨i, hi, rfl⟩ := List.mem_iff_getElem.1 h
  have h1 := List.getElem?_eq_getElem hi
  rw [posL_at hr h1, h1]
def outL (l : List Int) (x : Int) : List Int := l.filter fun y => !(y == x)
theorem mem_outL {l : List Int} {x y : Int} : y ∈ outL l x ↔ y ∈ l ∧ y ≠ x := by simp [outL]
theorem outL_rises {l : List Int} (h : l.Pairwise (· < ·)) (x : Int) : (outL l x).Pairwise (· < ·) := h.filter _
theorem outL_none {l : List Int} {x : Int} (h : x ∉ l) : outL l x = l := List.filter_eq_self.2 (fun y hy => by simp; intro e; subst e; exact h hy)
theorem erase_out : ∀ {zs : List Int} {p : Nat} {x : Int}, zs.Pairwise (· < ·) → zs[p]? = some x → zs.take p ++ zs.drop (p + 1) = outL zs x
  | [], p, x, _, h => by simp at h
  | y :: t, 0, x, hr, h => by
    simp at h; subst h
    have := (List.pairwise_cons.1 hr).1
    have e : outL (y :: t) y = t := by
      unfold outL
      rw [List.filter_cons]
      simp only [beq_self_eq_true, Bool.not_true, Bool.false_eq_true, if_false]
      exact List.filter_eq_self.2 (fun z hz => by have := this z hz; simp; omega)
    simp [e]
  | y :: t, p + 1, x, hr, h => by
    obtain ⟨h1, h2⟩ := List.pairwise_cons.1 hr
    have hx : t[p]? = some x := by simpa using h
    have hne : y ≠ x := by have := h1 x (List.mem_of_getElem? hx); omega
    have ih := erase_out h2 hx
    have e : outL (y :: t) x = y :: outL t x := by
      unfold outL
      rw [List.filter_cons]
      simp [hne]
    rw [e, ← ih]
    simp
theorem hasL_true {l : List Int} {x : Int} (h : x ∈ l) : hasL l x = true := (hasL_iff _ _).2 h
theorem hasL_false {l : List Int} {x : Int} (h : x ∉ l) : hasL l x = false := by
  cases hh : hasL l x
  · rfl
  · exact absurd ((hasL_iff _ _).1 hh) h
theorem own_shrunk {w w' : World} {base g cap : Nat} {zs ys : List Int} {q : Nat} (h : own3 w 3 base (.slice (some ⟨g, 0, none⟩) zs.length cap) zs) (hle : ys.length ≤ zs.length)
    (he : w' = Go.Sort.putRow (Value.int .i64) (Go.Sort.ahead w q) g 0 (ys ++ List.replicate (zs.length - ys.length) 0).toArray) : own3 w' 3 base (.slice (some ⟨g, 0, none⟩) ys.length cap) ys ∧ w.grownBy w' (some g) := by
  subst he
  obtain ⟨hx, hr⟩ := h
  rcases hr with ⟨e, _⟩ | ⟨g', cap', cur, e, hbase, hb, h1, h2, h3, h4⟩
  · cases e
  · cases e
    have hb' := heap_sortedI (n := q) (os := #[]) (ys ++ List.replicate (zs.length - ys.length) 0).toArray hb
    rw [Go.Sort.grow_empty] at hb'
    have hg := grownBy_sortedI (w := w) (g := g) (n := q) (os := #[]) (ys ++ List.replicate (zs.length - ys.length) 0).toArray
    rw [Go.Sort.grow_empty] at hg
    refine ⟨⟨by simp [ints_length], Or.inr ⟨g, cap, _, rfl, hbase, hb', by omega, h2, by simp [Go.Sort.putCells, h3], ?_⟩⟩, hg⟩
    have := take_putCellsI cur (ys ++ List.replicate (zs.length - ys.length) 0) (by simp; omega)
    have h5 := congrArg (List.take ys.length) this
    rw [List.take_take, Nat.min_eq_left (by simp)] at h5
    rw [Nat.mul_one, h5, List.map_append, List.take_append_of_le_length (by simp)]
    rw [List.take_of_length_le (by simp)]
    rfl
theorem delete_own (base : Nat) (g cap : Nat) (zs : List Int) (p : Nat) (w : World) (h : own3 w 3 base (.slice (some ⟨g, 0, none⟩) zs.length cap) zs) (hp : p < zs.length) :
    Calls Tryz.prog 156 #[.slice (some ⟨g, 0, none⟩) zs.length cap, .int .i64 p, .int .i64 ((p + 1 : Nat) : Int)] w fun e w' => e = .returned (.slice (some ⟨g, 0, none⟩) (zs.take p ++ zs.drop (p + 1)).length cap) ∧ own3 w' 3 base (.slice (some ⟨g, 0, none⟩) (zs.take p ++ zs.drop (p + 1)).length cap) (zs.take p ++ zs.drop (p + 1)) ∧ w.grownBy w' (some g) := by
  have hlen : (zs.take p ++ zs.drop (p + 1)).length = zs.length - 1 := by simp; omega
  have h0 := h
  obtain ⟨hx, hr⟩ := h
  rcases hr with ⟨e, _⟩ | ⟨g', cap', cur, e, hbase, hb, h1, h2, h3, h4⟩
  · cases e
  · cases e
    have hH := holds_of_blockI (ss := zs) hb (by have := h4; rw [ints_map] at this; simpa using this)
    refine (Any.slices_Delete_int laysDelete g 0 cap p (p + 1) zs w hH h1 (by simpa [maxLen] using h2) (by omega) (by omega)).mono ?_
    rintro e w' ⟨rfl, q, he⟩
    have e1 : p + 1 - p = 1 := by omega
    rw [e1] at he ⊢
    obtain ⟨a, b⟩ := own_shrunk (w' := w') (q := q) (ys := zs.take p ++ zs.drop (p + 1)) h0 (by omega) (by rw [he, hlen, show zs.length - (zs.length - 1) = 1 by omega])
    exact ⟨by rw [hlen], a, b⟩
def Bag (w : World) (g : Nat) (F : Nat → Prop) (zs : List Int) : Prop := ∃ v, BagAt 0 w g v zs ∧ F g ∧ ∀ k, v.ownBlock = some k → F k
variable {w w' : World} {g : Nat} {F G : Nat → Prop} {zs : List Int}
theorem Bag.below (h : Bag w g F zs) (hb : Below w.heap.size w w') : Bag w' g F zs := by obtain ⟨v, h1, h2⟩ := h; exact ⟨v, h1.below hb, h2⟩
theorem Bag.only (h : Bag w g F zs) (ho : Only G w w') (hd : ∀ k, F k → ¬ G k) : Bag w' g F zs := by
  obtain ⟨v, h1, h2, h3⟩ := h
  exact ⟨v, h1.kept (ho.block _ h1.lt (hd _ h2)) (fun k hk => ho.block _ (h1.own.lt k hk).2 (hd _ (h3 k hk))), h2, h3⟩
theorem Bag.mono (h : Bag w g F zs) (hs : ∀ k, F k → G k) : Bag w g G zs := by obtain ⟨v, h1, h2, h3⟩ := h; exact ⟨v, h1, hs _ h2, fun k hk => hs _ (h3 k hk)⟩
theorem Bag.rises (h : Bag w g F zs) : zs.Pairwise (· < ·) := by obtain ⟨v, h1, _⟩ := h; exact h1.rises
theorem BagAt.store {v v' : Value} {zs' : List Int} (h : BagAt 0 w g v zs) (hF : F g) (hFv : ∀ k, v.ownBlock = some k → F k) (ho : Only F w w') (hg : w'.heap[g]? = w.heap[g]?) (hv : own3 w' 3 0 v' zs') (hr : zs'.Pairwise (· < ·)) (hf : ∀ k, v'.ownBlock = some k → v.ownBlock = some k ∨ w.heap.size ≤ k) :
    Bag (w'.setCell ⟨g, 0, none⟩ v') g (grow F w (w'.setCell ⟨g, 0, none⟩ v')) zs' ∧ Only F w (w'.setCell ⟨g, 0, none⟩ v') := by
  have hs : (w'.setCell ⟨g, 0, none⟩ v').heap.size = w'.heap.size := by simp [World.setCell]
  have hne : ∀ k, v'.ownBlock = some k → k ≠ g := fun k hk e => by
    subst e
    rcases hf k hk with h1 | h1
    · exact h.ne h1
    · have := h.lt; omega
  refine ⟨⟨v', ⟨by simp [World.setCell, Array.getElem?_modify, hg.trans h.block], ownsRow_kept hv (fun k hk => Below.heap_setCell _ _ _ _ (by simpa using hne k hk)), fun e => hne g e rfl, Nat.zero_le _, hr⟩, Or.inl hF, fun k hk => ?_⟩, ho.setCell (Or.inl hF) _⟩
  rcases hf k hk with h1 | h1
  · exact Or.inl (hFv k h1)
  · exact Or.inr ⟨h1, by rw [hs]; exact (hv.lt k hk).2⟩
set_option maxRecDepth 100000 in
set_option maxHeartbeats 2000000 in
theorem bdelF_any (x : Int) (w : World) (h : Bag w g F zs) (hl : zs.length ≤ 1000000) : Calls Tryz.prog 114 #[.pointer (some ⟨g, 0, none⟩), .int .i64 x] w fun e w' => e = .returned (.bool (hasL zs x)) ∧ Bag w' g (grow F w w') (outL zs x) ∧ Only F w w' := by
  have HB0 := Lib.hid h
  obtain ⟨v, hb, hF, hFv⟩ := h
  obtain ⟨c0, f0⟩ := hb.head
  obtain ⟨a, c, rfl, hs⟩ := hb.seq
  have HS := Lib.hid hs
  have HR : Hid (zs.Pairwise (· ≤ ·)) := rises_le hb.rises
  have HBG := Lib.hid hb
  by_cases hx : x ∈ zs
  · have HP := Lib.hid (posL_mem hb.rises hx)
    have hplt : posL zs x < zs.length := (List.getElem?_eq_some_iff.1 HP.out).1
    obtain ⟨p, hp⟩ : ∃ p, p = posL zs x := ⟨_, rfl⟩
    have HPP : Hid (zs.countP (· < x) = p) := hp.symm
    rw [← hp] at HP hplt
    have HX : Hid (hasL zs x = true) := hasL_true hx
    obtain ⟨b0, off0, ea, hcell⟩ := hs (by rw [ints_length]; omega)
    have HE : Hid (zs.take p ++ zs.drop (p + 1) = outL zs x) := erase_out hb.rises HP.out
    have HYR : Hid ((outL zs x).Pairwise (· < ·)) := outL_rises hb.rises x
    obtain ⟨ys, hys⟩ : ∃ ys, ys = outL zs x := ⟨_, rfl⟩
    rw [← hys] at HE HYR ⊢
    clear hys
    have hoff : ∃ g', a = some ⟨g', 0, none⟩ := by
      rcases hb.own.2 with ⟨e, _⟩ | ⟨g', cap', cur, e, _⟩
      · rw [ea] at e; simp at e
      · injection e with e1 e2 e3; exact ⟨g', e1⟩
    obtain ⟨g', rfl⟩ := hoff
    have HPI : Hid ((p : Int) + 1 = ((p + 1 : Nat) : Int)) := by show _ = _; omega
    have hp63 : p < 1000000 := by omega
    rw [HX.out]
    clear hb hs hx hp hcell ea
    go_enter Tryz.func114, Tryz.ntmps114
    go_wp2_with fail
    refine (search_any _ _ c zs x _ HS.out rfl (by omega) HR.out).mono ?_
    rintro e w1 ⟨rfl, hd⟩
    rw [HPP.out, HX.out]
    have HB1 := Lib.hid (HBG.out.below (hd.below _))
    have HD := Lib.hid (hd.below w.heap.size)
    obtain ⟨c1, f1⟩ := HB1.out.head
    clear hd c0 f0
    go_wp2_with fail
    rw [HPI.out]
    refine (delete_own 0 g' c zs p _ HB1.out.own hplt).mono ?_
    rintro e w2 ⟨rfl, ho, hg⟩
    rw [HE.out] at ho ⊢
    have hgl := HB1.out.lt
    have hgg : w2.heap[g]? = w1.heap[g]? := hg.block g hgl (fun e => HB1.out.ne e.symm)
    have c2 : w2.cell? ⟨g, 0, none⟩ = some (.slice (some ⟨g', 0, none⟩) zs.length c) := by rw [World.cell?_of_block (a := ⟨g, 0, none⟩) (w := w1) hgg]; exact c1
    have f2 : w2.frozen? ⟨g, 0, none⟩ = false := by rw [World.frozen?_of_block (a := ⟨g, 0, none⟩) (w := w1) hgg]; exact f1
    have HO2 : Hid (Only F w1 w2) := (Only.refl F w1).grown hg (fun k hk => Or.inl (hFv k hk))
    have HST := Lib.hid (HB1.out.store hF hFv HO2.out hgg ho HYR.out (fun k hk => Or.inl hk))
    clear ho hg hgg c1 f1 hgl
    go_wp2_with fail
    go_ret
    exact ⟨rfl, HST.out.1.mono (fun k hk => hk.imp id (fun h => ⟨Nat.le_trans HD.out.size h.1, h.2⟩)), (Only.of_below HD.out F).trans HST.out.2 (fun k hk => Or.inl hk)⟩
  · have HX : Hid (hasL zs x = false) := hasL_false hx
    have HE : Hid (outL zs x = zs) := outL_none hx
    rw [HX.out, HE.out]
    clear hb hs hx HE
    go_enter Tryz.func114, Tryz.ntmps114
    go_wp2_with fail
    refine (search_any a _ c zs x _ HS.out rfl (by omega) HR.out).mono ?_
    rintro e w1 ⟨rfl, hd⟩
    rw [HX.out]
    have HD := Lib.hid (hd.below w.heap.size)
    generalize List.countP _ zs = cc
    clear hd
    go_wp2_with fail
    go_ret
    exact ⟨rfl, (HB0.out.below HD.out).mono (fun k hk => Or.inl hk), Only.of_below HD.out F⟩
theorem block_setCells (b : Nat) (T : TypeId) : ∀ (vs : List Value) (o : Nat) (w : World) (cs : Array Value), w.heap[b]? = some (.cells cs T (0, 0)) → o + vs.length ≤ cs.size →
    ∃ cs', (w.setCells b o vs).heap[b]? = some (.cells cs' T (0, 0)) ∧ cs'.size = cs.size ∧ (∀ j, j < vs.length → cs'[o + j]? = vs[j]?) ∧ ∀ k, k < o ∨ o + vs.length ≤ k → cs'[k]? = cs[k]?
  | [], o, w, cs, h, _ => ⟨cs, h, rfl, by simp, fun _ _ => rfl⟩
  | v :: r, o, w, cs, h, hs => by
    have hs' : o + 1 + r.length ≤ cs.size := by simp at hs; omega
    have hb : (w.setCell ⟨b, o, none⟩ v).heap[b]? = some (.cells (cs.setIfInBounds o v) T (0, 0)) := by simp [World.setCell, Array.getElem?_modify, h]
    obtain ⟨cs', h1, h2, h3, h4⟩ := block_setCells b T r (o + 1) _ _ hb (by simpa using hs')
    refine ⟨cs', h1, by simpa using h2, fun j hj => ?_, fun k hk => ?_⟩
    · cases j with
      | zero =>
        rw [Nat.add_zero, h4 o (Or.inl (by omega))]
        have : o < cs.size := by omega
        simp [this]
      | succ j =>
        have := h3 j (by simp at hj; omega)
        rw [show o + (j + 1) = o + 1 + j by omega, this]; simp
    · have hk' : k < o + 1 ∨ o + 1 + r.length ≤ k := by simp at hk; omega
      rw [h4 k hk', Array.getElem?_setIfInBounds, if_neg (by simp at hk; omega)]
def insV (cs : List Value) (p : Nat) (v : Value) : List Value := cs.take p ++ v :: cs.drop p
theorem insV_get {cs : List Value} {p : Nat} {v : Value} (hp : p ≤ cs.length) (k : Nat) : (insV cs p v)[k]? = if k < p then cs[k]? else if k = p then some v else cs[k - 1]? := by
  unfold insV
  by_cases h1 : k < p
  · rw [if_pos h1, List.getElem?_append_left (by simp; omega), List.getElem?_take_of_lt h1]
  · rw [if_neg h1, List.getElem?_append_right (by simp; omega)]
    have hl : (cs.take p).length = p := by simp; omega
    rw [hl]
    by_cases h2 : k = p
    · subst h2; simp
    · rw [if_neg h2]
      obtain ⟨j, rfl⟩ : ∃ j, k = p + 1 + j := ⟨k - p - 1, by omega⟩
      rw [show p + 1 + j - p = j + 1 by omega, List.getElem?_cons_succ, List.getElem?_drop]
      congr 1; omega
def insL (zs : List Int) (p : Nat) (x : Int) : List Int := zs.take p ++ x :: zs.drop p
theorem insL_length {zs : List Int} {p : Nat} (x : Int) (hp : p ≤ zs.length) : (insL zs p x).length = zs.length + 1 := by unfold insL; simp; omega
theorem ints_insL (zs : List Int) (p : Nat) (x : Int) : ints (insL zs p x) = insV (ints zs) p (iv x) := by simp [ints, insL, insV, List.map_take, List.map_drop]
theorem own_of_block {w : World} {base b cap : Nat} {cs : Array Value} {ys : List Int} (hb : w.heap[b]? = some (.cells cs 3 (0, 0))) (hbase : base ≤ b) (hn : ys.length ≤ cap) (hc : cap ≤ maxLen) (hs : cs.size = cap) (h : ∀ k, k < ys.length → cs[k]? = (ints ys)[k]?) : own3 w 3 base (.slice (some ⟨b, 0, none⟩) ys.length cap) ys := by
  refine ⟨by simp [ints_length], Or.inr ⟨b, cap, cs, rfl, hbase, hb, hn, hc, by omega, ?_⟩⟩
  apply List.ext_getElem?
  intro k
  by_cases hk : k < ys.length
  · rw [Nat.mul_one, List.getElem?_take_of_lt hk, Array.getElem?_toList, h k hk]
  · rw [List.getElem?_eq_none (by simp; omega), List.getElem?_eq_none (by rw [ints_length]; omega)]
theorem insert_own (base : Nat) (v : Value) (zs : List Int) (p : Nat) (x : Int) (vb : Nat) (w : World) (h : own3 w 3 base v zs) (hp : p ≤ zs.length) (hvb : w.heap[vb]? = some (.cells #[iv x] 3 (0, 0))) (hne : v.ownBlock ≠ some vb) (hs : zs.length ≤ 1000000) (hbase : base ≤ w.heap.size) :
    Calls Tryz.prog 138 #[v, .int .i64 p, .slice (some ⟨vb, 0, none⟩) 1 1] w fun e w' => ∃ v', e = .returned v' ∧ own3 w' 3 base v' (insL zs p x) ∧ Only (fun k => v.ownBlock = some k) w w' ∧ ∀ k, v'.ownBlock = some k → v.ownBlock = some k ∨ w.heap.size ≤ k := by
  have hvs : ∀ (j : Nat) (u : Value), [iv x][j]? = some u → w.cell? ⟨vb, 0 + j, none⟩ = some u := fun j u hu => by
    cases j with
    | zero => simp at hu; subst hu; exact cell_of_row w vb 0 _ _ (0, 0) hvb
    | succ j => simp at hu
  have h1v : ∀ u ∈ [iv x], u.oneCell' = true := fun u hu => by simp at hu; subst hu; rfl
  have hil := ints_length zs
  have hIL := insL_length x hp
  have hget := insV_get (cs := ints zs) (v := iv x) (p := p) (by rw [hil]; exact hp)
  have zsz : ∀ n, (Builtin.zeroCells (Value.int .i64 0).cells n).size = n := fun n => by rw [size_zeroCells]; simp [Value.cells]
  have h1c : ∀ u ∈ ints zs, u.oneCell' = true := ints_oneCell .i64 zs
  rcases h.2 with ⟨rfl, hn0⟩ | ⟨b, cap, cur, rfl, hbb, hb, h1, h2, h3, h4⟩
  · have hz : zs = [] := List.eq_nil_of_length_eq_zero hn0
    subst hz
    obtain rfl : p = 0 := by simpa using hp
    refine (Any2.slices_Insert_int_end_grow laysInsert none 0 0 vb 0 1 1 [] [iv x] w (by decide) (by decide) (by decide) (by decide) rfl rfl (fun _ => rfl) (fun a e => by cases e) hvs h1v).mono ?_
    rintro e w' ⟨rfl, rfl⟩
    have hg := grownCap_ge w 1 0 3
    have hm := grownCap_le_maxLen w 1 0 3 (by decide)
    refine ⟨_, rfl, own_of_block (ys := insL [] 0 x) (heap_alloc_new w.drew _) hbase hg hm ?_ ?_, (Only.refl _ w).drew.alloc _, fun k hk => Or.inr ?_⟩
    · rw [show laysInsert_ren.t 3 = 3 from rfl]
      have := zsz (grownCap w 1 0 3 - 1)
      simp [this]; omega
    · intro k hk
      have : k = 0 := by simp [insL] at hk; omega
      subst this
      rw [Array.getElem?_append_left (by simp)]
      simp [insL, ints]
    · simp [Value.ownBlock] at hk; omega
  · have hcur : ∀ k, k < zs.length → cur[k]? = (ints zs)[k]? := fun k hk => by
      rw [← h4, Nat.mul_one, List.getElem?_take_of_lt hk, Array.getElem?_toList]
    have hsz : cur.size = cap := by omega
    have hcs : ∀ (j : Nat) (u : Value), (ints zs)[j]? = some u → w.cell? ⟨b, 0 + j, none⟩ = some u := fun j u hu => by
      have hj : j < zs.length := by have := (List.getElem?_eq_some_iff.1 hu).1; rw [hil] at this; exact this
      rw [Nat.zero_add, cell_of_row w b j cur _ (0, 0) hb, hcur j hj]; exact hu
    have hfz : ∀ j, w.frozen? ⟨b, 0 + j, none⟩ = false := fun j => by simp [World.frozen?, hb]
    have hsp : ∀ j, j < cap → (w.cell? ⟨b, 0 + j, none⟩).isSome = true := fun j hj => by
      rw [Nat.zero_add, cell_of_row w b j cur _ (0, 0) hb]; simp; omega
    have hOwn : (Value.slice (some ⟨b, 0, none⟩) zs.length cap).ownBlock = some b := rfl
    have hvbb : vb ≠ b := fun e => hne (by rw [e]; rfl)
    by_cases hr : zs.length + 1 ≤ cap
    · by_cases hpn : p < zs.length
      · refine (Any2.slices_Insert_int_shift laysInsert b 0 zs.length cap p vb 0 1 1 (ints zs) [iv x] w hpn (by decide) hr (by simpa [maxLen] using h2) hvbb hil rfl hcs (fun j hj => hsp j (by omega)) (fun j _ => hfz j) hvs h1c h1v 3 3 1 cap (by simp [World.shape?, hvb]) (by simp [World.shape?, hb, hsz]) (by omega) (by simp [World.frozen?, hvb]) (by simp [World.frozen?, hvb])).mono ?_
        rintro e w' ⟨rfl, rfl⟩
        obtain ⟨c1, d1, d2, d3, d4⟩ := block_setCells b 3 ((ints zs).drop p) (0 + (p + 1)) w.drew cur hb (by rw [List.length_drop, hil]; omega)
        obtain ⟨c2, e1, e2, e3, e4⟩ := block_setCells b 3 [iv x] (0 + p) _ c1 d1 (by simp; omega)
        refine ⟨_, rfl, by
          have := own_of_block (ys := insL zs p x) e1 hbb (by rw [hIL]; exact hr) h2 (by omega) (fun k hk => ?_)
          · rw [hIL] at this; exact this
          · rw [hIL] at hk
            rw [ints_insL, hget]
            by_cases k1 : k < p
            · rw [if_pos k1, e4 k (Or.inl (by omega)), d4 k (Or.inl (by omega)), hcur k (by omega)]
            · rw [if_neg k1]
              by_cases k2 : k = p
              · subst k2; rw [if_pos rfl]; have := e3 0 (by simp); simpa using this
              · rw [if_neg k2, e4 k (Or.inr (by simp; omega))]
                have := d3 (k - (p + 1)) (by rw [List.length_drop, hil]; omega)
                rw [show 0 + (p + 1) + (k - (p + 1)) = k by omega, List.getElem?_drop, show p + (k - (p + 1)) = k - 1 by omega] at this
                exact this, ?_, fun k hk => Or.inl hk⟩
        exact (((Only.refl _ w).drew.grown (grown_setCells b _ _ w.drew) (fun k hk => Or.inl hk)).grown (grown_setCells b _ _ _) (fun k hk => Or.inl hk))
      · have hpe : p = zs.length := by omega
        subst hpe
        refine (Any2.slices_Insert_int_end_room laysInsert b 0 zs.length cap vb 0 1 1 [iv x] w (by decide) hr (by simpa [maxLen] using h2) rfl (fun j hj => by have := hsp (zs.length + j) (by omega); rw [Nat.add_assoc]; exact this) (fun j _ => by rw [Nat.add_assoc]; exact hfz _) hvs h1v).mono ?_
        rintro e w' ⟨rfl, rfl⟩
        obtain ⟨c1, d1, d2, d3, d4⟩ := block_setCells b 3 [iv x] (0 + zs.length) w cur hb (by simp; omega)
        refine ⟨_, rfl, by
          have := own_of_block (ys := insL zs zs.length x) d1 hbb (by rw [hIL]; exact hr) h2 (by omega) (fun k hk => ?_)
          · rw [hIL] at this; exact this
          · rw [hIL] at hk
            rw [ints_insL, hget]
            by_cases k1 : k < zs.length
            · rw [if_pos k1, d4 k (Or.inl (by omega)), hcur k k1]
            · have k2 : k = zs.length := by omega
              subst k2
              rw [if_neg k1, if_pos rfl]
              have := d3 0 (by simp); simpa using this, ?_, fun k hk => Or.inl hk⟩
        exact (Only.refl _ w).grown (grown_setCells b _ _ w) (fun k hk => Or.inl hk)
    · have hg := grownCap_ge w (zs.length + 1) cap 3
      have hm := grownCap_le_maxLen w (zs.length + 1) cap 3 (by unfold maxLen; omega)
      by_cases hpn : p < zs.length
      · refine (Any2.slices_Insert_int_grow laysInsert b 0 zs.length cap p vb 0 1 1 (ints zs) [iv x] w hpn (by decide) h1 (by omega) (by omega) hil rfl hcs hvs h1c h1v).mono ?_
        rintro e w' ⟨rfl, rfl⟩
        have hz1 := zsz (zs.length + 1 - p)
        have hz2 := zsz (grownCap w (zs.length + 1) cap 3 - (zs.length + 1))
        obtain ⟨c1, d1, d2, d3, d4⟩ := block_setCells w.heap.size 3 [iv x] p (w.alloc (.cells (((ints zs).take p).toArray ++ Builtin.zeroCells (Value.int .i64 0).cells (zs.length + 1 - p) ++ Builtin.zeroCells (Value.int .i64 0).cells (grownCap w (zs.length + 1) cap 3 - (zs.length + 1))) 3)).drew _ (heap_alloc_new w _) (by simp [hz1, hz2, hil]; omega)
        have hd2 : c1.size = grownCap w (zs.length + 1) cap 3 := by rw [d2]; simp [hz1, hz2, hil]; omega
        obtain ⟨c2, e1, e2, e3, e4⟩ := block_setCells w.heap.size 3 ((ints zs).drop p) (p + 1) (((w.alloc (.cells (((ints zs).take p).toArray ++ Builtin.zeroCells (Value.int .i64 0).cells (zs.length + 1 - p) ++ Builtin.zeroCells (Value.int .i64 0).cells (grownCap w (zs.length + 1) cap 3 - (zs.length + 1))) 3)).drew.setCells w.heap.size p [iv x]).drew) c1 d1 (by rw [List.length_drop, hil]; omega)
        refine ⟨_, rfl, by
          have := own_of_block (ys := insL zs p x) (cap := grownCap w (zs.length + 1) cap 3) e1 hbase (by rw [hIL]; exact hg) hm (by omega) (fun k hk => ?_)
          · rw [hIL] at this; exact this
          · rw [hIL] at hk
            rw [ints_insL, hget]
            by_cases k1 : k < p
            · rw [if_pos k1, e4 k (Or.inl (by omega)), d4 k (Or.inl (by omega))]
              rw [Array.getElem?_append_left (by simp [hz1, hil]; omega), Array.getElem?_append_left (by simp [hil]; omega)]
              simp [List.getElem?_take_of_lt k1]
            · rw [if_neg k1]
              by_cases k2 : k = p
              · subst k2; rw [if_pos rfl, e4 k (Or.inl (by omega))]; have := d3 0 (by simp); simpa using this
              · rw [if_neg k2]
                have := e3 (k - (p + 1)) (by rw [List.length_drop, hil]; omega)
                rw [show p + 1 + (k - (p + 1)) = k by omega, List.getElem?_drop, show p + (k - (p + 1)) = k - 1 by omega] at this
                exact this, ?_, fun k hk => Or.inr (by simp [Value.ownBlock] at hk; omega)⟩
        exact (((((Only.refl _ w).alloc _).drew.grown (grown_setCells w.heap.size _ _ _) (fun k hk => by cases hk; exact Or.inr (Nat.le_refl _))).drew).grown (grown_setCells w.heap.size _ _ _) (fun k hk => by cases hk; exact Or.inr (Nat.le_refl _)))
      · have hpe : p = zs.length := by omega
        subst hpe
        refine (Any2.slices_Insert_int_end_grow laysInsert (some ⟨b, 0, none⟩) zs.length cap vb 0 1 1 (ints zs) [iv x] w (by decide) h1 (by omega) (by omega) hil rfl (fun e => by cases e) (fun a e j u hu => by cases e; have := hcs j u hu; unfold Addr.add; split <;> simp_all) hvs h1v).mono ?_
        rintro e w' ⟨rfl, rfl⟩
        have hz2 := zsz (grownCap w (zs.length + 1) cap 3 - (zs.length + 1))
        refine ⟨_, rfl, by
          have := own_of_block (ys := insL zs zs.length x) (cap := grownCap w (zs.length + 1) cap 3) (heap_alloc_new w.drew (.cells ((ints zs ++ [iv x]).toArray ++ Builtin.zeroCells (Value.int .i64 0).cells (grownCap w (zs.length + 1) cap 3 - (zs.length + 1))) 3)) hbase (by rw [hIL]; exact hg) hm (by simp [hz2, hil]; omega) (fun k hk => ?_)
          · rw [hIL] at this; exact this
          · rw [hIL] at hk
            rw [Array.getElem?_append_left (by simp [hil]; omega)]
            simp [ints_insL, insV, ← hil], (Only.refl _ w).drew.alloc _, fun k hk => Or.inr (by simp [Value.ownBlock] at hk; omega)⟩
def putL (zs : List Int) (x : Int) : List Int := if hasL zs x = true then zs else insL zs (posL zs x) x
theorem posL_low {zs : List Int} (hr : zs.Pairwise (· < ·)) (x : Int) : (∀ z ∈ zs.take (posL zs x), z < x) ∧ ∀ z ∈ zs.drop (posL zs x), x ≤ z := by
  induction zs with
  | nil => simp
  | cons y t ih =>
    obtain ⟨h1, h2⟩ := List.pairwise_cons.1 hr
    obtain ⟨i1, i2⟩ := ih h2
    by_cases hy : y < x
    · have e : posL (y :: t) x = posL t x + 1 := by unfold posL; rw [List.countP_cons]; simp [hy]
      rw [e]
      refine ⟨fun z hz => ?_, fun z hz => i2 z (by simpa using hz)⟩
      rw [List.take_succ_cons] at hz
      rcases List.mem_cons.1 hz with rfl | hz
      · exact hy
      · exact i1 z hz
    · have e0 : posL t x = 0 := List.countP_eq_zero.2 (fun z hz => by have := h1 z hz; simp; omega)
      have e : posL (y :: t) x = 0 := by
        have : posL (y :: t) x = posL t x + 0 := by unfold posL; rw [List.countP_cons]; simp; omega
        rw [this, e0]
      rw [e]
      refine ⟨fun z hz => by simp at hz, fun z hz => ?_⟩
      simp at hz
      rcases hz with rfl | hz
      · omega
      · have := h1 z hz; omega
theorem putL_rises {zs : List Int} (hr : zs.Pairwise (· < ·)) (x : Int) : (putL zs x).Pairwise (· < ·) := by
  unfold putL
  by_cases h : hasL zs x = true
  · rw [if_pos h]; exact hr
  · rw [if_neg h]
    have hn : x ∉ zs := fun hx => h (hasL_true hx)
    obtain ⟨h1, h2⟩ := posL_low hr x
    unfold insL
    have ht := List.take_append_drop (posL zs x) zs
    rw [← ht] at hr
    obtain ⟨a, b, c⟩ := List.pairwise_append.1 hr
    refine List.pairwise_append.2 ⟨by simpa using a, List.pairwise_cons.2 ⟨fun z hz => ?_, by simpa using b⟩, fun y hy z hz => ?_⟩
    · have := h2 z hz
      have hne : z ≠ x := fun e => hn (by rw [← e]; exact List.mem_of_mem_drop hz)
      omega
    · rcases List.mem_cons.1 hz with rfl | hz
      · exact h1 y hy
      · have := h1 y hy; have := h2 z hz; omega
theorem mem_putL {zs : List Int} {x y : Int} : y ∈ putL zs x ↔ y ∈ zs ∨ y = x := by
  unfold putL
  by_cases h : hasL zs x = true
  · rw [if_pos h]
    exact ⟨Or.inl, fun h' => h'.elim id (fun e => by subst e; exact (hasL_iff _ _).1 h)⟩
  · rw [if_neg h]
    unfold insL
    rw [List.mem_append, List.mem_cons]
    have ht := List.take_append_drop (posL zs x) zs
    have : y ∈ zs ↔ y ∈ zs.take (posL zs x) ∨ y ∈ zs.drop (posL zs x) := by rw [← List.mem_append, ht]
    rw [this]
    constructor
    · rintro (h | rfl | h)
      · exact Or.inl (Or.inl h)
      · exact Or.inr rfl
      · exact Or.inl (Or.inr h)
    · rintro ((h | h) | rfl)
      · exact Or.inl h
      · exact Or.inr (Or.inr h)
      · exact Or.inr (Or.inl rfl)
variable {w w' w0 : World} {g : Nat} {F G : Nat → Prop} {zs : List Int}
set_option maxRecDepth 100000 in
set_option maxHeartbeats 2000000 in
theorem bputF_any (x : Int) (w : World) (h : Bag w g F zs) (hl : zs.length ≤ 900000) : Calls Tryz.prog 91 #[.pointer (some ⟨g, 0, none⟩), .int .i64 x] w fun e w' => e = .returned (.bool (!hasL zs x)) ∧ Bag w' g (grow F w w') (putL zs x) ∧ Only F w w' := by
  have HB0 := Lib.hid h
  obtain ⟨v, hb, hF, hFv⟩ := h
  obtain ⟨c0, f0⟩ := hb.head
  obtain ⟨a, c, rfl, hs⟩ := hb.seq
  have HS := Lib.hid hs
  have HR : Hid (zs.Pairwise (· ≤ ·)) := rises_le hb.rises
  have HBG := Lib.hid hb
  by_cases hx : hasL zs x = true
  · have HX := Lib.hid hx
    have HE : Hid (putL zs x = zs) := by show _ = _; unfold putL; rw [if_pos hx]
    rw [HX.out, HE.out]
    clear hb hs hx HE
    go_enter Tryz.func91, Tryz.ntmps91
    go_wp2_with fail
    refine (search_any a _ c zs x _ HS.out rfl (by omega) HR.out).mono ?_
    rintro e w1 ⟨rfl, hd⟩
    rw [HX.out]
    have HD := Lib.hid (hd.below w.heap.size)
    generalize List.countP _ zs = cc
    clear hd
    go_wp2_with fail
    go_ret
    exact ⟨rfl, (HB0.out.below HD.out).mono (fun k hk => Or.inl hk), Only.of_below HD.out F⟩
  · have HX : Hid (hasL zs x = false) := by show _ = _; simpa using hx
    have HYR : Hid ((putL zs x).Pairwise (· < ·)) := putL_rises hb.rises x
    have HE : Hid (putL zs x = insL zs (posL zs x) x) := by show _ = _; unfold putL; rw [if_neg hx]
    have hple := posL_le zs x
    obtain ⟨p, hp⟩ : ∃ p, p = posL zs x := ⟨_, rfl⟩
    have HPP : Hid (zs.countP (· < x) = p) := hp.symm
    rw [← hp] at HE hple
    obtain ⟨ys, hys⟩ : ∃ ys, ys = putL zs x := ⟨_, rfl⟩
    rw [← hys] at HE HYR ⊢
    rw [HX.out]
    clear hb hs hx hp hys
    go_enter Tryz.func91, Tryz.ntmps91
    go_wp2_with fail
    refine (search_any a _ c zs x _ HS.out rfl (by omega) HR.out).mono ?_
    rintro e w1 ⟨rfl, hd⟩
    rw [HPP.out, HX.out]
    have HB1 := Lib.hid (HBG.out.below (hd.below _))
    have HD := Lib.hid (hd.below w.heap.size)
    obtain ⟨c1, f1⟩ := HB1.out.head
    clear hd c0 f0
    go_wp2_with fail
    have HB2 := Lib.hid (HB1.out.below ((Below.refl _ w1).alloc (Nat.le_refl _) (.cells #[.int .i64 x] 3)))
    refine (insert_own 0 (.slice a zs.length c) zs p x w1.heap.size _ HB2.out.own hple (heap_alloc_new w1 _) (fun e => by have := (HB1.out.own.lt _ e).2; omega) (by omega) (Nat.zero_le _)).mono ?_
    rintro e w2 ⟨v', rfl, ho, hon, hf⟩
    rw [← HE.out] at ho
    have hgl := HB1.out.lt
    have hgg : w2.heap[g]? = w1.heap[g]? := (hon.block g (by simp; omega) (fun e => HB1.out.ne e)).trans (Below.heap_alloc w1 _ _ hgl)
    have c2 : w2.cell? ⟨g, 0, none⟩ = some (.slice a zs.length c) := by rw [World.cell?_of_block (a := ⟨g, 0, none⟩) (w := w1) hgg]; exact c1
    have f2 : w2.frozen? ⟨g, 0, none⟩ = false := by rw [World.frozen?_of_block (a := ⟨g, 0, none⟩) (w := w1) hgg]; exact f1
    have HO2 : Hid (Only F w1 w2) := ((Only.refl F w1).alloc _).trans (hon.mono (fun k hk => hFv k hk)) (fun k hk => Or.inl hk)
    have HST := Lib.hid (HB1.out.store hF hFv HO2.out hgg ho HYR.out (fun k hk => (hf k hk).imp id (fun h => by simp at h; omega)))
    obtain ⟨va, vc, rfl, -, -, -⟩ := ownsRow_seq ho
    clear ho hon hf hgg c1 f1 hgl
    go_wp2_with fail
    go_ret
    exact ⟨rfl, HST.out.1.mono (fun k hk => hk.imp id (fun h => ⟨Nat.le_trans HD.out.size h.1, h.2⟩)), (Only.of_below HD.out F).trans HST.out.2 (fun k hk => Or.inl hk)⟩
end Go.Proofs.YtcdpnfchmpncjaaGreatDoor

namespace Go.Proofs.YtcdpnfchmpncjaaGreatDoor
open Go.RowKit Go.Shelf Go.Tr
def KeepsB (b : Nat) (W W' : World) : Prop := W'.heap[b]? = W.heap[b]?
theorem keepsB_t {b : Nat} {A B C : World} (h : KeepsB b A B) (k : KeepsB b B C) : KeepsB b A C := Eq.trans k h
set_option maxRecDepth 100000 in
set_option maxHeartbeats 2000000 in
theorem bvalues1 (l Bs b off len cap : Nat) (zs : List Int) (hreach : len ≤ 1000000) (hl : zs.length = len) (J : List Int → World → Prop)
    (hY : ∀ pre x W, J pre W → pre ++ [x] <+: zs → YieldAt Fence.wide 1 Tryz.prog l #[.int .i64 x] W fun e W' => e = .returned (.bool true) ∧ J (pre ++ [x]) W' ∧ KeepsB b W W')
    (W : World) (hBs : W.cell? ⟨Bs, 0, none⟩ = some (.slice (some ⟨b, off, none⟩) len cap)) (hc : ∀ j z, zs[j]? = some z → W.cell? ⟨b, off + j, none⟩ = some (.int .i64 z)) (h0 : J [] W) :
    CallsIn Fence.wide 2 Tryz.prog 146 #[.func (.yield l) #[] #[], .pointer (some ⟨Bs, 0, none⟩)] W fun e W' => (∃ v, e = .returned v) ∧ J zs W' := by
  refine callsIn_of_wp Tryz.func146 rfl trivial ?_ rfl
  simp only [Tryz.ntmps146, List.size_toArray, List.length_cons, List.length_nil, Nat.reduceAdd, Nat.reduceSub, Array.replicate_succ, Array.replicate_zero, List.push_toArray, List.append_toArray, List.nil_append, List.cons_append]
  gi_wp2
  gi_loopw [7] (fun i wr => ∃ k : Nat, k ≤ len ∧ i = .int .i64 k ∧ J (zs.take k) wr ∧ KeepsB b W wr)
    (fun i _ => len - (intOf i).toNat)
  case atStart => exact ⟨0, Nat.zero_le _, rfl, h0, rfl⟩
  case round =>
    obtain ⟨k, hk, rfl, hJs, hnx⟩ := hrel
    by_cases hlt : k < len
    · obtain ⟨z, hz⟩ : ∃ z, zs[k]? = some z := ⟨_, List.getElem?_eq_getElem (by omega)⟩
      have htk : Hid (zs.take (k + 1) = zs.take k ++ [z]) := take_snoc hz
      obtain ⟨fn, tmps, assign, body, hy, hR⟩ := hY _ z wr hJs (by rw [← htk.out]; exact List.take_prefix _ _)
      have hcx' : wr.cell? ⟨b, off + k, none⟩ = some (.int .i64 z) := (World.cell?_of_block (a := ⟨b, off + k, none⟩) hnx).trans (hc k z hz)
      clear hz
      gi_wp2
      refine hR.mono ?_
      rintro e W3 ⟨rfl, hJ3, hk3⟩
      gi_wp2
      go_roundw
      case rel => exact ⟨k + 1, by omega, by simp, by rw [htk.out]; exact hJ3, keepsB_t hnx hk3⟩
      case measure => simp [intOf]; omega
    · obtain rfl : k = len := by omega
      gi_wp2
      go_end0
      exact ⟨⟨_, rfl⟩, by rw [List.take_of_length_le (by omega)] at hJs; exact hJs⟩
set_option maxRecDepth 100000 in
set_option maxHeartbeats 1000000 in
theorem bvalues1_none (l Bs c : Nat) (a : Option Addr) (J : List Int → World → Prop) (W : World) (hBs : W.cell? ⟨Bs, 0, none⟩ = some (.slice a 0 c)) (h0 : J [] W) :
    CallsIn Fence.wide 2 Tryz.prog 146 #[.func (.yield l) #[] #[], .pointer (some ⟨Bs, 0, none⟩)] W fun e W' => (∃ v, e = .returned v) ∧ J [] W' := by
  refine callsIn_of_wp Tryz.func146 rfl trivial ?_ rfl
  simp only [Tryz.ntmps146, List.size_toArray, List.length_cons, List.length_nil, Nat.reduceAdd, Nat.reduceSub, Array.replicate_succ, Array.replicate_zero, List.push_toArray, List.append_toArray, List.nil_append, List.cons_append]
  gi_wp2
  gi_loopw [7] (fun i wr => i = .int .i64 0 ∧ J [] wr) (fun _ _ => 0)
  case atStart => exact ⟨rfl, h0⟩
  case round =>
    obtain ⟨rfl, hJs⟩ := hrel
    gi_wp2
    go_end0
    exact ⟨⟨_, rfl⟩, hJs⟩
theorem bvalues_seq (Bs b cap : Nat) (a : Option Addr) (zs : List Int) (hs : zs.length ≤ 1000000) (w : World) (hBs : Bs < w.heap.size) (hc : w.cell? ⟨Bs, 0, none⟩ = some (.slice a zs.length cap)) (hI : SeqAt w a (ints zs)) (hb : ∀ b' o, a = some ⟨b', o, none⟩ → b' = b) :
    SeqAll (fun _ A B => A = B) (KeepsB b) Tryz.prog 146 #[.pointer (some ⟨Bs, 0, none⟩)] (fun x : Int => #[Value.int .i64 x]) zs w := fun l J W hW _ hY h0 => by
  have hc' := (hW.cell (p := ⟨Bs, 0, none⟩) hBs).trans hc
  by_cases h : zs.length = 0
  · have hz : zs = [] := List.eq_nil_of_length_eq_zero h
    subst hz
    exact bvalues1_none l Bs cap a J W hc' h0
  · have hI' := hI.below hW (Nat.le_refl _)
    obtain ⟨b', off, rfl, hcell⟩ := hI' (by rw [ints_length]; omega)
    obtain rfl := hb b' off rfl
    refine bvalues1 l Bs b' off zs.length cap zs hs rfl J hY W hc' (fun j z hj => ?_) h0
    have hjl := (List.getElem?_eq_some_iff.1 hj).1
    rw [hcell j (by rw [ints_length]; exact hjl)]
    simp [ints, List.getD, hj, iv]
variable {n₀ : Nat} {w w' : World} {g : Nat} {v : Value} {zs : List Int}
theorem vals_any (a : Option Addr) (n c : Nat) (w : World) : Calls Tryz.prog 105 #[.slice a n c] w fun e w' => e = .returned (.func (.func 146) #[] #[.pointer (some ⟨w.heap.size, 0, none⟩)]) ∧ w' = w.alloc (.cells #[.slice a n c] 42) := by
  go_enter Tryz.func105, Tryz.ntmps105
  go_wp2
  go_ret
  exact ⟨rfl, rfl⟩
theorem ball_any (w : World) (h : BagAt n₀ w g v zs) (hs : zs.length ≤ 1000000) : Calls Tryz.prog 55 #[.pointer (some ⟨g, 0, none⟩)] w fun e w' => ∃ Bs b a cap, e = .returned (.func (.func 146) #[] #[.pointer (some ⟨Bs, 0, none⟩)]) ∧ Bs < w'.heap.size ∧ w'.cell? ⟨Bs, 0, none⟩ = some (.slice a zs.length cap) ∧ SeqAt w' a (ints zs) ∧ (∀ b' o, a = some ⟨b', o, none⟩ → b' = b) ∧ w.heap.size ≤ b ∧ b < w'.heap.size ∧ Below w.heap.size w w' := by
  obtain ⟨c0, f0⟩ := h.head
  obtain ⟨a, c, rfl, hsq⟩ := h.seq
  have HC := Lib.hid (clone_any a _ c zs w hsq rfl hs)
  clear h hsq
  go_enter Tryz.func55, Tryz.ntmps55
  go_wp2_with fail
  refine HC.out.mono ?_
  rintro e w1 ⟨v1, rfl, ho, hb⟩
  have HO := Lib.hid ho
  have HB := Lib.hid hb
  obtain ⟨a1, c1, rfl, hq1, -, -⟩ := ownsRow_seq ho
  have HQ := Lib.hid hq1
  clear ho hb HC hq1
  go_wp2_with fail
  refine (vals_any a1 _ c1 _).mono ?_
  rintro e w2 ⟨rfl, rfl⟩
  go_wp2
  go_ret
  have hb2 : Below w1.heap.size w1 (w1.alloc (.cells #[.slice a1 zs.length c1] 42)) := (Below.refl _ w1).alloc (Nat.le_refl _) _
  refine ⟨w1.heap.size, ((Value.slice a1 zs.length c1).ownBlock).getD w1.heap.size, a1, c1, rfl, by simp, cell_of_row _ _ 0 _ 42 (0, 0) (heap_alloc_new w1 _), HQ.out.below hb2 (Nat.le_refl _), fun b' o e => by subst e; rfl, ?_, ?_, HB.out.trans (hb2.mono HB.out.size)⟩
  · cases hh : (Value.slice a1 zs.length c1).ownBlock with
    | none => exact HB.out.size
    | some k => exact (HO.out.lt k hh).1
  · cases hh : (Value.slice a1 zs.length c1).ownBlock with
    | none => simp
    | some k => have := (HO.out.lt k hh).2; simp; omega
theorem ballF_any {F : Nat → Prop} (w : World) (h : Bag w g F zs) (hs : zs.length ≤ 1000000) : Calls Tryz.prog 55 #[.pointer (some ⟨g, 0, none⟩)] w fun e w' => ∃ Bs b, e = .returned (.func (.func 146) #[] #[.pointer (some ⟨Bs, 0, none⟩)]) ∧
    SeqAll (fun _ A B => A = B) (KeepsB b) Tryz.prog 146 #[.pointer (some ⟨Bs, 0, none⟩)] (fun x : Int => #[Value.int .i64 x]) zs w' ∧ w.heap.size ≤ b ∧ b < w'.heap.size ∧ Below w.heap.size w w' := by
  obtain ⟨v, hb, _, _⟩ := h
  refine (ball_any w hb hs).mono ?_
  rintro e w' ⟨Bs, b, a, cap, rfl, h1, h2, h3, h4, h5, h6, h7⟩
  exact ⟨Bs, b, rfl, bvalues_seq Bs b cap a zs hs w' h1 h2 h3 h4, h5, h6, h7⟩
end Go.Proofs.YtcdpnfchmpncjaaGreatDoor

namespace Go.Tr
theorem rises_eq : ∀ {xs ys : List Int}, xs.Pairwise (· < ·) → ys.Pairwise (· < ·) → (∀ z, z ∈ xs ↔ z ∈ ys) → xs = ys
  | [], [], _, _, _ => rfl
  | [], y :: ys, _, _, h => by have := (h y).2 (by simp); cases this
  | x :: xs, [], _, _, h => by have := (h x).1 (by simp); cases this
  | x :: xs, y :: ys, h1, h2, h => by
    obtain ⟨a1, a2⟩ := List.pairwise_cons.1 h1
    obtain ⟨b1, b2⟩ := List.pairwise_cons.1 h2
    have e : x = y := by
      rcases List.mem_cons.1 ((h x).1 (by simp)) with e | e
      · exact e
      · rcases List.mem_cons.1 ((h y).2 (by simp)) with e2 | e2
        · exact e2.symm
        · have := a1 y e2; have := b1 x e; omega
    subst e
    congr 1
    refine rises_eq a2 b2 (fun z => ⟨fun hz => ?_, fun hz => ?_⟩)
    · rcases List.mem_cons.1 ((h z).1 (List.mem_cons_of_mem _ hz)) with e | e
      · have := a1 z hz; omega
      · exact e
    · rcases List.mem_cons.1 ((h z).2 (List.mem_cons_of_mem _ hz)) with e | e
      · have := b1 z hz; omega
      · exact e
theorem mem_delA {α : Type} {l : List (Int × α)} {x : Int} {p : Int × α} : p ∈ delA l x ↔ p ∈ l ∧ p.1 ≠ x := by simp [delA]
theorem hasA_some {α : Type} {l : List (Int × α)} {x : Int} : hasA l x = true ↔ ∃ v, lookA l x = some v := by rw [hasA_look, Option.isSome_iff_exists]
structure TS where
  tab : List (Int × Int)
  last : Int
def TS.new : TS := ⟨[], 0⟩
def TS.has (S : TS) (x : Int) : Bool := hasA S.tab x
def TS.par (S : TS) (x : Int) : Int := (lookA S.tab x).getD 0
structure TS.WF (S : TS) : Prop where
  nodup : (keysA S.tab).Nodup
  low : ∀ x p, lookA S.tab x = some p → 0 ≤ p ∧ p < x ∧ x ≤ S.last ∧ (p = 0 ∨ S.has p = true)
  size : S.tab.length ≤ 64
  last0 : 0 ≤ S.last
theorem TS.WF.new : TS.new.WF := ⟨by simp [TS.new, keysA], by simp [TS.new, lookA], by decide, by decide⟩
theorem TS.WF.pos {S : TS} (h : S.WF) {x : Int} (hx : S.has x = true) : 1 ≤ x ∧ x ≤ S.last := by
  obtain ⟨p, hp⟩ := hasA_some.1 hx
  have := h.low x p hp; omega
inductive Desc (tab : List (Int × Int)) (id : Int) : Int → Prop
  | self : Desc tab id id
  | kid {x p : Int} : lookA tab x = some p → Desc tab id p → Desc tab id x
theorem Desc.ge {S : TS} (h : S.WF) {id x : Int} (hd : Desc S.tab id x) : id ≤ x := by
  induction hd with
  | self => exact Int.le_refl _
  | kid hx _ ih => have := h.low _ _ hx; omega
theorem Desc.live {S : TS} {id x : Int} (hi : S.has id = true) (hd : Desc S.tab id x) : S.has x = true := by
  cases hd with
  | self => exact hi
  | kid hx _ => exact hasA_some.2 ⟨_, hx⟩
def KCame (tab : List (Int × Int)) (id : Int) (left : List (Int × Value)) (zs : List Int) : Prop :=
  zs.Nodup ∧ (∀ x, x ∈ zs ↔ lookA tab x = some id ∧ ∀ p ∈ left, p.1 ≠ x) ∧ (∀ p ∈ left, p ∈ mapA iv tab) ∧ (keysA tab).Nodup ∧ ∀ x ∈ zs, x ∈ keysA tab
theorem KCame.start {tab : List (Int × Int)} (id : Int) (hn : (keysA tab).Nodup) : KCame tab id (mapA iv tab) [] := by
  refine ⟨List.nodup_nil, fun x => ⟨fun h => (by cases h), fun ⟨h1, h2⟩ => ?_⟩, fun p hp => hp, hn, by simp⟩
  exfalso
  have h3 : lookA (mapA iv tab) x = none := lookA_none.2 h2
  rw [lookA_mapA, h1] at h3
  simp at h3
theorem KCame.look {tab : List (Int × Int)} {id : Int} {left : List (Int × Value)} {zs : List Int} (h : KCame tab id left zs) {x : Int} {v : Value} (hx : (x, v) ∈ left) : ∃ p, v = .int .i64 p ∧ lookA tab x = some p := by
  obtain ⟨h1, h2, h3, h4, h5⟩ := h
  have h6 := h3 _ hx
  obtain ⟨⟨y, t⟩, ht, he⟩ := List.mem_map.1 h6
  simp at he
  obtain ⟨rfl, rfl⟩ := he
  exact ⟨t, rfl, lookA_of_mem h4 ht⟩
theorem KCame.skip {tab : List (Int × Int)} {id : Int} {left : List (Int × Value)} {zs : List Int} (h : KCame tab id left zs) {x p : Int} (hl : lookA tab x = some p) (hc : p ≠ id) : KCame tab id (delA left x) zs := by
  obtain ⟨h1, h2, h3, h4, h5⟩ := h
  refine ⟨h1, fun y => (h2 y).trans ⟨fun ⟨a, b⟩ => ⟨a, fun p hp => b p (mem_delA.1 hp).1⟩, fun ⟨a, b⟩ => ⟨a, fun q hq e => ?_⟩⟩, fun p hp => h3 p (mem_delA.1 hp).1, h4, h5⟩
  by_cases hpx : q.1 = x
  · rw [← e, hpx, hl] at a; exact hc (by simpa using a)
  · exact b q (mem_delA.2 ⟨hq, hpx⟩) e
theorem KCame.take {tab : List (Int × Int)} {id : Int} {left : List (Int × Value)} {zs : List Int} (h : KCame tab id left zs) {x : Int} {v : Value} (hx : (x, v) ∈ left) (hl : lookA tab x = some id) : KCame tab id (delA left x) (zs ++ [x]) := by
  obtain ⟨h1, h2, h3, h4, h5⟩ := h
  have hxz : x ∉ zs := fun hz => ((h2 x).1 hz).2 _ hx rfl
  refine ⟨List.nodup_append.2 ⟨h1, by simp, fun a ha b hb e => by simp at hb; subst hb; subst e; exact hxz ha⟩, fun y => ?_, fun p hp => h3 p (mem_delA.1 hp).1, h4, fun y hy => ?_⟩
  · rw [List.mem_append, h2, List.mem_singleton]
    constructor
    · rintro (⟨a, b⟩ | rfl)
      · exact ⟨a, fun p hp => b p (mem_delA.1 hp).1⟩
      · exact ⟨hl, fun p hp => (mem_delA.1 hp).2⟩
    · rintro ⟨a, b⟩
      by_cases e : y = x
      · exact Or.inr e
      · exact Or.inl ⟨a, fun p hp e2 => b p (mem_delA.2 ⟨hp, by rw [e2]; exact e⟩) e2⟩
  · rcases List.mem_append.1 hy with hy | hy
    · exact h5 y hy
    · simp at hy; subst hy
      have h6 := h3 _ hx
      rw [← keysA_mapA iv]
      exact List.mem_map.2 ⟨_, h6, rfl⟩
theorem KCame.le {tab : List (Int × Int)} {id : Int} {left : List (Int × Value)} {zs : List Int} (h : KCame tab id left zs) : zs.length ≤ tab.length := by
  have := length_of_sub h.1 h.2.2.2.2
  simpa [keysA] using this
theorem KCame.done {tab : List (Int × Int)} {id : Int} {zs : List Int} (h : KCame tab id [] zs) : ∀ x, x ∈ zs ↔ lookA tab x = some id := fun x => (h.2.1 x).trans (by simp)
structure Bfs (S : TS) (id : Int) (l : List Int) (i : Nat) : Prop where
  nodup : l.Nodup
  desc : ∀ x ∈ l, Desc S.tab id x
  self : id ∈ l
  closed : ∀ j y x, j < i → l[j]? = some x → lookA S.tab y = some x → y ∈ l
  par : ∀ y ∈ l, y ≠ id → ∃ j x, j < i ∧ l[j]? = some x ∧ lookA S.tab y = some x
theorem Bfs.start (S : TS) (id : Int) : Bfs S id [id] 0 := ⟨by simp, fun x hx => by simp at hx; subst hx; exact .self, by simp, by simp, fun y hy hn => by simp at hy; exact absurd hy hn⟩
theorem Bfs.step {S : TS} (hS : S.WF) {id : Int} {l : List Int} {i : Nat} (h : Bfs S id l i) {x : Int} (hx : l[i]? = some x) {ks : List Int} (hk : ks.Nodup) (hm : ∀ y, y ∈ ks ↔ lookA S.tab y = some x) : Bfs S id (l ++ ks) (i + 1) := by
  have hil := (List.getElem?_eq_some_iff.1 hx).1
  have hmx : x ∈ l := List.mem_of_getElem? hx
  have hold : ∀ j, j < i + 1 → (l ++ ks)[j]? = l[j]? := fun j hj => List.getElem?_append_left (by omega)
  refine ⟨List.nodup_append.2 ⟨h.nodup, hk, fun a ha b hb e => ?_⟩, fun y hy => ?_, List.mem_append_left _ h.self, fun j y z hj hz hy => ?_, fun y hy hn => ?_⟩
  · subst e
    have hp := (hm a).1 hb
    by_cases ha' : a = id
    · subst ha'
      have h1 := (h.desc x hmx).ge hS
      have h2 := hS.low _ _ hp
      omega
    · obtain ⟨j, z, hj, hz, hzl⟩ := h.par a ha ha'
      rw [hp] at hzl
      cases hzl
      obtain ⟨hj1, hj2⟩ := List.getElem?_eq_some_iff.1 hz
      obtain ⟨hi1, hi2⟩ := List.getElem?_eq_some_iff.1 hx
      have := (List.getElem_inj (h₀ := hj1) (h₁ := hi1) h.nodup).1 (by rw [hj2, hi2])
      omega
  · rcases List.mem_append.1 hy with hy | hy
    · exact h.desc y hy
    · exact .kid ((hm y).1 hy) (h.desc x hmx)
  · rw [hold j hj] at hz
    rcases Nat.lt_or_ge j i with hji | hji
    · exact List.mem_append_left _ (h.closed j y z hji hz hy)
    · have : j = i := by omega
      subst this
      rw [hx] at hz; cases hz
      exact List.mem_append_right _ ((hm y).2 hy)
  · rcases List.mem_append.1 hy with hy | hy
    · obtain ⟨j, z, hj, hz, hzl⟩ := h.par y hy hn
      exact ⟨j, z, by omega, by rw [hold j (by omega)]; exact hz, hzl⟩
    · exact ⟨i, x, by omega, by rw [hold i (by omega)]; exact hx, (hm y).1 hy⟩
theorem Bfs.live {S : TS} {id : Int} {l : List Int} {i : Nat} (h : Bfs S id l i) (hi : S.has id = true) : ∀ x ∈ l, S.has x = true := fun x hx => (h.desc x hx).live hi
theorem Bfs.length {S : TS} (hS : S.WF) {id : Int} {l : List Int} {i : Nat} (h : Bfs S id l i) (hi : S.has id = true) : l.length ≤ 64 := by
  have h1 := length_of_sub h.nodup (fun x hx => hasA_iff.1 (h.live hi x hx))
  have h2 := hS.size
  simp [keysA] at h1
  omega
theorem Bfs.done {S : TS} {id : Int} {l : List Int} {i : Nat} (h : Bfs S id l i) (hi : l.length ≤ i) : ∀ x, x ∈ l ↔ Desc S.tab id x := fun x => ⟨h.desc x, fun hd => by
  induction hd with
  | self => exact h.self
  | kid hx _ ih =>
    obtain ⟨j, hj, e⟩ := List.mem_iff_getElem.1 ih
    exact h.closed j _ _ (by omega) (List.getElem?_eq_some_iff.2 ⟨hj, e⟩) hx⟩
def TS.add (S : TS) (p : Int) : TS := ⟨putA S.tab (S.last + 1) p, S.last + 1⟩
def TS.free (S : TS) (zs : List Int) : TS := { S with tab := S.tab.filter fun e => !hasL zs e.1 }
theorem TS.WF.fresh {S : TS} (h : S.WF) : S.has (S.last + 1) = false := by
  cases hh : S.has (S.last + 1) with
  | false => rfl
  | true => have := h.pos hh; omega
theorem look_add {S : TS} (h : S.WF) (p x : Int) : lookA (S.add p).tab x = if x = S.last + 1 then some p else lookA S.tab x := by
  unfold TS.add
  by_cases hx : x = S.last + 1
  · rw [if_pos hx, hx]; exact lookA_put_same _ _ _
  · rw [if_neg hx]; exact lookA_put_other _ _ hx
theorem length_add {S : TS} (h : S.WF) (p : Int) : (S.add p).tab.length = S.tab.length + 1 := by
  have := h.fresh
  unfold TS.has at this
  unfold TS.add putA
  simp [this]
theorem TS.WF.add {S : TS} (h : S.WF) {p : Int} (hp : p = 0 ∨ S.has p = true) (hl : S.tab.length < 64) : (S.add p).WF := by
  have h0 := h.last0
  refine ⟨keysA_put_nodup h.nodup _ _, fun x q hx => ?_, by rw [length_add h]; omega, by show 0 ≤ S.last + 1; omega⟩
  rw [look_add h] at hx
  have hmono : ∀ q, S.has q = true → (S.add p).has q = true := fun q hq => by
    obtain ⟨v, hv⟩ := hasA_some.1 hq
    have := h.pos hq
    exact hasA_some.2 ⟨v, by rw [look_add h, if_neg (by omega)]; exact hv⟩
  show 0 ≤ q ∧ q < x ∧ x ≤ S.last + 1 ∧ _
  by_cases hx1 : x = S.last + 1
  · rw [if_pos hx1] at hx
    cases hx
    rcases hp with rfl | hp
    · exact ⟨by omega, by omega, by omega, Or.inl rfl⟩
    · have := h.pos hp
      exact ⟨by omega, by omega, by omega, Or.inr (hmono _ hp)⟩
  · rw [if_neg hx1] at hx
    have := h.low x q hx
    exact ⟨by omega, by omega, by omega, this.2.2.2.imp id (hmono q)⟩
theorem look_free (S : TS) (zs : List Int) (x : Int) : lookA (S.free zs).tab x = if hasL zs x = true then none else lookA S.tab x := by
  unfold TS.free
  simp only []
  induction S.tab with
  | nil => simp [lookA]
  | cons e r ih =>
    simp only [List.filter_cons]
    by_cases hx : e.1 = x
    · by_cases hz : hasL zs x = true
      · rw [if_pos hz] at ih ⊢
        rw [hx, hz]
        simpa using ih
      · have hz' : hasL zs x = false := by simpa using hz
        rw [hx, hz']
        simp [lookA, hx]
    · have hne : (e.1 == x) = false := by simpa using hx
      have hc : lookA (e :: r) x = lookA r x := by simp [lookA, hne]
      rw [hc, ← ih]
      split
      · simp [lookA, hne]
      · rfl
theorem keys_free (S : TS) (zs : List Int) : keysA (S.free zs).tab = (keysA S.tab).filter fun x => !hasL zs x := by simp [TS.free, keysA, List.filter_map, Function.comp_def]
theorem has_free (S : TS) (zs : List Int) (x : Int) : (S.free zs).has x = true ↔ S.has x = true ∧ x ∉ zs := by
  unfold TS.has
  rw [hasA_iff, keys_free, List.mem_filter, ← hasA_iff]
  simp [hasL]
theorem TS.WF.free {S : TS} (h : S.WF) {id : Int} {zs : List Int} (hz : ∀ x, x ∈ zs ↔ Desc S.tab id x) : (S.free zs).WF := by
  refine ⟨by rw [keys_free]; exact h.nodup.filter _, fun x p hx => ?_, Nat.le_trans (List.length_filter_le _ _) h.size, h.last0⟩
  rw [look_free] at hx
  by_cases hd : hasL zs x = true
  · rw [if_pos hd] at hx; cases hx
  · rw [if_neg hd] at hx
    have h1 := h.low x p hx
    refine ⟨h1.1, h1.2.1, h1.2.2.1, h1.2.2.2.imp (fun h => h) (fun hp => (has_free S zs p).2 ⟨hp, fun hpz => hd ?_⟩)⟩
    rw [hasL_iff, hz]
    exact .kid hx ((hz p).1 hpz)
end Go.Tr

namespace Go.Proofs.YtcdpnfchmpncjaaGreatDoor
open Go.RowKit Go.Tr
def TreeAt (w : World) (g bm : Nat) (S : TS) : Prop := w.heap[g]? = some (.cells #[.map (some bm), .int .i64 S.last] 104 (0, 0)) ∧ bm ≠ g ∧ MapI w bm (mapA iv S.tab)
def Fp (g bm : Nat) : Nat → Prop := fun k => k = g ∨ k = bm
theorem TreeAt.lt {w : World} {g bm : Nat} {S : TS} (h : TreeAt w g bm S) : g < w.heap.size ∧ bm < w.heap.size := ⟨(Array.getElem?_eq_some_iff.1 h.1).1, h.2.2.lt⟩
theorem TreeAt.kept {w w' : World} {g bm : Nat} {S : TS} (h : TreeAt w g bm S) (hg : w'.heap[g]? = w.heap[g]?) (hb : w'.heap[bm]? = w.heap[bm]?) : TreeAt w' g bm S := ⟨hg.trans h.1, h.2.1, h.2.2.kept hb⟩
theorem TreeAt.below {w w' : World} {g bm : Nat} {S : TS} (h : TreeAt w g bm S) (hb : Below w.heap.size w w') : TreeAt w' g bm S := h.kept (hb.block _ h.lt.1) (hb.block _ h.lt.2)
theorem TreeAt.only {G : Nat → Prop} {w w' : World} {g bm : Nat} {S : TS} (h : TreeAt w g bm S) (ho : Only G w w') (h1 : ¬ G g) (h2 : ¬ G bm) : TreeAt w' g bm S := h.kept (ho.block _ h.lt.1 h1) (ho.block _ h.lt.2 h2)
theorem TreeAt.cells {w : World} {g bm : Nat} {S : TS} (h : TreeAt w g bm S) : (w.cell? ⟨g, 0, none⟩ = some (.map (some bm)) ∧ w.frozen? ⟨g, 0, none⟩ = false) ∧ w.cell? ⟨g, 1, none⟩ = some (.int .i64 S.last) ∧ w.frozen? ⟨g, 1, none⟩ = false :=
  ⟨⟨cell_of_row w g 0 _ _ (0, 0) h.1, by simp [World.frozen?, h.1]⟩, cell_of_row w g 1 _ _ (0, 0) h.1, by simp [World.frozen?, h.1]⟩
theorem look_par (S : TS) (x : Int) : (lookA (mapA iv S.tab) x).getD (.int .i64 0) = .int .i64 (S.par x) := by rw [lookA_mapA]; unfold TS.par; cases lookA S.tab x <;> rfl
theorem has_map (S : TS) (x : Int) : hasA (mapA iv S.tab) x = S.has x := hasA_mapA _ _ _
theorem qnew_any (w : World) : Calls Tryz.prog 77 #[] w fun e w' => ∃ g bm, e = .returned (.pointer (some ⟨g, 0, none⟩)) ∧ TreeAt w' g bm TS.new ∧ Below w.heap.size w w' ∧ w.heap.size ≤ g ∧ w.heap.size ≤ bm := by
  go_enter Tryz.func77, Tryz.ntmps77
  have hmm := @run_makeMap Tryz.prog
  go_wp2
  go_ret
  refine ⟨w.heap.size + 1, w.heap.size, rfl, ⟨?_, by omega, ?_⟩, ((Below.refl _ w).alloc (Nat.le_refl _) _).alloc (by simp) _, by omega, Nat.le_refl _⟩
  · have := heap_alloc_new (w.alloc (.map #[] 0)) (.cells #[.map (some w.heap.size), .int .i64 0] 104)
    simpa [TS.new] using this
  · exact (MapI.made w).kept (Below.heap_alloc _ _ _ (by simp))
variable {g bm : Nat} {S : TS}
set_option maxRecDepth 100000 in
theorem qlive_any (x : Int) (w : World) (h : TreeAt w g bm S) : Calls Tryz.prog 53 #[.pointer (some ⟨g, 0, none⟩), .int .i64 x] w fun e w' => e = .returned (.bool (S.has x)) ∧ w = w' := by
  obtain ⟨⟨c0, f0⟩, c1, f1⟩ := h.cells
  have HM := Lib.hid h.2.2
  have HL := Lib.hid (look_par S x)
  have HH := Lib.hid (has_map S x)
  clear h
  go_enter Tryz.func53, Tryz.ntmps53
  go_wp2_with (first
    | (refine wpList_lookI_ok _ rfl (.tmp 13) (.tmp 14) 102 rfl 3 3 Tryz.underlying102 Tryz.underlying3 _ Tryz.zeroValue3 bm _ rfl HM.out x rfl ?_; rw [HL.out, HH.out])
    | fail)
  go_wp2
  go_ret
  exact ⟨rfl, rfl⟩
end Go.Proofs.YtcdpnfchmpncjaaGreatDoor
namespace Go.Tr
def TS.addE (S : TS) (p : Int) : Int := if p ≠ 0 ∧ S.has p = false then 6 else if S.tab.length = 64 then 5 else 0
def TS.addX (S : TS) (p : Int) : Int := if S.addE p = 0 then S.last + 1 else 0
def TS.addS (S : TS) (p : Int) : TS := if S.addE p = 0 then S.add p else S
theorem TS.WF.addS {S : TS} (h : S.WF) (p : Int) : (S.addS p).WF := by
  unfold TS.addS
  by_cases h0 : S.addE p = 0
  · rw [if_pos h0]
    unfold TS.addE at h0
    by_cases h1 : p ≠ 0 ∧ S.has p = false
    · rw [if_pos h1] at h0; omega
    · rw [if_neg h1] at h0
      by_cases h2 : S.tab.length = 64
      · rw [if_pos h2] at h0; omega
      · have := h.size
        refine h.add ?_ (by omega)
        by_cases hp : p = 0
        · exact Or.inl hp
        · refine Or.inr ?_
          cases hh : S.has p
          · exact absurd ⟨hp, hh⟩ h1
          · rfl
  · rw [if_neg h0]; exact h
end Go.Tr
namespace Go.Proofs.YtcdpnfchmpncjaaGreatDoor
open Go.RowKit Go.Tr
variable {g bm : Nat} {S : TS}
theorem tblock_set {w : World} {cs : Array Value} {T : TypeId} (h : w.heap[g]? = some (.cells cs T (0, 0))) (j : Nat) (v : Value) : (w.setCell ⟨g, j, none⟩ v).heap[g]? = some (.cells (cs.setIfInBounds j v) T (0, 0)) := by
  simp [World.setCell, Array.getElem?_modify, h]
set_option maxRecDepth 100000 in
set_option maxHeartbeats 1000000 in
theorem qadd_any (p : Int) (w : World) (h : TreeAt w g bm S) (hS : S.WF) (hl : S.last ≤ 1000000) :
    Calls Tryz.prog 34 #[.pointer (some ⟨g, 0, none⟩), .int .i64 p] w fun e w' => e = .returned (.tuple #[.int .i64 (S.addX p), .int .i64 (S.addE p)]) ∧ TreeAt w' g bm (S.addS p) ∧ Only (Fp g bm) w w' := by
  obtain ⟨⟨c0, f0⟩, c1, f1⟩ := h.cells
  have HT := Lib.hid h
  have HM := Lib.hid h.2.2
  have HLV := Lib.hid (qlive_any p w h)
  have HLN := Lib.hid (length_mapA iv S.tab)
  have hl0 := hS.last0
  clear h hS
  by_cases h1 : p ≠ 0 ∧ S.has p = false
  · have HE : Hid (S.addE p = 6) := by show _ = _; unfold TS.addE; rw [if_pos h1]
    have HX : Hid (S.addX p = 0) := by show _ = _; unfold TS.addX; rw [HE.out]; rfl
    have HSS : Hid (S.addS p = S) := by show _ = _; unfold TS.addS; rw [HE.out]; rfl
    have hp0 : (p == 0) = false := by simpa using h1.1
    have hp1 : (p != 0) = true := by simpa using h1.1
    have HP := Lib.hid h1.2
    clear h1
    go_enter Tryz.func34, Tryz.ntmps34
    go_wp2_with fail
    refine HLV.out.mono ?_
    rintro e w' ⟨rfl, rfl⟩
    rw [HP.out]
    go_wp2
    go_ret2
    rw [HSS.out]
    exact ⟨by rw [HX.out, HE.out]; rfl, HT.out, Only.refl _ _⟩
  · by_cases h2 : S.tab.length = 64
    · have HE : Hid (S.addE p = 5) := by show _ = _; unfold TS.addE; rw [if_neg h1, if_pos h2]
      have HX : Hid (S.addX p = 0) := by show _ = _; unfold TS.addX; rw [HE.out]; rfl
      have HSS : Hid (S.addS p = S) := by show _ = _; unfold TS.addS; rw [HE.out]; rfl
      have HL := Lib.hid h2
      clear h2
      by_cases hp : p = 0
      · subst hp
        clear h1
        go_enter Tryz.func34, Tryz.ntmps34
        go_wp2_with (first
          | (refine wpList_lenI _ rfl (.tmp 22) 102 rfl 3 3 Tryz.underlying102 bm _ rfl HM.out ?_; rw [HLN.out, HL.out])
          | fail)
        go_wp2
        go_ret2
        rw [HSS.out]
        exact ⟨by rw [HX.out, HE.out]; rfl, HT.out, Only.refl _ _⟩
      · have HP : Hid (S.has p = true) := by
          show _ = _
          cases hh : S.has p
          · exact absurd ⟨hp, hh⟩ h1
          · rfl
        have hp0 : (p == 0) = false := by simpa using hp
        have hp1 : (p != 0) = true := by simpa using hp
        clear h1 hp
        go_enter Tryz.func34, Tryz.ntmps34
        go_wp2_with fail
        refine HLV.out.mono ?_
        rintro e w' ⟨rfl, rfl⟩
        rw [HP.out]
        go_wp2_with (first
          | (refine wpList_lenI _ rfl (.tmp 22) 102 rfl 3 3 Tryz.underlying102 bm _ rfl HM.out ?_; rw [HLN.out, HL.out])
          | fail)
        go_wp2
        go_ret2
        rw [HSS.out]
        exact ⟨by rw [HX.out, HE.out]; rfl, HT.out, Only.refl _ _⟩
    · have HE : Hid (S.addE p = 0) := by show _ = _; unfold TS.addE; rw [if_neg h1, if_neg h2]
      have HX : Hid (S.addX p = S.last + 1) := by show _ = _; unfold TS.addX; rw [if_pos HE.out]
      have HSS : Hid (S.addS p = S.add p) := by show _ = _; unfold TS.addS; rw [if_pos HE.out]
      obtain ⟨ln, hln⟩ : ∃ ln, ln = S.tab.length := ⟨_, rfl⟩
      rw [← hln] at h2 HLN
      clear hln
      have hne : ((ln : Int) == 64) = false := by simp; omega
      have hfin : ∀ w1 w2, w1 = w.setCell ⟨g, 1, none⟩ (.int .i64 (S.last + 1)) → MapI w2 bm (putA (mapA iv S.tab) (S.last + 1) (.int .i64 p)) → (w1.drew).grownBy w2 (some bm) → TreeAt w2 g bm (S.add p) ∧ Only (Fp g bm) w w2 := by
        intro w1 w2 hw1 hm hg
        have hb1 : w1.heap[g]? = some (.cells #[.map (some bm), .int .i64 (S.last + 1)] 104 (0, 0)) := by rw [hw1]; exact tblock_set HT.out.1 1 _
        have hs1 : w1.heap.size = w.heap.size := by rw [hw1]; simp [World.setCell]
        have ho1 : Only (Fp g bm) w w1 := by rw [hw1]; exact (Only.refl _ w).setCell (Or.inl (Or.inl rfl)) _
        refine ⟨⟨(hg.block g (by show g < w1.heap.size; rw [hs1]; exact HT.out.lt.1) (by simp; exact fun e => HT.out.2.1 e.symm)).trans hb1, HT.out.2.1, ?_⟩, ho1.drew.grown hg (fun j hj => by cases hj; exact Or.inl (Or.inr rfl))⟩
        have := hm
        rw [show (Value.int .i64 p) = iv p from rfl, putA_mapA] at this
        exact this
      have HF := Lib.hid hfin
      clear hfin
      by_cases hp : p = 0
      · subst hp
        clear h1
        go_enter Tryz.func34, Tryz.ntmps34
        go_wp2_with (first
          | (refine wpList_lenI _ rfl (.tmp 22) 102 rfl 3 3 Tryz.underlying102 bm _ rfl HM.out ?_; rw [HLN.out])
          | fail)
        generalize hw1 : w.setCell ⟨g, 1, none⟩ (.int .i64 (S.last + 1)) = w1
        have hb1 : w1.heap[g]? = some (.cells #[.map (some bm), .int .i64 (S.last + 1)] 104 (0, 0)) := by rw [← hw1]; exact tblock_set HT.out.1 1 _
        have HM1 : Hid (MapI w1 bm (mapA iv S.tab)) := by rw [← hw1]; exact HM.out.kept (Below.heap_setCell _ _ _ _ HT.out.2.1)
        have HW1 := Lib.hid hw1
        clear hw1 c0 c1 f0 f1
        have d0 : w1.cell? ⟨g, 0, none⟩ = some (.map (some bm)) := cell_of_row w1 g 0 _ _ (0, 0) hb1
        have d1 : w1.cell? ⟨g, 1, none⟩ = some (.int .i64 (S.last + 1)) := cell_of_row w1 g 1 _ _ (0, 0) hb1
        clear hb1
        go_still_tail 9, (by kernel_rfl)
        refine wpList_putI _ rfl (.tmp 35) (.tmp 39) (.tmp 40) 102 rfl 3 3 Tryz.underlying102 Tryz.underlying3 bm _ rfl HM1.out (S.last + 1) rfl _ rfl ?_
        intro w2 hm2 hg2 hs2
        obtain ⟨ht2, ho2⟩ := HF.out _ w2 HW1.out.symm hm2 hg2
        have HT2 := Lib.hid ht2
        have HO2 := Lib.hid ho2
        clear ht2 ho2 hm2 hg2 hs2 d0 d1
        obtain ⟨⟨c0, f0⟩, c1, f1⟩ := HT2.out.cells
        have c1' : w2.cell? ⟨g, 1, none⟩ = some (.int .i64 (S.last + 1)) := c1
        clear c1
        go_wp2
        go_ret2
        rw [HSS.out]
        exact ⟨by rw [HX.out, HE.out]; rfl, HT2.out, HO2.out⟩
      · have HP : Hid (S.has p = true) := by
          show _ = _
          cases hh : S.has p
          · exact absurd ⟨hp, hh⟩ h1
          · rfl
        have hp0 : (p == 0) = false := by simpa using hp
        have hp1 : (p != 0) = true := by simpa using hp
        clear h1 hp
        go_enter Tryz.func34, Tryz.ntmps34
        go_wp2_with fail
        refine HLV.out.mono ?_
        rintro e w' ⟨rfl, rfl⟩
        rw [HP.out]
        go_wp2_with (first
          | (refine wpList_lenI _ rfl (.tmp 22) 102 rfl 3 3 Tryz.underlying102 bm _ rfl HM.out ?_; rw [HLN.out])
          | fail)
        generalize hw1 : w.setCell ⟨g, 1, none⟩ (.int .i64 (S.last + 1)) = w1
        have hb1 : w1.heap[g]? = some (.cells #[.map (some bm), .int .i64 (S.last + 1)] 104 (0, 0)) := by rw [← hw1]; exact tblock_set HT.out.1 1 _
        have HM1 : Hid (MapI w1 bm (mapA iv S.tab)) := by rw [← hw1]; exact HM.out.kept (Below.heap_setCell _ _ _ _ HT.out.2.1)
        have HW1 := Lib.hid hw1
        clear hw1 c0 c1 f0 f1
        have d0 : w1.cell? ⟨g, 0, none⟩ = some (.map (some bm)) := cell_of_row w1 g 0 _ _ (0, 0) hb1
        have d1 : w1.cell? ⟨g, 1, none⟩ = some (.int .i64 (S.last + 1)) := cell_of_row w1 g 1 _ _ (0, 0) hb1
        clear hb1
        go_still_tail 9, (by kernel_rfl)
        refine wpList_putI _ rfl (.tmp 35) (.tmp 39) (.tmp 40) 102 rfl 3 3 Tryz.underlying102 Tryz.underlying3 bm _ rfl HM1.out (S.last + 1) rfl _ rfl ?_
        intro w2 hm2 hg2 hs2
        obtain ⟨ht2, ho2⟩ := HF.out _ w2 HW1.out.symm hm2 hg2
        have HT2 := Lib.hid ht2
        have HO2 := Lib.hid ho2
        clear ht2 ho2 hm2 hg2 hs2 d0 d1
        obtain ⟨⟨c0, f0⟩, c1, f1⟩ := HT2.out.cells
        have c1' : w2.cell? ⟨g, 1, none⟩ = some (.int .i64 (S.last + 1)) := c1
        clear c1
        go_wp2
        go_ret2
        rw [HSS.out]
        exact ⟨by rw [HX.out, HE.out]; rfl, HT2.out, HO2.out⟩
end Go.Proofs.YtcdpnfchmpncjaaGreatDoor

namespace Go
open Go.RowKit
variable {P : Program}
def SeqAllN {α : Type} (St : Nat → Nat → World → World → Prop) (Kp : Nat → World → World → Prop) (P : Program) (gf : Nat) (lb : Array Value) (encs : α → Array Value) (xs : List α) (w : World) : Prop :=
  ∀ (l : Nat) (J : Nat → List α → World → Prop) (W : World), Below w.heap.size w W → w.heap.size + 2 ≤ W.heap.size → (∀ N pre A B, J N pre A → St W.heap.size N A B → J N pre B) →
    (∀ N pre x W1, N ≤ W1.heap.size → J N pre W1 → pre ++ [x] <+: xs → YieldAt Fence.wide 1 P l (encs x) W1 fun e W' => e = .returned (.bool true) ∧ J N (pre ++ [x]) W' ∧ Kp N W1 W') →
    (∀ N, J N [] W) →
    CallsIn Fence.wide 2 P gf (#[.func (.yield l) #[] #[]] ++ lb) W fun e W' => (∃ v, e = .returned v) ∧ ∃ N, J N xs W'
structure StepN (n N : Nat) (A B : World) : Prop where
  os : B.os = A.os
  tape : B.tape = A.tape
  output : B.output = A.output
  size : A.heap.size ≤ B.heap.size
  block : ∀ k, k < A.heap.size → k < n ∨ N ≤ k → B.heap[k]? = A.heap[k]?
theorem StepN.of_below {n N : Nat} {A B : World} (h : Below A.heap.size A B) : StepN n N A B := ⟨h.os, h.tape, h.output, h.size, fun k hk _ => h.block k hk⟩
theorem StepN.putObj {n N l : Nat} (W : World) (o : Obj) (h1 : n ≤ l) (h2 : l < N) : StepN n N W (W.putObj l o) :=
  ⟨rfl, rfl, rfl, by simp, fun k _ hk => World.putObj_heap_other (by omega)⟩
def KeepN (O : Nat → Prop) (N : Nat) (W W' : World) : Prop := W.heap.size ≤ W'.heap.size ∧ ∀ k, k < N → ¬ O k → W'.heap[k]? = W.heap[k]?
theorem KeepN.trans {O : Nat → Prop} {N : Nat} {A B C : World} (h : KeepN O N A B) (k : KeepN O N B C) : KeepN O N A C := ⟨Nat.le_trans h.1 k.1, fun i hi ho => (k.2 i hi ho).trans (h.2 i hi ho)⟩
theorem KeepN.below {O : Nat → Prop} {N : Nat} {A B : World} (h : Below A.heap.size A B) (hN : N ≤ A.heap.size) : KeepN O N A B := ⟨h.size, fun k hk _ => h.block k (by omega)⟩
theorem range_allN {α : Type} {m : Nat} {g : Operand} {ps : Array Tmp} {assign body : Code} {Q : Exit → Act → World → Prop} {a : Act} {w w0 : World} {gf : Nat} {lb : Array Value}
    (hg : a.eval g = .func (.func gf) #[] lb) (eg : ∀ args w, (callFunc gf args).run P w = .ok (.enter gf args) w)
    {St : Nat → Nat → World → World → Prop} {Kp : Nat → World → World → Prop} {encs : α → Array Value} {xs : List α} (hseq : SeqAllN St Kp P gf lb encs xs w0) (hb0 : Below w0.heap.size w0 w) (hps : ∀ x, (encs x).size = ps.size)
    (hKt : ∀ {N : Nat} {A B C : World}, Kp N A B → Kp N B C → Kp N A C) (hKb : ∀ (N : Nat) (W : World) (r r' : Loop), W.heap[w.heap.size + 1]? = some (.loop r) → Kp N W (W.putObj (w.heap.size + 1) (.loop r')))
    (I : Nat → List α → World → Prop) (hIb : ∀ N pre W (r r' : Loop), I N pre W → W.heap[w.heap.size + 1]? = some (.loop r) → I N pre (W.putObj (w.heap.size + 1) (.loop r')))
    (hSt : ∀ N pre A B, I N pre A → St (w.heap.size + 2) N A B → I N pre B) (hSk : ∀ N A B k, St (w.heap.size + 2) N A B → k < w.heap.size + 2 → k < A.heap.size → B.heap[k]? = A.heap[k]?)
    (h0 : ∀ N r, I N [] ((w.alloc (.deferred (some []))).alloc (.loop r)))
    (hround : ∀ (N : Nat) (pre : List α) (x : α) (W : World), N ≤ W.heap.size → I N pre W → pre ++ [x] <+: xs → w.heap.size + 1 < W.heap.size → assign.wpIn (Fence.wide.inRound (w.heap.size + 1)) m P
      (Exit.then (fun a1 W1 => W1.heap[w.heap.size + 1]? = W.heap[w.heap.size + 1]? ∧ W1.heap[w.heap.size]? = W.heap[w.heap.size]? ∧ Kp N W W1 ∧ ∀ (r : Loop), Kp N W1 (W1.putObj (w.heap.size + 1) (.loop r)) →
        body.wpIn (Fence.wide.inRound (w.heap.size + 1)) m P (Exit.then (goesOn w.heap.size (w.heap.size + 1) (Kp N) (W1.putObj (w.heap.size + 1) (.loop r)) (I N (pre ++ [x]))) (fun _ _ _ => False)) a1 (W1.putObj (w.heap.size + 1) (.loop r)))
        (fun _ _ _ => False)) { tmps := (ps.zip (encs x)).foldl (fun t (p, v) => t.setIfInBounds p v) a.tmps, defers := [] } W)
    (hdone : ∀ (N : Nat) (W : World), I N xs W → W.heap[w.heap.size]? = some (.deferred (some [])) → Q .normal { a with defers := { target := .collected w.heap.size, args := #[] } :: a.defers } W) :
    (Code.rangeFunc g ps assign body).wpIn Fence.wide (m + 2) P Q a w := by
  refine wpIn_rangeFunc ?_
  intro fn hfn
  obtain ⟨rec, hrec⟩ : ∃ rec : LoopState → Loop, rec = fun st => { state := st, pending := none, fn, tmps := a.tmps, params := ps, assign, body, defers := w.heap.size } := ⟨_, rfl⟩
  have hL1 : ((w.alloc (.deferred (some []))).alloc (.loop (rec .ready))).heap[w.heap.size + 1]? = some (.loop (rec .ready)) := by
    have := World.alloc_heap_new (w.alloc (.deferred (some []))) (.loop (rec .ready)); rwa [World.size_alloc] at this
  have hD1 : ((w.alloc (.deferred (some []))).alloc (.loop (rec .ready))).heap[w.heap.size]? = some (.deferred (some [])) :=
    (Below.heap_alloc _ _ _ (by simp)).trans (World.alloc_heap_new w _)
  have hI1 := fun N => h0 N (rec .ready)
  have hsz : ((w.alloc (.deferred (some []))).alloc (.loop (rec .ready))).heap.size = w.heap.size + 2 := by simp
  have hb1 : Below w0.heap.size w0 ((w.alloc (.deferred (some []))).alloc (.loop (rec .ready))) := hb0.trans ((((Below.refl _ w).alloc (Nat.le_refl _) _).alloc (by simp) _).mono hb0.size)
  have hent : (Instr.enterLoop fn a.tmps ps assign body none).run P w = .ok (w.heap.size + 1, [{ target := .collected w.heap.size, args := #[] }]) ((w.alloc (.deferred (some []))).alloc (.loop (rec .ready))) := by
    rw [hrec]; exact run_enterLoop_outer _ _ _ _ _
  generalize (w.alloc (.deferred (some []))).alloc (.loop (rec .ready)) = W0 at *
  refine ⟨w.heap.size + 1, [{ target := .collected w.heap.size, args := #[] }], W0, { target := .fn (.func gf) lb, args := #[.func (.yield (w.heap.size + 1)) #[] #[]] }, W0, gf, #[.func (.yield (w.heap.size + 1)) #[] #[]] ++ lb, W0, hent, ?_, fun _ _ => trivial, ?_, fun _ => by omega, ?_⟩
  · simp only [resolve, hg]
    simp [go_sem]
  · simp [invoke, go_sem, eg]
  have hcall := hseq (w.heap.size + 1) (fun N pre W => I N pre W ∧ W.heap[w.heap.size + 1]? = some (.loop (rec .ready)) ∧ W.heap[w.heap.size]? = some (.deferred (some []))) W0 hb1 (by rw [hsz]; have := hb0.size; omega)
    (fun N pre A B h hs => by
      rw [hsz] at hs
      have k1 := (Array.getElem?_eq_some_iff.1 h.2.1).1
      exact ⟨hSt N pre A B h.1 hs, (hSk N A B _ hs (by omega) k1).trans h.2.1, (hSk N A B _ hs (by omega) (by omega)).trans h.2.2⟩)
    (fun N pre x W hN ⟨hi, hl, hd⟩ hpre => by
      have hlt := (Array.getElem?_eq_some_iff.1 hl).1
      have hy := run_yield (P := P) (args := encs x) hl (by rw [hrec]; exact hps x)
      rw [hrec] at hy
      refine ⟨fn, _, assign, body, hy, RoundIn.any (n := m) (roundIn_of_wpIn trivial (wpIn_mono (hround N pre x W hN hi hpre hlt) ?_))⟩
      intro e a1 W1 he
      cases e with
      | normal =>
        obtain ⟨e1, e2, e3, hbody⟩ := he
        have hl1 := e1.trans hl
        have hd1 := e2.trans hd
        refine ⟨_, run_beginRound hl1 (by rw [hrec]), ?_⟩
        have hlt1 := (Array.getElem?_eq_some_iff.1 hl1).1
        have hkb := hKb N W1 (rec .ready) { rec .ready with state := .busy } hl1
        refine wpIn_mono (hbody { rec .ready with state := .busy } hkb) ?_
        intro e a2 W2 he2
        cases e with
        | normal =>
          obtain ⟨f1, f2, f3, f4⟩ := he2
          have hl2 := f1.trans (World.putObj_heap_same (o := .loop { rec .ready with state := .busy }) hlt1)
          have hd2 := (f2.trans (World.putObj_heap_other (by omega))).trans hd1
          refine ⟨_, _, run_endRound none hl2, rfl, ⟨hIb _ _ _ _ _ f4 hl2, ?_, (World.putObj_heap_other (by omega)).trans hd2⟩, hKt e3 (hKt hkb (hKt f3 (hKb _ _ _ _ hl2)))⟩
          rw [World.putObj_heap_same (Array.getElem?_eq_some_iff.1 hl2).1, hrec]
          rfl
        | _ => exact he2.elim
      | _ => exact he.elim)
    (fun N => ⟨hI1 N, hL1, hD1⟩)
  refine CallsIn.mono (n := m + 2 - 1) ⟨trivial, fun cs _ => hcall.2 cs (room_wide _)⟩ ?_
  rintro e W' ⟨⟨v, rfl⟩, N, hi, hl, hd⟩
  refine ⟨none, _, ?_, hdone N _ (hIb _ _ _ (rec .ready) { rec .ready with state := .exhausted } hi hl) ((World.putObj_heap_other (by omega)).trans hd)⟩
  have := run_endLoop (P := P) hl (by rw [hrec]; simp)
  rw [hrec] at this ⊢
  exact this
end Go

namespace Go.Tr
open Go.RowKit
def maskN (f : Nat × Nat) : Nat := (2 ^ f.2 - 1) * 2 ^ f.1
def RightF (f : Nat × Nat) : Prop := f.1 < 64 ∧ 0 < f.2 ∧ f.2 ≤ 64 - f.1
theorem top_div (d : Nat) (h1 : 0 < d) (h2 : d ≤ 64) : 18446744073709551615 / 2 ^ (64 - d) = 2 ^ d - 1 := by
  have : ∀ e, e < 65 → 0 < e → 18446744073709551615 / 2 ^ (64 - e) = 2 ^ e - 1 := by decide
  exact this d (by omega) h1
theorem maskN_lt {f : Nat × Nat} (h : RightF f) : maskN f < 18446744073709551616 := by
  obtain ⟨h1, h2, h3⟩ := h
  have h4 : (2 ^ f.2 - 1) * 2 ^ f.1 < 2 ^ f.2 * 2 ^ f.1 := Nat.mul_lt_mul_of_pos_right (by have := Nat.two_pow_pos f.2; omega) (Nat.two_pow_pos _)
  rw [← Nat.pow_add] at h4
  have h5 : (2 : Nat) ^ (f.2 + f.1) ≤ 2 ^ 64 := Nat.pow_le_pow_right (by decide) (by omega)
  exact Nat.lt_of_lt_of_le h4 h5
theorem mask_val {a d : Nat} (h : RightF (a, d)) : IntKind.u64.wrap (18446744073709551615 / 2 ^ (64 - d) * 2 ^ a) = ((maskN (a, d) : Nat) : Int) := by
  have h1 : (18446744073709551615 : Int) / 2 ^ (64 - d) * 2 ^ a = ((maskN (a, d) : Nat) : Int) := by
    have := top_div d h.2.1 (by have := h.2.2; omega)
    have e1 : (18446744073709551615 : Int) = ((18446744073709551615 : Nat) : Int) := rfl
    have e2 : ((2 : Int) ^ a) = ((2 ^ a : Nat) : Int) := by push_cast; rfl
    rw [maskN, e1, div_val, this, e2, ← Int.natCast_mul]
  rw [h1]
  have := maskN_lt h
  rw [IntWalk.u64_in _ (by omega)]
end Go.Tr
namespace Go.Proofs.YtcdpnfchmpncjaaGreatDoor
open Go.RowKit Go.Tr Go.Shelf
variable {w w' : World}
set_option maxRecDepth 100000 in
theorem fright_any (a d : Nat) (w : World) (h : RightF (a, d)) : Calls Tryz.prog 171 #[.agg #[.int .i64 a, .int .i64 d]] w fun e w' => e = .returned (.bool true) ∧ Below w.heap.size w w' := by
  obtain ⟨h1, h2, h3⟩ := h
  simp only at h1 h2 h3
  have k1 : (0 : Int) ≤ (a : Int) := by omega
  have k2 : (a : Int) < 64 := by omega
  have k3 : (0 : Int) < (d : Int) := by omega
  have k4 : (d : Int) ≤ 64 - (a : Int) := by omega
  go_enter Tryz.func171, Tryz.ntmps171
  go_wp2
  go_ret
  exact ⟨rfl, (Below.refl _ w).alloc (Nat.le_refl _) _⟩
set_option maxRecDepth 100000 in
theorem fmask_any (a d : Nat) (w : World) (h : RightF (a, d)) : Calls Tryz.prog 126 #[.agg #[.int .i64 a, .int .i64 d]] w fun e w' => e = .returned (.int .u64 (maskN (a, d) : Nat)) ∧ Below w.heap.size w w' := by
  obtain ⟨h1, h2, h3⟩ := h
  simp only at h1 h2 h3
  have k1 : ¬ (64 : Int) - (d : Int) < 0 := by omega
  have k2 : ¬ (a : Int) < 0 := by omega
  have k3 : IntKind.i64.wrap (64 - (d : Int)) = 64 - (d : Int) := by rw [IntWalk.i64_in _ (by omega)]
  have k5 : (64 : Int) - (d : Int) < 64 := by omega
  have k6 : (a : Int) < 64 := by omega
  go_enter Tryz.func126, Tryz.ntmps126
  go_wp2_with fail
  go_quiet (fail)
  go_wp2
  go_ret
  exact ⟨by rw [← mask_val ⟨h1, h2, h3⟩]; rfl, ((Below.refl _ w).alloc (Nat.le_refl _) _).trans (Drawn.below ⟨nq, rfl⟩ _)⟩
def okL (all : Nat) : List (Nat × Nat) → Prop
  | [] => True
  | f :: r => RightF f ∧ all &&& maskN f = 0 ∧ okL (all ||| maskN f) r
theorem okL_drop {all k : Nat} {fs : List (Nat × Nat)} {f : Nat × Nat} (h : okL all (fs.drop k)) (hf : fs[k]? = some f) : RightF f ∧ all &&& maskN f = 0 ∧ okL (all ||| maskN f) (fs.drop (k + 1)) := by
  have h2 : fs.drop k = f :: fs.drop (k + 1) := by
    rw [List.drop_eq_getElem_cons (List.getElem?_eq_some_iff.1 hf).1, (List.getElem?_eq_some_iff.1 hf).2]
  rw [h2] at h
  exact h
set_option maxRecDepth 100000 in
theorem fapart_any (fs : List (Nat × Nat)) (la : Option Addr) (n c : Nat) (w : World) (h : SeqAt w la (pcells fs)) (hl : fs.length = n) (hn : n ≤ 1000) (ho : okL 0 fs) : Calls Tryz.prog 125 #[.slice la n c] w fun e w' => e = .returned (.bool true) ∧ Below w.heap.size w w' := by
  have HS := Lib.hid h
  have HO := Lib.hid ho
  have HL := Lib.hid hl
  clear h ho hl
  go_enter Tryz.func125, Tryz.ntmps125
  go_wp2_with fail
  go_loopw [3, 8] (fun v i wr => ∃ k all : Nat, k ≤ n ∧ i = .int .i64 (k : Int) ∧ v = .int .u64 (all : Int) ∧ all < 18446744073709551616 ∧ Hid (okL all (fs.drop k)) ∧ Hid (Below w.heap.size w wr)) (fun _ i _ => n - (intOf i).toNat)
  case atStart => exact ⟨0, 0, Nat.zero_le _, rfl, rfl, by decide, HO, Below.refl _ w⟩
  case round =>
    obtain ⟨k, all, hk, rfl, rfl, hall, HK, HB⟩ := hrel
    by_cases hlt : k < n
    · have hlt' : (k : Int) < (n : Int) := by omega
      obtain ⟨b, off, a, d, rfl, hc1, hc2, HP⟩ := (HS.out.below HB.out (Nat.le_refl _)).part (k := k) (by rw [HL.out]; exact hlt)
      obtain ⟨hr, hz, hok⟩ := okL_drop HK.out HP.out
      have hml := maskN_lt hr
      obtain ⟨m, hm⟩ : ∃ m, m = maskN (a, d) := ⟨_, rfl⟩
      have HMK : Hid (∀ W, Calls Tryz.prog 126 #[.agg #[.int .i64 a, .int .i64 d]] W fun e w' => e = .returned (.int .u64 (m : Nat)) ∧ Below W.heap.size W w') := fun W => by rw [hm]; exact fmask_any a d W hr
      have HRT : Hid (∀ W, Calls Tryz.prog 171 #[.agg #[.int .i64 a, .int .i64 d]] W fun e w' => e = .returned (.bool true) ∧ Below W.heap.size W w') := fun W => fright_any a d W hr
      rw [← hm] at hz hok hml
      have hand : bits .and .u64 (all : Int) (m : Int) = 0 := by rw [u64_and_nat _ _ hall hml, hz]; rfl
      have hor : bits .or .u64 (all : Int) (m : Int) = ((all ||| m : Nat) : Int) := u64_or_nat _ _ hall hml
      have hol : all ||| m < 18446744073709551616 := Nat.or_lt_two_pow (n := 64) hall hml
      have HOK := Lib.hid hok
      have HBA : Hid (Below w.heap.size w (wr.alloc (.cells #[.int .i64 a, .int .i64 d] 212))) := HB.out.alloc HB.out.size _
      obtain ⟨xb, hxb⟩ : ∃ xb, xb = wr.heap.size := ⟨_, rfl⟩
      have HXB : Hid ((wr.alloc (.cells #[.int .i64 a, .int .i64 d] 212)).heap[xb]? = some (.cells #[.int .i64 a, .int .i64 d] 212 (0, 0))) := by rw [hxb]; exact heap_alloc_new _ _
      clear hz hok hml hm hr HK
      go_wp2_with fail
      rw [← hxb]
      generalize wr.alloc (.cells #[.int .i64 a, .int .i64 d] 212) = wa at *
      clear hxb
      refine (HRT.out wa).mono ?_
      rintro e w1 ⟨rfl, hb1⟩
      have HB1 : Hid (Below w.heap.size w w1) := HBA.out.trans (hb1.mono HBA.out.size)
      have HX1 := Lib.hid ((hb1.block xb (Array.getElem?_eq_some_iff.1 HXB.out).1).trans HXB.out)
      have x0 := (cells_of_block HX1.out 0).1
      have x1 := (cells_of_block HX1.out 1).1
      simp at x0 x1
      clear hb1
      go_wp2_with fail
      refine (HMK.out w1).mono ?_
      rintro e w2 ⟨rfl, hb2⟩
      have HB2 : Hid (Below w.heap.size w w2) := HB1.out.trans (hb2.mono HB1.out.size)
      have HX2 := Lib.hid ((hb2.block xb (Array.getElem?_eq_some_iff.1 HX1.out).1).trans HX1.out)
      have y0 := (cells_of_block HX2.out 0).1
      have y1 := (cells_of_block HX2.out 1).1
      simp at y0 y1
      clear hb2 x0 x1
      go_wp2_with fail
      refine (HMK.out w2).mono ?_
      rintro e w3 ⟨rfl, hb3⟩
      have HB3 : Hid (Below w.heap.size w w3) := HB2.out.trans (hb3.mono HB2.out.size)
      clear hb3 y0 y1
      go_wp2_with fail
      go_roundw
      case rel => exact ⟨k + 1, all ||| m, by omega, by go_num, rfl, hol, HOK, HB3⟩
      case measure => simp [intOf]; omega
    · have hlt' : ¬ (k : Int) < (n : Int) := by omega
      go_wp2
      go_ret
      exact ⟨rfl, HB.out⟩
end Go.Proofs.YtcdpnfchmpncjaaGreatDoor

namespace Go.Tr
open Go.RowKit
def putN (v : Nat) (f : Nat × Nat) (x : Nat) : Nat := (v &&& (18446744073709551615 - maskN f)) ||| (x * 2 ^ f.1)
def packN : Nat → List (Nat × Nat) → List Nat → Nat
  | v, f :: r, x :: s => packN (putN v f x) r s
  | v, _, _ => v
theorem bitLen_fit {x d : Nat} (hx : x < 2 ^ d) (hd : d ≤ 64) : Lib.bitLen x ≤ d := by
  by_cases h0 : x = 0
  · subst h0; exact Nat.zero_le _
  · have h64 : x < 2 ^ 64 := Nat.lt_of_lt_of_le hx (Nat.pow_le_pow_right (by decide) hd)
    obtain ⟨h1, h2, h3⟩ := Lib.bitLenAux_bounds 64 x h64 h0
    have h4 : 2 ^ (Lib.bitLen x - 1) < 2 ^ d := Nat.lt_of_le_of_lt h2 hx
    have h5 := (Nat.pow_lt_pow_iff_right (by decide : 1 < 2)).1 h4
    omega
theorem fit_lt {f : Nat × Nat} {x : Nat} (h : RightF f) (hx : x < 2 ^ f.2) : x * 2 ^ f.1 < 18446744073709551616 := by
  obtain ⟨h1, h2, h3⟩ := h
  have h4 : x * 2 ^ f.1 < 2 ^ f.2 * 2 ^ f.1 := Nat.mul_lt_mul_of_pos_right hx (Nat.two_pow_pos _)
  rw [← Nat.pow_add] at h4
  have h5 : (2 : Nat) ^ (f.2 + f.1) ≤ 2 ^ 64 := Nat.pow_le_pow_right (by decide) (by omega)
  exact Nat.lt_of_lt_of_le h4 h5
theorem putN_lt {v x : Nat} {f : Nat × Nat} (h : RightF f) (hv : v < 18446744073709551616) (hx : x < 2 ^ f.2) : putN v f x < 18446744073709551616 := Nat.or_lt_two_pow (n := 64) (Nat.and_lt_two_pow (n := 64) _ (by show _ < 18446744073709551616; omega)) (fit_lt h hx)
end Go.Tr
namespace Go.Proofs.YtcdpnfchmpncjaaGreatDoor
open Go.RowKit Go.Tr Go.Shelf
variable {w w' : World}
theorem len64_any (x : Nat) (hx : x < 18446744073709551616) (w : World) : Calls Tryz.prog 169 #[.int .u64 x] w fun e w' => e = .returned (.int .i64 (Lib.bitLen x)) ∧ w = w' :=
  (calls_of_every_depth (fun D => AnyS.bits_Len64In laysLen64 D x w (by omega) (by omega))).mono fun e w' ⟨h1, h2⟩ => ⟨by simpa using h1, h2.symm⟩
set_option maxRecDepth 100000 in
theorem fput_any (v a d x : Nat) (w : World) (h : RightF (a, d)) (hv : v < 18446744073709551616) (hx : x < 2 ^ d) : Calls Tryz.prog 202 #[.int .u64 v, .agg #[.int .i64 a, .int .i64 d], .int .u64 x] w fun e w' => e = .returned (.tuple #[.int .u64 (putN v (a, d) x : Nat), .int .i64 0]) ∧ Below w.heap.size w w' := by
  have hml := maskN_lt h
  have hfl := fit_lt h hx
  have hd : d ≤ 64 := by have := h.2.2; simp only at this; omega
  have hbl := bitLen_fit hx hd
  have hx64 : x < 18446744073709551616 := Nat.lt_of_lt_of_le hx (Nat.pow_le_pow_right (by decide) hd)
  obtain ⟨m, hm⟩ : ∃ m, m = maskN (a, d) := ⟨_, rfl⟩
  have HMK : Hid (∀ W, Calls Tryz.prog 126 #[.agg #[.int .i64 a, .int .i64 d]] W fun e w' => e = .returned (.int .u64 (m : Nat)) ∧ Below W.heap.size W w') := fun W => by rw [hm]; exact fmask_any a d W h
  have HRT := Lib.hid (fright_any a d · h)
  have HLN := Lib.hid (len64_any x hx64)
  have ha : a < 64 := h.1
  have hshl : IntKind.u64.wrap ((x : Int) * 2 ^ a) = ((x * 2 ^ a : Nat) : Int) := by
    have e2 : ((2 : Int) ^ a) = ((2 ^ a : Nat) : Int) := by push_cast; rfl
    simp only at hfl
    rw [e2, ← Int.natCast_mul, IntWalk.u64_in _ (by omega)]
  rw [← hm] at hml
  have hnot : bits .andNot .u64 (v : Int) (m : Int) = ((v &&& (18446744073709551615 - m) : Nat) : Int) := u64_andNot_nat _ _ hv hml
  obtain ⟨z1, hz1⟩ : ∃ z1, z1 = v &&& (18446744073709551615 - m) := ⟨_, rfl⟩
  obtain ⟨z2, hz2⟩ : ∃ z2, z2 = x * 2 ^ a := ⟨_, rfl⟩
  have hz1l : z1 < 18446744073709551616 := by rw [hz1]; exact Nat.and_lt_two_pow (n := 64) _ (by show _ < 18446744073709551616; omega)
  rw [← hz1] at hnot
  rw [← hz2] at hshl
  have hz2l : z2 < 18446744073709551616 := by rw [hz2]; exact hfl
  have hor : bits .or .u64 (z1 : Int) (z2 : Int) = ((z1 ||| z2 : Nat) : Int) := u64_or_nat _ _ hz1l hz2l
  have HP : Hid (putN v (a, d) x = z1 ||| z2) := by show _ = _; rw [hz1, hz2, hm]; rfl
  rw [HP.out]
  obtain ⟨bl, hbl2⟩ : ∃ bl, bl = Lib.bitLen x := ⟨_, rfl⟩
  rw [← hbl2] at HLN hbl
  have hlt : ¬ (d : Int) < (bl : Int) := by omega
  have k2 : (0 : Int) ≤ (a : Int) := by omega
  clear hz1 hz2 hm hml hfl h hx HP hbl2
  go_enter Tryz.func202, Tryz.ntmps202
  go_wp2_with fail
  have HBA : Hid (Below w.heap.size w (w.alloc (.cells #[.int .i64 a, .int .i64 d] 212))) := (Below.refl _ w).alloc (Nat.le_refl _) _
  obtain ⟨xb, hxb⟩ : ∃ xb, xb = w.heap.size := ⟨_, rfl⟩
  have HXB : Hid ((w.alloc (.cells #[.int .i64 a, .int .i64 d] 212)).heap[xb]? = some (.cells #[.int .i64 a, .int .i64 d] 212 (0, 0))) := by rw [hxb]; exact heap_alloc_new _ _
  have HXE : Hid (xb = w.heap.size) := hxb
  rw [← hxb] at HBA
  rw [← hxb]
  generalize w.alloc (.cells #[.int .i64 a, .int .i64 d] 212) = wa at *
  clear hxb
  refine (HRT.out wa).mono ?_
  rintro e w1 ⟨rfl, hb1⟩
  have HX1 := Lib.hid ((hb1.block xb (Array.getElem?_eq_some_iff.1 HXB.out).1).trans HXB.out)
  have HB1 : Hid (Below w.heap.size w w1) := by
    have := HBA.out.size
    rw [← HXE.out]; exact HBA.out.trans (hb1.mono (by have := (Array.getElem?_eq_some_iff.1 HXB.out).1; omega))
  have x0 := (cells_of_block HX1.out 0).1
  have x1 := (cells_of_block HX1.out 1).1
  simp at x0 x1
  clear hb1
  go_wp2_with fail
  go_quiet ((go_at_call 169; exact quiet_same (HLN.out _)))
  go_wp2_with fail
  refine wp_region_held_drew (S := fun W => W.cell? ⟨xb, 0, none⟩ = some (.int .i64 a) ∧ W.cell? ⟨xb, 1, none⟩ = some (.int .i64 d)) (by kernel_rfl) ⟨x0, x1⟩ (fun hH => ?_)
  refine Go.Tr.tz 0 (v := ?_) rfl ?_ ?_
  rotate_left
  · intro W hW
    go_simp
    try with_reducible rfl
  try simp only [Go.Tr.nz]
  refine Go.Tr.tz 1 (v := ?_) rfl ?_ ?_
  rotate_left
  · intro W hW
    go_simp
    try with_reducible rfl
  try simp only [Go.Tr.nz]
  refine Go.Tr.tz 4 (v := ?_) rfl ?_ ?_
  rotate_left
  · intro W hW
    go_simp
    try with_reducible rfl
  try simp only [Go.Tr.nz]
  refine Go.Tr.tz 5 (v := ?_) rfl ?_ ?_
  rotate_left
  · intro W hW
    go_simp
    try with_reducible rfl
  try simp only [Go.Tr.nz]
  refine Go.Tr.tz 6 (v := ?_) rfl ?_ ?_
  rotate_left
  · intro W hW
    go_simp
    try with_reducible rfl
  try simp only [Go.Tr.nz]
  refine Go.Tr.tz 7 (v := ?_) rfl ?_ ?_
  rotate_left
  · intro W hW
    go_simp
    try with_reducible rfl
  try simp only [Go.Tr.nz]
  refine wpAnyH_ready (rs := [2]) (by kernel_rfl) (by simp) (readyH rfl (fun K hK => ?_) AllReadyH.nil)
  rw [if_pos (by rfl)]
  go_simp
  refine (HMK.out _).mono ?_
  rintro e w2 ⟨rfl, hb2⟩
  have hk2 : w2.heap[xb]? = w1.heap[xb]? := hb2.block xb (Array.getElem?_eq_some_iff.1 HX1.out).1
  have y0 := (World.cell?_of_block (a := ⟨xb, 0, none⟩) hk2).trans x0
  have y1 := (World.cell?_of_block (a := ⟨xb, 1, none⟩) hk2).trans x1
  have HB2 : Hid (Below w.heap.size w w2) := by
    have h1 := HB1.out.size
    have h2 : Below w1.heap.size w1 w2 := ⟨hb2.os, hb2.tape, hb2.output, hb2.size, hb2.block⟩
    exact HB1.out.trans (h2.mono h1)
  clear hb2 hk2
  refine hK.out _ _ ⟨y0, y1⟩ (fun hH => ?_)
  clear hK K
  try simp only [Go.Tr.nz]
  refine Go.Tr.tz 3 (v := ?_) rfl ?_ ?_
  rotate_left
  · intro W hW
    go_simp
    try with_reducible rfl
  try simp only [Go.Tr.nz]
  refine Go.Tr.tz 8 (v := ?_) rfl ?_ ?_
  rotate_left
  · intro W hW
    go_simp
    try with_reducible rfl
  try simp only [Go.Tr.nz]
  refine Go.Tr.tz 9 (v := ?_) rfl ?_ ?_
  rotate_left
  · intro W hW
    go_simp
    try with_reducible rfl
  try simp only [Go.Tr.nz]
  refine Go.Tr.tz 10 (v := ?_) rfl ?_ ?_
  rotate_left
  · intro W hW
    go_simp
    try with_reducible rfl
  try simp only [Go.Tr.nz]
  refine wpAnyH_done (by kernel_rfl) ?_ _
  go_wp2_with fail
  go_ret2
  exact ⟨rfl, HB2.out⟩
end Go.Proofs.YtcdpnfchmpncjaaGreatDoor

namespace Go.Tr
open Go.RowKit
theorem SeqAt.u {w : World} {a : Option Addr} {xs : List Nat} (h : SeqAt w a (us xs)) {k : Nat} (hk : k < xs.length) : ∃ b off x, a = some ⟨b, off, none⟩ ∧ w.cell? ⟨b, off + k, none⟩ = some (.int .u64 (x : Nat)) ∧ Hid (xs[k]? = some x) := by
  obtain ⟨b, off, e, hc⟩ := h (by simp [us]; omega)
  refine ⟨b, off, xs[k], e, ?_, List.getElem?_eq_getElem hk⟩
  rw [hc k (by simp [us]; exact hk)]
  simp [us, uv, List.getD, List.getElem?_eq_getElem hk]
theorem packN_drop {v k : Nat} {fs : List (Nat × Nat)} {xs : List Nat} {f : Nat × Nat} {x : Nat} (hf : fs[k]? = some f) (hx : xs[k]? = some x) : packN v (fs.drop k) (xs.drop k) = packN (putN v f x) (fs.drop (k + 1)) (xs.drop (k + 1)) := by
  rw [List.drop_eq_getElem_cons (List.getElem?_eq_some_iff.1 hf).1, (List.getElem?_eq_some_iff.1 hf).2, List.drop_eq_getElem_cons (List.getElem?_eq_some_iff.1 hx).1, (List.getElem?_eq_some_iff.1 hx).2]
  rfl
end Go.Tr
namespace Go.Proofs.YtcdpnfchmpncjaaGreatDoor
open Go.RowKit Go.Tr Go.Shelf
variable {w w' : World}
theorem okL_right : ∀ {all : Nat} {fs : List (Nat × Nat)}, okL all fs → ∀ f ∈ fs, RightF f
  | _, [], _, f, hf => by simp at hf
  | _, g :: r, h, f, hf => by
    rcases List.mem_cons.1 hf with rfl | hf
    · exact h.1
    · exact okL_right h.2.2 f hf
set_option maxRecDepth 100000 in
theorem fpack_any (fs : List (Nat × Nat)) (xs : List Nat) (la xa : Option Addr) (n c xc : Nat) (w : World) (h : SeqAt w la (pcells fs)) (h2 : SeqAt w xa (us xs)) (hl : fs.length = n) (hx : xs.length = n) (hn : n ≤ 1000) (ho : okL 0 fs) (hfit : ∀ (k : Nat) f x, fs[k]? = some f → xs[k]? = some x → x < 2 ^ f.2) : Calls Tryz.prog 176 #[.slice la n c, .slice xa n xc] w fun e w' => e = .returned (.tuple #[.int .u64 (packN 0 fs xs : Nat), .int .i64 0]) ∧ Below w.heap.size w w' := by
  have HAP := Lib.hid (fapart_any fs la n c w h hl hn ho)
  have HS := Lib.hid h
  have HS2 := Lib.hid h2
  have HO := Lib.hid (okL_right ho)
  have HL := Lib.hid hl
  have HXL := Lib.hid hx
  have HFIT := Lib.hid hfit
  clear h h2 ho hl hx hfit
  go_enter Tryz.func176, Tryz.ntmps176
  go_wp2_with fail
  refine HAP.out.mono ?_
  rintro e w1 ⟨rfl, hb1⟩
  have HB1 := Lib.hid hb1
  clear hb1
  go_wp2_with fail
  go_loopw [6, 22] (fun v i wr => ∃ k z : Nat, k ≤ n ∧ i = .int .i64 (k : Int) ∧ v = .int .u64 (z : Int) ∧ z < 18446744073709551616 ∧ Hid (packN z (fs.drop k) (xs.drop k) = packN 0 fs xs) ∧ Hid (Below w.heap.size w wr)) (fun _ i _ => n - (intOf i).toNat)
  case atStart => exact ⟨0, 0, Nat.zero_le _, rfl, rfl, by decide, rfl, HB1⟩
  case round =>
    obtain ⟨k, z, hk, rfl, rfl, hz, HK, HB⟩ := hrel
    by_cases hlt : k < n
    · have hlt' : (k : Int) < (n : Int) := by omega
      obtain ⟨b, off, a, d, rfl, hc1, hc2, HP⟩ := (HS.out.below HB.out (Nat.le_refl _)).part (k := k) (by rw [HL.out]; exact hlt)
      obtain ⟨b2, off2, x, rfl, hc3, HX⟩ := (HS2.out.below HB.out (Nat.le_refl _)).u (k := k) (by rw [HXL.out]; exact hlt)
      have hr := HO.out _ (List.mem_of_getElem? HP.out)
      have hxd := HFIT.out k _ _ HP.out HX.out
      have HPUT := Lib.hid (fput_any z a d x · hr hz hxd)
      have hzl := putN_lt hr hz hxd
      obtain ⟨z', hz'⟩ : ∃ z', z' = putN z (a, d) x := ⟨_, rfl⟩
      have HK' : Hid (packN z' (fs.drop (k + 1)) (xs.drop (k + 1)) = packN 0 fs xs) := by show _ = _; rw [← HK.out, packN_drop HP.out HX.out, hz']
      rw [← hz'] at HPUT hzl
      have HBA : Hid (Below w.heap.size w (wr.alloc (.cells #[.int .i64 a, .int .i64 d] 212))) := HB.out.alloc HB.out.size _
      obtain ⟨xb, hxb⟩ : ∃ xb, xb = wr.heap.size := ⟨_, rfl⟩
      have HXB : Hid ((wr.alloc (.cells #[.int .i64 a, .int .i64 d] 212)).heap[xb]? = some (.cells #[.int .i64 a, .int .i64 d] 212 (0, 0))) := by rw [hxb]; exact heap_alloc_new _ _
      have hc4 := fun u => (World.cell?_of_block (a := ⟨b2, off2 + k, none⟩) (Below.heap_alloc wr u b2 (World.block_lt_of_cell? wr _ hc3))).trans hc3
      clear hr hxd hz' HK
      go_wp2_with fail
      have hc5 := hc4 (.cells #[.int .i64 a, .int .i64 d] 212)
      rw [← hxb]
      generalize wr.alloc (.cells #[.int .i64 a, .int .i64 d] 212) = wa at *
      clear hxb hc4 hc3 hc1 hc2
      have x0 := (cells_of_block HXB.out 0).1
      have x1 := (cells_of_block HXB.out 1).1
      simp at x0 x1
      refine wp_region_held_drew (S := fun W => W.cell? ⟨xb, 0, none⟩ = some (.int .i64 a) ∧ W.cell? ⟨xb, 1, none⟩ = some (.int .i64 d) ∧ W.cell? ⟨b2, off2 + k, none⟩ = some (.int .u64 x)) (by kernel_rfl) ⟨x0, x1, hc5⟩ (fun hH => ?_)
      refine Go.Tr.tz 0 (v := ?_) rfl ?_ ?_
      rotate_left
      · intro W hW
        go_simp
        try with_reducible rfl
      try simp only [Go.Tr.nz]
      refine Go.Tr.tz 1 (v := ?_) rfl ?_ ?_
      rotate_left
      · intro W hW
        go_simp
        try with_reducible rfl
      try simp only [Go.Tr.nz]
      refine Go.Tr.tz 2 (v := ?_) rfl ?_ ?_
      rotate_left
      · intro W hW
        go_simp
        try with_reducible rfl
      try simp only [Go.Tr.nz]
      refine Go.Tr.tz 3 (v := ?_) rfl ?_ ?_
      rotate_left
      · intro W hW
        go_simp
        try with_reducible rfl
      try simp only [Go.Tr.nz]
      refine Go.Tr.tz 4 (v := ?_) rfl ?_ ?_
      rotate_left
      · intro W hW
        go_simp
        try with_reducible rfl
      try simp only [Go.Tr.nz]
      refine Go.Tr.tz 5 (v := ?_) rfl ?_ ?_
      rotate_left
      · intro W hW
        go_simp
        try with_reducible rfl
      try simp only [Go.Tr.nz]
      refine wpAnyH_ready (rs := [6]) (by kernel_rfl) (by simp) (readyH rfl (fun K hK => ?_) AllReadyH.nil)
      rw [if_pos (by rfl)]
      go_simp
      refine (HPUT.out _).mono ?_
      rintro e w2 ⟨rfl, hb2⟩
      have hk2 : w2.heap[xb]? = wa.heap[xb]? := hb2.block xb (Array.getElem?_eq_some_iff.1 HXB.out).1
      have y0 := (World.cell?_of_block (a := ⟨xb, 0, none⟩) hk2).trans x0
      have y1 := (World.cell?_of_block (a := ⟨xb, 1, none⟩) hk2).trans x1
      have hk3 : w2.heap[b2]? = wa.heap[b2]? := hb2.block b2 (World.block_lt_of_cell? wa _ hc5)
      have y2 := (World.cell?_of_block (a := ⟨b2, off2 + k, none⟩) hk3).trans hc5
      have HB2 : Hid (Below w.heap.size w w2) := by
        have h1 := HBA.out.size
        have h2 : Below wa.heap.size wa w2 := ⟨hb2.os, hb2.tape, hb2.output, hb2.size, hb2.block⟩
        exact HBA.out.trans (h2.mono h1)
      clear hb2 hk2 hk3
      refine hK.out _ _ ⟨y0, y1, y2⟩ (fun hH => ?_)
      clear hK K
      try simp only [Go.Tr.nz]
      refine Go.Tr.tz 7 (v := ?_) rfl ?_ ?_
      rotate_left
      · intro W hW
        go_simp
        try with_reducible rfl
      try simp only [Go.Tr.nz]
      refine Go.Tr.tz 8 (v := ?_) rfl ?_ ?_
      rotate_left
      · intro W hW
        go_simp
        try with_reducible rfl
      try simp only [Go.Tr.nz]
      refine Go.Tr.tz 9 (v := ?_) rfl ?_ ?_
      rotate_left
      · intro W hW
        go_simp
        try with_reducible rfl
      try simp only [Go.Tr.nz]
      refine Go.Tr.tz 10 (v := ?_) rfl ?_ ?_
      rotate_left
      · intro W hW
        go_simp
        try with_reducible rfl
      try simp only [Go.Tr.nz]
      refine Go.Tr.tz 11 (v := ?_) rfl ?_ ?_
      rotate_left
      · intro W hW
        go_simp
        try with_reducible rfl
      try simp only [Go.Tr.nz]
      refine wpAnyH_done (by kernel_rfl) ?_ _
      go_wp2_with fail
      go_roundw
      case rel => exact ⟨k + 1, z', by omega, by go_num, rfl, hzl, HK', HB2⟩
      case measure => simp [intOf]; omega
    · have hlt' : ¬ (k : Int) < (n : Int) := by omega
      have HZ : Hid (packN 0 fs xs = z) := by
        have h1 : fs.drop k = [] := by have := HL.out; apply List.drop_eq_nil_of_le; omega
        show _ = _
        rw [← HK.out, h1]; rfl
      go_wp2
      go_ret2
      exact ⟨by rw [HZ.out]; rfl, HB.out⟩
def _root_.Go.Tr.unpackL (W : Nat) (fs : List (Nat × Nat)) : List Nat := fs.map fun f => W / 2 ^ f.1 % 2 ^ f.2
theorem and_mask {W : Nat} {f : Nat × Nat} (hr : RightF f) : (W &&& maskN f) / 2 ^ f.1 = W / 2 ^ f.1 % 2 ^ f.2 := by
  apply Nat.eq_of_testBit_eq
  intro i
  rw [Nat.testBit_div_two_pow, Nat.testBit_and, Nat.testBit_mod_two_pow, Nat.testBit_div_two_pow, maskN, Nat.testBit_mul_two_pow, Nat.testBit_two_pow_sub_one]
  by_cases hi : i < f.2
  · simp [hi, Nat.add_comm]
  · simp [hi, Nat.add_comm]
theorem infoU64f : (Tryz.prog.info? 34).map (fun i => (i.zero, i.size, i.bytes)) = some (some (.int .u64 0), 1, 8) := by kernel_rfl
set_option maxRecDepth 100000 in
theorem funpack_any (W : Nat) (fs : List (Nat × Nat)) (la : Option Addr) (n c : Nat) (w : World) (hW : W < 18446744073709551616) (h : SeqAt w la (pcells fs)) (hl : fs.length = n) (hn : n ≤ 1000) (ho : okL 0 fs) : Calls Tryz.prog 79 #[.int .u64 W, .slice la n c] w fun e w' => ∃ v, e = .returned (.tuple #[v, .int .i64 0]) ∧ OwnO w' 1 v n (us (unpackL W fs)) ∧ Below w.heap.size w w' := by
  obtain ⟨i0, hi, hz0, hz1, hz2⟩ := info_parts infoU64f
  have HAP := Lib.hid (fapart_any fs la n c w h hl hn ho)
  have HS := Lib.hid h
  have HO := Lib.hid (okL_right ho)
  have HL := Lib.hid hl
  clear h ho hl
  go_enter Tryz.func79, Tryz.ntmps79
  go_wp2_with fail
  refine HAP.out.mono ?_
  rintro e w1 ⟨rfl, hb1⟩
  have HB1 := Lib.hid hb1
  clear hb1
  go_wp2_with fail
  go_loopw [6, 14] (fun v i wr => ∃ k : Nat, k ≤ n ∧ i = .int .i64 (k : Int) ∧ Hid (OwnO wr 1 v k (us (unpackL W (fs.take k)))) ∧ Hid (∀ q, v.ownBlock = some q → w.heap.size ≤ q) ∧ Hid (Below w.heap.size w wr)) (fun _ i _ => n - (intOf i).toNat)
  case atStart => exact ⟨0, Nat.zero_le _, rfl, OwnO.nil _ _, fun q hq => by simp [Value.ownBlock] at hq, HB1⟩
  case round =>
    obtain ⟨k, hk, rfl, HV, HN, HB⟩ := hrel
    by_cases hlt : k < n
    · have hlt' : (k : Int) < (n : Int) := by omega
      obtain ⟨b, off, a, d, rfl, hc1, hc2, HP⟩ := (HS.out.below HB.out (Nat.le_refl _)).part (k := k) (by rw [HL.out]; exact hlt)
      have hr := HO.out _ (List.mem_of_getElem? HP.out)
      have hml := maskN_lt hr
      obtain ⟨m, hm⟩ : ∃ m, m = maskN (a, d) := ⟨_, rfl⟩
      have HMK : Hid (∀ W, Calls Tryz.prog 126 #[.agg #[.int .i64 a, .int .i64 d]] W fun e w' => e = .returned (.int .u64 (m : Nat)) ∧ Below W.heap.size W w') := fun W => by rw [hm]; exact fmask_any a d W hr
      rw [← hm] at hml
      have hand : bits .and .u64 (W : Int) (m : Int) = ((W &&& m : Nat) : Int) := u64_and_nat _ _ hW hml
      obtain ⟨z, hz⟩ : ∃ z, z = W &&& m := ⟨_, rfl⟩
      have hzd : ((z : Int) / 2 ^ a) = ((z / 2 ^ a : Nat) : Int) := div_val z a
      obtain ⟨y, hy⟩ : ∃ y, y = z / 2 ^ a := ⟨_, rfl⟩
      have hyv : y = W / 2 ^ a % 2 ^ d := by rw [hy, hz, hm]; exact and_mask hr
      rw [← hz] at hand
      rw [← hy] at hzd
      have HNX : Hid (us (unpackL W (fs.take k)) ++ [.int .u64 (y : Int)] = us (unpackL W (fs.take (k + 1)))) := by
        show _ = _
        rw [take_next HP.out, unpackL, unpackL, List.map_append, hyv]
        simp [us, uv]
      have ha : a < 64 := hr.1
      have k2 : (0 : Int) ≤ (a : Int) := by omega
      have hvlt := HV.out.lt
      have HBA : Hid (Below w.heap.size w (wr.alloc (.cells #[.int .i64 a, .int .i64 d] 212))) := HB.out.alloc HB.out.size _
      have HVA : Hid (OwnO (wr.alloc (.cells #[.int .i64 a, .int .i64 d] 212)) 1 u6 k (us (unpackL W (fs.take k)))) := HV.out.kept (fun q hq => Below.heap_alloc _ _ _ (hvlt q hq))
      obtain ⟨xb, hxb⟩ : ∃ xb, xb = wr.heap.size := ⟨_, rfl⟩
      have HXB : Hid ((wr.alloc (.cells #[.int .i64 a, .int .i64 d] 212)).heap[xb]? = some (.cells #[.int .i64 a, .int .i64 d] 212 (0, 0))) := by rw [hxb]; exact heap_alloc_new _ _
      have HXN : Hid (∀ q, u6.ownBlock = some q → q ≠ xb) := fun q hq e => by have := hvlt q hq; omega
      clear hr hm hml hz hy hyv HV
      go_wp2_with fail
      rw [← hxb]
      generalize wr.alloc (.cells #[.int .i64 a, .int .i64 d] 212) = wa at *
      clear hxb hvlt hc1 hc2
      have x0 := (cells_of_block HXB.out 0).1
      have x1 := (cells_of_block HXB.out 1).1
      simp at x0 x1
      obtain ⟨va, vc, rfl, -, -, -⟩ := HVA.out.seq
      refine wp_region_held_drew (S := fun W => W.cell? ⟨xb, 0, none⟩ = some (.int .i64 a) ∧ W.cell? ⟨xb, 1, none⟩ = some (.int .i64 d)) (by kernel_rfl) ⟨x0, x1⟩ (fun hH => ?_)
      refine Go.Tr.tz 0 (v := ?_) rfl ?_ ?_
      rotate_left
      · intro W hW
        go_simp
        try with_reducible rfl
      try simp only [Go.Tr.nz]
      refine Go.Tr.tz 1 (v := ?_) rfl ?_ ?_
      rotate_left
      · intro W hW
        go_simp
        try with_reducible rfl
      try simp only [Go.Tr.nz]
      refine Go.Tr.tz 2 (v := ?_) rfl ?_ ?_
      rotate_left
      · intro W hW
        go_simp
        try with_reducible rfl
      try simp only [Go.Tr.nz]
      refine Go.Tr.tz 5 (v := ?_) rfl ?_ ?_
      rotate_left
      · intro W hW
        go_simp
        try with_reducible rfl
      try simp only [Go.Tr.nz]
      refine Go.Tr.tz 6 (v := ?_) rfl ?_ ?_
      rotate_left
      · intro W hW
        go_simp
        try with_reducible rfl
      try simp only [Go.Tr.nz]
      refine wpAnyH_ready (rs := [3]) (by kernel_rfl) (by simp) (readyH rfl (fun K hK => ?_) AllReadyH.nil)
      rw [if_pos (by rfl)]
      go_simp
      refine (HMK.out _).mono ?_
      rintro e w2 ⟨rfl, hb2⟩
      have hk2 : w2.heap[xb]? = wa.heap[xb]? := hb2.block xb (Array.getElem?_eq_some_iff.1 HXB.out).1
      have y0 := (World.cell?_of_block (a := ⟨xb, 0, none⟩) hk2).trans x0
      have y1 := (World.cell?_of_block (a := ⟨xb, 1, none⟩) hk2).trans x1
      have HB2 : Hid (Below w.heap.size w w2) := by
        have h1 := HBA.out.size
        have h2 : Below wa.heap.size wa w2 := ⟨hb2.os, hb2.tape, hb2.output, hb2.size, hb2.block⟩
        exact HBA.out.trans (h2.mono h1)
      have HV2 : Hid (OwnO w2 1 (.slice va k vc) k (us (unpackL W (fs.take k)))) := HVA.out.kept (fun q hq => hb2.block q (HVA.out.lt q hq))
      clear hb2 hk2
      refine hK.out _ _ ⟨y0, y1⟩ (fun hH => ?_)
      clear hK K
      try simp only [Go.Tr.nz]
      refine Go.Tr.tz 4 (v := ?_) rfl ?_ ?_
      rotate_left
      · intro W hW
        go_simp
        try with_reducible rfl
      try simp only [Go.Tr.nz]
      refine Go.Tr.tz 7 (v := ?_) rfl ?_ ?_
      rotate_left
      · intro W hW
        go_simp
        try with_reducible rfl
      try simp only [Go.Tr.nz]
      refine wpAnyH_ready (rs := [8]) (by kernel_rfl) (by simp) (readyH rfl (fun K hK => ?_) AllReadyH.nil)
      rw [if_pos (by rfl)]
      go_simp
      have hxl2 : xb < w2.heap.size := World.block_lt_of_cell? w2 _ y0
      refine hK.out _ _ ⟨(World.cell?_alloc_lt _ _ _ hxl2).trans hH.1, (World.cell?_alloc_lt _ _ _ hxl2).trans hH.2⟩ (fun hH => ?_)
      clear hK K
      try simp only [Go.Tr.nz]
      refine wpAnyH_ready (rs := [9]) (by kernel_rfl) (by simp) (readyH rfl (fun K hK => ?_) AllReadyH.nil)
      rw [if_pos (by rfl)]
      refine wpO_appendO _ (.tmp 18) (.tmp 26) 35 rfl 34 i0 _ 1 8 Tryz.underlying35 hi hz0 hz1 hz2 rfl (by decide) (.slice va k vc) k (us (unpackL W (fs.take k))) rfl (HV2.out.kept ?hkept) ⟨w2.heap.size, 0, none⟩ 1 1 [.int .u64 (y : Int)] rfl rfl ?hn ?h1 ?h63 ?hby ?_
      case hkept => exact fun k hk => Below.heap_alloc _ _ _ (HV2.out.lt k hk)
      case hn =>
        intro j u hj
        rcases j with _ | j
        · simp at hj; subst hj; simp [Addr.add]
        · simp at hj
      case h1 => intro u hu; simp at hu; subst hu; rfl
      case h63 => unfold maxLen; omega
      case hby => omega
      intro v4 w4 r1 r2 r3
      rw [HNX.out] at r1
      have HV4 := Lib.hid r1
      have HB4 : Hid (Below w.heap.size w w4) := (HB2.out.alloc HB2.out.size _).grown r2 (by have := HB2.out.size; simp; omega) (fun q hq => HN.out q hq)
      have HN4 : Hid (∀ q, v4.ownBlock = some q → w.heap.size ≤ q) := fun q hq => by
        rcases r3 q hq with h' | h'
        · exact HN.out q h'
        · have h1 := h'.1
          have h2 := HB2.out.size
          simp at h1
          omega
      have hk4 : w4.heap[xb]? = w2.heap[xb]? := (r2.block xb (by simp; omega) (fun e => HXN.out xb e.symm rfl)).trans (Below.heap_alloc _ _ _ hxl2)
      have z0 := (World.cell?_of_block (a := ⟨xb, 0, none⟩) hk4).trans y0
      have z1 := (World.cell?_of_block (a := ⟨xb, 1, none⟩) hk4).trans y1
      clear r1 r2 r3 hk4
      refine hK.out _ _ ⟨z0, z1⟩ (fun hH => ?_)
      clear hK K
      try simp only [Go.Tr.nz]
      refine Go.Tr.tz 10 (v := ?_) rfl ?_ ?_
      rotate_left
      · intro W hW
        go_simp
        try with_reducible rfl
      try simp only [Go.Tr.nz]
      refine wpAnyH_done (by kernel_rfl) ?_ _
      go_wp2_with fail
      go_roundw
      case rel => exact ⟨k + 1, by omega, by go_num, HV4, HN4, HB4⟩
      case measure => simp [intOf]; omega
    · have hlt' : ¬ (k : Int) < (n : Int) := by omega
      have HV5 : Hid (OwnO wr 1 u6 n (us (unpackL W fs))) := by
        have hkn : k = n := by omega
        have := HV.out
        rw [List.take_of_length_le (by rw [HL.out]; omega), hkn] at this
        exact this
      go_wp2
      go_ret2
      exact ⟨_, rfl, HV5.out, HB.out⟩
end Go.Proofs.YtcdpnfchmpncjaaGreatDoor

namespace Go.Tr
open Go.RowKit
def hfs : List (Nat × Nat) := [(0, 16), (16, 16), (32, 8), (40, 16), (56, 8)]
def lfs : List (Nat × Nat) := [(0, 32), (32, 32)]
def hdrN (slot count layout : Nat) : Nat := slot + count * 2 ^ 16 + layout * 2 ^ 32 + 165 * 2 ^ 56
def linkN (idx gen : Nat) : Nat := (idx + 2) + gen * 2 ^ 32
theorem putN_add {v a d x : Nat} (h : RightF (a, d)) (hv : v < 2 ^ a) : putN v (a, d) x = v + x * 2 ^ a := by
  have ha : a < 64 := h.1
  have hml := maskN_lt h
  have h1 : v &&& (18446744073709551615 - maskN (a, d)) = v := by
    apply Nat.eq_of_testBit_eq
    intro i
    rw [Nat.testBit_and]
    by_cases hi : i < a
    · have h2 : (18446744073709551615 - maskN (a, d)).testBit i = true := by
        rw [show 18446744073709551615 - maskN (a, d) = 2 ^ 64 - (maskN (a, d) + 1) by omega, Nat.testBit_two_pow_sub_succ (by simpa using hml)]
        rw [maskN, Nat.testBit_mul_two_pow]
        simp; omega
      rw [h2, Bool.and_true]
    · have h2 : v.testBit i = false := Nat.testBit_lt_two_pow (Nat.lt_of_lt_of_le hv (Nat.pow_le_pow_right (by decide) (by omega)))
      rw [h2, Bool.false_and]
  rw [putN, h1, Nat.or_comm]
  show x * 2 ^ a ||| v = _
  rw [Nat.mul_comm, ← Nat.two_pow_add_eq_or_of_lt hv, Nat.add_comm]
theorem hdr_pack {slot count layout : Nat} (h1 : slot < 65536) (h2 : count < 65536) (h3 : layout < 256) : packN 0 hfs [slot, count, layout, 0, 165] = hdrN slot count layout := by
  show putN (putN (putN (putN (putN 0 (0, 16) slot) (16, 16) count) (32, 8) layout) (40, 16) 0) (56, 8) 165 = _
  have r : ∀ a d, a < 64 → 0 < d → d ≤ 64 - a → RightF (a, d) := fun a d h1 h2 h3 => ⟨h1, h2, h3⟩
  rw [putN_add (r 0 16 (by decide) (by decide) (by decide)) (by decide), putN_add (r 16 16 (by decide) (by decide) (by decide)) (by omega), putN_add (r 32 8 (by decide) (by decide) (by decide)) (by omega), putN_add (r 40 16 (by decide) (by decide) (by decide)) (by omega), putN_add (r 56 8 (by decide) (by decide) (by decide)) (by omega)]
  unfold hdrN
  omega
theorem hdr_unpack {slot count layout : Nat} (h1 : slot < 65536) (h2 : count < 65536) (h3 : layout < 256) : unpackL (hdrN slot count layout) hfs = [slot, count, layout, 0, 165] := by
  unfold hdrN
  simp only [unpackL, hfs, List.map_cons, List.map_nil]
  congr 1
  · omega
  congr 1
  · omega
  congr 1
  · omega
  congr 1
  · omega
  congr 1
  omega
theorem hdr_lt {slot count layout : Nat} (h1 : slot < 65536) (h2 : count < 65536) (h3 : layout < 256) : hdrN slot count layout < 18446744073709551616 := by unfold hdrN; omega
theorem link_pack {i g : Nat} (h1 : i < 4096) (h2 : g < 256) : packN 0 lfs [i + 2, g] = linkN i g := by
  show putN (putN 0 (0, 32) (i + 2)) (32, 32) g = _
  have r : ∀ a d, a < 64 → 0 < d → d ≤ 64 - a → RightF (a, d) := fun a d h1 h2 h3 => ⟨h1, h2, h3⟩
  rw [putN_add (r 0 32 (by decide) (by decide) (by decide)) (by decide), putN_add (r 32 32 (by decide) (by decide) (by decide)) (by omega)]
  unfold linkN
  omega
theorem link_unpack {i g : Nat} (h1 : i < 4096) (h2 : g < 256) : unpackL (linkN i g) lfs = [i + 2, g] := by
  unfold linkN
  simp only [unpackL, lfs, List.map_cons, List.map_nil]
  congr 1
  · omega
  congr 1
  omega
end Go.Tr
namespace Go.Proofs.YtcdpnfchmpncjaaGreatDoor
open Go.RowKit Go.Tr Go.Shelf
variable {w w' : World}
theorem hfs_ok : okL 0 hfs := by
  refine ⟨⟨by decide, by decide, by decide⟩, by decide, ⟨by decide, by decide, by decide⟩, by decide, ⟨by decide, by decide, by decide⟩, by decide, ⟨by decide, by decide, by decide⟩, by decide, ⟨by decide, by decide, by decide⟩, by decide, trivial⟩
theorem lfs_ok : okL 0 lfs := by
  refine ⟨⟨by decide, by decide, by decide⟩, by decide, ⟨by decide, by decide, by decide⟩, by decide, trivial⟩
set_option maxRecDepth 100000 in
theorem hfields_any (w : World) : Calls Tryz.prog 177 #[] w fun e w' => e = .returned (.slice (some ⟨w.heap.size, 0, none⟩) 5 5) ∧ w' = w.alloc (.cells (pcells hfs).toArray 212) := by
  go_enter Tryz.func177, Tryz.ntmps177
  go_wp2
  go_ret
  exact ⟨rfl, rfl⟩
set_option maxRecDepth 100000 in
theorem hlinks_any (w : World) : Calls Tryz.prog 184 #[] w fun e w' => e = .returned (.slice (some ⟨w.heap.size, 0, none⟩) 2 2) ∧ w' = w.alloc (.cells (pcells lfs).toArray 212) := by
  go_enter Tryz.func184, Tryz.ntmps184
  go_wp2
  go_ret
  exact ⟨rfl, rfl⟩
set_option maxRecDepth 100000 in
theorem hmay_any (layout count slot : Nat) (w : World) (h1 : 1 ≤ layout) (h2 : layout ≤ 64) (h3 : count ≤ 1024) (h4 : slot < 4096) : Calls Tryz.prog 175 #[.agg #[.int .i64 layout, .int .i64 count, .int .i64 slot]] w fun e w' => e = .returned (.bool true) ∧ Below w.heap.size w w' := by
  have k1 : (1 : Int) ≤ (layout : Int) := by omega
  have k2 : (layout : Int) ≤ 64 := by omega
  have k3 : (0 : Int) ≤ (count : Int) := by omega
  have k4 : (count : Int) ≤ 1024 := by omega
  have k5 : (0 : Int) ≤ (slot : Int) := by omega
  have k6 : (slot : Int) < 4096 := by omega
  go_enter Tryz.func175, Tryz.ntmps175
  go_wp2
  go_ret
  exact ⟨rfl, (Below.refl _ w).alloc (Nat.le_refl _) _⟩
set_option maxRecDepth 100000 in
theorem halive_any (idx gen : Nat) (w : World) (h1 : idx < 4096) (h2 : 1 ≤ gen) (h3 : gen ≤ 255) : Calls Tryz.prog 183 #[.agg #[.int .i64 idx, .int .i64 gen]] w fun e w' => e = .returned (.bool true) ∧ Below w.heap.size w w' := by
  have k1 : (0 : Int) ≤ (idx : Int) := by omega
  have k2 : (idx : Int) < 4096 := by omega
  have k3 : (1 : Int) ≤ (gen : Int) := by omega
  have k4 : (gen : Int) ≤ 255 := by omega
  go_enter Tryz.func183, Tryz.ntmps183
  go_wp2
  go_ret
  exact ⟨rfl, (Below.refl _ w).alloc (Nat.le_refl _) _⟩
end Go.Proofs.YtcdpnfchmpncjaaGreatDoor

namespace Go.Tr
open Go.RowKit
theorem SeqAt.of_block {w : World} {b : Nat} {cs : List Value} {T : TypeId} (h : w.heap[b]? = some (.cells cs.toArray T (0, 0))) : SeqAt w (some ⟨b, 0, none⟩) cs := fun _ => ⟨b, 0, rfl, fun j hj => by
  rw [Nat.zero_add, cell_of_row w b j _ _ (0, 0) h, List.getElem?_toArray]
  simp [List.getD, List.getElem?_eq_getElem hj]⟩
end Go.Tr
namespace Go.Proofs.YtcdpnfchmpncjaaGreatDoor
open Go.RowKit Go.Tr Go.Shelf
variable {w w' : World}
theorem hpack_any {slot count layout : Nat} (h1 : 1 ≤ layout) (h2 : layout ≤ 64) (h3 : count ≤ 1024) (h4 : slot < 4096) (fb ub : Nat) (W : World) (hf : W.heap[fb]? = some (.cells (pcells hfs).toArray 212 (0, 0))) (hu : W.heap[ub]? = some (.cells #[.int .u64 slot, .int .u64 count, .int .u64 layout, .int .u64 0, .int .u64 165] 34 (0, 0))) :
    Calls Tryz.prog 176 #[.slice (some ⟨fb, 0, none⟩) 5 5, .slice (some ⟨ub, 0, none⟩) 5 5] W fun e w' => e = .returned (.tuple #[.int .u64 (hdrN slot count layout : Nat), .int .i64 0]) ∧ Below W.heap.size W w' := by
  have := fpack_any hfs [slot, count, layout, 0, 165] (some ⟨fb, 0, none⟩) (some ⟨ub, 0, none⟩) 5 5 5 W (SeqAt.of_block hf) (SeqAt.of_block (T := 34) hu) rfl rfl (by decide) hfs_ok (fun k f x hk hx => by
    rcases k with _ | _ | _ | _ | _ | k
    · simp [hfs] at hk hx; subst hk hx; simp only; omega
    · simp [hfs] at hk hx; subst hk hx; simp only; omega
    · simp [hfs] at hk hx; subst hk hx; simp only; omega
    · simp [hfs] at hk hx; subst hk hx; decide
    · simp [hfs] at hk hx; subst hk hx; decide
    · simp [hfs] at hk)
  rw [hdr_pack (by omega) (by omega) (by omega)] at this
  exact this
set_option maxRecDepth 100000 in
theorem hencode_any (layout count slot : Nat) (w : World) (h1 : 1 ≤ layout) (h2 : layout ≤ 64) (h3 : count ≤ 1024) (h4 : slot < 4096) : Calls Tryz.prog 133 #[.agg #[.int .i64 layout, .int .i64 count, .int .i64 slot]] w fun e w' => e = .returned (.tuple #[.int .u64 (hdrN slot count layout : Nat), .int .i64 0]) ∧ Below w.heap.size w w' := by
  have hw1 : IntKind.u64.wrap (slot : Int) = (slot : Int) := by rw [IntWalk.u64_in _ (by omega)]
  have hw2 : IntKind.u64.wrap (count : Int) = (count : Int) := by rw [IntWalk.u64_in _ (by omega)]
  have hw3 : IntKind.u64.wrap (layout : Int) = (layout : Int) := by rw [IntWalk.u64_in _ (by omega)]
  have HMAY := Lib.hid (hmay_any layout count slot · h1 h2 h3 h4)
  have HPK := Lib.hid (@hpack_any slot count layout h1 h2 h3 h4)
  go_enter Tryz.func133, Tryz.ntmps133
  go_wp2_with fail
  have HBA : Hid (Below w.heap.size w (w.alloc (.cells #[.int .i64 layout, .int .i64 count, .int .i64 slot] 128))) := (Below.refl _ w).alloc (Nat.le_refl _) _
  obtain ⟨xb, hxb⟩ : ∃ xb, xb = w.heap.size := ⟨_, rfl⟩
  have HXB : Hid ((w.alloc (.cells #[.int .i64 layout, .int .i64 count, .int .i64 slot] 128)).heap[xb]? = some (.cells #[.int .i64 layout, .int .i64 count, .int .i64 slot] 128 (0, 0))) := by rw [hxb]; exact heap_alloc_new _ _
  rw [← hxb]
  rw [← hxb] at HBA
  generalize w.alloc (.cells #[.int .i64 layout, .int .i64 count, .int .i64 slot] 128) = wa at *
  refine (HMAY.out wa).mono ?_
  rintro e w1 ⟨rfl, hb1⟩
  have hxl := (Array.getElem?_eq_some_iff.1 HXB.out).1
  have HB1 : Hid (Below w.heap.size w w1) := by rw [← hxb]; exact HBA.out.trans (hb1.mono (by omega))
  have HX1 := Lib.hid ((hb1.block xb hxl).trans HXB.out)
  have x0 := (cells_of_block HX1.out 0).1
  have x1 := (cells_of_block HX1.out 1).1
  have x2 := (cells_of_block HX1.out 2).1
  simp at x0 x1 x2
  clear hb1 hxl hxb
  go_wp2_with fail
  refine wp_region_held_drew (S := fun W => W.cell? ⟨xb, 0, none⟩ = some (.int .i64 layout) ∧ W.cell? ⟨xb, 1, none⟩ = some (.int .i64 count) ∧ W.cell? ⟨xb, 2, none⟩ = some (.int .i64 slot)) (by kernel_rfl) ⟨x0, x1, x2⟩ (fun hH => ?_)
  refine Go.Tr.tz 1 (v := ?_) rfl ?_ ?_
  rotate_left
  · intro W hW
    go_simp
    try with_reducible rfl
  try simp only [Go.Tr.nz]
  refine Go.Tr.tz 2 (v := ?_) rfl ?_ ?_
  rotate_left
  · intro W hW
    go_simp
    try with_reducible rfl
  try simp only [Go.Tr.nz]
  refine Go.Tr.tz 3 (v := ?_) rfl ?_ ?_
  rotate_left
  · intro W hW
    go_simp
    try with_reducible rfl
  try simp only [Go.Tr.nz]
  refine Go.Tr.tz 4 (v := ?_) rfl ?_ ?_
  rotate_left
  · intro W hW
    go_simp
    try with_reducible rfl
  try simp only [Go.Tr.nz]
  refine Go.Tr.tz 5 (v := ?_) rfl ?_ ?_
  rotate_left
  · intro W hW
    go_simp
    try with_reducible rfl
  try simp only [Go.Tr.nz]
  refine Go.Tr.tz 6 (v := ?_) rfl ?_ ?_
  rotate_left
  · intro W hW
    go_simp
    try with_reducible rfl
  try simp only [Go.Tr.nz]
  refine Go.Tr.tz 7 (v := ?_) rfl ?_ ?_
  rotate_left
  · intro W hW
    go_simp
    try with_reducible rfl
  try simp only [Go.Tr.nz]
  refine Go.Tr.tz 8 (v := ?_) rfl ?_ ?_
  rotate_left
  · intro W hW
    go_simp
    try with_reducible rfl
  try simp only [Go.Tr.nz]
  refine Go.Tr.tz 9 (v := ?_) rfl ?_ ?_
  rotate_left
  · intro W hW
    go_simp
    try with_reducible rfl
  try simp only [Go.Tr.nz]
  have hxl1 : xb < w1.heap.size := (Array.getElem?_eq_some_iff.1 HX1.out).1
  refine wpAnyH_ready (rs := [0, 10]) (by kernel_rfl) (by simp) (readyH rfl (fun K hK => ?_) (readyH rfl (fun K hK => ?_) AllReadyH.nil))
  · rw [if_pos (by rfl)]
    go_simp
    refine (hfields_any _).mono ?_
    rintro e w2 ⟨rfl, rfl⟩
    have hx2 : (w1.drew.alloc (.cells (pcells hfs).toArray 212)).heap[xb]? = w1.heap[xb]? := Below.heap_alloc _ _ _ hxl1
    refine hK.out _ _ ⟨(World.cell?_of_block (a := ⟨xb, 0, none⟩) hx2).trans x0, (World.cell?_of_block (a := ⟨xb, 1, none⟩) hx2).trans x1, (World.cell?_of_block (a := ⟨xb, 2, none⟩) hx2).trans x2⟩ (fun hH => ?_)
    clear hK K
    try simp only [Go.Tr.nz]
    refine wpAnyH_ready (rs := [10]) (by kernel_rfl) (by simp) (readyH rfl (fun K hK => ?_) AllReadyH.nil)
    rw [if_pos (by rfl)]
    go_simp
    have hx3 : ((w1.alloc (.cells (pcells hfs).toArray 212)).alloc (.cells #[.int .u64 slot, .int .u64 count, .int .u64 layout, .int .u64 0, .int .u64 165] 34)).heap[xb]? = w1.heap[xb]? := (Below.heap_alloc _ _ _ (by simp; omega)).trans hx2
    have HB3 : Hid (Below w.heap.size w (((w1.alloc (.cells (pcells hfs).toArray 212)).alloc (.cells #[.int .u64 slot, .int .u64 count, .int .u64 layout, .int .u64 0, .int .u64 165] 34)).drew)) := ((HB1.out.alloc HB1.out.size _).alloc (by have := HB1.out.size; simp; omega) _).drew
    refine hK.out _ _ ⟨(World.cell?_of_block (a := ⟨xb, 0, none⟩) hx3).trans x0, (World.cell?_of_block (a := ⟨xb, 1, none⟩) hx3).trans x1, (World.cell?_of_block (a := ⟨xb, 2, none⟩) hx3).trans x2⟩ (fun hH => ?_)
    clear hK K
    try simp only [Go.Tr.nz]
    refine wpAnyH_ready (rs := [11]) (by kernel_rfl) (by simp) (readyH rfl (fun K hK => ?_) AllReadyH.nil)
    rw [if_pos (by rfl)]
    go_simp
    refine (HPK.out w1.heap.size (w1.heap.size + 1) _ ?hf ?hu).mono ?_
    case hf => exact (Below.heap_alloc (w1.alloc _) _ _ (by simp)).trans (heap_alloc_new w1 _)
    case hu => exact heap_alloc2_new w1 _ _
    rintro e w4 ⟨rfl, hb4⟩
    have HB4 : Hid (Below w.heap.size w w4) := HB3.out.trans (hb4.mono HB3.out.size)
    have hx4 : w4.heap[xb]? = w1.heap[xb]? := (hb4.block xb (by simp; omega)).trans hx3
    clear hb4
    refine hK.out _ _ ⟨(World.cell?_of_block (a := ⟨xb, 0, none⟩) hx4).trans x0, (World.cell?_of_block (a := ⟨xb, 1, none⟩) hx4).trans x1, (World.cell?_of_block (a := ⟨xb, 2, none⟩) hx4).trans x2⟩ (fun hH => ?_)
    clear hK K
    try simp only [Go.Tr.nz]
    refine Go.Tr.tz 12 (v := ?_) rfl ?_ ?_
    rotate_left
    · intro W hW
      go_simp
      try with_reducible rfl
    try simp only [Go.Tr.nz]
    refine Go.Tr.tz 13 (v := ?_) rfl ?_ ?_
    rotate_left
    · intro W hW
      go_simp
      try with_reducible rfl
    try simp only [Go.Tr.nz]
    refine Go.Tr.tz 14 (v := ?_) rfl ?_ ?_
    rotate_left
    · intro W hW
      go_simp
      try with_reducible rfl
    try simp only [Go.Tr.nz]
    refine Go.Tr.tz 15 (v := ?_) rfl ?_ ?_
    rotate_left
    · intro W hW
      go_simp
      try with_reducible rfl
    try simp only [Go.Tr.nz]
    refine wpAnyH_done (by kernel_rfl) ?_ _
    go_wp2_with fail
    go_ret2
    exact ⟨rfl, HB4.out⟩
  · rw [if_pos (by rfl)]
    go_simp
    have hx2 : (w1.alloc (.cells #[.int .u64 slot, .int .u64 count, .int .u64 layout, .int .u64 0, .int .u64 165] 34)).heap[xb]? = w1.heap[xb]? := Below.heap_alloc _ _ _ hxl1
    refine hK.out _ _ ⟨(World.cell?_of_block (a := ⟨xb, 0, none⟩) hx2).trans x0, (World.cell?_of_block (a := ⟨xb, 1, none⟩) hx2).trans x1, (World.cell?_of_block (a := ⟨xb, 2, none⟩) hx2).trans x2⟩ (fun hH => ?_)
    clear hK K
    try simp only [Go.Tr.nz]
    refine wpAnyH_ready (rs := [0]) (by kernel_rfl) (by simp) (readyH rfl (fun K hK => ?_) AllReadyH.nil)
    rw [if_pos (by rfl)]
    go_simp
    refine (hfields_any _).mono ?_
    rintro e w2 ⟨rfl, rfl⟩
    have hx3 : ((w1.alloc (.cells #[.int .u64 slot, .int .u64 count, .int .u64 layout, .int .u64 0, .int .u64 165] 34)).drew.alloc (.cells (pcells hfs).toArray 212)).heap[xb]? = w1.heap[xb]? := (Below.heap_alloc _ _ _ (by simp; omega)).trans hx2
    have HB3 : Hid (Below w.heap.size w ((w1.alloc (.cells #[.int .u64 slot, .int .u64 count, .int .u64 layout, .int .u64 0, .int .u64 165] 34)).drew.alloc (.cells (pcells hfs).toArray 212))) := ((HB1.out.alloc HB1.out.size _).drew.alloc (by have := HB1.out.size; simp; omega) _)
    refine hK.out _ _ ⟨(World.cell?_of_block (a := ⟨xb, 0, none⟩) hx3).trans x0, (World.cell?_of_block (a := ⟨xb, 1, none⟩) hx3).trans x1, (World.cell?_of_block (a := ⟨xb, 2, none⟩) hx3).trans x2⟩ (fun hH => ?_)
    clear hK K
    try simp only [Go.Tr.nz]
    refine wpAnyH_ready (rs := [11]) (by kernel_rfl) (by simp) (readyH rfl (fun K hK => ?_) AllReadyH.nil)
    rw [if_pos (by rfl)]
    go_simp
    refine (HPK.out (w1.heap.size + 1) w1.heap.size _ ?hf ?hu).mono ?_
    case hf => exact heap_alloc2_new w1 _ _
    case hu => exact (Below.heap_alloc (w1.alloc _) _ _ (by simp)).trans (heap_alloc_new w1 _)
    rintro e w4 ⟨rfl, hb4⟩
    have HB4 : Hid (Below w.heap.size w w4) := HB3.out.trans (hb4.mono HB3.out.size)
    have hx4 : w4.heap[xb]? = w1.heap[xb]? := (hb4.block xb (by simp; omega)).trans hx3
    clear hb4
    refine hK.out _ _ ⟨(World.cell?_of_block (a := ⟨xb, 0, none⟩) hx4).trans x0, (World.cell?_of_block (a := ⟨xb, 1, none⟩) hx4).trans x1, (World.cell?_of_block (a := ⟨xb, 2, none⟩) hx4).trans x2⟩ (fun hH => ?_)
    clear hK K
    try simp only [Go.Tr.nz]
    refine Go.Tr.tz 12 (v := ?_) rfl ?_ ?_
    rotate_left
    · intro W hW
      go_simp
      try with_reducible rfl
    try simp only [Go.Tr.nz]
    refine Go.Tr.tz 13 (v := ?_) rfl ?_ ?_
    rotate_left
    · intro W hW
      go_simp
      try with_reducible rfl
    try simp only [Go.Tr.nz]
    refine Go.Tr.tz 14 (v := ?_) rfl ?_ ?_
    rotate_left
    · intro W hW
      go_simp
      try with_reducible rfl
    try simp only [Go.Tr.nz]
    refine Go.Tr.tz 15 (v := ?_) rfl ?_ ?_
    rotate_left
    · intro W hW
      go_simp
      try with_reducible rfl
    try simp only [Go.Tr.nz]
    refine wpAnyH_done (by kernel_rfl) ?_ _
    go_wp2_with fail
    go_ret2
    exact ⟨rfl, HB4.out⟩
end Go.Proofs.YtcdpnfchmpncjaaGreatDoor

namespace Go.Proofs.YtcdpnfchmpncjaaGreatDoor
open Go.RowKit Go.Tr Go.Shelf
variable {w w' : World}
set_option maxRecDepth 100000 in
theorem hdecode_any (layout count slot : Nat) (w : World) (h1 : 1 ≤ layout) (h2 : layout ≤ 64) (h3 : count ≤ 1024) (h4 : slot < 4096) : Calls Tryz.prog 157 #[.int .u64 (hdrN slot count layout : Nat)] w fun e w' => e = .returned (.tuple #[.agg #[.int .i64 layout, .int .i64 count, .int .i64 slot], .int .i64 0]) ∧ Below w.heap.size w w' := by
  have HMAY := Lib.hid (hmay_any layout count slot · h1 h2 h3 h4)
  have HUN : Hid (∀ (fb : Nat) (W : World), W.heap[fb]? = some (.cells (pcells hfs).toArray 212 (0, 0)) → Calls Tryz.prog 79 #[.int .u64 (hdrN slot count layout : Nat), .slice (some ⟨fb, 0, none⟩) 5 5] W fun e w' => ∃ v, e = .returned (.tuple #[v, .int .i64 0]) ∧ OwnO w' 1 v 5 (us [slot, count, layout, 0, 165]) ∧ Below W.heap.size W w') := fun fb W hf => by
    have := funpack_any (hdrN slot count layout) hfs (some ⟨fb, 0, none⟩) 5 5 W (hdr_lt (by omega) (by omega) (by omega)) (SeqAt.of_block hf) rfl (by decide) hfs_ok
    rw [hdr_unpack (by omega) (by omega) (by omega)] at this
    exact this
  have hw1 : IntKind.i64.wrap (slot : Int) = (slot : Int) := by rw [IntWalk.i64_in _ (by omega)]
  have hw2 : IntKind.i64.wrap (count : Int) = (count : Int) := by rw [IntWalk.i64_in _ (by omega)]
  have hw3 : IntKind.i64.wrap (layout : Int) = (layout : Int) := by rw [IntWalk.i64_in _ (by omega)]
  obtain ⟨WN, hWN⟩ : ∃ WN, WN = hdrN slot count layout := ⟨_, rfl⟩
  rw [← hWN] at HUN ⊢
  clear hWN
  go_enter Tryz.func157, Tryz.ntmps157
  go_wp2_with fail
  have HBA : Hid (Below w.heap.size w (w.alloc (.cells #[.int .i64 0, .int .i64 0, .int .i64 0] 128))) := (Below.refl _ w).alloc (Nat.le_refl _) _
  obtain ⟨rb, hrb⟩ : ∃ rb, rb = w.heap.size := ⟨_, rfl⟩
  have HRB : Hid ((w.alloc (.cells #[.int .i64 0, .int .i64 0, .int .i64 0] 128)).heap[rb]? = some (.cells #[.int .i64 0, .int .i64 0, .int .i64 0] 128 (0, 0))) := by rw [hrb]; exact heap_alloc_new _ _
  rw [← hrb]
  have HRE : Hid (rb = w.heap.size) := hrb
  generalize w.alloc (.cells #[.int .i64 0, .int .i64 0, .int .i64 0] 128) = wa at *
  clear hrb
  refine (hfields_any wa).mono ?_
  rintro e w1 ⟨rfl, rfl⟩
  go_wp2_with fail
  refine (HUN.out _ _ (heap_alloc_new wa _)).mono ?_
  rintro e w2 ⟨v, rfl, hown, hb2⟩
  have hrl : rb < wa.heap.size := (Array.getElem?_eq_some_iff.1 HRB.out).1
  have HB2 : Hid (Below w.heap.size w w2) := (HBA.out.alloc HBA.out.size _).trans (hb2.mono (by have := HBA.out.size; simp; omega))
  have HR2 := Lib.hid ((hb2.block rb (by simp; omega)).trans ((Below.heap_alloc wa _ rb hrl).trans HRB.out))
  obtain ⟨va, vc, rfl, hsq, -, -⟩ := hown.seq
  obtain ⟨b, off, rfl, hc⟩ := hsq (by simp [us])
  have c0 := hc 0 (by simp [us])
  have c1 := hc 1 (by simp [us])
  have c2 := hc 2 (by simp [us])
  have c3 := hc 3 (by simp [us])
  have c4 := hc 4 (by simp [us])
  simp [us, uv] at c0 c1 c2 c3 c4
  clear hown hb2 hsq hc
  go_wp2_with fail
  refine wp_region_lastH (S := fun W => W.cell? ⟨b, off, none⟩ = some (.int .u64 slot) ∧ W.cell? ⟨b, off + 1, none⟩ = some (.int .u64 count) ∧ W.cell? ⟨b, off + 2, none⟩ = some (.int .u64 layout)) 14 (by kernel_rfl) (by kernel_rfl) ⟨c0, c1, c2⟩ (fun hH => ?_)
  simp only [lastOps, nop, List.modify_toArray, List.modify_succ_cons, List.modify_zero_cons]
  refine Go.Tr.tz 0 (v := ?_) rfl ?_ ?_
  rotate_left
  · intro W hW
    go_simp
    try with_reducible rfl
  try simp only [Go.Tr.nz]
  refine Go.Tr.tz 1 (v := ?_) rfl ?_ ?_
  rotate_left
  · intro W hW
    go_simp
    try with_reducible rfl
  try simp only [Go.Tr.nz]
  refine Go.Tr.tz 2 (v := ?_) rfl ?_ ?_
  rotate_left
  · intro W hW
    go_simp
    try with_reducible rfl
  try simp only [Go.Tr.nz]
  refine Go.Tr.tz 3 (v := ?_) rfl ?_ ?_
  rotate_left
  · intro W hW
    go_simp
    try with_reducible rfl
  try simp only [Go.Tr.nz]
  refine Go.Tr.tz 4 (v := ?_) rfl ?_ ?_
  rotate_left
  · intro W hW
    go_simp
    try with_reducible rfl
  try simp only [Go.Tr.nz]
  refine Go.Tr.tz 5 (v := ?_) rfl ?_ ?_
  rotate_left
  · intro W hW
    go_simp
    try with_reducible rfl
  try simp only [Go.Tr.nz]
  refine Go.Tr.tz 6 (v := ?_) rfl ?_ ?_
  rotate_left
  · intro W hW
    go_simp
    try with_reducible rfl
  try simp only [Go.Tr.nz]
  refine Go.Tr.tz 7 (v := ?_) rfl ?_ ?_
  rotate_left
  · intro W hW
    go_simp
    try with_reducible rfl
  try simp only [Go.Tr.nz]
  refine Go.Tr.tz 8 (v := ?_) rfl ?_ ?_
  rotate_left
  · intro W hW
    go_simp
    try with_reducible rfl
  try simp only [Go.Tr.nz]
  refine Go.Tr.tz 9 (v := ?_) rfl ?_ ?_
  rotate_left
  · intro W hW
    go_simp
    try with_reducible rfl
  try simp only [Go.Tr.nz]
  refine Go.Tr.tz 10 (v := ?_) rfl ?_ ?_
  rotate_left
  · intro W hW
    go_simp
    try with_reducible rfl
  try simp only [Go.Tr.nz]
  refine Go.Tr.tz 11 (v := ?_) rfl ?_ ?_
  rotate_left
  · intro W hW
    go_simp
    try with_reducible rfl
  try simp only [Go.Tr.nz]
  refine Go.Tr.tz 12 (v := ?_) rfl ?_ ?_
  rotate_left
  · intro W hW
    go_simp
    try with_reducible rfl
  try simp only [Go.Tr.nz]
  refine wpAnyH_ready (rs := [13]) (by kernel_rfl) (by simp) (readyH rfl (fun K hK => ?_) AllReadyH.nil)
  rw [if_pos (by rfl)]
  go_simp
  have hbl : b < w2.heap.size := World.block_lt_of_cell? w2 _ c0
  refine hK.out _ _ ⟨(World.cell?_alloc_lt _ _ _ hbl).trans hH.1, (World.cell?_alloc_lt _ _ _ hbl).trans hH.2.1, (World.cell?_alloc_lt _ _ _ hbl).trans hH.2.2⟩ (fun hH => ?_)
  clear hK K
  try simp only [Go.Tr.nz]
  refine Go.Tr.tz 14 (v := ?_) rfl ?_ ?_
  rotate_left
  · intro W hW
    go_simp
    try with_reducible rfl
  try simp only [Go.Tr.nz]
  refine lastH_done (by kernel_rfl) rfl (by rfl) ?_
  go_simp
  have HB3 : Hid (Below w.heap.size w (w2.alloc (.cells #[.int .i64 layout, .int .i64 count, .int .i64 slot] 128)).drew) := (HB2.out.alloc HB2.out.size _).drew
  obtain ⟨xb, hxb⟩ : ∃ xb, xb = w2.heap.size := ⟨_, rfl⟩
  have hrl2 : rb < w2.heap.size := (Array.getElem?_eq_some_iff.1 HR2.out).1
  have HX3 : Hid ((w2.alloc (.cells #[.int .i64 layout, .int .i64 count, .int .i64 slot] 128)).drew.heap[xb]? = some (.cells #[.int .i64 layout, .int .i64 count, .int .i64 slot] 128 (0, 0))) := by rw [hxb]; exact heap_alloc_new _ _
  have HR3 : Hid ((w2.alloc (.cells #[.int .i64 layout, .int .i64 count, .int .i64 slot] 128)).drew.heap[rb]? = some (.cells #[.int .i64 0, .int .i64 0, .int .i64 0] 128 (0, 0))) := (Below.heap_alloc _ _ _ hrl2).trans HR2.out
  have d3 : (w2.alloc (.cells #[.int .i64 layout, .int .i64 count, .int .i64 slot] 128)).drew.cell? ⟨b, off + 3, none⟩ = some (.int .u64 0) := (World.cell?_alloc_lt _ _ _ hbl).trans c3
  have d4 : (w2.alloc (.cells #[.int .i64 layout, .int .i64 count, .int .i64 slot] 128)).drew.cell? ⟨b, off + 4, none⟩ = some (.int .u64 165) := (World.cell?_alloc_lt _ _ _ hbl).trans c4
  rw [← hxb]
  generalize (w2.alloc (.cells #[.int .i64 layout, .int .i64 count, .int .i64 slot] 128)).drew = w3 at *
  have e0 := (cells_of_block HX3.out 0).1
  have e1 := (cells_of_block HX3.out 1).1
  have e2 := (cells_of_block HX3.out 2).1
  simp at e0 e1 e2
  clear hxb c0 c1 c2 c3 c4 hrl2 hbl hH
  go_wp2_with fail
  refine (HMAY.out w3).mono ?_
  rintro e w4 ⟨rfl, hb4⟩
  have HB4 : Hid (Below w.heap.size w w4) := HB3.out.trans (hb4.mono HB3.out.size)
  have HX4 := Lib.hid ((hb4.block xb (Array.getElem?_eq_some_iff.1 HX3.out).1).trans HX3.out)
  have HR4 := Lib.hid ((hb4.block rb (Array.getElem?_eq_some_iff.1 HR3.out).1).trans HR3.out)
  have f0 := (cells_of_block HX4.out 0).1
  have f1 := (cells_of_block HX4.out 1).1
  have f2 := (cells_of_block HX4.out 2).1
  simp at f0 f1 f2
  have r0 := cells_of_block HR4.out 0
  have r1 := cells_of_block HR4.out 1
  have r2 := cells_of_block HR4.out 2
  simp at r0 r1 r2
  obtain ⟨r0, g0⟩ := r0
  obtain ⟨r1, g1⟩ := r1
  obtain ⟨r2, g2⟩ := r2
  clear hb4 d3 d4 e0 e1 e2
  go_wp2_with fail
  try simp only [Exit.inBlock, Exit.then]
  have hbk : (((w4.setCell ⟨rb, 0, none⟩ (.int .i64 layout)).setCell ⟨rb, 1, none⟩ (.int .i64 count)).setCell ⟨rb, 2, none⟩ (.int .i64 slot)).heap[rb]? = some (.cells #[.int .i64 layout, .int .i64 count, .int .i64 slot] 128 (0, 0)) := by
    simpa using block_setCell (block_setCell (block_setCell HR4.out 0 (.int .i64 layout)) 1 (.int .i64 count)) 2 (.int .i64 slot)
  refine bodyPost_ret (results_blk rfl _ _ rb _ _ _ _ rfl hbk Tryz.underlying128 rfl rfl) rfl ⟨rfl, ?_⟩
  have e : w.heap.size ≤ rb := Nat.le_of_eq HRE.out.symm
  exact ((HB4.out.setCell e _).setCell e _).setCell e _
end Go.Proofs.YtcdpnfchmpncjaaGreatDoor

namespace Go.Proofs.YtcdpnfchmpncjaaGreatDoor
open Go.RowKit Go.Tr Go.Shelf
variable {w w' : World}
theorem lpack_any {idx gen : Nat} (h1 : idx < 4096) (h3 : gen ≤ 255) (fb ub : Nat) (W : World) (hf : W.heap[fb]? = some (.cells (pcells lfs).toArray 212 (0, 0))) (hu : W.heap[ub]? = some (.cells #[.int .u64 ((idx : Int) + 2), .int .u64 gen] 34 (0, 0))) :
    Calls Tryz.prog 176 #[.slice (some ⟨fb, 0, none⟩) 2 2, .slice (some ⟨ub, 0, none⟩) 2 2] W fun e w' => e = .returned (.tuple #[.int .u64 (linkN idx gen : Nat), .int .i64 0]) ∧ Below W.heap.size W w' := by
  have := fpack_any lfs [idx + 2, gen] (some ⟨fb, 0, none⟩) (some ⟨ub, 0, none⟩) 2 2 2 W (SeqAt.of_block hf) (SeqAt.of_block (T := 34) hu) rfl rfl (by decide) lfs_ok (fun k f x hk hx => by
    rcases k with _ | _ | k
    · simp [lfs] at hk hx; subst hk hx; simp only; omega
    · simp [lfs] at hk hx; subst hk hx; simp only; omega
    · simp [lfs] at hk)
  rw [link_pack h1 (by omega)] at this
  exact this
set_option maxRecDepth 100000 in
theorem hword_any (idx gen : Nat) (w : World) (h1 : idx < 4096) (h2 : 1 ≤ gen) (h3 : gen ≤ 255) : Calls Tryz.prog 140 #[.agg #[.int .i64 2, .int .i64 idx, .int .i64 gen]] w fun e w' => e = .returned (.tuple #[.int .u64 (linkN idx gen : Nat), .int .i64 0]) ∧ Below w.heap.size w w' := by
  have hw1 : IntKind.u64.wrap (idx : Int) = (idx : Int) := by rw [IntWalk.u64_in _ (by omega)]
  have hw2 : IntKind.u64.wrap (gen : Int) = (gen : Int) := by rw [IntWalk.u64_in _ (by omega)]
  have hw3 : IntKind.u64.wrap ((idx : Int) + 2) = (idx : Int) + 2 := by rw [IntWalk.u64_in _ (by omega)]
  have HAL := Lib.hid (halive_any idx gen · h1 h2 h3)
  have HPK := Lib.hid (@lpack_any idx gen h1 h3)
  go_enter Tryz.func140, Tryz.ntmps140
  go_wp2_with fail
  have HBA : Hid (Below w.heap.size w (w.alloc (.cells #[.int .i64 2, .int .i64 idx, .int .i64 gen] 69))) := (Below.refl _ w).alloc (Nat.le_refl _) _
  obtain ⟨xb, hxb⟩ : ∃ xb, xb = w.heap.size := ⟨_, rfl⟩
  have HXB : Hid ((w.alloc (.cells #[.int .i64 2, .int .i64 idx, .int .i64 gen] 69)).heap[xb]? = some (.cells #[.int .i64 2, .int .i64 idx, .int .i64 gen] 69 (0, 0))) := by rw [hxb]; exact heap_alloc_new _ _
  rw [← hxb]
  rw [← hxb] at HBA
  generalize w.alloc (.cells #[.int .i64 2, .int .i64 idx, .int .i64 gen] 69) = wa at *
  refine (HAL.out wa).mono ?_
  rintro e w1 ⟨rfl, hb1⟩
  have hxl := (Array.getElem?_eq_some_iff.1 HXB.out).1
  have HB1 : Hid (Below w.heap.size w w1) := by rw [← hxb]; exact HBA.out.trans (hb1.mono (by omega))
  have HX1 := Lib.hid ((hb1.block xb hxl).trans HXB.out)
  have x0 := (cells_of_block HX1.out 0).1
  have x1 := (cells_of_block HX1.out 1).1
  have x2 := (cells_of_block HX1.out 2).1
  simp at x0 x1 x2
  clear hb1 hxl hxb
  go_wp2_with fail
  refine wp_region_held_drew (S := fun W => W.cell? ⟨xb, 0, none⟩ = some (.int .i64 2) ∧ W.cell? ⟨xb, 1, none⟩ = some (.int .i64 idx) ∧ W.cell? ⟨xb, 2, none⟩ = some (.int .i64 gen)) (by kernel_rfl) ⟨x0, x1, x2⟩ (fun hH => ?_)
  refine Go.Tr.tz 1 (v := ?_) rfl ?_ ?_
  rotate_left
  · intro W hW
    go_simp
    try with_reducible rfl
  try simp only [Go.Tr.nz]
  refine Go.Tr.tz 2 (v := ?_) rfl ?_ ?_
  rotate_left
  · intro W hW
    go_simp
    try with_reducible rfl
  try simp only [Go.Tr.nz]
  refine Go.Tr.tz 3 (v := ?_) rfl ?_ ?_
  rotate_left
  · intro W hW
    go_simp
    try with_reducible rfl
  try simp only [Go.Tr.nz]
  refine Go.Tr.tz 4 (v := ?_) rfl ?_ ?_
  rotate_left
  · intro W hW
    go_simp
    try with_reducible rfl
  try simp only [Go.Tr.nz]
  refine Go.Tr.tz 5 (v := ?_) rfl ?_ ?_
  rotate_left
  · intro W hW
    go_simp
    try with_reducible rfl
  try simp only [Go.Tr.nz]
  refine Go.Tr.tz 6 (v := ?_) rfl ?_ ?_
  rotate_left
  · intro W hW
    go_simp
    try with_reducible rfl
  try simp only [Go.Tr.nz]
  refine Go.Tr.tz 7 (v := ?_) rfl ?_ ?_
  rotate_left
  · intro W hW
    go_simp
    try with_reducible rfl
  try simp only [Go.Tr.nz]
  refine Go.Tr.tz 8 (v := ?_) rfl ?_ ?_
  rotate_left
  · intro W hW
    go_simp
    try with_reducible rfl
  try simp only [Go.Tr.nz]
  refine Go.Tr.tz 9 (v := ?_) rfl ?_ ?_
  rotate_left
  · intro W hW
    go_simp
    try with_reducible rfl
  try simp only [Go.Tr.nz]
  have hxl1 : xb < w1.heap.size := (Array.getElem?_eq_some_iff.1 HX1.out).1
  refine wpAnyH_ready (rs := [0, 10]) (by kernel_rfl) (by simp) (readyH rfl (fun K hK => ?_) (readyH rfl (fun K hK => ?_) AllReadyH.nil))
  · rw [if_pos (by rfl)]
    go_simp
    refine (hlinks_any _).mono ?_
    rintro e w2 ⟨rfl, rfl⟩
    have hx2 : (w1.drew.alloc (.cells (pcells lfs).toArray 212)).heap[xb]? = w1.heap[xb]? := Below.heap_alloc _ _ _ hxl1
    refine hK.out _ _ ⟨(World.cell?_of_block (a := ⟨xb, 0, none⟩) hx2).trans x0, (World.cell?_of_block (a := ⟨xb, 1, none⟩) hx2).trans x1, (World.cell?_of_block (a := ⟨xb, 2, none⟩) hx2).trans x2⟩ (fun hH => ?_)
    clear hK K
    try simp only [Go.Tr.nz]
    refine wpAnyH_ready (rs := [10]) (by kernel_rfl) (by simp) (readyH rfl (fun K hK => ?_) AllReadyH.nil)
    rw [if_pos (by rfl)]
    go_simp
    have hx3 : ((w1.alloc (.cells (pcells lfs).toArray 212)).alloc (.cells #[.int .u64 ((idx : Int) + 2), .int .u64 gen] 34)).heap[xb]? = w1.heap[xb]? := (Below.heap_alloc _ _ _ (by simp; omega)).trans hx2
    have HB3 : Hid (Below w.heap.size w (((w1.alloc (.cells (pcells lfs).toArray 212)).alloc (.cells #[.int .u64 ((idx : Int) + 2), .int .u64 gen] 34)).drew)) := ((HB1.out.alloc HB1.out.size _).alloc (by have := HB1.out.size; simp; omega) _).drew
    refine hK.out _ _ ⟨(World.cell?_of_block (a := ⟨xb, 0, none⟩) hx3).trans x0, (World.cell?_of_block (a := ⟨xb, 1, none⟩) hx3).trans x1, (World.cell?_of_block (a := ⟨xb, 2, none⟩) hx3).trans x2⟩ (fun hH => ?_)
    clear hK K
    try simp only [Go.Tr.nz]
    refine wpAnyH_ready (rs := [11]) (by kernel_rfl) (by simp) (readyH rfl (fun K hK => ?_) AllReadyH.nil)
    rw [if_pos (by rfl)]
    go_simp
    refine (HPK.out w1.heap.size (w1.heap.size + 1) _ ?hf ?hu).mono ?_
    case hf => exact (Below.heap_alloc (w1.alloc _) _ _ (by simp)).trans (heap_alloc_new w1 _)
    case hu => exact heap_alloc2_new w1 _ _
    rintro e w4 ⟨rfl, hb4⟩
    have HB4 : Hid (Below w.heap.size w w4) := HB3.out.trans (hb4.mono HB3.out.size)
    have hx4 : w4.heap[xb]? = w1.heap[xb]? := (hb4.block xb (by simp; omega)).trans hx3
    clear hb4
    refine hK.out _ _ ⟨(World.cell?_of_block (a := ⟨xb, 0, none⟩) hx4).trans x0, (World.cell?_of_block (a := ⟨xb, 1, none⟩) hx4).trans x1, (World.cell?_of_block (a := ⟨xb, 2, none⟩) hx4).trans x2⟩ (fun hH => ?_)
    clear hK K
    try simp only [Go.Tr.nz]
    refine Go.Tr.tz 12 (v := ?_) rfl ?_ ?_
    rotate_left
    · intro W hW
      go_simp
      try with_reducible rfl
    try simp only [Go.Tr.nz]
    refine Go.Tr.tz 13 (v := ?_) rfl ?_ ?_
    rotate_left
    · intro W hW
      go_simp
      try with_reducible rfl
    try simp only [Go.Tr.nz]
    refine Go.Tr.tz 14 (v := ?_) rfl ?_ ?_
    rotate_left
    · intro W hW
      go_simp
      try with_reducible rfl
    try simp only [Go.Tr.nz]
    refine Go.Tr.tz 15 (v := ?_) rfl ?_ ?_
    rotate_left
    · intro W hW
      go_simp
      try with_reducible rfl
    try simp only [Go.Tr.nz]
    refine wpAnyH_done (by kernel_rfl) ?_ _
    go_wp2_with fail
    go_ret2
    exact ⟨rfl, HB4.out⟩
  · rw [if_pos (by rfl)]
    go_simp
    have hx2 : (w1.alloc (.cells #[.int .u64 ((idx : Int) + 2), .int .u64 gen] 34)).heap[xb]? = w1.heap[xb]? := Below.heap_alloc _ _ _ hxl1
    refine hK.out _ _ ⟨(World.cell?_of_block (a := ⟨xb, 0, none⟩) hx2).trans x0, (World.cell?_of_block (a := ⟨xb, 1, none⟩) hx2).trans x1, (World.cell?_of_block (a := ⟨xb, 2, none⟩) hx2).trans x2⟩ (fun hH => ?_)
    clear hK K
    try simp only [Go.Tr.nz]
    refine wpAnyH_ready (rs := [0]) (by kernel_rfl) (by simp) (readyH rfl (fun K hK => ?_) AllReadyH.nil)
    rw [if_pos (by rfl)]
    go_simp
    refine (hlinks_any _).mono ?_
    rintro e w2 ⟨rfl, rfl⟩
    have hx3 : ((w1.alloc (.cells #[.int .u64 ((idx : Int) + 2), .int .u64 gen] 34)).drew.alloc (.cells (pcells lfs).toArray 212)).heap[xb]? = w1.heap[xb]? := (Below.heap_alloc _ _ _ (by simp; omega)).trans hx2
    have HB3 : Hid (Below w.heap.size w ((w1.alloc (.cells #[.int .u64 ((idx : Int) + 2), .int .u64 gen] 34)).drew.alloc (.cells (pcells lfs).toArray 212))) := ((HB1.out.alloc HB1.out.size _).drew.alloc (by have := HB1.out.size; simp; omega) _)
    refine hK.out _ _ ⟨(World.cell?_of_block (a := ⟨xb, 0, none⟩) hx3).trans x0, (World.cell?_of_block (a := ⟨xb, 1, none⟩) hx3).trans x1, (World.cell?_of_block (a := ⟨xb, 2, none⟩) hx3).trans x2⟩ (fun hH => ?_)
    clear hK K
    try simp only [Go.Tr.nz]
    refine wpAnyH_ready (rs := [11]) (by kernel_rfl) (by simp) (readyH rfl (fun K hK => ?_) AllReadyH.nil)
    rw [if_pos (by rfl)]
    go_simp
    refine (HPK.out (w1.heap.size + 1) w1.heap.size _ ?hf ?hu).mono ?_
    case hf => exact heap_alloc2_new w1 _ _
    case hu => exact (Below.heap_alloc (w1.alloc _) _ _ (by simp)).trans (heap_alloc_new w1 _)
    rintro e w4 ⟨rfl, hb4⟩
    have HB4 : Hid (Below w.heap.size w w4) := HB3.out.trans (hb4.mono HB3.out.size)
    have hx4 : w4.heap[xb]? = w1.heap[xb]? := (hb4.block xb (by simp; omega)).trans hx3
    clear hb4
    refine hK.out _ _ ⟨(World.cell?_of_block (a := ⟨xb, 0, none⟩) hx4).trans x0, (World.cell?_of_block (a := ⟨xb, 1, none⟩) hx4).trans x1, (World.cell?_of_block (a := ⟨xb, 2, none⟩) hx4).trans x2⟩ (fun hH => ?_)
    clear hK K
    try simp only [Go.Tr.nz]
    refine Go.Tr.tz 12 (v := ?_) rfl ?_ ?_
    rotate_left
    · intro W hW
      go_simp
      try with_reducible rfl
    try simp only [Go.Tr.nz]
    refine Go.Tr.tz 13 (v := ?_) rfl ?_ ?_
    rotate_left
    · intro W hW
      go_simp
      try with_reducible rfl
    try simp only [Go.Tr.nz]
    refine Go.Tr.tz 14 (v := ?_) rfl ?_ ?_
    rotate_left
    · intro W hW
      go_simp
      try with_reducible rfl
    try simp only [Go.Tr.nz]
    refine Go.Tr.tz 15 (v := ?_) rfl ?_ ?_
    rotate_left
    · intro W hW
      go_simp
      try with_reducible rfl
    try simp only [Go.Tr.nz]
    refine wpAnyH_done (by kernel_rfl) ?_ _
    go_wp2_with fail
    go_ret2
    exact ⟨rfl, HB4.out⟩
end Go.Proofs.YtcdpnfchmpncjaaGreatDoor

namespace Go.Proofs.YtcdpnfchmpncjaaGreatDoor
open Go.RowKit Go.Tr Go.Shelf
variable {w w' : World}
def _root_.Go.Tr.linkV (kind idx gen : Nat) : Value := .agg #[.int .i64 (kind : Nat), .int .i64 (idx : Nat), .int .i64 (gen : Nat)]
set_option maxRecDepth 100000 in
theorem hlink0_any (w : World) : Calls Tryz.prog 144 #[.int .u64 0] w fun e w' => e = .returned (.tuple #[linkV 0 0 0, .int .i64 0]) ∧ Below w.heap.size w w' := by
  go_enter Tryz.func144, Tryz.ntmps144
  go_wp2_with fail
  try simp only [Exit.inBlock, Exit.then]
  exact bodyPost_ret (results_blk rfl _ _ w.heap.size _ _ _ _ rfl (heap_alloc_new w _) Tryz.underlying69 rfl rfl) rfl ⟨rfl, (Below.refl _ w).alloc (Nat.le_refl _) _⟩
set_option maxRecDepth 100000 in
theorem hlink_any (idx gen : Nat) (w : World) (h1 : idx < 4096) (h2 : 1 ≤ gen) (h3 : gen ≤ 255) : Calls Tryz.prog 144 #[.int .u64 (linkN idx gen : Nat)] w fun e w' => e = .returned (.tuple #[linkV 2 idx gen, .int .i64 0]) ∧ Below w.heap.size w w' := by
  have HAL := Lib.hid (halive_any idx gen · h1 h2 h3)
  have hlt : linkN idx gen < 18446744073709551616 := by unfold linkN; omega
  have hge : 2 ≤ linkN idx gen := by unfold linkN; omega
  have HUN : Hid (∀ (fb : Nat) (W : World), W.heap[fb]? = some (.cells (pcells lfs).toArray 212 (0, 0)) → Calls Tryz.prog 79 #[.int .u64 (linkN idx gen : Nat), .slice (some ⟨fb, 0, none⟩) 2 2] W fun e w' => ∃ v, e = .returned (.tuple #[v, .int .i64 0]) ∧ OwnO w' 1 v 2 (us [idx + 2, gen]) ∧ Below W.heap.size W w') := fun fb W hf => by
    have := funpack_any (linkN idx gen) lfs (some ⟨fb, 0, none⟩) 2 2 W hlt (SeqAt.of_block hf) rfl (by decide) lfs_ok
    rw [link_unpack h1 (by omega)] at this
    exact this
  have hw1 : IntKind.i64.wrap ((idx : Int) + 2) = (idx : Int) + 2 := by rw [IntWalk.i64_in _ (by omega)]
  have hw2 : IntKind.i64.wrap (gen : Int) = (gen : Int) := by rw [IntWalk.i64_in _ (by omega)]
  have hw4 : (idx : Int) + 2 - 2 = (idx : Int) := by omega
  have hw3 : IntKind.i64.wrap (idx : Int) = (idx : Int) := by rw [IntWalk.i64_in _ (by omega)]
  obtain ⟨WN, hWN⟩ : ∃ WN, WN = linkN idx gen := ⟨_, rfl⟩
  rw [← hWN] at HUN hge ⊢
  have hz0 : ((WN : Int) == 0) = false := by simp; omega
  have hz1 : ((WN : Int) == 1) = false := by simp; omega
  clear hWN hlt hge
  go_enter Tryz.func144, Tryz.ntmps144
  go_wp2_with fail
  have HBA : Hid (Below w.heap.size w (w.alloc (.cells #[.int .i64 0, .int .i64 0, .int .i64 0] 69))) := (Below.refl _ w).alloc (Nat.le_refl _) _
  obtain ⟨rb, hrb⟩ : ∃ rb, rb = w.heap.size := ⟨_, rfl⟩
  have HRB : Hid ((w.alloc (.cells #[.int .i64 0, .int .i64 0, .int .i64 0] 69)).heap[rb]? = some (.cells #[.int .i64 0, .int .i64 0, .int .i64 0] 69 (0, 0))) := by rw [hrb]; exact heap_alloc_new _ _
  rw [← hrb]
  have HRE : Hid (rb = w.heap.size) := hrb
  generalize w.alloc (.cells #[.int .i64 0, .int .i64 0, .int .i64 0] 69) = wa at *
  clear hrb
  refine (hlinks_any wa).mono ?_
  rintro e w1 ⟨rfl, rfl⟩
  go_wp2_with fail
  refine (HUN.out _ _ (heap_alloc_new wa _)).mono ?_
  rintro e w2 ⟨v, rfl, hown, hb2⟩
  have hrl : rb < wa.heap.size := (Array.getElem?_eq_some_iff.1 HRB.out).1
  have HB2 : Hid (Below w.heap.size w w2) := (HBA.out.alloc HBA.out.size _).trans (hb2.mono (by have := HBA.out.size; simp; omega))
  have HR2 := Lib.hid ((hb2.block rb (by simp; omega)).trans ((Below.heap_alloc wa _ rb hrl).trans HRB.out))
  obtain ⟨va, vc, rfl, hsq, -, -⟩ := hown.seq
  obtain ⟨b, off, rfl, hc⟩ := hsq (by simp [us])
  have c0 := hc 0 (by simp [us])
  have c1 := hc 1 (by simp [us])
  simp [us, uv] at c0 c1
  clear hown hb2 hsq hc
  go_wp2_with fail
  refine wp_region_lastH (S := fun W => W.cell? ⟨b, off, none⟩ = some (.int .u64 ((idx : Int) + 2)) ∧ W.cell? ⟨b, off + 1, none⟩ = some (.int .u64 gen)) 11 (by kernel_rfl) (by kernel_rfl) ⟨c0, c1⟩ (fun hH => ?_)
  simp only [lastOps, nop, List.modify_toArray, List.modify_succ_cons, List.modify_zero_cons]
  refine Go.Tr.tz 0 (v := ?_) rfl ?_ ?_
  rotate_left
  · intro W hW
    go_simp
    try with_reducible rfl
  try simp only [Go.Tr.nz]
  refine Go.Tr.tz 1 (v := ?_) rfl ?_ ?_
  rotate_left
  · intro W hW
    go_simp
    try with_reducible rfl
  try simp only [Go.Tr.nz]
  refine Go.Tr.tz 2 (v := ?_) rfl ?_ ?_
  rotate_left
  · intro W hW
    go_simp
    try with_reducible rfl
  try simp only [Go.Tr.nz]
  refine Go.Tr.tz 3 (v := ?_) rfl ?_ ?_
  rotate_left
  · intro W hW
    go_simp
    try with_reducible rfl
  try simp only [Go.Tr.nz]
  refine Go.Tr.tz 4 (v := ?_) rfl ?_ ?_
  rotate_left
  · intro W hW
    go_simp
    try with_reducible rfl
  try simp only [Go.Tr.nz]
  refine Go.Tr.tz 5 (v := ?_) rfl ?_ ?_
  rotate_left
  · intro W hW
    go_simp
    try with_reducible rfl
  try simp only [Go.Tr.nz]
  refine Go.Tr.tz 6 (v := ?_) rfl ?_ ?_
  rotate_left
  · intro W hW
    go_simp
    try with_reducible rfl
  try simp only [Go.Tr.nz]
  refine Go.Tr.tz 7 (v := ?_) rfl ?_ ?_
  rotate_left
  · intro W hW
    go_simp
    try with_reducible rfl
  try simp only [Go.Tr.nz]
  refine Go.Tr.tz 8 (v := ?_) rfl ?_ ?_
  rotate_left
  · intro W hW
    go_simp
    try with_reducible rfl
  try simp only [Go.Tr.nz]
  refine Go.Tr.tz 9 (v := ?_) rfl ?_ ?_
  rotate_left
  · intro W hW
    go_simp
    try with_reducible rfl
  try simp only [Go.Tr.nz]
  refine wpAnyH_ready (rs := [10]) (by kernel_rfl) (by simp) (readyH rfl (fun K hK => ?_) AllReadyH.nil)
  rw [if_pos (by rfl)]
  go_simp
  have hbl : b < w2.heap.size := World.block_lt_of_cell? w2 _ c0
  refine hK.out _ _ ⟨(World.cell?_alloc_lt _ _ _ hbl).trans hH.1, (World.cell?_alloc_lt _ _ _ hbl).trans hH.2⟩ (fun hH => ?_)
  clear hK K
  try simp only [Go.Tr.nz]
  refine Go.Tr.tz 11 (v := ?_) rfl ?_ ?_
  rotate_left
  · intro W hW
    go_simp
    try with_reducible rfl
  try simp only [Go.Tr.nz]
  refine lastH_done (by kernel_rfl) rfl (by rfl) ?_
  go_simp
  have HB3 : Hid (Below w.heap.size w (w2.alloc (.cells #[.int .i64 idx, .int .i64 gen] 38)).drew) := (HB2.out.alloc HB2.out.size _).drew
  obtain ⟨xb, hxb⟩ : ∃ xb, xb = w2.heap.size := ⟨_, rfl⟩
  have hrl2 : rb < w2.heap.size := (Array.getElem?_eq_some_iff.1 HR2.out).1
  have HX3 : Hid ((w2.alloc (.cells #[.int .i64 idx, .int .i64 gen] 38)).drew.heap[xb]? = some (.cells #[.int .i64 idx, .int .i64 gen] 38 (0, 0))) := by rw [hxb]; exact heap_alloc_new _ _
  have HR3 : Hid ((w2.alloc (.cells #[.int .i64 idx, .int .i64 gen] 38)).drew.heap[rb]? = some (.cells #[.int .i64 0, .int .i64 0, .int .i64 0] 69 (0, 0))) := (Below.heap_alloc _ _ _ hrl2).trans HR2.out
  rw [← hxb]
  generalize (w2.alloc (.cells #[.int .i64 idx, .int .i64 gen] 38)).drew = w3 at *
  have e0 := (cells_of_block HX3.out 0).1
  have e1 := (cells_of_block HX3.out 1).1
  simp at e0 e1
  clear hxb c0 c1 hrl2 hbl hH
  go_wp2_with fail
  refine (HAL.out w3).mono ?_
  rintro e w4 ⟨rfl, hb4⟩
  have HB4 : Hid (Below w.heap.size w w4) := HB3.out.trans (hb4.mono HB3.out.size)
  have HX4 := Lib.hid ((hb4.block xb (Array.getElem?_eq_some_iff.1 HX3.out).1).trans HX3.out)
  have HR4 := Lib.hid ((hb4.block rb (Array.getElem?_eq_some_iff.1 HR3.out).1).trans HR3.out)
  have f0 := (cells_of_block HX4.out 0).1
  have f1 := (cells_of_block HX4.out 1).1
  simp at f0 f1
  have r0 := cells_of_block HR4.out 0
  have r1 := cells_of_block HR4.out 1
  have r2 := cells_of_block HR4.out 2
  simp at r0 r1 r2
  obtain ⟨r0, g0⟩ := r0
  obtain ⟨r1, g1⟩ := r1
  obtain ⟨r2, g2⟩ := r2
  clear hb4 e0 e1
  go_wp2_with fail
  try simp only [Exit.inBlock, Exit.then]
  have hbk : (((w4.setCell ⟨rb, 0, none⟩ (.int .i64 2)).setCell ⟨rb, 1, none⟩ (.int .i64 idx)).setCell ⟨rb, 2, none⟩ (.int .i64 gen)).heap[rb]? = some (.cells #[.int .i64 2, .int .i64 idx, .int .i64 gen] 69 (0, 0)) := by
    simpa using block_setCell (block_setCell (block_setCell HR4.out 0 (.int .i64 2)) 1 (.int .i64 idx)) 2 (.int .i64 gen)
  refine bodyPost_ret (results_blk rfl _ _ rb _ _ _ _ rfl hbk Tryz.underlying69 rfl rfl) rfl ⟨rfl, ?_⟩
  have e : w.heap.size ≤ rb := Nat.le_of_eq HRE.out.symm
  exact ((HB4.out.setCell e _).setCell e _).setCell e _
end Go.Proofs.YtcdpnfchmpncjaaGreatDoor

namespace Go.Tr
open Go.RowKit
structure Lay where
  fixed : Nat
  refs : List Nat
  record : Nat
  recs : List Nat
def risesN (l : List Nat) (size : Nat) : Prop := (∀ p ∈ l, p < size) ∧ l.Pairwise (· < ·)
structure RightLay (L : Lay) : Prop where
  f : L.fixed ≤ 64
  r : L.record ≤ 64
  pos : 0 < L.fixed + L.record
  refs : risesN L.refs L.fixed
  recs : risesN L.recs L.record
def Lay.size (L : Lay) (count : Nat) : Nat := L.fixed + count * L.record
def LayAt (w : World) (v : Value) (L : Lay) : Prop := ∃ ra rc sa sc, v = .agg #[.int .i64 (L.fixed : Nat), .slice ra L.refs.length rc, .int .i64 (L.record : Nat), .slice sa L.recs.length sc] ∧ SeqAt w ra (ns L.refs) ∧ SeqAt w sa (ns L.recs)
theorem LayAt.kept {w w' : World} {v : Value} {L : Lay} (h : LayAt w v L) (hb : Below w.heap.size w w') : LayAt w' v L := by
  obtain ⟨ra, rc, sa, sc, e, h1, h2⟩ := h
  exact ⟨ra, rc, sa, sc, e, h1.below hb (Nat.le_refl _), h2.below hb (Nat.le_refl _)⟩
theorem SeqAt.n {w : World} {a : Option Addr} {xs : List Nat} (h : SeqAt w a (ns xs)) {k : Nat} (hk : k < xs.length) : ∃ b off x, a = some ⟨b, off, none⟩ ∧ w.cell? ⟨b, off + k, none⟩ = some (.int .i64 (x : Nat)) ∧ Hid (xs[k]? = some x) := by
  obtain ⟨b, off, e, hc⟩ := h (by simp [ns]; omega)
  refine ⟨b, off, xs[k], e, ?_, List.getElem?_eq_getElem hk⟩
  rw [hc k (by simp [ns]; exact hk)]
  simp [ns, nv, List.getD, List.getElem?_eq_getElem hk]
theorem rises_step {l : List Nat} {k x y : Nat} (h : l.Pairwise (· < ·)) (hx : l[k]? = some x) (hy : l[k + 1]? = some y) : x < y := by
  rw [List.pairwise_iff_getElem] at h
  obtain ⟨h1, h2⟩ := List.getElem?_eq_some_iff.1 hx
  obtain ⟨h3, h4⟩ := List.getElem?_eq_some_iff.1 hy
  have := h k (k + 1) h1 h3 (Nat.lt_succ_self _)
  rw [h2, h4] at this; exact this
theorem pairwise_len : ∀ (l : List Nat) (a size : Nat), (∀ p ∈ l, a ≤ p ∧ p < size) → l.Pairwise (· < ·) → l.length + a ≤ size ∨ l = []
  | [], _, _, _, _ => Or.inr rfl
  | x :: r, a, size, h1, h2 => by
    have hx := h1 x (by simp)
    rw [List.pairwise_cons] at h2
    rcases pairwise_len r (x + 1) size (fun p hp => ⟨h2.1 p hp, (h1 p (by simp [hp])).2⟩) h2.2 with h | h
    · left; simp only [List.length_cons]; omega
    · subst h; left; simp only [List.length_cons, List.length_nil]; omega
theorem risesN_len {l : List Nat} {size N : Nat} (h : risesN l size) (hs : size ≤ N) : l.length ≤ N := by
  rcases pairwise_len l 0 size (fun p hp => ⟨Nat.zero_le _, h.1 p hp⟩) h.2 with h | h
  · omega
  · subst h; exact Nat.zero_le _
end Go.Tr
namespace Go.Proofs.YtcdpnfchmpncjaaGreatDoor
open Go.RowKit Go.Tr Go.Shelf
variable {w w' : World}
set_option maxRecDepth 100000 in
theorem lrises_any (l : List Nat) (size : Nat) (la : Option Addr) (n c : Nat) (w : World) (h : SeqAt w la (ns l)) (hl : l.length = n) (hn : n ≤ 100000) (hs : size ≤ 100000) (hr : risesN l size) : Calls Tryz.prog 128 #[.slice la n c, .int .i64 size] w fun e w' => e = .returned (.bool true) ∧ w = w' := by
  have HS := Lib.hid h
  have HR := Lib.hid hr
  have HL := Lib.hid hl
  clear h hr hl
  go_enter Tryz.func128, Tryz.ntmps128
  go_wp2_with fail
  go_loopw [9] (fun i wr => wr = w ∧ ∃ k : Nat, i = .int .i64 (k : Int) ∧ k ≤ n) (fun i _ => n - (intOf i).toNat)
  case atStart => exact ⟨rfl, 0, rfl, Nat.zero_le _⟩
  case round =>
    obtain ⟨rfl, k, rfl, hk⟩ := hrel
    by_cases hlt : k < n
    · have hlt' : (k : Int) < (n : Int) := by omega
      obtain ⟨b, off, x, rfl, hc, HX⟩ := HS.out.n (k := k) (by rw [HL.out]; exact hlt)
      have hxs : x < size := HR.out.1 x (List.mem_of_getElem? HX.out)
      have hx1 : ¬ (x : Int) < 0 := by omega
      have hx2 : ¬ (size : Int) ≤ (x : Int) := by omega
      rcases k with _ | k
      · rw [Nat.add_zero] at hc
        go_wp2
        go_roundw
        case rel => exact ⟨trivial, 1, by go_num, by omega⟩
        case measure => simp [intOf]; omega
      · obtain ⟨b2, off2, y, e2, hc2, HY⟩ := HS.out.n (k := k) (by rw [HL.out]; omega)
        obtain ⟨rfl, rfl⟩ : b2 = b ∧ off2 = off := by simpa [eq_comm] using e2
        have hyx : y < x := rises_step HR.out.2 HY.out HX.out
        have hy1 : ¬ (x : Int) ≤ (y : Int) := by omega
        have hk1 : (0 : Int) < (k : Int) + 1 := by omega
        have hk2 : (k : Int) + 1 - 1 = (k : Int) := by omega
        have hk3 : (0 : Int) ≤ (k : Int) := by omega
        have hk4 : (k : Int) < (n : Int) := by omega
        rw [Int.natCast_add] at hlt'
        go_wp2
        go_roundw
        case rel => exact ⟨trivial, k + 2, by go_num, by omega⟩
        case measure => simp [intOf]; omega
    · have hlt' : ¬ (k : Int) < (n : Int) := by omega
      go_wp2
      go_ret
      exact ⟨rfl, rfl⟩
set_option maxRecDepth 100000 in
theorem lright_any {v : Value} {L : Lay} (w : World) (h : LayAt w v L) (hr : RightLay L) : Calls Tryz.prog 82 #[v] w fun e w' => e = .returned (.bool true) ∧ Below w.heap.size w w' := by
  obtain ⟨ra, rc, sa, sc, rfl, h1, h2⟩ := h
  have hrl : L.refs.length ≤ 100000 := risesN_len hr.refs (by have := hr.f; omega)
  have hsl : L.recs.length ≤ 100000 := risesN_len hr.recs (by have := hr.r; omega)
  obtain ⟨fx, hfx⟩ : ∃ fx, fx = L.fixed := ⟨_, rfl⟩
  obtain ⟨rx, hrx⟩ : ∃ rx, rx = L.record := ⟨_, rfl⟩
  obtain ⟨n1, hn1⟩ : ∃ n1, n1 = L.refs.length := ⟨_, rfl⟩
  obtain ⟨n2, hn2⟩ : ∃ n2, n2 = L.recs.length := ⟨_, rfl⟩
  have hf := hr.f
  have hrr := hr.r
  have hp := hr.pos
  rw [← hfx] at hf hp ⊢
  rw [← hrx] at hrr hp ⊢
  rw [← hn1] at hrl ⊢
  rw [← hn2] at hsl ⊢
  have HA : Hid (∀ W : World, Below w.heap.size w W → Calls Tryz.prog 128 #[.slice ra n1 rc, .int .i64 fx] W fun e w' => e = .returned (.bool true) ∧ W = w') := fun W hb => lrises_any L.refs fx ra n1 rc W (h1.below hb (Nat.le_refl _)) hn1.symm (by omega) (by omega) (by rw [hfx]; exact hr.refs)
  have HB : Hid (∀ W : World, Below w.heap.size w W → Calls Tryz.prog 128 #[.slice sa n2 sc, .int .i64 rx] W fun e w' => e = .returned (.bool true) ∧ W = w') := fun W hb => lrises_any L.recs rx sa n2 sc W (h2.below hb (Nat.le_refl _)) hn2.symm (by omega) (by omega) (by rw [hrx]; exact hr.recs)
  have k1 : ¬ (fx : Int) < 0 := by omega
  have k2 : ¬ (64 : Int) < (fx : Int) := by omega
  have k3 : ¬ (rx : Int) < 0 := by omega
  have k4 : ¬ (64 : Int) < (rx : Int) := by omega
  have k5 : ((fx : Int) + (rx : Int) == 0) = false := by simp; omega
  have HBA : Hid (Below w.heap.size w (w.alloc (.cells #[.int .i64 fx, .slice ra n1 rc, .int .i64 rx, .slice sa n2 sc] 60))) := (Below.refl _ w).alloc (Nat.le_refl _) _
  clear h1 h2 hr hfx hrx hn1 hn2 hp
  go_enter Tryz.func82, Tryz.ntmps82
  go_wp2_with fail
  refine (HA.out _ HBA.out).mono ?_
  rintro e w' ⟨rfl, rfl⟩
  go_wp2_with fail
  refine (HB.out _ HBA.out).mono ?_
  rintro e w' ⟨rfl, rfl⟩
  go_wp2_with fail
  go_ret
  exact ⟨rfl, HBA.out⟩
set_option maxRecDepth 100000 in
set_option maxHeartbeats 1000000 in
theorem lsize_any {v : Value} {L : Lay} (count : Nat) (w : World) (h : LayAt w v L) (hr : RightLay L) (hc : count ≤ 1024) (hcr : count = 0 ∨ L.record ≠ 0) (hsz : L.size count < 8192) : Calls Tryz.prog 87 #[v, .int .i64 count] w fun e w' => e = .returned (.tuple #[.int .i64 (L.size count : Nat), .int .i64 0]) ∧ Below w.heap.size w w' := by
  have HRT : Hid (∀ W : World, Below w.heap.size w W → Calls Tryz.prog 82 #[v] W fun e w' => e = .returned (.bool true) ∧ Below W.heap.size W w') := fun W hb => lright_any W (h.kept hb) hr
  obtain ⟨ra, rc, sa, sc, rfl, h1, h2⟩ := h
  obtain ⟨fx, hfx⟩ : ∃ fx, fx = L.fixed := ⟨_, rfl⟩
  obtain ⟨rx, hrx⟩ : ∃ rx, rx = L.record := ⟨_, rfl⟩
  obtain ⟨z, hz⟩ : ∃ z, z = L.size count := ⟨_, rfl⟩
  have hrr := hr.r
  have hf := hr.f
  rw [← hfx] at hf HRT ⊢
  rw [← hrx] at hrr hcr HRT ⊢
  rw [← hz] at hsz ⊢
  have hmul : (fx : Int) + (count : Int) * (rx : Int) = (z : Int) := by rw [hz, Lay.size, ← hfx, ← hrx]; push_cast; rfl
  obtain ⟨m, hm⟩ : ∃ m, m = count * rx := ⟨_, rfl⟩
  have hm2 : (count : Int) * (rx : Int) = (m : Int) := by rw [hm]; push_cast; rfl
  have hmb : m ≤ 65536 + 64 := by rw [hm]; exact Nat.le_trans (Nat.mul_le_mul hc hrr) (by decide)
  rw [hm2] at hmul
  have HBA : Hid (Below w.heap.size w (w.alloc (.cells #[.int .i64 fx, .slice ra L.refs.length rc, .int .i64 rx, .slice sa L.recs.length sc] 60))) := (Below.refl _ w).alloc (Nat.le_refl _) _
  obtain ⟨xb, hxb⟩ : ∃ xb, xb = w.heap.size := ⟨_, rfl⟩
  have HXB : Hid ((w.alloc (.cells #[.int .i64 fx, .slice ra L.refs.length rc, .int .i64 rx, .slice sa L.recs.length sc] 60)).heap[xb]? = some (.cells #[.int .i64 fx, .slice ra L.refs.length rc, .int .i64 rx, .slice sa L.recs.length sc] 60 (0, 0))) := by rw [hxb]; exact heap_alloc_new _ _
  have k1 : ¬ (count : Int) < 0 := by omega
  have k2 : ¬ (1024 : Int) < (count : Int) := by omega
  have k3 : ¬ (8192 : Int) ≤ (z : Int) := by omega
  clear h1 h2 hr hfx hrx hz hm
  go_enter Tryz.func87, Tryz.ntmps87
  go_wp2_with fail
  have HRT2 := Lib.hid (HRT.out _ HBA.out)
  rw [← hxb]
  generalize w.alloc (.cells #[.int .i64 fx, .slice ra L.refs.length rc, .int .i64 rx, .slice sa L.recs.length sc] 60) = wa at *
  clear hxb HRT
  refine HRT2.out.mono ?_
  rintro e w1 ⟨rfl, hb1⟩
  have HB1 : Hid (Below w.heap.size w w1) := HBA.out.trans (hb1.mono HBA.out.size)
  have HX1 := Lib.hid ((hb1.block xb (Array.getElem?_eq_some_iff.1 HXB.out).1).trans HXB.out)
  have x0 := (cells_of_block HX1.out 0).1
  have x2 := (cells_of_block HX1.out 2).1
  simp at x0 x2
  clear hb1
  by_cases hc0 : count = 0
  · have hm0 : ¬ (0 : Int) < (count : Int) := by omega
    clear hc0
    go_wp2_with fail
    go_ret2
    exact ⟨rfl, HB1.out⟩
  · have hc1 : (0 : Int) < (count : Int) := by omega
    have hr1 : ((rx : Int) == 0) = false := by rcases hcr with h | h; exact absurd h hc0; simp; omega
    clear hcr hc0
    go_wp2_with fail
    go_ret2
    exact ⟨rfl, HB1.out⟩
end Go.Proofs.YtcdpnfchmpncjaaGreatDoor

namespace Go.Tr
open Go.RowKit
theorem ns_ints (xs : List Nat) : ns xs = ints (xs.map fun x : Nat => (x : Int)) := by simp [ns, nv, ints]; intro a _; rfl
def LayF (w : World) (v : Value) (L : Lay) (F : Nat → Prop) : Prop := ∃ ra rc sa sc, v = .agg #[.int .i64 (L.fixed : Nat), .slice ra L.refs.length rc, .int .i64 (L.record : Nat), .slice sa L.recs.length sc] ∧ SeqAt w ra (ns L.refs) ∧ SeqAt w sa (ns L.recs) ∧ (∀ b o, ra = some ⟨b, o, none⟩ → F b) ∧ ∀ b o, sa = some ⟨b, o, none⟩ → F b
theorem LayF.at {w : World} {v : Value} {L : Lay} {F : Nat → Prop} (h : LayF w v L F) : LayAt w v L := by
  obtain ⟨ra, rc, sa, sc, e, h1, h2, -⟩ := h
  exact ⟨ra, rc, sa, sc, e, h1, h2⟩
end Go.Tr
namespace Go.Proofs.YtcdpnfchmpncjaaGreatDoor
open Go.RowKit Go.Tr Go.Shelf
variable {w w' : World}
theorem nclone_any (a : Option Addr) (n c : Nat) (xs : List Nat) (w : World) (h : SeqAt w a (ns xs)) (hl : xs.length = n) (hs : n ≤ 1000000) :
    Calls Tryz.prog 84 #[.slice a n c] w fun e w' => ∃ a' c', e = .returned (.slice a' n c') ∧ SeqAt w' a' (ns xs) ∧ (∀ b o, a' = some ⟨b, o, none⟩ → w.heap.size ≤ b ∧ b < w'.heap.size) ∧ Below w.heap.size w w' := by
  have := clone_any a n c (xs.map fun x : Nat => (x : Int)) w (by rw [← ns_ints]; exact h) (by simpa using hl) hs
  refine this.mono ?_
  rintro e w' ⟨v, rfl, ho, hb⟩
  have ho' : w'.ownsRow w.heap.size 3 1 v n (ints (xs.map fun x : Nat => (x : Int))) := by
    have := ho; unfold own3 at this; simpa [hl] using this
  obtain ⟨a', c', rfl, hsq, -, -⟩ := ownsRow_seq ho'
  exact ⟨a', c', rfl, by rw [ns_ints]; exact hsq, fun b o e => ho'.lt b (by subst e; rfl), hb⟩
theorem own_end {L : Lay} {fx rx n1 n2 xb rb : Nat} {w wa w1 w2 w3 : World} {a1 a2 : Option Addr} {c1 c2 : Nat} (hfx : fx = L.fixed ∧ rx = L.record ∧ n1 = L.refs.length ∧ n2 = L.recs.length) (hxe : xb = w.heap.size) (hxr : xb ≤ xb ∧ xb ≤ rb ∧ xb ≠ rb) (hxl : xb < wa.heap.size) (hrl : rb < wa.heap.size) (hz1 : wa.heap.size ≤ w1.heap.size) (hz2 : w1.heap.size ≤ w2.heap.size) (hz3 : w3.heap.size = w2.heap.size)
    (hs2 : SeqAt w2 a2 (ns L.recs)) (hsa : SeqAt w2 a1 (ns L.refs)) (hf1 : ∀ b o, a1 = some ⟨b, o, none⟩ → wa.heap.size ≤ b ∧ b < w1.heap.size) (hf2 : ∀ b o, a2 = some ⟨b, o, none⟩ → w1.heap.size ≤ b ∧ b < w2.heap.size) (hk : ∀ k, k ≠ xb → w3.heap[k]? = w2.heap[k]?) (hb : Below xb w w3) :
    LayF ((((w3.setCell ⟨rb, 0, none⟩ (.int .i64 (fx : Nat))).setCell ⟨rb, 1, none⟩ (.slice a1 n1 c1)).setCell ⟨rb, 2, none⟩ (.int .i64 (rx : Nat))).setCell ⟨rb, 3, none⟩ (.slice a2 n2 c2)) (.agg #[.int .i64 (fx : Nat), .slice a1 n1 c1, .int .i64 (rx : Nat), .slice a2 n2 c2]) L (fun k => w.heap.size ≤ k ∧ k < ((((w3.setCell ⟨rb, 0, none⟩ (.int .i64 (fx : Nat))).setCell ⟨rb, 1, none⟩ (.slice a1 n1 c1)).setCell ⟨rb, 2, none⟩ (.int .i64 (rx : Nat))).setCell ⟨rb, 3, none⟩ (.slice a2 n2 c2)).heap.size) ∧
    Below w.heap.size w ((((w3.setCell ⟨rb, 0, none⟩ (.int .i64 (fx : Nat))).setCell ⟨rb, 1, none⟩ (.slice a1 n1 c1)).setCell ⟨rb, 2, none⟩ (.int .i64 (rx : Nat))).setCell ⟨rb, 3, none⟩ (.slice a2 n2 c2)) := by
  obtain ⟨W, hW⟩ : ∃ W, W = ((((w3.setCell ⟨rb, 0, none⟩ (.int .i64 (fx : Nat))).setCell ⟨rb, 1, none⟩ (.slice a1 n1 c1)).setCell ⟨rb, 2, none⟩ (.int .i64 (rx : Nat))).setCell ⟨rb, 3, none⟩ (.slice a2 n2 c2)) := ⟨_, rfl⟩
  have hkW : ∀ k, k ≠ rb → W.heap[k]? = w3.heap[k]? := fun k hn => by rw [hW, Below.heap_setCell _ _ _ _ hn, Below.heap_setCell _ _ _ _ hn, Below.heap_setCell _ _ _ _ hn, Below.heap_setCell _ _ _ _ hn]
  have hbW : Below w.heap.size w W := by
    rw [hW]
    rw [hxe] at hb
    have e : w.heap.size ≤ rb := by omega
    exact (((hb.setCell e _).setCell e _).setCell e _).setCell e _
  have hzW : W.heap.size = w2.heap.size := by rw [hW, ← hz3]; simp [World.setCell]
  rw [← hW]
  have hkeep : ∀ {a : Option Addr} {xs : List Value}, SeqAt w2 a xs → (∀ b o, a = some ⟨b, o, none⟩ → wa.heap.size ≤ b) → SeqAt W a xs := fun h hf h0 => by
    obtain ⟨b, off, e, hc⟩ := h h0
    have hwb := hf b off e
    refine ⟨b, off, e, fun j hj => ?_⟩
    rw [World.cell?_of_block (a := ⟨b, off + j, none⟩) ((hkW b (by omega)).trans (hk b (by omega)))]
    exact hc j hj
  obtain ⟨rfl, rfl, rfl, rfl⟩ := hfx
  refine ⟨⟨a1, c1, a2, c2, rfl, hkeep hsa (fun b o e => (hf1 b o e).1), hkeep hs2 (fun b o e => by have := (hf2 b o e).1; omega), fun b o e => ?_, fun b o e => ?_⟩, hbW⟩
  · have := hf1 b o e; omega
  · have := hf2 b o e; omega
set_option maxRecDepth 100000 in
theorem lown_any {v : Value} {L : Lay} (w : World) (h : LayAt w v L) (hl1 : L.refs.length ≤ 1000) (hl2 : L.recs.length ≤ 1000) : Calls Tryz.prog 83 #[v] w fun e w' => ∃ v', e = .returned v' ∧ LayF w' v' L (fun k => w.heap.size ≤ k ∧ k < w'.heap.size) ∧ Below w.heap.size w w' := by
  obtain ⟨ra, rc, sa, sc, rfl, h1, h2⟩ := h
  obtain ⟨fx, hfx⟩ : ∃ fx, fx = L.fixed := ⟨_, rfl⟩
  obtain ⟨rx, hrx⟩ : ∃ rx, rx = L.record := ⟨_, rfl⟩
  obtain ⟨n1, hn1⟩ : ∃ n1, n1 = L.refs.length := ⟨_, rfl⟩
  obtain ⟨n2, hn2⟩ : ∃ n2, n2 = L.recs.length := ⟨_, rfl⟩
  rw [← hfx, ← hrx, ← hn1, ← hn2]
  have HA : Hid (∀ W : World, Below w.heap.size w W → Calls Tryz.prog 84 #[.slice ra n1 rc] W fun e w' => ∃ a' c', e = .returned (.slice a' n1 c') ∧ SeqAt w' a' (ns L.refs) ∧ (∀ b o, a' = some ⟨b, o, none⟩ → W.heap.size ≤ b ∧ b < w'.heap.size) ∧ Below W.heap.size W w') := fun W hb => nclone_any ra n1 rc L.refs W (h1.below hb (Nat.le_refl _)) hn1.symm (by omega)
  have HB : Hid (∀ W : World, Below w.heap.size w W → Calls Tryz.prog 84 #[.slice sa n2 sc] W fun e w' => ∃ a' c', e = .returned (.slice a' n2 c') ∧ SeqAt w' a' (ns L.recs) ∧ (∀ b o, a' = some ⟨b, o, none⟩ → W.heap.size ≤ b ∧ b < w'.heap.size) ∧ Below W.heap.size W w') := fun W hb => nclone_any sa n2 sc L.recs W (h2.below hb (Nat.le_refl _)) hn2.symm (by omega)
  have HBA : Hid (Below w.heap.size w ((w.alloc (.cells #[.int .i64 fx, .slice ra n1 rc, .int .i64 rx, .slice sa n2 sc] 60)).alloc (.cells #[.int .i64 0, .slice none 0 0, .int .i64 0, .slice none 0 0] 60))) := ((Below.refl _ w).alloc (Nat.le_refl _) _).alloc (by simp) _
  obtain ⟨xb, hxb⟩ : ∃ xb, xb = w.heap.size := ⟨_, rfl⟩
  obtain ⟨rb, hrb⟩ : ∃ rb, rb = w.heap.size + 1 := ⟨_, rfl⟩
  have HXB : Hid (((w.alloc (.cells #[.int .i64 fx, .slice ra n1 rc, .int .i64 rx, .slice sa n2 sc] 60)).alloc (.cells #[.int .i64 0, .slice none 0 0, .int .i64 0, .slice none 0 0] 60)).heap[xb]? = some (.cells #[.int .i64 fx, .slice ra n1 rc, .int .i64 rx, .slice sa n2 sc] 60 (0, 0))) := by rw [hxb]; exact (Below.heap_alloc _ _ _ (by simp)).trans (heap_alloc_new w _)
  have HRB : Hid (((w.alloc (.cells #[.int .i64 fx, .slice ra n1 rc, .int .i64 rx, .slice sa n2 sc] 60)).alloc (.cells #[.int .i64 0, .slice none 0 0, .int .i64 0, .slice none 0 0] 60)).heap[rb]? = some (.cells #[.int .i64 0, .slice none 0 0, .int .i64 0, .slice none 0 0] 60 (0, 0))) := by rw [hrb]; exact heap_alloc2_new w _ _
  have HXR : Hid (w.heap.size ≤ xb ∧ w.heap.size ≤ rb ∧ xb ≠ rb) := ⟨by omega, by omega, by omega⟩
  have HFX : Hid (fx = L.fixed ∧ rx = L.record ∧ n1 = L.refs.length ∧ n2 = L.recs.length) := ⟨hfx, hrx, hn1, hn2⟩
  clear h1 h2 hfx hrx hn1 hn2 hl1 hl2
  go_enter Tryz.func83, Tryz.ntmps83
  go_wp2_with fail
  rw [← hrb, ← hxb]
  rw [← hxb] at HBA HA HB HXR
  generalize (w.alloc (.cells #[.int .i64 fx, .slice ra n1 rc, .int .i64 rx, .slice sa n2 sc] 60)).alloc (.cells #[.int .i64 0, .slice none 0 0, .int .i64 0, .slice none 0 0] 60) = wa at *
  have HXE : Hid (xb = w.heap.size) := hxb
  clear hxb hrb
  have x0 := (cells_of_block HXB.out 0)
  have x1 := (cells_of_block HXB.out 1)
  have x2 := (cells_of_block HXB.out 2)
  have x3 := (cells_of_block HXB.out 3)
  simp at x0 x1 x2 x3
  have hxl := (Array.getElem?_eq_some_iff.1 HXB.out).1
  have hrl := (Array.getElem?_eq_some_iff.1 HRB.out).1
  obtain ⟨x1, -⟩ := x1
  obtain ⟨x3, -⟩ := x3
  refine wp_region_held_drew (S := fun _ => True) (by kernel_rfl) trivial (fun hH => ?_)
  refine Go.Tr.tz 0 (v := ?_) rfl ?_ ?_
  rotate_left
  · intro W hW
    go_simp
    try with_reducible rfl
  try simp only [Go.Tr.nz]
  refine Go.Tr.tz 3 (v := ?_) rfl ?_ ?_
  rotate_left
  · intro W hW
    go_simp
    try with_reducible rfl
  try simp only [Go.Tr.nz]
  refine wpAnyH_ready (rs := [1, 4]) (by kernel_rfl) (by simp) (readyH rfl (fun K hK => ?_) (readyH rfl (fun K hK => ?_) AllReadyH.nil))
  · rw [if_pos (by rfl)]
    go_simp
    refine hK.out _ _ trivial (fun hH => ?_)
    clear hK K
    try simp only [Go.Tr.nz]
    refine wpAnyH_ready (rs := [2, 4]) (by kernel_rfl) (by simp) (readyH rfl (fun K hK => ?_) (readyH rfl (fun K hK => ?_) AllReadyH.nil))
    · rw [if_pos (by rfl)]
      go_simp
      refine (HA.out _ HBA.out.drew).mono ?_
      rintro e w1 ⟨a1, c1, rfl, hs1, hf1, hb1⟩
      have HS1 := Lib.hid hs1
      have HF1 := Lib.hid hf1
      have HB1 : Hid (Below xb w w1) := HBA.out.drew.trans (hb1.mono (Nat.le_of_lt hxl))
      have HX1 := Lib.hid ((hb1.block xb hxl).trans HXB.out)
      have HR1 := Lib.hid ((hb1.block rb hrl).trans HRB.out)
      have HZ1 : Hid (wa.heap.size ≤ w1.heap.size) := hb1.size
      have y3 := (cells_of_block HX1.out 3).1
      simp at y3
      clear hs1 hf1 hb1
      refine hK.out _ _ trivial (fun hH => ?_)
      clear hK K
      try simp only [Go.Tr.nz]
      refine wpAnyH_ready (rs := [4]) (by kernel_rfl) (by simp) (readyH rfl (fun K hK => ?_) AllReadyH.nil)
      rw [if_pos (by rfl)]
      go_simp
      refine hK.out _ _ trivial (fun hH => ?_)
      clear hK K
      try simp only [Go.Tr.nz]
      refine Go.Tr.tz 6 (v := ?_) rfl ?_ ?_
      rotate_left
      · intro W hW
        go_simp
        try with_reducible rfl
      try simp only [Go.Tr.nz]
      refine wpAnyH_ready (rs := [5]) (by kernel_rfl) (by simp) (readyH rfl (fun K hK => ?_) AllReadyH.nil)
      rw [if_pos (by rfl)]
      go_simp
      refine (HB.out _ HB1.out).mono ?_
      rintro e w2 ⟨a2, c2, rfl, hs2, hf2, hb2⟩
      have HS2 := Lib.hid hs2
      have HF2 := Lib.hid hf2
      have HB2 : Hid (Below xb w w2) := HB1.out.trans (hb2.mono (by have := HZ1.out; omega))
      have HSA : Hid (SeqAt w2 a1 (ns L.refs)) := HS1.out.below hb2 (Nat.le_refl _)
      have HX2 := Lib.hid ((hb2.block xb (Nat.lt_of_lt_of_le hxl HZ1.out)).trans HX1.out)
      have HR2 := Lib.hid ((hb2.block rb (Nat.lt_of_lt_of_le hrl HZ1.out)).trans HR1.out)
      have HZ2 : Hid (w1.heap.size ≤ w2.heap.size) := hb2.size
      have z0 := cells_of_block HX2.out 0
      have z1 := cells_of_block HX2.out 1
      have z2 := cells_of_block HX2.out 2
      have z3 := cells_of_block HX2.out 3
      simp at z0 z1 z2 z3
      obtain ⟨z0, -⟩ := z0
      obtain ⟨z1, g1⟩ := z1
      obtain ⟨z2, -⟩ := z2
      obtain ⟨z3, g3⟩ := z3
      clear hs2 hf2 hb2
      refine hK.out _ _ trivial (fun hH => ?_)
      clear hK K
      try simp only [Go.Tr.nz]
      refine wpAnyH_ready (rs := [7]) (by kernel_rfl) (by simp) (readyH rfl (fun K hK => ?_) AllReadyH.nil)
      rw [if_pos (by rfl)]
      go_simp
      refine hK.out _ _ trivial (fun hH => ?_)
      clear hK K
      try simp only [Go.Tr.nz]
      refine Go.Tr.tz 8 (v := ?_) rfl ?_ ?_
      rotate_left
      · intro W hW
        go_simp
        try with_reducible rfl
      try simp only [Go.Tr.nz]
      refine wpAnyH_ready (rs := [9]) (by kernel_rfl) (by simp) (readyH rfl (fun K hK => ?_) AllReadyH.nil)
      rw [if_pos (by rfl)]
      go_simp
      refine hK.out _ _ trivial (fun hH => ?_)
      clear hK K
      try simp only [Go.Tr.nz]
      refine wpAnyH_done (by kernel_rfl) ?_ _
      have HXC : Hid (((w2.setCell ⟨xb, 1, none⟩ (.slice a1 n1 c1)).setCell ⟨xb, 3, none⟩ (.slice a2 n2 c2)).heap[xb]? = some (.cells #[.int .i64 fx, .slice a1 n1 c1, .int .i64 rx, .slice a2 n2 c2] 60 (0, 0))) := by
        show _ = _
        simpa using block_setCell (block_setCell HX2.out 1 (.slice a1 n1 c1)) 3 (.slice a2 n2 c2)
      have hkc : ∀ k, k ≠ xb → ((w2.setCell ⟨xb, 1, none⟩ (.slice a1 n1 c1)).setCell ⟨xb, 3, none⟩ (.slice a2 n2 c2)).heap[k]? = w2.heap[k]? := fun k hk => by rw [Below.heap_setCell _ _ _ _ hk, Below.heap_setCell _ _ _ _ hk]
      have HBC : Hid (Below xb w ((w2.setCell ⟨xb, 1, none⟩ (.slice a1 n1 c1)).setCell ⟨xb, 3, none⟩ (.slice a2 n2 c2))) := (HB2.out.setCell (Nat.le_refl _) _).setCell (Nat.le_refl _) _
      have HZ3 : Hid (((w2.setCell ⟨xb, 1, none⟩ (.slice a1 n1 c1)).setCell ⟨xb, 3, none⟩ (.slice a2 n2 c2)).heap.size = w2.heap.size) := by show _ = _; simp [World.setCell]
      clear z0 z1 z2 z3 g1 g3
      generalize (w2.setCell ⟨xb, 1, none⟩ (.slice a1 n1 c1)).setCell ⟨xb, 3, none⟩ (.slice a2 n2 c2) = w3 at *
      have HRC := Lib.hid ((hkc rb HXR.out.2.2.symm).trans HR2.out)
      have HKC := Lib.hid hkc
      have z0 := (cells_of_block HXC.out 0).1
      have z1 := (cells_of_block HXC.out 1).1
      have z2 := (cells_of_block HXC.out 2).1
      have z3 := (cells_of_block HXC.out 3).1
      simp at z0 z1 z2 z3
      have r0 := cells_of_block HRC.out 0
      have r1 := cells_of_block HRC.out 1
      have r2 := cells_of_block HRC.out 2
      have r3 := cells_of_block HRC.out 3
      simp at r0 r1 r2 r3
      obtain ⟨r0, q0⟩ := r0
      obtain ⟨r1, q1⟩ := r1
      obtain ⟨r2, q2⟩ := r2
      obtain ⟨r3, q3⟩ := r3
      clear hkc
      go_wp2_with fail
      try simp only [Exit.inBlock, Exit.then]
      have hbk : ((((w3.setCell ⟨rb, 0, none⟩ (.int .i64 fx)).setCell ⟨rb, 1, none⟩ (.slice a1 n1 c1)).setCell ⟨rb, 2, none⟩ (.int .i64 rx)).setCell ⟨rb, 3, none⟩ (.slice a2 n2 c2)).heap[rb]? = some (.cells #[.int .i64 fx, .slice a1 n1 c1, .int .i64 rx, .slice a2 n2 c2] 60 (0, 0)) := by
        simpa using block_setCell (block_setCell (block_setCell (block_setCell HRC.out 0 (.int .i64 fx)) 1 (.slice a1 n1 c1)) 2 (.int .i64 rx)) 3 (.slice a2 n2 c2)
      have hend := own_end (c1 := c1) (c2 := c2) HFX.out HXE.out HXR.out hxl hrl HZ1.out HZ2.out HZ3.out HS2.out HSA.out HF1.out HF2.out HKC.out HBC.out
      exact bodyPost_ret (results_cell_row rfl _ _ rb _ _ _ _ rfl hbk Tryz.underlying60 rfl rfl) rfl ⟨_, rfl, hend.1, hend.2⟩
    · rw [if_pos (by rfl)]
      go_simp
      refine hK.out _ _ trivial (fun hH => ?_)
      clear hK K
      try simp only [Go.Tr.nz]
      refine wpAnyH_ready (rs := [2]) (by kernel_rfl) (by simp) (readyH rfl (fun K hK => ?_) AllReadyH.nil)
      rw [if_pos (by rfl)]
      go_simp
      refine (HA.out _ HBA.out.drew).mono ?_
      rintro e w1 ⟨a1, c1, rfl, hs1, hf1, hb1⟩
      have HS1 := Lib.hid hs1
      have HF1 := Lib.hid hf1
      have HB1 : Hid (Below xb w w1) := HBA.out.drew.trans (hb1.mono (Nat.le_of_lt hxl))
      have HX1 := Lib.hid ((hb1.block xb hxl).trans HXB.out)
      have HR1 := Lib.hid ((hb1.block rb hrl).trans HRB.out)
      have HZ1 : Hid (wa.heap.size ≤ w1.heap.size) := hb1.size
      have y3 := (cells_of_block HX1.out 3).1
      simp at y3
      clear hs1 hf1 hb1
      refine hK.out _ _ trivial (fun hH => ?_)
      clear hK K
      try simp only [Go.Tr.nz]
      refine Go.Tr.tz 6 (v := ?_) rfl ?_ ?_
      rotate_left
      · intro W hW
        go_simp
        try with_reducible rfl
      try simp only [Go.Tr.nz]
      refine wpAnyH_ready (rs := [5]) (by kernel_rfl) (by simp) (readyH rfl (fun K hK => ?_) AllReadyH.nil)
      rw [if_pos (by rfl)]
      go_simp
      refine (HB.out _ HB1.out).mono ?_
      rintro e w2 ⟨a2, c2, rfl, hs2, hf2, hb2⟩
      have HS2 := Lib.hid hs2
      have HF2 := Lib.hid hf2
      have HB2 : Hid (Below xb w w2) := HB1.out.trans (hb2.mono (by have := HZ1.out; omega))
      have HSA : Hid (SeqAt w2 a1 (ns L.refs)) := HS1.out.below hb2 (Nat.le_refl _)
      have HX2 := Lib.hid ((hb2.block xb (Nat.lt_of_lt_of_le hxl HZ1.out)).trans HX1.out)
      have HR2 := Lib.hid ((hb2.block rb (Nat.lt_of_lt_of_le hrl HZ1.out)).trans HR1.out)
      have HZ2 : Hid (w1.heap.size ≤ w2.heap.size) := hb2.size
      have z0 := cells_of_block HX2.out 0
      have z1 := cells_of_block HX2.out 1
      have z2 := cells_of_block HX2.out 2
      have z3 := cells_of_block HX2.out 3
      simp at z0 z1 z2 z3
      obtain ⟨z0, -⟩ := z0
      obtain ⟨z1, g1⟩ := z1
      obtain ⟨z2, -⟩ := z2
      obtain ⟨z3, g3⟩ := z3
      clear hs2 hf2 hb2
      refine hK.out _ _ trivial (fun hH => ?_)
      clear hK K
      try simp only [Go.Tr.nz]
      refine wpAnyH_ready (rs := [7]) (by kernel_rfl) (by simp) (readyH rfl (fun K hK => ?_) AllReadyH.nil)
      rw [if_pos (by rfl)]
      go_simp
      refine hK.out _ _ trivial (fun hH => ?_)
      clear hK K
      try simp only [Go.Tr.nz]
      refine Go.Tr.tz 8 (v := ?_) rfl ?_ ?_
      rotate_left
      · intro W hW
        go_simp
        try with_reducible rfl
      try simp only [Go.Tr.nz]
      refine wpAnyH_ready (rs := [9]) (by kernel_rfl) (by simp) (readyH rfl (fun K hK => ?_) AllReadyH.nil)
      rw [if_pos (by rfl)]
      go_simp
      refine hK.out _ _ trivial (fun hH => ?_)
      clear hK K
      try simp only [Go.Tr.nz]
      refine wpAnyH_done (by kernel_rfl) ?_ _
      have HXC : Hid (((w2.setCell ⟨xb, 1, none⟩ (.slice a1 n1 c1)).setCell ⟨xb, 3, none⟩ (.slice a2 n2 c2)).heap[xb]? = some (.cells #[.int .i64 fx, .slice a1 n1 c1, .int .i64 rx, .slice a2 n2 c2] 60 (0, 0))) := by
        show _ = _
        simpa using block_setCell (block_setCell HX2.out 1 (.slice a1 n1 c1)) 3 (.slice a2 n2 c2)
      have hkc : ∀ k, k ≠ xb → ((w2.setCell ⟨xb, 1, none⟩ (.slice a1 n1 c1)).setCell ⟨xb, 3, none⟩ (.slice a2 n2 c2)).heap[k]? = w2.heap[k]? := fun k hk => by rw [Below.heap_setCell _ _ _ _ hk, Below.heap_setCell _ _ _ _ hk]
      have HBC : Hid (Below xb w ((w2.setCell ⟨xb, 1, none⟩ (.slice a1 n1 c1)).setCell ⟨xb, 3, none⟩ (.slice a2 n2 c2))) := (HB2.out.setCell (Nat.le_refl _) _).setCell (Nat.le_refl _) _
      have HZ3 : Hid (((w2.setCell ⟨xb, 1, none⟩ (.slice a1 n1 c1)).setCell ⟨xb, 3, none⟩ (.slice a2 n2 c2)).heap.size = w2.heap.size) := by show _ = _; simp [World.setCell]
      clear z0 z1 z2 z3 g1 g3
      generalize (w2.setCell ⟨xb, 1, none⟩ (.slice a1 n1 c1)).setCell ⟨xb, 3, none⟩ (.slice a2 n2 c2) = w3 at *
      have HRC := Lib.hid ((hkc rb HXR.out.2.2.symm).trans HR2.out)
      have HKC := Lib.hid hkc
      have z0 := (cells_of_block HXC.out 0).1
      have z1 := (cells_of_block HXC.out 1).1
      have z2 := (cells_of_block HXC.out 2).1
      have z3 := (cells_of_block HXC.out 3).1
      simp at z0 z1 z2 z3
      have r0 := cells_of_block HRC.out 0
      have r1 := cells_of_block HRC.out 1
      have r2 := cells_of_block HRC.out 2
      have r3 := cells_of_block HRC.out 3
      simp at r0 r1 r2 r3
      obtain ⟨r0, q0⟩ := r0
      obtain ⟨r1, q1⟩ := r1
      obtain ⟨r2, q2⟩ := r2
      obtain ⟨r3, q3⟩ := r3
      clear hkc
      go_wp2_with fail
      try simp only [Exit.inBlock, Exit.then]
      have hbk : ((((w3.setCell ⟨rb, 0, none⟩ (.int .i64 fx)).setCell ⟨rb, 1, none⟩ (.slice a1 n1 c1)).setCell ⟨rb, 2, none⟩ (.int .i64 rx)).setCell ⟨rb, 3, none⟩ (.slice a2 n2 c2)).heap[rb]? = some (.cells #[.int .i64 fx, .slice a1 n1 c1, .int .i64 rx, .slice a2 n2 c2] 60 (0, 0)) := by
        simpa using block_setCell (block_setCell (block_setCell (block_setCell HRC.out 0 (.int .i64 fx)) 1 (.slice a1 n1 c1)) 2 (.int .i64 rx)) 3 (.slice a2 n2 c2)
      have hend := own_end (c1 := c1) (c2 := c2) HFX.out HXE.out HXR.out hxl hrl HZ1.out HZ2.out HZ3.out HS2.out HSA.out HF1.out HF2.out HKC.out HBC.out
      exact bodyPost_ret (results_cell_row rfl _ _ rb _ _ _ _ rfl hbk Tryz.underlying60 rfl rfl) rfl ⟨_, rfl, hend.1, hend.2⟩
  · rw [if_pos (by rfl)]
    go_simp
    refine hK.out _ _ trivial (fun hH => ?_)
    clear hK K
    try simp only [Go.Tr.nz]
    refine wpAnyH_ready (rs := [1]) (by kernel_rfl) (by simp) (readyH rfl (fun K hK => ?_) AllReadyH.nil)
    rw [if_pos (by rfl)]
    go_simp
    refine hK.out _ _ trivial (fun hH => ?_)
    clear hK K
    try simp only [Go.Tr.nz]
    refine wpAnyH_ready (rs := [2]) (by kernel_rfl) (by simp) (readyH rfl (fun K hK => ?_) AllReadyH.nil)
    rw [if_pos (by rfl)]
    go_simp
    refine (HA.out _ HBA.out.drew).mono ?_
    rintro e w1 ⟨a1, c1, rfl, hs1, hf1, hb1⟩
    have HS1 := Lib.hid hs1
    have HF1 := Lib.hid hf1
    have HB1 : Hid (Below xb w w1) := HBA.out.drew.trans (hb1.mono (Nat.le_of_lt hxl))
    have HX1 := Lib.hid ((hb1.block xb hxl).trans HXB.out)
    have HR1 := Lib.hid ((hb1.block rb hrl).trans HRB.out)
    have HZ1 : Hid (wa.heap.size ≤ w1.heap.size) := hb1.size
    have y3 := (cells_of_block HX1.out 3).1
    simp at y3
    clear hs1 hf1 hb1
    refine hK.out _ _ trivial (fun hH => ?_)
    clear hK K
    try simp only [Go.Tr.nz]
    refine Go.Tr.tz 6 (v := ?_) rfl ?_ ?_
    rotate_left
    · intro W hW
      go_simp
      try with_reducible rfl
    try simp only [Go.Tr.nz]
    refine wpAnyH_ready (rs := [5]) (by kernel_rfl) (by simp) (readyH rfl (fun K hK => ?_) AllReadyH.nil)
    rw [if_pos (by rfl)]
    go_simp
    refine (HB.out _ HB1.out).mono ?_
    rintro e w2 ⟨a2, c2, rfl, hs2, hf2, hb2⟩
    have HS2 := Lib.hid hs2
    have HF2 := Lib.hid hf2
    have HB2 : Hid (Below xb w w2) := HB1.out.trans (hb2.mono (by have := HZ1.out; omega))
    have HSA : Hid (SeqAt w2 a1 (ns L.refs)) := HS1.out.below hb2 (Nat.le_refl _)
    have HX2 := Lib.hid ((hb2.block xb (Nat.lt_of_lt_of_le hxl HZ1.out)).trans HX1.out)
    have HR2 := Lib.hid ((hb2.block rb (Nat.lt_of_lt_of_le hrl HZ1.out)).trans HR1.out)
    have HZ2 : Hid (w1.heap.size ≤ w2.heap.size) := hb2.size
    have z0 := cells_of_block HX2.out 0
    have z1 := cells_of_block HX2.out 1
    have z2 := cells_of_block HX2.out 2
    have z3 := cells_of_block HX2.out 3
    simp at z0 z1 z2 z3
    obtain ⟨z0, -⟩ := z0
    obtain ⟨z1, g1⟩ := z1
    obtain ⟨z2, -⟩ := z2
    obtain ⟨z3, g3⟩ := z3
    clear hs2 hf2 hb2
    refine hK.out _ _ trivial (fun hH => ?_)
    clear hK K
    try simp only [Go.Tr.nz]
    refine wpAnyH_ready (rs := [7]) (by kernel_rfl) (by simp) (readyH rfl (fun K hK => ?_) AllReadyH.nil)
    rw [if_pos (by rfl)]
    go_simp
    refine hK.out _ _ trivial (fun hH => ?_)
    clear hK K
    try simp only [Go.Tr.nz]
    refine Go.Tr.tz 8 (v := ?_) rfl ?_ ?_
    rotate_left
    · intro W hW
      go_simp
      try with_reducible rfl
    try simp only [Go.Tr.nz]
    refine wpAnyH_ready (rs := [9]) (by kernel_rfl) (by simp) (readyH rfl (fun K hK => ?_) AllReadyH.nil)
    rw [if_pos (by rfl)]
    go_simp
    refine hK.out _ _ trivial (fun hH => ?_)
    clear hK K
    try simp only [Go.Tr.nz]
    refine wpAnyH_done (by kernel_rfl) ?_ _
    have HXC : Hid (((w2.setCell ⟨xb, 1, none⟩ (.slice a1 n1 c1)).setCell ⟨xb, 3, none⟩ (.slice a2 n2 c2)).heap[xb]? = some (.cells #[.int .i64 fx, .slice a1 n1 c1, .int .i64 rx, .slice a2 n2 c2] 60 (0, 0))) := by
      show _ = _
      simpa using block_setCell (block_setCell HX2.out 1 (.slice a1 n1 c1)) 3 (.slice a2 n2 c2)
    have hkc : ∀ k, k ≠ xb → ((w2.setCell ⟨xb, 1, none⟩ (.slice a1 n1 c1)).setCell ⟨xb, 3, none⟩ (.slice a2 n2 c2)).heap[k]? = w2.heap[k]? := fun k hk => by rw [Below.heap_setCell _ _ _ _ hk, Below.heap_setCell _ _ _ _ hk]
    have HBC : Hid (Below xb w ((w2.setCell ⟨xb, 1, none⟩ (.slice a1 n1 c1)).setCell ⟨xb, 3, none⟩ (.slice a2 n2 c2))) := (HB2.out.setCell (Nat.le_refl _) _).setCell (Nat.le_refl _) _
    have HZ3 : Hid (((w2.setCell ⟨xb, 1, none⟩ (.slice a1 n1 c1)).setCell ⟨xb, 3, none⟩ (.slice a2 n2 c2)).heap.size = w2.heap.size) := by show _ = _; simp [World.setCell]
    clear z0 z1 z2 z3 g1 g3
    generalize (w2.setCell ⟨xb, 1, none⟩ (.slice a1 n1 c1)).setCell ⟨xb, 3, none⟩ (.slice a2 n2 c2) = w3 at *
    have HRC := Lib.hid ((hkc rb HXR.out.2.2.symm).trans HR2.out)
    have HKC := Lib.hid hkc
    have z0 := (cells_of_block HXC.out 0).1
    have z1 := (cells_of_block HXC.out 1).1
    have z2 := (cells_of_block HXC.out 2).1
    have z3 := (cells_of_block HXC.out 3).1
    simp at z0 z1 z2 z3
    have r0 := cells_of_block HRC.out 0
    have r1 := cells_of_block HRC.out 1
    have r2 := cells_of_block HRC.out 2
    have r3 := cells_of_block HRC.out 3
    simp at r0 r1 r2 r3
    obtain ⟨r0, q0⟩ := r0
    obtain ⟨r1, q1⟩ := r1
    obtain ⟨r2, q2⟩ := r2
    obtain ⟨r3, q3⟩ := r3
    clear hkc
    go_wp2_with fail
    try simp only [Exit.inBlock, Exit.then]
    have hbk : ((((w3.setCell ⟨rb, 0, none⟩ (.int .i64 fx)).setCell ⟨rb, 1, none⟩ (.slice a1 n1 c1)).setCell ⟨rb, 2, none⟩ (.int .i64 rx)).setCell ⟨rb, 3, none⟩ (.slice a2 n2 c2)).heap[rb]? = some (.cells #[.int .i64 fx, .slice a1 n1 c1, .int .i64 rx, .slice a2 n2 c2] 60 (0, 0)) := by
      simpa using block_setCell (block_setCell (block_setCell (block_setCell HRC.out 0 (.int .i64 fx)) 1 (.slice a1 n1 c1)) 2 (.int .i64 rx)) 3 (.slice a2 n2 c2)
    have hend := own_end (c1 := c1) (c2 := c2) HFX.out HXE.out HXR.out hxl hrl HZ1.out HZ2.out HZ3.out HS2.out HSA.out HF1.out HF2.out HKC.out HBC.out
    exact bodyPost_ret (results_cell_row rfl _ _ rb _ _ _ _ rfl hbk Tryz.underlying60 rfl rfl) rfl ⟨_, rfl, hend.1, hend.2⟩
end Go.Proofs.YtcdpnfchmpncjaaGreatDoor

namespace Go.Proofs.YtcdpnfchmpncjaaGreatDoor
open Go.RowKit Go.Tr Go.Shelf
variable {w w' : World} {F G : Nat → Prop} {b : Nat} {L : Lay}
def Bk0 (w : World) (F : Nat → Prop) (b : Nat) : Prop := F b ∧ w.heap[b]? = some (.cells #[.slice none 0 0] 150 (0, 0))
def Bk1 (w : World) (F : Nat → Prop) (b : Nat) (L : Lay) : Prop := F b ∧ ∃ lb lo cap ra rc sa sc, w.heap[b]? = some (.cells #[.slice (some ⟨lb, lo, none⟩) 1 cap] 150 (0, 0)) ∧ F lb ∧ lb ≠ b ∧ LayF w (.agg #[.int .i64 (L.fixed : Nat), .slice ra L.refs.length rc, .int .i64 (L.record : Nat), .slice sa L.recs.length sc]) L F ∧
  w.cell? ⟨lb, lo, none⟩ = some (.int .i64 (L.fixed : Nat)) ∧ w.cell? ⟨lb, lo + 1, none⟩ = some (.slice ra L.refs.length rc) ∧ w.cell? ⟨lb, lo + 2, none⟩ = some (.int .i64 (L.record : Nat)) ∧ w.cell? ⟨lb, lo + 3, none⟩ = some (.slice sa L.recs.length sc)
theorem _root_.Go.Tr.LayF.kept {v : Value} (h : LayF w v L F) (hk : ∀ k, F k → k < w.heap.size → w'.heap[k]? = w.heap[k]?) : LayF w' v L F := by
  obtain ⟨ra, rc, sa, sc, e, h1, h2, h3, h4⟩ := h
  have hkeep : ∀ {a : Option Addr} {xs : List Value}, SeqAt w a xs → (∀ b o, a = some ⟨b, o, none⟩ → F b) → SeqAt w' a xs := fun h hf h0 => by
    obtain ⟨b, off, e, hc⟩ := h h0
    refine ⟨b, off, e, fun j hj => ?_⟩
    have h5 := hc j hj
    rw [World.cell?_of_block (a := ⟨b, off + j, none⟩) (hk b (hf b off e) (World.block_lt_of_cell? w _ h5))]
    exact h5
  exact ⟨ra, rc, sa, sc, e, hkeep h1 h3, hkeep h2 h4, h3, h4⟩
theorem _root_.Go.Tr.LayF.mono {v : Value} (h : LayF w v L F) (hs : ∀ k, F k → G k) : LayF w v L G := by
  obtain ⟨ra, rc, sa, sc, e, h1, h2, h3, h4⟩ := h
  exact ⟨ra, rc, sa, sc, e, h1, h2, fun b o e => hs _ (h3 b o e), fun b o e => hs _ (h4 b o e)⟩
theorem Bk1.kept (h : Bk1 w F b L) (hk : ∀ k, F k → k < w.heap.size → w'.heap[k]? = w.heap[k]?) : Bk1 w' F b L := by
  obtain ⟨h1, lb, lo, cap, ra, rc, sa, sc, h2, h3, h4, h5, c0, c1, c2, c3⟩ := h
  have hb := hk lb h3 (World.block_lt_of_cell? w _ c0)
  exact ⟨h1, lb, lo, cap, ra, rc, sa, sc, (hk b h1 (Array.getElem?_eq_some_iff.1 h2).1).trans h2, h3, h4, h5.kept hk, (World.cell?_of_block (a := ⟨lb, lo, none⟩) hb).trans c0, (World.cell?_of_block (a := ⟨lb, lo + 1, none⟩) hb).trans c1, (World.cell?_of_block (a := ⟨lb, lo + 2, none⟩) hb).trans c2, (World.cell?_of_block (a := ⟨lb, lo + 3, none⟩) hb).trans c3⟩
theorem Bk0.kept (h : Bk0 w F b) (hk : ∀ k, F k → k < w.heap.size → w'.heap[k]? = w.heap[k]?) : Bk0 w' F b := ⟨h.1, (hk b h.1 (Array.getElem?_eq_some_iff.1 h.2).1).trans h.2⟩
theorem _root_.Go.Tr.SeqAt.off {a : Option Addr} {xs : List Value} (h : SeqAt w a xs) (rb : Nat) (hf : ∀ b o, a = some ⟨b, o, none⟩ → b ≠ rb) : ∀ W : World, (∀ k, k ≠ rb → W.heap[k]? = w.heap[k]?) → SeqAt W a xs := fun W hk h0 => by
  obtain ⟨b, off, e, hc⟩ := h h0
  refine ⟨b, off, e, fun j hj => ?_⟩
  rw [World.cell?_of_block (a := ⟨b, off + j, none⟩) (hk b (hf b off e))]
  exact hc j hj
theorem infoLay : (Tryz.prog.info? 60).map (fun i => (i.zero, i.size, i.bytes)) = some (some (.agg #[.int .i64 0, .slice none 0 0, .int .i64 0, .slice none 0 0]), 4, 64) := by kernel_rfl
set_option maxRecDepth 100000 in
theorem lbook_any (w : World) : Calls Tryz.prog 75 #[] w fun e w' => e = .returned (.pointer (some ⟨w.heap.size, 0, none⟩)) ∧ Bk0 w' (fun k => w.heap.size ≤ k ∧ k < w'.heap.size) w.heap.size ∧ Below w.heap.size w w' := by
  go_enter Tryz.func75, Tryz.ntmps75
  go_wp2
  go_ret
  exact ⟨rfl, ⟨⟨Nat.le_refl _, by simp⟩, heap_alloc_new w _⟩, (Below.refl _ w).alloc (Nat.le_refl _) _⟩
set_option maxRecDepth 100000 in
theorem lget_any (w : World) (h : Bk1 w F b L) (hl1 : L.refs.length ≤ 1000) (hl2 : L.recs.length ≤ 1000) : Calls Tryz.prog 86 #[.pointer (some ⟨b, 0, none⟩), .int .i64 1] w fun e w' => ∃ v, e = .returned (.tuple #[v, .int .i64 0]) ∧ LayF w' v L (fun k => w.heap.size ≤ k ∧ k < w'.heap.size) ∧ Below w.heap.size w w' := by
  obtain ⟨hF, lb, lo, cap, ra, rc, sa, sc, hb, hlb, hne, hlay, c0, c1, c2, c3⟩ := h
  obtain ⟨fx, hfx⟩ : ∃ fx, fx = L.fixed := ⟨_, rfl⟩
  obtain ⟨rx, hrx⟩ : ∃ rx, rx = L.record := ⟨_, rfl⟩
  obtain ⟨n1, hn1⟩ : ∃ n1, n1 = L.refs.length := ⟨_, rfl⟩
  obtain ⟨n2, hn2⟩ : ∃ n2, n2 = L.recs.length := ⟨_, rfl⟩
  rw [← hfx, ← hrx, ← hn1, ← hn2] at hlay
  rw [← hfx] at c0
  rw [← hn1] at c1
  rw [← hrx] at c2
  rw [← hn2] at c3
  have HOWN : Hid (∀ W : World, Below w.heap.size w W → Calls Tryz.prog 83 #[.agg #[.int .i64 fx, .slice ra n1 rc, .int .i64 rx, .slice sa n2 sc]] W fun e w' => ∃ v', e = .returned v' ∧ LayF w' v' L (fun k => W.heap.size ≤ k ∧ k < w'.heap.size) ∧ Below W.heap.size W w') := fun W hb => lown_any W (hlay.at.kept hb) hl1 hl2
  have HBA : Hid (Below w.heap.size w (w.alloc (.cells #[.int .i64 0, .slice none 0 0, .int .i64 0, .slice none 0 0] 60))) := (Below.refl _ w).alloc (Nat.le_refl _) _
  obtain ⟨rb, hrb⟩ : ∃ rb, rb = w.heap.size := ⟨_, rfl⟩
  have HRB : Hid ((w.alloc (.cells #[.int .i64 0, .slice none 0 0, .int .i64 0, .slice none 0 0] 60)).heap[rb]? = some (.cells #[.int .i64 0, .slice none 0 0, .int .i64 0, .slice none 0 0] 60 (0, 0))) := by rw [hrb]; exact heap_alloc_new w _
  have b0 := (cells_of_block hb 0).1
  simp at b0
  have hbl := (Array.getElem?_eq_some_iff.1 hb).1
  have hll := World.block_lt_of_cell? w _ c0
  have d0 := fun u => (World.cell?_of_block (a := ⟨b, 0, none⟩) (Below.heap_alloc w u b hbl)).trans b0
  have d1 := fun u => (World.cell?_of_block (a := ⟨lb, lo, none⟩) (Below.heap_alloc w u lb hll)).trans c0
  have d2 := fun u => (World.cell?_of_block (a := ⟨lb, lo + 1, none⟩) (Below.heap_alloc w u lb hll)).trans c1
  have d3 := fun u => (World.cell?_of_block (a := ⟨lb, lo + 2, none⟩) (Below.heap_alloc w u lb hll)).trans c2
  have d4 := fun u => (World.cell?_of_block (a := ⟨lb, lo + 3, none⟩) (Below.heap_alloc w u lb hll)).trans c3
  clear hlay c0 c1 c2 c3 hb b0 hfx hrx hn1 hn2 hl1 hl2 hbl hll hne
  go_enter Tryz.func86, Tryz.ntmps86
  go_wp2_with fail
  have HRE : Hid (rb = w.heap.size) := hrb
  rw [← hrb]
  clear hrb d0 d1 d2 d3 d4
  generalize w.alloc (.cells #[.int .i64 0, .slice none 0 0, .int .i64 0, .slice none 0 0] 60) = wa at *
  refine (HOWN.out wa HBA.out).mono ?_
  rintro e w1 ⟨v', rfl, hlf, hb1⟩
  obtain ⟨ra', rc', sa', sc', rfl, hsA, hsB, hgA, hgB⟩ := hlf
  have HB1 : Hid (Below w.heap.size w w1) := HBA.out.trans (hb1.mono HBA.out.size)
  have HR1 := Lib.hid ((hb1.block rb (Array.getElem?_eq_some_iff.1 HRB.out).1).trans HRB.out)
  have hrl := (Array.getElem?_eq_some_iff.1 HRB.out).1
  have HSA := Lib.hid (hsA.off rb (fun q o e => by have := (hgA q o e).1; omega))
  have HSB := Lib.hid (hsB.off rb (fun q o e => by have := (hgB q o e).1; omega))
  have r0 := cells_of_block HR1.out 0
  have r1 := cells_of_block HR1.out 1
  have r2 := cells_of_block HR1.out 2
  have r3 := cells_of_block HR1.out 3
  simp at r0 r1 r2 r3
  obtain ⟨r0, q0⟩ := r0
  obtain ⟨r1, q1⟩ := r1
  obtain ⟨r2, q2⟩ := r2
  obtain ⟨r3, q3⟩ := r3
  have HGA : Hid (∀ q o, ra' = some ⟨q, o, none⟩ → w.heap.size ≤ q ∧ q < w1.heap.size) := fun q o e => by have := hgA q o e; have := HBA.out.size; omega
  have HGB : Hid (∀ q o, sa' = some ⟨q, o, none⟩ → w.heap.size ≤ q ∧ q < w1.heap.size) := fun q o e => by have := hgB q o e; have := HBA.out.size; omega
  clear hsA hsB hgA hgB hb1 hrl
  go_wp2_with fail
  try simp only [Exit.inBlock, Exit.then]
  have hbk : ((((w1.setCell ⟨rb, 0, none⟩ (.int .i64 L.fixed)).setCell ⟨rb, 1, none⟩ (.slice ra' L.refs.length rc')).setCell ⟨rb, 2, none⟩ (.int .i64 L.record)).setCell ⟨rb, 3, none⟩ (.slice sa' L.recs.length sc')).heap[rb]? = some (.cells #[.int .i64 L.fixed, .slice ra' L.refs.length rc', .int .i64 L.record, .slice sa' L.recs.length sc'] 60 (0, 0)) := by
    simpa using block_setCell (block_setCell (block_setCell (block_setCell HR1.out 0 (.int .i64 L.fixed)) 1 (.slice ra' L.refs.length rc')) 2 (.int .i64 L.record)) 3 (.slice sa' L.recs.length sc')
  have hk : ∀ k, k ≠ rb → ((((w1.setCell ⟨rb, 0, none⟩ (.int .i64 L.fixed)).setCell ⟨rb, 1, none⟩ (.slice ra' L.refs.length rc')).setCell ⟨rb, 2, none⟩ (.int .i64 L.record)).setCell ⟨rb, 3, none⟩ (.slice sa' L.recs.length sc')).heap[k]? = w1.heap[k]? := fun k hn => by rw [Below.heap_setCell _ _ _ _ hn, Below.heap_setCell _ _ _ _ hn, Below.heap_setCell _ _ _ _ hn, Below.heap_setCell _ _ _ _ hn]
  have e : w.heap.size ≤ rb := Nat.le_of_eq HRE.out.symm
  exact bodyPost_ret (results_blk rfl _ _ rb _ _ _ _ rfl hbk Tryz.underlying60 rfl rfl) rfl ⟨_, rfl, ⟨ra', rc', sa', sc', rfl, HSA.out _ hk, HSB.out _ hk, fun q o e => by have := HGA.out q o e; simpa [World.setCell] using this, fun q o e => by have := HGB.out q o e; simpa [World.setCell] using this⟩, (((HB1.out.setCell e _).setCell e _).setCell e _).setCell e _⟩
end Go.Proofs.YtcdpnfchmpncjaaGreatDoor

namespace Go.Proofs.YtcdpnfchmpncjaaGreatDoor
open Go.RowKit Go.Tr Go.Shelf
def _root_.Go.Tr.slotsL (L : Lay) (count : Nat) : List Nat := L.refs ++ (List.range count).flatMap (fun i => L.recs.map (L.fixed + i * L.record + ·))
theorem _root_.Go.Tr.flat_pre {g : Nat → List Nat} {i count : Nat} (hi : i ≤ count) : (List.range i).flatMap g <+: (List.range count).flatMap g := by
  have h : List.range count = List.range i ++ (List.range count).drop i := by
    have := List.take_append_drop i (List.range count)
    rw [List.take_range, Nat.min_eq_left hi] at this
    exact this.symm
  rw [h, List.flatMap_append]
  exact List.prefix_append _ _
theorem _root_.Go.Tr.flat_next {g : Nat → List Nat} {i : Nat} : (List.range (i + 1)).flatMap g = (List.range i).flatMap g ++ g i := by
  rw [List.range_succ, List.flatMap_append]; simp
theorem _root_.Go.Tr.slots_pre (L : Lay) {i count : Nat} (hi : i < count) (k : Nat) : L.refs ++ (List.range i).flatMap (fun i => L.recs.map (L.fixed + i * L.record + ·)) ++ (L.recs.take k).map (L.fixed + i * L.record + ·) <+: slotsL L count := by
  rw [List.append_assoc]
  refine (List.prefix_append_right_inj _).2 ?_
  refine List.IsPrefix.trans ?_ (flat_pre (i := i + 1) hi)
  rw [flat_next]
  exact (List.prefix_append_right_inj _).2 ((List.take_prefix _ _).map _)
def KeepT (T : Nat → Prop) (W W' : World) : Prop := W.heap.size ≤ W'.heap.size ∧ ∀ k, T k → W'.heap[k]? = W.heap[k]?
theorem KeepT.trans {T : Nat → Prop} {A B C : World} (h : KeepT T A B) (k : KeepT T B C) : KeepT T A C := ⟨Nat.le_trans h.1 k.1, fun i hi => (k.2 i hi).trans (h.2 i hi)⟩
theorem SeqAt.keepT {T : Nat → Prop} {W W' : World} {a : Option Addr} {xs : List Value} (h : SeqAt W a xs) (hT : ∀ q o, a = some ⟨q, o, none⟩ → T q) (hk : KeepT T W W') : SeqAt W' a xs := fun h0 => by
  obtain ⟨q, o, e, hc⟩ := h h0
  exact ⟨q, o, e, fun j hj => (World.cell?_of_block (a := ⟨q, o + j, none⟩) (hk.2 q (hT q o e))).trans (hc j hj)⟩
set_option maxRecDepth 100000 in
set_option maxHeartbeats 4000000 in
theorem slots1 {T : Nat → Prop} (l bl bc count : Nat) (L : Lay) (a1 a2 : Option Addr) (c1 c2 : Nat) (J : List Nat → World → Prop) (W : World)
    (hbl : W.heap[bl]? = some (.cells #[.int .i64 (L.fixed : Nat), .slice a1 L.refs.length c1, .int .i64 (L.record : Nat), .slice a2 L.recs.length c2] 60 (0, 0))) (hbc : W.heap[bc]? = some (.cells #[.int .i64 count] 3 (0, 0)))
    (hs1 : SeqAt W a1 (ns L.refs)) (hs2 : SeqAt W a2 (ns L.recs)) (ht1 : ∀ q o, a1 = some ⟨q, o, none⟩ → T q) (ht2 : ∀ q o, a2 = some ⟨q, o, none⟩ → T q) (htl : T bl) (htc : T bc) (htb : ∀ k, T k → k < W.heap.size)
    (hr : RightLay L) (hc : count ≤ 1024) (hcr : count = 0 ∨ L.record ≠ 0) (hsz : L.size count < 8192)
    (hJ : ∀ pre A B, J pre A → Below A.heap.size A B → J pre B)
    (hY : ∀ pre x W1, J pre W1 → pre ++ [x] <+: slotsL L count → YieldAt Fence.wide 1 Tryz.prog l #[.int .i64 (x : Nat)] W1 fun e W' => e = .returned (.bool true) ∧ J (pre ++ [x]) W' ∧ KeepT T W1 W')
    (h0 : J [] W) :
    CallsIn Fence.wide 2 Tryz.prog 207 (#[.func (.yield l) #[] #[]] ++ #[.pointer (some ⟨bl, 0, none⟩), .pointer (some ⟨bc, 0, none⟩)]) W fun e W' => (∃ v, e = .returned v) ∧ J (slotsL L count) W' := by
  have HSZ := Lib.hid (callsIn_wide (n := 1).2 (lsize_any (v := .agg #[.int .i64 (L.fixed : Nat), .slice a1 L.refs.length c1, .int .i64 (L.record : Nat), .slice a2 L.recs.length c2]) count W ⟨a1, c1, a2, c2, rfl, hs1, hs2⟩ hr hc hcr hsz))
  have b0 := (cells_of_block hbl 0).1
  have b1 := (cells_of_block hbl 1).1
  have b2 := (cells_of_block hbl 2).1
  have b3 := (cells_of_block hbl 3).1
  have d0 := (cells_of_block hbc 0).1
  simp at b0 b1 b2 b3 d0
  have HBL := Lib.hid hbl
  have HBC := Lib.hid hbc
  have HS1 := Lib.hid hs1
  have HS2 := Lib.hid hs2
  have HT1 := Lib.hid ht1
  have HT2 := Lib.hid ht2
  have HTB := Lib.hid htb
  have HR := Lib.hid hr
  have HJ := Lib.hid hJ
  have HY := Lib.hid hY
  have H0 := Lib.hid h0
  clear hbl hbc hs1 hs2 ht1 ht2 htb hr hJ hY h0
  refine callsIn_of_wp Tryz.func207 rfl trivial ?_ rfl
  simp only [Tryz.ntmps207, List.size_toArray, List.length_cons, List.length_nil, Nat.reduceAdd, Nat.reduceSub, Array.replicate_succ, Array.replicate_zero, List.push_toArray, List.append_toArray, List.nil_append, List.cons_append]
  gi_wp2_with fail
  refine ⟨trivial, HSZ.out.mono ?_⟩
  rintro e w1 ⟨rfl, hb⟩
  have HBL1 := Lib.hid ((hb.block bl (Array.getElem?_eq_some_iff.1 HBL.out).1).trans HBL.out)
  have HS11 : Hid (SeqAt w1 a1 (ns L.refs)) := HS1.out.below hb (Nat.le_refl _)
  have HS21 : Hid (SeqAt w1 a2 (ns L.recs)) := HS2.out.below hb (Nat.le_refl _)
  have HJ1 : Hid (J [] w1) := HJ.out _ _ _ H0.out hb
  have b0 := (cells_of_block HBL1.out 0).1
  have b1 := (cells_of_block HBL1.out 1).1
  simp at b0 b1
  obtain ⟨n1, hn1⟩ : ∃ n1, n1 = L.refs.length := ⟨_, rfl⟩
  obtain ⟨n2, hn2⟩ : ∃ n2, n2 = L.recs.length := ⟨_, rfl⟩
  obtain ⟨fx, hfx⟩ : ∃ fx, fx = L.fixed := ⟨_, rfl⟩
  obtain ⟨rx, hrx⟩ : ∃ rx, rx = L.record := ⟨_, rfl⟩
  obtain ⟨sz, hsze⟩ : ∃ sz, sz = L.size count := ⟨_, rfl⟩
  have HN1 := Lib.hid hn1
  have HN2 := Lib.hid hn2
  have HFX := Lib.hid hfx
  have HRX := Lib.hid hrx
  have HSE := Lib.hid hsze
  rw [← hfx] at b0
  rw [← hn1] at b1
  rw [← hsze] at hsz ⊢
  have hl1 : n1 ≤ 1000 := by rw [hn1]; have := risesN_len HR.out.refs (N := 64) HR.out.f; omega
  have hl2 : n2 ≤ 1000 := by rw [hn2]; have := risesN_len HR.out.recs (N := 64) HR.out.r; omega
  clear hn1 hn2 hfx hrx hsze hb H0
  have hfx64 : fx ≤ 64 := by rw [HFX.out]; exact HR.out.f
  have hrx64 : rx ≤ 64 := by rw [HRX.out]; exact HR.out.r
  have hszr : sz = fx + count * rx := by rw [HSE.out, HFX.out, HRX.out]; rfl
  have HSZR := Lib.hid hszr
  rw [← HRX.out] at hcr
  clear hszr b2 b3 d0
  have HAT : Hid (∀ wr, KeepT T w1 wr → wr.heap[bl]? = some (.cells #[.int .i64 fx, .slice a1 n1 c1, .int .i64 rx, .slice a2 n2 c2] 60 (0, 0)) ∧ SeqAt wr a1 (ns L.refs) ∧ SeqAt wr a2 (ns L.recs)) := fun wr hk => ⟨(hk.2 bl htl).trans (by rw [HBL1.out, HFX.out, HRX.out, HN1.out, HN2.out]), SeqAt.keepT HS11.out HT1.out hk, SeqAt.keepT HS21.out HT2.out hk⟩
  gi_wp2_with fail
  gi_loopw [22] (fun i wr => ∃ k : Nat, k ≤ n1 ∧ i = .int .i64 k ∧ Hid (J (L.refs.take k) wr) ∧ Hid (KeepT T w1 wr)) (fun i _ => n1 - (intOf i).toNat)
  case atStart => exact ⟨0, Nat.zero_le _, rfl, HJ1, ⟨Nat.le_refl _, fun _ _ => rfl⟩⟩
  case round =>
    obtain ⟨k, hk, rfl, HJK, HK⟩ := hrel
    by_cases hlt : k < n1
    · obtain ⟨b, off, x, rfl, hcx, HX⟩ := (HAT.out wr HK.out).2.1.n (k := k) (by rw [← HN1.out]; exact hlt)
      have HTK : Hid (L.refs.take (k + 1) = L.refs.take k ++ [x]) := take_next HX.out
      have hpre : L.refs.take k ++ [x] <+: slotsL L count := by rw [← HTK.out]; exact (List.take_prefix _ _).trans (List.prefix_append _ _)
      obtain ⟨fn, tmps, assign, body, hy, hR⟩ := HY.out _ x wr HJK.out hpre
      have HRR := Lib.hid hR
      clear hpre hR
      gi_wp2_with fail
      refine HRR.out.mono ?_
      rintro e W3 ⟨rfl, hJ3, hk3⟩
      have HJ3 : Hid (J (L.refs.take (k + 1)) W3) := by rw [HTK.out]; exact hJ3
      have HK3 : Hid (KeepT T w1 W3) := HK.out.trans hk3
      clear hJ3 hk3
      gi_wp2_with fail
      go_roundw
      case rel => exact ⟨k + 1, by omega, by simp, HJ3, HK3⟩
      case measure => simp [intOf]; omega
    · obtain rfl : k = n1 := by omega
      have HJA : Hid (J L.refs wr) := by have := HJK.out; rw [List.take_of_length_le (by rw [HN1.out]; exact Nat.le_refl _)] at this; exact this
      clear hlt HJK HJ1 HBL1 HS11 HS21 b0 b1
      have b0 := (cells_of_block (HAT.out wr HK.out).1 0).1
      simp at b0
      gi_wp2_with fail
      gi_loopw [8] (fun v wq => ∃ i : Nat, i ≤ count ∧ v = .int .i64 (fx + i * rx : Nat) ∧ Hid (J (L.refs ++ (List.range i).flatMap (fun i => L.recs.map (L.fixed + i * L.record + ·))) wq) ∧ Hid (KeepT T w1 wq)) (fun v _ => if rx = 0 then 0 else sz + rx - (intOf v).toNat)
      case atStart => exact ⟨0, Nat.zero_le _, by simp, by simpa using HJA, HK⟩
      case round =>
        obtain ⟨i, hi, rfl, HJI, HKI⟩ := hrel
        by_cases hlt2 : i < count
        · have hrx0 : rx ≠ 0 := by omega
          have hmul : (i + 1) * rx ≤ count * rx := Nat.mul_le_mul_right _ hlt2
          rw [Nat.add_mul, Nat.one_mul] at hmul
          obtain ⟨fr, hfr⟩ : ∃ fr, fr = fx + i * rx := ⟨_, rfl⟩
          have hsz2 := HSZR.out
          have hfr2 : fr + rx ≤ sz := by omega
          have HFR : Hid (fr = L.fixed + i * L.record) := by rw [← HFX.out, ← HRX.out]; exact hfr
          rw [← hfr]
          clear hmul hsz2
          have hlt3 : (fr : Int) < (sz : Int) := by omega
          have b3 := (cells_of_block (HAT.out wr HKI.out).1 3).1
          simp at b3
          have HFE := Lib.hid hfr
          clear hfr
          gi_wp2_with fail
          gi_loopw [43] (fun v wq => ∃ j : Nat, j ≤ n2 ∧ v = .int .i64 j ∧ Hid (J (L.refs ++ (List.range i).flatMap (fun i => L.recs.map (L.fixed + i * L.record + ·)) ++ (L.recs.take j).map (L.fixed + i * L.record + ·)) wq) ∧ Hid (KeepT T w1 wq)) (fun v _ => n2 - (intOf v).toNat)
          case atStart => exact ⟨0, Nat.zero_le _, rfl, by simpa using HJI, HKI⟩
          case round =>
            obtain ⟨j, hj, rfl, HJJ, HKJ⟩ := hrel
            by_cases hlt4 : j < n2
            · obtain ⟨b, off, x, rfl, hcx, HX⟩ := (HAT.out wr HKJ.out).2.2.n (k := j) (by rw [← HN2.out]; exact hlt4)
              have hx64 : x < rx := by rw [HRX.out]; exact HR.out.recs.1 x (List.mem_of_getElem? HX.out)
              have HTK : Hid ((L.recs.take (j + 1)).map (L.fixed + i * L.record + ·) = (L.recs.take j).map (L.fixed + i * L.record + ·) ++ [fr + x]) := by
                show _ = _
                rw [take_next HX.out, List.map_append, HFR.out]; rfl
              have hpre := slots_pre L hlt2 (j + 1)
              rw [HTK.out, ← List.append_assoc] at hpre
              have hY2 := HY.out _ (fr + x) wr HJJ.out hpre
              rw [Int.natCast_add] at hY2
              obtain ⟨fn, tmps, assign, body, hy, hR⟩ := hY2
              have HRR := Lib.hid hR
              clear hpre hR
              gi_wp2_with fail
              refine HRR.out.mono ?_
              rintro e W3 ⟨rfl, hJ3, hk3⟩
              have HJ3 : Hid (J (L.refs ++ (List.range i).flatMap (fun i => L.recs.map (L.fixed + i * L.record + ·)) ++ (L.recs.take (j + 1)).map (L.fixed + i * L.record + ·)) W3) := by rw [HTK.out, ← List.append_assoc]; exact hJ3
              have HK3 : Hid (KeepT T w1 W3) := HKJ.out.trans hk3
              clear hJ3 hk3
              gi_wp2_with fail
              go_roundw
              case rel => exact ⟨j + 1, by omega, by simp, HJ3, HK3⟩
              case measure => simp [intOf]; omega
            · obtain rfl : j = n2 := by omega
              have HJB : Hid (J (L.refs ++ (List.range (i + 1)).flatMap (fun i => L.recs.map (L.fixed + i * L.record + ·))) wr) := by
                have := HJJ.out
                rw [List.take_of_length_le (by rw [HN2.out]; exact Nat.le_refl _), List.append_assoc] at this
                rw [flat_next]
                exact this
              have b2 := (cells_of_block (HAT.out wr HKJ.out).1 2).1
              simp at b2
              clear HJJ
              gi_wp2_with fail
              go_roundw
              case rel => exact ⟨i + 1, by omega, by rw [HFE.out, Nat.add_mul, Nat.one_mul, ← Nat.add_assoc]; push_cast; rfl, HJB, HKJ⟩
              case measure => rw [if_neg hrx0, if_neg hrx0]; simp [intOf]; omega
        · obtain rfl : i = count := by omega
          have HJE : Hid (J (slotsL L i) wr) := HJI
          have hge : ¬ ((fx + i * rx : Nat) : Int) < (sz : Int) := by rw [HSZR.out]; omega
          clear HJI
          generalize fx + i * rx = fr at *
          gi_wp2_with fail
          go_end0
          exact ⟨⟨_, rfl⟩, HJE.out⟩
theorem seqAt_fields {w w' : World} {bl : Nat} {cs : Array Value} {Tp : TypeId} (h : w.heap[bl]? = some (.cells cs Tp (0, 0))) (hb : Below w.heap.size w w') : w'.heap[bl]? = some (.cells cs Tp (0, 0)) := (hb.block bl (Array.getElem?_eq_some_iff.1 h).1).trans h
theorem slots_seq {T : Nat → Prop} (bl bc count : Nat) (L : Lay) (a1 a2 : Option Addr) (c1 c2 : Nat) (w : World)
    (hbl : w.heap[bl]? = some (.cells #[.int .i64 (L.fixed : Nat), .slice a1 L.refs.length c1, .int .i64 (L.record : Nat), .slice a2 L.recs.length c2] 60 (0, 0))) (hbc : w.heap[bc]? = some (.cells #[.int .i64 count] 3 (0, 0)))
    (hs1 : SeqAt w a1 (ns L.refs)) (hs2 : SeqAt w a2 (ns L.recs)) (ht1 : ∀ q o, a1 = some ⟨q, o, none⟩ → T q) (ht2 : ∀ q o, a2 = some ⟨q, o, none⟩ → T q) (htl : T bl) (htc : T bc) (htb : ∀ k, T k → k < w.heap.size)
    (hr : RightLay L) (hc : count ≤ 1024) (hcr : count = 0 ∨ L.record ≠ 0) (hsz : L.size count < 8192) :
    SeqAll (fun _ A B => Below A.heap.size A B) (KeepT T) Tryz.prog 207 #[.pointer (some ⟨bl, 0, none⟩), .pointer (some ⟨bc, 0, none⟩)] (fun x : Nat => #[.int .i64 (x : Nat)]) (slotsL L count) w :=
  fun l J W hW hSt hY h0 => slots1 l bl bc count L a1 a2 c1 c2 J W (seqAt_fields hbl hW) (seqAt_fields hbc hW) (hs1.below hW (Nat.le_refl _)) (hs2.below hW (Nat.le_refl _)) ht1 ht2 htl htc (fun k hk => Nat.lt_of_lt_of_le (htb k hk) hW.size) hr hc hcr hsz hSt hY h0
set_option maxRecDepth 100000 in
theorem lslots_any (count : Nat) (v1 v2 v3 v4 : Value) (w : World) : Calls Tryz.prog 194 #[.agg #[v1, v2, v3, v4], .int .i64 count] w fun e w' => ∃ bl bc, e = .returned (.func (.func 207) #[] #[.pointer (some ⟨bl, 0, none⟩), .pointer (some ⟨bc, 0, none⟩)]) ∧ w'.heap[bl]? = some (.cells #[v1, v2, v3, v4] 60 (0, 0)) ∧ w'.heap[bc]? = some (.cells #[.int .i64 count] 3 (0, 0)) ∧ w.heap.size ≤ bl ∧ w.heap.size ≤ bc ∧ Below w.heap.size w w' := by
  go_enter Tryz.func194, Tryz.ntmps194
  go_wp2
  go_ret
  refine ⟨_, _, rfl, ?_, ?_, ?_, ?_, ((Below.refl _ w).alloc (Nat.le_refl _) _).alloc (by simp) _⟩
  · exact (Below.heap_alloc _ _ _ (by simp)).trans (heap_alloc_new w _)
  · have := heap_alloc_new (w.alloc (.cells #[v1, v2, v3, v4] 60)) (.cells #[.int .i64 count] 3)
    rwa [World.size_alloc] at this
  · simp
  · simp
end Go.Proofs.YtcdpnfchmpncjaaGreatDoor

namespace Go.Proofs.YtcdpnfchmpncjaaGreatDoor
open Go.RowKit Go.Tr Go.Shelf
variable {w w' : World} {F G : Nat → Prop} {b : Nat} {L : Lay}
set_option maxRecDepth 100000 in
theorem ladd_any {v : Value} (w : World) (h : Bk0 w F b) (hv : LayAt w v L) (hr : RightLay L) : Calls Tryz.prog 33 #[.pointer (some ⟨b, 0, none⟩), v] w fun e w' => e = .returned (.tuple #[.int .i64 1, .int .i64 0]) ∧ Bk1 w' (grow F w w') b L ∧ Only F w w' := by
  obtain ⟨i0, hi, hz0, hz1, hz2⟩ := info_parts infoLay
  have hl1 : L.refs.length ≤ 1000 := risesN_len hr.refs (by have := hr.f; omega)
  have hl2 : L.recs.length ≤ 1000 := risesN_len hr.recs (by have := hr.r; omega)
  have HRT : Hid (∀ W : World, Below w.heap.size w W → Calls Tryz.prog 82 #[v] W fun e w' => e = .returned (.bool true) ∧ Below W.heap.size W w') := fun W hb => lright_any W (hv.kept hb) hr
  have HOWN : Hid (∀ W : World, Below w.heap.size w W → Calls Tryz.prog 83 #[v] W fun e w' => ∃ v', e = .returned v' ∧ LayF w' v' L (fun k => W.heap.size ≤ k ∧ k < w'.heap.size) ∧ Below W.heap.size W w') := fun W hb => lown_any W (hv.kept hb) hl1 hl2
  obtain ⟨ra, rc, sa, sc, rfl, -, -⟩ := hv
  obtain ⟨hF, hb⟩ := h
  obtain ⟨fx, hfx⟩ : ∃ fx, fx = L.fixed := ⟨_, rfl⟩
  obtain ⟨rx, hrx⟩ : ∃ rx, rx = L.record := ⟨_, rfl⟩
  obtain ⟨n1, hn1⟩ : ∃ n1, n1 = L.refs.length := ⟨_, rfl⟩
  obtain ⟨n2, hn2⟩ : ∃ n2, n2 = L.recs.length := ⟨_, rfl⟩
  rw [← hfx, ← hrx, ← hn1, ← hn2] at HRT HOWN ⊢
  have HFX : Hid (fx = L.fixed ∧ rx = L.record ∧ n1 = L.refs.length ∧ n2 = L.recs.length) := ⟨hfx, hrx, hn1, hn2⟩
  have HBA : Hid (Below w.heap.size w (w.alloc (.cells #[.int .i64 fx, .slice ra n1 rc, .int .i64 rx, .slice sa n2 sc] 60))) := (Below.refl _ w).alloc (Nat.le_refl _) _
  obtain ⟨xb, hxb⟩ : ∃ xb, xb = w.heap.size := ⟨_, rfl⟩
  have HXB : Hid ((w.alloc (.cells #[.int .i64 fx, .slice ra n1 rc, .int .i64 rx, .slice sa n2 sc] 60)).heap[xb]? = some (.cells #[.int .i64 fx, .slice ra n1 rc, .int .i64 rx, .slice sa n2 sc] 60 (0, 0))) := by rw [hxb]; exact heap_alloc_new w _
  have hbl := (Array.getElem?_eq_some_iff.1 hb).1
  have HBK : Hid (∀ W : World, Below w.heap.size w W → W.heap[b]? = some (.cells #[.slice none 0 0] 150 (0, 0))) := fun W hW => (hW.block b hbl).trans hb
  have HFB := Lib.hid hF
  have HXE : Hid (xb = w.heap.size) := hxb
  have HBL := Lib.hid hbl
  clear hfx hrx hn1 hn2 hl1 hl2 hr hF hb hbl
  go_enter Tryz.func33, Tryz.ntmps33
  go_wp2_with fail
  rw [← hxb]
  clear hxb
  generalize w.alloc (.cells #[.int .i64 fx, .slice ra n1 rc, .int .i64 rx, .slice sa n2 sc] 60) = wa at *
  refine (HRT.out wa HBA.out).mono ?_
  rintro e w1 ⟨rfl, hb1⟩
  have HB1 : Hid (Below w.heap.size w w1) := HBA.out.trans (hb1.mono HBA.out.size)
  have HX1 := Lib.hid ((hb1.block xb (Array.getElem?_eq_some_iff.1 HXB.out).1).trans HXB.out)
  have x0 := (cells_of_block HX1.out 0).1
  have x1 := (cells_of_block HX1.out 1).1
  have x2 := (cells_of_block HX1.out 2).1
  have x3 := (cells_of_block HX1.out 3).1
  simp at x0 x1 x2 x3
  have b0 := (cells_of_block (HBK.out w1 HB1.out) 0).1
  simp at b0
  clear hb1
  go_wp2_with fail
  refine wp_region_lastH (S := fun W => W.cell? ⟨b, 0, none⟩ = some (.slice none 0 0) ∧ W.cell? ⟨xb, 0, none⟩ = some (.int .i64 fx) ∧ W.cell? ⟨xb, 1, none⟩ = some (.slice ra n1 rc) ∧ W.cell? ⟨xb, 2, none⟩ = some (.int .i64 rx) ∧ W.cell? ⟨xb, 3, none⟩ = some (.slice sa n2 sc)) 11 (by kernel_rfl) (by kernel_rfl) ⟨b0, x0, x1, x2, x3⟩ (fun hH => ?_)
  simp only [lastOps, nop, List.modify_toArray, List.modify_succ_cons, List.modify_zero_cons]
  refine Go.Tr.tz 0 (v := ?_) rfl ?_ ?_
  rotate_left
  · intro W hW
    go_simp
    try with_reducible rfl
  try simp only [Go.Tr.nz]
  refine Go.Tr.tz 1 (v := ?_) rfl ?_ ?_
  rotate_left
  · intro W hW
    go_simp
    try with_reducible rfl
  try simp only [Go.Tr.nz]
  refine Go.Tr.tz 2 (v := ?_) rfl ?_ ?_
  rotate_left
  · intro W hW
    go_simp
    try with_reducible rfl
  try simp only [Go.Tr.nz]
  refine Go.Tr.tz 3 (v := ?_) rfl ?_ ?_
  rotate_left
  · intro W hW
    go_simp
    try with_reducible rfl
  try simp only [Go.Tr.nz]
  refine Go.Tr.tz 4 (v := ?_) rfl ?_ ?_
  rotate_left
  · intro W hW
    go_simp
    try with_reducible rfl
  try simp only [Go.Tr.nz]
  refine Go.Tr.tz 5 (v := ?_) rfl ?_ ?_
  rotate_left
  · intro W hW
    go_simp
    try with_reducible rfl
  try simp only [Go.Tr.nz]
  refine wpAnyH_ready (rs := [6]) (by kernel_rfl) (by simp) (readyH rfl (fun K hK => ?_) AllReadyH.nil)
  rw [if_pos (by rfl)]
  go_simp
  refine (HOWN.out _ HB1.out.drew).mono ?_
  rintro e w2 ⟨v', rfl, hlf, hb2⟩
  obtain ⟨ra', rc', sa', sc', rfl, hsA, hsB, hgA, hgB⟩ := hlf
  have HB2 : Hid (Below w.heap.size w w2) := HB1.out.drew.trans (hb2.mono HB1.out.size)
  have hxl : xb < w1.heap.size := (Array.getElem?_eq_some_iff.1 HX1.out).1
  have hx2 : w2.heap[xb]? = w1.heap[xb]? := hb2.block xb hxl
  have hbb2 : w2.heap[b]? = w1.heap[b]? := hb2.block b (Nat.lt_of_lt_of_le HBL.out HB1.out.size)
  have y0 := (World.cell?_of_block (a := ⟨xb, 0, none⟩) hx2).trans x0
  have y1 := (World.cell?_of_block (a := ⟨xb, 1, none⟩) hx2).trans x1
  have y2 := (World.cell?_of_block (a := ⟨xb, 2, none⟩) hx2).trans x2
  have y3 := (World.cell?_of_block (a := ⟨xb, 3, none⟩) hx2).trans x3
  have yb := (World.cell?_of_block (a := ⟨b, 0, none⟩) hbb2).trans b0
  have hxl2 : xb < w2.heap.size := World.block_lt_of_cell? w2 _ y0
  have hbl2 : b < w2.heap.size := World.block_lt_of_cell? w2 _ yb
  have hz12 : w1.heap.size ≤ w2.heap.size := hb2.size
  clear hb2 hx2 hbb2
  refine hK.out _ _ ⟨yb, y0, y1, y2, y3⟩ (fun hH => ?_)
  clear hK K
  try simp only [Go.Tr.nz]
  refine wpAnyH_ready (rs := [7]) (by kernel_rfl) (by simp) (readyH rfl (fun K hK => ?_) AllReadyH.nil)
  rw [if_pos (by rfl)]
  go_simp
  refine hK.out _ _ ⟨(World.cell?_alloc_lt _ _ _ hbl2).trans hH.1, (World.cell?_alloc_lt _ _ _ hxl2).trans hH.2.1, (World.cell?_alloc_lt _ _ _ hxl2).trans hH.2.2.1, (World.cell?_alloc_lt _ _ _ hxl2).trans hH.2.2.2.1, (World.cell?_alloc_lt _ _ _ hxl2).trans hH.2.2.2.2⟩ (fun hH => ?_)
  clear hK K
  try simp only [Go.Tr.nz]
  refine wpAnyH_ready (rs := [8]) (by kernel_rfl) (by simp) (readyH rfl (fun K hK => ?_) AllReadyH.nil)
  rw [if_pos (by rfl)]
  refine wpO_appendO _ (.tmp 24) (.tmp 27) 148 rfl 60 i0 _ 4 64 Tryz.underlying148 hi hz0 hz1 hz2 rfl (by decide) (.slice none 0 0) 0 [] rfl (OwnO.nil _ _) ⟨w2.heap.size, 0, none⟩ 1 1 [.int .i64 (L.fixed : Nat), .slice ra' L.refs.length rc', .int .i64 (L.record : Nat), .slice sa' L.recs.length sc'] rfl rfl ?hn ?h1 (by unfold maxLen; omega) (by omega) ?_
  case hn =>
    intro j u hj
    rcases j with _ | _ | _ | _ | j
    · simp at hj; subst hj; simp [Addr.add]
    · simp at hj; subst hj; simp [Addr.add]
    · simp at hj; subst hj; simp [Addr.add]
    · simp at hj; subst hj; simp [Addr.add]
    · simp at hj
  case h1 => intro u hu; simp at hu; rcases hu with rfl | rfl | rfl | rfl <;> rfl
  intro v4 w4 r1 r2 r3
  rcases r1 with ⟨-, hcontra, -⟩ | ⟨lb, lo, cap, rfl, g1, g2, g3, g4, g5, g6⟩
  · omega
  have p0 : w4.cell? ⟨lb, lo, none⟩ = some (.int .i64 (L.fixed : Nat)) := g6 0 (by decide)
  have p1 : w4.cell? ⟨lb, lo + 1, none⟩ = some (.slice ra' L.refs.length rc') := g6 1 (by decide)
  have p2 : w4.cell? ⟨lb, lo + 2, none⟩ = some (.int .i64 (L.record : Nat)) := g6 2 (by decide)
  have p3 : w4.cell? ⟨lb, lo + 3, none⟩ = some (.slice sa' L.recs.length sc') := g6 3 (by decide)
  have hlbf : w2.heap.size ≤ lb ∧ lb < w4.heap.size := by
    rcases r3 lb rfl with h' | h'
    · cases h'
    · have h1 := h'.1
      simp at h1
      exact ⟨by omega, h'.2⟩
  have hk4 : ∀ k, k < w2.heap.size → w4.heap[k]? = w2.heap[k]? := fun k hk => (r2.block k (by simp; omega) (by simp [Value.ownBlock])).trans (Below.heap_alloc _ _ _ hk)
  have HK4 := Lib.hid hk4
  have HB4 : Hid (Below w.heap.size w w4) := (HB2.out.alloc HB2.out.size _).grown r2 (by have := HB2.out.size; simp; omega) (fun j hj => by simp [Value.ownBlock] at hj)
  have hbb := HBK.out w4 HB4.out
  have q0 := cells_of_block hbb 0
  simp at q0
  obtain ⟨q0, qf⟩ := q0
  have z0 := (World.cell?_of_block (a := ⟨xb, 0, none⟩) (hk4 xb hxl2)).trans y0
  have z1 := (World.cell?_of_block (a := ⟨xb, 1, none⟩) (hk4 xb hxl2)).trans y1
  have z2 := (World.cell?_of_block (a := ⟨xb, 2, none⟩) (hk4 xb hxl2)).trans y2
  have z3 := (World.cell?_of_block (a := ⟨xb, 3, none⟩) (hk4 xb hxl2)).trans y3
  have HBB := Lib.hid hbb
  have HNE : Hid (lb ≠ b) := fun e => by have := hlbf.1; omega
  have HLB := Lib.hid hlbf
  have HZ := Lib.hid HB2.out.size
  have HGA : Hid (∀ q o, ra' = some ⟨q, o, none⟩ → (grow F w w4 q ∧ q ≠ b)) := fun q o e => by
    have h1 : w1.heap.size ≤ q ∧ q < w2.heap.size := hgA q o e
    have h2 := HB1.out.size
    have h3 := HBL.out
    have h4 := r2.size
    simp at h4
    exact ⟨Or.inr ⟨by omega, by omega⟩, by omega⟩
  have HGB : Hid (∀ q o, sa' = some ⟨q, o, none⟩ → (grow F w w4 q ∧ q ≠ b)) := fun q o e => by
    have h1 : w1.heap.size ≤ q ∧ q < w2.heap.size := hgB q o e
    have h2 := HB1.out.size
    have h3 := HBL.out
    have h4 := r2.size
    simp at h4
    exact ⟨Or.inr ⟨by omega, by omega⟩, by omega⟩
  have HSA4 : Hid (SeqAt w4 ra' (ns L.refs)) := fun h0 => by
    obtain ⟨q, o, e, hc⟩ := hsA h0
    exact ⟨q, o, e, fun j hj => by rw [World.cell?_of_block (a := ⟨q, o + j, none⟩) (hk4 q (hgA q o e).2)]; exact hc j hj⟩
  have HSB4 : Hid (SeqAt w4 sa' (ns L.recs)) := fun h0 => by
    obtain ⟨q, o, e, hc⟩ := hsB h0
    exact ⟨q, o, e, fun j hj => by rw [World.cell?_of_block (a := ⟨q, o + j, none⟩) (hk4 q (hgB q o e).2)]; exact hc j hj⟩
  clear r2 r3 hk4 hbb hsA hsB hgA hgB g1 g2 g3 g4 g5 g6 hlbf
  refine hK.out _ _ ⟨q0, z0, z1, z2, z3⟩ (fun hH => ?_)
  clear hK K
  try simp only [Go.Tr.nz]
  refine Go.Tr.tz 9 (v := ?_) rfl ?_ ?_
  rotate_left
  · intro W hW
    go_simp
    try with_reducible rfl
  try simp only [Go.Tr.nz]
  refine Go.Tr.tz 10 (v := ?_) rfl ?_ ?_
  rotate_left
  · intro W hW
    go_simp
    try with_reducible rfl
  try simp only [Go.Tr.nz]
  refine Go.Tr.tz 11 (v := ?_) rfl ?_ ?_
  rotate_left
  · intro W hW
    go_simp
    try with_reducible rfl
  try simp only [Go.Tr.nz]
  refine lastH_done (by kernel_rfl) rfl (by rfl) ?_
  go_simp
  go_wp2_with fail
  go_ret2
  have hk5 : ∀ k, k ≠ b → (w4.setCell ⟨b, 0, none⟩ (.slice (some ⟨lb, lo, none⟩) 1 cap)).heap[k]? = w4.heap[k]? := fun k hk => Below.heap_setCell _ _ _ _ hk
  have hz5 : (w4.setCell ⟨b, 0, none⟩ (.slice (some ⟨lb, lo, none⟩) 1 cap)).heap.size = w4.heap.size := by simp [World.setCell]
  have hbk : (w4.setCell ⟨b, 0, none⟩ (.slice (some ⟨lb, lo, none⟩) 1 cap)).heap[b]? = some (.cells #[.slice (some ⟨lb, lo, none⟩) 1 cap] 150 (0, 0)) := by
    simpa using block_setCell HBB.out 0 (.slice (some ⟨lb, lo, none⟩) 1 cap)
  have hlk := hk5 lb HNE.out
  refine ⟨rfl, ⟨Or.inl HFB.out, lb, lo, cap, ra', rc', sa', sc', hbk, Or.inr ⟨?_, ?_⟩, HNE.out, ?_, (World.cell?_of_block (a := ⟨lb, lo, none⟩) hlk).trans p0, (World.cell?_of_block (a := ⟨lb, lo + 1, none⟩) hlk).trans p1, (World.cell?_of_block (a := ⟨lb, lo + 2, none⟩) hlk).trans p2, (World.cell?_of_block (a := ⟨lb, lo + 3, none⟩) hlk).trans p3⟩, ?_⟩
  · have h1 := HLB.out.1; have h2 := HZ.out; omega
  · rw [hz5]; exact HLB.out.2
  · refine ⟨ra', rc', sa', sc', rfl, HSA4.out.off b (fun q o e => (HGA.out q o e).2) _ hk5, HSB4.out.off b (fun q o e => (HGB.out q o e).2) _ hk5, fun q o e => ?_, fun q o e => ?_⟩
    · have := (HGA.out q o e).1
      unfold grow at this ⊢
      rw [hz5]; exact this
    · have := (HGB.out q o e).1
      unfold grow at this ⊢
      rw [hz5]; exact this
  · exact (Only.of_below HB4.out F).setCell (p := ⟨b, 0, none⟩) (Or.inl HFB.out) _
end Go.Proofs.YtcdpnfchmpncjaaGreatDoor

