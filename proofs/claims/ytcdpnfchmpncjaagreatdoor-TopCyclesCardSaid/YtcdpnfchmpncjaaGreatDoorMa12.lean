/-
  Parts of the proof, one behind the other: KTable, KTable2, KTable3.
-/
import Derived.Test.YtcdpnfchmpncjaaGreatDoorMa11
set_option linter.unusedSimpArgs false
set_option linter.unusedVariables false
namespace Go.Tr
open Go.RowKit
structure Sl where
  gen : Nat
  used : Bool
  addr : Nat
  region : Nat
  held : Bool
  pinned : Bool
def Sl.free : Sl := ⟨0, false, 0, 0, false, false⟩
def slV (x : Sl) : List Value := [.int .i64 (x.gen : Nat), .bool x.used, .int .i64 (x.addr : Nat), .int .i64 (x.region : Nat), .bool x.held, .bool x.pinned]
def slcells (xs : List Sl) : List Value := xs.flatMap slV
def entryV (x : Sl) : Value := .agg #[.int .i64 (x.addr : Nat), .int .i64 (x.region : Nat), .bool x.held, .bool x.pinned]
theorem slcells_length (xs : List Sl) : (slcells xs).length = xs.length * 6 := by
  induction xs with
  | nil => rfl
  | cons x r ih => simp only [slcells, List.flatMap_cons, List.length_append, List.length_cons] at ih ⊢; rw [ih]; simp [slV]; omega
theorem slcells_get : ∀ {xs : List Sl} {i j : Nat} {x : Sl}, xs[i]? = some x → j < 6 → (slcells xs)[i * 6 + j]? = (slV x)[j]?
  | [], i, j, x, h, _ => by simp at h
  | y :: r, 0, j, x, h, hj => by
    obtain rfl : y = x := by simpa using h
    show (slV y ++ slcells r)[0 * 6 + j]? = _
    rw [Nat.zero_mul, Nat.zero_add, List.getElem?_append_left (by simpa [slV] using hj)]
  | y :: r, i + 1, j, x, h, hj => by
    show (slV y ++ slcells r)[(i + 1) * 6 + j]? = _
    rw [List.getElem?_append_right (by simp [slV]; omega), show (i + 1) * 6 + j - (slV y).length = i * 6 + j by simp [slV]; omega]
    exact slcells_get (by simpa using h) hj
theorem slcells_set : ∀ {xs : List Sl} {i j : Nat} {x x' : Sl} {v : Value}, xs[i]? = some x → slV x' = (slV x).set j v → j < 6 → (slcells xs).set (i * 6 + j) v = slcells (xs.set i x')
  | [], i, j, x, x', v, h, _, _ => by simp at h
  | y :: r, 0, j, x, x', v, h, hx, hj => by
    obtain rfl : y = x := by simpa using h
    show (slV y ++ slcells r).set (0 * 6 + j) v = slV x' ++ slcells r
    rw [Nat.zero_mul, Nat.zero_add, List.set_append_left _ _ (by simpa [slV] using hj), ← hx]
  | y :: r, i + 1, j, x, x', v, h, hx, hj => by
    show (slV y ++ slcells r).set ((i + 1) * 6 + j) v = slV y ++ slcells (r.set i x')
    rw [List.set_append_right _ _ (by simp [slV]; omega), show (i + 1) * 6 + j - (slV y).length = i * 6 + j by simp [slV]; omega]
    rw [slcells_set (by simpa using h) hx hj]
def usedB (xs : List Sl) : Nat → Bool := fun i => (xs.getD i Sl.free).used
theorem sl_cells {w : World} {b : Nat} {xs : List Sl} {U : TypeId} (h : w.heap[b]? = some (.cells (slcells xs).toArray U (0, 0))) {i : Nat} {x : Sl} (hx : xs[i]? = some x) (j : Nat) (hj : j < 6) : w.cell? ⟨b, i * 6 + j, none⟩ = (slV x)[j]? ∧ w.frozen? ⟨b, i * 6 + j, none⟩ = false := by
  refine ⟨?_, by simp [World.frozen?, h]⟩
  rw [cell_of_row w b _ _ _ (0, 0) h, List.getElem?_toArray]
  exact slcells_get hx hj
theorem setCell_sl {w : World} {b : Nat} {xs : List Sl} {U : TypeId} (h : w.heap[b]? = some (.cells (slcells xs).toArray U (0, 0))) {i j : Nat} {x x' : Sl} {v : Value} (hx : xs[i]? = some x) (he : slV x' = (slV x).set j v) (hj : j < 6) : (w.setCell ⟨b, i * 6 + j, none⟩ v).heap[b]? = some (.cells (slcells (xs.set i x')).toArray U (0, 0)) := by
  have := block_setCell h (i * 6 + j) v
  rw [List.setIfInBounds_toArray, slcells_set hx he hj] at this
  exact this
end Go.Tr
namespace Go.Proofs.YtcdpnfchmpncjaaGreatDoor
open Go.RowKit Go.Tr Go.Shelf
variable {w w' : World} {F G : Nat → Prop} {t tb m K : Nat} {Fm : Nat → Prop} {sl : List Sl}
structure TbAt (w : World) (t tb m : Nat) (Fm : Nat → Prop) (K : Nat) (sl : List Sl) : Prop where
  block : w.heap[t]? = some (.cells #[.slice (some ⟨tb, 0, none⟩) K K, .pointer (some ⟨m, 0, none⟩), .int .i64 0] 101 (0, 0))
  slots : w.heap[tb]? = some (.cells (slcells sl).toArray 172 (0, 0))
  map : BMF w Fm m K (usedB sl)
  ne : t ≠ tb
  nf : ¬ Fm t ∧ ¬ Fm tb
  len : sl.length = K
  kb : 1 ≤ K ∧ K ≤ 4096
def TbF (w : World) (F : Nat → Prop) (t K : Nat) (sl : List Sl) : Prop := ∃ tb m Fm, TbAt w t tb m Fm K sl ∧ F t ∧ F tb ∧ ∀ k, Fm k → F k
theorem TbAt.lt (h : TbAt w t tb m Fm K sl) : t < w.heap.size ∧ tb < w.heap.size := ⟨(Array.getElem?_eq_some_iff.1 h.block).1, (Array.getElem?_eq_some_iff.1 h.slots).1⟩
theorem TbF.kept (h : TbF w F t K sl) (hk : ∀ k, F k → k < w.heap.size → w'.heap[k]? = w.heap[k]?) : TbF w' F t K sl := by
  obtain ⟨tb, m, Fm, h, h1, h2, h3⟩ := h
  exact ⟨tb, m, Fm, ⟨(hk _ h1 h.lt.1).trans h.block, (hk _ h2 h.lt.2).trans h.slots, h.map.kept (fun k hf hl => hk k (h3 k hf) hl), h.ne, h.nf, h.len, h.kb⟩, h1, h2, h3⟩
theorem TbAt.head (h : TbAt w t tb m Fm K sl) : w.cell? ⟨t, 0, none⟩ = some (.slice (some ⟨tb, 0, none⟩) K K) ∧ w.cell? ⟨t, 1, none⟩ = some (.pointer (some ⟨m, 0, none⟩)) ∧ w.cell? ⟨t, 2, none⟩ = some (.int .i64 0) := by
  refine ⟨?_, ?_, ?_⟩
  · have := (cells_of_block h.block 0).1; simpa using this
  · have := (cells_of_block h.block 1).1; simpa using this
  · have := (cells_of_block h.block 2).1; simpa using this
set_option maxRecDepth 100000 in
theorem tfind_at {x : Sl} {i : Nat} (w : World) (h : TbAt w t tb m Fm K sl) (hx : sl[i]? = some x) (hu : x.used = true) : Calls Tryz.prog 92 #[.pointer (some ⟨t, 0, none⟩), .agg #[.int .i64 i, .int .i64 x.gen]] w fun e w' => e = .returned (.tuple #[.pointer (some ⟨tb, i * 6, none⟩), .int .i64 0]) ∧ Below w.heap.size w w' := by
  obtain ⟨c0, -, -⟩ := h.head
  have s0 := (sl_cells h.slots hx 0 (by omega)).1
  have s1 := (sl_cells h.slots hx 1 (by omega)).1
  simp [slV] at s0 s1
  rw [hu] at s1
  have hiK : i < K := by rw [← h.len]; exact (List.getElem?_eq_some_iff.1 hx).1
  have hkb := h.kb.2
  obtain ⟨ht, htb⟩ := h.lt
  obtain ⟨gn, hgn⟩ : ∃ gn, gn = x.gen := ⟨_, rfl⟩
  rw [← hgn] at s0 ⊢
  have k1 : ¬ (i : Int) < 0 := by omega
  have k2 : ¬ (K : Int) ≤ (i : Int) := by omega
  have k3 : (0 : Int) ≤ (i : Int) := by omega
  have k4 : (i : Int) < (K : Int) := by omega
  obtain ⟨xb, hxb⟩ : ∃ xb, xb = w.heap.size := ⟨_, rfl⟩
  have b0 := fun u => (World.cell?_of_block (a := ⟨t, 0, none⟩) (Below.heap_alloc w u t ht)).trans c0
  have b1 := fun u => (World.cell?_of_block (a := ⟨tb, i * 6, none⟩) (Below.heap_alloc w u tb htb)).trans s0
  have b2 := fun u => (World.cell?_of_block (a := ⟨tb, i * 6 + 1, none⟩) (Below.heap_alloc w u tb htb)).trans s1
  clear h hx hu hgn c0 s0 s1 ht htb
  go_enter Tryz.func92, Tryz.ntmps92
  go_wp2_with fail
  have a0 : (w.alloc (.cells #[.int .i64 i, .int .i64 gn] 38)).cell? ⟨xb, 0, none⟩ = some (.int .i64 i) := by rw [hxb]; simp
  have a1 : (w.alloc (.cells #[.int .i64 i, .int .i64 gn] 38)).cell? ⟨xb, 1, none⟩ = some (.int .i64 gn) := by rw [hxb]; simp
  have d0 := b0 (.cells #[.int .i64 i, .int .i64 gn] 38)
  have d1 := b1 (.cells #[.int .i64 i, .int .i64 gn] 38)
  have d2 := b2 (.cells #[.int .i64 i, .int .i64 gn] 38)
  have HBB : Hid (Below w.heap.size w (w.alloc (.cells #[.int .i64 i, .int .i64 gn] 38))) := (Below.refl _ w).alloc (Nat.le_refl _) _
  rw [← hxb]
  generalize w.alloc (.cells #[.int .i64 i, .int .i64 gn] 38) = wa at *
  clear b0 b1 b2 hxb
  refine wp_region_held_drew (S := fun W => W.cell? ⟨xb, 0, none⟩ = some (.int .i64 i) ∧ W.cell? ⟨xb, 1, none⟩ = some (.int .i64 gn) ∧ W.cell? ⟨t, 0, none⟩ = some (.slice (some ⟨tb, 0, none⟩) K K) ∧ W.cell? ⟨tb, i * 6, none⟩ = some (.int .i64 gn) ∧ W.cell? ⟨tb, i * 6 + 1, none⟩ = some (.bool true)) (by kernel_rfl) ⟨a0, a1, d0, d1, d2⟩ (fun hH => ?_)
  refine takeH 0 (v := ?_) rfl (by kernel_rfl) (by kernel_rfl) (by kernel_rfl) (fun _ _ _ h => h) (by rfl) ?_ (by assumption) ?_
  rotate_left
  · intro W hW
    go_simp
    try with_reducible rfl
  try simp only [Act.put, List.setIfInBounds_toArray, List.set_cons_zero, List.set_cons_succ]
  refine takeH 1 (v := ?_) rfl (by kernel_rfl) (by kernel_rfl) (by kernel_rfl) (fun _ _ _ h => h) (by rfl) ?_ (by assumption) ?_
  rotate_left
  · intro W hW
    go_simp
    try with_reducible rfl
  try simp only [Act.put, List.setIfInBounds_toArray, List.set_cons_zero, List.set_cons_succ]
  refine takeH 2 (v := .bool false) rfl (by kernel_rfl) (by kernel_rfl) (by kernel_rfl) (fun _ _ _ h => h) (by rfl) ?_ (by assumption) ?_
  · intro W hW
    go_simp
    try first | with_reducible rfl | simp [*]
  try simp only [Act.put, List.setIfInBounds_toArray, List.set_cons_zero, List.set_cons_succ]
  refine takeH 3 (v := .bool false) rfl (by kernel_rfl) (by kernel_rfl) (by kernel_rfl) (fun _ _ _ h => h) (by rfl) ?_ (by assumption) ?_
  · intro W hW
    go_simp
    try first | with_reducible rfl | simp [*]
  try simp only [Act.put, List.setIfInBounds_toArray, List.set_cons_zero, List.set_cons_succ]
  refine takeH 4 (v := ?_) rfl (by kernel_rfl) (by kernel_rfl) (by kernel_rfl) (fun _ _ _ h => h) (by rfl) ?_ (by assumption) ?_
  rotate_left
  · intro W hW
    go_simp
    try with_reducible rfl
  try simp only [Act.put, List.setIfInBounds_toArray, List.set_cons_zero, List.set_cons_succ]
  refine takeH 5 (v := ?_) rfl (by kernel_rfl) (by kernel_rfl) (by kernel_rfl) (fun _ _ _ h => h) (by rfl) ?_ (by assumption) ?_
  rotate_left
  · intro W hW
    go_simp
    try with_reducible rfl
  try simp only [Act.put, List.setIfInBounds_toArray, List.set_cons_zero, List.set_cons_succ]
  refine takeH 6 (v := ?_) rfl (by kernel_rfl) (by kernel_rfl) (by kernel_rfl) (fun _ _ _ h => h) (by rfl) ?_ (by assumption) ?_
  rotate_left
  · intro W hW
    go_simp
    try with_reducible rfl
  try simp only [Act.put, List.setIfInBounds_toArray, List.set_cons_zero, List.set_cons_succ]
  refine takeH 7 (v := ?_) rfl (by kernel_rfl) (by kernel_rfl) (by kernel_rfl) (fun _ _ _ h => h) (by rfl) ?_ (by assumption) ?_
  rotate_left
  · intro W hW
    go_simp
    try with_reducible rfl
  try simp only [Act.put, List.setIfInBounds_toArray, List.set_cons_zero, List.set_cons_succ]
  refine takeH 8 (v := ?_) rfl (by kernel_rfl) (by kernel_rfl) (by kernel_rfl) (fun _ _ _ h => h) (by rfl) ?_ (by assumption) ?_
  rotate_left
  · intro W hW
    go_simp
    try with_reducible rfl
  try simp only [Act.put, List.setIfInBounds_toArray, List.set_cons_zero, List.set_cons_succ]
  refine takeH 9 (v := ?_) rfl (by kernel_rfl) (by kernel_rfl) (by kernel_rfl) (fun _ _ _ h => h) (by rfl) ?_ (by assumption) ?_
  rotate_left
  · intro W hW
    go_simp
    try with_reducible rfl
  try simp only [Act.put, List.setIfInBounds_toArray, List.set_cons_zero, List.set_cons_succ]
  refine takeH 10 (v := ?_) rfl (by kernel_rfl) (by kernel_rfl) (by kernel_rfl) (fun _ _ _ h => h) (by rfl) ?_ (by assumption) ?_
  rotate_left
  · intro W hW
    go_simp
    try with_reducible rfl
  try simp only [Act.put, List.setIfInBounds_toArray, List.set_cons_zero, List.set_cons_succ]
  refine takeH 11 (v := .bool false) rfl (by kernel_rfl) (by kernel_rfl) (by kernel_rfl) (fun _ _ _ h => h) (by rfl) ?_ (by assumption) ?_
  · intro W hW
    go_simp
    try first | with_reducible rfl | simp [*]
  try simp only [Act.put, List.setIfInBounds_toArray, List.set_cons_zero, List.set_cons_succ]
  refine takeH 12 (v := .bool false) rfl (by kernel_rfl) (by kernel_rfl) (by kernel_rfl) (fun _ _ _ h => h) (by rfl) ?_ (by assumption) ?_
  · intro W hW
    go_simp
    try first | with_reducible rfl | simp [*]
  try simp only [Act.put, List.setIfInBounds_toArray, List.set_cons_zero, List.set_cons_succ]
  refine takeH 13 (v := .bool false) rfl (by kernel_rfl) (by kernel_rfl) (by kernel_rfl) (fun _ _ _ h => h) (by rfl) ?_ (by assumption) ?_
  · intro W hW
    go_simp
    try first | with_reducible rfl | simp [*]
  try simp only [Act.put, List.setIfInBounds_toArray, List.set_cons_zero, List.set_cons_succ]
  refine takeH 14 (v := ?_) rfl (by kernel_rfl) (by kernel_rfl) (by kernel_rfl) (fun _ _ _ h => h) (by rfl) ?_ (by assumption) ?_
  rotate_left
  · intro W hW
    go_simp
    try with_reducible rfl
  try simp only [Act.put, List.setIfInBounds_toArray, List.set_cons_zero, List.set_cons_succ]
  refine takeH 15 (v := ?_) rfl (by kernel_rfl) (by kernel_rfl) (by kernel_rfl) (fun _ _ _ h => h) (by rfl) ?_ (by assumption) ?_
  rotate_left
  · intro W hW
    go_simp
    try with_reducible rfl
  try simp only [Act.put, List.setIfInBounds_toArray, List.set_cons_zero, List.set_cons_succ]
  refine takeH 16 (v := ?_) rfl (by kernel_rfl) (by kernel_rfl) (by kernel_rfl) (fun _ _ _ h => h) (by rfl) ?_ (by assumption) ?_
  rotate_left
  · intro W hW
    go_simp
    try with_reducible rfl
  try simp only [Act.put, List.setIfInBounds_toArray, List.set_cons_zero, List.set_cons_succ]
  refine takeH 17 (v := ?_) rfl (by kernel_rfl) (by kernel_rfl) (by kernel_rfl) (fun _ _ _ h => h) (by rfl) ?_ (by assumption) ?_
  rotate_left
  · intro W hW
    go_simp
    try with_reducible rfl
  try simp only [Act.put, List.setIfInBounds_toArray, List.set_cons_zero, List.set_cons_succ]
  refine takeH 18 (v := ?_) rfl (by kernel_rfl) (by kernel_rfl) (by kernel_rfl) (fun _ _ _ h => h) (by rfl) ?_ (by assumption) ?_
  rotate_left
  · intro W hW
    go_simp
    try with_reducible rfl
  try simp only [Act.put, List.setIfInBounds_toArray, List.set_cons_zero, List.set_cons_succ]
  refine takeH 19 (v := ?_) rfl (by kernel_rfl) (by kernel_rfl) (by kernel_rfl) (fun _ _ _ h => h) (by rfl) ?_ (by assumption) ?_
  rotate_left
  · intro W hW
    go_simp
    try with_reducible rfl
  try simp only [Act.put, List.setIfInBounds_toArray, List.set_cons_zero, List.set_cons_succ]
  refine takeH 20 (v := ?_) rfl (by kernel_rfl) (by kernel_rfl) (by kernel_rfl) (fun _ _ _ h => h) (by rfl) ?_ (by assumption) ?_
  rotate_left
  · intro W hW
    go_simp
    try with_reducible rfl
  try simp only [Act.put, List.setIfInBounds_toArray, List.set_cons_zero, List.set_cons_succ]
  refine takeH 21 (v := ?_) rfl (by kernel_rfl) (by kernel_rfl) (by kernel_rfl) (fun _ _ _ h => h) (by rfl) ?_ (by assumption) ?_
  rotate_left
  · intro W hW
    go_simp
    try with_reducible rfl
  try simp only [Act.put, List.setIfInBounds_toArray, List.set_cons_zero, List.set_cons_succ]
  refine takeH 22 (v := ?_) rfl (by kernel_rfl) (by kernel_rfl) (by kernel_rfl) (fun _ _ _ h => h) (by rfl) ?_ (by assumption) ?_
  rotate_left
  · intro W hW
    go_simp
    try with_reducible rfl
  try simp only [Act.put, List.setIfInBounds_toArray, List.set_cons_zero, List.set_cons_succ]
  refine takeH 23 (v := .bool false) rfl (by kernel_rfl) (by kernel_rfl) (by kernel_rfl) (fun _ _ _ h => h) (by rfl) ?_ (by assumption) ?_
  · intro W hW
    go_simp
    try first | with_reducible rfl | simp [*]
  try simp only [Act.put, List.setIfInBounds_toArray, List.set_cons_zero, List.set_cons_succ]
  refine takeH 24 (v := .bool false) rfl (by kernel_rfl) (by kernel_rfl) (by kernel_rfl) (fun _ _ _ h => h) (by rfl) ?_ (by assumption) ?_
  · intro W hW
    go_simp
    try first | with_reducible rfl | simp [*]
  try simp only [Act.put, List.setIfInBounds_toArray, List.set_cons_zero, List.set_cons_succ]
  refine takeH 25 (v := .bool false) rfl (by kernel_rfl) (by kernel_rfl) (by kernel_rfl) (fun _ _ _ h => h) (by rfl) ?_ (by assumption) ?_
  · intro W hW
    go_simp
    try first | with_reducible rfl | simp [*]
  try simp only [Act.put, List.setIfInBounds_toArray, List.set_cons_zero, List.set_cons_succ]
  refine takeH 26 (v := ?_) rfl (by kernel_rfl) (by kernel_rfl) (by kernel_rfl) (fun _ _ _ h => h) (by rfl) ?_ (by assumption) ?_
  rotate_left
  · intro W hW
    go_simp
    try with_reducible rfl
  try simp only [Act.put, List.setIfInBounds_toArray, List.set_cons_zero, List.set_cons_succ]
  refine takeH 27 (v := ?_) rfl (by kernel_rfl) (by kernel_rfl) (by kernel_rfl) (fun _ _ _ h => h) (by rfl) ?_ (by assumption) ?_
  rotate_left
  · intro W hW
    go_simp
    try with_reducible rfl
  try simp only [Act.put, List.setIfInBounds_toArray, List.set_cons_zero, List.set_cons_succ]
  refine takeH 28 (v := ?_) rfl (by kernel_rfl) (by kernel_rfl) (by kernel_rfl) (fun _ _ _ h => h) (by rfl) ?_ (by assumption) ?_
  rotate_left
  · intro W hW
    go_simp
    try with_reducible rfl
  try simp only [Act.put, List.setIfInBounds_toArray, List.set_cons_zero, List.set_cons_succ]
  refine takeH 29 (v := ?_) rfl (by kernel_rfl) (by kernel_rfl) (by kernel_rfl) (fun _ _ _ h => h) (by rfl) ?_ (by assumption) ?_
  rotate_left
  · intro W hW
    go_simp
    try with_reducible rfl
  try simp only [Act.put, List.setIfInBounds_toArray, List.set_cons_zero, List.set_cons_succ]
  refine takeH 30 (v := ?_) rfl (by kernel_rfl) (by kernel_rfl) (by kernel_rfl) (fun _ _ _ h => h) (by rfl) ?_ (by assumption) ?_
  rotate_left
  · intro W hW
    go_simp
    try with_reducible rfl
  try simp only [Act.put, List.setIfInBounds_toArray, List.set_cons_zero, List.set_cons_succ]
  refine takeH 31 (v := ?_) rfl (by kernel_rfl) (by kernel_rfl) (by kernel_rfl) (fun _ _ _ h => h) (by rfl) ?_ (by assumption) ?_
  rotate_left
  · intro W hW
    go_simp
    try with_reducible rfl
  try simp only [Act.put, List.setIfInBounds_toArray, List.set_cons_zero, List.set_cons_succ]
  refine takeH 32 (v := ?_) rfl (by kernel_rfl) (by kernel_rfl) (by kernel_rfl) (fun _ _ _ h => h) (by rfl) ?_ (by assumption) ?_
  rotate_left
  · intro W hW
    go_simp
    try with_reducible rfl
  try simp only [Act.put, List.setIfInBounds_toArray, List.set_cons_zero, List.set_cons_succ]
  refine takeH 33 (v := ?_) rfl (by kernel_rfl) (by kernel_rfl) (by kernel_rfl) (fun _ _ _ h => h) (by rfl) ?_ (by assumption) ?_
  rotate_left
  · intro W hW
    go_simp
    try with_reducible rfl
  try simp only [Act.put, List.setIfInBounds_toArray, List.set_cons_zero, List.set_cons_succ]
  refine takeH 34 (v := ?_) rfl (by kernel_rfl) (by kernel_rfl) (by kernel_rfl) (fun _ _ _ h => h) (by rfl) ?_ (by assumption) ?_
  rotate_left
  · intro W hW
    go_simp
    try with_reducible rfl
  try simp only [Act.put, List.setIfInBounds_toArray, List.set_cons_zero, List.set_cons_succ]
  refine takeH 35 (v := ?_) rfl (by kernel_rfl) (by kernel_rfl) (by kernel_rfl) (fun _ _ _ h => h) (by rfl) ?_ (by assumption) ?_
  rotate_left
  · intro W hW
    go_simp
    try with_reducible rfl
  try simp only [Act.put, List.setIfInBounds_toArray, List.set_cons_zero, List.set_cons_succ]
  refine takeH 36 (v := ?_) rfl (by kernel_rfl) (by kernel_rfl) (by kernel_rfl) (fun _ _ _ h => h) (by rfl) ?_ (by assumption) ?_
  rotate_left
  · intro W hW
    go_simp
    try with_reducible rfl
  try simp only [Act.put, List.setIfInBounds_toArray, List.set_cons_zero, List.set_cons_succ]
  refine takeH 37 (v := .bool false) rfl (by kernel_rfl) (by kernel_rfl) (by kernel_rfl) (fun _ _ _ h => h) (by rfl) ?_ (by assumption) ?_
  · intro W hW
    go_simp
    try first | with_reducible rfl | simp [*]
  try simp only [Act.put, List.setIfInBounds_toArray, List.set_cons_zero, List.set_cons_succ]
  refine takeH 38 (v := .bool false) rfl (by kernel_rfl) (by kernel_rfl) (by kernel_rfl) (fun _ _ _ h => h) (by rfl) ?_ (by assumption) ?_
  · intro W hW
    go_simp
    try first | with_reducible rfl | simp [*]
  try simp only [Act.put, List.setIfInBounds_toArray, List.set_cons_zero, List.set_cons_succ]
  refine wpAnyH_done (by kernel_rfl) ?_ _
  go_wp2_with fail
  go_quiet (fail)
  go_wp2
  go_ret2
  exact ⟨rfl, HBB.out.drew.trans (Drawn.below ⟨nq, rfl⟩ _)⟩
end Go.Proofs.YtcdpnfchmpncjaaGreatDoor
namespace Go.Tr
open Go.RowKit
theorem usedB_set (xs : List Sl) {i : Nat} (hi : i < xs.length) (x' : Sl) : usedB (xs.set i x') = setB (usedB xs) i x'.used := by
  funext j
  simp only [usedB, setB, List.getD, List.getElem?_set]
  by_cases e : i = j
  · subst e; simp [hi]
  · simp [e, Ne.symm e]
theorem usedB_same {xs : List Sl} {i : Nat} {x x' : Sl} (hx : xs[i]? = some x) (h : x'.used = x.used) : usedB (xs.set i x') = usedB xs := by
  funext j
  simp only [usedB, List.getD, List.getElem?_set]
  have hi := (List.getElem?_eq_some_iff.1 hx).1
  by_cases e : i = j
  · subst e; rw [if_pos rfl, if_pos hi, hx]; simpa using h
  · simp [e]
theorem setCell_sl4 {w : World} {b : Nat} {xs : List Sl} {U : TypeId} (h : w.heap[b]? = some (.cells (slcells xs).toArray U (0, 0))) {i : Nat} {x : Sl} (hx : xs[i]? = some x) (ad rg : Nat) (hd pn : Bool) :
    ((((w.setCell ⟨b, i * 6 + 2, none⟩ (.int .i64 (ad : Nat))).setCell ⟨b, i * 6 + 3, none⟩ (.int .i64 (rg : Nat))).setCell ⟨b, i * 6 + 4, none⟩ (.bool hd)).setCell ⟨b, i * 6 + 5, none⟩ (.bool pn)).heap[b]? = some (.cells (slcells (xs.set i ⟨x.gen, x.used, ad, rg, hd, pn⟩)).toArray U (0, 0)) := by
  have hi := (List.getElem?_eq_some_iff.1 hx).1
  have h1 := setCell_sl h (j := 2) (x' := ⟨x.gen, x.used, ad, x.region, x.held, x.pinned⟩) (v := .int .i64 (ad : Nat)) hx rfl (by omega)
  have h2 := setCell_sl h1 (i := i) (j := 3) (x' := ⟨x.gen, x.used, ad, rg, x.held, x.pinned⟩) (v := .int .i64 (rg : Nat)) (List.getElem?_set_self hi) rfl (by omega)
  rw [List.set_set] at h2
  have h3 := setCell_sl h2 (i := i) (j := 4) (x' := ⟨x.gen, x.used, ad, rg, hd, x.pinned⟩) (v := .bool hd) (List.getElem?_set_self hi) rfl (by omega)
  rw [List.set_set] at h3
  have h4 := setCell_sl h3 (i := i) (j := 5) (x' := ⟨x.gen, x.used, ad, rg, hd, pn⟩) (v := .bool pn) (List.getElem?_set_self hi) rfl (by omega)
  rw [List.set_set] at h4
  exact h4
end Go.Tr
namespace Go.Proofs.YtcdpnfchmpncjaaGreatDoor
open Go.RowKit Go.Tr Go.Shelf
variable {w w' : World} {F G : Nat → Prop} {t tb m K : Nat} {Fm : Nat → Prop} {sl : List Sl}
theorem TbAt.kept (h : TbAt w t tb m Fm K sl) (hk : ∀ k, k < w.heap.size → w'.heap[k]? = w.heap[k]?) : TbAt w' t tb m Fm K sl :=
  ⟨(hk _ h.lt.1).trans h.block, (hk _ h.lt.2).trans h.slots, h.map.kept (fun k hf hl => hk k hl), h.ne, h.nf, h.len, h.kb⟩
theorem TbAt.upd {W : World} {i : Nat} {x x' : Sl} (h : TbAt w t tb m Fm K sl) (hx : sl[i]? = some x) (hu : x'.used = x.used) (hk : ∀ k, k ≠ tb → W.heap[k]? = w.heap[k]?) (hs : W.heap[tb]? = some (.cells (slcells (sl.set i x')).toArray 172 (0, 0))) : TbAt W t tb m Fm K (sl.set i x') :=
  ⟨(hk _ h.ne).trans h.block, hs, by rw [usedB_same hx hu]; exact h.map.kept (fun k hf _ => hk k (fun e => h.nf.2 (e ▸ hf))), h.ne, h.nf, by rw [List.length_set]; exact h.len, h.kb⟩
set_option maxRecDepth 100000 in
theorem tget_any {x : Sl} {i : Nat} (w : World) (h : TbF w F t K sl) (hx : sl[i]? = some x) (hu : x.used = true) : Calls Tryz.prog 94 #[.pointer (some ⟨t, 0, none⟩), .agg #[.int .i64 i, .int .i64 x.gen]] w fun e w' => e = .returned (.tuple #[entryV x, .int .i64 0]) ∧ Below w.heap.size w w' := by
  obtain ⟨tb, m, Fm, h, -⟩ := h
  have HT := Lib.hid h
  have HX := Lib.hid hx
  have HU := Lib.hid hu
  clear h hx hu
  go_enter Tryz.func94, Tryz.ntmps94
  go_wp2_with fail
  have HBA : Hid (Below w.heap.size w ((w.alloc (.cells #[.int .i64 i, .int .i64 x.gen] 38)).alloc (.cells #[.int .i64 0, .int .i64 0, .bool false, .bool false] 93))) := ((Below.refl _ w).alloc (Nat.le_refl _) _).alloc (by simp) _
  obtain ⟨rb, hrb⟩ : ∃ rb, rb = w.heap.size + 1 := ⟨_, rfl⟩
  have HRB : Hid (((w.alloc (.cells #[.int .i64 i, .int .i64 x.gen] 38)).alloc (.cells #[.int .i64 0, .int .i64 0, .bool false, .bool false] 93)).heap[rb]? = some (.cells #[.int .i64 0, .int .i64 0, .bool false, .bool false] 93 (0, 0))) := by
    rw [hrb]; exact heap_alloc2_new w _ _
  rw [← hrb]
  generalize (w.alloc (.cells #[.int .i64 i, .int .i64 x.gen] 38)).alloc (.cells #[.int .i64 0, .int .i64 0, .bool false, .bool false] 93) = wa at *
  have HRL : Hid (w.heap.size ≤ rb) := by rw [hrb]; exact Nat.le_add_right _ _
  clear hrb
  refine (tfind_at wa (HT.out.kept HBA.out.block) HX.out HU.out).mono ?_
  rintro e w1 ⟨rfl, hb⟩
  have HB1 : Hid (Below w.heap.size w w1) := HBA.out.trans (hb.mono HBA.out.size)
  have hrb1 : w1.heap[rb]? = wa.heap[rb]? := hb.block rb (Array.getElem?_eq_some_iff.1 HRB.out).1
  have HR1 := Lib.hid (hrb1.trans HRB.out)
  have ht1 := HT.out.kept (w' := w1) HB1.out.block
  have s2 := (sl_cells ht1.slots HX.out 2 (by omega)).1
  have s3 := (sl_cells ht1.slots HX.out 3 (by omega)).1
  have s4 := (sl_cells ht1.slots HX.out 4 (by omega)).1
  have s5 := (sl_cells ht1.slots HX.out 5 (by omega)).1
  simp [slV] at s2 s3 s4 s5
  have r0 := cells_of_block HR1.out 0
  have r1 := cells_of_block HR1.out 1
  have r2 := cells_of_block HR1.out 2
  have r3 := cells_of_block HR1.out 3
  simp at r0 r1 r2 r3
  obtain ⟨r0, f0⟩ := r0
  obtain ⟨r1, f1⟩ := r1
  obtain ⟨r2, f2⟩ := r2
  obtain ⟨r3, f3⟩ := r3
  clear hb hrb1 ht1 HBA HRB
  go_wp2_with fail
  try simp only [Exit.inBlock, Exit.then]
  have hbk : ((((w1.setCell ⟨rb, 0, none⟩ (.int .i64 x.addr)).setCell ⟨rb, 1, none⟩ (.int .i64 x.region)).setCell ⟨rb, 2, none⟩ (.bool x.held)).setCell ⟨rb, 3, none⟩ (.bool x.pinned)).heap[rb]? = some (.cells #[.int .i64 x.addr, .int .i64 x.region, .bool x.held, .bool x.pinned] 93 (0, 0)) := by
    simpa using block_setCell (block_setCell (block_setCell (block_setCell HR1.out 0 (.int .i64 x.addr)) 1 (.int .i64 x.region)) 2 (.bool x.held)) 3 (.bool x.pinned)
  refine bodyPost_ret (results_blk rfl _ _ rb _ _ _ _ rfl hbk Tryz.underlying93 rfl rfl) rfl ⟨rfl, ?_⟩
  have e := HRL.out
  exact (((HB1.out.setCell e _).setCell e _).setCell e _).setCell e _
set_option maxRecDepth 100000 in
theorem tset_any {x : Sl} {i : Nat} (ad rg : Nat) (hd pn : Bool) (w : World) (h : TbF w F t K sl) (hf : ∀ k, F k → k < w.heap.size) (hx : sl[i]? = some x) (hu : x.used = true) : Calls Tryz.prog 41 #[.pointer (some ⟨t, 0, none⟩), .agg #[.int .i64 i, .int .i64 x.gen], .agg #[.int .i64 ad, .int .i64 rg, .bool hd, .bool pn]] w fun e w' => e = .returned (.int .i64 0) ∧ TbF w' F t K (sl.set i ⟨x.gen, x.used, ad, rg, hd, pn⟩) ∧ Only F w w' := by
  obtain ⟨tb, m, Fm, h, h1, h2, h3⟩ := h
  have HT := Lib.hid h
  have HX := Lib.hid hx
  have HU := Lib.hid hu
  have HF1 := Lib.hid h1
  have HF2 := Lib.hid h2
  have HF3 := Lib.hid h3
  clear h hx hu h1 h2 h3 hf
  go_enter Tryz.func41, Tryz.ntmps41
  go_wp2_with fail
  have HBA : Hid (Below w.heap.size w ((w.alloc (.cells #[.int .i64 i, .int .i64 x.gen] 38)).alloc (.cells #[.int .i64 ad, .int .i64 rg, .bool hd, .bool pn] 93))) := ((Below.refl _ w).alloc (Nat.le_refl _) _).alloc (by simp) _
  obtain ⟨eb, heb⟩ : ∃ eb, eb = w.heap.size + 1 := ⟨_, rfl⟩
  have HEB : Hid (((w.alloc (.cells #[.int .i64 i, .int .i64 x.gen] 38)).alloc (.cells #[.int .i64 ad, .int .i64 rg, .bool hd, .bool pn] 93)).heap[eb]? = some (.cells #[.int .i64 ad, .int .i64 rg, .bool hd, .bool pn] 93 (0, 0))) := by
    rw [heb]; exact heap_alloc2_new w _ _
  rw [← heb]
  generalize (w.alloc (.cells #[.int .i64 i, .int .i64 x.gen] 38)).alloc (.cells #[.int .i64 ad, .int .i64 rg, .bool hd, .bool pn] 93) = wa at *
  clear heb
  refine (tfind_at wa (HT.out.kept HBA.out.block) HX.out HU.out).mono ?_
  rintro e w1 ⟨rfl, hb⟩
  have HB1 : Hid (Below w.heap.size w w1) := HBA.out.trans (hb.mono HBA.out.size)
  have heb1 : w1.heap[eb]? = wa.heap[eb]? := hb.block eb (Array.getElem?_eq_some_iff.1 HEB.out).1
  have HE1 := Lib.hid (heb1.trans HEB.out)
  have ht1 := HT.out.kept (w' := w1) HB1.out.block
  have HT1 := Lib.hid ht1
  have s2 := (sl_cells ht1.slots HX.out 2 (by omega))
  have s3 := (sl_cells ht1.slots HX.out 3 (by omega))
  have s4 := (sl_cells ht1.slots HX.out 4 (by omega))
  have s5 := (sl_cells ht1.slots HX.out 5 (by omega))
  simp [slV] at s2 s3 s4 s5
  obtain ⟨s2, f2⟩ := s2
  obtain ⟨s3, f3⟩ := s3
  obtain ⟨s4, f4⟩ := s4
  obtain ⟨s5, f5⟩ := s5
  have r0 := (cells_of_block HE1.out 0).1
  have r1 := (cells_of_block HE1.out 1).1
  have r2 := (cells_of_block HE1.out 2).1
  have r3 := (cells_of_block HE1.out 3).1
  simp at r0 r1 r2 r3
  clear hb heb1 ht1 HBA HEB
  go_wp2_with fail
  go_ret
  refine ⟨rfl, ⟨tb, m, Fm, HT1.out.upd HX.out rfl (fun k hk => ?_) (setCell_sl4 HT1.out.slots HX.out ad rg hd pn), HF1.out, HF2.out, HF3.out⟩, ?_⟩
  · rw [Below.heap_setCell _ _ _ _ hk, Below.heap_setCell _ _ _ _ hk, Below.heap_setCell _ _ _ _ hk, Below.heap_setCell _ _ _ _ hk]
  · exact ((((Only.of_below HB1.out F).setCell (p := ⟨tb, i * 6 + 2, none⟩) (Or.inl HF2.out) _).setCell (p := ⟨tb, i * 6 + 3, none⟩) (Or.inl HF2.out) _).setCell (p := ⟨tb, i * 6 + 4, none⟩) (Or.inl HF2.out) _).setCell (p := ⟨tb, i * 6 + 5, none⟩) (Or.inl HF2.out) _
set_option maxRecDepth 100000 in
theorem tat_any {x : Sl} {i : Nat} (w : World) (h : TbF w F t K sl) (hx : sl[i]? = some x) (hu : x.used = true) : Calls Tryz.prog 106 #[.pointer (some ⟨t, 0, none⟩), .int .i64 i] w fun e w' => e = .returned (.tuple #[.agg #[.int .i64 i, .int .i64 x.gen], .bool true]) ∧ Below w.heap.size w w' := by
  obtain ⟨tb, m, Fm, h, -⟩ := h
  have hiK : i < K := by rw [← h.len]; exact (List.getElem?_eq_some_iff.1 hx).1
  have hkb := h.kb.2
  have k1 : ¬ (i : Int) < 0 := by omega
  have k2 : ¬ (K : Int) ≤ (i : Int) := by omega
  have k3 : (0 : Int) ≤ (i : Int) := by omega
  have k4 : (i : Int) < (K : Int) := by omega
  have HBA : Hid (Below w.heap.size w (w.alloc (.cells #[.int .i64 0, .int .i64 0] 38))) := (Below.refl _ w).alloc (Nat.le_refl _) _
  obtain ⟨rb, hrb⟩ : ∃ rb, rb = w.heap.size := ⟨_, rfl⟩
  have HRB : Hid ((w.alloc (.cells #[.int .i64 0, .int .i64 0] 38)).heap[rb]? = some (.cells #[.int .i64 0, .int .i64 0] 38 (0, 0))) := by
    rw [hrb]; exact heap_alloc_new w _
  have HT := Lib.hid (h.kept HBA.out.block)
  have HX := Lib.hid hx
  have HRL : Hid (w.heap.size ≤ rb) := Nat.le_of_eq hrb.symm
  obtain ⟨c0, -, -⟩ := HT.out.head
  have s0 := (sl_cells HT.out.slots HX.out 0 (by omega)).1
  have s1 := (sl_cells HT.out.slots HX.out 1 (by omega)).1
  simp [slV] at s0 s1
  rw [hu] at s1
  have r0 := cells_of_block HRB.out 0
  have r1 := cells_of_block HRB.out 1
  simp at r0 r1
  obtain ⟨r0, f0⟩ := r0
  obtain ⟨r1, f1⟩ := r1
  clear h hx hu
  go_enter Tryz.func106, Tryz.ntmps106
  go_wp2_with fail
  try simp only [Exit.inBlock, Exit.then]
  exact bodyPost_ret (results_blk rfl _ _ w.heap.size _ _ _ _ rfl (heap_alloc_new w _) Tryz.underlying38 rfl rfl) rfl ⟨rfl, (Below.refl _ w).alloc (Nat.le_refl _) _⟩
set_option maxRecDepth 100000 in
theorem tused_any (w : World) (h : TbF w F t K sl) : Calls Tryz.prog 14 #[.pointer (some ⟨t, 0, none⟩)] w fun e w' => e = .returned (.int .i64 (cntB (usedB sl) K : Nat)) ∧ Drawn w w' := by
  obtain ⟨tb, m, Fm, h, -⟩ := h
  obtain ⟨c0, c1, c2⟩ := h.head
  have HC : Hid (∀ W : World, W.heap = w.heap → Calls Tryz.prog 42 #[.pointer (some ⟨m, 0, none⟩)] W fun e w' => e = .returned (.int .i64 (cntB (usedB sl) K)) ∧ W = w') := fun W e => mcountF W (h.map.kept (fun k _ _ => by rw [e]))
  have hcl := cntB_le (usedB sl) K
  have hkb := h.kb.2
  obtain ⟨cn, hcn⟩ : ∃ cn, cn = cntB (usedB sl) K := ⟨_, rfl⟩
  rw [← hcn] at HC hcl ⊢
  clear h hcn
  go_enter Tryz.func14, Tryz.ntmps14
  go_wp2_with fail
  go_quiet ((go_at_call 42; exact quiet_same (HC.out _ rfl)))
  go_wp2
  go_ret
  exact ⟨rfl, ⟨_, rfl⟩⟩
set_option maxRecDepth 100000 in
theorem tleft_any (w : World) (h : TbF w F t K sl) : Calls Tryz.prog 15 #[.pointer (some ⟨t, 0, none⟩)] w fun e w' => e = .returned (.int .i64 ((K : Int) - (cntB (usedB sl) K : Nat))) ∧ Drawn w w' := by
  obtain ⟨tb, m, Fm, h, -⟩ := h
  obtain ⟨c0, c1, c2⟩ := h.head
  have HC : Hid (∀ W : World, W.heap = w.heap → Calls Tryz.prog 42 #[.pointer (some ⟨m, 0, none⟩)] W fun e w' => e = .returned (.int .i64 (cntB (usedB sl) K)) ∧ W = w') := fun W e => mcountF W (h.map.kept (fun k _ _ => by rw [e]))
  have hcl := cntB_le (usedB sl) K
  have hkb := h.kb.2
  obtain ⟨cn, hcn⟩ : ∃ cn, cn = cntB (usedB sl) K := ⟨_, rfl⟩
  rw [← hcn] at HC hcl ⊢
  clear h hcn
  go_enter Tryz.func15, Tryz.ntmps15
  go_wp2_with fail
  go_quiet ((go_at_call 42; exact quiet_same (HC.out _ rfl)))
  go_wp2
  go_ret
  exact ⟨rfl, ⟨_, rfl⟩⟩
end Go.Proofs.YtcdpnfchmpncjaaGreatDoor
namespace Go.Proofs.YtcdpnfchmpncjaaGreatDoor
open Go.RowKit Go.Tr Go.Shelf
variable {w w' : World} {F G : Nat → Prop} {t tb m K : Nat} {Fm : Nat → Prop} {sl : List Sl}
theorem infoSlot : (Tryz.prog.info? 172).map (fun i => (i.zero, i.size, i.bytes)) = some (some (.agg #[.int .i64 0, .bool false, .int .i64 0, .int .i64 0, .bool false, .bool false]), 6, 40) := by kernel_rfl
theorem slV_free (j : Nat) (hj : j < 6) : (#[.int .i64 0, .bool false, .int .i64 0, .int .i64 0, .bool false, .bool false] : Array Value)[j]! = (slV Sl.free)[j]?.getD undef := by
  rcases j with _ | _ | _ | _ | _ | _ | j
  · rfl
  · rfl
  · rfl
  · rfl
  · rfl
  · rfl
  · omega
theorem made_sl (q : Nat) : madeCells (Value.agg #[.int .i64 0, .bool false, .int .i64 0, .int .i64 0, .bool false, .bool false]).cells (q * 6) = (slcells (List.replicate q Sl.free)).toArray := by
  apply Array.ext_getElem?
  intro i
  have hR : (slcells (List.replicate q Sl.free)).toArray[i]? = (slcells (List.replicate q Sl.free))[i]? := by simp
  rw [hR]
  unfold madeCells
  by_cases hi : i < q * 6
  · have h1 := slcells_get (xs := List.replicate q Sl.free) (i := i / 6) (j := i % 6) (x := Sl.free) (by rw [List.getElem?_replicate, if_pos (by omega)]) (by omega)
    rw [show i / 6 * 6 + i % 6 = i by omega] at h1
    rw [h1]
    have h2 : (slV Sl.free)[i % 6]? = some ((slV Sl.free)[i % 6]?.getD undef) := by
      rw [List.getElem?_eq_getElem (by show _ < 6; omega)]; rfl
    rw [h2, ← slV_free (i % 6) (by omega)]
    have hc : (Value.agg #[.int .i64 0, .bool false, .int .i64 0, .int .i64 0, .bool false, .bool false]).cells = #[.int .i64 0, .bool false, .int .i64 0, .int .i64 0, .bool false, .bool false] := by kernel_rfl
    rw [hc, Array.getElem?_map, Array.getElem?_range, if_pos hi]
    rfl
  · rw [List.getElem?_eq_none (by rw [slcells_length, List.length_replicate]; omega)]
    simp; omega
theorem make_sl (q : Nat) (w : World) (hq : q ≤ 4096) : (Instr.makeSlice 99 (.int .i64 (q : Int)) (.int .i64 (q : Int))).run Tryz.prog w = .ok (.slice (some ⟨w.heap.size, 0, none⟩) q q) (w.alloc (.cells (slcells (List.replicate q Sl.free)).toArray 172)) := by
  obtain ⟨i0, hi, hz0, hz1, hz2⟩ := info_parts infoSlot
  have := run_make (P := Tryz.prog) w 99 172 i0 _ Tryz.underlying99 hi hz0 .i64 .i64 q q (by omega) (Int.le_refl _) (by rw [hz2]; omega) (by omega)
  rw [hz1, Int.toNat_natCast, made_sl] at this
  exact this
set_option maxRecDepth 100000 in
theorem tnew_any (K : Nat) (w : World) (h1 : 1 ≤ K) (h2 : K ≤ 4096) : Calls Tryz.prog 74 #[.int .i64 K] w fun e w' => ∃ t, e = .returned (.tuple #[.pointer (some ⟨t, 0, none⟩), .int .i64 0]) ∧ TbF w' (fun k => w.heap.size ≤ k ∧ k < w'.heap.size) t K (List.replicate K Sl.free) ∧ Below w.heap.size w w' := by
  have HB := Lib.hid (mnewb_any K w h1 (by omega))
  go_enter Tryz.func74, Tryz.ntmps74
  go_wp2_with fail
  refine HB.out.mono ?_
  rintro e w1 ⟨m, rfl, hm0, hm, hbl⟩
  have HM := Lib.hid hm
  have HBL := Lib.hid hbl
  have HM0 := Lib.hid hm0
  have hm2 := fun W => make_sl K W h2
  clear hm hbl hm0
  go_wp2_with fail
  go_ret2
  have hsz := HBL.out.size
  have hub : usedB (List.replicate K Sl.free) = fun _ => false := by
    funext i
    by_cases hi : i < K <;> simp [usedB, List.getD, List.getElem?_replicate, hi] <;> rfl
  refine ⟨w1.heap.size + 1, rfl, ⟨w1.heap.size, m, fun k => w.heap.size ≤ k ∧ k < w1.heap.size, ⟨?_, (Below.heap_alloc _ _ _ (by simp)).trans (heap_alloc_new w1 _), ?_, by omega, ⟨by omega, by omega⟩, by simp, h1, h2⟩, by simp; omega, by simp; omega, fun k hk => by simp; omega⟩, (HBL.out.alloc HBL.out.size _).alloc (by simp; omega) _⟩
  · exact heap_alloc2_new w1 _ _
  · rw [hub]
    exact HM.out.kept (fun k hf hl => (Below.heap_alloc _ _ _ (by simp; omega)).trans (Below.heap_alloc _ _ _ hl))
end Go.Proofs.YtcdpnfchmpncjaaGreatDoor
