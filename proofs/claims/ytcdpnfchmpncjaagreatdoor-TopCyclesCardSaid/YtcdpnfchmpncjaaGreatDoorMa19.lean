/-
  Parts of the proof, one behind the other: KHead5, KLay.
-/
import Derived.Test.YtcdpnfchmpncjaaGreatDoorMa18
set_option linter.unusedSimpArgs false
set_option linter.unusedVariables false
namespace Go.Proofs.YtcdpnfchmpncjaaGreatDoor
open Go.RowKit Go.Tr Go.Shelf
variable {w w' : World}
def _root_.Go.Tr.linkV (kind idx gen : Nat) : Value := .agg #[.int .i64 (kind : Nat), .int .i64 (idx : Nat), .int .i64 (gen : Nat)]
set_option maxRecDepth 100000 in
theorem hlink0_any (w : World) : Calls Tryz.prog 144 #[.int .u64 0] w fun e w' => e = .returned (.tuple #[linkV 0 0 0, .int .i64 0]) ∧ Below w.heap.size w w' := by
  go_enter Tryz.func144, Tryz.ntmps144
  go_wp2_with fail
  try simp only [Exit.inBlock, Exit.then]
  exact bodyPost_ret (results_blk rfl _ _ w.heap.size _ _ _ _ rfl (heap_alloc_new w _) Tryz.underlying69 rfl rfl) rfl ⟨rfl, (Below.refl _ w).alloc (Nat.le_refl _) _⟩
set_option maxRecDepth 100000 in
theorem hlink_any (idx gen : Nat) (w : World) (h1 : idx < 4096) (h2 : 1 ≤ gen) (h3 : gen ≤ 255) : Calls Tryz.prog 144 #[.int .u64 (linkN idx gen : Nat)] w fun e w' => e = .returned (.tuple #[linkV 2 idx gen, .int .i64 0]) ∧ Below w.heap.size w w' := by
  have HAL := Lib.hid (halive_any idx gen · h1 h2 h3)
  have hlt : linkN idx gen < 18446744073709551616 := by unfold linkN; omega
  have hge : 2 ≤ linkN idx gen := by unfold linkN; omega
  have HUN : Hid (∀ (fb : Nat) (W : World), W.heap[fb]? = some (.cells (pcells lfs).toArray 212 (0, 0)) → Calls Tryz.prog 79 #[.int .u64 (linkN idx gen : Nat), .slice (some ⟨fb, 0, none⟩) 2 2] W fun e w' => ∃ v, e = .returned (.tuple #[v, .int .i64 0]) ∧ OwnO w' 1 v 2 (us [idx + 2, gen]) ∧ Below W.heap.size W w') := fun fb W hf => by
    have := funpack_any (linkN idx gen) lfs (some ⟨fb, 0, none⟩) 2 2 W hlt (SeqAt.of_block hf) rfl (by decide) lfs_ok
    rw [link_unpack h1 (by omega)] at this
    exact this
  have hw1 : IntKind.i64.wrap ((idx : Int) + 2) = (idx : Int) + 2 := by rw [IntWalk.i64_in _ (by omega)]
  have hw2 : IntKind.i64.wrap (gen : Int) = (gen : Int) := by rw [IntWalk.i64_in _ (by omega)]
  have hw4 : (idx : Int) + 2 - 2 = (idx : Int) := by omega
  have hw3 : IntKind.i64.wrap (idx : Int) = (idx : Int) := by rw [IntWalk.i64_in _ (by omega)]
  obtain ⟨WN, hWN⟩ : ∃ WN, WN = linkN idx gen := ⟨_, rfl⟩
  rw [← hWN] at HUN hge ⊢
  have hz0 : ((WN : Int) == 0) = false := by simp; omega
  have hz1 : ((WN : Int) == 1) = false := by simp; omega
  clear hWN hlt hge
  go_enter Tryz.func144, Tryz.ntmps144
  go_wp2_with fail
  have HBA : Hid (Below w.heap.size w (w.alloc (.cells #[.int .i64 0, .int .i64 0, .int .i64 0] 69))) := (Below.refl _ w).alloc (Nat.le_refl _) _
  obtain ⟨rb, hrb⟩ : ∃ rb, rb = w.heap.size := ⟨_, rfl⟩
  have HRB : Hid ((w.alloc (.cells #[.int .i64 0, .int .i64 0, .int .i64 0] 69)).heap[rb]? = some (.cells #[.int .i64 0, .int .i64 0, .int .i64 0] 69 (0, 0))) := by rw [hrb]; exact heap_alloc_new _ _
  rw [← hrb]
  have HRE : Hid (rb = w.heap.size) := hrb
  generalize w.alloc (.cells #[.int .i64 0, .int .i64 0, .int .i64 0] 69) = wa at *
  clear hrb
  refine (hlinks_any wa).mono ?_
  rintro e w1 ⟨rfl, rfl⟩
  go_wp2_with fail
  refine (HUN.out _ _ (heap_alloc_new wa _)).mono ?_
  rintro e w2 ⟨v, rfl, hown, hb2⟩
  have hrl : rb < wa.heap.size := (Array.getElem?_eq_some_iff.1 HRB.out).1
  have HB2 : Hid (Below w.heap.size w w2) := (HBA.out.alloc HBA.out.size _).trans (hb2.mono (by have := HBA.out.size; simp; omega))
  have HR2 := Lib.hid ((hb2.block rb (by simp; omega)).trans ((Below.heap_alloc wa _ rb hrl).trans HRB.out))
  obtain ⟨va, vc, rfl, hsq, -, -⟩ := hown.seq
  obtain ⟨b, off, rfl, hc⟩ := hsq (by simp [us])
  have c0 := hc 0 (by simp [us])
  have c1 := hc 1 (by simp [us])
  simp [us, uv] at c0 c1
  clear hown hb2 hsq hc
  go_wp2_with fail
  refine wp_region_lastH (S := fun W => W.cell? ⟨b, off, none⟩ = some (.int .u64 ((idx : Int) + 2)) ∧ W.cell? ⟨b, off + 1, none⟩ = some (.int .u64 gen)) 11 (by kernel_rfl) (by kernel_rfl) ⟨c0, c1⟩ (fun hH => ?_)
  simp only [lastOps, nop, List.modify_toArray, List.modify_succ_cons, List.modify_zero_cons]
  refine takeH 0 (v := ?_) rfl (by kernel_rfl) (by kernel_rfl) (by kernel_rfl) (fun _ _ _ h => h) (by rfl) ?_ (by assumption) ?_
  rotate_left
  · intro W hW
    go_simp
    try with_reducible rfl
  try simp only [Act.put, List.setIfInBounds_toArray, List.set_cons_zero, List.set_cons_succ]
  refine takeH 1 (v := ?_) rfl (by kernel_rfl) (by kernel_rfl) (by kernel_rfl) (fun _ _ _ h => h) (by rfl) ?_ (by assumption) ?_
  rotate_left
  · intro W hW
    go_simp
    try with_reducible rfl
  try simp only [Act.put, List.setIfInBounds_toArray, List.set_cons_zero, List.set_cons_succ]
  refine takeH 2 (v := ?_) rfl (by kernel_rfl) (by kernel_rfl) (by kernel_rfl) (fun _ _ _ h => h) (by rfl) ?_ (by assumption) ?_
  rotate_left
  · intro W hW
    go_simp
    try with_reducible rfl
  try simp only [Act.put, List.setIfInBounds_toArray, List.set_cons_zero, List.set_cons_succ]
  refine takeH 3 (v := ?_) rfl (by kernel_rfl) (by kernel_rfl) (by kernel_rfl) (fun _ _ _ h => h) (by rfl) ?_ (by assumption) ?_
  rotate_left
  · intro W hW
    go_simp
    try with_reducible rfl
  try simp only [Act.put, List.setIfInBounds_toArray, List.set_cons_zero, List.set_cons_succ]
  refine takeH 4 (v := ?_) rfl (by kernel_rfl) (by kernel_rfl) (by kernel_rfl) (fun _ _ _ h => h) (by rfl) ?_ (by assumption) ?_
  rotate_left
  · intro W hW
    go_simp
    try with_reducible rfl
  try simp only [Act.put, List.setIfInBounds_toArray, List.set_cons_zero, List.set_cons_succ]
  refine takeH 5 (v := ?_) rfl (by kernel_rfl) (by kernel_rfl) (by kernel_rfl) (fun _ _ _ h => h) (by rfl) ?_ (by assumption) ?_
  rotate_left
  · intro W hW
    go_simp
    try with_reducible rfl
  try simp only [Act.put, List.setIfInBounds_toArray, List.set_cons_zero, List.set_cons_succ]
  refine takeH 6 (v := ?_) rfl (by kernel_rfl) (by kernel_rfl) (by kernel_rfl) (fun _ _ _ h => h) (by rfl) ?_ (by assumption) ?_
  rotate_left
  · intro W hW
    go_simp
    try with_reducible rfl
  try simp only [Act.put, List.setIfInBounds_toArray, List.set_cons_zero, List.set_cons_succ]
  refine takeH 7 (v := ?_) rfl (by kernel_rfl) (by kernel_rfl) (by kernel_rfl) (fun _ _ _ h => h) (by rfl) ?_ (by assumption) ?_
  rotate_left
  · intro W hW
    go_simp
    try with_reducible rfl
  try simp only [Act.put, List.setIfInBounds_toArray, List.set_cons_zero, List.set_cons_succ]
  refine takeH 8 (v := ?_) rfl (by kernel_rfl) (by kernel_rfl) (by kernel_rfl) (fun _ _ _ h => h) (by rfl) ?_ (by assumption) ?_
  rotate_left
  · intro W hW
    go_simp
    try with_reducible rfl
  try simp only [Act.put, List.setIfInBounds_toArray, List.set_cons_zero, List.set_cons_succ]
  refine takeH 9 (v := ?_) rfl (by kernel_rfl) (by kernel_rfl) (by kernel_rfl) (fun _ _ _ h => h) (by rfl) ?_ (by assumption) ?_
  rotate_left
  · intro W hW
    go_simp
    try with_reducible rfl
  try simp only [Act.put, List.setIfInBounds_toArray, List.set_cons_zero, List.set_cons_succ]
  refine wpAnyH_ready (rs := [10]) (by kernel_rfl) (by simp) (readyH rfl (fun K hK => ?_) AllReadyH.nil)
  rw [if_pos (by rfl)]
  go_simp
  have hbl : b < w2.heap.size := World.block_lt_of_cell? w2 _ c0
  refine hK.out _ _ ⟨(World.cell?_alloc_lt _ _ _ hbl).trans hH.1, (World.cell?_alloc_lt _ _ _ hbl).trans hH.2⟩ (fun hH => ?_)
  clear hK K
  try simp only [Act.put, List.setIfInBounds_toArray, List.set_cons_zero, List.set_cons_succ]
  refine takeH 11 (v := ?_) rfl (by kernel_rfl) (by kernel_rfl) (by kernel_rfl) (fun _ _ _ h => h) (by rfl) ?_ (by assumption) ?_
  rotate_left
  · intro W hW
    go_simp
    try with_reducible rfl
  try simp only [Act.put, List.setIfInBounds_toArray, List.set_cons_zero, List.set_cons_succ]
  refine lastH_done (by kernel_rfl) rfl (by rfl) ?_
  go_simp
  have HB3 : Hid (Below w.heap.size w (w2.alloc (.cells #[.int .i64 idx, .int .i64 gen] 38)).drew) := (HB2.out.alloc HB2.out.size _).drew
  obtain ⟨xb, hxb⟩ : ∃ xb, xb = w2.heap.size := ⟨_, rfl⟩
  have hrl2 : rb < w2.heap.size := (Array.getElem?_eq_some_iff.1 HR2.out).1
  have HX3 : Hid ((w2.alloc (.cells #[.int .i64 idx, .int .i64 gen] 38)).drew.heap[xb]? = some (.cells #[.int .i64 idx, .int .i64 gen] 38 (0, 0))) := by rw [hxb]; exact heap_alloc_new _ _
  have HR3 : Hid ((w2.alloc (.cells #[.int .i64 idx, .int .i64 gen] 38)).drew.heap[rb]? = some (.cells #[.int .i64 0, .int .i64 0, .int .i64 0] 69 (0, 0))) := (Below.heap_alloc _ _ _ hrl2).trans HR2.out
  rw [← hxb]
  generalize (w2.alloc (.cells #[.int .i64 idx, .int .i64 gen] 38)).drew = w3 at *
  have e0 := (cells_of_block HX3.out 0).1
  have e1 := (cells_of_block HX3.out 1).1
  simp at e0 e1
  clear hxb c0 c1 hrl2 hbl hH
  go_wp2_with fail
  refine (HAL.out w3).mono ?_
  rintro e w4 ⟨rfl, hb4⟩
  have HB4 : Hid (Below w.heap.size w w4) := HB3.out.trans (hb4.mono HB3.out.size)
  have HX4 := Lib.hid ((hb4.block xb (Array.getElem?_eq_some_iff.1 HX3.out).1).trans HX3.out)
  have HR4 := Lib.hid ((hb4.block rb (Array.getElem?_eq_some_iff.1 HR3.out).1).trans HR3.out)
  have f0 := (cells_of_block HX4.out 0).1
  have f1 := (cells_of_block HX4.out 1).1
  simp at f0 f1
  have r0 := cells_of_block HR4.out 0
  have r1 := cells_of_block HR4.out 1
  have r2 := cells_of_block HR4.out 2
  simp at r0 r1 r2
  obtain ⟨r0, g0⟩ := r0
  obtain ⟨r1, g1⟩ := r1
  obtain ⟨r2, g2⟩ := r2
  clear hb4 e0 e1
  go_wp2_with fail
  try simp only [Exit.inBlock, Exit.then]
  have hbk : (((w4.setCell ⟨rb, 0, none⟩ (.int .i64 2)).setCell ⟨rb, 1, none⟩ (.int .i64 idx)).setCell ⟨rb, 2, none⟩ (.int .i64 gen)).heap[rb]? = some (.cells #[.int .i64 2, .int .i64 idx, .int .i64 gen] 69 (0, 0)) := by
    simpa using block_setCell (block_setCell (block_setCell HR4.out 0 (.int .i64 2)) 1 (.int .i64 idx)) 2 (.int .i64 gen)
  refine bodyPost_ret (results_blk rfl _ _ rb _ _ _ _ rfl hbk Tryz.underlying69 rfl rfl) rfl ⟨rfl, ?_⟩
  have e : w.heap.size ≤ rb := Nat.le_of_eq HRE.out.symm
  exact ((HB4.out.setCell e _).setCell e _).setCell e _
end Go.Proofs.YtcdpnfchmpncjaaGreatDoor
namespace Go.Tr
open Go.RowKit
structure Lay where
  fixed : Nat
  refs : List Nat
  record : Nat
  recs : List Nat
def risesN (l : List Nat) (size : Nat) : Prop := (∀ p ∈ l, p < size) ∧ l.Pairwise (· < ·)
structure RightLay (L : Lay) : Prop where
  f : L.fixed ≤ 64
  r : L.record ≤ 64
  pos : 0 < L.fixed + L.record
  refs : risesN L.refs L.fixed
  recs : risesN L.recs L.record
def Lay.size (L : Lay) (count : Nat) : Nat := L.fixed + count * L.record
def LayAt (w : World) (v : Value) (L : Lay) : Prop := ∃ ra rc sa sc, v = .agg #[.int .i64 (L.fixed : Nat), .slice ra L.refs.length rc, .int .i64 (L.record : Nat), .slice sa L.recs.length sc] ∧ SeqAt w ra (ns L.refs) ∧ SeqAt w sa (ns L.recs)
theorem LayAt.kept {w w' : World} {v : Value} {L : Lay} (h : LayAt w v L) (hb : Below w.heap.size w w') : LayAt w' v L := by
  obtain ⟨ra, rc, sa, sc, e, h1, h2⟩ := h
  exact ⟨ra, rc, sa, sc, e, h1.below hb (Nat.le_refl _), h2.below hb (Nat.le_refl _)⟩
theorem SeqAt.n {w : World} {a : Option Addr} {xs : List Nat} (h : SeqAt w a (ns xs)) {k : Nat} (hk : k < xs.length) : ∃ b off x, a = some ⟨b, off, none⟩ ∧ w.cell? ⟨b, off + k, none⟩ = some (.int .i64 (x : Nat)) ∧ Hid (xs[k]? = some x) := by
  obtain ⟨b, off, e, hc⟩ := h (by simp [ns]; omega)
  refine ⟨b, off, xs[k], e, ?_, List.getElem?_eq_getElem hk⟩
  rw [hc k (by simp [ns]; exact hk)]
  simp [ns, nv, List.getD, List.getElem?_eq_getElem hk]
theorem rises_step {l : List Nat} {k x y : Nat} (h : l.Pairwise (· < ·)) (hx : l[k]? = some x) (hy : l[k + 1]? = some y) : x < y := by
  rw [List.pairwise_iff_getElem] at h
  obtain ⟨h1, h2⟩ := List.getElem?_eq_some_iff.1 hx
  obtain ⟨h3, h4⟩ := List.getElem?_eq_some_iff.1 hy
  have := h k (k + 1) h1 h3 (Nat.lt_succ_self _)
  rw [h2, h4] at this; exact this
theorem pairwise_len : ∀ (l : List Nat) (a size : Nat), (∀ p ∈ l, a ≤ p ∧ p < size) → l.Pairwise (· < ·) → l.length + a ≤ size ∨ l = []
  | [], _, _, _, _ => Or.inr rfl
  | x :: r, a, size, h1, h2 => by
    have hx := h1 x (by simp)
    rw [List.pairwise_cons] at h2
    rcases pairwise_len r (x + 1) size (fun p hp => ⟨h2.1 p hp, (h1 p (by simp [hp])).2⟩) h2.2 with h | h
    · left; simp only [List.length_cons]; omega
    · subst h; left; simp only [List.length_cons, List.length_nil]; omega
theorem risesN_len {l : List Nat} {size N : Nat} (h : risesN l size) (hs : size ≤ N) : l.length ≤ N := by
  rcases pairwise_len l 0 size (fun p hp => ⟨Nat.zero_le _, h.1 p hp⟩) h.2 with h | h
  · omega
  · subst h; exact Nat.zero_le _
end Go.Tr
namespace Go.Proofs.YtcdpnfchmpncjaaGreatDoor
open Go.RowKit Go.Tr Go.Shelf
variable {w w' : World}
set_option maxRecDepth 100000 in
theorem lrises_any (l : List Nat) (size : Nat) (la : Option Addr) (n c : Nat) (w : World) (h : SeqAt w la (ns l)) (hl : l.length = n) (hn : n ≤ 100000) (hs : size ≤ 100000) (hr : risesN l size) : Calls Tryz.prog 128 #[.slice la n c, .int .i64 size] w fun e w' => e = .returned (.bool true) ∧ w = w' := by
  have HS := Lib.hid h
  have HR := Lib.hid hr
  have HL := Lib.hid hl
  clear h hr hl
  go_enter Tryz.func128, Tryz.ntmps128
  go_wp2_with fail
  go_loopw [9] (fun i wr => wr = w ∧ ∃ k : Nat, i = .int .i64 (k : Int) ∧ k ≤ n) (fun i _ => n - (intOf i).toNat)
  case atStart => exact ⟨rfl, 0, rfl, Nat.zero_le _⟩
  case round =>
    obtain ⟨rfl, k, rfl, hk⟩ := hrel
    by_cases hlt : k < n
    · have hlt' : (k : Int) < (n : Int) := by omega
      obtain ⟨b, off, x, rfl, hc, HX⟩ := HS.out.n (k := k) (by rw [HL.out]; exact hlt)
      have hxs : x < size := HR.out.1 x (List.mem_of_getElem? HX.out)
      have hx1 : ¬ (x : Int) < 0 := by omega
      have hx2 : ¬ (size : Int) ≤ (x : Int) := by omega
      rcases k with _ | k
      · rw [Nat.add_zero] at hc
        go_wp2
        go_roundw
        case rel => exact ⟨trivial, 1, by go_num, by omega⟩
        case measure => simp [intOf]; omega
      · obtain ⟨b2, off2, y, e2, hc2, HY⟩ := HS.out.n (k := k) (by rw [HL.out]; omega)
        obtain ⟨rfl, rfl⟩ : b2 = b ∧ off2 = off := by simpa [eq_comm] using e2
        have hyx : y < x := rises_step HR.out.2 HY.out HX.out
        have hy1 : ¬ (x : Int) ≤ (y : Int) := by omega
        have hk1 : (0 : Int) < (k : Int) + 1 := by omega
        have hk2 : (k : Int) + 1 - 1 = (k : Int) := by omega
        have hk3 : (0 : Int) ≤ (k : Int) := by omega
        have hk4 : (k : Int) < (n : Int) := by omega
        rw [Int.natCast_add] at hlt'
        go_wp2
        go_roundw
        case rel => exact ⟨trivial, k + 2, by go_num, by omega⟩
        case measure => simp [intOf]; omega
    · have hlt' : ¬ (k : Int) < (n : Int) := by omega
      go_wp2
      go_ret
      exact ⟨rfl, rfl⟩
set_option maxRecDepth 100000 in
theorem lright_any {v : Value} {L : Lay} (w : World) (h : LayAt w v L) (hr : RightLay L) : Calls Tryz.prog 82 #[v] w fun e w' => e = .returned (.bool true) ∧ Below w.heap.size w w' := by
  obtain ⟨ra, rc, sa, sc, rfl, h1, h2⟩ := h
  have hrl : L.refs.length ≤ 100000 := risesN_len hr.refs (by have := hr.f; omega)
  have hsl : L.recs.length ≤ 100000 := risesN_len hr.recs (by have := hr.r; omega)
  obtain ⟨fx, hfx⟩ : ∃ fx, fx = L.fixed := ⟨_, rfl⟩
  obtain ⟨rx, hrx⟩ : ∃ rx, rx = L.record := ⟨_, rfl⟩
  obtain ⟨n1, hn1⟩ : ∃ n1, n1 = L.refs.length := ⟨_, rfl⟩
  obtain ⟨n2, hn2⟩ : ∃ n2, n2 = L.recs.length := ⟨_, rfl⟩
  have hf := hr.f
  have hrr := hr.r
  have hp := hr.pos
  rw [← hfx] at hf hp ⊢
  rw [← hrx] at hrr hp ⊢
  rw [← hn1] at hrl ⊢
  rw [← hn2] at hsl ⊢
  have HA : Hid (∀ W : World, Below w.heap.size w W → Calls Tryz.prog 128 #[.slice ra n1 rc, .int .i64 fx] W fun e w' => e = .returned (.bool true) ∧ W = w') := fun W hb => lrises_any L.refs fx ra n1 rc W (h1.below hb (Nat.le_refl _)) hn1.symm (by omega) (by omega) (by rw [hfx]; exact hr.refs)
  have HB : Hid (∀ W : World, Below w.heap.size w W → Calls Tryz.prog 128 #[.slice sa n2 sc, .int .i64 rx] W fun e w' => e = .returned (.bool true) ∧ W = w') := fun W hb => lrises_any L.recs rx sa n2 sc W (h2.below hb (Nat.le_refl _)) hn2.symm (by omega) (by omega) (by rw [hrx]; exact hr.recs)
  have k1 : ¬ (fx : Int) < 0 := by omega
  have k2 : ¬ (64 : Int) < (fx : Int) := by omega
  have k3 : ¬ (rx : Int) < 0 := by omega
  have k4 : ¬ (64 : Int) < (rx : Int) := by omega
  have k5 : ((fx : Int) + (rx : Int) == 0) = false := by simp; omega
  have HBA : Hid (Below w.heap.size w (w.alloc (.cells #[.int .i64 fx, .slice ra n1 rc, .int .i64 rx, .slice sa n2 sc] 60))) := (Below.refl _ w).alloc (Nat.le_refl _) _
  clear h1 h2 hr hfx hrx hn1 hn2 hp
  go_enter Tryz.func82, Tryz.ntmps82
  go_wp2_with fail
  refine (HA.out _ HBA.out).mono ?_
  rintro e w' ⟨rfl, rfl⟩
  go_wp2_with fail
  refine (HB.out _ HBA.out).mono ?_
  rintro e w' ⟨rfl, rfl⟩
  go_wp2_with fail
  go_ret
  exact ⟨rfl, HBA.out⟩
set_option maxRecDepth 100000 in
set_option maxHeartbeats 1000000 in
theorem lsize_any {v : Value} {L : Lay} (count : Nat) (w : World) (h : LayAt w v L) (hr : RightLay L) (hc : count ≤ 1024) (hcr : count = 0 ∨ L.record ≠ 0) (hsz : L.size count < 8192) : Calls Tryz.prog 87 #[v, .int .i64 count] w fun e w' => e = .returned (.tuple #[.int .i64 (L.size count : Nat), .int .i64 0]) ∧ Below w.heap.size w w' := by
  have HRT : Hid (∀ W : World, Below w.heap.size w W → Calls Tryz.prog 82 #[v] W fun e w' => e = .returned (.bool true) ∧ Below W.heap.size W w') := fun W hb => lright_any W (h.kept hb) hr
  obtain ⟨ra, rc, sa, sc, rfl, h1, h2⟩ := h
  obtain ⟨fx, hfx⟩ : ∃ fx, fx = L.fixed := ⟨_, rfl⟩
  obtain ⟨rx, hrx⟩ : ∃ rx, rx = L.record := ⟨_, rfl⟩
  obtain ⟨z, hz⟩ : ∃ z, z = L.size count := ⟨_, rfl⟩
  have hrr := hr.r
  have hf := hr.f
  rw [← hfx] at hf HRT ⊢
  rw [← hrx] at hrr hcr HRT ⊢
  rw [← hz] at hsz ⊢
  have hmul : (fx : Int) + (count : Int) * (rx : Int) = (z : Int) := by rw [hz, Lay.size, ← hfx, ← hrx]; push_cast; rfl
  obtain ⟨m, hm⟩ : ∃ m, m = count * rx := ⟨_, rfl⟩
  have hm2 : (count : Int) * (rx : Int) = (m : Int) := by rw [hm]; push_cast; rfl
  have hmb : m ≤ 65536 + 64 := by rw [hm]; exact Nat.le_trans (Nat.mul_le_mul hc hrr) (by decide)
  rw [hm2] at hmul
  have HBA : Hid (Below w.heap.size w (w.alloc (.cells #[.int .i64 fx, .slice ra L.refs.length rc, .int .i64 rx, .slice sa L.recs.length sc] 60))) := (Below.refl _ w).alloc (Nat.le_refl _) _
  obtain ⟨xb, hxb⟩ : ∃ xb, xb = w.heap.size := ⟨_, rfl⟩
  have HXB : Hid ((w.alloc (.cells #[.int .i64 fx, .slice ra L.refs.length rc, .int .i64 rx, .slice sa L.recs.length sc] 60)).heap[xb]? = some (.cells #[.int .i64 fx, .slice ra L.refs.length rc, .int .i64 rx, .slice sa L.recs.length sc] 60 (0, 0))) := by rw [hxb]; exact heap_alloc_new _ _
  have k1 : ¬ (count : Int) < 0 := by omega
  have k2 : ¬ (1024 : Int) < (count : Int) := by omega
  have k3 : ¬ (8192 : Int) ≤ (z : Int) := by omega
  clear h1 h2 hr hfx hrx hz hm
  go_enter Tryz.func87, Tryz.ntmps87
  go_wp2_with fail
  have HRT2 := Lib.hid (HRT.out _ HBA.out)
  rw [← hxb]
  generalize w.alloc (.cells #[.int .i64 fx, .slice ra L.refs.length rc, .int .i64 rx, .slice sa L.recs.length sc] 60) = wa at *
  clear hxb HRT
  refine HRT2.out.mono ?_
  rintro e w1 ⟨rfl, hb1⟩
  have HB1 : Hid (Below w.heap.size w w1) := HBA.out.trans (hb1.mono HBA.out.size)
  have HX1 := Lib.hid ((hb1.block xb (Array.getElem?_eq_some_iff.1 HXB.out).1).trans HXB.out)
  have x0 := (cells_of_block HX1.out 0).1
  have x2 := (cells_of_block HX1.out 2).1
  simp at x0 x2
  clear hb1
  by_cases hc0 : count = 0
  · have hm0 : ¬ (0 : Int) < (count : Int) := by omega
    clear hc0
    go_wp2_with fail
    go_ret2
    exact ⟨rfl, HB1.out⟩
  · have hc1 : (0 : Int) < (count : Int) := by omega
    have hr1 : ((rx : Int) == 0) = false := by rcases hcr with h | h; exact absurd h hc0; simp; omega
    clear hcr hc0
    go_wp2_with fail
    go_ret2
    exact ⟨rfl, HB1.out⟩
end Go.Proofs.YtcdpnfchmpncjaaGreatDoor
