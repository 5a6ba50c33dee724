/-
  Parts of the proof, one behind the other: KLay5, KLay6, KLay7, KImg, KImg2, KImg3, KImg4, KImg5, KImg6, KImg7, KImg8, KImg9, KLinks, KRem, Gray1, Gray2, Gray3, KHeap, KCell, KCell2, KCell3, KCell4.
-/
import Derived.StillTailTactics
import Derived.Test.YtcdpnfchmpncjaaGreatDoorTopRec2
set_option linter.unusedSimpArgs false
set_option linter.unusedVariables false
namespace Go.Tr
open Go.RowKit
def isRefN (L : Lay) (p : Nat) : Bool := if p < L.fixed then decide (p ∈ L.refs) else decide ((p - L.fixed) % L.record ∈ L.recs)
theorem hasL_nat (xs : List Nat) (x : Nat) : hasL (xs.map fun x : Nat => (x : Int)) (x : Int) = decide (x ∈ xs) := by
  rw [Bool.eq_iff_iff, hasL_iff, decide_eq_true_iff, List.mem_map]
  exact ⟨fun ⟨a, h1, h2⟩ => by have : a = x := by omega
                               exact this ▸ h1, fun h => ⟨x, h, rfl⟩⟩
theorem rises_ints {xs : List Nat} (h : xs.Pairwise (· < ·)) : (xs.map fun x : Nat => (x : Int)).Pairwise (· ≤ ·) := by
  rw [List.pairwise_map]
  exact h.imp (fun h => by omega)
end Go.Tr
namespace Go.Proofs.YtcdpnfchmpncjaaGreatDoor
open Go.RowKit Go.Tr Go.Shelf
variable {w w' : World} {F G : Nat → Prop} {b : Nat} {L : Lay}
theorem nsearch_any (a : Option Addr) (n c : Nat) (xs : List Nat) (x : Nat) (w : World) (h : SeqAt w a (ns xs)) (hl : xs.length = n) (hn : n ≤ 1000) (hs : xs.Pairwise (· < ·)) :
    Calls Tryz.prog 137 #[.slice a n c, .int .i64 x] w fun e w' => ∃ k : Nat, e = .returned (.tuple #[.int .i64 k, .bool (decide (x ∈ xs))]) ∧ Drawn w w' := by
  have := search_any a n c (xs.map fun x : Nat => (x : Int)) (x : Int) w (by rw [← ns_ints]; exact h) (by simpa using hl) (by omega) (rises_ints hs)
  refine this.mono ?_
  rintro e w' ⟨rfl, hd⟩
  exact ⟨_, by rw [hasL_nat], hd⟩
set_option maxRecDepth 100000 in
set_option maxHeartbeats 1000000 in
theorem lisref_any {v : Value} (count p : Nat) (w : World) (h : LayAt w v L) (hr : RightLay L) (hc : count ≤ 1024) (hcr : count = 0 ∨ L.record ≠ 0) (hsz : L.size count < 8192) (hp : p < L.size count) : Calls Tryz.prog 182 #[v, .int .i64 count, .int .i64 p] w fun e w' => e = .returned (.tuple #[.bool (isRefN L p), .int .i64 0]) ∧ Below w.heap.size w w' := by
  have HSZ : Hid (∀ W : World, Below w.heap.size w W → Calls Tryz.prog 87 #[v, .int .i64 count] W fun e w' => e = .returned (.tuple #[.int .i64 (L.size count : Nat), .int .i64 0]) ∧ Below W.heap.size W w') := fun W hb => lsize_any count W (h.kept hb) hr hc hcr hsz
  obtain ⟨ra, rc, sa, sc, rfl, h1, h2⟩ := h
  have hrl : L.refs.length ≤ 1000 := risesN_len hr.refs (by have := hr.f; omega)
  have hsl : L.recs.length ≤ 1000 := risesN_len hr.recs (by have := hr.r; omega)
  have hrec : L.fixed ≤ p → L.record ≠ 0 := fun hfp e => by
    unfold Lay.size at hp
    rw [e, Nat.mul_zero] at hp; omega
  obtain ⟨fx, hfx⟩ : ∃ fx, fx = L.fixed := ⟨_, rfl⟩
  obtain ⟨rx, hrx⟩ : ∃ rx, rx = L.record := ⟨_, rfl⟩
  obtain ⟨n1, hn1⟩ : ∃ n1, n1 = L.refs.length := ⟨_, rfl⟩
  obtain ⟨n2, hn2⟩ : ∃ n2, n2 = L.recs.length := ⟨_, rfl⟩
  obtain ⟨z, hz⟩ : ∃ z, z = L.size count := ⟨_, rfl⟩
  have hf := hr.f
  have hrr := hr.r
  rw [← hfx, ← hrx, ← hn1, ← hn2] at HSZ ⊢
  rw [← hz] at HSZ hsz hp
  rw [← hfx] at hf hrec
  rw [← hrx] at hrr hrec
  rw [← hn1] at hrl
  rw [← hn2] at hsl
  obtain ⟨bv, hbv⟩ : ∃ bv, bv = isRefN L p := ⟨_, rfl⟩
  have HBV := Lib.hid hbv
  have HSA : Hid (∀ (x : Nat) (W : World), Below w.heap.size w W → Calls Tryz.prog 137 #[.slice ra n1 rc, .int .i64 x] W fun e w' => ∃ k : Nat, e = .returned (.tuple #[.int .i64 k, .bool (decide (x ∈ L.refs))]) ∧ Drawn W w') := fun x W hb => nsearch_any ra n1 rc L.refs x W (h1.below hb (Nat.le_refl _)) hn1.symm hrl hr.refs.2
  have HSB : Hid (∀ (x : Nat) (W : World), Below w.heap.size w W → Calls Tryz.prog 137 #[.slice sa n2 sc, .int .i64 x] W fun e w' => ∃ k : Nat, e = .returned (.tuple #[.int .i64 k, .bool (decide (x ∈ L.recs))]) ∧ Drawn W w') := fun x W hb => nsearch_any sa n2 sc L.recs x W (h2.below hb (Nat.le_refl _)) hn2.symm hsl hr.recs.2
  have HFX : Hid (fx = L.fixed ∧ rx = L.record) := ⟨hfx, hrx⟩
  have HBA : Hid (Below w.heap.size w (w.alloc (.cells #[.int .i64 fx, .slice ra n1 rc, .int .i64 rx, .slice sa n2 sc] 60))) := (Below.refl _ w).alloc (Nat.le_refl _) _
  obtain ⟨xb, hxb⟩ : ∃ xb, xb = w.heap.size := ⟨_, rfl⟩
  have HXB : Hid ((w.alloc (.cells #[.int .i64 fx, .slice ra n1 rc, .int .i64 rx, .slice sa n2 sc] 60)).heap[xb]? = some (.cells #[.int .i64 fx, .slice ra n1 rc, .int .i64 rx, .slice sa n2 sc] 60 (0, 0))) := by rw [hxb]; exact heap_alloc_new w _
  have k1 : ¬ (p : Int) < 0 := by omega
  have k2 : ¬ (z : Int) ≤ (p : Int) := by omega
  rw [← hbv]
  clear h1 h2 hr hfx hrx hn1 hn2 hz hbv hcr hc
  go_enter Tryz.func182, Tryz.ntmps182
  go_wp2_with fail
  rw [← hxb]
  have HSZ2 := Lib.hid (HSZ.out _ HBA.out)
  clear hxb HSZ
  generalize w.alloc (.cells #[.int .i64 fx, .slice ra n1 rc, .int .i64 rx, .slice sa n2 sc] 60) = wa at *
  refine HSZ2.out.mono ?_
  rintro e w1 ⟨rfl, hb1⟩
  have HB1 : Hid (Below w.heap.size w w1) := HBA.out.trans (hb1.mono HBA.out.size)
  have HX1 := Lib.hid ((hb1.block xb (Array.getElem?_eq_some_iff.1 HXB.out).1).trans HXB.out)
  have x0 := (cells_of_block HX1.out 0).1
  have x1 := (cells_of_block HX1.out 1).1
  have x2 := (cells_of_block HX1.out 2).1
  have x3 := (cells_of_block HX1.out 3).1
  simp at x0 x1 x2 x3
  clear hb1
  by_cases hpf : fx ≤ p
  · have hpf' : (fx : Int) ≤ (p : Int) := by omega
    have hr0 : ¬ (rx : Int) = 0 := by have := hrec hpf; omega
    have hsub : IntKind.i64.wrap ((p : Int) - (fx : Int)) = ((p - fx : Nat) : Int) := by rw [IntWalk.i64_in _ (by omega)]; omega
    have hmod : ((p - fx : Nat) : Int).tmod (rx : Int) = (((p - fx) % rx : Nat) : Int) := by
      rw [Int.tmod_eq_emod_of_nonneg (by omega)]; push_cast; rfl
    obtain ⟨y, hy⟩ : ∃ y, y = (p - fx) % rx := ⟨_, rfl⟩
    obtain ⟨d, hd⟩ : ∃ d, d = p - fx := ⟨_, rfl⟩
    have hyl : y < rx := by rw [hy]; exact Nat.mod_lt _ (by have := hrec hpf; omega)
    have HBV2 : Hid (bv = decide (y ∈ L.recs)) := by
      show _ = _
      rw [HBV.out, isRefN, ← HFX.out.1, ← HFX.out.2, if_neg (by omega), ← hy]
    rw [← hy, ← hd] at hmod
    rw [← hd] at hsub
    have hdb : d ≤ 8192 := by omega
    have hmod2 : (d : Int) % (rx : Int) = (y : Int) := by rw [← Int.tmod_eq_emod_of_nonneg (by omega)]; exact hmod
    clear hy hd
    go_wp2_with fail
    refine wp_region_held_drew (S := fun W => W.cell? ⟨xb, 0, none⟩ = some (.int .i64 fx) ∧ W.cell? ⟨xb, 2, none⟩ = some (.int .i64 rx) ∧ W.cell? ⟨xb, 3, none⟩ = some (.slice sa n2 sc)) (by kernel_rfl) ⟨x0, x2, x3⟩ (fun hH => ?_)
    refine Go.Tr.tz 0 (v := ?_) rfl ?_ ?_
    rotate_left
    · intro W hW
      go_simp
      try with_reducible rfl
    try simp only [Go.Tr.nz]
    refine Go.Tr.tz 1 (v := ?_) rfl ?_ ?_
    rotate_left
    · intro W hW
      go_simp
      try with_reducible rfl
    try simp only [Go.Tr.nz]
    refine Go.Tr.tz 2 (v := ?_) rfl ?_ ?_
    rotate_left
    · intro W hW
      go_simp
      try with_reducible rfl
    try simp only [Go.Tr.nz]
    refine Go.Tr.tz 3 (v := ?_) rfl ?_ ?_
    rotate_left
    · intro W hW
      go_simp
      try with_reducible rfl
    try simp only [Go.Tr.nz]
    refine Go.Tr.tz 4 (v := ?_) rfl ?_ ?_
    rotate_left
    · intro W hW
      go_simp
      try with_reducible rfl
    try simp only [Go.Tr.nz]
    refine Go.Tr.tz 5 (v := ?_) rfl ?_ ?_
    rotate_left
    · intro W hW
      go_simp
      try with_reducible rfl
    try simp only [Go.Tr.nz]
    refine Go.Tr.tz 6 (v := ?_) rfl ?_ ?_
    rotate_left
    · intro W hW
      go_simp
      try with_reducible rfl
    try simp only [Go.Tr.nz]
    refine Go.Tr.tz 7 (v := ?_) rfl ?_ ?_
    rotate_left
    · intro W hW
      go_simp
      try with_reducible rfl
    try simp only [Go.Tr.nz]
    refine Go.Tr.tz 8 (v := ?_) rfl ?_ ?_
    rotate_left
    · intro W hW
      go_simp
      try with_reducible rfl
    try simp only [Go.Tr.nz]
    refine Go.Tr.tz 9 (v := ?_) rfl ?_ ?_
    rotate_left
    · intro W hW
      go_simp
      try with_reducible rfl
    try simp only [Go.Tr.nz]
    refine Go.Tr.tz 10 (v := ?_) rfl ?_ ?_
    rotate_left
    · intro W hW
      go_simp
      try with_reducible rfl
    try simp only [Go.Tr.nz]
    refine wpAnyH_done (by kernel_rfl) ?_ _
    go_wp2_with fail
    refine (HSB.out y _ HB1.out.drew).mono ?_
    rintro e w2 ⟨k, rfl, nq, rfl⟩
    rw [← HBV2.out]
    go_wp2_with fail
    go_ret2
    exact ⟨rfl, HB1.out.trans (Drawn.below ⟨1 + nq, rfl⟩ _)⟩
  · have hpf' : ¬ (fx : Int) ≤ (p : Int) := by omega
    have HBV2 : Hid (bv = decide (p ∈ L.refs)) := by
      show _ = _
      rw [HBV.out, isRefN, ← HFX.out.1, if_pos (by omega)]
    go_wp2_with fail
    refine (HSA.out p _ HB1.out).mono ?_
    rintro e w2 ⟨k, rfl, nq, rfl⟩
    rw [← HBV2.out]
    go_wp2_with fail
    go_ret2
    exact ⟨rfl, HB1.out.trans (Drawn.below ⟨nq, rfl⟩ _)⟩
end Go.Proofs.YtcdpnfchmpncjaaGreatDoor

namespace Go.Tr
open Go.RowKit
def spreadL (W : Nat) : List Nat := (List.range 64).filter W.testBit
theorem filter_skip {f : Nat → Bool} {k : Nat} : ∀ {n : Nat}, k ≤ n → (∀ i, k ≤ i → i < n → f i = false) → (List.range n).filter f = (List.range k).filter f
  | 0, h, _ => by rw [show k = 0 by omega]
  | n + 1, h, hf => by
    by_cases e : k = n + 1
    · rw [e]
    · rw [List.range_succ, List.filter_append, filter_skip (n := n) (by omega) (fun i h1 h2 => hf i h1 (by omega))]
      simp [hf n (by omega) (by omega)]
theorem clear_low {z t : Nat} (ht : z.testBit t = true) (hl : ∀ s, s < t → z.testBit s = false) (i : Nat) : (z &&& (z - 1)).testBit i = (decide (t < i) && z.testBit i) := by
  have h0 : z % 2 ^ t = 0 := by
    apply Nat.eq_of_testBit_eq
    intro j
    rw [Nat.testBit_mod_two_pow, Nat.zero_testBit]
    by_cases hj : j < t
    · simp [hl j hj]
    · simp [hj]
  have h1 : z / 2 ^ t % 2 = 1 := by
    have := ht
    rw [Nat.testBit_eq_decide_div_mod_eq] at this
    simpa using this
  have hp : 0 < 2 ^ t := Nat.two_pow_pos t
  obtain ⟨q, hq⟩ : ∃ q, z / 2 ^ t = 2 * q + 1 := ⟨z / 2 ^ t / 2, by omega⟩
  have hz : z = 2 ^ t * (2 * q + 1) := by
    have := Nat.div_add_mod z (2 ^ t)
    rw [h0, hq] at this; omega
  have hz1 : z - 1 = 2 ^ t * (2 * q) + (2 ^ t - 1) := by rw [hz, Nat.mul_add]; omega
  rw [Nat.testBit_and]
  rcases Nat.lt_trichotomy i t with h | h | h
  · rw [hl i h]; simp
  · subst h
    have h2 : (z - 1).testBit i = false := by
      rw [hz1, Nat.testBit_two_pow_mul_add _ (by omega), if_neg (by omega), Nat.sub_self]
      simp
    rw [h2]; simp
  · have h2 : (z - 1).testBit i = z.testBit i := by
      rw [hz1, Nat.testBit_two_pow_mul_add _ (by omega), if_neg (by omega)]
      conv => rhs; rw [hz, ← Nat.add_zero (2 ^ t * (2 * q + 1)), Nat.testBit_two_pow_mul_add _ hp, if_neg (by omega)]
      obtain ⟨j, hj⟩ : ∃ j, i - t = j + 1 := ⟨i - t - 1, by omega⟩
      rw [hj, Nat.testBit_succ, Nat.testBit_succ]
      congr 1
      omega
    rw [h2]; simp [h]
end Go.Tr
namespace Go.Proofs.YtcdpnfchmpncjaaGreatDoor
open Go.RowKit Go.Tr Go.Shelf
variable {w w' : World} {F G : Nat → Prop}
set_option maxRecDepth 100000 in
theorem lsizes_any (w : World) : Calls Tryz.prog 80 #[] w fun e w' => e = .returned (.slice (some ⟨w.heap.size, 0, none⟩) 3 3) ∧ w' = w.alloc (.cells (pcells [(0, 8), (8, 8), (16, 48)]).toArray 212) := by
  go_enter Tryz.func80, Tryz.ntmps80
  go_wp2
  go_ret
  exact ⟨rfl, rfl⟩
set_option maxRecDepth 100000 in
theorem lspread_any (W : Nat) (hW : W < 18446744073709551616) (w : World) (hT : Tz w) : Calls Tryz.prog 81 #[.int .u64 W] w fun e w' => ∃ a c, e = .returned (.slice a (spreadL W).length c) ∧ SeqAt w' a (ns (spreadL W)) ∧ (∀ b o, a = some ⟨b, o, none⟩ → w.heap.size ≤ b ∧ b < w'.heap.size) ∧ Below w.heap.size w w' := by
  obtain ⟨i0, hi, hz0, hz1, hz2⟩ := info_parts infoIntU
  have HTZ := Lib.hid hT
  clear hT
  go_enter Tryz.func81, Tryz.ntmps81
  go_wp2_with fail
  go_loopw [0, 3] (fun x v wr => ∃ z k n : Nat, x = .int .u64 (z : Int) ∧ z < 18446744073709551616 ∧ k ≤ 64 ∧ n ≤ k ∧ Hid (∀ i, z.testBit i = (decide (k ≤ i) && W.testBit i)) ∧ Hid (OwnO wr 1 v n (ns ((List.range k).filter W.testBit))) ∧ Hid (∀ q, v.ownBlock = some q → w.heap.size ≤ q) ∧ Hid (Below w.heap.size w wr)) (fun x _ _ => (intOf x).toNat)
  case atStart => exact ⟨W, 0, 0, rfl, hW, by omega, Nat.le_refl _, fun i => by simp, OwnO.nil _ _, fun q hq => by simp [Value.ownBlock] at hq, Below.refl _ w⟩
  case round =>
    obtain ⟨z, k, n, rfl, hz, hk, hnk, HZ, HV, HN, HB⟩ := hrel
    by_cases hz0' : z = 0
    · subst hz0'
      have HL : Hid (spreadL W = (List.range k).filter W.testBit) := filter_skip hk (fun i h1 h2 => by
        have := HZ.out i
        rw [Nat.zero_testBit] at this
        simpa [h1] using this.symm)
      have hne : (((0 : Nat) : Int) == 0) = true := rfl
      obtain ⟨va, vc, rfl, hsq, -, -⟩ := HV.out.seq
      have HSQ := Lib.hid hsq
      have hnl : n = (spreadL W).length := by
        have := HV.out.length
        rw [HL.out]; simpa [ns] using this.symm
      have HNL := Lib.hid hnl
      have HVL : Hid (∀ q o, va = some ⟨q, o, none⟩ → q < wr.heap.size) := fun q o e => HV.out.lt q (by subst e; rfl)
      have HNA : Hid (∀ q o, va = some ⟨q, o, none⟩ → w.heap.size ≤ q) := fun q o e => HN.out q (by subst e; rfl)
      clear hsq hnl hne
      go_wp2_with fail
      go_ret
      exact ⟨va, vc, by rw [← HNL.out]; rfl, by rw [HL.out]; exact HSQ.out, fun q o e => ⟨HNA.out q o e, HVL.out q o e⟩, HB.out⟩
    · obtain ⟨t1, t2, t3⟩ := ctz_bits hz0' hz
      have HTW := Lib.hid (tz_any z hz wr (tz_kept HTZ.out HB.out.block))
      obtain ⟨t, ht⟩ : ∃ t, t = Lib.ctz 64 z := ⟨_, rfl⟩
      rw [← ht] at t1 t2 t3 HTW
      have hkt : k ≤ t := by
        have := HZ.out t
        rw [t2] at this
        simp at this
        exact this.1
      have hneq : ((z : Int) != 0) = true := by simp; omega
      have hsub : IntKind.u64.wrap ((z : Int) - 1) = ((z - 1 : Nat) : Int) := by rw [IntWalk.u64_in _ (by omega)]; omega
      have hand : bits .and .u64 (z : Int) ((z - 1 : Nat) : Int) = ((z &&& (z - 1) : Nat) : Int) := u64_and_nat _ _ hz (by omega)
      obtain ⟨y, hy⟩ : ∃ y, y = z &&& (z - 1) := ⟨_, rfl⟩
      obtain ⟨z1, hz1'⟩ : ∃ z1, z1 = z - 1 := ⟨_, rfl⟩
      have hyb : ∀ i, y.testBit i = (decide (t < i) && z.testBit i) := fun i => by rw [hy]; exact clear_low t2 t3 i
      have hylt : y < z := by
        have h1 : y ≤ z - 1 := by rw [hy]; exact Nat.and_le_right
        omega
      rw [← hy, ← hz1'] at hand
      rw [← hz1'] at hsub
      have HY : Hid (∀ i, y.testBit i = (decide (t + 1 ≤ i) && W.testBit i)) := fun i => by
        rw [hyb i, HZ.out i]
        by_cases h : t < i
        · have h2 : k ≤ i := by omega
          have h3 : t + 1 ≤ i := h
          simp [h, h2, h3]
        · have h3 : ¬ t + 1 ≤ i := h
          simp [h, h3]
      have HLN : Hid (ns ((List.range k).filter W.testBit) ++ [.int .i64 (t : Int)] = ns ((List.range (t + 1)).filter W.testBit)) := by
        have h1 : W.testBit t = true := by
          have := HZ.out t
          rw [t2] at this
          simp at this
          exact this.2
        show _ = _
        rw [List.range_succ, List.filter_append, filter_skip hkt (fun i h1 h2 => by
          have h3 := HZ.out i
          rw [t3 i h2] at h3
          simpa [h1] using h3.symm)]
        simp [h1, ns, nv]
      clear hy hz1' hyb t2 t3 ht HZ
      obtain ⟨va, vc, rfl, -, -, -⟩ := HV.out.seq
      go_wp2_with fail
      refine HTW.out.mono ?_
      rintro e w' ⟨rfl, rfl⟩
      go_wp2_with (first
        | (at_builtin; refine wpList_appendO _ rfl (.tmp 10) (.tmp 13) 42 rfl 3 i0 _ 1 8 Tryz.underlying42 hi hz0 hz1 hz2 rfl (by decide) (.slice va n vc) n (ns ((List.range k).filter W.testBit)) rfl (HV.out.kept (fun q hq => Below.heap_alloc _ _ _ (HV.out.lt q hq))) ⟨wr.heap.size, 0, none⟩ 1 1 [.int .i64 (t : Int)] rfl rfl ?_ ?_ (by unfold maxLen; omega) (by omega) ?_)
        | fail)
      · intro j u hj
        rcases j with _ | j
        · simp at hj; subst hj; simp [Addr.add]
        · simp at hj
      · intro u hu; simp at hu; subst hu; rfl
      · intro v4 w4 r1 r2 r3
        rw [HLN.out] at r1
        have HV4 := Lib.hid r1
        have HB4 : Hid (Below w.heap.size w w4) := (HB.out.alloc HB.out.size _).grown r2 (by have := HB.out.size; simp; omega) (fun q hq => HN.out q hq)
        have HN4 : Hid (∀ q, v4.ownBlock = some q → w.heap.size ≤ q) := fun q hq => by
          rcases r3 q hq with h' | h'
          · exact HN.out q h'
          · have h1 := h'.1
            have h2 := HB.out.size
            try simp at h1
            omega
        clear r1 r2 r3
        go_wp2_with fail
        go_roundw
        case rel => exact ⟨y, t + 1, n + 1, by go_num, by omega, by omega, by omega, HY, HV4, HN4, HB4⟩
        case measure => simp [intOf]; omega
end Go.Proofs.YtcdpnfchmpncjaaGreatDoor

namespace Go.Tr
open Go.RowKit
def sfs : List (Nat × Nat) := [(0, 8), (8, 8), (16, 48)]
theorem size_unpack {f r : Nat} (h1 : f < 256) (h2 : r < 256) : unpackL (f + r * 256) sfs = [f, r, 0] := by
  simp only [unpackL, sfs, List.map_cons, List.map_nil]
  congr 1
  · omega
  congr 1
  · omega
  congr 1
  omega
end Go.Tr
namespace Go.Proofs.YtcdpnfchmpncjaaGreatDoor
open Go.RowKit Go.Tr Go.Shelf
variable {w w' : World} {F G : Nat → Prop}
theorem sfs_ok : okL 0 sfs := ⟨⟨by decide, by decide, by decide⟩, by decide, ⟨by decide, by decide, by decide⟩, by decide, ⟨by decide, by decide, by decide⟩, by decide, trivial⟩
set_option maxRecDepth 100000 in
theorem ldecode_any (L : Lay) (w1 w2 : Nat) (wa : Option Addr) (wc : Nat) (w : World) (h : SeqAt w wa (us [L.fixed + L.record * 256, w1, w2])) (hT : Tz w) (hr : RightLay L) (h1 : w1 < 18446744073709551616) (h2 : w2 < 18446744073709551616) (he1 : spreadL w1 = L.refs) (he2 : spreadL w2 = L.recs) :
    Calls Tryz.prog 32 #[.slice wa 3 wc] w fun e w' => ∃ v, e = .returned (.tuple #[v, .int .i64 0]) ∧ LayAt w' v L ∧ Below w.heap.size w w' := by
  obtain ⟨fx, hfx⟩ : ∃ fx, fx = L.fixed := ⟨_, rfl⟩
  obtain ⟨rx, hrx⟩ : ∃ rx, rx = L.record := ⟨_, rfl⟩
  have hf := hr.f
  have hrr := hr.r
  rw [← hfx] at hf h
  rw [← hrx] at hrr h
  have HUN : Hid (∀ (fb : Nat) (W : World), W.heap[fb]? = some (.cells (pcells sfs).toArray 212 (0, 0)) → Calls Tryz.prog 79 #[.int .u64 (fx + rx * 256 : Nat), .slice (some ⟨fb, 0, none⟩) 3 3] W fun e w' => ∃ v, e = .returned (.tuple #[v, .int .i64 0]) ∧ OwnO w' 1 v 3 (us [fx, rx, 0]) ∧ Below W.heap.size W w') := fun fb W hf' => by
    have := funpack_any (fx + rx * 256) sfs (some ⟨fb, 0, none⟩) 3 3 W (by omega) (SeqAt.of_block hf') rfl (by decide) sfs_ok
    rw [size_unpack (by omega) (by omega)] at this
    exact this
  have HS1 : Hid (∀ W : World, Tz W → Calls Tryz.prog 81 #[.int .u64 w1] W fun e w' => ∃ a c, e = .returned (.slice a L.refs.length c) ∧ SeqAt w' a (ns L.refs) ∧ (∀ b o, a = some ⟨b, o, none⟩ → W.heap.size ≤ b ∧ b < w'.heap.size) ∧ Below W.heap.size W w') := fun W hW => by rw [← he1]; exact lspread_any w1 h1 W hW
  have HS2 : Hid (∀ W : World, Tz W → Calls Tryz.prog 81 #[.int .u64 w2] W fun e w' => ∃ a c, e = .returned (.slice a L.recs.length c) ∧ SeqAt w' a (ns L.recs) ∧ (∀ b o, a = some ⟨b, o, none⟩ → W.heap.size ≤ b ∧ b < w'.heap.size) ∧ Below W.heap.size W w') := fun W hW => by rw [← he2]; exact lspread_any w2 h2 W hW
  have HRT : Hid (∀ (v : Value) (W : World), LayAt W v L → Calls Tryz.prog 82 #[v] W fun e w' => e = .returned (.bool true) ∧ Below W.heap.size W w') := fun v W hv => lright_any W hv hr
  obtain ⟨b, off, rfl, hc⟩ := h (by simp [us])
  have c0 := hc 0 (by simp [us])
  have c1 := hc 1 (by simp [us])
  have c2 := hc 2 (by simp [us])
  simp [us, uv] at c0 c1 c2
  obtain ⟨n1, hn1⟩ : ∃ n1, n1 = L.refs.length := ⟨_, rfl⟩
  obtain ⟨n2, hn2⟩ : ∃ n2, n2 = L.recs.length := ⟨_, rfl⟩
  rw [← hn1] at HS1
  rw [← hn2] at HS2
  have HFX : Hid (fx = L.fixed ∧ rx = L.record ∧ n1 = L.refs.length ∧ n2 = L.recs.length) := ⟨hfx, hrx, hn1, hn2⟩
  obtain ⟨z, hz⟩ : ∃ z, z = fx + rx * 256 := ⟨_, rfl⟩
  have hz2 : (fx : Int) + (rx : Int) * 256 = (z : Int) := by rw [hz]; push_cast; rfl
  rw [← hz] at HUN
  rw [hz2] at c0
  have HTZ := Lib.hid hT
  have hw1 : IntKind.i64.wrap (fx : Int) = (fx : Int) := by rw [IntWalk.i64_in _ (by omega)]
  have hw2 : IntKind.i64.wrap (rx : Int) = (rx : Int) := by rw [IntWalk.i64_in _ (by omega)]
  have HBA : Hid (Below w.heap.size w (w.alloc (.cells #[.int .i64 0, .slice none 0 0, .int .i64 0, .slice none 0 0] 60))) := (Below.refl _ w).alloc (Nat.le_refl _) _
  obtain ⟨rb, hrb⟩ : ∃ rb, rb = w.heap.size := ⟨_, rfl⟩
  have HRB : Hid ((w.alloc (.cells #[.int .i64 0, .slice none 0 0, .int .i64 0, .slice none 0 0] 60)).heap[rb]? = some (.cells #[.int .i64 0, .slice none 0 0, .int .i64 0, .slice none 0 0] 60 (0, 0))) := by rw [hrb]; exact heap_alloc_new w _
  have hbl := World.block_lt_of_cell? w _ c0
  have d0 := (World.cell?_of_block (a := ⟨b, off, none⟩) (Below.heap_alloc w (.cells #[.int .i64 0, .slice none 0 0, .int .i64 0, .slice none 0 0] 60) b hbl)).trans c0
  have d1 := (World.cell?_of_block (a := ⟨b, off + 1, none⟩) (Below.heap_alloc w (.cells #[.int .i64 0, .slice none 0 0, .int .i64 0, .slice none 0 0] 60) b hbl)).trans c1
  have d2 := (World.cell?_of_block (a := ⟨b, off + 2, none⟩) (Below.heap_alloc w (.cells #[.int .i64 0, .slice none 0 0, .int .i64 0, .slice none 0 0] 60) b hbl)).trans c2
  clear hfx hrx hn1 hn2 hz hz2 hc h hT hr h1 h2 he1 he2 c0 c1 c2
  go_enter Tryz.func32, Tryz.ntmps32
  go_wp2_with fail
  have HRE : Hid (rb = w.heap.size) := hrb
  rw [← hrb]
  clear hrb
  generalize w.alloc (.cells #[.int .i64 0, .slice none 0 0, .int .i64 0, .slice none 0 0] 60) = wa at *
  refine wp_region_held_drew (S := fun W => W.cell? ⟨b, off, none⟩ = some (.int .u64 z)) (by kernel_rfl) d0 (fun hH => ?_)
  refine Go.Tr.tz 0 (v := ?_) rfl ?_ ?_
  rotate_left
  · intro W hW
    go_simp
    try with_reducible rfl
  try simp only [Go.Tr.nz]
  refine Go.Tr.tz 1 (v := ?_) rfl ?_ ?_
  rotate_left
  · intro W hW
    go_simp
    try with_reducible rfl
  try simp only [Go.Tr.nz]
  refine Go.Tr.tz 2 (v := ?_) rfl ?_ ?_
  rotate_left
  · intro W hW
    go_simp
    try with_reducible rfl
  try simp only [Go.Tr.nz]
  refine wpAnyH_ready (rs := [3]) (by kernel_rfl) (by simp) (readyH rfl (fun K hK => ?_) AllReadyH.nil)
  rw [if_pos (by rfl)]
  go_simp
  refine (lsizes_any _).mono ?_
  rintro e w3 ⟨rfl, rfl⟩
  have hbl2 : b < wa.heap.size := World.block_lt_of_cell? wa _ d0
  refine hK.out _ _ ((World.cell?_alloc_lt _ _ _ hbl2).trans d0) (fun hH => ?_)
  clear hK K
  try simp only [Go.Tr.nz]
  refine wpAnyH_ready (rs := [4]) (by kernel_rfl) (by simp) (readyH rfl (fun K hK => ?_) AllReadyH.nil)
  rw [if_pos (by rfl)]
  go_simp
  refine (HUN.out _ (wa.alloc (.cells (pcells sfs).toArray 212)).drew (heap_alloc_new wa _)).mono ?_
  rintro e w4 ⟨v, rfl, hown, hb4⟩
  have HB4 : Hid (Below w.heap.size w w4) := (HBA.out.alloc HBA.out.size _).drew.trans (hb4.mono (by have := HBA.out.size; simp; omega))
  have hkb : w4.heap[b]? = wa.heap[b]? := (hb4.block b (by simp; omega)).trans (Below.heap_alloc wa _ b hbl2)
  have hrl : rb < wa.heap.size := (Array.getElem?_eq_some_iff.1 HRB.out).1
  have HR4 := Lib.hid ((hb4.block rb (by simp; omega)).trans ((Below.heap_alloc wa _ rb hrl).trans HRB.out))
  have f0 := (World.cell?_of_block (a := ⟨b, off, none⟩) hkb).trans d0
  have f1 := (World.cell?_of_block (a := ⟨b, off + 1, none⟩) hkb).trans d1
  have f2 := (World.cell?_of_block (a := ⟨b, off + 2, none⟩) hkb).trans d2
  obtain ⟨va, vc, rfl, hsq, -, -⟩ := hown.seq
  obtain ⟨xb, xo, rfl, hc⟩ := hsq (by simp [us])
  have g0 := hc 0 (by simp [us])
  have g1 := hc 1 (by simp [us])
  have g2 := hc 2 (by simp [us])
  simp [us, uv] at g0 g1 g2
  have HTZ4 : Hid (Tz w4) := tz_kept HTZ.out HB4.out.block
  clear hown hb4 hsq hc hkb hrl
  refine hK.out _ _ f0 (fun hH => ?_)
  clear hK K
  try simp only [Go.Tr.nz]
  refine Go.Tr.tz 5 (v := ?_) rfl ?_ ?_
  rotate_left
  · intro W hW
    go_simp
    try with_reducible rfl
  try simp only [Go.Tr.nz]
  refine Go.Tr.tz 6 (v := ?_) rfl ?_ ?_
  rotate_left
  · intro W hW
    go_simp
    try with_reducible rfl
  try simp only [Go.Tr.nz]
  refine Go.Tr.tz 7 (v := ?_) rfl ?_ ?_
  rotate_left
  · intro W hW
    go_simp
    try with_reducible rfl
  try simp only [Go.Tr.nz]
  refine Go.Tr.tz 8 (v := ?_) rfl ?_ ?_
  rotate_left
  · intro W hW
    go_simp
    try with_reducible rfl
  try simp only [Go.Tr.nz]
  refine Go.Tr.tz 9 (v := ?_) rfl ?_ ?_
  rotate_left
  · intro W hW
    go_simp
    try with_reducible rfl
  try simp only [Go.Tr.nz]
  refine wpAnyH_done (by kernel_rfl) ?_ _
  go_wp2_with fail
  have g0_4 := g0
  have g1_4 := g1
  have g2_4 := g2
  have f1_4 := f1
  have f2_4 := f2
  have HT4 := HTZ4
  clear f0 g0 g1 g2 f1 f2
  refine wp_region_lastH (S := fun W => W.cell? ⟨xb, xo, none⟩ = some (.int .u64 fx) ∧ W.cell? ⟨xb, xo + 1, none⟩ = some (.int .u64 rx) ∧ W.cell? ⟨b, off + 1, none⟩ = some (.int .u64 w1) ∧ W.cell? ⟨b, off + 2, none⟩ = some (.int .u64 w2)) 18 (by kernel_rfl) (by kernel_rfl) ⟨g0_4, g1_4, f1_4, f2_4⟩ (fun hH => ?_)
  simp only [lastOps, nop, List.modify_toArray, List.modify_succ_cons, List.modify_zero_cons]
  refine Go.Tr.tz 0 (v := ?_) rfl ?_ ?_
  rotate_left
  · intro W hW
    go_simp
    try with_reducible rfl
  try simp only [Go.Tr.nz]
  refine Go.Tr.tz 1 (v := ?_) rfl ?_ ?_
  rotate_left
  · intro W hW
    go_simp
    try with_reducible rfl
  try simp only [Go.Tr.nz]
  refine Go.Tr.tz 2 (v := ?_) rfl ?_ ?_
  rotate_left
  · intro W hW
    go_simp
    try with_reducible rfl
  try simp only [Go.Tr.nz]
  refine Go.Tr.tz 3 (v := ?_) rfl ?_ ?_
  rotate_left
  · intro W hW
    go_simp
    try with_reducible rfl
  try simp only [Go.Tr.nz]
  refine Go.Tr.tz 4 (v := ?_) rfl ?_ ?_
  rotate_left
  · intro W hW
    go_simp
    try with_reducible rfl
  try simp only [Go.Tr.nz]
  refine Go.Tr.tz 5 (v := ?_) rfl ?_ ?_
  rotate_left
  · intro W hW
    go_simp
    try with_reducible rfl
  try simp only [Go.Tr.nz]
  refine Go.Tr.tz 6 (v := ?_) rfl ?_ ?_
  rotate_left
  · intro W hW
    go_simp
    try with_reducible rfl
  try simp only [Go.Tr.nz]
  refine Go.Tr.tz 8 (v := ?_) rfl ?_ ?_
  rotate_left
  · intro W hW
    go_simp
    try with_reducible rfl
  try simp only [Go.Tr.nz]
  refine Go.Tr.tz 9 (v := ?_) rfl ?_ ?_
  rotate_left
  · intro W hW
    go_simp
    try with_reducible rfl
  try simp only [Go.Tr.nz]
  refine Go.Tr.tz 10 (v := ?_) rfl ?_ ?_
  rotate_left
  · intro W hW
    go_simp
    try with_reducible rfl
  try simp only [Go.Tr.nz]
  refine Go.Tr.tz 11 (v := ?_) rfl ?_ ?_
  rotate_left
  · intro W hW
    go_simp
    try with_reducible rfl
  try simp only [Go.Tr.nz]
  refine Go.Tr.tz 12 (v := ?_) rfl ?_ ?_
  rotate_left
  · intro W hW
    go_simp
    try with_reducible rfl
  try simp only [Go.Tr.nz]
  refine Go.Tr.tz 13 (v := ?_) rfl ?_ ?_
  rotate_left
  · intro W hW
    go_simp
    try with_reducible rfl
  try simp only [Go.Tr.nz]
  refine Go.Tr.tz 14 (v := ?_) rfl ?_ ?_
  rotate_left
  · intro W hW
    go_simp
    try with_reducible rfl
  try simp only [Go.Tr.nz]
  refine wpAnyH_ready (rs := [7, 17]) (by kernel_rfl) (by simp) (readyH rfl (fun K hK => ?_) (readyH rfl (fun K hK => ?_) AllReadyH.nil))
  · rw [if_pos (by rfl)]
    go_simp
    refine (HS1.out w4.drew HT4.out).mono ?_
    rintro e w5 ⟨a1, c1, rfl, hs, hf, hb'⟩
    have hb : Below w4.heap.size w4 w5 := ⟨hb'.os, hb'.tape, hb'.output, hb'.size, hb'.block⟩
    have HFA : Hid (∀ q o, a1 = some ⟨q, o, none⟩ → w4.heap.size ≤ q ∧ q < w5.heap.size) := hf
    have HA5 := Lib.hid hs
    have HB5 : Hid (Below w.heap.size w w5) := HB4.out.trans (hb.mono HB4.out.size)
    have HR5 := Lib.hid ((hb.block rb (Array.getElem?_eq_some_iff.1 HR4.out).1).trans HR4.out)
    have HT5 : Hid (Tz w5) := tz_kept HTZ.out HB5.out.block
    have HZ5 : Hid (w4.heap.size ≤ w5.heap.size) := hb.size
    have g0_5 := (World.cell?_of_block (a := ⟨xb, xo, none⟩) (hb.block xb (World.block_lt_of_cell? w4 _ g0_4))).trans g0_4
    have g1_5 := (World.cell?_of_block (a := ⟨xb, xo + 1, none⟩) (hb.block xb (World.block_lt_of_cell? w4 _ g1_4))).trans g1_4
    have g2_5 := (World.cell?_of_block (a := ⟨xb, xo + 2, none⟩) (hb.block xb (World.block_lt_of_cell? w4 _ g2_4))).trans g2_4
    have f1_5 := (World.cell?_of_block (a := ⟨b, off + 1, none⟩) (hb.block b (World.block_lt_of_cell? w4 _ f1_4))).trans f1_4
    have f2_5 := (World.cell?_of_block (a := ⟨b, off + 2, none⟩) (hb.block b (World.block_lt_of_cell? w4 _ f2_4))).trans f2_4
    clear hs hf hb hb'
    refine hK.out _ _ ⟨g0_5, g1_5, f1_5, f2_5⟩ (fun hH => ?_)
    clear hK K
    try simp only [Go.Tr.nz]
    refine wpAnyH_ready (rs := [15, 17]) (by kernel_rfl) (by simp) (readyH rfl (fun K hK => ?_) (readyH rfl (fun K hK => ?_) AllReadyH.nil))
    · rw [if_pos (by rfl)]
      go_simp
      refine (HS2.out w5 HT5.out).mono ?_
      rintro e w6 ⟨a2, c2, rfl, hs, hf, hb'⟩
      have hb : Below w5.heap.size w5 w6 := ⟨hb'.os, hb'.tape, hb'.output, hb'.size, hb'.block⟩
      have HFC : Hid (∀ q o, a2 = some ⟨q, o, none⟩ → w5.heap.size ≤ q ∧ q < w6.heap.size) := hf
      have HC6 := Lib.hid hs
      have HB6 : Hid (Below w.heap.size w w6) := HB5.out.trans (hb.mono HB5.out.size)
      have HR6 := Lib.hid ((hb.block rb (Array.getElem?_eq_some_iff.1 HR5.out).1).trans HR5.out)
      have HT6 : Hid (Tz w6) := tz_kept HTZ.out HB6.out.block
      have HZ6 : Hid (w5.heap.size ≤ w6.heap.size) := hb.size
      have g0_6 := (World.cell?_of_block (a := ⟨xb, xo, none⟩) (hb.block xb (World.block_lt_of_cell? w5 _ g0_5))).trans g0_5
      have g1_6 := (World.cell?_of_block (a := ⟨xb, xo + 1, none⟩) (hb.block xb (World.block_lt_of_cell? w5 _ g1_5))).trans g1_5
      have g2_6 := (World.cell?_of_block (a := ⟨xb, xo + 2, none⟩) (hb.block xb (World.block_lt_of_cell? w5 _ g2_5))).trans g2_5
      have f1_6 := (World.cell?_of_block (a := ⟨b, off + 1, none⟩) (hb.block b (World.block_lt_of_cell? w5 _ f1_5))).trans f1_5
      have f2_6 := (World.cell?_of_block (a := ⟨b, off + 2, none⟩) (hb.block b (World.block_lt_of_cell? w5 _ f2_5))).trans f2_5
      have HA6 : Hid (SeqAt w6 a1 (ns L.refs)) := HA5.out.below hb (Nat.le_refl _)
      clear hs hf hb hb'
      refine hK.out _ _ ⟨g0_6, g1_6, f1_6, f2_6⟩ (fun hH => ?_)
      clear hK K
      try simp only [Go.Tr.nz]
      refine Go.Tr.tz 16 (v := ?_) rfl ?_ ?_
      rotate_left
      · intro W hW
        go_simp
        try with_reducible rfl
      try simp only [Go.Tr.nz]
      refine wpAnyH_ready (rs := [17]) (by kernel_rfl) (by simp) (readyH rfl (fun K hK => ?_) AllReadyH.nil)
      rw [if_pos (by rfl)]
      go_simp
      have hb : Below w6.heap.size w6 (w6.alloc (.cells #[.int .i64 0, .slice none 0 0, .int .i64 0, .slice none 0 0] 60)) := ((Below.refl _ w6).alloc (Nat.le_refl _) _)
      obtain ⟨lb, hlb⟩ : ∃ lb, lb = w6.heap.size := ⟨_, rfl⟩
      have HLE : Hid (lb = w6.heap.size) := hlb
      have HL7 : Hid ((w6.alloc (.cells #[.int .i64 0, .slice none 0 0, .int .i64 0, .slice none 0 0] 60)).heap[lb]? = some (.cells #[.int .i64 0, .slice none 0 0, .int .i64 0, .slice none 0 0] 60 (0, 0))) := by rw [hlb]; exact heap_alloc_new w6 _
      rw [← hlb]
      generalize (w6.alloc (.cells #[.int .i64 0, .slice none 0 0, .int .i64 0, .slice none 0 0] 60)) = w7 at *
      clear hlb
      have HLT : Hid (lb < w7.heap.size) := (Array.getElem?_eq_some_iff.1 HL7.out).1
      have HB7 : Hid (Below w.heap.size w w7) := HB6.out.trans (hb.mono HB6.out.size)
      have HR7 := Lib.hid ((hb.block rb (Array.getElem?_eq_some_iff.1 HR6.out).1).trans HR6.out)
      have HT7 : Hid (Tz w7) := tz_kept HTZ.out HB7.out.block
      have HZ7 : Hid (w6.heap.size ≤ w7.heap.size) := hb.size
      have g0_7 := (World.cell?_of_block (a := ⟨xb, xo, none⟩) (hb.block xb (World.block_lt_of_cell? w6 _ g0_6))).trans g0_6
      have g1_7 := (World.cell?_of_block (a := ⟨xb, xo + 1, none⟩) (hb.block xb (World.block_lt_of_cell? w6 _ g1_6))).trans g1_6
      have g2_7 := (World.cell?_of_block (a := ⟨xb, xo + 2, none⟩) (hb.block xb (World.block_lt_of_cell? w6 _ g2_6))).trans g2_6
      have f1_7 := (World.cell?_of_block (a := ⟨b, off + 1, none⟩) (hb.block b (World.block_lt_of_cell? w6 _ f1_6))).trans f1_6
      have f2_7 := (World.cell?_of_block (a := ⟨b, off + 2, none⟩) (hb.block b (World.block_lt_of_cell? w6 _ f2_6))).trans f2_6
      have HA7 : Hid (SeqAt w7 a1 (ns L.refs)) := HA6.out.below hb (Nat.le_refl _)
      have HC7 : Hid (SeqAt w7 a2 (ns L.recs)) := HC6.out.below hb (Nat.le_refl _)
      clear hb
      refine hK.out _ _ ⟨g0_7, g1_7, f1_7, f2_7⟩ (fun hH => ?_)
      clear hK K
      try simp only [Go.Tr.nz]
      have l0 := cells_of_block HL7.out 0
      have l1 := cells_of_block HL7.out 1
      have l2 := cells_of_block HL7.out 2
      have l3 := cells_of_block HL7.out 3
      simp at l0 l1 l2 l3
      obtain ⟨l0, m0⟩ := l0
      obtain ⟨l1, m1⟩ := l1
      obtain ⟨l2, m2⟩ := l2
      obtain ⟨l3, m3⟩ := l3
      refine Go.Tr.tz 18 (v := ?_) rfl ?_ ?_
      rotate_left
      · intro W hW
        go_simp
        try with_reducible rfl
      try simp only [Go.Tr.nz]
      refine lastH_done (by kernel_rfl) rfl (by rfl) ?_
      go_simp
      have hq : rb < w4.heap.size ∧ xb < w4.heap.size ∧ w4.heap.size ≤ lb ∧ (∀ q o, a1 = some ⟨q, o, none⟩ → w4.heap.size ≤ q ∧ q ≠ lb) ∧ (∀ q o, a2 = some ⟨q, o, none⟩ → w4.heap.size ≤ q ∧ q ≠ lb) := by
        have e1 := HLE.out
        have e2 := HLT.out
        have e5 := HZ5.out
        have e6 := HZ6.out
        have e7 := HZ7.out
        refine ⟨(Array.getElem?_eq_some_iff.1 HR4.out).1, World.block_lt_of_cell? w4 _ g0_4, by omega, fun q o e => ?_, fun q o e => ?_⟩
        · have := HFA.out q o e; omega
        · have := HFC.out q o e; omega
      have HQ := Lib.hid hq
      have HLB : Hid (((((w7.setCell ⟨lb, 0, none⟩ (.int .i64 fx)).setCell ⟨lb, 1, none⟩ (.slice a1 n1 c1)).setCell ⟨lb, 2, none⟩ (.int .i64 rx)).setCell ⟨lb, 3, none⟩ (.slice a2 n2 c2)).heap[lb]? = some (.cells #[.int .i64 fx, .slice a1 n1 c1, .int .i64 rx, .slice a2 n2 c2] 60 (0, 0))) := by
        show _ = _
        simpa using block_setCell (block_setCell (block_setCell (block_setCell HL7.out 0 (.int .i64 fx)) 1 (.slice a1 n1 c1)) 2 (.int .i64 rx)) 3 (.slice a2 n2 c2)
      have hkc : ∀ k, k ≠ lb → ((((w7.setCell ⟨lb, 0, none⟩ (.int .i64 fx)).setCell ⟨lb, 1, none⟩ (.slice a1 n1 c1)).setCell ⟨lb, 2, none⟩ (.int .i64 rx)).setCell ⟨lb, 3, none⟩ (.slice a2 n2 c2)).heap[k]? = w7.heap[k]? := fun k hk => by rw [Below.heap_setCell _ _ _ _ hk, Below.heap_setCell _ _ _ _ hk, Below.heap_setCell _ _ _ _ hk, Below.heap_setCell _ _ _ _ hk]
      have HB8 : Hid (Below w.heap.size w ((((w7.setCell ⟨lb, 0, none⟩ (.int .i64 fx)).setCell ⟨lb, 1, none⟩ (.slice a1 n1 c1)).setCell ⟨lb, 2, none⟩ (.int .i64 rx)).setCell ⟨lb, 3, none⟩ (.slice a2 n2 c2))) := by
        have e : w.heap.size ≤ lb := by have := HB4.out.size; have := hq.2.2.1; omega
        exact (((HB7.out.setCell e _).setCell e _).setCell e _).setCell e _
      clear l0 l1 l2 l3 m0 m1 m2 m3 hH
      generalize (((w7.setCell ⟨lb, 0, none⟩ (.int .i64 fx)).setCell ⟨lb, 1, none⟩ (.slice a1 n1 c1)).setCell ⟨lb, 2, none⟩ (.int .i64 rx)).setCell ⟨lb, 3, none⟩ (.slice a2 n2 c2) = w8 at *
      have HR8 := Lib.hid ((hkc rb (by omega)).trans HR7.out)
      have HA8 : Hid (SeqAt w8 a1 (ns L.refs)) := HA7.out.off lb (fun q o e => (hq.2.2.2.1 q o e).2) _ hkc
      have HC8 : Hid (SeqAt w8 a2 (ns L.recs)) := HC7.out.off lb (fun q o e => (hq.2.2.2.2 q o e).2) _ hkc
      have HLA : Hid (LayAt w8 (.agg #[.int .i64 fx, .slice a1 n1 c1, .int .i64 rx, .slice a2 n2 c2]) L) := by
        have e := HFX.out
        refine ⟨a1, c1, a2, c2, by rw [← e.1, ← e.2.1, ← e.2.2.1, ← e.2.2.2], HA8.out, HC8.out⟩
      have y2 := (World.cell?_of_block (a := ⟨xb, xo + 2, none⟩) (hkc xb (by omega))).trans g2_7
      have y3 := (cells_of_block HLB.out 0).1
      have y4 := (cells_of_block HLB.out 1).1
      have y5 := (cells_of_block HLB.out 2).1
      have y6 := (cells_of_block HLB.out 3).1
      simp at y3 y4 y5 y6
      clear hkc hq
      go_wp2_with fail
      refine (HRT.out _ w8 HLA.out).mono ?_
      rintro e w9 ⟨rfl, hb9⟩
      have HB9 : Hid (Below w.heap.size w w9) := HB8.out.trans (hb9.mono HB8.out.size)
      have HL9 := Lib.hid ((hb9.block lb (Array.getElem?_eq_some_iff.1 HLB.out).1).trans HLB.out)
      have HR9 := Lib.hid ((hb9.block rb (Array.getElem?_eq_some_iff.1 HR8.out).1).trans HR8.out)
      have HA9 : Hid (SeqAt w9 a1 (ns L.refs)) := HA8.out.below hb9 (Nat.le_refl _)
      have HC9 : Hid (SeqAt w9 a2 (ns L.recs)) := HC8.out.below hb9 (Nat.le_refl _)
      have z3 := (cells_of_block HL9.out 0).1
      have z4 := (cells_of_block HL9.out 1).1
      have z5 := (cells_of_block HL9.out 2).1
      have z6 := (cells_of_block HL9.out 3).1
      simp at z3 z4 z5 z6
      have r0 := cells_of_block HR9.out 0
      have r1 := cells_of_block HR9.out 1
      have r2 := cells_of_block HR9.out 2
      have r3 := cells_of_block HR9.out 3
      simp at r0 r1 r2 r3
      obtain ⟨r0, q0⟩ := r0
      obtain ⟨r1, q1⟩ := r1
      obtain ⟨r2, q2⟩ := r2
      obtain ⟨r3, q3⟩ := r3
      clear hb9 y2 y3 y4 y5 y6
      go_wp2_with fail
      try simp only [Exit.inBlock, Exit.then]
      have hbk : ((((w9.setCell ⟨rb, 0, none⟩ (.int .i64 fx)).setCell ⟨rb, 1, none⟩ (.slice a1 n1 c1)).setCell ⟨rb, 2, none⟩ (.int .i64 rx)).setCell ⟨rb, 3, none⟩ (.slice a2 n2 c2)).heap[rb]? = some (.cells #[.int .i64 fx, .slice a1 n1 c1, .int .i64 rx, .slice a2 n2 c2] 60 (0, 0)) := by
        simpa using block_setCell (block_setCell (block_setCell (block_setCell HR9.out 0 (.int .i64 fx)) 1 (.slice a1 n1 c1)) 2 (.int .i64 rx)) 3 (.slice a2 n2 c2)
      have hkr : ∀ k, k ≠ rb → ((((w9.setCell ⟨rb, 0, none⟩ (.int .i64 fx)).setCell ⟨rb, 1, none⟩ (.slice a1 n1 c1)).setCell ⟨rb, 2, none⟩ (.int .i64 rx)).setCell ⟨rb, 3, none⟩ (.slice a2 n2 c2)).heap[k]? = w9.heap[k]? := fun k hk => by rw [Below.heap_setCell _ _ _ _ hk, Below.heap_setCell _ _ _ _ hk, Below.heap_setCell _ _ _ _ hk, Below.heap_setCell _ _ _ _ hk]
      have e : w.heap.size ≤ rb := Nat.le_of_eq HRE.out.symm
      have hlay : LayAt ((((w9.setCell ⟨rb, 0, none⟩ (.int .i64 fx)).setCell ⟨rb, 1, none⟩ (.slice a1 n1 c1)).setCell ⟨rb, 2, none⟩ (.int .i64 rx)).setCell ⟨rb, 3, none⟩ (.slice a2 n2 c2)) (.agg #[.int .i64 fx, .slice a1 n1 c1, .int .i64 rx, .slice a2 n2 c2]) L := by
        have e := HFX.out
        have h1 := HQ.out.1
        exact ⟨a1, c1, a2, c2, by rw [← e.1, ← e.2.1, ← e.2.2.1, ← e.2.2.2], HA9.out.off rb (fun q o e => by have := (HQ.out.2.2.2.1 q o e).1; omega) _ hkr, HC9.out.off rb (fun q o e => by have := (HQ.out.2.2.2.2 q o e).1; omega) _ hkr⟩
      exact bodyPost_ret (results_blk rfl _ _ rb _ _ _ _ rfl hbk Tryz.underlying60 rfl rfl) rfl ⟨_, rfl, hlay, (((HB9.out.setCell e _).setCell e _).setCell e _).setCell e _⟩
    · rw [if_pos (by rfl)]
      go_simp
      have hb : Below w5.heap.size w5 (w5.alloc (.cells #[.int .i64 0, .slice none 0 0, .int .i64 0, .slice none 0 0] 60)) := ((Below.refl _ w5).alloc (Nat.le_refl _) _)
      obtain ⟨lb, hlb⟩ : ∃ lb, lb = w5.heap.size := ⟨_, rfl⟩
      have HLE : Hid (lb = w5.heap.size) := hlb
      have HL6 : Hid ((w5.alloc (.cells #[.int .i64 0, .slice none 0 0, .int .i64 0, .slice none 0 0] 60)).heap[lb]? = some (.cells #[.int .i64 0, .slice none 0 0, .int .i64 0, .slice none 0 0] 60 (0, 0))) := by rw [hlb]; exact heap_alloc_new w5 _
      rw [← hlb]
      generalize (w5.alloc (.cells #[.int .i64 0, .slice none 0 0, .int .i64 0, .slice none 0 0] 60)) = w6 at *
      clear hlb
      have HLT : Hid (lb < w6.heap.size) := (Array.getElem?_eq_some_iff.1 HL6.out).1
      have HB6 : Hid (Below w.heap.size w w6) := HB5.out.trans (hb.mono HB5.out.size)
      have HR6 := Lib.hid ((hb.block rb (Array.getElem?_eq_some_iff.1 HR5.out).1).trans HR5.out)
      have HT6 : Hid (Tz w6) := tz_kept HTZ.out HB6.out.block
      have HZ6 : Hid (w5.heap.size ≤ w6.heap.size) := hb.size
      have g0_6 := (World.cell?_of_block (a := ⟨xb, xo, none⟩) (hb.block xb (World.block_lt_of_cell? w5 _ g0_5))).trans g0_5
      have g1_6 := (World.cell?_of_block (a := ⟨xb, xo + 1, none⟩) (hb.block xb (World.block_lt_of_cell? w5 _ g1_5))).trans g1_5
      have g2_6 := (World.cell?_of_block (a := ⟨xb, xo + 2, none⟩) (hb.block xb (World.block_lt_of_cell? w5 _ g2_5))).trans g2_5
      have f1_6 := (World.cell?_of_block (a := ⟨b, off + 1, none⟩) (hb.block b (World.block_lt_of_cell? w5 _ f1_5))).trans f1_5
      have f2_6 := (World.cell?_of_block (a := ⟨b, off + 2, none⟩) (hb.block b (World.block_lt_of_cell? w5 _ f2_5))).trans f2_5
      have HA6 : Hid (SeqAt w6 a1 (ns L.refs)) := HA5.out.below hb (Nat.le_refl _)
      clear hb
      refine hK.out _ _ ⟨g0_6, g1_6, f1_6, f2_6⟩ (fun hH => ?_)
      clear hK K
      try simp only [Go.Tr.nz]
      refine wpAnyH_ready (rs := [15]) (by kernel_rfl) (by simp) (readyH rfl (fun K hK => ?_) AllReadyH.nil)
      rw [if_pos (by rfl)]
      go_simp
      refine (HS2.out w6 HT6.out).mono ?_
      rintro e w7 ⟨a2, c2, rfl, hs, hf, hb'⟩
      have hb : Below w6.heap.size w6 w7 := ⟨hb'.os, hb'.tape, hb'.output, hb'.size, hb'.block⟩
      have HFC : Hid (∀ q o, a2 = some ⟨q, o, none⟩ → w6.heap.size ≤ q ∧ q < w7.heap.size) := hf
      have HC7 := Lib.hid hs
      have HB7 : Hid (Below w.heap.size w w7) := HB6.out.trans (hb.mono HB6.out.size)
      have HR7 := Lib.hid ((hb.block rb (Array.getElem?_eq_some_iff.1 HR6.out).1).trans HR6.out)
      have HT7 : Hid (Tz w7) := tz_kept HTZ.out HB7.out.block
      have HZ7 : Hid (w6.heap.size ≤ w7.heap.size) := hb.size
      have g0_7 := (World.cell?_of_block (a := ⟨xb, xo, none⟩) (hb.block xb (World.block_lt_of_cell? w6 _ g0_6))).trans g0_6
      have g1_7 := (World.cell?_of_block (a := ⟨xb, xo + 1, none⟩) (hb.block xb (World.block_lt_of_cell? w6 _ g1_6))).trans g1_6
      have g2_7 := (World.cell?_of_block (a := ⟨xb, xo + 2, none⟩) (hb.block xb (World.block_lt_of_cell? w6 _ g2_6))).trans g2_6
      have f1_7 := (World.cell?_of_block (a := ⟨b, off + 1, none⟩) (hb.block b (World.block_lt_of_cell? w6 _ f1_6))).trans f1_6
      have f2_7 := (World.cell?_of_block (a := ⟨b, off + 2, none⟩) (hb.block b (World.block_lt_of_cell? w6 _ f2_6))).trans f2_6
      have HL7 := Lib.hid ((hb.block lb (Array.getElem?_eq_some_iff.1 HL6.out).1).trans HL6.out)
      have HA7 : Hid (SeqAt w7 a1 (ns L.refs)) := HA6.out.below hb (Nat.le_refl _)
      clear hs hf hb hb'
      refine hK.out _ _ ⟨g0_7, g1_7, f1_7, f2_7⟩ (fun hH => ?_)
      clear hK K
      try simp only [Go.Tr.nz]
      have l0 := cells_of_block HL7.out 0
      have l1 := cells_of_block HL7.out 1
      have l2 := cells_of_block HL7.out 2
      have l3 := cells_of_block HL7.out 3
      simp at l0 l1 l2 l3
      obtain ⟨l0, m0⟩ := l0
      obtain ⟨l1, m1⟩ := l1
      obtain ⟨l2, m2⟩ := l2
      obtain ⟨l3, m3⟩ := l3
      refine Go.Tr.tz 16 (v := ?_) rfl ?_ ?_
      rotate_left
      · intro W hW
        go_simp
        try with_reducible rfl
      try simp only [Go.Tr.nz]
      refine Go.Tr.tz 18 (v := ?_) rfl ?_ ?_
      rotate_left
      · intro W hW
        go_simp
        try with_reducible rfl
      try simp only [Go.Tr.nz]
      refine lastH_done (by kernel_rfl) rfl (by rfl) ?_
      go_simp
      have hq : rb < w4.heap.size ∧ xb < w4.heap.size ∧ w4.heap.size ≤ lb ∧ (∀ q o, a1 = some ⟨q, o, none⟩ → w4.heap.size ≤ q ∧ q ≠ lb) ∧ (∀ q o, a2 = some ⟨q, o, none⟩ → w4.heap.size ≤ q ∧ q ≠ lb) := by
        have e1 := HLE.out
        have e2 := HLT.out
        have e5 := HZ5.out
        have e6 := HZ6.out
        have e7 := HZ7.out
        refine ⟨(Array.getElem?_eq_some_iff.1 HR4.out).1, World.block_lt_of_cell? w4 _ g0_4, by omega, fun q o e => ?_, fun q o e => ?_⟩
        · have := HFA.out q o e; omega
        · have := HFC.out q o e; omega
      have HQ := Lib.hid hq
      have HLB : Hid (((((w7.setCell ⟨lb, 0, none⟩ (.int .i64 fx)).setCell ⟨lb, 1, none⟩ (.slice a1 n1 c1)).setCell ⟨lb, 2, none⟩ (.int .i64 rx)).setCell ⟨lb, 3, none⟩ (.slice a2 n2 c2)).heap[lb]? = some (.cells #[.int .i64 fx, .slice a1 n1 c1, .int .i64 rx, .slice a2 n2 c2] 60 (0, 0))) := by
        show _ = _
        simpa using block_setCell (block_setCell (block_setCell (block_setCell HL7.out 0 (.int .i64 fx)) 1 (.slice a1 n1 c1)) 2 (.int .i64 rx)) 3 (.slice a2 n2 c2)
      have hkc : ∀ k, k ≠ lb → ((((w7.setCell ⟨lb, 0, none⟩ (.int .i64 fx)).setCell ⟨lb, 1, none⟩ (.slice a1 n1 c1)).setCell ⟨lb, 2, none⟩ (.int .i64 rx)).setCell ⟨lb, 3, none⟩ (.slice a2 n2 c2)).heap[k]? = w7.heap[k]? := fun k hk => by rw [Below.heap_setCell _ _ _ _ hk, Below.heap_setCell _ _ _ _ hk, Below.heap_setCell _ _ _ _ hk, Below.heap_setCell _ _ _ _ hk]
      have HB8 : Hid (Below w.heap.size w ((((w7.setCell ⟨lb, 0, none⟩ (.int .i64 fx)).setCell ⟨lb, 1, none⟩ (.slice a1 n1 c1)).setCell ⟨lb, 2, none⟩ (.int .i64 rx)).setCell ⟨lb, 3, none⟩ (.slice a2 n2 c2))) := by
        have e : w.heap.size ≤ lb := by have := HB4.out.size; have := hq.2.2.1; omega
        exact (((HB7.out.setCell e _).setCell e _).setCell e _).setCell e _
      clear l0 l1 l2 l3 m0 m1 m2 m3 hH
      generalize (((w7.setCell ⟨lb, 0, none⟩ (.int .i64 fx)).setCell ⟨lb, 1, none⟩ (.slice a1 n1 c1)).setCell ⟨lb, 2, none⟩ (.int .i64 rx)).setCell ⟨lb, 3, none⟩ (.slice a2 n2 c2) = w8 at *
      have HR8 := Lib.hid ((hkc rb (by omega)).trans HR7.out)
      have HA8 : Hid (SeqAt w8 a1 (ns L.refs)) := HA7.out.off lb (fun q o e => (hq.2.2.2.1 q o e).2) _ hkc
      have HC8 : Hid (SeqAt w8 a2 (ns L.recs)) := HC7.out.off lb (fun q o e => (hq.2.2.2.2 q o e).2) _ hkc
      have HLA : Hid (LayAt w8 (.agg #[.int .i64 fx, .slice a1 n1 c1, .int .i64 rx, .slice a2 n2 c2]) L) := by
        have e := HFX.out
        refine ⟨a1, c1, a2, c2, by rw [← e.1, ← e.2.1, ← e.2.2.1, ← e.2.2.2], HA8.out, HC8.out⟩
      have y2 := (World.cell?_of_block (a := ⟨xb, xo + 2, none⟩) (hkc xb (by omega))).trans g2_7
      have y3 := (cells_of_block HLB.out 0).1
      have y4 := (cells_of_block HLB.out 1).1
      have y5 := (cells_of_block HLB.out 2).1
      have y6 := (cells_of_block HLB.out 3).1
      simp at y3 y4 y5 y6
      clear hkc hq
      go_wp2_with fail
      refine (HRT.out _ w8 HLA.out).mono ?_
      rintro e w9 ⟨rfl, hb9⟩
      have HB9 : Hid (Below w.heap.size w w9) := HB8.out.trans (hb9.mono HB8.out.size)
      have HL9 := Lib.hid ((hb9.block lb (Array.getElem?_eq_some_iff.1 HLB.out).1).trans HLB.out)
      have HR9 := Lib.hid ((hb9.block rb (Array.getElem?_eq_some_iff.1 HR8.out).1).trans HR8.out)
      have HA9 : Hid (SeqAt w9 a1 (ns L.refs)) := HA8.out.below hb9 (Nat.le_refl _)
      have HC9 : Hid (SeqAt w9 a2 (ns L.recs)) := HC8.out.below hb9 (Nat.le_refl _)
      have z3 := (cells_of_block HL9.out 0).1
      have z4 := (cells_of_block HL9.out 1).1
      have z5 := (cells_of_block HL9.out 2).1
      have z6 := (cells_of_block HL9.out 3).1
      simp at z3 z4 z5 z6
      have r0 := cells_of_block HR9.out 0
      have r1 := cells_of_block HR9.out 1
      have r2 := cells_of_block HR9.out 2
      have r3 := cells_of_block HR9.out 3
      simp at r0 r1 r2 r3
      obtain ⟨r0, q0⟩ := r0
      obtain ⟨r1, q1⟩ := r1
      obtain ⟨r2, q2⟩ := r2
      obtain ⟨r3, q3⟩ := r3
      clear hb9 y2 y3 y4 y5 y6
      go_wp2_with fail
      try simp only [Exit.inBlock, Exit.then]
      have hbk : ((((w9.setCell ⟨rb, 0, none⟩ (.int .i64 fx)).setCell ⟨rb, 1, none⟩ (.slice a1 n1 c1)).setCell ⟨rb, 2, none⟩ (.int .i64 rx)).setCell ⟨rb, 3, none⟩ (.slice a2 n2 c2)).heap[rb]? = some (.cells #[.int .i64 fx, .slice a1 n1 c1, .int .i64 rx, .slice a2 n2 c2] 60 (0, 0)) := by
        simpa using block_setCell (block_setCell (block_setCell (block_setCell HR9.out 0 (.int .i64 fx)) 1 (.slice a1 n1 c1)) 2 (.int .i64 rx)) 3 (.slice a2 n2 c2)
      have hkr : ∀ k, k ≠ rb → ((((w9.setCell ⟨rb, 0, none⟩ (.int .i64 fx)).setCell ⟨rb, 1, none⟩ (.slice a1 n1 c1)).setCell ⟨rb, 2, none⟩ (.int .i64 rx)).setCell ⟨rb, 3, none⟩ (.slice a2 n2 c2)).heap[k]? = w9.heap[k]? := fun k hk => by rw [Below.heap_setCell _ _ _ _ hk, Below.heap_setCell _ _ _ _ hk, Below.heap_setCell _ _ _ _ hk, Below.heap_setCell _ _ _ _ hk]
      have e : w.heap.size ≤ rb := Nat.le_of_eq HRE.out.symm
      have hlay : LayAt ((((w9.setCell ⟨rb, 0, none⟩ (.int .i64 fx)).setCell ⟨rb, 1, none⟩ (.slice a1 n1 c1)).setCell ⟨rb, 2, none⟩ (.int .i64 rx)).setCell ⟨rb, 3, none⟩ (.slice a2 n2 c2)) (.agg #[.int .i64 fx, .slice a1 n1 c1, .int .i64 rx, .slice a2 n2 c2]) L := by
        have e := HFX.out
        have h1 := HQ.out.1
        exact ⟨a1, c1, a2, c2, by rw [← e.1, ← e.2.1, ← e.2.2.1, ← e.2.2.2], HA9.out.off rb (fun q o e => by have := (HQ.out.2.2.2.1 q o e).1; omega) _ hkr, HC9.out.off rb (fun q o e => by have := (HQ.out.2.2.2.2 q o e).1; omega) _ hkr⟩
      exact bodyPost_ret (results_blk rfl _ _ rb _ _ _ _ rfl hbk Tryz.underlying60 rfl rfl) rfl ⟨_, rfl, hlay, (((HB9.out.setCell e _).setCell e _).setCell e _).setCell e _⟩
  · rw [if_pos (by rfl)]
    go_simp
    have hb : Below w4.heap.size w4 (w4.alloc (.cells #[.int .i64 0, .slice none 0 0, .int .i64 0, .slice none 0 0] 60)).drew := ((Below.refl _ w4).alloc (Nat.le_refl _) _).drew
    obtain ⟨lb, hlb⟩ : ∃ lb, lb = w4.heap.size := ⟨_, rfl⟩
    have HLE : Hid (lb = w4.heap.size) := hlb
    have HL5 : Hid ((w4.alloc (.cells #[.int .i64 0, .slice none 0 0, .int .i64 0, .slice none 0 0] 60)).drew.heap[lb]? = some (.cells #[.int .i64 0, .slice none 0 0, .int .i64 0, .slice none 0 0] 60 (0, 0))) := by rw [hlb]; exact heap_alloc_new w4 _
    rw [← hlb]
    generalize (w4.alloc (.cells #[.int .i64 0, .slice none 0 0, .int .i64 0, .slice none 0 0] 60)).drew = w5 at *
    clear hlb
    have HLT : Hid (lb < w5.heap.size) := (Array.getElem?_eq_some_iff.1 HL5.out).1
    have HB5 : Hid (Below w.heap.size w w5) := HB4.out.trans (hb.mono HB4.out.size)
    have HR5 := Lib.hid ((hb.block rb (Array.getElem?_eq_some_iff.1 HR4.out).1).trans HR4.out)
    have HT5 : Hid (Tz w5) := tz_kept HTZ.out HB5.out.block
    have HZ5 : Hid (w4.heap.size ≤ w5.heap.size) := hb.size
    have g0_5 := (World.cell?_of_block (a := ⟨xb, xo, none⟩) (hb.block xb (World.block_lt_of_cell? w4 _ g0_4))).trans g0_4
    have g1_5 := (World.cell?_of_block (a := ⟨xb, xo + 1, none⟩) (hb.block xb (World.block_lt_of_cell? w4 _ g1_4))).trans g1_4
    have g2_5 := (World.cell?_of_block (a := ⟨xb, xo + 2, none⟩) (hb.block xb (World.block_lt_of_cell? w4 _ g2_4))).trans g2_4
    have f1_5 := (World.cell?_of_block (a := ⟨b, off + 1, none⟩) (hb.block b (World.block_lt_of_cell? w4 _ f1_4))).trans f1_4
    have f2_5 := (World.cell?_of_block (a := ⟨b, off + 2, none⟩) (hb.block b (World.block_lt_of_cell? w4 _ f2_4))).trans f2_4
    clear hb
    refine hK.out _ _ ⟨g0_5, g1_5, f1_5, f2_5⟩ (fun hH => ?_)
    clear hK K
    try simp only [Go.Tr.nz]
    refine wpAnyH_ready (rs := [7]) (by kernel_rfl) (by simp) (readyH rfl (fun K hK => ?_) AllReadyH.nil)
    rw [if_pos (by rfl)]
    go_simp
    refine (HS1.out w5 HT5.out).mono ?_
    rintro e w6 ⟨a1, c1, rfl, hs, hf, hb'⟩
    have hb : Below w5.heap.size w5 w6 := ⟨hb'.os, hb'.tape, hb'.output, hb'.size, hb'.block⟩
    have HFA : Hid (∀ q o, a1 = some ⟨q, o, none⟩ → w5.heap.size ≤ q ∧ q < w6.heap.size) := hf
    have HA6 := Lib.hid hs
    have HB6 : Hid (Below w.heap.size w w6) := HB5.out.trans (hb.mono HB5.out.size)
    have HR6 := Lib.hid ((hb.block rb (Array.getElem?_eq_some_iff.1 HR5.out).1).trans HR5.out)
    have HT6 : Hid (Tz w6) := tz_kept HTZ.out HB6.out.block
    have HZ6 : Hid (w5.heap.size ≤ w6.heap.size) := hb.size
    have g0_6 := (World.cell?_of_block (a := ⟨xb, xo, none⟩) (hb.block xb (World.block_lt_of_cell? w5 _ g0_5))).trans g0_5
    have g1_6 := (World.cell?_of_block (a := ⟨xb, xo + 1, none⟩) (hb.block xb (World.block_lt_of_cell? w5 _ g1_5))).trans g1_5
    have g2_6 := (World.cell?_of_block (a := ⟨xb, xo + 2, none⟩) (hb.block xb (World.block_lt_of_cell? w5 _ g2_5))).trans g2_5
    have f1_6 := (World.cell?_of_block (a := ⟨b, off + 1, none⟩) (hb.block b (World.block_lt_of_cell? w5 _ f1_5))).trans f1_5
    have f2_6 := (World.cell?_of_block (a := ⟨b, off + 2, none⟩) (hb.block b (World.block_lt_of_cell? w5 _ f2_5))).trans f2_5
    have HL6 := Lib.hid ((hb.block lb (Array.getElem?_eq_some_iff.1 HL5.out).1).trans HL5.out)
    clear hs hf hb hb'
    refine hK.out _ _ ⟨g0_6, g1_6, f1_6, f2_6⟩ (fun hH => ?_)
    clear hK K
    try simp only [Go.Tr.nz]
    refine wpAnyH_ready (rs := [15]) (by kernel_rfl) (by simp) (readyH rfl (fun K hK => ?_) AllReadyH.nil)
    rw [if_pos (by rfl)]
    go_simp
    refine (HS2.out w6 HT6.out).mono ?_
    rintro e w7 ⟨a2, c2, rfl, hs, hf, hb'⟩
    have hb : Below w6.heap.size w6 w7 := ⟨hb'.os, hb'.tape, hb'.output, hb'.size, hb'.block⟩
    have HFC : Hid (∀ q o, a2 = some ⟨q, o, none⟩ → w6.heap.size ≤ q ∧ q < w7.heap.size) := hf
    have HC7 := Lib.hid hs
    have HB7 : Hid (Below w.heap.size w w7) := HB6.out.trans (hb.mono HB6.out.size)
    have HR7 := Lib.hid ((hb.block rb (Array.getElem?_eq_some_iff.1 HR6.out).1).trans HR6.out)
    have HT7 : Hid (Tz w7) := tz_kept HTZ.out HB7.out.block
    have HZ7 : Hid (w6.heap.size ≤ w7.heap.size) := hb.size
    have g0_7 := (World.cell?_of_block (a := ⟨xb, xo, none⟩) (hb.block xb (World.block_lt_of_cell? w6 _ g0_6))).trans g0_6
    have g1_7 := (World.cell?_of_block (a := ⟨xb, xo + 1, none⟩) (hb.block xb (World.block_lt_of_cell? w6 _ g1_6))).trans g1_6
    have g2_7 := (World.cell?_of_block (a := ⟨xb, xo + 2, none⟩) (hb.block xb (World.block_lt_of_cell? w6 _ g2_6))).trans g2_6
    have f1_7 := (World.cell?_of_block (a := ⟨b, off + 1, none⟩) (hb.block b (World.block_lt_of_cell? w6 _ f1_6))).trans f1_6
    have f2_7 := (World.cell?_of_block (a := ⟨b, off + 2, none⟩) (hb.block b (World.block_lt_of_cell? w6 _ f2_6))).trans f2_6
    have HL7 := Lib.hid ((hb.block lb (Array.getElem?_eq_some_iff.1 HL6.out).1).trans HL6.out)
    have HA7 : Hid (SeqAt w7 a1 (ns L.refs)) := HA6.out.below hb (Nat.le_refl _)
    clear hs hf hb hb'
    refine hK.out _ _ ⟨g0_7, g1_7, f1_7, f2_7⟩ (fun hH => ?_)
    clear hK K
    try simp only [Go.Tr.nz]
    have l0 := cells_of_block HL7.out 0
    have l1 := cells_of_block HL7.out 1
    have l2 := cells_of_block HL7.out 2
    have l3 := cells_of_block HL7.out 3
    simp at l0 l1 l2 l3
    obtain ⟨l0, m0⟩ := l0
    obtain ⟨l1, m1⟩ := l1
    obtain ⟨l2, m2⟩ := l2
    obtain ⟨l3, m3⟩ := l3
    refine Go.Tr.tz 16 (v := ?_) rfl ?_ ?_
    rotate_left
    · intro W hW
      go_simp
      try with_reducible rfl
    try simp only [Go.Tr.nz]
    refine Go.Tr.tz 18 (v := ?_) rfl ?_ ?_
    rotate_left
    · intro W hW
      go_simp
      try with_reducible rfl
    try simp only [Go.Tr.nz]
    refine lastH_done (by kernel_rfl) rfl (by rfl) ?_
    go_simp
    have hq : rb < w4.heap.size ∧ xb < w4.heap.size ∧ w4.heap.size ≤ lb ∧ (∀ q o, a1 = some ⟨q, o, none⟩ → w4.heap.size ≤ q ∧ q ≠ lb) ∧ (∀ q o, a2 = some ⟨q, o, none⟩ → w4.heap.size ≤ q ∧ q ≠ lb) := by
      have e1 := HLE.out
      have e2 := HLT.out
      have e5 := HZ5.out
      have e6 := HZ6.out
      have e7 := HZ7.out
      refine ⟨(Array.getElem?_eq_some_iff.1 HR4.out).1, World.block_lt_of_cell? w4 _ g0_4, by omega, fun q o e => ?_, fun q o e => ?_⟩
      · have := HFA.out q o e; omega
      · have := HFC.out q o e; omega
    have HQ := Lib.hid hq
    have HLB : Hid (((((w7.setCell ⟨lb, 0, none⟩ (.int .i64 fx)).setCell ⟨lb, 1, none⟩ (.slice a1 n1 c1)).setCell ⟨lb, 2, none⟩ (.int .i64 rx)).setCell ⟨lb, 3, none⟩ (.slice a2 n2 c2)).heap[lb]? = some (.cells #[.int .i64 fx, .slice a1 n1 c1, .int .i64 rx, .slice a2 n2 c2] 60 (0, 0))) := by
      show _ = _
      simpa using block_setCell (block_setCell (block_setCell (block_setCell HL7.out 0 (.int .i64 fx)) 1 (.slice a1 n1 c1)) 2 (.int .i64 rx)) 3 (.slice a2 n2 c2)
    have hkc : ∀ k, k ≠ lb → ((((w7.setCell ⟨lb, 0, none⟩ (.int .i64 fx)).setCell ⟨lb, 1, none⟩ (.slice a1 n1 c1)).setCell ⟨lb, 2, none⟩ (.int .i64 rx)).setCell ⟨lb, 3, none⟩ (.slice a2 n2 c2)).heap[k]? = w7.heap[k]? := fun k hk => by rw [Below.heap_setCell _ _ _ _ hk, Below.heap_setCell _ _ _ _ hk, Below.heap_setCell _ _ _ _ hk, Below.heap_setCell _ _ _ _ hk]
    have HB8 : Hid (Below w.heap.size w ((((w7.setCell ⟨lb, 0, none⟩ (.int .i64 fx)).setCell ⟨lb, 1, none⟩ (.slice a1 n1 c1)).setCell ⟨lb, 2, none⟩ (.int .i64 rx)).setCell ⟨lb, 3, none⟩ (.slice a2 n2 c2))) := by
      have e : w.heap.size ≤ lb := by have := HB4.out.size; have := hq.2.2.1; omega
      exact (((HB7.out.setCell e _).setCell e _).setCell e _).setCell e _
    clear l0 l1 l2 l3 m0 m1 m2 m3 hH
    generalize (((w7.setCell ⟨lb, 0, none⟩ (.int .i64 fx)).setCell ⟨lb, 1, none⟩ (.slice a1 n1 c1)).setCell ⟨lb, 2, none⟩ (.int .i64 rx)).setCell ⟨lb, 3, none⟩ (.slice a2 n2 c2) = w8 at *
    have HR8 := Lib.hid ((hkc rb (by omega)).trans HR7.out)
    have HA8 : Hid (SeqAt w8 a1 (ns L.refs)) := HA7.out.off lb (fun q o e => (hq.2.2.2.1 q o e).2) _ hkc
    have HC8 : Hid (SeqAt w8 a2 (ns L.recs)) := HC7.out.off lb (fun q o e => (hq.2.2.2.2 q o e).2) _ hkc
    have HLA : Hid (LayAt w8 (.agg #[.int .i64 fx, .slice a1 n1 c1, .int .i64 rx, .slice a2 n2 c2]) L) := by
      have e := HFX.out
      refine ⟨a1, c1, a2, c2, by rw [← e.1, ← e.2.1, ← e.2.2.1, ← e.2.2.2], HA8.out, HC8.out⟩
    have y2 := (World.cell?_of_block (a := ⟨xb, xo + 2, none⟩) (hkc xb (by omega))).trans g2_7
    have y3 := (cells_of_block HLB.out 0).1
    have y4 := (cells_of_block HLB.out 1).1
    have y5 := (cells_of_block HLB.out 2).1
    have y6 := (cells_of_block HLB.out 3).1
    simp at y3 y4 y5 y6
    clear hkc hq
    go_wp2_with fail
    refine (HRT.out _ w8 HLA.out).mono ?_
    rintro e w9 ⟨rfl, hb9⟩
    have HB9 : Hid (Below w.heap.size w w9) := HB8.out.trans (hb9.mono HB8.out.size)
    have HL9 := Lib.hid ((hb9.block lb (Array.getElem?_eq_some_iff.1 HLB.out).1).trans HLB.out)
    have HR9 := Lib.hid ((hb9.block rb (Array.getElem?_eq_some_iff.1 HR8.out).1).trans HR8.out)
    have HA9 : Hid (SeqAt w9 a1 (ns L.refs)) := HA8.out.below hb9 (Nat.le_refl _)
    have HC9 : Hid (SeqAt w9 a2 (ns L.recs)) := HC8.out.below hb9 (Nat.le_refl _)
    have z3 := (cells_of_block HL9.out 0).1
    have z4 := (cells_of_block HL9.out 1).1
    have z5 := (cells_of_block HL9.out 2).1
    have z6 := (cells_of_block HL9.out 3).1
    simp at z3 z4 z5 z6
    have r0 := cells_of_block HR9.out 0
    have r1 := cells_of_block HR9.out 1
    have r2 := cells_of_block HR9.out 2
    have r3 := cells_of_block HR9.out 3
    simp at r0 r1 r2 r3
    obtain ⟨r0, q0⟩ := r0
    obtain ⟨r1, q1⟩ := r1
    obtain ⟨r2, q2⟩ := r2
    obtain ⟨r3, q3⟩ := r3
    clear hb9 y2 y3 y4 y5 y6
    go_wp2_with fail
    try simp only [Exit.inBlock, Exit.then]
    have hbk : ((((w9.setCell ⟨rb, 0, none⟩ (.int .i64 fx)).setCell ⟨rb, 1, none⟩ (.slice a1 n1 c1)).setCell ⟨rb, 2, none⟩ (.int .i64 rx)).setCell ⟨rb, 3, none⟩ (.slice a2 n2 c2)).heap[rb]? = some (.cells #[.int .i64 fx, .slice a1 n1 c1, .int .i64 rx, .slice a2 n2 c2] 60 (0, 0)) := by
      simpa using block_setCell (block_setCell (block_setCell (block_setCell HR9.out 0 (.int .i64 fx)) 1 (.slice a1 n1 c1)) 2 (.int .i64 rx)) 3 (.slice a2 n2 c2)
    have hkr : ∀ k, k ≠ rb → ((((w9.setCell ⟨rb, 0, none⟩ (.int .i64 fx)).setCell ⟨rb, 1, none⟩ (.slice a1 n1 c1)).setCell ⟨rb, 2, none⟩ (.int .i64 rx)).setCell ⟨rb, 3, none⟩ (.slice a2 n2 c2)).heap[k]? = w9.heap[k]? := fun k hk => by rw [Below.heap_setCell _ _ _ _ hk, Below.heap_setCell _ _ _ _ hk, Below.heap_setCell _ _ _ _ hk, Below.heap_setCell _ _ _ _ hk]
    have e : w.heap.size ≤ rb := Nat.le_of_eq HRE.out.symm
    have hlay : LayAt ((((w9.setCell ⟨rb, 0, none⟩ (.int .i64 fx)).setCell ⟨rb, 1, none⟩ (.slice a1 n1 c1)).setCell ⟨rb, 2, none⟩ (.int .i64 rx)).setCell ⟨rb, 3, none⟩ (.slice a2 n2 c2)) (.agg #[.int .i64 fx, .slice a1 n1 c1, .int .i64 rx, .slice a2 n2 c2]) L := by
      have e := HFX.out
      have h1 := HQ.out.1
      exact ⟨a1, c1, a2, c2, by rw [← e.1, ← e.2.1, ← e.2.2.1, ← e.2.2.2], HA9.out.off rb (fun q o e => by have := (HQ.out.2.2.2.1 q o e).1; omega) _ hkr, HC9.out.off rb (fun q o e => by have := (HQ.out.2.2.2.2 q o e).1; omega) _ hkr⟩
    exact bodyPost_ret (results_blk rfl _ _ rb _ _ _ _ rfl hbk Tryz.underlying60 rfl rfl) rfl ⟨_, rfl, hlay, (((HB9.out.setCell e _).setCell e _).setCell e _).setCell e _⟩
end Go.Proofs.YtcdpnfchmpncjaaGreatDoor

namespace Go.Tr
open Go.RowKit
theorem results_blk3 {P : Program} {fn : Func} {p u v : Tmp} {ty : TypeId} (h : fn.results = #[.cell p ty, .tmp u, .tmp v]) (tmps : Array Value) (w : World) (g : Nat) (t : TypeId) (cs : Array Value) (fr : Nat × Nat) (d : TypeDesc)
    (hp : tmps.getD p undef = .pointer (some ⟨g, 0, none⟩)) (hg : w.heap[g]? = some (.cells cs t fr))
    (hu : P.underlying ty = some d) (hd : (match d with | .struct _ | .array _ _ => true | _ => false) = true) (hi : (P.info? ty).map (·.size) = some cs.size) :
    (results fn tmps).run P w = .ok (.tuple #[.agg cs, tmps.getD u undef, tmps.getD v undef]) w := by
  have hp' : tmps[p]?.getD undef = .pointer (some ⟨g, 0, none⟩) := by simpa using hp
  simp [results, h, hp', asAddr, run_loadVar_row w g t ty cs fr d hg hu hd hi, Sem.run_bind, Result.andThen]
theorem results_blk22 {P : Program} {fn : Func} {p p2 u v : Tmp} {ty ty2 : TypeId} (h : fn.results = #[.cell p ty, .cell p2 ty2, .tmp u, .tmp v]) (tmps : Array Value) (w : World) (g g2 : Nat) (t t2 : TypeId) (cs cs2 : Array Value) (fr fr2 : Nat × Nat) (d d2 : TypeDesc)
    (hp : tmps.getD p undef = .pointer (some ⟨g, 0, none⟩)) (hg : w.heap[g]? = some (.cells cs t fr))
    (hu : P.underlying ty = some d) (hd : (match d with | .struct _ | .array _ _ => true | _ => false) = true) (hi : (P.info? ty).map (·.size) = some cs.size)
    (hp2 : tmps.getD p2 undef = .pointer (some ⟨g2, 0, none⟩)) (hg2 : w.heap[g2]? = some (.cells cs2 t2 fr2))
    (hu2 : P.underlying ty2 = some d2) (hd2 : (match d2 with | .struct _ | .array _ _ => true | _ => false) = true) (hi2 : (P.info? ty2).map (·.size) = some cs2.size) :
    (results fn tmps).run P w = .ok (.tuple #[.agg cs, .agg cs2, tmps.getD u undef, tmps.getD v undef]) w := by
  have hp' : tmps[p]?.getD undef = .pointer (some ⟨g, 0, none⟩) := by simpa using hp
  have hp2' : tmps[p2]?.getD undef = .pointer (some ⟨g2, 0, none⟩) := by simpa using hp2
  simp [results, h, hp', hp2', asAddr, run_loadVar_row w g t ty cs fr d hg hu hd hi, run_loadVar_row w g2 t2 ty2 cs2 fr2 d2 hg2 hu2 hd2 hi2, Sem.run_bind, Result.andThen]
end Go.Tr
namespace Go.Proofs.YtcdpnfchmpncjaaGreatDoor
open Go.RowKit Go.Tr Go.Shelf
variable {w w' : World} {F G : Nat → Prop} {m s b : Nat} {L : Lay}
def ImAt (w : World) (m s b : Nat) : Prop := w.heap[m]? = some (.cells #[.pointer (some ⟨s, 0, none⟩), .pointer (some ⟨b, 0, none⟩)] 209 (0, 0))
set_option maxRecDepth 100000 in
theorem inew_any (s b : Nat) (w : World) : Calls Tryz.prog 76 #[.pointer (some ⟨s, 0, none⟩), .pointer (some ⟨b, 0, none⟩)] w fun e w' => e = .returned (.tuple #[.pointer (some ⟨w.heap.size, 0, none⟩), .int .i64 0]) ∧ ImAt w' w.heap.size s b ∧ Below w.heap.size w w' ∧ w'.heap.size = w.heap.size + 1 := by
  go_enter Tryz.func76, Tryz.ntmps76
  go_wp2
  go_ret2
  exact ⟨rfl, heap_alloc_new w _, (Below.refl _ w).alloc (Nat.le_refl _) _, by simp⟩
end Go.Proofs.YtcdpnfchmpncjaaGreatDoor

namespace Go.Proofs.YtcdpnfchmpncjaaGreatDoor
open Go.RowKit Go.Tr Go.Shelf
variable {w w' : World} {F G : Nat → Prop} {m s b : Nat} {L : Lay}
set_option maxRecDepth 100000 in
set_option maxHeartbeats 1000000 in
theorem isize_any (count slot : Nat) (w : World) (hm : ImAt w m s b) (hB : Bk1 w F b L) (hr : RightLay L) (hc : count ≤ 1024) (hcr : count = 0 ∨ L.record ≠ 0) (hsz : L.size count < 8192) : Calls Tryz.prog 134 #[.pointer (some ⟨m, 0, none⟩), .agg #[.int .i64 1, .int .i64 count, .int .i64 slot]] w fun e w' => ∃ v, e = .returned (.tuple #[v, .int .i64 (L.size count : Nat), .int .i64 0]) ∧ LayF w' v L (fun k => w.heap.size ≤ k ∧ k < w'.heap.size) ∧ Below w.heap.size w w' := by
  have hl1 : L.refs.length ≤ 1000 := risesN_len hr.refs (by have := hr.f; omega)
  have hl2 : L.recs.length ≤ 1000 := risesN_len hr.recs (by have := hr.r; omega)
  have HGET : Hid (∀ W : World, Below w.heap.size w W → Calls Tryz.prog 86 #[.pointer (some ⟨b, 0, none⟩), .int .i64 1] W fun e w' => ∃ v, e = .returned (.tuple #[v, .int .i64 0]) ∧ LayF w' v L (fun k => W.heap.size ≤ k ∧ k < w'.heap.size) ∧ Below W.heap.size W w') := fun W hb => lget_any W (hB.kept (fun k _ hl => hb.block k hl)) hl1 hl2
  have HSZ : Hid (∀ (v : Value) (W : World), LayAt W v L → Calls Tryz.prog 87 #[v, .int .i64 count] W fun e w' => e = .returned (.tuple #[.int .i64 (L.size count : Nat), .int .i64 0]) ∧ Below W.heap.size W w') := fun v W hv => lsize_any count W hv hr hc hcr hsz
  have HB4 : Hid (Below w.heap.size w ((w.alloc (.cells #[.int .i64 1, .int .i64 count, .int .i64 slot] 128)).alloc (.cells #[.int .i64 0, .slice none 0 0, .int .i64 0, .slice none 0 0] 60))) := ((Below.refl _ w).alloc (Nat.le_refl _) _).alloc (by simp) _
  obtain ⟨xb, hxb⟩ : ∃ xb, xb = w.heap.size := ⟨_, rfl⟩
  obtain ⟨rb, hrb⟩ : ∃ rb, rb = w.heap.size + 1 := ⟨_, rfl⟩
  have HX4 : Hid (((w.alloc (.cells #[.int .i64 1, .int .i64 count, .int .i64 slot] 128)).alloc (.cells #[.int .i64 0, .slice none 0 0, .int .i64 0, .slice none 0 0] 60)).heap[xb]? = some (.cells #[.int .i64 1, .int .i64 count, .int .i64 slot] 128 (0, 0))) := by rw [hxb]; exact (Below.heap_alloc _ _ _ (by simp)).trans (heap_alloc_new w _)
  have HR4 : Hid (((w.alloc (.cells #[.int .i64 1, .int .i64 count, .int .i64 slot] 128)).alloc (.cells #[.int .i64 0, .slice none 0 0, .int .i64 0, .slice none 0 0] 60)).heap[rb]? = some (.cells #[.int .i64 0, .slice none 0 0, .int .i64 0, .slice none 0 0] 60 (0, 0))) := by rw [hrb]; exact heap_alloc2_new w _ _
  have HRE : Hid (w.heap.size ≤ rb) := by rw [hrb]; exact Nat.le_add_right _ _
  have hmk := (HB4.out.block m (Array.getElem?_eq_some_iff.1 hm).1).trans hm
  obtain ⟨z, hz⟩ : ∃ z, z = L.size count := ⟨_, rfl⟩
  rw [← hz] at HSZ ⊢
  clear hm hB hr hc hcr hsz hl1 hl2 hz
  go_enter Tryz.func134, Tryz.ntmps134
  go_wp2_with fail
  rw [← hrb, ← hxb]
  clear hrb
  rw [← hxb] at HGET
  generalize (w.alloc (.cells #[.int .i64 1, .int .i64 count, .int .i64 slot] 128)).alloc (.cells #[.int .i64 0, .slice none 0 0, .int .i64 0, .slice none 0 0] 60) = w4 at *
  rw [hxb] at HGET
  clear hxb
  have m1_4 := (cells_of_block hmk 1).1
  have h0_4 := (cells_of_block HX4.out 0).1
  simp at m1_4 h0_4
  clear hmk
  refine wp_region_held_drew (S := fun W => W.cell? ⟨m, 1, none⟩ = some (.pointer (some ⟨b, 0, none⟩)) ∧ W.cell? ⟨xb, 0, none⟩ = some (.int .i64 1)) (by kernel_rfl) ⟨m1_4, h0_4⟩ (fun hH => ?_)
  refine Go.Tr.tz 0 (v := ?_) rfl ?_ ?_
  rotate_left
  · intro W hW
    go_simp
    try with_reducible rfl
  try simp only [Go.Tr.nz]
  refine Go.Tr.tz 1 (v := ?_) rfl ?_ ?_
  rotate_left
  · intro W hW
    go_simp
    try with_reducible rfl
  try simp only [Go.Tr.nz]
  refine Go.Tr.tz 2 (v := ?_) rfl ?_ ?_
  rotate_left
  · intro W hW
    go_simp
    try with_reducible rfl
  try simp only [Go.Tr.nz]
  refine Go.Tr.tz 3 (v := ?_) rfl ?_ ?_
  rotate_left
  · intro W hW
    go_simp
    try with_reducible rfl
  try simp only [Go.Tr.nz]
  refine Go.Tr.tz 4 (v := ?_) rfl ?_ ?_
  rotate_left
  · intro W hW
    go_simp
    try with_reducible rfl
  try simp only [Go.Tr.nz]
  refine Go.Tr.tz 5 (v := ?_) rfl ?_ ?_
  rotate_left
  · intro W hW
    go_simp
    try with_reducible rfl
  try simp only [Go.Tr.nz]
  refine wpAnyH_ready (rs := [6, 10]) (by kernel_rfl) (by simp) (readyH rfl (fun K hK => ?_) (readyH rfl (fun K hK => ?_) AllReadyH.nil))
  · rw [if_pos (by rfl)]
    go_simp
    refine (HGET.out w4.drew (HB4.out.drew)).mono ?_
    rintro e w5 ⟨v, rfl, hlay, hb'⟩
    have hb : Below w4.heap.size w4 w5 := ⟨hb'.os, hb'.tape, hb'.output, hb'.size, hb'.block⟩
    obtain ⟨a1, c1, a2, c2, rfl, hsA, hsB, hgA, hgB⟩ := hlay
    have HSA5 := Lib.hid hsA
    have HSB5 := Lib.hid hsB
    have HGA : Hid (∀ q o, a1 = some ⟨q, o, none⟩ → w4.heap.size ≤ q ∧ q < w5.heap.size) := hgA
    have HGB : Hid (∀ q o, a2 = some ⟨q, o, none⟩ → w4.heap.size ≤ q ∧ q < w5.heap.size) := hgB
    have HB5 : Hid (Below w.heap.size w w5) := HB4.out.trans (hb.mono HB4.out.size)
    have HR5 := Lib.hid ((hb.block rb (Array.getElem?_eq_some_iff.1 HR4.out).1).trans HR4.out)
    have HX5 := Lib.hid ((hb.block xb (Array.getElem?_eq_some_iff.1 HX4.out).1).trans HX4.out)
    have HZ5 : Hid (w4.heap.size ≤ w5.heap.size) := hb.size
    have m1_5 := (World.cell?_of_block (a := ⟨m, 1, none⟩) (hb.block m (World.block_lt_of_cell? w4 _ m1_4))).trans m1_4
    have h0_5 := (World.cell?_of_block (a := ⟨xb, 0, none⟩) (hb.block xb (World.block_lt_of_cell? w4 _ h0_4))).trans h0_4
    clear hsA hsB hgA hgB hb hb'
    refine hK.out _ _ ⟨m1_5, h0_5⟩ (fun hH => ?_)
    clear hK K
    try simp only [Go.Tr.nz]
    refine Go.Tr.tz 7 (v := ?_) rfl ?_ ?_
    rotate_left
    · intro W hW
      go_simp
      try with_reducible rfl
    try simp only [Go.Tr.nz]
    refine Go.Tr.tz 8 (v := ?_) rfl ?_ ?_
    rotate_left
    · intro W hW
      go_simp
      try with_reducible rfl
    try simp only [Go.Tr.nz]
    refine Go.Tr.tz 9 (v := ?_) rfl ?_ ?_
    rotate_left
    · intro W hW
      go_simp
      try with_reducible rfl
    try simp only [Go.Tr.nz]
    refine wpAnyH_ready (rs := [10]) (by kernel_rfl) (by simp) (readyH rfl (fun K hK => ?_) AllReadyH.nil)
    rw [if_pos (by rfl)]
    go_simp
    have hb : Below w5.heap.size w5 (w5.alloc (.cells #[.int .i64 0, .slice none 0 0, .int .i64 0, .slice none 0 0] 60)) := ((Below.refl _ w5).alloc (Nat.le_refl _) _)
    obtain ⟨lb, hlb⟩ : ∃ lb, lb = w5.heap.size := ⟨_, rfl⟩
    have HLE : Hid (lb = w5.heap.size) := hlb
    have HL6 : Hid ((w5.alloc (.cells #[.int .i64 0, .slice none 0 0, .int .i64 0, .slice none 0 0] 60)).heap[lb]? = some (.cells #[.int .i64 0, .slice none 0 0, .int .i64 0, .slice none 0 0] 60 (0, 0))) := by rw [hlb]; exact heap_alloc_new w5 _
    rw [← hlb]
    generalize (w5.alloc (.cells #[.int .i64 0, .slice none 0 0, .int .i64 0, .slice none 0 0] 60)) = w6 at *
    clear hlb
    have HLT : Hid (lb < w6.heap.size) := (Array.getElem?_eq_some_iff.1 HL6.out).1
    have HB6 : Hid (Below w.heap.size w w6) := HB5.out.trans (hb.mono HB5.out.size)
    have HR6 := Lib.hid ((hb.block rb (Array.getElem?_eq_some_iff.1 HR5.out).1).trans HR5.out)
    have HX6 := Lib.hid ((hb.block xb (Array.getElem?_eq_some_iff.1 HX5.out).1).trans HX5.out)
    have HZ6 : Hid (w5.heap.size ≤ w6.heap.size) := hb.size
    have m1_6 := (World.cell?_of_block (a := ⟨m, 1, none⟩) (hb.block m (World.block_lt_of_cell? w5 _ m1_5))).trans m1_5
    have h0_6 := (World.cell?_of_block (a := ⟨xb, 0, none⟩) (hb.block xb (World.block_lt_of_cell? w5 _ h0_5))).trans h0_5
    have HSA6 : Hid (SeqAt w6 a1 (ns L.refs)) := HSA5.out.below hb (Nat.le_refl _)
    have HSB6 : Hid (SeqAt w6 a2 (ns L.recs)) := HSB5.out.below hb (Nat.le_refl _)
    clear hb
    refine hK.out _ _ ⟨m1_6, h0_6⟩ (fun hH => ?_)
    clear hK K
    try simp only [Go.Tr.nz]
    have l0 := cells_of_block HL6.out 0
    have l1 := cells_of_block HL6.out 1
    have l2 := cells_of_block HL6.out 2
    have l3 := cells_of_block HL6.out 3
    simp at l0 l1 l2 l3
    obtain ⟨l0, k0⟩ := l0
    obtain ⟨l1, k1⟩ := l1
    obtain ⟨l2, k2⟩ := l2
    obtain ⟨l3, k3⟩ := l3
    have hq : rb < w4.heap.size ∧ xb < w4.heap.size ∧ m < w4.heap.size ∧ w4.heap.size ≤ lb ∧ (∀ q o, a1 = some ⟨q, o, none⟩ → w4.heap.size ≤ q ∧ q ≠ lb ∧ q < w6.heap.size) ∧ (∀ q o, a2 = some ⟨q, o, none⟩ → w4.heap.size ≤ q ∧ q ≠ lb ∧ q < w6.heap.size) := by
      have e1 := HLE.out
      have e2 := HLT.out
      have e5 := HZ5.out
      have e6 := HZ6.out
      refine ⟨(Array.getElem?_eq_some_iff.1 HR4.out).1, World.block_lt_of_cell? w4 _ h0_4, World.block_lt_of_cell? w4 _ m1_4, by omega, fun q o e => ?_, fun q o e => ?_⟩
      · have := HGA.out q o e; omega
      · have := HGB.out q o e; omega
    have HQ := Lib.hid hq
    have HLB : Hid (((((w6.setCell ⟨lb, 0, none⟩ (.int .i64 L.fixed)).setCell ⟨lb, 1, none⟩ (.slice a1 L.refs.length c1)).setCell ⟨lb, 2, none⟩ (.int .i64 L.record)).setCell ⟨lb, 3, none⟩ (.slice a2 L.recs.length c2)).heap[lb]? = some (.cells #[.int .i64 L.fixed, .slice a1 L.refs.length c1, .int .i64 L.record, .slice a2 L.recs.length c2] 60 (0, 0))) := by
      show _ = _
      simpa using block_setCell (block_setCell (block_setCell (block_setCell HL6.out 0 (.int .i64 L.fixed)) 1 (.slice a1 L.refs.length c1)) 2 (.int .i64 L.record)) 3 (.slice a2 L.recs.length c2)
    have hkc : ∀ k, k ≠ lb → ((((w6.setCell ⟨lb, 0, none⟩ (.int .i64 L.fixed)).setCell ⟨lb, 1, none⟩ (.slice a1 L.refs.length c1)).setCell ⟨lb, 2, none⟩ (.int .i64 L.record)).setCell ⟨lb, 3, none⟩ (.slice a2 L.recs.length c2)).heap[k]? = w6.heap[k]? := fun k hk => by rw [Below.heap_setCell _ _ _ _ hk, Below.heap_setCell _ _ _ _ hk, Below.heap_setCell _ _ _ _ hk, Below.heap_setCell _ _ _ _ hk]
    have HB8 : Hid (Below w.heap.size w ((((w6.setCell ⟨lb, 0, none⟩ (.int .i64 L.fixed)).setCell ⟨lb, 1, none⟩ (.slice a1 L.refs.length c1)).setCell ⟨lb, 2, none⟩ (.int .i64 L.record)).setCell ⟨lb, 3, none⟩ (.slice a2 L.recs.length c2))) := by
      have e : w.heap.size ≤ lb := by have := HB4.out.size; have := hq.2.2.2.1; omega
      exact (((HB6.out.setCell e _).setCell e _).setCell e _).setCell e _
    have HZ8 : Hid (((((w6.setCell ⟨lb, 0, none⟩ (.int .i64 L.fixed)).setCell ⟨lb, 1, none⟩ (.slice a1 L.refs.length c1)).setCell ⟨lb, 2, none⟩ (.int .i64 L.record)).setCell ⟨lb, 3, none⟩ (.slice a2 L.recs.length c2)).heap.size = w6.heap.size) := by show _ = _; simp [World.setCell]
    refine wpAnyH_ready (rs := [11]) (by kernel_rfl) (by simp) (readyH rfl (fun K hK => ?_) AllReadyH.nil)
    rw [if_pos (by rfl)]
    go_simp
    clear l0 l1 l2 l3 k0 k1 k2 k3 hH
    generalize (((w6.setCell ⟨lb, 0, none⟩ (.int .i64 L.fixed)).setCell ⟨lb, 1, none⟩ (.slice a1 L.refs.length c1)).setCell ⟨lb, 2, none⟩ (.int .i64 L.record)).setCell ⟨lb, 3, none⟩ (.slice a2 L.recs.length c2) = w8 at *
    have HR8 := Lib.hid ((hkc rb (by omega)).trans HR6.out)
    have HX8 := Lib.hid ((hkc xb (by omega)).trans HX6.out)
    have HA8 : Hid (SeqAt w8 a1 (ns L.refs)) := HSA6.out.off lb (fun q o e => (hq.2.2.2.2.1 q o e).2.1) _ hkc
    have HC8 : Hid (SeqAt w8 a2 (ns L.recs)) := HSB6.out.off lb (fun q o e => (hq.2.2.2.2.2 q o e).2.1) _ hkc
    have m1_8 := (World.cell?_of_block (a := ⟨m, 1, none⟩) (hkc m (by omega))).trans m1_6
    have h0_8 := (World.cell?_of_block (a := ⟨xb, 0, none⟩) (hkc xb (by omega))).trans h0_6
    clear hkc hq
    refine hK.out _ _ ⟨m1_8, h0_8⟩ (fun hH => ?_)
    clear hK K
    try simp only [Go.Tr.nz]
    refine Go.Tr.tz 12 (v := ?_) rfl ?_ ?_
    rotate_left
    · intro W hW
      go_simp
      try with_reducible rfl
    try simp only [Go.Tr.nz]
    refine wpAnyH_done (by kernel_rfl) ?_ _
    have HLA : Hid (LayAt w8 (.agg #[.int .i64 L.fixed, .slice a1 L.refs.length c1, .int .i64 L.record, .slice a2 L.recs.length c2]) L) := ⟨a1, c1, a2, c2, rfl, HA8.out, HC8.out⟩
    have y0 := (cells_of_block HX8.out 1).1
    have y3 := (cells_of_block HLB.out 0).1
    have y4 := (cells_of_block HLB.out 1).1
    have y5 := (cells_of_block HLB.out 2).1
    have y6 := (cells_of_block HLB.out 3).1
    simp at y0 y3 y4 y5 y6
    go_wp2_with fail
    refine (HSZ.out _ w8 HLA.out).mono ?_
    rintro e w9 ⟨rfl, hb9⟩
    have HB9 : Hid (Below w.heap.size w w9) := HB8.out.trans (hb9.mono HB8.out.size)
    have HZ9 : Hid (w8.heap.size ≤ w9.heap.size) := hb9.size
    have HL9 := Lib.hid ((hb9.block lb (Array.getElem?_eq_some_iff.1 HLB.out).1).trans HLB.out)
    have HR9 := Lib.hid ((hb9.block rb (Array.getElem?_eq_some_iff.1 HR8.out).1).trans HR8.out)
    have HA9 : Hid (SeqAt w9 a1 (ns L.refs)) := HA8.out.below hb9 (Nat.le_refl _)
    have HC9 : Hid (SeqAt w9 a2 (ns L.recs)) := HC8.out.below hb9 (Nat.le_refl _)
    have z3 := (cells_of_block HL9.out 0).1
    have z4 := (cells_of_block HL9.out 1).1
    have z5 := (cells_of_block HL9.out 2).1
    have z6 := (cells_of_block HL9.out 3).1
    simp at z3 z4 z5 z6
    have r0 := cells_of_block HR9.out 0
    have r1 := cells_of_block HR9.out 1
    have r2 := cells_of_block HR9.out 2
    have r3 := cells_of_block HR9.out 3
    simp at r0 r1 r2 r3
    obtain ⟨r0, q0⟩ := r0
    obtain ⟨r1, q1⟩ := r1
    obtain ⟨r2, q2⟩ := r2
    obtain ⟨r3, q3⟩ := r3
    clear hb9 y0 y3 y4 y5 y6
    go_wp2_with fail
    try simp only [Exit.inBlock, Exit.then]
    have hbk : ((((w9.setCell ⟨rb, 0, none⟩ (.int .i64 L.fixed)).setCell ⟨rb, 1, none⟩ (.slice a1 L.refs.length c1)).setCell ⟨rb, 2, none⟩ (.int .i64 L.record)).setCell ⟨rb, 3, none⟩ (.slice a2 L.recs.length c2)).heap[rb]? = some (.cells #[.int .i64 L.fixed, .slice a1 L.refs.length c1, .int .i64 L.record, .slice a2 L.recs.length c2] 60 (0, 0)) := by
      simpa using block_setCell (block_setCell (block_setCell (block_setCell HR9.out 0 (.int .i64 L.fixed)) 1 (.slice a1 L.refs.length c1)) 2 (.int .i64 L.record)) 3 (.slice a2 L.recs.length c2)
    have hkr : ∀ k, k ≠ rb → ((((w9.setCell ⟨rb, 0, none⟩ (.int .i64 L.fixed)).setCell ⟨rb, 1, none⟩ (.slice a1 L.refs.length c1)).setCell ⟨rb, 2, none⟩ (.int .i64 L.record)).setCell ⟨rb, 3, none⟩ (.slice a2 L.recs.length c2)).heap[k]? = w9.heap[k]? := fun k hk => by rw [Below.heap_setCell _ _ _ _ hk, Below.heap_setCell _ _ _ _ hk, Below.heap_setCell _ _ _ _ hk, Below.heap_setCell _ _ _ _ hk]
    have e : w.heap.size ≤ rb := HRE.out
    have hlay : LayF ((((w9.setCell ⟨rb, 0, none⟩ (.int .i64 L.fixed)).setCell ⟨rb, 1, none⟩ (.slice a1 L.refs.length c1)).setCell ⟨rb, 2, none⟩ (.int .i64 L.record)).setCell ⟨rb, 3, none⟩ (.slice a2 L.recs.length c2)) (.agg #[.int .i64 L.fixed, .slice a1 L.refs.length c1, .int .i64 L.record, .slice a2 L.recs.length c2]) L (fun k => w.heap.size ≤ k ∧ k < ((((w9.setCell ⟨rb, 0, none⟩ (.int .i64 L.fixed)).setCell ⟨rb, 1, none⟩ (.slice a1 L.refs.length c1)).setCell ⟨rb, 2, none⟩ (.int .i64 L.record)).setCell ⟨rb, 3, none⟩ (.slice a2 L.recs.length c2)).heap.size) := by
      have h1 := HQ.out.1
      have h2 := HB4.out.size
      have h3 := HZ8.out
      have h4 := HZ9.out
      have h5 : ((((w9.setCell ⟨rb, 0, none⟩ (.int .i64 L.fixed)).setCell ⟨rb, 1, none⟩ (.slice a1 L.refs.length c1)).setCell ⟨rb, 2, none⟩ (.int .i64 L.record)).setCell ⟨rb, 3, none⟩ (.slice a2 L.recs.length c2)).heap.size = w9.heap.size := by simp [World.setCell]
      refine ⟨a1, c1, a2, c2, rfl, HA9.out.off rb (fun q o e => by have := (HQ.out.2.2.2.2.1 q o e).1; omega) _ hkr, HC9.out.off rb (fun q o e => by have := (HQ.out.2.2.2.2.2 q o e).1; omega) _ hkr, fun q o e => ?_, fun q o e => ?_⟩
      · have h6 := HQ.out.2.2.2.2.1 q o e
        rw [h5]; omega
      · have h6 := HQ.out.2.2.2.2.2 q o e
        rw [h5]; omega
    exact bodyPost_ret (results_blk3 rfl _ _ rb _ _ _ _ rfl hbk Tryz.underlying60 rfl rfl) rfl ⟨_, rfl, hlay, (((HB9.out.setCell e _).setCell e _).setCell e _).setCell e _⟩
  · rw [if_pos (by rfl)]
    go_simp
    have hb : Below w4.heap.size w4 (w4.alloc (.cells #[.int .i64 0, .slice none 0 0, .int .i64 0, .slice none 0 0] 60)).drew := ((Below.refl _ w4).alloc (Nat.le_refl _) _).drew
    obtain ⟨lb, hlb⟩ : ∃ lb, lb = w4.heap.size := ⟨_, rfl⟩
    have HLE : Hid (lb = w4.heap.size) := hlb
    have HL5 : Hid ((w4.alloc (.cells #[.int .i64 0, .slice none 0 0, .int .i64 0, .slice none 0 0] 60)).drew.heap[lb]? = some (.cells #[.int .i64 0, .slice none 0 0, .int .i64 0, .slice none 0 0] 60 (0, 0))) := by rw [hlb]; exact heap_alloc_new w4 _
    rw [← hlb]
    generalize (w4.alloc (.cells #[.int .i64 0, .slice none 0 0, .int .i64 0, .slice none 0 0] 60)).drew = w5 at *
    clear hlb
    have HLT : Hid (lb < w5.heap.size) := (Array.getElem?_eq_some_iff.1 HL5.out).1
    have HB5 : Hid (Below w.heap.size w w5) := HB4.out.trans (hb.mono HB4.out.size)
    have HR5 := Lib.hid ((hb.block rb (Array.getElem?_eq_some_iff.1 HR4.out).1).trans HR4.out)
    have HX5 := Lib.hid ((hb.block xb (Array.getElem?_eq_some_iff.1 HX4.out).1).trans HX4.out)
    have HZ5 : Hid (w4.heap.size ≤ w5.heap.size) := hb.size
    have m1_5 := (World.cell?_of_block (a := ⟨m, 1, none⟩) (hb.block m (World.block_lt_of_cell? w4 _ m1_4))).trans m1_4
    have h0_5 := (World.cell?_of_block (a := ⟨xb, 0, none⟩) (hb.block xb (World.block_lt_of_cell? w4 _ h0_4))).trans h0_4
    clear hb
    refine hK.out _ _ ⟨m1_5, h0_5⟩ (fun hH => ?_)
    clear hK K
    try simp only [Go.Tr.nz]
    refine wpAnyH_ready (rs := [6]) (by kernel_rfl) (by simp) (readyH rfl (fun K hK => ?_) AllReadyH.nil)
    rw [if_pos (by rfl)]
    go_simp
    refine (HGET.out w5 (HB5.out)).mono ?_
    rintro e w6 ⟨v, rfl, hlay, hb'⟩
    have hb : Below w5.heap.size w5 w6 := ⟨hb'.os, hb'.tape, hb'.output, hb'.size, hb'.block⟩
    obtain ⟨a1, c1, a2, c2, rfl, hsA, hsB, hgA, hgB⟩ := hlay
    have HSA6 := Lib.hid hsA
    have HSB6 := Lib.hid hsB
    have HGA : Hid (∀ q o, a1 = some ⟨q, o, none⟩ → w5.heap.size ≤ q ∧ q < w6.heap.size) := hgA
    have HGB : Hid (∀ q o, a2 = some ⟨q, o, none⟩ → w5.heap.size ≤ q ∧ q < w6.heap.size) := hgB
    have HB6 : Hid (Below w.heap.size w w6) := HB5.out.trans (hb.mono HB5.out.size)
    have HR6 := Lib.hid ((hb.block rb (Array.getElem?_eq_some_iff.1 HR5.out).1).trans HR5.out)
    have HX6 := Lib.hid ((hb.block xb (Array.getElem?_eq_some_iff.1 HX5.out).1).trans HX5.out)
    have HZ6 : Hid (w5.heap.size ≤ w6.heap.size) := hb.size
    have m1_6 := (World.cell?_of_block (a := ⟨m, 1, none⟩) (hb.block m (World.block_lt_of_cell? w5 _ m1_5))).trans m1_5
    have h0_6 := (World.cell?_of_block (a := ⟨xb, 0, none⟩) (hb.block xb (World.block_lt_of_cell? w5 _ h0_5))).trans h0_5
    have HL6 := Lib.hid ((hb.block lb (Array.getElem?_eq_some_iff.1 HL5.out).1).trans HL5.out)
    clear hsA hsB hgA hgB hb hb'
    refine hK.out _ _ ⟨m1_6, h0_6⟩ (fun hH => ?_)
    clear hK K
    try simp only [Go.Tr.nz]
    refine Go.Tr.tz 7 (v := ?_) rfl ?_ ?_
    rotate_left
    · intro W hW
      go_simp
      try with_reducible rfl
    try simp only [Go.Tr.nz]
    refine Go.Tr.tz 8 (v := ?_) rfl ?_ ?_
    rotate_left
    · intro W hW
      go_simp
      try with_reducible rfl
    try simp only [Go.Tr.nz]
    refine Go.Tr.tz 9 (v := ?_) rfl ?_ ?_
    rotate_left
    · intro W hW
      go_simp
      try with_reducible rfl
    try simp only [Go.Tr.nz]
    have l0 := cells_of_block HL6.out 0
    have l1 := cells_of_block HL6.out 1
    have l2 := cells_of_block HL6.out 2
    have l3 := cells_of_block HL6.out 3
    simp at l0 l1 l2 l3
    obtain ⟨l0, k0⟩ := l0
    obtain ⟨l1, k1⟩ := l1
    obtain ⟨l2, k2⟩ := l2
    obtain ⟨l3, k3⟩ := l3
    have hq : rb < w4.heap.size ∧ xb < w4.heap.size ∧ m < w4.heap.size ∧ w4.heap.size ≤ lb ∧ (∀ q o, a1 = some ⟨q, o, none⟩ → w4.heap.size ≤ q ∧ q ≠ lb ∧ q < w6.heap.size) ∧ (∀ q o, a2 = some ⟨q, o, none⟩ → w4.heap.size ≤ q ∧ q ≠ lb ∧ q < w6.heap.size) := by
      have e1 := HLE.out
      have e2 := HLT.out
      have e5 := HZ5.out
      have e6 := HZ6.out
      refine ⟨(Array.getElem?_eq_some_iff.1 HR4.out).1, World.block_lt_of_cell? w4 _ h0_4, World.block_lt_of_cell? w4 _ m1_4, by omega, fun q o e => ?_, fun q o e => ?_⟩
      · have := HGA.out q o e; omega
      · have := HGB.out q o e; omega
    have HQ := Lib.hid hq
    have HLB : Hid (((((w6.setCell ⟨lb, 0, none⟩ (.int .i64 L.fixed)).setCell ⟨lb, 1, none⟩ (.slice a1 L.refs.length c1)).setCell ⟨lb, 2, none⟩ (.int .i64 L.record)).setCell ⟨lb, 3, none⟩ (.slice a2 L.recs.length c2)).heap[lb]? = some (.cells #[.int .i64 L.fixed, .slice a1 L.refs.length c1, .int .i64 L.record, .slice a2 L.recs.length c2] 60 (0, 0))) := by
      show _ = _
      simpa using block_setCell (block_setCell (block_setCell (block_setCell HL6.out 0 (.int .i64 L.fixed)) 1 (.slice a1 L.refs.length c1)) 2 (.int .i64 L.record)) 3 (.slice a2 L.recs.length c2)
    have hkc : ∀ k, k ≠ lb → ((((w6.setCell ⟨lb, 0, none⟩ (.int .i64 L.fixed)).setCell ⟨lb, 1, none⟩ (.slice a1 L.refs.length c1)).setCell ⟨lb, 2, none⟩ (.int .i64 L.record)).setCell ⟨lb, 3, none⟩ (.slice a2 L.recs.length c2)).heap[k]? = w6.heap[k]? := fun k hk => by rw [Below.heap_setCell _ _ _ _ hk, Below.heap_setCell _ _ _ _ hk, Below.heap_setCell _ _ _ _ hk, Below.heap_setCell _ _ _ _ hk]
    have HB8 : Hid (Below w.heap.size w ((((w6.setCell ⟨lb, 0, none⟩ (.int .i64 L.fixed)).setCell ⟨lb, 1, none⟩ (.slice a1 L.refs.length c1)).setCell ⟨lb, 2, none⟩ (.int .i64 L.record)).setCell ⟨lb, 3, none⟩ (.slice a2 L.recs.length c2))) := by
      have e : w.heap.size ≤ lb := by have := HB4.out.size; have := hq.2.2.2.1; omega
      exact (((HB6.out.setCell e _).setCell e _).setCell e _).setCell e _
    have HZ8 : Hid (((((w6.setCell ⟨lb, 0, none⟩ (.int .i64 L.fixed)).setCell ⟨lb, 1, none⟩ (.slice a1 L.refs.length c1)).setCell ⟨lb, 2, none⟩ (.int .i64 L.record)).setCell ⟨lb, 3, none⟩ (.slice a2 L.recs.length c2)).heap.size = w6.heap.size) := by show _ = _; simp [World.setCell]
    refine wpAnyH_ready (rs := [11]) (by kernel_rfl) (by simp) (readyH rfl (fun K hK => ?_) AllReadyH.nil)
    rw [if_pos (by rfl)]
    go_simp
    clear l0 l1 l2 l3 k0 k1 k2 k3 hH
    generalize (((w6.setCell ⟨lb, 0, none⟩ (.int .i64 L.fixed)).setCell ⟨lb, 1, none⟩ (.slice a1 L.refs.length c1)).setCell ⟨lb, 2, none⟩ (.int .i64 L.record)).setCell ⟨lb, 3, none⟩ (.slice a2 L.recs.length c2) = w8 at *
    have HR8 := Lib.hid ((hkc rb (by omega)).trans HR6.out)
    have HX8 := Lib.hid ((hkc xb (by omega)).trans HX6.out)
    have HA8 : Hid (SeqAt w8 a1 (ns L.refs)) := HSA6.out.off lb (fun q o e => (hq.2.2.2.2.1 q o e).2.1) _ hkc
    have HC8 : Hid (SeqAt w8 a2 (ns L.recs)) := HSB6.out.off lb (fun q o e => (hq.2.2.2.2.2 q o e).2.1) _ hkc
    have m1_8 := (World.cell?_of_block (a := ⟨m, 1, none⟩) (hkc m (by omega))).trans m1_6
    have h0_8 := (World.cell?_of_block (a := ⟨xb, 0, none⟩) (hkc xb (by omega))).trans h0_6
    clear hkc hq
    refine hK.out _ _ ⟨m1_8, h0_8⟩ (fun hH => ?_)
    clear hK K
    try simp only [Go.Tr.nz]
    refine Go.Tr.tz 12 (v := ?_) rfl ?_ ?_
    rotate_left
    · intro W hW
      go_simp
      try with_reducible rfl
    try simp only [Go.Tr.nz]
    refine wpAnyH_done (by kernel_rfl) ?_ _
    have HLA : Hid (LayAt w8 (.agg #[.int .i64 L.fixed, .slice a1 L.refs.length c1, .int .i64 L.record, .slice a2 L.recs.length c2]) L) := ⟨a1, c1, a2, c2, rfl, HA8.out, HC8.out⟩
    have y0 := (cells_of_block HX8.out 1).1
    have y3 := (cells_of_block HLB.out 0).1
    have y4 := (cells_of_block HLB.out 1).1
    have y5 := (cells_of_block HLB.out 2).1
    have y6 := (cells_of_block HLB.out 3).1
    simp at y0 y3 y4 y5 y6
    go_wp2_with fail
    refine (HSZ.out _ w8 HLA.out).mono ?_
    rintro e w9 ⟨rfl, hb9⟩
    have HB9 : Hid (Below w.heap.size w w9) := HB8.out.trans (hb9.mono HB8.out.size)
    have HZ9 : Hid (w8.heap.size ≤ w9.heap.size) := hb9.size
    have HL9 := Lib.hid ((hb9.block lb (Array.getElem?_eq_some_iff.1 HLB.out).1).trans HLB.out)
    have HR9 := Lib.hid ((hb9.block rb (Array.getElem?_eq_some_iff.1 HR8.out).1).trans HR8.out)
    have HA9 : Hid (SeqAt w9 a1 (ns L.refs)) := HA8.out.below hb9 (Nat.le_refl _)
    have HC9 : Hid (SeqAt w9 a2 (ns L.recs)) := HC8.out.below hb9 (Nat.le_refl _)
    have z3 := (cells_of_block HL9.out 0).1
    have z4 := (cells_of_block HL9.out 1).1
    have z5 := (cells_of_block HL9.out 2).1
    have z6 := (cells_of_block HL9.out 3).1
    simp at z3 z4 z5 z6
    have r0 := cells_of_block HR9.out 0
    have r1 := cells_of_block HR9.out 1
    have r2 := cells_of_block HR9.out 2
    have r3 := cells_of_block HR9.out 3
    simp at r0 r1 r2 r3
    obtain ⟨r0, q0⟩ := r0
    obtain ⟨r1, q1⟩ := r1
    obtain ⟨r2, q2⟩ := r2
    obtain ⟨r3, q3⟩ := r3
    clear hb9 y0 y3 y4 y5 y6
    go_wp2_with fail
    try simp only [Exit.inBlock, Exit.then]
    have hbk : ((((w9.setCell ⟨rb, 0, none⟩ (.int .i64 L.fixed)).setCell ⟨rb, 1, none⟩ (.slice a1 L.refs.length c1)).setCell ⟨rb, 2, none⟩ (.int .i64 L.record)).setCell ⟨rb, 3, none⟩ (.slice a2 L.recs.length c2)).heap[rb]? = some (.cells #[.int .i64 L.fixed, .slice a1 L.refs.length c1, .int .i64 L.record, .slice a2 L.recs.length c2] 60 (0, 0)) := by
      simpa using block_setCell (block_setCell (block_setCell (block_setCell HR9.out 0 (.int .i64 L.fixed)) 1 (.slice a1 L.refs.length c1)) 2 (.int .i64 L.record)) 3 (.slice a2 L.recs.length c2)
    have hkr : ∀ k, k ≠ rb → ((((w9.setCell ⟨rb, 0, none⟩ (.int .i64 L.fixed)).setCell ⟨rb, 1, none⟩ (.slice a1 L.refs.length c1)).setCell ⟨rb, 2, none⟩ (.int .i64 L.record)).setCell ⟨rb, 3, none⟩ (.slice a2 L.recs.length c2)).heap[k]? = w9.heap[k]? := fun k hk => by rw [Below.heap_setCell _ _ _ _ hk, Below.heap_setCell _ _ _ _ hk, Below.heap_setCell _ _ _ _ hk, Below.heap_setCell _ _ _ _ hk]
    have e : w.heap.size ≤ rb := HRE.out
    have hlay : LayF ((((w9.setCell ⟨rb, 0, none⟩ (.int .i64 L.fixed)).setCell ⟨rb, 1, none⟩ (.slice a1 L.refs.length c1)).setCell ⟨rb, 2, none⟩ (.int .i64 L.record)).setCell ⟨rb, 3, none⟩ (.slice a2 L.recs.length c2)) (.agg #[.int .i64 L.fixed, .slice a1 L.refs.length c1, .int .i64 L.record, .slice a2 L.recs.length c2]) L (fun k => w.heap.size ≤ k ∧ k < ((((w9.setCell ⟨rb, 0, none⟩ (.int .i64 L.fixed)).setCell ⟨rb, 1, none⟩ (.slice a1 L.refs.length c1)).setCell ⟨rb, 2, none⟩ (.int .i64 L.record)).setCell ⟨rb, 3, none⟩ (.slice a2 L.recs.length c2)).heap.size) := by
      have h1 := HQ.out.1
      have h2 := HB4.out.size
      have h3 := HZ8.out
      have h4 := HZ9.out
      have h5 : ((((w9.setCell ⟨rb, 0, none⟩ (.int .i64 L.fixed)).setCell ⟨rb, 1, none⟩ (.slice a1 L.refs.length c1)).setCell ⟨rb, 2, none⟩ (.int .i64 L.record)).setCell ⟨rb, 3, none⟩ (.slice a2 L.recs.length c2)).heap.size = w9.heap.size := by simp [World.setCell]
      refine ⟨a1, c1, a2, c2, rfl, HA9.out.off rb (fun q o e => by have := (HQ.out.2.2.2.2.1 q o e).1; omega) _ hkr, HC9.out.off rb (fun q o e => by have := (HQ.out.2.2.2.2.2 q o e).1; omega) _ hkr, fun q o e => ?_, fun q o e => ?_⟩
      · have h6 := HQ.out.2.2.2.2.1 q o e
        rw [h5]; omega
      · have h6 := HQ.out.2.2.2.2.2 q o e
        rw [h5]; omega
    exact bodyPost_ret (results_blk3 rfl _ _ rb _ _ _ _ rfl hbk Tryz.underlying60 rfl rfl) rfl ⟨_, rfl, hlay, (((HB9.out.setCell e _).setCell e _).setCell e _).setCell e _⟩
end Go.Proofs.YtcdpnfchmpncjaaGreatDoor

namespace Go.Proofs.YtcdpnfchmpncjaaGreatDoor
open Go.RowKit Go.Tr Go.Shelf
variable {w w' : World} {F G H : Nat → Prop} {m s b C Wd : Nat} {L : Lay} {ws own : List Nat}
structure ImgEnv (w : World) (G H : Nat → Prop) (m s b C Wd : Nat) (L : Lay) (ws own : List Nat) : Prop where
  im : ImAt w m s b
  st : StF w G s C Wd ws own
  bk : Bk1 w H b L
  right : RightLay L
theorem ImgEnv.below (h : ImgEnv w G H m s b C Wd L ws own) (hb : Below w.heap.size w w') : ImgEnv w' G H m s b C Wd L ws own :=
  ⟨(hb.block m (Array.getElem?_eq_some_iff.1 h.im).1).trans h.im, h.st.kept (fun k _ hl => hb.block k hl), h.bk.kept (fun k _ hl => hb.block k hl), h.right⟩
structure ObjAt (C Wd : Nat) (L : Lay) (ws own : List Nat) (addr count slot : Nat) : Prop where
  lt : addr < C * Wd
  own : own.getD (addr / Wd) 0 ≠ 0
  word : ws.getD addr 0 = hdrN slot count 1
  cnt : count ≤ 1024
  slt : slot < 4096
  fit : count = 0 ∨ L.record ≠ 0
  size : L.size count < 8192
set_option maxRecDepth 100000 in
set_option maxHeartbeats 1000000 in
theorem ifindF_any (addr count slot : Nat) (w : World) (h : ImgEnv w G H m s b C Wd L ws own) (ho : ObjAt C Wd L ws own addr count slot) : Calls Tryz.prog 116 #[.pointer (some ⟨m, 0, none⟩), .int .i64 addr] w fun e w' => ∃ v, e = .returned (.tuple #[.agg #[.int .i64 1, .int .i64 count, .int .i64 slot], v, .int .i64 (L.size count : Nat), .int .i64 0]) ∧ LayF w' v L (fun k => w.heap.size ≤ k ∧ k < w'.heap.size) ∧ Below w.heap.size w w' := by
  have HENV := Lib.hid h
  have HRD : Hid (∀ W : World, Below w.heap.size w W → Calls Tryz.prog 143 #[.pointer (some ⟨s, 0, none⟩), .int .i64 addr] W fun e w' => e = .returned (.tuple #[.int .u64 (hdrN slot count 1 : Nat), .int .i64 0]) ∧ W = w') := fun W hb => by
    have := sread_any addr W (h.below hb).st ho.lt ho.own
    rw [ho.word] at this
    exact this
  have HDEC := Lib.hid (hdecode_any 1 count slot · (by omega) (by omega) ho.cnt ho.slt)
  have HSZ : Hid (∀ W : World, Below w.heap.size w W → Calls Tryz.prog 134 #[.pointer (some ⟨m, 0, none⟩), .agg #[.int .i64 1, .int .i64 count, .int .i64 slot]] W fun e w' => ∃ v, e = .returned (.tuple #[v, .int .i64 (L.size count : Nat), .int .i64 0]) ∧ LayF w' v L (fun k => W.heap.size ≤ k ∧ k < w'.heap.size) ∧ Below W.heap.size W w') := fun W hb => isize_any count slot W (h.below hb).im (h.below hb).bk h.right ho.cnt ho.fit ho.size
  obtain ⟨z, hz⟩ : ∃ z, z = L.size count := ⟨_, rfl⟩
  rw [← hz] at HSZ ⊢
  obtain ⟨WN, hWN⟩ : ∃ WN, WN = hdrN slot count 1 := ⟨_, rfl⟩
  rw [← hWN] at HRD HDEC
  have HBA : Hid (Below w.heap.size w ((w.alloc (.cells #[.int .i64 0, .int .i64 0, .int .i64 0] 128)).alloc (.cells #[.int .i64 0, .slice none 0 0, .int .i64 0, .slice none 0 0] 60))) := ((Below.refl _ w).alloc (Nat.le_refl _) _).alloc (by simp) _
  obtain ⟨rh, hrh⟩ : ∃ rh, rh = w.heap.size := ⟨_, rfl⟩
  obtain ⟨rl, hrl⟩ : ∃ rl, rl = w.heap.size + 1 := ⟨_, rfl⟩
  have HRH : Hid (((w.alloc (.cells #[.int .i64 0, .int .i64 0, .int .i64 0] 128)).alloc (.cells #[.int .i64 0, .slice none 0 0, .int .i64 0, .slice none 0 0] 60)).heap[rh]? = some (.cells #[.int .i64 0, .int .i64 0, .int .i64 0] 128 (0, 0))) := by rw [hrh]; exact (Below.heap_alloc _ _ _ (by simp)).trans (heap_alloc_new w _)
  have HRL : Hid (((w.alloc (.cells #[.int .i64 0, .int .i64 0, .int .i64 0] 128)).alloc (.cells #[.int .i64 0, .slice none 0 0, .int .i64 0, .slice none 0 0] 60)).heap[rl]? = some (.cells #[.int .i64 0, .slice none 0 0, .int .i64 0, .slice none 0 0] 60 (0, 0))) := by rw [hrl]; exact heap_alloc2_new w _ _
  have HRE : Hid (w.heap.size ≤ rh ∧ w.heap.size ≤ rl ∧ rh ≠ rl) := ⟨by omega, by omega, by omega⟩
  have hm0 := (cells_of_block (HENV.out.below HBA.out).im 0).1
  simp at hm0
  clear h ho hz hWN
  go_enter Tryz.func116, Tryz.ntmps116
  go_wp2_with fail
  rw [← hrl, ← hrh]
  clear hrh hrl
  generalize (w.alloc (.cells #[.int .i64 0, .int .i64 0, .int .i64 0] 128)).alloc (.cells #[.int .i64 0, .slice none 0 0, .int .i64 0, .slice none 0 0] 60) = wa at *
  refine (HRD.out wa HBA.out).mono ?_
  rintro e w' ⟨rfl, rfl⟩
  go_wp2_with fail
  refine (HDEC.out wa).mono ?_
  rintro e w1 ⟨rfl, hb1⟩
  have HB1 : Hid (Below w.heap.size w w1) := HBA.out.trans (hb1.mono HBA.out.size)
  have HH1 := Lib.hid ((hb1.block rh (Array.getElem?_eq_some_iff.1 HRH.out).1).trans HRH.out)
  have HL1 := Lib.hid ((hb1.block rl (Array.getElem?_eq_some_iff.1 HRL.out).1).trans HRL.out)
  clear hb1
  go_wp2_with fail
  have hb2 : Below w1.heap.size w1 (w1.alloc (.cells #[.int .i64 1, .int .i64 count, .int .i64 slot] 128)) := (Below.refl _ w1).alloc (Nat.le_refl _) _
  have HB2 : Hid (Below w.heap.size w (w1.alloc (.cells #[.int .i64 1, .int .i64 count, .int .i64 slot] 128))) := HB1.out.trans (hb2.mono HB1.out.size)
  have HH2 := Lib.hid ((hb2.block rh (Array.getElem?_eq_some_iff.1 HH1.out).1).trans HH1.out)
  have HL2 := Lib.hid ((hb2.block rl (Array.getElem?_eq_some_iff.1 HL1.out).1).trans HL1.out)
  obtain ⟨xh, hxh⟩ : ∃ xh, xh = w1.heap.size := ⟨_, rfl⟩
  have HX2 : Hid ((w1.alloc (.cells #[.int .i64 1, .int .i64 count, .int .i64 slot] 128)).heap[xh]? = some (.cells #[.int .i64 1, .int .i64 count, .int .i64 slot] 128 (0, 0))) := by rw [hxh]; exact heap_alloc_new w1 _
  have HNX : Hid (xh ≠ rh ∧ xh ≠ rl) := ⟨fun e => by have := (Array.getElem?_eq_some_iff.1 HH1.out).1; omega, fun e => by have := (Array.getElem?_eq_some_iff.1 HL1.out).1; omega⟩
  rw [← hxh]
  clear hxh hb2
  generalize w1.alloc (.cells #[.int .i64 1, .int .i64 count, .int .i64 slot] 128) = w2 at *
  refine (HSZ.out w2 HB2.out).mono ?_
  rintro e w3 ⟨v, rfl, hlay, hb3⟩
  have HB3 : Hid (Below w.heap.size w w3) := HB2.out.trans (hb3.mono HB2.out.size)
  have HH3 := Lib.hid ((hb3.block rh (Array.getElem?_eq_some_iff.1 HH2.out).1).trans HH2.out)
  have HL3 := Lib.hid ((hb3.block rl (Array.getElem?_eq_some_iff.1 HL2.out).1).trans HL2.out)
  have HX3 := Lib.hid ((hb3.block xh (Array.getElem?_eq_some_iff.1 HX2.out).1).trans HX2.out)
  obtain ⟨a1, c1, a2, c2, rfl, hsA, hsB, hgA, hgB⟩ := hlay
  obtain ⟨fx, hfx⟩ : ∃ fx, fx = L.fixed := ⟨_, rfl⟩
  obtain ⟨rx, hrx⟩ : ∃ rx, rx = L.record := ⟨_, rfl⟩
  obtain ⟨n1, hn1⟩ : ∃ n1, n1 = L.refs.length := ⟨_, rfl⟩
  obtain ⟨n2, hn2⟩ : ∃ n2, n2 = L.recs.length := ⟨_, rfl⟩
  have HFX : Hid (fx = L.fixed ∧ rx = L.record ∧ n1 = L.refs.length ∧ n2 = L.recs.length) := ⟨hfx, hrx, hn1, hn2⟩
  have hh2 : rh < w2.heap.size ∧ rl < w2.heap.size := ⟨(Array.getElem?_eq_some_iff.1 HH2.out).1, (Array.getElem?_eq_some_iff.1 HL2.out).1⟩
  have HSA := Lib.hid hsA
  have HSB := Lib.hid hsB
  have hw2 := HB2.out.size
  have HGA : Hid (∀ q o, a1 = some ⟨q, o, none⟩ → q ≠ rh ∧ q ≠ rl ∧ w.heap.size ≤ q ∧ q < w3.heap.size) := fun q o e => by have := hgA q o e; omega
  have HGB : Hid (∀ q o, a2 = some ⟨q, o, none⟩ → q ≠ rh ∧ q ≠ rl ∧ w.heap.size ≤ q ∧ q < w3.heap.size) := fun q o e => by have := hgB q o e; omega
  rw [← hfx, ← hrx, ← hn1, ← hn2]
  clear hb3 hsA hsB hgA hgB hh2 hfx hrx hn1 hn2 hw2
  go_wp2_with fail
  have hb4 : Below w3.heap.size w3 (w3.alloc (.cells #[.int .i64 fx, .slice a1 n1 c1, .int .i64 rx, .slice a2 n2 c2] 60)) := (Below.refl _ w3).alloc (Nat.le_refl _) _
  have HB4 : Hid (Below w.heap.size w (w3.alloc (.cells #[.int .i64 fx, .slice a1 n1 c1, .int .i64 rx, .slice a2 n2 c2] 60))) := HB3.out.trans (hb4.mono HB3.out.size)
  have HH4 := Lib.hid ((hb4.block rh (Array.getElem?_eq_some_iff.1 HH3.out).1).trans HH3.out)
  have HL4 := Lib.hid ((hb4.block rl (Array.getElem?_eq_some_iff.1 HL3.out).1).trans HL3.out)
  have HX4 := Lib.hid ((hb4.block xh (Array.getElem?_eq_some_iff.1 HX3.out).1).trans HX3.out)
  have HSA4 : Hid (SeqAt (w3.alloc (.cells #[.int .i64 fx, .slice a1 n1 c1, .int .i64 rx, .slice a2 n2 c2] 60)) a1 (ns L.refs)) := HSA.out.below hb4 (Nat.le_refl _)
  have HSB4 : Hid (SeqAt (w3.alloc (.cells #[.int .i64 fx, .slice a1 n1 c1, .int .i64 rx, .slice a2 n2 c2] 60)) a2 (ns L.recs)) := HSB.out.below hb4 (Nat.le_refl _)
  obtain ⟨xl, hxl⟩ : ∃ xl, xl = w3.heap.size := ⟨_, rfl⟩
  have HY4 : Hid ((w3.alloc (.cells #[.int .i64 fx, .slice a1 n1 c1, .int .i64 rx, .slice a2 n2 c2] 60)).heap[xl]? = some (.cells #[.int .i64 fx, .slice a1 n1 c1, .int .i64 rx, .slice a2 n2 c2] 60 (0, 0))) := by rw [hxl]; exact heap_alloc_new w3 _
  have HNL : Hid (xl ≠ rh ∧ xl ≠ rl) := ⟨fun e => by have := (Array.getElem?_eq_some_iff.1 HH3.out).1; omega, fun e => by have := (Array.getElem?_eq_some_iff.1 HL3.out).1; omega⟩
  have HZ4 : Hid (w3.heap.size ≤ (w3.alloc (.cells #[.int .i64 fx, .slice a1 n1 c1, .int .i64 rx, .slice a2 n2 c2] 60)).heap.size) := hb4.size
  rw [← hxl]
  clear hxl hb4
  generalize w3.alloc (.cells #[.int .i64 fx, .slice a1 n1 c1, .int .i64 rx, .slice a2 n2 c2] 60) = w4 at *
  have y0 := (cells_of_block HX4.out 0).1
  have y1 := (cells_of_block HX4.out 1).1
  have y2 := (cells_of_block HX4.out 2).1
  have v0 := (cells_of_block HY4.out 0).1
  have v1 := (cells_of_block HY4.out 1).1
  have v2 := (cells_of_block HY4.out 2).1
  have v3 := (cells_of_block HY4.out 3).1
  simp at y0 y1 y2 v0 v1 v2 v3
  have p0 := cells_of_block HH4.out 0
  have p1 := cells_of_block HH4.out 1
  have p2 := cells_of_block HH4.out 2
  simp at p0 p1 p2
  obtain ⟨p0, pf0⟩ := p0
  obtain ⟨p1, pf1⟩ := p1
  obtain ⟨p2, pf2⟩ := p2
  have q0 := cells_of_block HL4.out 0
  have q1 := cells_of_block HL4.out 1
  have q2 := cells_of_block HL4.out 2
  have q3 := cells_of_block HL4.out 3
  simp at q0 q1 q2 q3
  obtain ⟨q0, qf0⟩ := q0
  obtain ⟨q1, qf1⟩ := q1
  obtain ⟨q2, qf2⟩ := q2
  obtain ⟨q3, qf3⟩ := q3
  have hne := HRE.out.2.2
  have hne2 := hne.symm
  obtain ⟨hn1, hn2⟩ := HNX.out
  obtain ⟨hn3, hn4⟩ := HNL.out
  go_region
  rename_i Kc hKc
  refine hKc _ _ ?_
  have hh : ((w4.setCell ⟨rh, 0, none⟩ (.int .i64 1)).setCell ⟨rh, 1, none⟩ (.int .i64 count)).setCell ⟨rh, 2, none⟩ (.int .i64 slot) |>.heap[rh]? = some (.cells #[.int .i64 1, .int .i64 count, .int .i64 slot] 128 (0, 0)) := by
    simpa using block_setCell (block_setCell (block_setCell HH4.out 0 (.int .i64 1)) 1 (.int .i64 count)) 2 (.int .i64 slot)
  have hl : ((w4.setCell ⟨rh, 0, none⟩ (.int .i64 1)).setCell ⟨rh, 1, none⟩ (.int .i64 count)).setCell ⟨rh, 2, none⟩ (.int .i64 slot) |>.heap[rl]? = some (.cells #[.int .i64 0, .slice none 0 0, .int .i64 0, .slice none 0 0] 60 (0, 0)) := by
    rw [Below.heap_setCell _ _ _ _ hne2, Below.heap_setCell _ _ _ _ hne2, Below.heap_setCell _ _ _ _ hne2]; exact HL4.out
  have HHF : Hid ((((((((w4.setCell ⟨rh, 0, none⟩ (.int .i64 1)).setCell ⟨rh, 1, none⟩ (.int .i64 count)).setCell ⟨rh, 2, none⟩ (.int .i64 slot)).setCell ⟨rl, 0, none⟩ (.int .i64 fx)).setCell ⟨rl, 1, none⟩ (.slice a1 n1 c1)).setCell ⟨rl, 2, none⟩ (.int .i64 rx)).setCell ⟨rl, 3, none⟩ (.slice a2 n2 c2)).heap[rh]? = some (.cells #[.int .i64 1, .int .i64 count, .int .i64 slot] 128 (0, 0))) := by
    show _ = _
    rw [Below.heap_setCell _ _ _ _ hne, Below.heap_setCell _ _ _ _ hne, Below.heap_setCell _ _ _ _ hne, Below.heap_setCell _ _ _ _ hne]; exact hh
  have HLF : Hid ((((((((w4.setCell ⟨rh, 0, none⟩ (.int .i64 1)).setCell ⟨rh, 1, none⟩ (.int .i64 count)).setCell ⟨rh, 2, none⟩ (.int .i64 slot)).setCell ⟨rl, 0, none⟩ (.int .i64 fx)).setCell ⟨rl, 1, none⟩ (.slice a1 n1 c1)).setCell ⟨rl, 2, none⟩ (.int .i64 rx)).setCell ⟨rl, 3, none⟩ (.slice a2 n2 c2)).heap[rl]? = some (.cells #[.int .i64 fx, .slice a1 n1 c1, .int .i64 rx, .slice a2 n2 c2] 60 (0, 0))) := by
    show _ = _
    simpa using block_setCell (block_setCell (block_setCell (block_setCell hl 0 (.int .i64 fx)) 1 (.slice a1 n1 c1)) 2 (.int .i64 rx)) 3 (.slice a2 n2 c2)
  have HKF : Hid (∀ k, k ≠ rh → k ≠ rl → (((((((w4.setCell ⟨rh, 0, none⟩ (.int .i64 1)).setCell ⟨rh, 1, none⟩ (.int .i64 count)).setCell ⟨rh, 2, none⟩ (.int .i64 slot)).setCell ⟨rl, 0, none⟩ (.int .i64 fx)).setCell ⟨rl, 1, none⟩ (.slice a1 n1 c1)).setCell ⟨rl, 2, none⟩ (.int .i64 rx)).setCell ⟨rl, 3, none⟩ (.slice a2 n2 c2)).heap[k]? = w4.heap[k]?) := fun k h1 h2 => by
    rw [Below.heap_setCell _ _ _ _ h2, Below.heap_setCell _ _ _ _ h2, Below.heap_setCell _ _ _ _ h2, Below.heap_setCell _ _ _ _ h2, Below.heap_setCell _ _ _ _ h1, Below.heap_setCell _ _ _ _ h1, Below.heap_setCell _ _ _ _ h1]
  have HB5 : Hid (Below w.heap.size w (((((((w4.setCell ⟨rh, 0, none⟩ (.int .i64 1)).setCell ⟨rh, 1, none⟩ (.int .i64 count)).setCell ⟨rh, 2, none⟩ (.int .i64 slot)).setCell ⟨rl, 0, none⟩ (.int .i64 fx)).setCell ⟨rl, 1, none⟩ (.slice a1 n1 c1)).setCell ⟨rl, 2, none⟩ (.int .i64 rx)).setCell ⟨rl, 3, none⟩ (.slice a2 n2 c2))) := by
    have e1 := HRE.out.1
    have e2 := HRE.out.2.1
    exact ((((((HB4.out.setCell e1 _).setCell e1 _).setCell e1 _).setCell e2 _).setCell e2 _).setCell e2 _).setCell e2 _
  have HZ5 : Hid (w4.heap.size ≤ (((((((w4.setCell ⟨rh, 0, none⟩ (.int .i64 1)).setCell ⟨rh, 1, none⟩ (.int .i64 count)).setCell ⟨rh, 2, none⟩ (.int .i64 slot)).setCell ⟨rl, 0, none⟩ (.int .i64 fx)).setCell ⟨rl, 1, none⟩ (.slice a1 n1 c1)).setCell ⟨rl, 2, none⟩ (.int .i64 rx)).setCell ⟨rl, 3, none⟩ (.slice a2 n2 c2)).heap.size) := by show _ ≤ _; simp [World.setCell]
  clear hh hl y0 y1 y2 v0 v1 v2 v3 p0 p1 p2 q0 q1 q2 q3 pf0 pf1 pf2 qf0 qf1 qf2 qf3
  generalize ((((((w4.setCell ⟨rh, 0, none⟩ (.int .i64 1)).setCell ⟨rh, 1, none⟩ (.int .i64 count)).setCell ⟨rh, 2, none⟩ (.int .i64 slot)).setCell ⟨rl, 0, none⟩ (.int .i64 fx)).setCell ⟨rl, 1, none⟩ (.slice a1 n1 c1)).setCell ⟨rl, 2, none⟩ (.int .i64 rx)).setCell ⟨rl, 3, none⟩ (.slice a2 n2 c2) = w5 at *
  have hof : ∀ {a : Option Addr} {xs : List Value}, SeqAt w4 a xs → (∀ q o, a = some ⟨q, o, none⟩ → q ≠ rh ∧ q ≠ rl ∧ w.heap.size ≤ q ∧ q < w3.heap.size) → SeqAt w5 a xs := fun h hf h0 => by
    obtain ⟨q, o, e, hc⟩ := h h0
    exact ⟨q, o, e, fun j hj => by rw [World.cell?_of_block (a := ⟨q, o + j, none⟩) (HKF.out q (hf q o e).1 (hf q o e).2.1)]; exact hc j hj⟩
  have HLAY : Hid (LayF w5.drew (.agg #[.int .i64 fx, .slice a1 n1 c1, .int .i64 rx, .slice a2 n2 c2]) L (fun k => w.heap.size ≤ k ∧ k < w5.drew.heap.size)) := by
    have e := HFX.out
    have e4 := HZ4.out
    have e5 : w4.heap.size ≤ w5.drew.heap.size := HZ5.out
    exact ⟨a1, c1, a2, c2, by rw [← e.1, ← e.2.1, ← e.2.2.1, ← e.2.2.2], hof HSA4.out HGA.out, hof HSB4.out HGB.out, fun q o e => by have := HGA.out q o e; show _ ∧ _; omega, fun q o e => by have := HGB.out q o e; show _ ∧ _; omega⟩
  clear hof
  go_wp2_with fail
  try simp only [Exit.inBlock, Exit.then]
  exact bodyPost_ret (results_blk22 rfl _ _ rh rl _ _ _ _ _ _ _ _ rfl (show w5.drew.heap[rh]? = _ from HHF.out) Tryz.underlying128 rfl rfl rfl (show w5.drew.heap[rl]? = _ from HLF.out) Tryz.underlying60 rfl rfl) rfl ⟨_, rfl, HLAY.out, HB5.out.drew⟩
theorem ifind_any (addr count slot : Nat) (w : World) (h : ImgEnv w G H m s b C Wd L ws own) (ho : ObjAt C Wd L ws own addr count slot) : Calls Tryz.prog 116 #[.pointer (some ⟨m, 0, none⟩), .int .i64 addr] w fun e w' => ∃ v, e = .returned (.tuple #[.agg #[.int .i64 1, .int .i64 count, .int .i64 slot], v, .int .i64 (L.size count : Nat), .int .i64 0]) ∧ LayAt w' v L ∧ Below w.heap.size w w' :=
  (ifindF_any addr count slot w h ho).mono fun e w' ⟨v, h1, h2, h3⟩ => ⟨v, h1, h2.at, h3⟩
end Go.Proofs.YtcdpnfchmpncjaaGreatDoor

namespace Go.Proofs.YtcdpnfchmpncjaaGreatDoor
open Go.RowKit Go.Tr Go.Shelf
variable {w w' : World} {G H : Nat → Prop} {m s b C Wd : Nat} {L : Lay} {ws own : List Nat}
set_option maxRecDepth 100000 in
set_option maxHeartbeats 1000000 in
theorem iat_any (addr count slot : Nat) (w : World) (h : ImgEnv w G H m s b C Wd L ws own) (ho : ObjAt C Wd L ws own addr count slot) : Calls Tryz.prog 67 #[.pointer (some ⟨m, 0, none⟩), .int .i64 addr] w fun e w' => e = .returned (.tuple #[.agg #[.int .i64 1, .int .i64 count, .int .i64 slot], .int .i64 (L.size count + 1 : Nat), .int .i64 0]) ∧ Below w.heap.size w w' := by
  have HF : Hid (∀ W : World, Below w.heap.size w W → Calls Tryz.prog 116 #[.pointer (some ⟨m, 0, none⟩), .int .i64 addr] W fun e w' => ∃ v, e = .returned (.tuple #[.agg #[.int .i64 1, .int .i64 count, .int .i64 slot], v, .int .i64 (L.size count : Nat), .int .i64 0]) ∧ LayAt w' v L ∧ Below W.heap.size W w') := fun W hb => ifind_any addr count slot W (h.below hb) ho
  have hsz := ho.size
  obtain ⟨z, hz⟩ : ∃ z, z = L.size count := ⟨_, rfl⟩
  rw [← hz] at HF hsz ⊢
  have HBA : Hid (Below w.heap.size w (w.alloc (.cells #[.int .i64 0, .int .i64 0, .int .i64 0] 128))) := (Below.refl _ w).alloc (Nat.le_refl _) _
  obtain ⟨rh, hrh⟩ : ∃ rh, rh = w.heap.size := ⟨_, rfl⟩
  have HRH : Hid ((w.alloc (.cells #[.int .i64 0, .int .i64 0, .int .i64 0] 128)).heap[rh]? = some (.cells #[.int .i64 0, .int .i64 0, .int .i64 0] 128 (0, 0))) := by rw [hrh]; exact heap_alloc_new w _
  have HRE : Hid (w.heap.size ≤ rh) := Nat.le_of_eq hrh.symm
  clear h ho hz
  go_enter Tryz.func67, Tryz.ntmps67
  go_wp2_with fail
  rw [← hrh]
  clear hrh
  generalize w.alloc (.cells #[.int .i64 0, .int .i64 0, .int .i64 0] 128) = wa at *
  refine (HF.out wa HBA.out).mono ?_
  rintro e w1 ⟨v, rfl, hlay, hb1⟩
  obtain ⟨a1, c1, a2, c2, rfl, -, -⟩ := hlay
  have HB1 : Hid (Below w.heap.size w w1) := HBA.out.trans (hb1.mono HBA.out.size)
  have HH1 := Lib.hid ((hb1.block rh (Array.getElem?_eq_some_iff.1 HRH.out).1).trans HRH.out)
  obtain ⟨fx, hfx⟩ : ∃ fx, fx = L.fixed := ⟨_, rfl⟩
  obtain ⟨rx, hrx⟩ : ∃ rx, rx = L.record := ⟨_, rfl⟩
  obtain ⟨n1, hn1⟩ : ∃ n1, n1 = L.refs.length := ⟨_, rfl⟩
  obtain ⟨n2, hn2⟩ : ∃ n2, n2 = L.recs.length := ⟨_, rfl⟩
  rw [← hfx, ← hrx, ← hn1, ← hn2]
  clear hb1 hfx hrx hn1 hn2
  have hrl : rh < w1.heap.size := (Array.getElem?_eq_some_iff.1 HH1.out).1
  have hk : ∀ u v, ((w1.alloc u).alloc v).heap[rh]? = w1.heap[rh]? := fun u v => (Below.heap_alloc _ _ _ (by simp; omega)).trans (Below.heap_alloc _ _ _ hrl)
  have HBK : Hid (∀ u v, Below w.heap.size w ((w1.alloc u).alloc v)) := fun u v => (HB1.out.alloc HB1.out.size u).alloc (by have := HB1.out.size; simp; omega) v
  have r0 := cells_of_block HH1.out 0
  have r1 := cells_of_block HH1.out 1
  have r2 := cells_of_block HH1.out 2
  simp at r0 r1 r2
  obtain ⟨r0, g0⟩ := r0
  obtain ⟨r1, g1⟩ := r1
  obtain ⟨r2, g2⟩ := r2
  have HK := Lib.hid hk
  clear hk
  go_wp2_with fail
  try simp only [Exit.inBlock, Exit.then]
  have hbk : ((w1.setCell ⟨rh, 0, none⟩ (.int .i64 1)).setCell ⟨rh, 1, none⟩ (.int .i64 count)).setCell ⟨rh, 2, none⟩ (.int .i64 slot) |>.heap[rh]? = some (.cells #[.int .i64 1, .int .i64 count, .int .i64 slot] 128 (0, 0)) := by
    simpa using block_setCell (block_setCell (block_setCell HH1.out 0 (.int .i64 1)) 1 (.int .i64 count)) 2 (.int .i64 slot)
  have e := HRE.out
  have hb5 : Below w.heap.size w (((w1.setCell ⟨rh, 0, none⟩ (.int .i64 1)).setCell ⟨rh, 1, none⟩ (.int .i64 count)).setCell ⟨rh, 2, none⟩ (.int .i64 slot)) := ((HB1.out.setCell e _).setCell e _).setCell e _
  refine bodyPost_ret (results_blk3 rfl _ _ rh _ _ _ _ rfl ((Below.heap_alloc _ _ _ (by simp [World.setCell]; omega)).trans ((Below.heap_alloc _ _ _ (by simp [World.setCell]; omega)).trans hbk)) Tryz.underlying128 rfl rfl) rfl ⟨rfl, (hb5.alloc hb5.size _).alloc (by have := hb5.size; simp [World.setCell] at this ⊢; omega) _⟩
end Go.Proofs.YtcdpnfchmpncjaaGreatDoor

namespace Go.Tr
open Go.RowKit
theorem putAt_self : ∀ (k : Nat) (ws : List Nat) (o : Nat), putAt ws o ((ws.drop o).take k) = ws
  | 0, ws, o => by simp [putAt]
  | k + 1, ws, o => by
    by_cases h : o < ws.length
    · rw [List.drop_eq_getElem_cons h, List.take_succ_cons]
      show putAt (ws.set o ws[o]) (o + 1) _ = ws
      rw [List.set_getElem_self]
      exact putAt_self k ws (o + 1)
    · rw [List.drop_eq_nil_of_le (by omega)]; rfl
theorem Owned.at {own : List Nat} {Wd addr n i : Nat} (h : Owned own Wd addr n) (hi : i < n) : own.getD ((addr + i) / Wd) 0 ≠ 0 :=
  h _ (Nat.div_le_div_right (by omega)) (Nat.div_le_div_right (by omega))
end Go.Tr
namespace Go.Proofs.YtcdpnfchmpncjaaGreatDoor
open Go.RowKit Go.Tr Go.Shelf
variable {w w' : World} {G H : Nat → Prop} {m s b C Wd : Nat} {L : Lay} {ws own : List Nat}
set_option maxRecDepth 100000 in
set_option maxHeartbeats 1000000 in
theorem imake_any (addr count slot : Nat) (w : World) (h : ImgEnv w G H m s b C Wd L ws own) (hmG : ¬ G m) (hc : count ≤ 1024) (hs : slot < 4096) (hcr : count = 0 ∨ L.record ≠ 0) (hsz : L.size count < 8192) (ha : addr + (L.size count + 1) ≤ C * Wd) (ho : Owned own Wd addr (L.size count + 1)) :
    Calls Tryz.prog 90 #[.pointer (some ⟨m, 0, none⟩), .int .i64 addr, .agg #[.int .i64 1, .int .i64 count, .int .i64 slot]] w fun e w' => e = .returned (.tuple #[.int .i64 (L.size count + 1 : Nat), .int .i64 0]) ∧ StF w' G s C Wd (putAt ws addr (hdrN slot count 1 :: List.replicate (L.size count) 0)) own ∧ Only G w w' := by
  have HENC := Lib.hid (hencode_any 1 count slot · (by omega) (by omega) hc hs)
  have HSZ : Hid (∀ W : World, Below w.heap.size w W → Calls Tryz.prog 134 #[.pointer (some ⟨m, 0, none⟩), .agg #[.int .i64 1, .int .i64 count, .int .i64 slot]] W fun e w' => ∃ v, e = .returned (.tuple #[v, .int .i64 (L.size count : Nat), .int .i64 0]) ∧ LayF w' v L (fun k => W.heap.size ≤ k ∧ k < w'.heap.size) ∧ Below W.heap.size W w') := fun W hb => isize_any count slot W (h.below hb).im (h.below hb).bk h.right hc hcr hsz
  have hhl := hdr_lt (slot := slot) (count := count) (layout := 1) (by omega) (by omega) (by omega)
  obtain ⟨z, hz⟩ : ∃ z, z = L.size count := ⟨_, rfl⟩
  obtain ⟨WN, hWN⟩ : ∃ WN, WN = hdrN slot count 1 := ⟨_, rfl⟩
  rw [← hz] at HSZ hsz ha ho ⊢
  rw [← hWN] at HENC hhl ⊢
  have HENV := Lib.hid h
  have HO := Lib.hid ho
  have HMG := Lib.hid hmG
  have hbig : C * Wd ≤ 1048576 := by
    obtain ⟨wb, ob, mm, Fm, hst, -⟩ := h.st
    exact Nat.le_trans (Nat.mul_le_mul hst.cb.2 hst.wd.2) (by decide)
  obtain ⟨sz, hszz⟩ : ∃ sz, sz = C * Wd := ⟨_, rfl⟩
  have HSZE := Lib.hid hszz
  rw [← hszz] at ha hbig
  clear h hmG hc hs hcr ho hz hWN hszz
  have HBA : Hid (Below w.heap.size w (w.alloc (.cells #[.int .i64 1, .int .i64 count, .int .i64 slot] 128))) := (Below.refl _ w).alloc (Nat.le_refl _) _
  obtain ⟨xb, hxb⟩ : ∃ xb, xb = w.heap.size := ⟨_, rfl⟩
  have HXB : Hid ((w.alloc (.cells #[.int .i64 1, .int .i64 count, .int .i64 slot] 128)).heap[xb]? = some (.cells #[.int .i64 1, .int .i64 count, .int .i64 slot] 128 (0, 0))) := by rw [hxb]; exact heap_alloc_new w _
  go_enter Tryz.func90, Tryz.ntmps90
  go_wp2_with fail
  rw [← hxb]
  clear hxb
  generalize w.alloc (.cells #[.int .i64 1, .int .i64 count, .int .i64 slot] 128) = wa at *
  refine (HENC.out wa).mono ?_
  rintro e w1 ⟨rfl, hb1⟩
  have HB1 : Hid (Below w.heap.size w w1) := HBA.out.trans (hb1.mono HBA.out.size)
  have HX1 := Lib.hid ((hb1.block xb (Array.getElem?_eq_some_iff.1 HXB.out).1).trans HXB.out)
  have x0 := (cells_of_block HX1.out 0).1
  have x1 := (cells_of_block HX1.out 1).1
  have x2 := (cells_of_block HX1.out 2).1
  simp at x0 x1 x2
  clear hb1
  go_wp2_with fail
  refine (HSZ.out w1 HB1.out).mono ?_
  rintro e w2 ⟨v, rfl, hlay, hb2⟩
  obtain ⟨a1, c1, a2, c2, rfl, -⟩ := hlay
  have HB2 : Hid (Below w.heap.size w w2) := HB1.out.trans (hb2.mono HB1.out.size)
  obtain ⟨fx, hfx⟩ : ∃ fx, fx = L.fixed := ⟨_, rfl⟩
  obtain ⟨rx, hrx⟩ : ∃ rx, rx = L.record := ⟨_, rfl⟩
  obtain ⟨n1, hn1⟩ : ∃ n1, n1 = L.refs.length := ⟨_, rfl⟩
  obtain ⟨n2, hn2⟩ : ∃ n2, n2 = L.recs.length := ⟨_, rfl⟩
  rw [← hfx, ← hrx, ← hn1, ← hn2]
  clear hb2 hfx hrx hn1 hn2 x0 x1 x2
  have hm2 := (cells_of_block (HENV.out.below HB2.out).im 0).1
  have hml2 := (Array.getElem?_eq_some_iff.1 (HENV.out.below HB2.out).im).1
  have hm3 := fun u => (World.cell?_of_block (a := ⟨m, 0, none⟩) (Below.heap_alloc w2 u m hml2)).trans hm2
  simp at hm3
  have hz1 : IntKind.i64.wrap ((z : Int) + 1) = (z : Int) + 1 := by rw [IntWalk.i64_in _ (by omega)]
  clear hm2 hml2
  go_wp2_with fail
  have HB3 : Hid (Below w.heap.size w (w2.alloc (.cells #[.int .i64 fx, .slice a1 n1 c1, .int .i64 rx, .slice a2 n2 c2] 60))) := HB2.out.alloc HB2.out.size _
  clear hm3
  generalize w2.alloc (.cells #[.int .i64 fx, .slice a1 n1 c1, .int .i64 rx, .slice a2 n2 c2] 60) = w3 at *
  have HIM3 := Lib.hid (HENV.out.below HB3.out).im
  have HCP : Hid (Calls Tryz.prog 135 #[.pointer (some ⟨s, 0, none⟩), .int .i64 addr, .int .i64 addr, .int .i64 ((z : Int) + 1)] w3 fun e w' => e = .returned (.int .i64 0) ∧ StF w' G s C Wd ws own ∧ Only G w3 w' ∧ w'.heap.size = w3.heap.size) := by
    have := scopy_any addr addr (z + 1) w3 (HENV.out.below HB3.out).st (by omega) (by rw [← HSZE.out]; exact ha) (by rw [← HSZE.out]; exact ha) HO.out HO.out
    rw [putAt_self] at this
    exact this
  refine HCP.out.mono ?_
  rintro e w4 ⟨rfl, hst4, hon4, hsz4⟩
  have HST4 := Lib.hid hst4
  have HO4 : Hid (Only G w w4) := (Only.of_below HB3.out G).trans hon4 (fun k hk => Or.inl hk)
  have HIM4 : Hid (ImAt w4 m s b) := (hon4.block m (Array.getElem?_eq_some_iff.1 HIM3.out).1 HMG.out).trans HIM3.out
  have m4 := (cells_of_block HIM4.out 0).1
  simp at m4
  clear hst4 hon4 hsz4
  go_wp2_with fail
  refine (swrite_any addr WN w4 HST4.out hhl (by rw [← HSZE.out]; omega) (by have := HO.out.at (i := 0) (by omega); rw [Nat.add_zero] at this; exact this)).mono ?_
  rintro e w5 ⟨rfl, hst5, hon5, hsz5⟩
  have HST5 : Hid (StF w5 G s C Wd (putAt (ws.set addr WN) (addr + 1) (List.replicate 0 0)) own) := hst5
  have HO5 : Hid (Only G w w5) := HO4.out.trans hon5 (fun k hk => Or.inl hk)
  have HIM5 : Hid (ImAt w5 m s b) := (hon5.block m (Array.getElem?_eq_some_iff.1 HIM4.out).1 HMG.out).trans HIM4.out
  clear hst5 hon5 hsz5 m4
  go_wp2_with fail
  go_loopw [54] (fun i wr => ∃ j : Nat, j ≤ z ∧ i = .int .i64 (j : Int) ∧ Hid (StF wr G s C Wd (putAt (ws.set addr WN) (addr + 1) (List.replicate j 0)) own) ∧ Hid (Only G w wr) ∧ Hid (ImAt wr m s b)) (fun i _ => z - (intOf i).toNat)
  case atStart => exact ⟨0, Nat.zero_le _, rfl, HST5, HO5, HIM5⟩
  case round =>
    clear HST5 HO5 HIM5
    obtain ⟨j, hj, rfl, HST, HOW, HIM⟩ := hrel
    have m5 := (cells_of_block HIM.out 0).1
    simp at m5
    by_cases hlt : j < z
    · have hlt' : (j : Int) < (z : Int) := by omega
      have HWR : Hid (Calls Tryz.prog 136 #[.pointer (some ⟨s, 0, none⟩), .int .i64 ((addr : Int) + 1 + (j : Int)), .int .u64 0] wr fun e w' => e = .returned (.int .i64 0) ∧ StF w' G s C Wd (putAt (ws.set addr WN) (addr + 1) (List.replicate (j + 1) 0)) own ∧ Only G wr w' ∧ w'.heap.size = wr.heap.size) := by
        have := swrite_any (addr + 1 + j) 0 wr HST.out (by decide) (by rw [← HSZE.out]; omega) (by have := HO.out.at (i := 1 + j) (by omega); rw [← Nat.add_assoc] at this; exact this)
        rw [List.replicate_succ', putAt_snoc, List.length_replicate]
        exact this
      go_wp2_with fail
      refine HWR.out.mono ?_
      rintro e w6 ⟨rfl, hst6, hon6, hsz6⟩
      have HST6 := Lib.hid hst6
      have HO6 : Hid (Only G w w6) := HOW.out.trans hon6 (fun k hk => Or.inl hk)
      have HIM6 : Hid (ImAt w6 m s b) := (hon6.block m (Array.getElem?_eq_some_iff.1 HIM.out).1 HMG.out).trans HIM.out
      clear hst6 hon6 hsz6
      go_wp2_with fail
      go_roundw
      case rel => exact ⟨j + 1, by omega, by go_num, HST6, HO6, HIM6⟩
      case measure => simp [intOf]; omega
    · have hlt' : ¬ (j : Int) < (z : Int) := by omega
      have hjz : j = z := by omega
      have HSTz : Hid (StF wr G s C Wd (putAt ws addr (WN :: List.replicate z 0)) own) := by
        have := HST.out
        rw [hjz] at this
        exact this
      clear hjz
      go_wp2_with fail
      go_ret2
      exact ⟨rfl, HSTz.out, HOW.out⟩
end Go.Proofs.YtcdpnfchmpncjaaGreatDoor

namespace Go.Proofs.YtcdpnfchmpncjaaGreatDoor
open Go.RowKit Go.Tr Go.Shelf
variable {w w' : World} {G H : Nat → Prop} {m s b C Wd : Nat} {L : Lay} {ws own : List Nat}
set_option maxRecDepth 100000 in
set_option maxHeartbeats 1000000 in
theorem imove_any (ta fr count slot : Nat) (w : World) (h : ImgEnv w G H m s b C Wd L ws own) (hob : ObjAt C Wd L ws own fr count slot) (ha : fr + (L.size count + 1) ≤ C * Wd) (hb : ta + (L.size count + 1) ≤ C * Wd) (ho : Owned own Wd fr (L.size count + 1)) (ho2 : Owned own Wd ta (L.size count + 1)) :
    Calls Tryz.prog 110 #[.pointer (some ⟨m, 0, none⟩), .int .i64 ta, .int .i64 fr] w fun e w' => e = .returned (.tuple #[.int .i64 (L.size count + 1 : Nat), .int .i64 0]) ∧ StF w' G s C Wd (putAt ws ta ((ws.drop fr).take (L.size count + 1))) own ∧ Only G w w' := by
  have HAT : Hid (∀ W : World, Below w.heap.size w W → Calls Tryz.prog 67 #[.pointer (some ⟨m, 0, none⟩), .int .i64 fr] W fun e w' => e = .returned (.tuple #[.agg #[.int .i64 1, .int .i64 count, .int .i64 slot], .int .i64 (L.size count + 1 : Nat), .int .i64 0]) ∧ Below W.heap.size W w') := fun W hb => iat_any fr count slot W (h.below hb) hob
  obtain ⟨z, hz⟩ : ∃ z, z = L.size count + 1 := ⟨_, rfl⟩
  rw [← hz] at HAT ha hb ho ho2 ⊢
  have HCP : Hid (∀ W : World, Below w.heap.size w W → Calls Tryz.prog 135 #[.pointer (some ⟨s, 0, none⟩), .int .i64 ta, .int .i64 fr, .int .i64 z] W fun e w' => e = .returned (.int .i64 0) ∧ StF w' G s C Wd (putAt ws ta ((ws.drop fr).take z)) own ∧ Only G W w' ∧ w'.heap.size = W.heap.size) := fun W hbW => scopy_any ta fr z W (h.below hbW).st (by omega) hb ha ho2 ho
  have HENV := Lib.hid h
  clear h hob ha hb ho ho2 hz
  go_enter Tryz.func110, Tryz.ntmps110
  go_wp2_with fail
  refine (HAT.out w (Below.refl _ w)).mono ?_
  rintro e w1 ⟨rfl, hb1⟩
  have HB1 := Lib.hid hb1
  have hm := (cells_of_block (HENV.out.below hb1).im 0).1
  have hml := (Array.getElem?_eq_some_iff.1 (HENV.out.below hb1).im).1
  simp at hm
  clear hb1
  go_wp2_with fail
  refine (HCP.out _ (HB1.out.alloc HB1.out.size _)).mono ?_
  rintro e w2 ⟨rfl, hst, hon, hsz⟩
  have HST := Lib.hid hst
  have HO : Hid (Only G w w2) := (Only.of_below (HB1.out.alloc HB1.out.size _) G).trans hon (fun k hk => Or.inl hk)
  clear hst hon hsz
  go_wp2_with fail
  go_ret2
  exact ⟨rfl, HST.out, HO.out⟩
set_option maxRecDepth 100000 in
set_option maxHeartbeats 1000000 in
theorem iword_any (addr count slot p : Nat) (ref : Bool) (w : World) (h : ImgEnv w G H m s b C Wd L ws own) (hob : ObjAt C Wd L ws own addr count slot) (hp : p < L.size count) (href : isRefN L p = ref) (hbig : addr ≤ 1048576) : Calls Tryz.prog 139 #[.pointer (some ⟨m, 0, none⟩), .int .i64 addr, .int .i64 p, .bool ref] w fun e w' => e = .returned (.tuple #[.int .i64 (addr + 1 + p : Nat), .int .i64 0]) ∧ Below w.heap.size w w' := by
  have HF := Lib.hid (ifind_any addr count slot w h hob)
  have hsz := hob.size
  have HIS : Hid (∀ (v : Value) (W : World), LayAt W v L → Calls Tryz.prog 182 #[v, .int .i64 count, .int .i64 p] W fun e w' => e = .returned (.tuple #[.bool ref, .int .i64 0]) ∧ Below W.heap.size W w') := fun v W hv => by
    have := lisref_any count p W hv h.right hob.cnt hob.fit hob.size hp
    rw [href] at this
    exact this
  obtain ⟨z, hz⟩ : ∃ z, z = L.size count := ⟨_, rfl⟩
  rw [← hz] at HF hsz hp
  clear h hob href hz
  go_enter Tryz.func139, Tryz.ntmps139
  go_wp2_with fail
  refine HF.out.mono ?_
  rintro e w1 ⟨v, rfl, hlay, hb1⟩
  have HB1 := Lib.hid hb1
  have HLAY := Lib.hid hlay
  obtain ⟨a1, c1, a2, c2, rfl, hsA, hsB⟩ := hlay
  obtain ⟨fx, hfx⟩ : ∃ fx, fx = L.fixed := ⟨_, rfl⟩
  obtain ⟨rx, hrx⟩ : ∃ rx, rx = L.record := ⟨_, rfl⟩
  obtain ⟨n1, hn1⟩ : ∃ n1, n1 = L.refs.length := ⟨_, rfl⟩
  obtain ⟨n2, hn2⟩ : ∃ n2, n2 = L.recs.length := ⟨_, rfl⟩
  rw [← hfx, ← hrx, ← hn1, ← hn2] at HLAY ⊢
  have HB3 : Hid (∀ u u', Below w.heap.size w ((w1.alloc u).alloc u')) := fun u u' => (HB1.out.alloc HB1.out.size u).alloc (by have := HB1.out.size; simp; omega) u'
  have HL3 : Hid (∀ u u', LayAt ((w1.alloc u).alloc u') (.agg #[.int .i64 fx, .slice a1 n1 c1, .int .i64 rx, .slice a2 n2 c2]) L) := fun u u' => HLAY.out.kept (((Below.refl _ w1).alloc (Nat.le_refl _) u).alloc (by simp) u')
  clear hb1 hsA hsB hfx hrx hn1 hn2
  go_wp2_with fail
  refine (HIS.out _ _ (HL3.out _ _)).mono ?_
  rintro e w2 ⟨rfl, hb2⟩
  have HB4 : Hid (Below w.heap.size w w2) := (HB3.out _ _).trans (hb2.mono (HB3.out _ _).size)
  clear hb2
  have hk1 : (addr : Int) + 1 + (p : Int) = (addr : Int) + 1 + (p : Int) := rfl
  cases ref
  all_goals
    go_wp2_with fail
    go_ret2
    exact ⟨rfl, HB4.out⟩
end Go.Proofs.YtcdpnfchmpncjaaGreatDoor

namespace Go.Proofs.YtcdpnfchmpncjaaGreatDoor
open Go.RowKit Go.Tr Go.Shelf
variable {w w' : World} {G H : Nat → Prop} {m s b C Wd : Nat} {L : Lay} {ws own : List Nat}
set_option maxRecDepth 100000 in
set_option maxHeartbeats 1000000 in
theorem iread_any (addr count slot p : Nat) (w : World) (h : ImgEnv w G H m s b C Wd L ws own) (hob : ObjAt C Wd L ws own addr count slot) (hp : p < L.size count) (href : isRefN L p = false) (hbig : addr ≤ 1048576) (hlt : addr + 1 + p < C * Wd) (ho : own.getD ((addr + 1 + p) / Wd) 0 ≠ 0) : Calls Tryz.prog 145 #[.pointer (some ⟨m, 0, none⟩), .int .i64 addr, .int .i64 p, .bool false, .func (.func 143) #[] #[]] w fun e w' => e = .returned (.tuple #[.int .u64 (ws.getD (addr + 1 + p) 0 : Nat), .int .i64 0]) ∧ Below w.heap.size w w' := by
  have HW := Lib.hid (iword_any addr count slot p false w h hob hp href hbig)
  have HRD : Hid (∀ W : World, Below w.heap.size w W → Calls Tryz.prog 143 #[.pointer (some ⟨s, 0, none⟩), .int .i64 (addr + 1 + p : Nat)] W fun e w' => e = .returned (.tuple #[.int .u64 (ws.getD (addr + 1 + p) 0 : Nat), .int .i64 0]) ∧ W = w') := fun W hb => sread_any (addr + 1 + p) W (h.below hb).st hlt ho
  have HENV := Lib.hid h
  obtain ⟨ad, hat⟩ : ∃ ad, ad = addr + 1 + p := ⟨_, rfl⟩
  rw [← hat] at HW HRD ⊢
  obtain ⟨x, hx⟩ : ∃ x, x = ws.getD ad 0 := ⟨_, rfl⟩
  rw [← hx] at HRD ⊢
  clear h hob hat hx hlt ho
  go_enter Tryz.func145, Tryz.ntmps145
  go_wp2_with fail
  refine HW.out.mono ?_
  rintro e w1 ⟨rfl, hb1⟩
  have HB1 := Lib.hid hb1
  have hm := (cells_of_block (HENV.out.below hb1).im 0).1
  simp at hm
  clear hb1
  go_wp2_with fail
  refine (HRD.out w1 HB1.out).mono ?_
  rintro e w' ⟨rfl, rfl⟩
  go_wp2_with fail
  go_ret2
  exact ⟨rfl, HB1.out⟩
set_option maxRecDepth 100000 in
theorem iload_any (addr count slot p : Nat) (w : World) (h : ImgEnv w G H m s b C Wd L ws own) (hob : ObjAt C Wd L ws own addr count slot) (hp : p < L.size count) (href : isRefN L p = false) (hbig : addr ≤ 1048576) (hlt : addr + 1 + p < C * Wd) (ho : own.getD ((addr + 1 + p) / Wd) 0 ≠ 0) : Calls Tryz.prog 103 #[.pointer (some ⟨m, 0, none⟩), .int .i64 addr, .int .i64 p] w fun e w' => e = .returned (.tuple #[.int .u64 (ws.getD (addr + 1 + p) 0 : Nat), .int .i64 0]) ∧ Below w.heap.size w w' := by
  have HR := Lib.hid (iread_any addr count slot p w h hob hp href hbig hlt ho)
  obtain ⟨x, hx⟩ : ∃ x, x = ws.getD (addr + 1 + p) 0 := ⟨_, rfl⟩
  rw [← hx] at HR ⊢
  clear h hob hlt ho hx
  go_enter Tryz.func103, Tryz.ntmps103
  go_wp2_with fail
  refine HR.out.mono ?_
  rintro e w1 ⟨rfl, hb1⟩
  have HB1 := Lib.hid hb1
  clear hb1
  go_wp2_with fail
  go_ret2
  exact ⟨rfl, HB1.out⟩
set_option maxRecDepth 100000 in
set_option maxHeartbeats 1000000 in
theorem isave_any (addr count slot p x : Nat) (w : World) (h : ImgEnv w G H m s b C Wd L ws own) (hob : ObjAt C Wd L ws own addr count slot) (hp : p < L.size count) (href : isRefN L p = false) (hbig : addr ≤ 1048576) (hx : x < 18446744073709551616) (hlt : addr + 1 + p < C * Wd) (ho : own.getD ((addr + 1 + p) / Wd) 0 ≠ 0) : Calls Tryz.prog 99 #[.pointer (some ⟨m, 0, none⟩), .int .i64 addr, .int .i64 p, .int .u64 x] w fun e w' => e = .returned (.int .i64 0) ∧ StF w' G s C Wd (ws.set (addr + 1 + p) x) own ∧ Only G w w' := by
  have HW := Lib.hid (iword_any addr count slot p false w h hob hp href hbig)
  have HRD : Hid (∀ W : World, Below w.heap.size w W → Calls Tryz.prog 136 #[.pointer (some ⟨s, 0, none⟩), .int .i64 (addr + 1 + p : Nat), .int .u64 x] W fun e w' => e = .returned (.int .i64 0) ∧ StF w' G s C Wd (ws.set (addr + 1 + p) x) own ∧ Only G W w' ∧ w'.heap.size = W.heap.size) := fun W hb => swrite_any (addr + 1 + p) x W (h.below hb).st hx hlt ho
  have HENV := Lib.hid h
  obtain ⟨ad, hat⟩ : ∃ ad, ad = addr + 1 + p := ⟨_, rfl⟩
  rw [← hat] at HW HRD ⊢
  clear h hob hat hlt ho hx
  go_enter Tryz.func99, Tryz.ntmps99
  go_wp2_with fail
  refine HW.out.mono ?_
  rintro e w1 ⟨rfl, hb1⟩
  have HB1 := Lib.hid hb1
  have hm := (cells_of_block (HENV.out.below hb1).im 0).1
  simp at hm
  clear hb1
  go_wp2_with fail
  refine (HRD.out w1 HB1.out).mono ?_
  rintro e w2 ⟨rfl, hst, hon, hsz⟩
  have HST := Lib.hid hst
  have HO : Hid (Only G w w2) := (Only.of_below HB1.out G).trans hon (fun k hk => Or.inl hk)
  clear hst hon hsz
  go_wp2_with fail
  go_ret
  exact ⟨rfl, HST.out, HO.out⟩
end Go.Proofs.YtcdpnfchmpncjaaGreatDoor

namespace Go.Proofs.YtcdpnfchmpncjaaGreatDoor
open Go.RowKit Go.Tr Go.Shelf
variable {w w' : World} {G H : Nat → Prop} {m s b C Wd : Nat} {L : Lay} {ws own : List Nat}
def _root_.Go.Tr.lkN : Option (Nat × Nat) → Nat
  | none => 0
  | some p => linkN p.1 p.2
def _root_.Go.Tr.lkV : Option (Nat × Nat) → Value
  | none => linkV 0 0 0
  | some p => linkV 2 p.1 p.2
def LkOk (o : Option (Nat × Nat)) : Prop := ∀ i g, o = some (i, g) → i < 4096 ∧ 1 ≤ g ∧ g ≤ 255
theorem lkV_is (o : Option (Nat × Nat)) : ∃ k i g : Nat, lkV o = .agg #[.int .i64 k, .int .i64 i, .int .i64 g] := by
  cases o with
  | none => exact ⟨0, 0, 0, rfl⟩
  | some p => exact ⟨2, p.1, p.2, rfl⟩
theorem hlk_any (o : Option (Nat × Nat)) (w : World) (h : LkOk o) : Calls Tryz.prog 144 #[.int .u64 (lkN o : Nat)] w fun e w' => e = .returned (.tuple #[lkV o, .int .i64 0]) ∧ Below w.heap.size w w' := by
  cases o with
  | none => exact hlink0_any w
  | some p => obtain ⟨i, g⟩ := p; obtain ⟨h1, h2, h3⟩ := h i g rfl; exact hlink_any i g w h1 h2 h3
set_option maxRecDepth 100000 in
set_option maxHeartbeats 1000000 in
theorem ilink_any (at' : Nat) (o : Option (Nat × Nat)) (w : World) (h : StF w G s C Wd ws own) (hl : LkOk o) (hat : at' < C * Wd) (ho : own.getD (at' / Wd) 0 ≠ 0) (hw : ws.getD at' 0 = lkN o) : Calls Tryz.prog 101 #[.pointer (some ⟨s, 0, none⟩), .int .i64 at'] w fun e w' => e = .returned (.tuple #[lkV o, .int .i64 0]) ∧ Below w.heap.size w w' := by
  have HRD : Hid (∀ W : World, Below w.heap.size w W → Calls Tryz.prog 143 #[.pointer (some ⟨s, 0, none⟩), .int .i64 at'] W fun e w' => e = .returned (.tuple #[.int .u64 (lkN o : Nat), .int .i64 0]) ∧ W = w') := fun W hb => by
    have := sread_any at' W (h.kept (fun k _ hl => hb.block k hl)) hat ho
    rw [hw] at this
    exact this
  have HLK := Lib.hid (hlk_any o · hl)
  obtain ⟨k, i, g, hv⟩ := lkV_is o
  rw [hv] at HLK ⊢
  obtain ⟨WN, hWN⟩ : ∃ WN, WN = lkN o := ⟨_, rfl⟩
  rw [← hWN] at HRD HLK
  have HBA : Hid (Below w.heap.size w (w.alloc (.cells #[.int .i64 0, .int .i64 0, .int .i64 0] 69))) := (Below.refl _ w).alloc (Nat.le_refl _) _
  obtain ⟨rh, hrh⟩ : ∃ rh, rh = w.heap.size := ⟨_, rfl⟩
  have HRH : Hid ((w.alloc (.cells #[.int .i64 0, .int .i64 0, .int .i64 0] 69)).heap[rh]? = some (.cells #[.int .i64 0, .int .i64 0, .int .i64 0] 69 (0, 0))) := by rw [hrh]; exact heap_alloc_new w _
  have HRE : Hid (w.heap.size ≤ rh) := Nat.le_of_eq hrh.symm
  clear h hl hat ho hw hv hWN
  go_enter Tryz.func101, Tryz.ntmps101
  go_wp2_with fail
  rw [← hrh]
  clear hrh
  generalize w.alloc (.cells #[.int .i64 0, .int .i64 0, .int .i64 0] 69) = wa at *
  refine (HRD.out wa HBA.out).mono ?_
  rintro e w' ⟨rfl, rfl⟩
  go_wp2_with fail
  refine (HLK.out wa).mono ?_
  rintro e w1 ⟨rfl, hb1⟩
  have HB1 : Hid (Below w.heap.size w w1) := HBA.out.trans (hb1.mono HBA.out.size)
  have HH1 := Lib.hid ((hb1.block rh (Array.getElem?_eq_some_iff.1 HRH.out).1).trans HRH.out)
  clear hb1
  have r0 := cells_of_block HH1.out 0
  have r1 := cells_of_block HH1.out 1
  have r2 := cells_of_block HH1.out 2
  simp at r0 r1 r2
  obtain ⟨r0, g0⟩ := r0
  obtain ⟨r1, g1⟩ := r1
  obtain ⟨r2, g2⟩ := r2
  go_wp2_with fail
  try simp only [Exit.inBlock, Exit.then]
  have hbk : ((w1.setCell ⟨rh, 0, none⟩ (.int .i64 k)).setCell ⟨rh, 1, none⟩ (.int .i64 i)).setCell ⟨rh, 2, none⟩ (.int .i64 g) |>.heap[rh]? = some (.cells #[.int .i64 k, .int .i64 i, .int .i64 g] 69 (0, 0)) := by
    simpa using block_setCell (block_setCell (block_setCell HH1.out 0 (.int .i64 k)) 1 (.int .i64 i)) 2 (.int .i64 g)
  have e := HRE.out
  exact bodyPost_ret (results_blk rfl _ _ rh _ _ _ _ rfl hbk Tryz.underlying69 rfl rfl) rfl ⟨rfl, ((HB1.out.setCell e _).setCell e _).setCell e _⟩
end Go.Proofs.YtcdpnfchmpncjaaGreatDoor

namespace Go.Proofs.YtcdpnfchmpncjaaGreatDoor
open Go.RowKit Go.Tr Go.Shelf
variable {w w' : World} {G H : Nat → Prop} {m s b C Wd : Nat} {L : Lay} {ws own : List Nat}
set_option maxRecDepth 100000 in
set_option maxHeartbeats 1000000 in
theorem ireadl_any (addr count slot p : Nat) (o : Option (Nat × Nat)) (w : World) (h : ImgEnv w G H m s b C Wd L ws own) (hob : ObjAt C Wd L ws own addr count slot) (hp : p < L.size count) (href : isRefN L p = true) (hbig : addr ≤ 1048576) (hlt : addr + 1 + p < C * Wd) (ho : own.getD ((addr + 1 + p) / Wd) 0 ≠ 0) (hl : LkOk o) (hw : ws.getD (addr + 1 + p) 0 = lkN o) : Calls Tryz.prog 100 #[.pointer (some ⟨m, 0, none⟩), .int .i64 addr, .int .i64 p, .bool true, .func (.func 101) #[] #[]] w fun e w' => e = .returned (.tuple #[lkV o, .int .i64 0]) ∧ Below w.heap.size w w' := by
  have HW : Hid (∀ W : World, Below w.heap.size w W → Calls Tryz.prog 139 #[.pointer (some ⟨m, 0, none⟩), .int .i64 addr, .int .i64 p, .bool true] W fun e w' => e = .returned (.tuple #[.int .i64 (addr + 1 + p : Nat), .int .i64 0]) ∧ Below W.heap.size W w') := fun W hb => iword_any addr count slot p true W (h.below hb) hob hp href hbig
  have HRD : Hid (∀ W : World, Below w.heap.size w W → Calls Tryz.prog 101 #[.pointer (some ⟨s, 0, none⟩), .int .i64 (addr + 1 + p : Nat)] W fun e w' => e = .returned (.tuple #[lkV o, .int .i64 0]) ∧ Below W.heap.size W w') := fun W hb => ilink_any (addr + 1 + p) o W (h.below hb).st hl hlt ho hw
  have HENV := Lib.hid h
  obtain ⟨k, i, g, hv⟩ := lkV_is o
  rw [hv] at HRD ⊢
  obtain ⟨ad, hat⟩ : ∃ ad, ad = addr + 1 + p := ⟨_, rfl⟩
  rw [← hat] at HW HRD
  have HBA : Hid (Below w.heap.size w ((w.alloc (.cells #[.int .i64 0, .int .i64 0, .int .i64 0] 69)).alloc (.cells #[.int .i64 0, .int .i64 0, .int .i64 0] 69))) := ((Below.refl _ w).alloc (Nat.le_refl _) _).alloc (by simp) _
  obtain ⟨rh, hrh⟩ : ∃ rh, rh = w.heap.size := ⟨_, rfl⟩
  have HRH : Hid (((w.alloc (.cells #[.int .i64 0, .int .i64 0, .int .i64 0] 69)).alloc (.cells #[.int .i64 0, .int .i64 0, .int .i64 0] 69)).heap[rh]? = some (.cells #[.int .i64 0, .int .i64 0, .int .i64 0] 69 (0, 0))) := by rw [hrh]; exact (Below.heap_alloc _ _ _ (by simp)).trans (heap_alloc_new w _)
  have HRE : Hid (w.heap.size ≤ rh) := Nat.le_of_eq hrh.symm
  clear h hob hat hlt ho hl hw hv
  go_enter Tryz.func100, Tryz.ntmps100
  go_wp2_with fail
  rw [← hrh]
  clear hrh
  generalize (w.alloc (.cells #[.int .i64 0, .int .i64 0, .int .i64 0] 69)).alloc (.cells #[.int .i64 0, .int .i64 0, .int .i64 0] 69) = wa at *
  refine (HW.out wa HBA.out).mono ?_
  rintro e w1 ⟨rfl, hb1⟩
  have HB1 : Hid (Below w.heap.size w w1) := HBA.out.trans (hb1.mono HBA.out.size)
  have HH1 := Lib.hid ((hb1.block rh (Array.getElem?_eq_some_iff.1 HRH.out).1).trans HRH.out)
  have hm := (cells_of_block (HENV.out.below HB1.out).im 0).1
  simp at hm
  clear hb1
  go_wp2_with fail
  refine (HRD.out w1 HB1.out).mono ?_
  rintro e w2 ⟨rfl, hb2⟩
  have HB2 : Hid (Below w.heap.size w w2) := HB1.out.trans (hb2.mono HB1.out.size)
  have HH2 := Lib.hid ((hb2.block rh (Array.getElem?_eq_some_iff.1 HH1.out).1).trans HH1.out)
  clear hb2 hm
  have hrl : rh < w2.heap.size := (Array.getElem?_eq_some_iff.1 HH2.out).1
  have r0 := cells_of_block HH2.out 0
  have r1 := cells_of_block HH2.out 1
  have r2 := cells_of_block HH2.out 2
  simp at r0 r1 r2
  obtain ⟨r0, g0⟩ := r0
  obtain ⟨r1, g1⟩ := r1
  obtain ⟨r2, g2⟩ := r2
  go_wp2_with fail
  try simp only [Exit.inBlock, Exit.then]
  have hbk : ((w2.setCell ⟨rh, 0, none⟩ (.int .i64 k)).setCell ⟨rh, 1, none⟩ (.int .i64 i)).setCell ⟨rh, 2, none⟩ (.int .i64 g) |>.heap[rh]? = some (.cells #[.int .i64 k, .int .i64 i, .int .i64 g] 69 (0, 0)) := by
    simpa using block_setCell (block_setCell (block_setCell HH2.out 0 (.int .i64 k)) 1 (.int .i64 i)) 2 (.int .i64 g)
  have e := HRE.out
  have hb5 : Below w.heap.size w (((w2.setCell ⟨rh, 0, none⟩ (.int .i64 k)).setCell ⟨rh, 1, none⟩ (.int .i64 i)).setCell ⟨rh, 2, none⟩ (.int .i64 g)) := ((HB2.out.setCell e _).setCell e _).setCell e _
  exact bodyPost_ret (results_blk rfl _ _ rh _ _ _ _ rfl ((Below.heap_alloc _ _ _ (by simp [World.setCell]; omega)).trans hbk) Tryz.underlying69 rfl rfl) rfl ⟨rfl, hb5.alloc hb5.size _⟩
set_option maxRecDepth 100000 in
set_option maxHeartbeats 1000000 in
theorem ifollow_any (addr count slot p : Nat) (o : Option (Nat × Nat)) (w : World) (h : ImgEnv w G H m s b C Wd L ws own) (hob : ObjAt C Wd L ws own addr count slot) (hp : p < L.size count) (href : isRefN L p = true) (hbig : addr ≤ 1048576) (hlt : addr + 1 + p < C * Wd) (ho : own.getD ((addr + 1 + p) / Wd) 0 ≠ 0) (hl : LkOk o) (hw : ws.getD (addr + 1 + p) 0 = lkN o) : Calls Tryz.prog 51 #[.pointer (some ⟨m, 0, none⟩), .int .i64 addr, .int .i64 p] w fun e w' => e = .returned (.tuple #[lkV o, .int .i64 0]) ∧ Below w.heap.size w w' := by
  have HRD : Hid (∀ W : World, Below w.heap.size w W → Calls Tryz.prog 100 #[.pointer (some ⟨m, 0, none⟩), .int .i64 addr, .int .i64 p, .bool true, .func (.func 101) #[] #[]] W fun e w' => e = .returned (.tuple #[lkV o, .int .i64 0]) ∧ Below W.heap.size W w') := fun W hb => ireadl_any addr count slot p o W (h.below hb) hob hp href hbig hlt ho hl hw
  obtain ⟨k, i, g, hv⟩ := lkV_is o
  rw [hv] at HRD ⊢
  have HBA : Hid (Below w.heap.size w (w.alloc (.cells #[.int .i64 0, .int .i64 0, .int .i64 0] 69))) := (Below.refl _ w).alloc (Nat.le_refl _) _
  obtain ⟨rh, hrh⟩ : ∃ rh, rh = w.heap.size := ⟨_, rfl⟩
  have HRH : Hid ((w.alloc (.cells #[.int .i64 0, .int .i64 0, .int .i64 0] 69)).heap[rh]? = some (.cells #[.int .i64 0, .int .i64 0, .int .i64 0] 69 (0, 0))) := by rw [hrh]; exact heap_alloc_new w _
  have HRE : Hid (w.heap.size ≤ rh) := Nat.le_of_eq hrh.symm
  clear h hob hlt ho hl hw hv
  go_enter Tryz.func51, Tryz.ntmps51
  go_wp2_with fail
  rw [← hrh]
  clear hrh
  generalize w.alloc (.cells #[.int .i64 0, .int .i64 0, .int .i64 0] 69) = wa at *
  refine (HRD.out wa HBA.out).mono ?_
  rintro e w1 ⟨rfl, hb1⟩
  have HB1 : Hid (Below w.heap.size w w1) := HBA.out.trans (hb1.mono HBA.out.size)
  have HH1 := Lib.hid ((hb1.block rh (Array.getElem?_eq_some_iff.1 HRH.out).1).trans HRH.out)
  clear hb1
  have r0 := cells_of_block HH1.out 0
  have r1 := cells_of_block HH1.out 1
  have r2 := cells_of_block HH1.out 2
  simp at r0 r1 r2
  obtain ⟨r0, g0⟩ := r0
  obtain ⟨r1, g1⟩ := r1
  obtain ⟨r2, g2⟩ := r2
  go_wp2_with fail
  try simp only [Exit.inBlock, Exit.then]
  have hbk : ((w1.setCell ⟨rh, 0, none⟩ (.int .i64 k)).setCell ⟨rh, 1, none⟩ (.int .i64 i)).setCell ⟨rh, 2, none⟩ (.int .i64 g) |>.heap[rh]? = some (.cells #[.int .i64 k, .int .i64 i, .int .i64 g] 69 (0, 0)) := by
    simpa using block_setCell (block_setCell (block_setCell HH1.out 0 (.int .i64 k)) 1 (.int .i64 i)) 2 (.int .i64 g)
  have e := HRE.out
  exact bodyPost_ret (results_blk rfl _ _ rh _ _ _ _ rfl hbk Tryz.underlying69 rfl rfl) rfl ⟨rfl, ((HB1.out.setCell e _).setCell e _).setCell e _⟩
set_option maxRecDepth 100000 in
set_option maxHeartbeats 1000000 in
theorem itie_any (addr count slot p idx gen : Nat) (w : World) (h : ImgEnv w G H m s b C Wd L ws own) (hob : ObjAt C Wd L ws own addr count slot) (hp : p < L.size count) (href : isRefN L p = true) (hbig : addr ≤ 1048576) (h1 : idx < 4096) (h2 : 1 ≤ gen) (h3 : gen ≤ 255) (hlt : addr + 1 + p < C * Wd) (ho : own.getD ((addr + 1 + p) / Wd) 0 ≠ 0) : Calls Tryz.prog 96 #[.pointer (some ⟨m, 0, none⟩), .int .i64 addr, .int .i64 p, .agg #[.int .i64 2, .int .i64 idx, .int .i64 gen]] w fun e w' => e = .returned (.int .i64 0) ∧ StF w' G s C Wd (ws.set (addr + 1 + p) (linkN idx gen)) own ∧ Only G w w' := by
  have HW : Hid (∀ W : World, Below w.heap.size w W → Calls Tryz.prog 139 #[.pointer (some ⟨m, 0, none⟩), .int .i64 addr, .int .i64 p, .bool true] W fun e w' => e = .returned (.tuple #[.int .i64 (addr + 1 + p : Nat), .int .i64 0]) ∧ Below W.heap.size W w') := fun W hb => iword_any addr count slot p true W (h.below hb) hob hp href hbig
  have HWD := Lib.hid (hword_any idx gen · h1 h2 h3)
  have hxx : linkN idx gen < 18446744073709551616 := by unfold linkN; omega
  have HRD : Hid (∀ W : World, Below w.heap.size w W → Calls Tryz.prog 136 #[.pointer (some ⟨s, 0, none⟩), .int .i64 (addr + 1 + p : Nat), .int .u64 (linkN idx gen : Nat)] W fun e w' => e = .returned (.int .i64 0) ∧ StF w' G s C Wd (ws.set (addr + 1 + p) (linkN idx gen)) own ∧ Only G W w' ∧ w'.heap.size = W.heap.size) := fun W hb => swrite_any (addr + 1 + p) (linkN idx gen) W (h.below hb).st hxx hlt ho
  have HENV := Lib.hid h
  obtain ⟨ad, hat⟩ : ∃ ad, ad = addr + 1 + p := ⟨_, rfl⟩
  rw [← hat] at HW HRD ⊢
  obtain ⟨WN, hWN⟩ : ∃ WN, WN = linkN idx gen := ⟨_, rfl⟩
  rw [← hWN] at HWD HRD ⊢
  have HBA : Hid (Below w.heap.size w (w.alloc (.cells #[.int .i64 2, .int .i64 idx, .int .i64 gen] 69))) := (Below.refl _ w).alloc (Nat.le_refl _) _
  obtain ⟨rh, hrh⟩ : ∃ rh, rh = w.heap.size := ⟨_, rfl⟩
  have HRH : Hid ((w.alloc (.cells #[.int .i64 2, .int .i64 idx, .int .i64 gen] 69)).heap[rh]? = some (.cells #[.int .i64 2, .int .i64 idx, .int .i64 gen] 69 (0, 0))) := by rw [hrh]; exact heap_alloc_new w _
  clear h hob hat hlt ho hWN hxx
  go_enter Tryz.func96, Tryz.ntmps96
  go_wp2_with fail
  rw [← hrh]
  clear hrh
  generalize w.alloc (.cells #[.int .i64 2, .int .i64 idx, .int .i64 gen] 69) = wa at *
  refine (HW.out wa HBA.out).mono ?_
  rintro e w1 ⟨rfl, hb1⟩
  have HB1 : Hid (Below w.heap.size w w1) := HBA.out.trans (hb1.mono HBA.out.size)
  have HH1 := Lib.hid ((hb1.block rh (Array.getElem?_eq_some_iff.1 HRH.out).1).trans HRH.out)
  have r0 := (cells_of_block HH1.out 0).1
  have r1 := (cells_of_block HH1.out 1).1
  have r2 := (cells_of_block HH1.out 2).1
  simp at r0 r1 r2
  clear hb1
  go_wp2_with fail
  refine (HWD.out w1).mono ?_
  rintro e w2 ⟨rfl, hb2⟩
  have HB2 : Hid (Below w.heap.size w w2) := HB1.out.trans (hb2.mono HB1.out.size)
  have hm := (cells_of_block (HENV.out.below HB2.out).im 0).1
  simp at hm
  clear hb2 r0 r1 r2
  go_wp2_with fail
  refine (HRD.out w2 HB2.out).mono ?_
  rintro e w3 ⟨rfl, hst, hon, hsz⟩
  have HST := Lib.hid hst
  have HO : Hid (Only G w w3) := (Only.of_below HB2.out G).trans hon (fun k hk => Or.inl hk)
  clear hst hon hsz
  go_wp2_with fail
  go_ret
  exact ⟨rfl, HST.out, HO.out⟩
end Go.Proofs.YtcdpnfchmpncjaaGreatDoor

namespace Go.Proofs.YtcdpnfchmpncjaaGreatDoor
open Go.RowKit Go.Tr Go.Shelf
variable {w w' : World} {G H : Nat → Prop} {m s b C Wd : Nat} {L : Lay} {ws own : List Nat}
theorem ImgEnv.kept (h : ImgEnv w G H m s b C Wd L ws own) (hk : ∀ k, G k ∨ H k ∨ k = m → k < w.heap.size → w'.heap[k]? = w.heap[k]?) : ImgEnv w' G H m s b C Wd L ws own :=
  ⟨(hk m (Or.inr (Or.inr rfl)) (Array.getElem?_eq_some_iff.1 h.im).1).trans h.im, h.st.kept (fun k hg hl => hk k (Or.inl hg) hl), h.bk.kept (fun k hg hl => hk k (Or.inr (Or.inl hg)) hl), h.right⟩
theorem _root_.Go.Tr.mod_slot {f r i q : Nat} (h : q < r) : (f + i * r + q - f) % r = q := by
  rw [show f + i * r + q - f = q + r * i by rw [Nat.mul_comm]; omega, Nat.add_mul_mod_self_left, Nat.mod_eq_of_lt h]
theorem _root_.Go.Tr.mem_slots {L : Lay} (h : RightLay L) {count p : Nat} (hp : p ∈ slotsL L count) : p < L.size count ∧ isRefN L p = true := by
  unfold slotsL at hp
  unfold isRefN Lay.size
  rcases List.mem_append.1 hp with hp | hp
  · have := h.refs.1 p hp
    exact ⟨by omega, by rw [if_pos this]; simpa using hp⟩
  · obtain ⟨i, hi, hp⟩ := List.mem_flatMap.1 hp
    obtain ⟨q, hq, rfl⟩ := List.mem_map.1 hp
    have hi := List.mem_range.1 hi
    have hqr := h.recs.1 q hq
    have hm : (i + 1) * L.record ≤ count * L.record := Nat.mul_le_mul_right _ hi
    rw [Nat.add_mul, Nat.one_mul] at hm
    refine ⟨by omega, ?_⟩
    rw [if_neg (by omega), mod_slot hqr]
    simpa using hq
def refE (x : Nat × Option (Nat × Nat)) : Array Value := #[.int .i64 (x.1 : Nat), lkV x.2]
def refsL (L : Lay) (count : Nat) (o : Nat → Option (Nat × Nat)) : List (Nat × Option (Nat × Nat)) := (slotsL L count).map (fun p => (p, o p))
structure LkEnv (C Wd : Nat) (L : Lay) (ws own : List Nat) (addr count slot : Nat) (o : Nat → Option (Nat × Nat)) : Prop where
  obj : ObjAt C Wd L ws own addr count slot
  big : addr ≤ 1048576
  fit : addr + L.size count < C * Wd
  own : Owned own Wd addr (L.size count + 1)
  lk : ∀ p ∈ slotsL L count, LkOk (o p) ∧ ws.getD (addr + 1 + p) 0 = lkN (o p)
theorem follow_of {addr count slot p : Nat} {o : Nat → Option (Nat × Nat)} (h : ImgEnv w G H m s b C Wd L ws own) (k : LkEnv C Wd L ws own addr count slot o) (hp : p ∈ slotsL L count) :
    Calls Tryz.prog 51 #[.pointer (some ⟨m, 0, none⟩), .int .i64 addr, .int .i64 p] w fun e w' => e = .returned (.tuple #[lkV (o p), .int .i64 0]) ∧ Below w.heap.size w w' := by
  obtain ⟨h1, h2⟩ := mem_slots h.right hp
  exact ifollow_any addr count slot p (o p) w h k.obj h1 h2 k.big (by have := k.fit; omega) (by have := k.own.at (i := 1 + p) (by omega); rwa [← Nat.add_assoc] at this) (k.lk p hp).1 (k.lk p hp).2
set_option maxRecDepth 100000 in
set_option maxHeartbeats 4000000 in
theorem links1 (l bm ba addr count slot : Nat) (o : Nat → Option (Nat × Nat)) (O : Nat → Prop) (J : Nat → List (Nat × Option (Nat × Nat)) → World → Prop) (W : World)
    (hbm : W.heap[bm]? = some (.cells #[.pointer (some ⟨m, 0, none⟩)] 49 (0, 0))) (hba : W.heap[ba]? = some (.cells #[.int .i64 addr] 3 (0, 0)))
    (h : ImgEnv W G H m s b C Wd L ws own) (hk : LkEnv C Wd L ws own addr count slot o) (hO : ∀ k, G k ∨ H k ∨ k = m ∨ k = bm ∨ k = ba → ¬ O k) (hOs : ∀ k, O k → k < W.heap.size)
    (hJ : ∀ N pre A B, J N pre A → StepN W.heap.size N A B → J N pre B)
    (hY : ∀ N pre x W1, N ≤ W1.heap.size → J N pre W1 → pre ++ [x] <+: refsL L count o → YieldAt Fence.wide 1 Tryz.prog l (refE x) W1 fun e W' => e = .returned (.bool true) ∧ J N (pre ++ [x]) W' ∧ KeepN O N W1 W')
    (h0 : ∀ N, J N [] W) :
    CallsIn Fence.wide 2 Tryz.prog 193 (#[.func (.yield l) #[] #[]] ++ #[.pointer (some ⟨bm, 0, none⟩), .pointer (some ⟨ba, 0, none⟩)]) W fun e W' => (∃ v, e = .returned v) ∧ ∃ N, J N (refsL L count o) W' := by
  have HF : Hid (∀ W1, Below W.heap.size W W1 → CallsIn Fence.wide 1 Tryz.prog 116 #[.pointer (some ⟨m, 0, none⟩), .int .i64 addr] W1 fun e w' => ∃ v, e = .returned (.tuple #[.agg #[.int .i64 1, .int .i64 count, .int .i64 slot], v, .int .i64 (L.size count : Nat), .int .i64 0]) ∧ LayF w' v L (fun k => W1.heap.size ≤ k ∧ k < w'.heap.size) ∧ Below W1.heap.size W1 w') := fun W1 hb => callsIn_wide.2 (ifindF_any addr count slot W1 (h.below hb) hk.obj)
  have HENV := Lib.hid h
  have HLK := Lib.hid hk
  have HO := Lib.hid hO
  have HOS := Lib.hid hOs
  have HJ := Lib.hid hJ
  have HY := Lib.hid hY
  have H0 := Lib.hid h0
  have HBM := Lib.hid hbm
  have HBA := Lib.hid hba
  have hb1 : Below W.heap.size W (W.alloc (.cells #[.func (.yield l) #[] #[]] 270)) := (Below.refl _ W).alloc (Nat.le_refl _) _
  have HB1 := Lib.hid hb1
  have m0 := (cells_of_block ((hb1.block bm (Array.getElem?_eq_some_iff.1 hbm).1).trans hbm) 0).1
  have a0 := (cells_of_block ((hb1.block ba (Array.getElem?_eq_some_iff.1 hba).1).trans hba) 0).1
  simp at m0 a0
  obtain ⟨bf, hbf⟩ : ∃ bf, bf = W.heap.size := ⟨_, rfl⟩
  have HBF : Hid ((W.alloc (.cells #[.func (.yield l) #[] #[]] 270)).heap[bf]? = some (.cells #[.func (.yield l) #[] #[]] 270 (0, 0))) := by rw [hbf]; exact heap_alloc_new W _
  have HBE := Lib.hid hbf
  obtain ⟨sz, hsz⟩ : ∃ sz, sz = L.size count := ⟨_, rfl⟩
  rw [← hsz] at HF
  clear h hk hO hOs hJ hY h0 hbm hba hb1 hsz
  refine callsIn_of_wp_marks Tryz.func193 rfl trivial ?_ rfl
  simp only [Tryz.ntmps193, List.size_toArray, List.length_cons, List.length_nil, Nat.reduceAdd, Nat.reduceSub, Array.replicate_succ, Array.replicate_zero, List.push_toArray, List.append_toArray, List.nil_append, List.cons_append]
  gi_wp2_with fail
  rw [← hbf]
  clear hbf
  generalize W.alloc (.cells #[.func (.yield l) #[] #[]] 270) = wa at *
  refine ⟨trivial, (HF.out wa HB1.out).mono ?_⟩
  rintro e w2 ⟨v, rfl, hlay, hb2⟩
  obtain ⟨a1, c1, a2, c2, rfl, hsA, hsB, hgA, hgB⟩ := hlay
  have HB2 : Hid (Below W.heap.size W w2) := HB1.out.trans (hb2.mono HB1.out.size)
  have HBF2 := Lib.hid ((hb2.block bf (Array.getElem?_eq_some_iff.1 HBF.out).1).trans HBF.out)
  have HSA := Lib.hid hsA
  have HSB := Lib.hid hsB
  have HGA : Hid (∀ q o, a1 = some ⟨q, o, none⟩ → W.heap.size ≤ q ∧ q < w2.heap.size) := fun q o e => by have := hgA q o e; have := HB1.out.size; omega
  have HGB : Hid (∀ q o, a2 = some ⟨q, o, none⟩ → W.heap.size ≤ q ∧ q < w2.heap.size) := fun q o e => by have := hgB q o e; have := HB1.out.size; omega
  obtain ⟨fx, hfx⟩ : ∃ fx, fx = L.fixed := ⟨_, rfl⟩
  obtain ⟨rx, hrx⟩ : ∃ rx, rx = L.record := ⟨_, rfl⟩
  obtain ⟨n1, hn1⟩ : ∃ n1, n1 = L.refs.length := ⟨_, rfl⟩
  obtain ⟨n2, hn2⟩ : ∃ n2, n2 = L.recs.length := ⟨_, rfl⟩
  have HFX : Hid (fx = L.fixed ∧ rx = L.record ∧ n1 = L.refs.length ∧ n2 = L.recs.length) := ⟨hfx, hrx, hn1, hn2⟩
  rw [← hfx, ← hrx, ← hn1, ← hn2]
  clear hb2 hsA hsB hgA hgB hfx hrx hn1 hn2 m0 a0
  gi_wp2_with fail
  obtain ⟨w3, hw3⟩ : ∃ w3, w3 = (w2.alloc (.cells #[.int .i64 1, .int .i64 count, .int .i64 slot] 128)).alloc (.cells #[.int .i64 fx, .slice a1 n1 c1, .int .i64 rx, .slice a2 n2 c2] 60) := ⟨_, rfl⟩
  have hb23 : Below w2.heap.size w2 w3 := by rw [hw3]; exact ((Below.refl _ w2).alloc (Nat.le_refl _) _).alloc (by simp) _
  rw [← hw3]
  refine ⟨trivial, (callsIn_wide.2 (lslots_any count _ _ _ _ w3)).mono ?_⟩
  rintro e w4 ⟨bl, bc, rfl, hbl, hbc, hbl1, hbc1, hb34⟩
  have hb24 : Below w2.heap.size w2 w4 := hb23.trans (hb34.mono hb23.size)
  have HB4 : Hid (Below W.heap.size W w4) := HB2.out.trans (hb24.mono HB2.out.size)
  have HBF4 := Lib.hid ((hb24.block bf (Array.getElem?_eq_some_iff.1 HBF2.out).1).trans HBF2.out)
  obtain ⟨T, hT⟩ : ∃ T : Nat → Prop, T = fun k => k = bl ∨ k = bc ∨ (∃ o, a1 = some ⟨k, o, none⟩) ∨ ∃ o, a2 = some ⟨k, o, none⟩ := ⟨_, rfl⟩
  have HTW : Hid (∀ k, T k → W.heap.size ≤ k ∧ k < w4.heap.size) := by
    intro k hk
    rw [hT] at hk
    have h1 := HB2.out.size
    have h2 := hb23.size
    have h3 := hb24.size
    rcases hk with rfl | rfl | ⟨o, ho⟩ | ⟨o, ho⟩
    · have := (Array.getElem?_eq_some_iff.1 hbl).1; omega
    · have := (Array.getElem?_eq_some_iff.1 hbc).1; omega
    · have := HGA.out k o ho; omega
    · have := HGB.out k o ho; omega
  have HSEQ : Hid (SeqAll (fun _ A B => Below A.heap.size A B) (KeepT T) Tryz.prog 207 #[.pointer (some ⟨bl, 0, none⟩), .pointer (some ⟨bc, 0, none⟩)] (fun x : Nat => #[.int .i64 (x : Nat)]) (slotsL L count) w4) :=
    slots_seq bl bc count L a1 a2 c1 c2 w4 (by rw [← HFX.out.1, ← HFX.out.2.1, ← HFX.out.2.2.1, ← HFX.out.2.2.2]; exact hbl) hbc (HSA.out.below hb24 (Nat.le_refl _)) (HSB.out.below hb24 (Nat.le_refl _)) (fun q o e => by rw [hT]; exact Or.inr (Or.inr (Or.inl ⟨o, e⟩))) (fun q o e => by rw [hT]; exact Or.inr (Or.inr (Or.inr ⟨o, e⟩))) (by rw [hT]; exact Or.inl rfl) (by rw [hT]; exact Or.inr (Or.inl rfl)) (fun k hk => (HTW.out k hk).2) HENV.out.right HLK.out.obj.cnt HLK.out.obj.fit HLK.out.obj.size
  clear hT hbl hbc hbl1 hbc1 hb34 hb24 hb23 hw3 HSA HSB HGA HGB HFX HBF2 HB2 HB1 HBF HF
  gi_wp2_with fail
  refine range_all (m := 0) (gf := 207) (lb := #[.pointer (some ⟨bl, 0, none⟩), .pointer (some ⟨bc, 0, none⟩)]) rfl (enters_of Tryz.func207 (by kernel_rfl) rfl) HSEQ.out (Below.refl _ _) (fun _ => rfl) (fun h k => KeepT.trans h k) ?hkb
    (fun pre W' => J (w4.heap.size + 2) (pre.map fun p => (p, o p)) W' ∧ KeepN O w4.heap.size w4 W' ∧ w4.heap.size + 2 ≤ W'.heap.size) ?hib ?hst ?hsk ?h0 ?round ?done
  case hkb => exact fun W r r' _ => ⟨by simp, fun k hk => World.putObj_heap_other (by have := (HTW.out k hk).2; omega)⟩
  case hib => exact fun pre W' r r' hI _ => ⟨HJ.out _ _ _ _ hI.1 (StepN.putObj W' _ (by have := HB4.out.size; omega) (by omega)), hI.2.1.trans ⟨by simp, fun k hk _ => World.putObj_heap_other (by omega)⟩, by simpa using hI.2.2⟩
  case hst => exact fun pre A B hI hb => ⟨HJ.out _ _ _ _ hI.1 (StepN.of_below hb), hI.2.1.trans (KeepN.below hb hI.2.1.1), Nat.le_trans hI.2.2 hb.size⟩
  case hsk => exact fun A B k hb _ hk => hb.block k hk
  case h0 =>
    intro r
    have hb : Below w4.heap.size w4 ((w4.alloc (.deferred (some []))).alloc (.loop r)) := ((Below.refl _ w4).alloc (Nat.le_refl _) _).alloc (by simp) _
    exact ⟨HJ.out _ _ _ _ (H0.out _) (StepN.of_below (HB4.out.trans (hb.mono HB4.out.size))), KeepN.below hb (Nat.le_refl _), by simp⟩
  case round =>
    intro pre x W1 hI hpre hlt
    have HI := Lib.hid hI
    have HPRE := Lib.hid hpre
    clear hI hpre
    have hsem := @Oper.semAt_some
    gi_wp2_with fail
    refine ⟨trivial, trivial, ⟨Nat.le_refl _, fun _ _ => rfl⟩, fun r hkr => ?_⟩
    have hJ2 : J (w4.heap.size + 2) (pre.map fun p => (p, o p)) (W1.putObj (w4.heap.size + 1) (.loop r)) := HJ.out _ _ _ _ HI.out.1 (StepN.putObj W1 _ (by have := HB4.out.size; omega) (by omega))
    have hK2 : KeepN O w4.heap.size w4 (W1.putObj (w4.heap.size + 1) (.loop r)) := HI.out.2.1.trans ⟨by simp, fun k hk _ => World.putObj_heap_other (by omega)⟩
    have hz2 : w4.heap.size + 2 ≤ (W1.putObj (w4.heap.size + 1) (.loop r)).heap.size := by simpa using HI.out.2.2
    clear HI hkr hlt
    generalize W1.putObj (w4.heap.size + 1) (.loop r) = W2 at *
    have HJ2 := Lib.hid hJ2
    have HK2 := Lib.hid hK2
    have HZ2 := Lib.hid hz2
    have HKW : Hid (∀ k, ¬ O k → k < W.heap.size → W2.heap[k]? = W.heap[k]?) := fun k ho hk => (hK2.2 k (Nat.lt_of_lt_of_le hk HB4.out.size) ho).trans (HB4.out.block k hk)
    have HENV2 : Hid (ImgEnv W2 G H m s b C Wd L ws own) := HENV.out.kept (fun k hk hl => HKW.out k (HO.out k (hk.imp id (fun h => h.imp id Or.inl))) hl)
    have hmx : x ∈ slotsL L count := HPRE.out.subset (by simp)
    have HFO : Hid (CallsIn (Fence.wide.inRound (w4.heap.size + 1)) 0 Tryz.prog 51 #[.pointer (some ⟨m, 0, none⟩), .int .i64 addr, .int .i64 x] W2 fun e w' => e = .returned (.tuple #[lkV (o x), .int .i64 0]) ∧ Below W2.heap.size W2 w') := CallsIn.inRound _ (callsIn_wide.2 (follow_of HENV2.out HLK.out hmx))
    have m0 := (cells_of_block ((HKW.out bm (HO.out bm (Or.inr (Or.inr (Or.inr (Or.inl rfl))))) (Array.getElem?_eq_some_iff.1 HBM.out).1).trans HBM.out) 0).1
    have a0 := (cells_of_block ((HKW.out ba (HO.out ba (Or.inr (Or.inr (Or.inr (Or.inr rfl))))) (Array.getElem?_eq_some_iff.1 HBA.out).1).trans HBA.out) 0).1
    have hbfO : ¬ O bf := fun h => by have := HOS.out bf h; have := HBE.out; omega
    have hf2 : W2.heap[bf]? = some (.cells #[.func (.yield l) #[] #[]] 270 (0, 0)) := (hK2.2 bf (Array.getElem?_eq_some_iff.1 HBF4.out).1 hbfO).trans HBF4.out
    have HF2 := Lib.hid hf2
    simp at m0 a0
    obtain ⟨k, i, g, hv⟩ := lkV_is (o x)
    have HV := Lib.hid hv
    rw [hv] at HFO
    clear hJ2 hK2 hz2 hmx hf2 hbfO hv
    gi_wp2_with fail
    refine ⟨trivial, rfl, HFO.out.mono ?_⟩
    rintro e W3 ⟨rfl, hb3⟩
    obtain ⟨W4, hW4⟩ : ∃ W4, W4 = W3.alloc (.cells #[.int .i64 k, .int .i64 i, .int .i64 g] 69) := ⟨_, rfl⟩
    have HW4 := Lib.hid hW4
    have hb4 : Below W2.heap.size W2 W4 := by rw [hW4]; exact hb3.alloc hb3.size _
    have HB24 := Lib.hid hb4
    have f0 := (cells_of_block ((hb4.block bf (Array.getElem?_eq_some_iff.1 HF2.out).1).trans HF2.out) 0).1
    rw [hW4] at f0
    simp at f0
    have hY2 := HY.out (w4.heap.size + 2) (pre.map fun p => (p, o p)) (x, o x) W4 (Nat.le_trans HZ2.out hb4.size) (HJ.out _ _ _ _ HJ2.out (StepN.of_below hb4)) (by have := HPRE.out.map (fun p => (p, o p)); simpa [refsL] using this)
    simp only [refE, HV.out] at hY2
    rw [hW4] at hY2
    obtain ⟨fn, tmps, assign, body, hy, hR⟩ := (hY2.any (m := 0)).inRound (l' := w4.heap.size + 1)
    have HRR := Lib.hid hR
    clear hR hW4 hb4 hb3
    gi_wp2_with fail
    refine ⟨rfl, HRR.out.mono ?_⟩
    rintro e W5 ⟨rfl, hJ5, hK5⟩
    rw [← HW4.out] at hK5
    have HK45 := Lib.hid hK5
    have HJ5 := Lib.hid hJ5
    clear hJ5 hK5 HRR
    gi_wp2_with fail
    have hO : ∀ k, W.heap.size ≤ k → ¬ O k := fun k hk ho => by have := HOS.out k ho; omega
    have hz := HZ2.out
    have h4 := HB4.out.size
    have hkk : ∀ k, k < w4.heap.size + 2 → ¬ O k → W5.heap[k]? = W2.heap[k]? := fun k hk ho => (HK45.out.2 k hk ho).trans (HB24.out.block k (by omega))
    refine ⟨hkk _ (by omega) (hO _ (by omega)), hkk _ (by omega) (hO _ (by omega)), ⟨Nat.le_trans HB24.out.size HK45.out.1, fun k hk => hkk k (by have := (HTW.out k hk).2; omega) (hO k (HTW.out k hk).1)⟩, by simpa using HJ5.out, HK2.out.trans ⟨Nat.le_trans HB24.out.size HK45.out.1, fun k hk ho => hkk k (by omega) ho⟩, Nat.le_trans hz (Nat.le_trans HB24.out.size HK45.out.1)⟩
  case done =>
    intro W1 hI hD
    gi_wp2_with fail
    refine ⟨by simp, .inl ⟨_, _, rfl, run_takeDeferred hD, ?_⟩⟩
    exact ⟨_, results_none rfl _ _ _, ⟨_, rfl⟩, w4.heap.size + 2, HJ.out _ _ _ _ hI.1 (StepN.putObj W1 _ HB4.out.size (by omega))⟩
theorem links_seq {bm ba addr count slot : Nat} {o : Nat → Option (Nat × Nat)} {O : Nat → Prop} (hbm : w.heap[bm]? = some (.cells #[.pointer (some ⟨m, 0, none⟩)] 49 (0, 0))) (hba : w.heap[ba]? = some (.cells #[.int .i64 addr] 3 (0, 0)))
    (h : ImgEnv w G H m s b C Wd L ws own) (hk : LkEnv C Wd L ws own addr count slot o) (hO : ∀ k, G k ∨ H k ∨ k = m ∨ k = bm ∨ k = ba → ¬ O k) (hOs : ∀ k, O k → k < w.heap.size + 2) :
    SeqAllN StepN (KeepN O) Tryz.prog 193 #[.pointer (some ⟨bm, 0, none⟩), .pointer (some ⟨ba, 0, none⟩)] refE (refsL L count o) w :=
  fun l J W hW hz hSt hY h0 => links1 l bm ba addr count slot o O J W (seqAt_fields hbm hW) (seqAt_fields hba hW) (h.below hW) hk hO (fun k hk => Nat.lt_of_lt_of_le (hOs k hk) hz) hSt hY h0
set_option maxRecDepth 100000 in
theorem ilinks_any (m addr : Nat) (w : World) : Calls Tryz.prog 154 #[.pointer (some ⟨m, 0, none⟩), .int .i64 addr] w fun e w' => ∃ bm ba, e = .returned (.func (.func 193) #[] #[.pointer (some ⟨bm, 0, none⟩), .pointer (some ⟨ba, 0, none⟩)]) ∧ w'.heap[bm]? = some (.cells #[.pointer (some ⟨m, 0, none⟩)] 49 (0, 0)) ∧ w'.heap[ba]? = some (.cells #[.int .i64 addr] 3 (0, 0)) ∧ w.heap.size ≤ bm ∧ w.heap.size ≤ ba ∧ Below w.heap.size w w' := by
  go_enter Tryz.func154, Tryz.ntmps154
  go_wp2
  go_ret
  refine ⟨_, _, rfl, ?_, ?_, ?_, ?_, ((Below.refl _ w).alloc (Nat.le_refl _) _).alloc (by simp) _⟩
  · exact (Below.heap_alloc _ _ _ (by simp)).trans (heap_alloc_new w _)
  · have := heap_alloc_new (w.alloc (.cells #[.pointer (some ⟨m, 0, none⟩)] 49)) (.cells #[.int .i64 addr] 3)
    rwa [World.size_alloc] at this
  · simp
  · simp
end Go.Proofs.YtcdpnfchmpncjaaGreatDoor

namespace Go.Tr
open Go.RowKit
variable {P : Program} {w : World}
theorem run_range_none {t k e : TypeId} (ht : P.underlying t = some (.map k e)) (w : World) : (Instr.range t (.map none)).run P w = .ok (.pointer (some ⟨w.heap.size, 0, none⟩)) (w.alloc (.mapIter none 0 #[] 0)) := by
  simp [Instr.range, run_underlying ht, Result.andThen]
theorem run_next_none {r a c : Nat} {sn : Array Nat} (h : w.heap[r]? = some (.mapIter none a sn c)) (ty : TypeId) : (Instr.next (.pointer (some ⟨r, 0, none⟩)) false ty).run P w = .ok (.tuple #[.bool false]) w := by
  have hg : (getObj r).run P w = .ok (.mapIter none a sn c) w := by simp [getObj, Sem.run, h]
  simp [Instr.next, hg, Result.andThen]
theorem run_look_empty {t k e : TypeId} {b c : Nat} {key z : Value} (ht : P.underlying t = some (.map k e)) (hb : w.heap[b]? = some (.map #[] c)) (hk : ∀ em, (Instr.checkKey em 10000 k key).run P w = .ok () w) (hz : ∀ w, (zeroValue e).run P w = .ok z w)
    (hf : (Instr.findKey k key []).run P w = .ok none w) (co : Bool) : (Instr.lookup t (.map (some b)) key co).run P w = .ok (if co then .tuple #[z, .bool false] else z) w := by
  cases co <;> simp [Instr.lookup, run_underlying ht, MapKept.run_getObj_map hb, hk, hf, hz, Result.andThen]
end Go.Tr
namespace Go.Proofs.YtcdpnfchmpncjaaGreatDoor
open Go.RowKit Go.Tr Go.Shelf
variable {w w' : World} {F G : Nat → Prop} {r : Nat}
theorem refKey (em : Bool) (a b : Int) (w : World) : (Instr.checkKey em 10000 227 (.agg #[.int .i64 a, .int .i64 b])).run Tryz.prog w = .ok () w := by kernel_rfl
theorem refFind (a b : Int) (w : World) : (Instr.findKey 227 (.agg #[.int .i64 a, .int .i64 b]) []).run Tryz.prog w = .ok none w := by kernel_rfl
theorem look_ref {b c : Nat} (h : w.heap[b]? = some (.map #[] c)) (x y : Int) : (Instr.lookup 185 (.map (some b)) (.agg #[.int .i64 x, .int .i64 y]) true).run Tryz.prog w = .ok (.tuple #[.int .i64 0, .bool false]) w :=
  run_look_empty Tryz.underlying185 h (fun em => refKey em x y w) Tryz.zeroValue3 (refFind x y w) true
def RemF (w : World) (F : Nat → Prop) (r : Nat) : Prop := F r ∧ ∃ m1 m2 m3 c, w.heap[r]? = some (.cells #[.map (some m1), .map (some m2), .map (some m3)] 188 (0, 0)) ∧ F m1 ∧ F m2 ∧ F m3 ∧ w.heap[m1]? = some (.map #[] c) ∧ MapI w m2 [] ∧ MapI w m3 []
theorem RemF.kept (h : RemF w F r) (hk : ∀ k, F k → k < w.heap.size → w'.heap[k]? = w.heap[k]?) : RemF w' F r := by
  obtain ⟨h0, m1, m2, m3, c, h1, f1, f2, f3, h2, h3, h4⟩ := h
  exact ⟨h0, m1, m2, m3, c, (hk r h0 (Array.getElem?_eq_some_iff.1 h1).1).trans h1, f1, f2, f3, (hk m1 f1 (Array.getElem?_eq_some_iff.1 h2).1).trans h2, h3.kept (hk m2 f2 h3.lt), h4.kept (hk m3 f3 h4.lt)⟩
set_option maxRecDepth 100000 in
theorem rnew_any (w : World) : Calls Tryz.prog 78 #[] w fun e w' => ∃ r, e = .returned (.pointer (some ⟨r, 0, none⟩)) ∧ RemF w' (fun k => w.heap.size ≤ k ∧ k < w'.heap.size) r ∧ Below w.heap.size w w' := by
  go_enter Tryz.func78, Tryz.ntmps78
  have hmm := @run_makeMap Tryz.prog
  go_wp2
  go_ret
  have h2 := MapI.made (w.alloc (.map #[] 0))
  have h3 := MapI.made ((w.alloc (.map #[] 0)).alloc (.map #[] 0))
  have h4 := heap_alloc_new (((w.alloc (.map #[] 0)).alloc (.map #[] 0)).alloc (.map #[] 0)) (.cells #[.map (some w.heap.size), .map (some (w.heap.size + 1)), .map (some (w.heap.size + 1 + 1))] 188)
  simp only [World.size_alloc] at h2 h3 h4
  have hb := ((((Below.refl _ w).alloc (Nat.le_refl _) (.map #[] 0)).alloc (by simp) (.map #[] 0)).alloc (by simp <;> omega) (.map #[] 0)).alloc (by simp <;> omega) (.cells #[.map (some w.heap.size), .map (some (w.heap.size + 1)), .map (some (w.heap.size + 1 + 1))] 188)
  refine ⟨w.heap.size + 1 + 1 + 1, rfl, ⟨⟨by omega, by simp⟩, w.heap.size, w.heap.size + 1, w.heap.size + 1 + 1, 0, h4, ⟨by omega, by simp <;> omega⟩, ⟨by omega, by simp <;> omega⟩, ⟨by omega, by simp <;> omega⟩, ?_, ?_, ?_⟩, hb⟩
  · exact (Below.heap_alloc _ _ _ (by simp <;> omega)).trans ((Below.heap_alloc _ _ _ (by simp <;> omega)).trans ((Below.heap_alloc _ _ _ (by simp)).trans (heap_alloc_new w _)))
  · exact (h2.kept (Below.heap_alloc _ _ _ (by simp))).kept (Below.heap_alloc _ _ _ (by simp <;> omega))
  · exact h3.kept (Below.heap_alloc _ _ _ (by simp))
set_option maxRecDepth 100000 in
theorem rto_any (x y : Nat) (w : World) (h : RemF w F r) : Calls Tryz.prog 185 #[.pointer (some ⟨r, 0, none⟩), .agg #[.int .i64 x, .int .i64 y]] w fun e w' => e = .returned (.tuple #[.int .i64 0, .bool false]) ∧ Below w.heap.size w w' := by
  obtain ⟨h0, m1, m2, m3, c, h1, f1, f2, f3, h2, h3, h4⟩ := h
  have hb : Below w.heap.size w (w.alloc (.cells #[.int .i64 x, .int .i64 y] 227)) := (Below.refl _ w).alloc (Nat.le_refl _) _
  have HB := Lib.hid hb
  have HM := Lib.hid ((hb.block m1 (Array.getElem?_eq_some_iff.1 h2).1).trans h2)
  have c0 := (cells_of_block ((hb.block r (Array.getElem?_eq_some_iff.1 h1).1).trans h1) 0).1
  have HX : Hid ((w.alloc (.cells #[.int .i64 x, .int .i64 y] 227)).heap[w.heap.size]? = some (.cells #[.int .i64 x, .int .i64 y] 227 (0, 0))) := heap_alloc_new w _
  obtain ⟨xb, hxb⟩ : ∃ xb, xb = w.heap.size := ⟨_, rfl⟩
  rw [← hxb] at HX
  simp at c0
  clear h1 h2 h3 h4 hb
  go_enter Tryz.func185, Tryz.ntmps185
  go_wp2_with fail
  rw [← hxb]
  have HXB := Lib.hid hxb
  clear hxb
  generalize w.alloc (.cells #[.int .i64 x, .int .i64 y] 227) = wa at *
  have d0 := (cells_of_block HX.out 0).1
  have d1 := (cells_of_block HX.out 1).1
  simp at d0 d1
  refine wp_region_held_drew (S := fun W => W.cell? ⟨r, 0, none⟩ = some (.map (some m1)) ∧ W.cell? ⟨xb, 0, none⟩ = some (.int .i64 x) ∧ W.cell? ⟨xb, 1, none⟩ = some (.int .i64 y) ∧ W.heap[m1]? = some (.map #[] c)) (by kernel_rfl) ⟨c0, d0, d1, HM.out⟩ (fun hH => ?_)
  refine Go.Tr.tz 0 (v := ?_) rfl ?_ ?_
  rotate_left
  · intro W hW
    go_simp
    try with_reducible rfl
  try simp only [Go.Tr.nz]
  refine Go.Tr.tz 1 (v := ?_) rfl ?_ ?_
  rotate_left
  · intro W hW
    go_simp
    try with_reducible rfl
  try simp only [Go.Tr.nz]
  refine Go.Tr.tz 2 (v := ?_) rfl ?_ ?_
  rotate_left
  · intro W hW
    go_simp
    try with_reducible rfl
  try simp only [Go.Tr.nz]
  refine Go.Tr.tz 3 (v := ?_) rfl ?_ ?_
  rotate_left
  · intro W hW
    go_simp
    try with_reducible rfl
  try simp only [Go.Tr.nz]
  refine Go.Tr.tz 4 (v := ?_) rfl ?_ ?_
  rotate_left
  · intro W hW
    go_simp
    try with_reducible rfl
  try simp only [Go.Tr.nz]
  refine takeH 5 (v := .tuple #[.int .i64 0, .bool false]) rfl (by kernel_rfl) (by kernel_rfl) (by kernel_rfl) (fun _ _ _ h => h) (by rfl) ?_ hH ?_
  · intro W hW
    go_simp
    rw [look_ref hW.2.2.2]
    rfl
  try simp only [Go.Tr.nz]
  refine Go.Tr.tz 6 (v := ?_) rfl ?_ ?_
  rotate_left
  · intro W hW
    go_simp
    try with_reducible rfl
  try simp only [Go.Tr.nz]
  refine Go.Tr.tz 7 (v := ?_) rfl ?_ ?_
  rotate_left
  · intro W hW
    go_simp
    try with_reducible rfl
  try simp only [Go.Tr.nz]
  refine Go.Tr.tz 8 (v := ?_) rfl ?_ ?_
  rotate_left
  · intro W hW
    go_simp
    try with_reducible rfl
  try simp only [Go.Tr.nz]
  refine Go.Tr.tz 9 (v := ?_) rfl ?_ ?_
  rotate_left
  · intro W hW
    go_simp
    try with_reducible rfl
  try simp only [Go.Tr.nz]
  refine Go.Tr.tz 10 (v := ?_) rfl ?_ ?_
  rotate_left
  · intro W hW
    go_simp
    try with_reducible rfl
  try simp only [Go.Tr.nz]
  refine wpAnyH_done (by kernel_rfl) ?_ _
  go_wp2_with fail
  go_ret2
  exact ⟨rfl, HB.out.drew⟩
set_option maxRecDepth 100000 in
theorem rcut_any (x y : Nat) (w : World) (h : RemF w F r) : Calls Tryz.prog 141 #[.pointer (some ⟨r, 0, none⟩), .agg #[.int .i64 x, .int .i64 y]] w fun e w' => e = .returned (.bool false) ∧ Below w.heap.size w w' := by
  have hb : Below w.heap.size w (w.alloc (.cells #[.int .i64 x, .int .i64 y] 227)) := (Below.refl _ w).alloc (Nat.le_refl _) _
  have HB := Lib.hid hb
  have HT := Lib.hid (rto_any x y _ (h.kept (fun k _ hl => hb.block k hl)))
  clear h hb
  go_enter Tryz.func141, Tryz.ntmps141
  go_wp2_with fail
  refine HT.out.mono ?_
  rintro e w1 ⟨rfl, hb1⟩
  have HB1 : Hid (Below w.heap.size w w1) := HB.out.trans (hb1.mono HB.out.size)
  clear hb1
  go_wp2_with fail
  go_ret
  exact ⟨rfl, HB1.out⟩
theorem keys_seq (bx : Nat) (w : World) (h : w.heap[bx]? = some (.cells #[.map none] 185 (0, 0))) : SeqAll (fun _ A B => Below A.heap.size A B) (fun _ _ => True) Tryz.prog 190 #[.pointer (some ⟨bx, 0, none⟩)] (fun _ : Unit => #[undef]) [] w := fun l J W hW hSt hY h0 => by
  have hb := (hW.block bx (Array.getElem?_eq_some_iff.1 h).1).trans h
  have c0 := (cells_of_block hb 0).1
  simp at c0
  have HJ : Hid (∀ A B, J [] A → Below A.heap.size A B → J [] B) := fun A B => hSt [] A B
  have H0 := Lib.hid h0
  have HI : Hid ((W.alloc (.mapIter none 0 #[] 0)).heap[W.heap.size]? = some (.mapIter none 0 #[] 0)) := heap_alloc_new W _
  clear hb h hW hSt hY h0
  refine callsIn_wide.2 ?_
  have hra := run_range_none (P := Tryz.prog) Tryz.underlying185
  have hnx := run_next_none (P := Tryz.prog) HI.out
  go_enter Tryz.func190, Tryz.ntmps190
  go_wp2_with fail
  go_loopw [7] (fun _ wr => wr = W.alloc (.mapIter none 0 #[] 0)) (fun _ _ => 0)
  case atStart => rfl
  case round =>
    subst hrel
    go_wp2_with fail
    go_end0
    exact ⟨⟨_, rfl⟩, HJ.out _ _ H0.out ((Below.refl _ W).alloc (Nat.le_refl _) _)⟩
set_option maxRecDepth 100000 in
theorem keys_any (w : World) : Calls Tryz.prog 148 #[.map none] w fun e w' => e = .returned (.func (.func 190) #[] #[.pointer (some ⟨w.heap.size, 0, none⟩)]) ∧ w' = w.alloc (.cells #[.map none] 185) := by
  go_enter Tryz.func148, Tryz.ntmps148
  go_wp2
  go_ret
  exact ⟨rfl, rfl⟩
set_option maxRecDepth 100000 in
set_option maxHeartbeats 1000000 in
theorem appseq_any (bx : Nat) (w : World) (h : w.heap[bx]? = some (.cells #[.map none] 185 (0, 0))) : Calls Tryz.prog 204 #[.slice none 0 0, .func (.func 190) #[] #[.pointer (some ⟨bx, 0, none⟩)]] w fun e w' => e = .returned (.slice none 0 0) ∧ Below w.heap.size w w' := by
  have hb1 : Below w.heap.size w (w.alloc (.cells #[.slice none 0 0] 119)) := (Below.refl _ w).alloc (Nat.le_refl _) _
  have HB1 := Lib.hid hb1
  have HSEQ := Lib.hid (keys_seq bx (w.alloc (.cells #[.slice none 0 0] 119)) ((hb1.block bx (Array.getElem?_eq_some_iff.1 h).1).trans h))
  have HX : Hid ((w.alloc (.cells #[.slice none 0 0] 119)).heap[w.heap.size]? = some (.cells #[.slice none 0 0] 119 (0, 0))) := heap_alloc_new w _
  obtain ⟨xb, hxb⟩ : ∃ xb, xb = w.heap.size := ⟨_, rfl⟩
  rw [← hxb] at HX
  clear hb1 h
  refine (callsIn_wide (n := 2)).1 ?_
  refine callsIn_of_wp_marks Tryz.func204 rfl trivial ?_ rfl
  simp only [Tryz.ntmps204, List.size_toArray, List.length_cons, List.length_nil, Nat.reduceAdd, Nat.reduceSub, Array.replicate_succ, Array.replicate_zero, List.push_toArray, List.append_toArray, List.nil_append, List.cons_append]
  gi_wp2_with fail
  rw [← hxb]
  have HXB := Lib.hid hxb
  clear hxb
  generalize w.alloc (.cells #[.slice none 0 0] 119) = wa at *
  refine range_all (m := 0) (gf := 190) (lb := #[.pointer (some ⟨bx, 0, none⟩)]) rfl (enters_of Tryz.func190 (by kernel_rfl) rfl) HSEQ.out (Below.refl _ _) (fun _ => rfl) (fun _ _ => trivial) (fun _ _ _ _ => trivial)
    (fun pre W' => Below wa.heap.size wa W') ?hib ?hst ?hsk ?h0 ?round ?done
  case hib => exact fun pre W' r r' hI _ => ⟨hI.os, hI.tape, hI.output, by have := hI.size; simpa using this, fun k hk => (World.putObj_heap_other (by omega)).trans (hI.block k hk)⟩
  case hst => exact fun pre A B hI hb => hI.trans (hb.mono hI.size)
  case hsk => exact fun A B k hb _ hk => hb.block k hk
  case h0 => exact fun r => ((Below.refl _ wa).alloc (Nat.le_refl _) _).alloc (by simp) _
  case round =>
    intro pre x W1 _ hpre
    have := hpre.length_le
    simp at this
  case done =>
    intro W1 hI hD
    have hI2 := Lib.hid hI
    have c0 := (cells_of_block ((hI.block xb (Array.getElem?_eq_some_iff.1 HX.out).1).trans HX.out) 0).1
    simp at c0
    clear hI
    gi_wp2_with fail
    refine ⟨by simp, .inl ⟨_, _, rfl, run_takeDeferred hD, ?_⟩⟩
    exact ⟨_, results_tmp rfl _ _ _, rfl, HB1.out.trans (⟨hI2.out.os, hI2.out.tape, hI2.out.output, by have := hI2.out.size; simpa using this, fun k hk => (World.putObj_heap_other (by have := HB1.out.size; omega)).trans (hI2.out.block k (by have := HB1.out.size; omega))⟩)⟩
set_option maxRecDepth 100000 in
theorem collect_any (bx : Nat) (w : World) (h : w.heap[bx]? = some (.cells #[.map none] 185 (0, 0))) : Calls Tryz.prog 188 #[.func (.func 190) #[] #[.pointer (some ⟨bx, 0, none⟩)]] w fun e w' => e = .returned (.slice none 0 0) ∧ Below w.heap.size w w' := by
  have HA := Lib.hid (appseq_any bx w h)
  go_enter Tryz.func188, Tryz.ntmps188
  go_wp2_with fail
  refine HA.out.mono ?_
  rintro e w1 ⟨rfl, hb⟩
  have HB := Lib.hid hb
  clear hb
  go_wp2
  go_ret
  exact ⟨rfl, HB.out⟩
set_option maxRecDepth 100000 in
theorem insort_none (cf : Value) (w : World) : Calls Tryz.prog 211 #[.slice none 0 0, .int .i64 0, .int .i64 0, cf] w fun e w' => e = .returned (.tuple #[]) ∧ w = w' := by
  go_enter Tryz.func211, Tryz.ntmps211
  go_wp2_with fail
  go_loopw [8] (fun i wr => i = .int .i64 1 ∧ wr = w) (fun _ _ => 0)
  case atStart => exact ⟨rfl, rfl⟩
  case round =>
    obtain ⟨rfl, rfl⟩ := hrel
    go_wp2_with fail
    go_end0
    exact ⟨rfl, rfl⟩
set_option maxRecDepth 100000 in
set_option maxHeartbeats 1000000 in
theorem pdq_none (k : Int) (cf : Value) (w : World) : Calls Tryz.prog 205 #[.slice none 0 0, .int .i64 0, .int .i64 0, .int .i64 k, cf] w fun e w' => e = .returned (.tuple #[]) ∧ w = w' := by
  have HI := Lib.hid (insort_none cf w)
  go_enter Tryz.func205, Tryz.ntmps205
  go_wp2_with fail
  refine wp_loop_rounds 1 ?_
  rw [rounds_succ]
  go_wp2_with fail
  refine HI.out.mono ?_
  rintro e w1 ⟨rfl, rfl⟩
  go_wp2_with fail
  try simp only [Exit.inBlock, Exit.then]
  exact bodyPost_ret (results_none rfl _ _ _) rfl ⟨rfl, rfl⟩
theorem len0_any (w : World) : Calls Tryz.prog 121 #[.int .u64 0] w fun e w' => e = .returned (.int .i64 0) ∧ w = w' := by
  have HL := Lib.hid (len64_any 0 (by omega) w)
  go_enter Tryz.func121, Tryz.ntmps121
  go_wp2_with fail
  refine HL.out.mono ?_
  rintro e w1 ⟨rfl, rfl⟩
  go_wp2
  go_ret
  exact ⟨rfl, rfl⟩
set_option maxRecDepth 100000 in
theorem sortfunc_none (cf : Value) (w : World) : Calls Tryz.prog 189 #[.slice none 0 0, cf] w fun e w' => e = .returned (.tuple #[]) ∧ w = w' := by
  go_enter Tryz.func189, Tryz.ntmps189
  go_wp2_with fail
  refine (len0_any w).mono ?_
  rintro e w1 ⟨rfl, rfl⟩
  go_wp2_with fail
  refine (pdq_none 0 cf w).mono ?_
  rintro e w1 ⟨rfl, rfl⟩
  go_wp2
  go_end0
  exact ⟨rfl, rfl⟩
set_option maxRecDepth 100000 in
theorem sortedfunc_any (bx : Nat) (cf : Value) (w : World) (h : w.heap[bx]? = some (.cells #[.map none] 185 (0, 0))) : Calls Tryz.prog 147 #[.func (.func 190) #[] #[.pointer (some ⟨bx, 0, none⟩)], cf] w fun e w' => e = .returned (.slice none 0 0) ∧ Below w.heap.size w w' := by
  have HA := Lib.hid (collect_any bx w h)
  go_enter Tryz.func147, Tryz.ntmps147
  go_wp2_with fail
  refine HA.out.mono ?_
  rintro e w1 ⟨rfl, hb⟩
  have HB := Lib.hid hb
  clear hb
  go_wp2_with fail
  refine (sortfunc_none cf w1).mono ?_
  rintro e w2 ⟨rfl, rfl⟩
  go_wp2
  go_ret
  exact ⟨rfl, HB.out⟩
set_option maxRecDepth 100000 in
theorem rsorted_any (w : World) : Calls Tryz.prog 107 #[.map none] w fun e w' => e = .returned (.slice none 0 0) ∧ Below w.heap.size w w' := by
  have hb : Below w.heap.size w (w.alloc (.cells #[.map none] 185)) := (Below.refl _ w).alloc (Nat.le_refl _) _
  have HB := Lib.hid hb
  have HX : Hid ((w.alloc (.cells #[.map none] 185)).heap[w.heap.size]? = some (.cells #[.map none] 185 (0, 0))) := heap_alloc_new w _
  clear hb
  go_enter Tryz.func107, Tryz.ntmps107
  go_wp2_with fail
  refine (keys_any w).mono ?_
  rintro e w1 ⟨rfl, rfl⟩
  go_wp2_with fail
  refine (sortedfunc_any _ _ _ HX.out).mono ?_
  rintro e w2 ⟨rfl, hb2⟩
  have HB2 : Hid (Below w.heap.size w w2) := HB.out.trans (hb2.mono HB.out.size)
  clear hb2
  go_wp2
  go_ret
  exact ⟨rfl, HB2.out⟩
set_option maxRecDepth 100000 in
theorem rof_any (x : Int) (w : World) (h : RemF w F r) : Calls Tryz.prog 57 #[.pointer (some ⟨r, 0, none⟩), .int .i64 x] w fun e w' => e = .returned (.slice none 0 0) ∧ Below w.heap.size w w' := by
  obtain ⟨h0, m1, m2, m3, c, h1, f1, f2, f3, h2, h3, h4⟩ := h
  have c1 := (cells_of_block h1 1).1
  simp at c1
  have HM := Lib.hid h3
  clear h1 h2 h3 h4
  go_enter Tryz.func57, Tryz.ntmps57
  go_wp2_with (first
    | (refine wpList_lookI _ rfl (.tmp 10) (.tmp 11) 186 rfl 3 185 Tryz.underlying186 Tryz.underlying3 _ Tryz.zeroValue185 m2 _ rfl HM.out x rfl ?_)
    | fail)
  refine (rsorted_any w).mono ?_
  rintro e w1 ⟨rfl, hb⟩
  have HB := Lib.hid hb
  clear hb
  go_wp2
  go_ret
  exact ⟨rfl, HB.out⟩
set_option maxRecDepth 100000 in
theorem rfrom_any (x : Int) (w : World) (h : RemF w F r) : Calls Tryz.prog 155 #[.pointer (some ⟨r, 0, none⟩), .int .i64 x] w fun e w' => e = .returned (.slice none 0 0) ∧ Below w.heap.size w w' := by
  obtain ⟨h0, m1, m2, m3, c, h1, f1, f2, f3, h2, h3, h4⟩ := h
  have c1 := (cells_of_block h1 2).1
  simp at c1
  have HM := Lib.hid h4
  clear h1 h2 h3 h4
  go_enter Tryz.func155, Tryz.ntmps155
  go_wp2_with (first
    | (refine wpList_lookI _ rfl (.tmp 10) (.tmp 11) 186 rfl 3 185 Tryz.underlying186 Tryz.underlying3 _ Tryz.zeroValue185 m3 _ rfl HM.out x rfl ?_)
    | fail)
  refine (rsorted_any w).mono ?_
  rintro e w1 ⟨rfl, hb⟩
  have HB := Lib.hid hb
  clear hb
  go_wp2
  go_ret
  exact ⟨rfl, HB.out⟩
set_option maxRecDepth 100000 in
theorem rforget_any (x : Int) (w : World) (h : RemF w F r) : Calls Tryz.prog 113 #[.pointer (some ⟨r, 0, none⟩), .int .i64 x] w fun e w' => e = .returned (.int .i64 0) ∧ Below w.heap.size w w' := by
  have HF := Lib.hid (rfrom_any x w h)
  clear h
  go_enter Tryz.func113, Tryz.ntmps113
  go_wp2_with fail
  refine HF.out.mono ?_
  rintro e w1 ⟨rfl, hb⟩
  have HB := Lib.hid hb
  clear hb
  go_wp2_with fail
  go_loopw [13] (fun i wr => i = .int .i64 0 ∧ wr = w1) (fun _ _ => 0)
  case atStart => exact ⟨rfl, rfl⟩
  case round =>
    obtain ⟨rfl, rfl⟩ := hrel
    go_wp2
    go_ret
    exact ⟨rfl, HB.out⟩
end Go.Proofs.YtcdpnfchmpncjaaGreatDoor

namespace Go.Proofs.YtcdpnfchmpncjaaGreatDoor
open Go.RowKit Go.Tr
theorem zeroThing (w : World) : (zeroValue 167).run Tryz.prog w = .ok (.agg #[.int .i64 0, .int .i64 0]) w := by kernel_rfl
theorem infoTurn : (Tryz.prog.info? 190).map (fun i => (i.zero, i.size, i.bytes)) = some (some (.agg #[.int .i64 0, .int .i64 0]), 2, 16) := by kernel_rfl
theorem fieldThing0 (a b : Int) (w : World) : (Instr.field 167 (.agg #[.int .i64 a, .int .i64 b]) 0).run Tryz.prog w = .ok (.int .i64 a) w := by kernel_rfl
set_option maxRecDepth 100000 in
theorem gnew_any (w : World) : Calls Tryz.prog 54 #[] w fun e w' => ∃ g, e = .returned (.pointer (some ⟨g, 0, none⟩)) ∧ GrayAt 165 w' g (grow (fun _ => False) w w') GS.new ∧ Only (fun _ => False) w w' ∧ w.heap.size ≤ g := by
  have hmm := @run_makeMap Tryz.prog
  go_enter Tryz.func54, Tryz.ntmps54
  go_wp2
  go_ret
  refine ⟨w.heap.size + 1, rfl, ⟨Or.inr (by simp), w.heap.size, .slice none 0 0, ?_, Or.inr (by simp; omega), by omega, (MapI.made w).kept (Below.heap_alloc _ _ _ (by simp)), OwnO.nil _ _, by simp [Value.ownBlock]⟩, ((Only.refl _ w).alloc _).alloc _, by omega⟩
  have := heap_alloc_new (w.alloc (.map #[] 0)) (.cells #[.map (some w.heap.size), .slice none 0 0, .int .i64 0, .int .i64 0] 165)
  rw [World.size_alloc] at this
  exact this
set_option maxRecDepth 100000 in
theorem color_any {g : Nat} {F : Nat → Prop} {S : GS} (x : Int) (w : World) (h : GrayAt 165 w g F S) : Calls Tryz.prog 65 #[.pointer (some ⟨g, 0, none⟩), .int .i64 x] w fun e w' => e = .returned (.int .i64 (S.color x)) ∧ w = w' := by
  obtain ⟨h1, bm, qv, h2, h3, h4, h5, h6, h7⟩ := h
  have hc0 := (cells_of_block h2 0).1
  simp at hc0
  have hl := look_thing S x
  have HL := Lib.hid hl; clear hl
  have H2 := Lib.hid h2; clear h2
  have H5 := Lib.hid h5; clear h5
  clear h1 h3 h4 h6 h7
  have hf0 := fieldThing0
  go_enter Tryz.func65, Tryz.ntmps65
  go_wp2_with (first | (at_lookup; refine wpList_lookI _ rfl _ _ 162 rfl 3 167 Tryz.underlying162 Tryz.underlying3 _ zeroThing bm _ rfl H5.out x rfl ?_; rw [HL.out]))
  go_ret
  exact ⟨rfl, rfl⟩
set_option maxRecDepth 100000 in
theorem glen_any {g : Nat} {F : Nat → Prop} {S : GS} (w : World) (h : GrayAt 165 w g F S) : Calls Tryz.prog 64 #[.pointer (some ⟨g, 0, none⟩)] w fun e w' => e = .returned (.int .i64 S.wait) ∧ w = w' := by
  obtain ⟨h1, bm, qv, h2, h3, h4, h5, h6, h7⟩ := h
  have hc3 := (cells_of_block h2 3).1
  simp at hc3
  clear h1 h2 h3 h4 h5 h6 h7
  go_enter Tryz.func64, Tryz.ntmps64
  go_wp2
  go_ret
  exact ⟨rfl, rfl⟩
set_option maxRecDepth 100000 in
theorem enter_any {g : Nat} {F : Nat → Prop} {S : GS} (x : Int) (w : World) (h : GrayAt 165 w g F S) (hs : S.Small 1000000) : Calls Tryz.prog 108 #[.pointer (some ⟨g, 0, none⟩), .int .i64 x] w fun e w' => e = .returned (.tuple #[]) ∧ GrayAt 165 w' g (grow F w w') (S.enter x) ∧ Only F w w' := by
  obtain ⟨h1, bm, qv, h2, h3, h4, h5, h6, h7⟩ := h
  obtain ⟨s1, s2, s3, s4, s5⟩ := hs
  obtain ⟨i0, hi, hz0, hz1, hz2⟩ := info_parts infoTurn
  have hc0 := cells_of_block h2 0
  have hc1 := cells_of_block h2 1
  have hc2 := cells_of_block h2 2
  have hc3 := cells_of_block h2 3
  simp at hc0 hc1 hc2 hc3
  obtain ⟨c0, f0⟩ := hc0
  obtain ⟨c1, f1⟩ := hc1
  obtain ⟨c2, f2⟩ := hc2
  obtain ⟨c3, f3⟩ := hc3
  have H2 := Lib.hid h2; clear h2
  go_enter Tryz.func108, Tryz.ntmps108
  go_wp2
  generalize hw1 : (w.setCell ⟨g, 2, none⟩ (.int .i64 (S.last + 1))).setCell ⟨g, 3, none⟩ (.int .i64 (S.wait + 1)) = w1
  have hb1 : w1.heap[g]? = some (.cells #[.map (some bm), qv, .int .i64 (S.last + 1), .int .i64 (S.wait + 1)] 165 (0, 0)) := by
    rw [← hw1]; exact block_setCell (block_setCell H2.out 2 _) 3 _
  have ho1 : Only F w w1 := by rw [← hw1]; exact ((Only.refl F w).setCell (Or.inl h1) _).setCell (Or.inl h1) _
  have hk1 : ∀ k, k ≠ g → w1.heap[k]? = w.heap[k]? := fun k hk => by rw [← hw1, Below.heap_setCell _ _ _ _ hk, Below.heap_setCell _ _ _ _ hk]
  have hs1 : w1.heap.size = w.heap.size := by rw [← hw1]; simp [World.setCell]
  clear hw1 c0 c1 c2 c3 f0 f1 f2 f3
  have hc0 := cells_of_block hb1 0
  have hc1 := cells_of_block hb1 1
  have hc2 := cells_of_block hb1 2
  simp at hc0 hc1 hc2
  obtain ⟨c0, f0⟩ := hc0
  obtain ⟨c1, f1⟩ := hc1
  obtain ⟨c2, f2⟩ := hc2
  have HB1 := Lib.hid hb1; clear hb1
  have HO1 := Lib.hid ho1; clear ho1
  have HS1 := Lib.hid hs1; clear hs1
  have HM1 : Hid (MapI w1 bm (mapA thingV S.tab)) := h5.kept (hk1 bm h4)
  have HQ1 : Hid (OwnO w1 2 qv S.q.length (ecells S.q)) := h6.kept (fun k hk => hk1 k (h7 k hk).2.1)
  clear hk1
  go_still_tail 10, (by kernel_rfl)
  refine wpList_putI _ rfl (.tmp 21) (.tmp 22) (.tmp 27) 162 rfl 3 167 Tryz.underlying162 Tryz.underlying3 bm _ rfl HM1.out x rfl (thingV (1, S.last + 1)) rfl ?_
  intro w2 hm2 hg2 hs2
  have hk2 : ∀ k, k ≠ bm → k < w1.heap.size → w2.heap[k]? = w1.heap[k]? := fun k hk hl => hg2.block k hl (by simpa using hk)
  have hgl : g < w1.heap.size := (Array.getElem?_eq_some_iff.1 HB1.out).1
  have hb2 : w2.heap[g]? = some (.cells #[.map (some bm), qv, .int .i64 (S.last + 1), .int .i64 (S.wait + 1)] 165 (0, 0)) := (hk2 g (Ne.symm h4) hgl).trans HB1.out
  have HQ2 : Hid (OwnO w2 2 qv S.q.length (ecells S.q)) := HQ1.out.kept (fun k hk => hk2 k (h7 k hk).2.2 (HQ1.out.lt k hk))
  have HM2 : Hid (MapI w2 bm (mapA thingV (putA S.tab x (1, S.last + 1)))) := by
    have := hm2; rw [putA_mapA] at this; exact this
  have HO2 : Hid (Only F w w2) := HO1.out.drew.grown hg2 (fun k hk => by cases hk; exact Or.inl h3)
  have HS2 : Hid (w2.heap.size = w.heap.size) := hs2.trans HS1.out
  clear hk2 hgl hm2 hg2 hs2 c0 c1 c2 f0 f1 f2 HM1 HQ1 HO1 HB1 HS1
  have hc1 := cells_of_block hb2 1
  have hc2 := cells_of_block hb2 2
  simp at hc1 hc2
  obtain ⟨c1, f1⟩ := hc1
  obtain ⟨c2, f2⟩ := hc2
  have HB2 := Lib.hid hb2; clear hb2
  go_wp2
  refine wp_region_lastH (S := fun W => W.cell? ⟨g, 1, none⟩ = some qv ∧ W.cell? ⟨g, 2, none⟩ = some (.int .i64 (S.last + 1))) 15 (by kernel_rfl) (by kernel_rfl) ⟨c1, c2⟩ (fun hH => ?_)
  simp only [lastOps, nop, List.modify_toArray, List.modify_succ_cons, List.modify_zero_cons]
  refine Go.Tr.tz 0 (v := ?_) rfl ?_ ?_
  rotate_left
  · intro W hW
    go_simp
    try with_reducible rfl
  try simp only [Go.Tr.nz]
  refine Go.Tr.tz 1 (v := ?_) rfl ?_ ?_
  rotate_left
  · intro W hW
    go_simp
    try with_reducible rfl
  try simp only [Go.Tr.nz]
  refine Go.Tr.tz 2 (v := ?_) rfl ?_ ?_
  rotate_left
  · intro W hW
    go_simp
    try with_reducible rfl
  try simp only [Go.Tr.nz]
  refine Go.Tr.tz 3 (v := ?_) rfl ?_ ?_
  rotate_left
  · intro W hW
    go_simp
    try with_reducible rfl
  try simp only [Go.Tr.nz]
  refine Go.Tr.tz 4 (v := ?_) rfl ?_ ?_
  rotate_left
  · intro W hW
    go_simp
    try with_reducible rfl
  try simp only [Go.Tr.nz]
  refine Go.Tr.tz 5 (v := ?_) rfl ?_ ?_
  rotate_left
  · intro W hW
    go_simp
    try with_reducible rfl
  try simp only [Go.Tr.nz]
  refine Go.Tr.tz 6 (v := ?_) rfl ?_ ?_
  rotate_left
  · intro W hW
    go_simp
    try with_reducible rfl
  try simp only [Go.Tr.nz]
  refine Go.Tr.tz 7 (v := ?_) rfl ?_ ?_
  rotate_left
  · intro W hW
    go_simp
    try with_reducible rfl
  try simp only [Go.Tr.nz]
  refine Go.Tr.tz 8 (v := ?_) rfl ?_ ?_
  rotate_left
  · intro W hW
    go_simp
    try with_reducible rfl
  try simp only [Go.Tr.nz]
  refine Go.Tr.tz 9 (v := ?_) rfl ?_ ?_
  rotate_left
  · intro W hW
    go_simp
    try with_reducible rfl
  try simp only [Go.Tr.nz]
  refine Go.Tr.tz 10 (v := ?_) rfl ?_ ?_
  rotate_left
  · intro W hW
    go_simp
    try with_reducible rfl
  try simp only [Go.Tr.nz]
  refine wpAnyH_ready (rs := [11]) (by kernel_rfl) (by simp) (readyH rfl (fun K hK => ?_) AllReadyH.nil)
  rw [if_pos (by rfl)]
  go_simp
  have hgl2 : g < w2.heap.size := (Array.getElem?_eq_some_iff.1 HB2.out).1
  refine hK.out _ _ ⟨(World.cell?_alloc_lt _ _ _ hgl2).trans hH.1, (World.cell?_alloc_lt _ _ _ hgl2).trans hH.2⟩ (fun hH => ?_)
  clear hK K
  try simp only [Go.Tr.nz]
  refine wpAnyH_ready (rs := [12]) (by kernel_rfl) (by simp) (readyH rfl (fun K hK => ?_) AllReadyH.nil)
  rw [if_pos (by rfl)]
  refine wpO_appendO _ (.tmp 32) (.tmp 39) 163 rfl 190 i0 _ 2 16 Tryz.underlying163 hi hz0 hz1 hz2 rfl (by decide) qv S.q.length (ecells S.q) rfl (HQ2.out.kept ?hkept) ⟨w2.heap.size, 0, none⟩ 1 1 [.int .i64 x, .int .i64 (S.last + 1)] rfl rfl ?hn ?h1 ?h63 ?hby ?_
  case hkept => exact fun k hk => Below.heap_alloc _ _ _ (HQ2.out.lt k hk)
  case hn =>
    intro j u hj
    rcases j with _ | _ | j
    · simp at hj; subst hj; simp [Addr.add]
    · simp at hj; subst hj; simp [Addr.add]
    · simp at hj
  case h1 => intro u hu; simp at hu; rcases hu with rfl | rfl <;> rfl
  case h63 => unfold maxLen; omega
  case hby => omega
  intro v3 w3 r1 r2 r3
  obtain ⟨a3, cap3, rfl, -, -, -⟩ := r1.seq
  have hg3 : w3.heap[g]? = w2.heap[g]? := (r2.block g (by simp; omega) (fun e => (h7 g e.symm).2.1 rfl)).trans (Below.heap_alloc _ _ _ hgl2)
  have hb3 := hg3.trans HB2.out
  have hm3 : w3.heap[bm]? = w2.heap[bm]? := (r2.block bm (by have := HM2.out.lt; simp; omega) (fun e => (h7 bm e.symm).2.2 rfl)).trans (Below.heap_alloc _ _ _ HM2.out.lt)
  have HM3 : Hid (MapI w3 bm (mapA thingV (putA S.tab x (1, S.last + 1)))) := HM2.out.kept hm3
  have HO3 : Hid (Only F w w3) := (HO2.out.drew.alloc _).grown r2 (fun k hk => Or.inl (h7 k hk).1)
  have HR3 := Lib.hid r1
  have r4 : ∀ k, (Value.slice a3 (S.q.length + 1) cap3).ownBlock = some k → grow F w w3 k ∧ k ≠ g ∧ k ≠ bm := by
    intro k hk
    rcases r3 k hk with h | h
    · exact ⟨Or.inl (h7 k h).1, (h7 k h).2⟩
    · have h8 := h.1
      have h9 := HM2.out.lt
      have h10 := HS2.out
      simp at h8
      exact ⟨Or.inr ⟨by omega, h.2⟩, by omega, by omega⟩
  have HR4 := Lib.hid r4
  have hc1 := cells_of_block hb3 1
  have hc2 := cells_of_block hb3 2
  simp at hc1 hc2
  obtain ⟨d1, e1⟩ := hc1
  obtain ⟨d2, e2⟩ := hc2
  have HB3 := Lib.hid hb3
  clear hb3 hm3 r1 r2 r3 r4 c1 c2 f1 f2 hg3
  refine hK.out _ _ ⟨d1, d2⟩ (fun hH => ?_)
  clear hK K
  try simp only [Go.Tr.nz]
  refine Go.Tr.tz 13 (v := ?_) rfl ?_ ?_
  rotate_left
  · intro W hW
    go_simp
    try with_reducible rfl
  try simp only [Go.Tr.nz]
  refine Go.Tr.tz 14 (v := ?_) rfl ?_ ?_
  rotate_left
  · intro W hW
    go_simp
    try with_reducible rfl
  try simp only [Go.Tr.nz]
  refine Go.Tr.tz 15 (v := ?_) rfl ?_ ?_
  rotate_left
  · intro W hW
    go_simp
    try with_reducible rfl
  try simp only [Go.Tr.nz]
  refine lastH_done (by kernel_rfl) rfl (by rfl) ?_
  go_simp
  go_wp2
  go_end0
  have hsz : (w3.setCell ⟨g, 1, none⟩ (.slice a3 (S.q.length + 1) cap3)).heap.size = w3.heap.size := by simp [World.setCell]
  have hkk : ∀ k, k ≠ g → (w3.setCell ⟨g, 1, none⟩ (.slice a3 (S.q.length + 1) cap3)).heap[k]? = w3.heap[k]? := fun k hk => Below.heap_setCell _ _ _ _ hk
  refine ⟨rfl, ⟨Or.inl h1, bm, .slice a3 (S.q.length + 1) cap3, block_setCell HB3.out 1 _, Or.inl h3, h4, HM3.out.kept (hkk bm h4), ?_, fun k hk => ?_⟩, HO3.out.setCell (Or.inl h1) _⟩
  · have := HR3.out.kept (fun k hk => hkk k (HR4.out k hk).2.1)
    have e : ecells [(x, S.last + 1)] = [.int .i64 x, .int .i64 (S.last + 1)] := rfl
    simpa [GS.enter, ecells_append, e] using this
  · obtain ⟨h8, h9⟩ := HR4.out k hk
    exact ⟨by unfold grow at h8 ⊢; rw [hsz]; exact h8, h9⟩
end Go.Proofs.YtcdpnfchmpncjaaGreatDoor

namespace Go.Proofs.YtcdpnfchmpncjaaGreatDoor
open Go.RowKit Go.Tr
set_option maxRecDepth 100000 in
theorem paint_any {g : Nat} {F : Nat → Prop} {S : GS} (x : Int) (w : World) (h : GrayAt 165 w g F S) (hs : S.Small 1000000) : Calls Tryz.prog 38 #[.pointer (some ⟨g, 0, none⟩), .int .i64 x] w fun e w' => e = .returned (.bool (decide (S.color x ≠ 2))) ∧ GrayAt 165 w' g (grow F w w') (S.paint x) ∧ Only F w w' := by
  have hw : 0 ≤ S.wait + 1000000 := by obtain ⟨s1, s2, s3, s4, s5⟩ := hs; omega
  have hw2 : S.wait ≤ 1000000 := hs.2.2.2.1
  clear hs
  have H := Lib.hid h; clear h
  by_cases h2 : S.color x = 2
  · go_enter Tryz.func38, Tryz.ntmps38
    go_wp2_with fail
    refine (color_any x _ H.out).mono ?_
    rintro e w1 ⟨rfl, rfl⟩
    rw [h2]
    go_wp2_with fail
    go_ret
    refine ⟨by simp [h2], ?_, Only.refl _ _⟩
    rw [GS.paint, if_pos h2]
    exact H.out.mono (fun k hk => Or.inl hk)
  · by_cases h1 : S.color x = 1
    · go_enter Tryz.func38, Tryz.ntmps38
      go_wp2_with fail
      refine (color_any x _ H.out).mono ?_
      rintro e w1 ⟨rfl, rfl⟩
      rw [h1]
      go_wp2_with fail
      refine (color_any x _ H.out).mono ?_
      rintro e w1 ⟨rfl, rfl⟩
      rw [h1]
      obtain ⟨f1, bm, qv, b2, f3, b4, b5, b6, b7⟩ := H.out
      have hc0 := cells_of_block b2 0
      have hc3 := cells_of_block b2 3
      simp at hc0 hc3
      obtain ⟨c0, e0⟩ := hc0
      obtain ⟨c3, e3⟩ := hc3
      have B2 := Lib.hid b2; clear b2
      go_wp2_with (refine wpList_putI _ rfl (.tmp 27) (.tmp 28) (.tmp 29) 162 rfl 3 167 Tryz.underlying162 Tryz.underlying3 bm _ rfl (b5.kept (Below.heap_setCell _ _ _ _ b4)) x rfl (thingV (2, 0)) rfl ?_; intro w2 hm2 hg2 hs2)
      go_ret
      have hP : S.paint x = { S with tab := putA S.tab x (2, 0), wait := S.wait - 1 } := by rw [GS.paint, if_neg h2, if_pos h1]
      rw [hP]
      have hm3 := hm2
      rw [putA_mapA] at hm3
      obtain ⟨r1, r2⟩ := GrayAt.painted (S := S) (S' := { S with tab := putA S.tab x (2, 0), wait := S.wait - 1 }) f1 f3 b4 (block_setCell B2.out 3 _) ((Only.refl F w).setCell (Or.inl f1) _) (b6.kept (fun k hk => Below.heap_setCell _ _ _ _ (b7 k hk).2.1)) hm3 hg2 b7
      exact ⟨by simp [h2], r1, r2⟩
    · have hd2 : (S.color x == 2) = false := by simpa using h2
      have hd1 : (S.color x == 1) = false := by simpa using h1
      have HC2 := Lib.hid h2; clear h2
      have HC1 := Lib.hid h1; clear h1
      go_enter Tryz.func38, Tryz.ntmps38
      go_wp2_with fail
      refine (color_any x _ H.out).mono ?_
      rintro e w1 ⟨rfl, rfl⟩
      go_wp2_with fail
      refine (color_any x _ H.out).mono ?_
      rintro e w1 ⟨rfl, rfl⟩
      obtain ⟨f1, bm, qv, b2, f3, b4, b5, b6, b7⟩ := H.out
      have hc0 := cells_of_block b2 0
      have hc3 := cells_of_block b2 3
      simp at hc0 hc3
      obtain ⟨c0, e0⟩ := hc0
      obtain ⟨c3, e3⟩ := hc3
      have B2 := Lib.hid b2; clear b2
      go_wp2_with (refine wpList_putI _ rfl (.tmp 27) (.tmp 28) (.tmp 29) 162 rfl 3 167 Tryz.underlying162 Tryz.underlying3 bm _ rfl b5 x rfl (thingV (2, 0)) rfl ?_; intro w2 hm2 hg2 hs2)
      go_ret
      have hP : S.paint x = { S with tab := putA S.tab x (2, 0) } := by rw [GS.paint, if_neg HC2.out, if_neg HC1.out]
      rw [hP]
      have hm3 := hm2
      rw [putA_mapA] at hm3
      obtain ⟨r1, r2⟩ := GrayAt.painted (S := S) (S' := { S with tab := putA S.tab x (2, 0) }) f1 f3 b4 B2.out (Only.refl F w) b6 hm3 hg2 b7
      exact ⟨by have := HC2.out; simp [this], r1, r2⟩
set_option maxRecDepth 100000 in
theorem put_any {g : Nat} {F : Nat → Prop} {S : GS} (a : Option Addr) (n c : Nat) (xs : List Int) (w : World) (h : GrayAt 165 w g F S) (ha : SeqAt w a (ints xs)) (hl : xs.length = n) (hn : 0 < n → ∀ b o, a = some ⟨b, o, none⟩ → ¬ F b ∧ b < w.heap.size) (hs : S.Small (1000000 - n)) :
    Calls Tryz.prog 58 #[.pointer (some ⟨g, 0, none⟩), .slice a n c] w fun e w' => e = .returned (.int .i64 (S.putN xs)) ∧ GrayAt 165 w' g (grow F w w') (S.put xs) ∧ Only F w w' := by
  have hn0 : n ≤ 1000000 := by obtain ⟨s1, s2, s3, s4, s5⟩ := hs; omega
  have HS := Lib.hid hs; clear hs
  have H := Lib.hid h; clear h
  have HA := Lib.hid ha; clear ha
  have HL := Lib.hid hl; clear hl
  go_enter Tryz.func58, Tryz.ntmps58
  go_wp2_with fail
  go_loopw [5, 10] (fun v i wr => ∃ (k : Nat) (m : Int), k ≤ n ∧ i = .int .i64 k ∧ v = .int .i64 m ∧ 0 ≤ m ∧ m ≤ k ∧ Hid (m = S.putN (xs.take k)) ∧ Hid (GrayAt 165 wr g (grow F w wr) (S.put (xs.take k))) ∧ Hid (Only F w wr)) (fun _ i _ => n - (intOf i).toNat)
  case atStart => exact ⟨0, 0, Nat.zero_le _, rfl, rfl, by omega, by omega, by simp [Hid, GS.putN], H.out.mono (fun k hk => Or.inl hk), Only.refl _ _⟩
  case round =>
    obtain ⟨k, m, hk, rfl, rfl, hm0, hm1, HM, HG, HO⟩ := hrel
    by_cases hlt : k < n
    · have hR : SeqAt wr a (ints xs) := HA.out.only HO.out (fun _ b o e => (hn (by omega) b o e).1)
      obtain ⟨b, off, z, rfl, hc, HZ⟩ := hR.ints (k := k) (by rw [HL.out]; exact hlt)
      clear hR
      have hi : (k : Int) < (n : Int) := by omega
      have hS : (S.put (xs.take k)).Small (1000000 - n + k) := by
        have := GS.Small.put (xs.take k) HS.out
        rwa [List.length_take, HL.out, Nat.min_eq_left (by omega)] at this
      have HSk := Lib.hid (hS.mono (M := 1000000) (by omega))
      clear hS
      obtain ⟨Sk, hSk⟩ : ∃ Sk, Sk = S.put (xs.take k) := ⟨_, rfl⟩
      rw [← hSk] at HG HSk
      have hP := put_snoc z (xs.take k) S
      have hN := putN_snoc z (xs.take k) S
      rw [← hSk] at hP hN
      rw [← take_snoc HZ.out] at hP hN
      have HP := Lib.hid hP
      have HN := Lib.hid hN
      have HSK := Lib.hid hSk
      clear hP hN hSk HZ
      by_cases hw0 : Sk.color z = 0
      · go_wp2_with fail
        refine (color_any z _ HG.out).mono ?_
        rintro e w1 ⟨rfl, rfl⟩
        rw [hw0]
        go_wp2_with fail
        refine (enter_any z _ HG.out HSk.out).mono ?_
        rintro e w1 ⟨rfl, h3, h4⟩
        have H3 : Hid (GrayAt 165 w1 g (grow F w w1) (Sk.enter z)) := h3.mono (grow_trans HO.out.size h4.size)
        have H4 : Hid (Only F w w1) := HO.out.grow h4
        clear h3 h4
        go_wp2
        go_roundw
        case rel =>
          refine ⟨k + 1, m + 1, by omega, by go_num, by go_num, by omega, by omega, ?_, ?_, H4⟩
          · have := HN.out
            rw [if_pos hw0, ← HM.out] at this
            exact this.symm
          · have := H3.out
            rw [HP.out, GS.put1, if_pos hw0]
            exact this
        case measure => simp [intOf]; omega
      · have hd : (Sk.color z == 0) = false := by simpa using hw0
        have HW0 := Lib.hid hw0; clear hw0
        go_wp2_with fail
        refine (color_any z _ HG.out).mono ?_
        rintro e w1 ⟨rfl, rfl⟩
        go_wp2
        go_roundw
        case rel =>
          refine ⟨k + 1, m, by omega, by go_num, rfl, by omega, by omega, ?_, ?_, HO⟩
          · have := HN.out
            rw [if_neg HW0.out, ← HM.out, Int.add_zero] at this
            exact this.symm
          · have := HG.out
            rw [HP.out, GS.put1, if_neg HW0.out]
            exact this
        case measure => simp [intOf]; omega
    · go_wp2
      go_ret
      have ht : xs.take k = xs := List.take_of_length_le (by rw [HL.out]; omega)
      rw [ht] at HM HG
      exact ⟨by rw [HM.out]; rfl, HG.out, HO.out⟩
end Go.Proofs.YtcdpnfchmpncjaaGreatDoor

namespace Go.Proofs.YtcdpnfchmpncjaaGreatDoor
open Go.RowKit Go.Tr
def nextV (r : Option Int × GS) : Value := .tuple #[.int .i64 (r.1.getD 0), .bool r.1.isSome]
set_option maxRecDepth 100000 in
set_option maxHeartbeats 1000000 in
theorem next_any {g : Nat} {F : Nat → Prop} {S : GS} (w : World) (h : GrayAt 165 w g F S) (hs : S.Small 1000000) :
    Calls Tryz.prog 59 #[.pointer (some ⟨g, 0, none⟩)] w fun e w' => e = .returned (nextV S.next) ∧ GrayAt 165 w' g (grow F w w') S.next.2 ∧ Only F w w' := by
  have HS := Lib.hid hs; clear hs
  have H := Lib.hid h; clear h
  go_enter Tryz.func59, Tryz.ntmps59
  go_wp2_with fail
  go_loopw [] (fun wr => ∃ k : Nat, k ≤ S.q.length ∧ Hid (GrayAt 165 wr g (grow F w wr) { S with q := S.q.drop k }) ∧ Hid (Only F w wr) ∧ Hid (S.next = nextQ S (S.q.drop k))) (fun wr => lenAt g wr)
  case atStart => exact ⟨0, Nat.zero_le _, H.out.mono (fun k hk => Or.inl hk), Only.refl _ _, rfl⟩
  case round =>
    obtain ⟨k, hk, HG, HO, HN⟩ := hrel
    obtain ⟨f1, bm, qv, b2, f3, b4, b5, b6, b7⟩ := HG.out
    have hc0 := cells_of_block b2 0
    have hc1 := cells_of_block b2 1
    simp at hc0 hc1
    obtain ⟨c0, e0⟩ := hc0
    obtain ⟨c1, e1⟩ := hc1
    have B2 := Lib.hid b2; clear b2
    cases hq : S.q.drop k with
    | nil =>
      simp only [hq, List.length_nil] at *
      obtain ⟨oa, oc, rfl, hso, hoc, -⟩ := b6.seq
      go_wp2_with fail
      go_ret2
      have := HN.out
      rw [nextQ] at this
      rw [this]
      exact ⟨rfl, HG.out, HO.out⟩
    | cons t r =>
      obtain ⟨x, n⟩ := t
      have HQK : Hid (S.q.drop (k + 1) = r ∧ k + 1 ≤ S.q.length) := by
        have h2 := congrArg List.length hq
        simp at h2
        exact ⟨by rw [← List.tail_drop, hq]; rfl, by omega⟩
      simp only [hq, List.length_cons] at *
      obtain ⟨qg, qo, qc, rfl, q1, q2, q3⟩ := b6.tail (by decide)
      have q4 := b6.cells 0 (by omega)
      have q5 := b6.cells 1 (by omega)
      simp [ecells, iv] at q4 q5
      have hgl : g < wr.heap.size := (Array.getElem?_eq_some_iff.1 B2.out).1
      have hi : (0 : Int) < (r.length : Int) + 1 := by omega
      have hts := HO.out.size
      obtain ⟨ts, hts'⟩ : ∃ ts, ts = wr.heap.size := ⟨_, rfl⟩
      by_cases hq1 : qc = 1
      all_goals first | (subst hq1; rw [if_pos rfl] at q3; have hr0 : r = [] := List.eq_nil_of_length_eq_zero (by omega); simp only [Nat.sub_self] at q3) | (rw [if_neg hq1] at q3)
      all_goals
        go_wp2_with fail
        rw [← hts']
        generalize hw1 : ((wr.setCell _ _).alloc _) = w1
        have step : Hid (GrayAt 165 w1 g (fun k => grow F w w1 k ∧ k ≠ ts) ⟨S.tab, r, S.last, S.wait⟩) ∧ Hid (Only F w w1) ∧ w1.heap[ts]? = some (.cells #[.int .i64 x, .int .i64 n] 190 (0, 0)) := by
          rw [← hw1, hts']
          try rw [hr0] at b6 q3 b7 ⊢
          try simp only [hr0] at B2
          have step0 := GrayAt.popped (T' := 190) f1 f3 b4 B2.out HO.out b5 q3 (fun k hk => by simp [Value.ownBlock] at hk; exact hk.symm) b7
          exact step0
        clear hw1 hts'
        obtain ⟨G1, O1, t1⟩ := step
        have T1 := Lib.hid t1
        have hl := look_thing S x
        obtain ⟨g1, bm', qv', g2, g3, g4, g5, g6, g7⟩ := G1.out
        have hc0 := cells_of_block g2 0
        have ht0 := cells_of_block t1 0
        have ht1 := cells_of_block t1 1
        simp at hc0 ht0 ht1
        obtain ⟨d0, -⟩ := hc0
        obtain ⟨d1, d1'⟩ := ht0
        obtain ⟨d2, d2'⟩ := ht1
        refine wp_region_held_drew (S := fun W => W.cell? ⟨g, 0, none⟩ = some (.map (some bm')) ∧ W.cell? ⟨ts, 0, none⟩ = some (.int .i64 x) ∧ W.cell? ⟨ts, 1, none⟩ = some (.int .i64 n) ∧ MapI W bm' (mapA thingV S.tab)) (by kernel_rfl) ⟨d0, d1, d2, g5⟩ (fun hH => ?_)
        have HL := Lib.hid hl
        have hcn := (cells_of_block g2 1).1
        simp at hcn
        obtain ⟨oa1, oc1, rfl, -, -, -⟩ := g6.seq
        have HLN : Hid (lenAt g w1.drew < lenAt g wr) := by
          have e1 : lenAt g w1.drew = r.length := by show lenAt g w1 = _; unfold lenAt; rw [hcn]
          have e2 : lenAt g wr = r.length + 1 := by unfold lenAt; rw [c1]
          show lenAt g w1.drew < lenAt g wr
          omega
        clear hcn
        clear c0 c1 e0 e1 q1 q2 q3 q4 q5 b5 b6 b7 g2 g3 g4 g5 g6 g7 hl t1 B2 HG HO f1 f3 b4
        refine Go.Tr.tz 0 (v := ?_) rfl ?_ ?_
        rotate_left
        · intro W hW
          go_simp
          try with_reducible rfl
        try simp only [Go.Tr.nz]
        refine Go.Tr.tz 1 (v := ?_) rfl ?_ ?_
        rotate_left
        · intro W hW
          go_simp
          try with_reducible rfl
        try simp only [Go.Tr.nz]
        refine Go.Tr.tz 2 (v := ?_) rfl ?_ ?_
        rotate_left
        · intro W hW
          go_simp
          try with_reducible rfl
        try simp only [Go.Tr.nz]
        refine Go.Tr.tz 3 (v := ?_) rfl ?_ ?_
        rotate_left
        · intro W hW
          go_simp
          try with_reducible rfl
        try simp only [Go.Tr.nz]
        refine Go.Tr.tz 4 (v := ?_) rfl ?_ ?_
        rotate_left
        · intro W hW
          go_simp
          try with_reducible rfl
        try simp only [Go.Tr.nz]
        refine Go.Tr.tz 5 (v := ?_) rfl ?_ ?_
        rotate_left
        · intro W hW
          go_simp
          try with_reducible rfl
        try simp only [Go.Tr.nz]
        refine takeH 6 (v := .agg #[.int .i64 (S.at x).1, .int .i64 (S.at x).2]) rfl (by kernel_rfl) (by kernel_rfl) (by kernel_rfl) (fun _ _ _ h => h) (by rfl) ?_ hH ?_
        · intro W hW
          rw [← HL.out]
          exact exec_lookI (.tmp 30) (.tmp 32) 162 (by rfl) 3 167 Tryz.underlying162 Tryz.underlying3 _ zeroThing bm' _ (by rfl) hW.2.2.2 x (by rfl)
        try simp only [Go.Tr.nz]
        refine Go.Tr.tz 7 (v := ?_) rfl ?_ ?_
        rotate_left
        · intro W hW
          go_simp
          try with_reducible rfl
        try simp only [Go.Tr.nz]
        refine Go.Tr.tz 8 (v := ?_) rfl ?_ ?_
        rotate_left
        · intro W hW
          go_simp
          try with_reducible rfl
        try simp only [Go.Tr.nz]
        refine Go.Tr.tz 9 (v := ?_) rfl ?_ ?_
        rotate_left
        · intro W hW
          go_simp
          try with_reducible rfl
        try simp only [Go.Tr.nz]
        refine takeH 10 (v := .bool (decide (S.at x = (1, n)))) rfl (by kernel_rfl) (by kernel_rfl) (by kernel_rfl) (fun _ _ _ h => h) (by rfl) ?_ hH ?_
        · intro W hW
          go_simp
          rcases hp : S.at x with ⟨p1, p2⟩
          by_cases h1 : p1 = 1 <;> by_cases h2 : p2 = n <;> simp [h1, h2]
        try simp only [Go.Tr.nz]
        refine wpAnyH_done (by kernel_rfl) ?_ _
        by_cases hat : S.at x = (1, n)
        · rw [show decide (S.at x = (1, n)) = true by simp [hat]]
          have hq1' : Hid (S.next = (some x, ({ S with q := r } : GS).paint x)) := by
            have := HN.out
            rw [nextQ, if_pos hat] at this
            exact this
          have hcol : ({ S with q := r } : GS).color x = 1 := by show (S.at x).1 = 1; rw [hat]
          have hsm : ({ S with q := r } : GS).Small 1000000 := by
            obtain ⟨s1, s2, s3, s4, s5⟩ := HS.out
            refine ⟨s1, s2, s3, s4, ?_⟩
            have := HQK.out
            rw [← this.1]
            simp; omega
          have HCOL := Lib.hid hcol
          have HSM := Lib.hid hsm
          clear hcol hsm HQK HLN HL HN hat HS H
          go_wp2_with fail
          refine wp_region_held_drew (S := fun W => W.cell? ⟨ts, 0, none⟩ = some (.int .i64 x)) (by kernel_rfl) d1 (fun hH => ?_)
          refine Go.Tr.tz 0 (v := ?_) rfl ?_ ?_
          rotate_left
          · intro W hW
            go_simp
            try with_reducible rfl
          try simp only [Go.Tr.nz]
          refine Go.Tr.tz 1 (v := ?_) rfl ?_ ?_
          rotate_left
          · intro W hW
            go_simp
            try with_reducible rfl
          try simp only [Go.Tr.nz]
          refine Go.Tr.tz 2 (v := ?_) rfl ?_ ?_
          rotate_left
          · intro W hW
            go_simp
            try with_reducible rfl
          try simp only [Go.Tr.nz]
          refine Go.Tr.tz 3 (v := ?_) rfl ?_ ?_
          rotate_left
          · intro W hW
            go_simp
            try with_reducible rfl
          try simp only [Go.Tr.nz]
          refine Go.Tr.tz 4 (v := ?_) rfl ?_ ?_
          rotate_left
          · intro W hW
            go_simp
            try with_reducible rfl
          try simp only [Go.Tr.nz]
          refine wpAnyH_ready (rs := [5]) (by kernel_rfl) (by simp) (readyH rfl (fun K hK => ?_) AllReadyH.nil)
          rw [if_pos (by rfl)]
          go_simp
          refine (paint_any (F := fun k => grow F w w1 k ∧ k ≠ ts) (S := { S with q := r }) x _ (G1.out.drawn ⟨2, rfl⟩) HSM.out).mono ?_
          rintro e w2 ⟨rfl, h3, h4⟩
          rw [show decide (({ S with q := r } : GS).color x ≠ 2) = true by rw [HCOL.out]; decide]
          have hts2 : w2.heap[ts]? = some (.cells #[.int .i64 x, .int .i64 n] 190 (0, 0)) := (h4.block ts (Array.getElem?_eq_some_iff.1 T1.out).1 (fun h => h.2 rfl)).trans T1.out
          have hH2 : w2.cell? ⟨ts, 0, none⟩ = some (.int .i64 x) := by have := (cells_of_block hts2 0).1; simpa using this
          have G2 : Hid (GrayAt 165 w2 g (grow F w w2) (({ S with q := r } : GS).paint x)) := h3.mono (fun k hk => grow_trans O1.out.size h4.size k (grow_mono (G := grow F w w1) (fun k (hk : grow F w w1 k ∧ k ≠ ts) => hk.1) k hk))
          have O2 : Hid (Only F w w2) := O1.out.grow (Only.undrew (h4.mono (G := grow F w w1) (fun k hk => hk.1)))
          clear h3 h4 hts2 G1 O1 T1
          refine hK.out _ _ hH2 (fun hH => ?_)
          clear hK K
          try simp only [Go.Tr.nz]
          refine Go.Tr.tz 6 (v := ?_) rfl ?_ ?_
          rotate_left
          · intro W hW
            go_simp
            try with_reducible rfl
          try simp only [Go.Tr.nz]
          refine Go.Tr.tz 7 (v := ?_) rfl ?_ ?_
          rotate_left
          · intro W hW
            go_simp
            try with_reducible rfl
          try simp only [Go.Tr.nz]
          refine wpAnyH_done (by kernel_rfl) ?_ _
          go_wp2
          go_ret2
          rw [hq1'.out]
          exact ⟨rfl, G2.out, O2.out⟩
        · rw [show decide (S.at x = (1, n)) = false by simp [hat]]
          go_wp2_with fail
          go_roundw
          case rel =>
            obtain ⟨hdrop, hk1⟩ := HQK.out
            refine ⟨k + 1, hk1, ?_, O1.out.drew, ?_⟩
            · rw [hdrop]; exact G1.out.mono (fun k hk => hk.1)
            · rw [hdrop]
              have := HN.out
              rw [nextQ, if_neg hat] at this
              exact this
          case measure => exact HLN.out
end Go.Proofs.YtcdpnfchmpncjaaGreatDoor

namespace Go.Proofs.YtcdpnfchmpncjaaGreatDoor
open Go.RowKit Go.Tr Go.Shelf
structure Ad where
  (c h s b m t tr trm rm sp mn u bg u2 gl : Nat)
structure HS where
  (C Wd K : Nat)
  L : Lay
  (ws own : List Nat)
  sl : List Sl
  mine : List Int
  ps : List (Nat × Nat)
  (a en : Nat)
  on : Bool
  ps2 : List (Nat × Nat)
  (a2 en2 : Nat)
  gs : GS
def pv (x : Nat) : Value := .pointer (some ⟨x, 0, none⟩)
def CellsAt (w : World) (F : Nat → Prop) (A : Ad) (sp mn : List (Int × Value)) : Prop := F A.c ∧ F A.sp ∧ F A.mn ∧ A.sp ≠ A.mn ∧ w.heap[A.c]? = some (.cells #[.pointer (some ⟨A.s, 0, none⟩), .pointer (some ⟨A.b, 0, none⟩), .pointer (some ⟨A.m, 0, none⟩), .pointer (some ⟨A.t, 0, none⟩), .pointer (some ⟨A.tr, 0, none⟩), .pointer (some ⟨A.rm, 0, none⟩), .map (some A.sp), .map (some A.mn)] 56 (0, 0)) ∧ MapI w A.sp sp ∧ MapI w A.mn mn
def EvOn (A : Ad) : Bool → Array Value
  | false => #[.pointer (some ⟨A.c, 0, none⟩), .int .i64 0, .pointer none, .pointer none]
  | true => #[.pointer (some ⟨A.c, 0, none⟩), .int .i64 1, .pointer (some ⟨A.u2, 0, none⟩), .pointer (some ⟨A.gl, 0, none⟩)]
def EvAt (w : World) (F : Nat → Prop) (A : Ad) (on : Bool) : Prop := F A.h ∧ w.heap[A.h]? = some (.cells (EvOn A on) 31 (0, 0))
def tree1 : TS := ⟨[(1, 0)], 1⟩
def TrF (w : World) (F : Nat → Prop) (A : Ad) (S : TS) : Prop := F A.tr ∧ F A.trm ∧ TreeAt w A.tr A.trm S
def PP (A : Ad) (S : HS) : Nat → Part
  | 0 => fun w F => CellsAt w F A [(1, pv A.u)] [(1, pv A.bg)]
  | 1 => fun w F => StF w F A.s S.C S.Wd S.ws S.own
  | 2 => fun w F => Bk1 w F A.b S.L ∧ RightLay S.L
  | 3 => fun w F => TbF w F A.t S.K S.sl
  | 4 => fun w F => TrF w F A tree1
  | 5 => fun w F => RemF w F A.rm
  | 6 => fun w F => SpF 154 w F A.u A.s 1 S.ps S.a S.en
  | 7 => fun w F => Bag w A.bg F S.mine
  | 8 => fun w F => F A.m ∧ ImAt w A.m A.s A.b
  | 9 => fun w F => EvAt w F A S.on
  | 10 => fun w F => S.on = true → SpF 154 w F A.u2 A.s 1 S.ps2 S.a2 S.en2
  | 11 => fun w F => S.on = true → GrayAt 165 w A.gl F S.gs
  | _ => fun _ _ => True
variable {w w' : World} {F G : Nat → Prop} {A : Ad} {S : HS}
theorem StF.mono {g C Wd : Nat} {ws own : List Nat} (h : StF w F g C Wd ws own) (hs : ∀ k, F k → G k) : StF w G g C Wd ws own := by
  obtain ⟨wb, ob, m, Fm, h, h1, h2, h3, h4⟩ := h; exact ⟨wb, ob, m, Fm, h, hs _ h1, hs _ h2, hs _ h3, fun k hk => hs _ (h4 k hk)⟩
theorem TbF.mono {t K : Nat} {sl : List Sl} (h : TbF w F t K sl) (hs : ∀ k, F k → G k) : TbF w G t K sl := by
  obtain ⟨tb, m, Fm, h, h1, h2, h3⟩ := h; exact ⟨tb, m, Fm, h, hs _ h1, hs _ h2, fun k hk => hs _ (h3 k hk)⟩
theorem Bk1.mono {b : Nat} {L : Lay} (h : Bk1 w F b L) (hs : ∀ k, F k → G k) : Bk1 w G b L := by
  obtain ⟨h1, lb, lo, cap, ra, rc, sa, sc, h2, h3, h4, h5, h6⟩ := h
  exact ⟨hs _ h1, lb, lo, cap, ra, rc, sa, sc, h2, hs _ h3, h4, h5.mono hs, h6⟩
theorem RemF.mono {r : Nat} (h : RemF w F r) (hs : ∀ k, F k → G k) : RemF w G r := by
  obtain ⟨h0, m1, m2, m3, c, h1, f1, f2, f3, h2⟩ := h; exact ⟨hs _ h0, m1, m2, m3, c, h1, hs _ f1, hs _ f2, hs _ f3, h2⟩
theorem Bag.kept {g : Nat} {zs : List Int} (h : Bag w g F zs) (hk : ∀ k, F k → k < w.heap.size → w'.heap[k]? = w.heap[k]?) : Bag w' g F zs := by
  obtain ⟨v, h1, h2, h3⟩ := h; exact ⟨v, h1.kept (hk _ h2 h1.lt) (fun k hv => hk k (h3 k hv) (h1.own.lt k hv).2), h2, h3⟩
theorem _root_.Go.Tr.GrayAt.kept {T : TypeId} {g : Nat} {S : GS} (h : GrayAt T w g F S) (hk : ∀ k, F k → k < w.heap.size → w'.heap[k]? = w.heap[k]?) : GrayAt T w' g F S := by
  have hl := h.lt
  obtain ⟨h1, bm, qv, h2, h3, h4, h5, h6, h7⟩ := h
  exact ⟨h1, bm, qv, (hk g h1 hl).trans h2, h3, h4, h5.kept (hk bm h3 h5.lt), h6.kept (fun k hv => hk k (h7 k hv).1 (h6.lt k hv)), h7⟩
theorem block_lt {b : Nat} {o : Obj} (h : w.heap[b]? = some o) : b < w.heap.size := (Array.getElem?_eq_some_iff.1 h).1
theorem CellsAt.kept {sp mn : List (Int × Value)} (h : CellsAt w F A sp mn) (hk : ∀ k, F k → k < w.heap.size → w'.heap[k]? = w.heap[k]?) : CellsAt w' F A sp mn :=
  ⟨h.1, h.2.1, h.2.2.1, h.2.2.2.1, (hk _ h.1 (block_lt h.2.2.2.2.1)).trans h.2.2.2.2.1, h.2.2.2.2.2.1.kept (hk _ h.2.1 h.2.2.2.2.2.1.lt), h.2.2.2.2.2.2.kept (hk _ h.2.2.1 h.2.2.2.2.2.2.lt)⟩
theorem TrF.kept {T : TS} (h : TrF w F A T) (hk : ∀ k, F k → k < w.heap.size → w'.heap[k]? = w.heap[k]?) : TrF w' F A T := ⟨h.1, h.2.1, h.2.2.kept (hk _ h.1 h.2.2.lt.1) (hk _ h.2.1 h.2.2.lt.2)⟩
theorem pp_parts (A : Ad) (S : HS) : Parts (PP A S) := by
  refine ⟨fun j w w' F h hk => ?_, fun j w F G h hs => ?_⟩
  · match j with
    | 0 => exact CellsAt.kept h hk
    | 1 => exact StF.kept h hk
    | 2 => exact ⟨Bk1.kept h.1 hk, h.2⟩
    | 3 => exact TbF.kept h hk
    | 4 => exact TrF.kept h hk
    | 5 => exact RemF.kept h hk
    | 6 => exact SpF.kept h hk
    | 7 => exact Bag.kept h hk
    | 8 => exact ⟨h.1, (hk _ h.1 (block_lt h.2)).trans h.2⟩
    | 9 => exact ⟨h.1, (hk _ h.1 (block_lt h.2)).trans h.2⟩
    | 10 => exact fun e => SpF.kept (h e) hk
    | 11 => exact fun e => GrayAt.kept (h e) hk
    | _ + 12 => trivial
  · match j with
    | 0 => exact ⟨hs _ h.1, hs _ h.2.1, hs _ h.2.2.1, h.2.2.2⟩
    | 1 => exact StF.mono h hs
    | 2 => exact ⟨Bk1.mono h.1 hs, h.2⟩
    | 3 => exact TbF.mono h hs
    | 4 => exact ⟨hs _ h.1, hs _ h.2.1, h.2.2⟩
    | 5 => exact RemF.mono h hs
    | 6 => exact SpF.mono h hs
    | 7 => exact Bag.mono h hs
    | 8 => exact ⟨hs _ h.1, h.2⟩
    | 9 => exact ⟨hs _ h.1, h.2⟩
    | 10 => exact fun e => SpF.mono (h e) hs
    | 11 => exact fun e => GrayAt.mono (h e) hs
    | _ + 12 => trivial
def TzF (w : World) (F : Nat → Prop) : Prop := ∃ B, (∀ k, F k → B ≤ k) ∧ B ≤ w.heap.size ∧ ∀ W : World, (∀ k, k < B → W.heap[k]? = w.heap[k]?) → Tz W
theorem TzF.at (h : TzF w F) : Tz w := by obtain ⟨B, h1, h2, h3⟩ := h; exact h3 w (fun _ _ => rfl)
theorem TzF.grow {U : Nat → Prop} (h : TzF w F) (ho : Only F w w') : TzF w' (grow F w w') := by
  obtain ⟨B, h1, h2, h3⟩ := h
  have hs := ho.size
  exact ⟨B, fun k hk => hk.elim (h1 k) (fun hk => by omega), by omega, fun W hW => h3 W (fun k hk => (hW k hk).trans (ho.block k (by omega) (fun hf => by have := h1 k hf; omega)))⟩
theorem TzF.below (h : TzF w F) (hb : Below w.heap.size w w') : TzF w' F := by
  obtain ⟨B, h1, h2, h3⟩ := h
  have hs := hb.size
  exact ⟨B, h1, by omega, fun W hW => h3 W (fun k hk => (hW k hk).trans (hb.block k (by omega)))⟩
def HeapF (w : World) (F : Nat → Prop) (A : Ad) (S : HS) : Prop := Comp (PP A S) w F ∧ TzF w F
theorem HeapF.below (h : HeapF w F A S) (hb : Below w.heap.size w w') : HeapF w' F A S := ⟨h.1.below (pp_parts A S) hb, h.2.below hb⟩
theorem HeapF.lt (h : HeapF w F A S) : ∀ k, F k → k < w.heap.size := h.1.1
theorem HeapF.cells (h : HeapF w F A S) : w.heap[A.c]? = some (.cells #[.pointer (some ⟨A.s, 0, none⟩), .pointer (some ⟨A.b, 0, none⟩), .pointer (some ⟨A.m, 0, none⟩), .pointer (some ⟨A.t, 0, none⟩), .pointer (some ⟨A.tr, 0, none⟩), .pointer (some ⟨A.rm, 0, none⟩), .map (some A.sp), .map (some A.mn)] 56 (0, 0)) ∧ MapI w A.sp [(1, pv A.u)] ∧ MapI w A.mn [(1, pv A.bg)] ∧ F A.c := by
  obtain ⟨G, hG, h0⟩ := h.1.read 0
  obtain ⟨f, _, _, _, h1, h2, h3⟩ : CellsAt w G A [(1, pv A.u)] [(1, pv A.bg)] := h0
  exact ⟨h1, h2, h3, hG _ f⟩
theorem HeapF.ev (h : HeapF w F A S) : w.heap[A.h]? = some (.cells (EvOn A S.on) 31 (0, 0)) ∧ F A.h := by
  obtain ⟨G, hG, h0⟩ := h.1.read 9
  obtain ⟨f, h1⟩ : EvAt w G A S.on := h0
  exact ⟨h1, hG _ f⟩
theorem HeapF.img (h : HeapF w F A S) : ∃ G H : Nat → Prop, ImgEnv w G H A.m A.s A.b S.C S.Wd S.L S.ws S.own ∧ (∀ k, G k → F k) ∧ (∀ k, H k → F k) ∧ F A.m := by
  obtain ⟨G, hG, h1⟩ := h.1.read 1
  obtain ⟨H, hH, h2⟩ := h.1.read 2
  obtain ⟨K, hK, h3⟩ := h.1.read 8
  exact ⟨G, H, ⟨h3.2, h1, h2.1, h2.2⟩, hG, hH, hK _ h3.1⟩
theorem HeapF.table (h : HeapF w F A S) : ∃ G : Nat → Prop, TbF w G A.t S.K S.sl ∧ (∀ k, G k → F k) := by
  obtain ⟨G, hG, h1⟩ := h.1.read 3; exact ⟨G, h1, hG⟩
theorem HeapF.put (h : TzF w F) (h2 : Comp (PP A S) w' (grow F w w') ∧ Only F w w') : HeapF w' (grow F w w') A S ∧ Only F w w' := ⟨⟨h2.1, h.grow (U := F) h2.2⟩, h2.2⟩
theorem HeapF.setTable (h : HeapF w F A S) : ∃ G : Nat → Prop, TbF w G A.t S.K S.sl ∧ (∀ k, G k → F k) ∧ ∀ sl w', TbF w' G A.t S.K sl → Only G w w' → HeapF w' (grow F w w') A { S with sl := sl } ∧ Only F w w' := by
  obtain ⟨G, hG, h1, -, hb⟩ := h.1.part1 (pp_parts A S) 3
  refine ⟨G, h1, hG, fun sl w' ht ho => HeapF.put h.2 (hb (PP A { S with sl := sl }) w' (pp_parts _ _) (fun j hj => ?_) (TbF.mono ht (fun k hk => Or.inl hk)) ho)⟩
  unfold PP
  split <;> first | rfl | exact absurd rfl hj
theorem HeapF.setStore (h : HeapF w F A S) : ∃ G H : Nat → Prop, ImgEnv w G H A.m A.s A.b S.C S.Wd S.L S.ws S.own ∧ (∀ k, G k → F k) ∧ ¬ G A.m ∧ ∀ ws w', StF w' G A.s S.C S.Wd ws S.own → Only G w w' → HeapF w' (grow F w w') A { S with ws := ws } ∧ Only F w w' := by
  obtain ⟨G, hG, h1, hoth, hb⟩ := h.1.part1 (pp_parts A S) 1
  obtain ⟨H, hH, h2⟩ := hoth 2 (by decide)
  obtain ⟨M, hM, h3⟩ := hoth 8 (by decide)
  refine ⟨G, H, ⟨h3.2, h1, h2.1, h2.2⟩, hG, (hM _ h3.1).2, fun ws w' ht ho => HeapF.put h.2 (hb (PP A { S with ws := ws }) w' (pp_parts _ _) (fun j hj => ?_) (StF.mono ht (fun k hk => Or.inl hk)) ho)⟩
  unfold PP
  split <;> first | rfl | exact absurd rfl hj
def Run (w : World) (F : Nat → Prop) (W : World) (F1 : Nat → Prop) (A : Ad) (S : HS) : Prop := Comp (PP A S) W F1 ∧ Only F w W ∧ (∀ k, F1 k → F k ∨ w.heap.size ≤ k) ∧ TzF w F
variable {W W' : World} {F1 : Nat → Prop} {A' : Ad} {S' : HS}
theorem Run.start (h : HeapF w F A S) : Run w F w F A S := ⟨h.1, Only.refl _ _, fun k hk => Or.inl hk, h.2⟩
theorem Run.tz (h : Run w F W F1 A S) : TzF W F1 := by
  obtain ⟨h1, h2, h3, B, t1, t2, t3⟩ := h
  have hs := h2.size
  exact ⟨B, fun k hk => (h3 k hk).elim (t1 k) (fun h => by omega), by omega, fun V hV => t3 V (fun k hk => (hV k hk).trans (h2.block k (by omega) (fun hf => by have := t1 k hf; omega)))⟩
theorem Run.heap (h : Run w F W F1 A S) : HeapF W F1 A S := ⟨h.1, h.tz⟩
theorem Run.below (h : Run w F W F1 A S) (hb : Below W.heap.size W W') : Run w F W' F1 A S :=
  ⟨h.1.below (pp_parts A S) hb, h.2.1.trans (Only.of_below hb (fun _ => False)) (fun k hk => hk.elim), h.2.2.1, h.2.2.2⟩
theorem Run.op (h : Run w F W F1 A S) (k : HeapF W' (grow F1 W W') A' S' ∧ Only F1 W W') : Run w F W' (grow F1 W W') A' S' :=
  ⟨k.1.1, h.2.1.trans k.2 h.2.2.1, fun j hj => hj.elim (h.2.2.1 j) (fun hj => Or.inr (Nat.le_trans h.2.1.size hj.1)), h.2.2.2⟩
theorem Comp.mono {X : Nat → Part} (hp : Parts X) (h : Comp X w F) (hs : ∀ k, F k → G k) (hb : ∀ k, G k → k < w.heap.size) : Comp X w G := by
  obtain ⟨h1, tau, ht⟩ := h
  exact ⟨hb, tau, fun j => hp.mono j w _ _ (ht j) (fun k hk => ⟨hs k hk.1, hk.2⟩)⟩
theorem Run.fin (h : Run w F W F1 A S) (hF : ∀ k, F k → k < w.heap.size) : HeapF W (grow F w W) A S ∧ Only F w W :=
  ⟨⟨Comp.mono (pp_parts A S) h.1 (fun k hk => (h.2.2.1 k hk).imp id (fun h2 => ⟨h2, h.1.1 k hk⟩)) (grow_lt hF h.2.1.size), h.2.2.2.grow (U := F) h.2.1⟩, h.2.1⟩
theorem Run.loc {b j : Nat} {v : Value} (h : Run w F W F1 A S) (hb : w.heap.size ≤ b) (hn : ¬ F1 b) : Run w F (W.setCell ⟨b, j, none⟩ v) F1 A S := by
  obtain ⟨⟨h0, tau, ht⟩, h2, h3, h4⟩ := h
  exact ⟨⟨fun k hk => by simpa [World.setCell] using h0 k hk, tau, fun i => (pp_parts A S).kept i W _ _ (ht i) (fun k hk _ => Below.heap_setCell _ _ _ _ (fun e => hn (by rw [← show k = b from e]; exact hk.1)))⟩, h2.setCell (p := ⟨b, j, none⟩) (Or.inr hb) v, h3, h4⟩
def Bx (W : World) (F1 : Nat → Prop) (b : Nat) (o : Obj) : Prop := ¬ F1 b ∧ W.heap[b]? = some o
theorem Bx.below {b : Nat} {o : Obj} (h : Bx W F1 b o) (hb : Below W.heap.size W W') : Bx W' F1 b o := ⟨h.1, (hb.block b (block_lt h.2)).trans h.2⟩
theorem Bx.op {b : Nat} {o : Obj} (h : Bx W F1 b o) (k : Only F1 W W') : Bx W' (grow F1 W W') b o := ⟨fun hg => hg.elim h.1 (fun hg => by have := block_lt h.2; omega), (k.block b (block_lt h.2) h.1).trans h.2⟩
theorem Bx.new {o : Obj} (h : ∀ k, F1 k → k < W.heap.size) : Bx (W.alloc o) F1 W.heap.size o := ⟨fun hk => Nat.lt_irrefl _ (h _ hk), heap_alloc_new W o⟩
theorem HeapF.set (h : HeapF w F A S) {x : Sl} {i : Nat} (hx : S.sl[i]? = some x) (hu : x.used = true) (ad rg : Nat) (hd pn : Bool) :
    Calls Tryz.prog 41 #[.pointer (some ⟨A.t, 0, none⟩), .agg #[.int .i64 i, .int .i64 x.gen], .agg #[.int .i64 ad, .int .i64 rg, .bool hd, .bool pn]] w fun e w' => e = .returned (.int .i64 0) ∧ HeapF w' (grow F w w') A { S with sl := S.sl.set i ⟨x.gen, x.used, ad, rg, hd, pn⟩ } ∧ Only F w w' := by
  obtain ⟨G, ht, hG, hput⟩ := h.setTable
  exact (tset_any ad rg hd pn w ht (fun k hk => h.lt k (hG k hk)) hx hu).mono fun e w' ⟨e1, e2, e3⟩ => ⟨e1, hput _ w' e2 e3⟩
end Go.Proofs.YtcdpnfchmpncjaaGreatDoor

namespace Go.Proofs.YtcdpnfchmpncjaaGreatDoor
open Go.RowKit Go.Tr Go.Shelf
variable {w w' : World} {F G : Nat → Prop} {A : Ad} {S : HS}
theorem al2 (w : World) (o1 o2 : Obj) : Below w.heap.size w ((w.alloc o1).alloc o2) ∧ ((w.alloc o1).alloc o2).heap[w.heap.size]? = some o1 ∧ ((w.alloc o1).alloc o2).heap[w.heap.size + 1]? = some o2 :=
  ⟨((Below.refl _ w).alloc (Nat.le_refl _) _).alloc (by simp) _, (Below.heap_alloc _ _ _ (by simp)).trans (heap_alloc_new w _), heap_alloc2_new w _ _⟩
theorem al3 (w : World) (o1 o2 o3 : Obj) : Below w.heap.size w (((w.alloc o1).alloc o2).alloc o3) ∧ (((w.alloc o1).alloc o2).alloc o3).heap[w.heap.size]? = some o1 ∧ (((w.alloc o1).alloc o2).alloc o3).heap[w.heap.size + 1]? = some o2 ∧ (((w.alloc o1).alloc o2).alloc o3).heap[w.heap.size + 1 + 1]? = some o3 := by
  obtain ⟨h1, h2, h3⟩ := al2 w o1 o2
  have hs : ((w.alloc o1).alloc o2).heap.size = w.heap.size + 1 + 1 := by simp
  refine ⟨h1.alloc (by rw [hs]; omega) _, (Below.heap_alloc _ _ _ (block_lt h2)).trans h2, (Below.heap_alloc _ _ _ (block_lt h3)).trans h3, ?_⟩
  rw [← hs]; exact heap_alloc_new _ _
theorem al4 (w : World) (o1 o2 o3 o4 : Obj) : Below w.heap.size w ((((w.alloc o1).alloc o2).alloc o3).alloc o4) ∧ ((((w.alloc o1).alloc o2).alloc o3).alloc o4).heap[w.heap.size]? = some o1 ∧ ((((w.alloc o1).alloc o2).alloc o3).alloc o4).heap[w.heap.size + 1]? = some o2 ∧ ((((w.alloc o1).alloc o2).alloc o3).alloc o4).heap[w.heap.size + 1 + 1]? = some o3 ∧ ((((w.alloc o1).alloc o2).alloc o3).alloc o4).heap[w.heap.size + 1 + 1 + 1]? = some o4 := by
  obtain ⟨h1, h2, h3, h4⟩ := al3 w o1 o2 o3
  have hs : (((w.alloc o1).alloc o2).alloc o3).heap.size = w.heap.size + 1 + 1 + 1 := by simp
  refine ⟨h1.alloc (by rw [hs]; omega) _, (Below.heap_alloc _ _ _ (block_lt h2)).trans h2, (Below.heap_alloc _ _ _ (block_lt h3)).trans h3, (Below.heap_alloc _ _ _ (block_lt h4)).trans h4, ?_⟩
  rw [← hs]; exact heap_alloc_new _ _
theorem al5 (w : World) (o1 o2 o3 o4 o5 : Obj) : Below w.heap.size w (((((w.alloc o1).alloc o2).alloc o3).alloc o4).alloc o5) ∧ (((((w.alloc o1).alloc o2).alloc o3).alloc o4).alloc o5).heap[w.heap.size]? = some o1 ∧ (((((w.alloc o1).alloc o2).alloc o3).alloc o4).alloc o5).heap[w.heap.size + 1]? = some o2 ∧ (((((w.alloc o1).alloc o2).alloc o3).alloc o4).alloc o5).heap[w.heap.size + 1 + 1]? = some o3 ∧ (((((w.alloc o1).alloc o2).alloc o3).alloc o4).alloc o5).heap[w.heap.size + 1 + 1 + 1]? = some o4 ∧ (((((w.alloc o1).alloc o2).alloc o3).alloc o4).alloc o5).heap[w.heap.size + 1 + 1 + 1 + 1]? = some o5 := by
  obtain ⟨h1, h2, h3, h4, h5⟩ := al4 w o1 o2 o3 o4
  have hs : ((((w.alloc o1).alloc o2).alloc o3).alloc o4).heap.size = w.heap.size + 1 + 1 + 1 + 1 := by simp
  refine ⟨h1.alloc (by rw [hs]; omega) _, (Below.heap_alloc _ _ _ (block_lt h2)).trans h2, (Below.heap_alloc _ _ _ (block_lt h3)).trans h3, (Below.heap_alloc _ _ _ (block_lt h4)).trans h4, (Below.heap_alloc _ _ _ (block_lt h5)).trans h5, ?_⟩
  rw [← hs]; exact heap_alloc_new _ _
theorem HeapF.fields (h : HeapF w F A S) {W : World} (hb : Below w.heap.size w W) : W.cell? ⟨A.c, 0, none⟩ = some (.pointer (some ⟨A.s, 0, none⟩)) ∧ W.cell? ⟨A.c, 1, none⟩ = some (.pointer (some ⟨A.b, 0, none⟩)) ∧ W.cell? ⟨A.c, 2, none⟩ = some (.pointer (some ⟨A.m, 0, none⟩)) ∧ W.cell? ⟨A.c, 3, none⟩ = some (.pointer (some ⟨A.t, 0, none⟩)) ∧ W.cell? ⟨A.c, 4, none⟩ = some (.pointer (some ⟨A.tr, 0, none⟩)) ∧ W.cell? ⟨A.c, 5, none⟩ = some (.pointer (some ⟨A.rm, 0, none⟩)) ∧ W.cell? ⟨A.c, 6, none⟩ = some (.map (some A.sp)) ∧ W.cell? ⟨A.c, 7, none⟩ = some (.map (some A.mn)) := by
  have hc := (h.below hb).cells.1
  refine ⟨?_, ?_, ?_, ?_, ?_, ?_, ?_, ?_⟩ <;> · rw [(cells_of_block hc _).1]; rfl
theorem HeapF.get (h : HeapF w F A S) {x : Sl} {i : Nat} (hx : S.sl[i]? = some x) (hu : x.used = true) {W : World} (hb : Below w.heap.size w W) :
    Calls Tryz.prog 94 #[.pointer (some ⟨A.t, 0, none⟩), .agg #[.int .i64 i, .int .i64 x.gen]] W fun e w' => e = .returned (.tuple #[entryV x, .int .i64 0]) ∧ Below W.heap.size W w' := by
  obtain ⟨G, ht, -⟩ := (h.below hb).table; exact tget_any W ht hx hu
theorem HeapF.slot (h : HeapF w F A S) {x : Sl} {i : Nat} (hx : S.sl[i]? = some x) (hu : x.used = true) {W : World} (hb : Below w.heap.size w W) :
    Calls Tryz.prog 106 #[.pointer (some ⟨A.t, 0, none⟩), .int .i64 i] W fun e w' => e = .returned (.tuple #[.agg #[.int .i64 i, .int .i64 x.gen], .bool true]) ∧ Below W.heap.size W w' := by
  obtain ⟨G, ht, -⟩ := (h.below hb).table; exact tat_any W ht hx hu
set_option maxRecDepth 100000 in
set_option maxHeartbeats 1000000 in
theorem cat_any {x : Sl} {i : Nat} (w : World) (h : HeapF w F A S) (hx : S.sl[i]? = some x) (hu : x.used = true) : Calls Tryz.prog 112 #[.pointer (some ⟨A.c, 0, none⟩), .int .i64 i] w fun e w' => e = .returned (.tuple #[entryV x, .bool true]) ∧ Below w.heap.size w w' := by
  have HF := Lib.hid (fun W (hb : Below w.heap.size w W) => h.fields hb)
  have HG := Lib.hid (fun W (hb : Below w.heap.size w W) => h.get hx hu hb)
  have HS := Lib.hid (fun W (hb : Below w.heap.size w W) => h.slot hx hu hb)
  have hcl := h.lt _ h.cells.2.2.2
  obtain ⟨g, ug, ad, rg, hd, pn⟩ := x
  simp only [entryV] at HG ⊢
  have hba : Below w.heap.size w (w.alloc (.cells #[.int .i64 0, .int .i64 0, .bool false, .bool false] 93)) := (Below.refl _ w).alloc (Nat.le_refl _) _
  have HBA := Lib.hid hba
  obtain ⟨rb, hrb⟩ : ∃ rb, rb = w.heap.size := ⟨_, rfl⟩
  have HRB : Hid ((w.alloc (.cells #[.int .i64 0, .int .i64 0, .bool false, .bool false] 93)).heap[rb]? = some (.cells #[.int .i64 0, .int .i64 0, .bool false, .bool false] 93 (0, 0))) := by rw [hrb]; exact heap_alloc_new w _
  obtain ⟨-, -, -, c3, -⟩ := HF.out _ hba
  clear h hx hu hba
  go_enter Tryz.func112, Tryz.ntmps112
  go_wp2_with fail
  rw [← hrb]
  have HRE : Hid (w.heap.size ≤ rb) := Nat.le_of_eq hrb.symm
  clear hrb
  generalize w.alloc (.cells #[.int .i64 0, .int .i64 0, .bool false, .bool false] 93) = wa at *
  refine (HS.out wa HBA.out).mono ?_
  rintro e w1 ⟨rfl, hb1⟩
  have HB1 : Hid (Below w.heap.size w (w1.alloc (.cells #[.int .i64 i, .int .i64 g] 38))) := (HBA.out.trans (hb1.mono HBA.out.size)).alloc (Nat.le_trans HBA.out.size hb1.size) _
  have hr1 := (hb1.block rb (block_lt HRB.out)).trans HRB.out
  have HR1 : Hid ((w1.alloc (.cells #[.int .i64 i, .int .i64 g] 38)).heap[rb]? = some (.cells #[.int .i64 0, .int .i64 0, .bool false, .bool false] 93 (0, 0))) := (Below.heap_alloc _ _ _ (block_lt hr1)).trans hr1
  obtain ⟨tb, htb⟩ : ∃ tb, tb = w1.heap.size := ⟨_, rfl⟩
  have HTB : Hid ((w1.alloc (.cells #[.int .i64 i, .int .i64 g] 38)).heap[tb]? = some (.cells #[.int .i64 i, .int .i64 g] 38 (0, 0))) := by rw [htb]; exact heap_alloc_new w1 _
  clear hb1 hr1
  go_wp2_with fail
  rw [← htb]
  clear htb c3
  generalize w1.alloc (.cells #[.int .i64 i, .int .i64 g] 38) = w2 at *
  obtain ⟨n2, hn2⟩ : ∃ n, n = w2.heap.size := ⟨_, rfl⟩
  have HN2 : Hid (n2 = w2.heap.size) := hn2
  have HW : Hid (∀ W, Below n2 w2 W → Below w.heap.size w W) := fun W hb => by rw [hn2] at hb; exact HB1.out.trans (hb.mono HB1.out.size)
  clear hn2
  have HD : Hid (∀ W, Below n2 w2 W → W.cell? ⟨A.c, 3, none⟩ = some (.pointer (some ⟨A.t, 0, none⟩)) ∧ W.cell? ⟨tb, 0, none⟩ = some (.int .i64 i) ∧ W.cell? ⟨tb, 1, none⟩ = some (.int .i64 g)) := fun W hb => by
    have ht := (hb.block tb (by rw [HN2.out]; exact block_lt HTB.out)).trans HTB.out
    exact ⟨(HF.out W (HW.out W hb)).2.2.2.1, (cells_of_block ht 0).1, (cells_of_block ht 1).1⟩
  refine wp_region_held_drew (S := Below n2 w2) (by kernel_rfl) (Below.refl n2 w2).drew (fun hH => ?_)
  refine tk 0 (v := ?_) rfl ?_ ?_; rotate_left; · intro W hW; go_simp; try with_reducible rfl
  refine tk 1 (v := ?_) rfl ?_ ?_; rotate_left; · intro W hW; go_simp; try with_reducible rfl
  refine tk 2 (v := ?_) rfl ?_ ?_; rotate_left; · intro W hW; go_simp; try with_reducible rfl
  refine tk 3 (v := ?_) rfl ?_ ?_; rotate_left; · intro W hW; obtain ⟨d3, e0, e1⟩ := HD.out W hW; go_simp; try with_reducible rfl
  refine tk 4 (v := ?_) rfl ?_ ?_; rotate_left; · intro W hW; obtain ⟨d3, e0, e1⟩ := HD.out W hW; go_simp; try with_reducible rfl
  refine rd2 5 9 rfl rfl (fun K hK => ?_) (fun K hK => ?_)
  focus
    go_simp
    refine (HG.out _ (HW.out _ hH)).mono ?_
    rintro e w3 ⟨rfl, hb3⟩
    have HB3 : Hid (Below n2 w2 w3) := hH.trans (hb3.mono (by rw [HN2.out]; exact hH.size))
    refine hK.out _ _ HB3.out (fun hH => ?_)
    clear hK K hb3
    refine tk 6 (v := ?_) rfl ?_ ?_; rotate_left; · intro W hW; go_simp; try with_reducible rfl
    refine tk 7 (v := ?_) rfl ?_ ?_; rotate_left; · intro W hW; go_simp; try with_reducible rfl
    refine tk 8 (v := ?_) rfl ?_ ?_; rotate_left; · intro W hW; go_simp; try with_reducible rfl
    refine rd 9 rfl (fun K hK => ?_)
    go_simp
    have HB4 : Hid (Below n2 w2 (w3.alloc (.cells #[.int .i64 ad, .int .i64 rg, .bool hd, .bool pn] 93))) := HB3.out.alloc (by rw [HN2.out]; exact HB3.out.size) _
    refine hK.out _ _ (HB3.out.alloc (by rw [HN2.out]; exact HB3.out.size) _) (fun hH => ?_)
    clear hK K
    refine rd 10 rfl (fun K hK => ?_)
    go_simp
    refine hK.out _ _ HB4.out (fun hH => ?_)
    clear hK K
    obtain ⟨xb, hxb⟩ : ∃ xb, xb = w3.heap.size := ⟨_, rfl⟩
    have HX : Hid ((w3.alloc (.cells #[.int .i64 ad, .int .i64 rg, .bool hd, .bool pn] 93)).heap[xb]? = some (.cells #[.int .i64 ad, .int .i64 rg, .bool hd, .bool pn] 93 (0, 0))) := by rw [hxb]; exact heap_alloc_new w3 _
    rw [← hxb]
    clear hxb
    generalize w3.alloc (.cells #[.int .i64 ad, .int .i64 rg, .bool hd, .bool pn] 93) = w4 at *
  rotate_left
  focus
    go_simp
    have hb3 : Below n2 w2 (w2.alloc (.cells #[.int .i64 0, .int .i64 0, .bool false, .bool false] 93)).drew := ((Below.refl n2 w2).alloc (Nat.le_of_eq HN2.out) _).drew
    refine hK.out _ _ hb3 (fun hH => ?_)
    clear hK K
    refine rd 5 rfl (fun K hK => ?_)
    go_simp
    refine (HG.out _ (HW.out _ hH)).mono ?_
    rintro e w3 ⟨rfl, hbc⟩
    have HB3 : Hid (Below n2 w2 w3) := hb3.trans (hbc.mono (by rw [HN2.out]; exact hb3.size))
    obtain ⟨xb, hxb⟩ : ∃ xb, xb = w2.heap.size := ⟨_, rfl⟩
    have HX3 : Hid (w3.heap[xb]? = some (.cells #[.int .i64 0, .int .i64 0, .bool false, .bool false] 93 (0, 0))) := by rw [hxb]; exact (hbc.block _ (by simp)).trans (heap_alloc_new w2 _)
    refine hK.out _ _ HB3.out (fun hH => ?_)
    rw [← hxb]
    have hxw : n2 ≤ xb := by rw [HN2.out]; exact Nat.le_of_eq hxb.symm
    clear hK K hb3 hbc hxb
    refine tk 6 (v := ?_) rfl ?_ ?_; rotate_left; · intro W hW; go_simp; try with_reducible rfl
    refine tk 7 (v := ?_) rfl ?_ ?_; rotate_left; · intro W hW; go_simp; try with_reducible rfl
    refine tk 8 (v := ?_) rfl ?_ ?_; rotate_left; · intro W hW; go_simp; try with_reducible rfl
    have z0 := cells_of_block HX3.out 0
    have z1 := cells_of_block HX3.out 1
    have z2 := cells_of_block HX3.out 2
    have z3 := cells_of_block HX3.out 3
    simp at z0 z1 z2 z3
    obtain ⟨z0, f0⟩ := z0
    obtain ⟨z1, f1⟩ := z1
    obtain ⟨z2, f2⟩ := z2
    obtain ⟨z3, f3⟩ := z3
    refine rd 10 rfl (fun K hK => ?_)
    go_simp
    have HB4 : Hid (Below n2 w2 ((((w3.setCell ⟨xb, 0, none⟩ (.int .i64 ad)).setCell ⟨xb, 1, none⟩ (.int .i64 rg)).setCell ⟨xb, 2, none⟩ (.bool hd)).setCell ⟨xb, 3, none⟩ (.bool pn))) := ((((HB3.out).setCell hxw _).setCell hxw _).setCell hxw _).setCell hxw _
    refine hK.out _ _ HB4.out (fun hH => ?_)
    clear hK K hxw z0 f0 z1 f1 z2 f2 z3 f3
    have HX : Hid (((((w3.setCell ⟨xb, 0, none⟩ (.int .i64 ad)).setCell ⟨xb, 1, none⟩ (.int .i64 rg)).setCell ⟨xb, 2, none⟩ (.bool hd)).setCell ⟨xb, 3, none⟩ (.bool pn)).heap[xb]? = some (.cells #[.int .i64 ad, .int .i64 rg, .bool hd, .bool pn] 93 (0, 0))) := by
      show _ = _
      simpa using block_setCell (block_setCell (block_setCell (block_setCell (HX3.out) 0 (.int .i64 ad)) 1 (.int .i64 rg)) 2 (.bool hd)) 3 (.bool pn)
    generalize (((w3.setCell ⟨xb, 0, none⟩ (.int .i64 ad)).setCell ⟨xb, 1, none⟩ (.int .i64 rg)).setCell ⟨xb, 2, none⟩ (.bool hd)).setCell ⟨xb, 3, none⟩ (.bool pn) = w4 at *
    clear HX3
  all_goals
    refine tk 11 (v := ?_) rfl ?_ ?_; rotate_left; · intro W hW; go_simp; try with_reducible rfl
    refine wpAnyH_done (by kernel_rfl) ?_ _
    have HR4 := Lib.hid ((HB4.out.block rb (by rw [HN2.out]; exact block_lt HR1.out)).trans HR1.out)
    have x0 := (cells_of_block HX.out 0).1
    have x1 := (cells_of_block HX.out 1).1
    have x2 := (cells_of_block HX.out 2).1
    have x3 := (cells_of_block HX.out 3).1
    simp at x0 x1 x2 x3
    have r0 := cells_of_block HR4.out 0
    have r1 := cells_of_block HR4.out 1
    have r2 := cells_of_block HR4.out 2
    have r3 := cells_of_block HR4.out 3
    simp at r0 r1 r2 r3
    obtain ⟨r0, q0⟩ := r0
    obtain ⟨r1, q1⟩ := r1
    obtain ⟨r2, q2⟩ := r2
    obtain ⟨r3, q3⟩ := r3
    go_wp2_with fail
    have e := HRE.out
    try simp only [Exit.inBlock, Exit.then]
    have hbk : ((((w4.setCell ⟨rb, 0, none⟩ (.int .i64 ad)).setCell ⟨rb, 1, none⟩ (.int .i64 rg)).setCell ⟨rb, 2, none⟩ (.bool hd)).setCell ⟨rb, 3, none⟩ (.bool pn)).heap[rb]? = some (.cells #[.int .i64 ad, .int .i64 rg, .bool hd, .bool pn] 93 (0, 0)) := by
      simpa using block_setCell (block_setCell (block_setCell (block_setCell (HR4.out) 0 (.int .i64 ad)) 1 (.int .i64 rg)) 2 (.bool hd)) 3 (.bool pn)
    exact bodyPost_ret (results_blk rfl _ _ rb _ _ _ _ rfl hbk Tryz.underlying93 rfl rfl) rfl ⟨rfl, ((((HW.out _ HB4.out).setCell e _).setCell e _).setCell e _).setCell e _⟩
set_option maxRecDepth 100000 in
set_option maxHeartbeats 1000000 in
theorem cvalid_any {x : Sl} {i : Nat} (w : World) (h : HeapF w F A S) (hx : S.sl[i]? = some x) (hu : x.used = true) (hh : x.held = true) : Calls Tryz.prog 46 #[.pointer (some ⟨A.c, 0, none⟩), .agg #[.int .i64 i, .int .i64 x.gen]] w fun e w' => e = .returned (.tuple #[entryV x, .int .i64 0]) ∧ Below w.heap.size w w' := by
  have HF := Lib.hid (fun W (hb : Below w.heap.size w W) => h.fields hb)
  have HG := Lib.hid (fun W (hb : Below w.heap.size w W) => h.get hx hu hb)
  have hcl := h.lt _ h.cells.2.2.2
  obtain ⟨g, ug, ad, rg, hd, pn⟩ := x
  simp only at hh
  subst hh
  simp only [entryV] at HG ⊢
  have HB1 : Hid (Below w.heap.size w ((w.alloc (.cells #[.int .i64 i, .int .i64 g] 38)).alloc (.cells #[.int .i64 0, .int .i64 0, .bool false, .bool false] 93))) := ((Below.refl _ w).alloc (Nat.le_refl _) _).alloc (by simp) _
  obtain ⟨rb, hrb⟩ : ∃ rb, rb = w.heap.size + 1 := ⟨_, rfl⟩
  obtain ⟨tb, htb⟩ : ∃ tb, tb = w.heap.size := ⟨_, rfl⟩
  have HR1 : Hid (((w.alloc (.cells #[.int .i64 i, .int .i64 g] 38)).alloc (.cells #[.int .i64 0, .int .i64 0, .bool false, .bool false] 93)).heap[rb]? = some (.cells #[.int .i64 0, .int .i64 0, .bool false, .bool false] 93 (0, 0))) := by rw [hrb]; exact heap_alloc2_new w _ _
  have HTB : Hid (((w.alloc (.cells #[.int .i64 i, .int .i64 g] 38)).alloc (.cells #[.int .i64 0, .int .i64 0, .bool false, .bool false] 93)).heap[tb]? = some (.cells #[.int .i64 i, .int .i64 g] 38 (0, 0))) := by rw [htb]; exact (Below.heap_alloc _ _ _ (by simp)).trans (heap_alloc_new w _)
  have HRE : Hid (w.heap.size ≤ rb) := by show _ ≤ _; omega
  clear h hx hu
  go_enter Tryz.func46, Tryz.ntmps46
  go_wp2_with fail
  rw [← hrb, ← htb]
  clear hrb htb
  generalize (w.alloc (.cells #[.int .i64 i, .int .i64 g] 38)).alloc (.cells #[.int .i64 0, .int .i64 0, .bool false, .bool false] 93) = w2 at *
  obtain ⟨n2, hn2⟩ : ∃ n, n = w2.heap.size := ⟨_, rfl⟩
  have HN2 : Hid (n2 = w2.heap.size) := hn2
  have HW : Hid (∀ W, Below n2 w2 W → Below w.heap.size w W) := fun W hb => by rw [hn2] at hb; exact HB1.out.trans (hb.mono HB1.out.size)
  clear hn2
  have HD : Hid (∀ W, Below n2 w2 W → W.cell? ⟨A.c, 3, none⟩ = some (.pointer (some ⟨A.t, 0, none⟩)) ∧ W.cell? ⟨tb, 0, none⟩ = some (.int .i64 i) ∧ W.cell? ⟨tb, 1, none⟩ = some (.int .i64 g)) := fun W hb => by
    have ht := (hb.block tb (by rw [HN2.out]; exact block_lt HTB.out)).trans HTB.out
    exact ⟨(HF.out W (HW.out W hb)).2.2.2.1, (cells_of_block ht 0).1, (cells_of_block ht 1).1⟩
  refine wp_region_held_drew (S := Below n2 w2) (by kernel_rfl) (Below.refl n2 w2).drew (fun hH => ?_)
  refine tk 0 (v := ?_) rfl ?_ ?_; rotate_left; · intro W hW; go_simp; try with_reducible rfl
  refine tk 1 (v := ?_) rfl ?_ ?_; rotate_left; · intro W hW; go_simp; try with_reducible rfl
  refine tk 2 (v := ?_) rfl ?_ ?_; rotate_left; · intro W hW; go_simp; try with_reducible rfl
  refine tk 3 (v := ?_) rfl ?_ ?_; rotate_left; · intro W hW; obtain ⟨d3, e0, e1⟩ := HD.out W hW; go_simp; try with_reducible rfl
  refine tk 4 (v := ?_) rfl ?_ ?_; rotate_left; · intro W hW; obtain ⟨d3, e0, e1⟩ := HD.out W hW; go_simp; try with_reducible rfl
  refine rd2 5 9 rfl rfl (fun K hK => ?_) (fun K hK => ?_)
  focus
    go_simp
    refine (HG.out _ (HW.out _ hH)).mono ?_
    rintro e w3 ⟨rfl, hb3⟩
    have HB3 : Hid (Below n2 w2 w3) := hH.trans (hb3.mono (by rw [HN2.out]; exact hH.size))
    refine hK.out _ _ HB3.out (fun hH => ?_)
    clear hK K hb3
    refine tk 6 (v := ?_) rfl ?_ ?_; rotate_left; · intro W hW; go_simp; try with_reducible rfl
    refine tk 7 (v := ?_) rfl ?_ ?_; rotate_left; · intro W hW; go_simp; try with_reducible rfl
    refine tk 8 (v := ?_) rfl ?_ ?_; rotate_left; · intro W hW; go_simp; try with_reducible rfl
    refine rd 9 rfl (fun K hK => ?_)
    go_simp
    have HB4 : Hid (Below n2 w2 (w3.alloc (.cells #[.int .i64 ad, .int .i64 rg, .bool true, .bool pn] 93))) := HB3.out.alloc (by rw [HN2.out]; exact HB3.out.size) _
    refine hK.out _ _ (HB3.out.alloc (by rw [HN2.out]; exact HB3.out.size) _) (fun hH => ?_)
    clear hK K
    refine rd 10 rfl (fun K hK => ?_)
    go_simp
    refine hK.out _ _ HB4.out (fun hH => ?_)
    clear hK K
    obtain ⟨xb, hxb⟩ : ∃ xb, xb = w3.heap.size := ⟨_, rfl⟩
    have HX : Hid ((w3.alloc (.cells #[.int .i64 ad, .int .i64 rg, .bool true, .bool pn] 93)).heap[xb]? = some (.cells #[.int .i64 ad, .int .i64 rg, .bool true, .bool pn] 93 (0, 0))) := by rw [hxb]; exact heap_alloc_new w3 _
    rw [← hxb]
    clear hxb
    generalize w3.alloc (.cells #[.int .i64 ad, .int .i64 rg, .bool true, .bool pn] 93) = w4 at *
  rotate_left
  focus
    go_simp
    have hb3 : Below n2 w2 (w2.alloc (.cells #[.int .i64 0, .int .i64 0, .bool false, .bool false] 93)).drew := ((Below.refl n2 w2).alloc (Nat.le_of_eq HN2.out) _).drew
    refine hK.out _ _ hb3 (fun hH => ?_)
    clear hK K
    refine rd 5 rfl (fun K hK => ?_)
    go_simp
    refine (HG.out _ (HW.out _ hH)).mono ?_
    rintro e w3 ⟨rfl, hbc⟩
    have HB3 : Hid (Below n2 w2 w3) := hb3.trans (hbc.mono (by rw [HN2.out]; exact hb3.size))
    obtain ⟨xb, hxb⟩ : ∃ xb, xb = w2.heap.size := ⟨_, rfl⟩
    have HX3 : Hid (w3.heap[xb]? = some (.cells #[.int .i64 0, .int .i64 0, .bool false, .bool false] 93 (0, 0))) := by rw [hxb]; exact (hbc.block _ (by simp)).trans (heap_alloc_new w2 _)
    refine hK.out _ _ HB3.out (fun hH => ?_)
    rw [← hxb]
    have hxw : n2 ≤ xb := by rw [HN2.out]; exact Nat.le_of_eq hxb.symm
    clear hK K hb3 hbc hxb
    refine tk 6 (v := ?_) rfl ?_ ?_; rotate_left; · intro W hW; go_simp; try with_reducible rfl
    refine tk 7 (v := ?_) rfl ?_ ?_; rotate_left; · intro W hW; go_simp; try with_reducible rfl
    refine tk 8 (v := ?_) rfl ?_ ?_; rotate_left; · intro W hW; go_simp; try with_reducible rfl
    have z0 := cells_of_block HX3.out 0
    have z1 := cells_of_block HX3.out 1
    have z2 := cells_of_block HX3.out 2
    have z3 := cells_of_block HX3.out 3
    simp at z0 z1 z2 z3
    obtain ⟨z0, f0⟩ := z0
    obtain ⟨z1, f1⟩ := z1
    obtain ⟨z2, f2⟩ := z2
    obtain ⟨z3, f3⟩ := z3
    refine rd 10 rfl (fun K hK => ?_)
    go_simp
    have HB4 : Hid (Below n2 w2 ((((w3.setCell ⟨xb, 0, none⟩ (.int .i64 ad)).setCell ⟨xb, 1, none⟩ (.int .i64 rg)).setCell ⟨xb, 2, none⟩ (.bool true)).setCell ⟨xb, 3, none⟩ (.bool pn))) := ((((HB3.out).setCell hxw _).setCell hxw _).setCell hxw _).setCell hxw _
    refine hK.out _ _ HB4.out (fun hH => ?_)
    clear hK K hxw z0 f0 z1 f1 z2 f2 z3 f3
    have HX : Hid (((((w3.setCell ⟨xb, 0, none⟩ (.int .i64 ad)).setCell ⟨xb, 1, none⟩ (.int .i64 rg)).setCell ⟨xb, 2, none⟩ (.bool true)).setCell ⟨xb, 3, none⟩ (.bool pn)).heap[xb]? = some (.cells #[.int .i64 ad, .int .i64 rg, .bool true, .bool pn] 93 (0, 0))) := by
      show _ = _
      simpa using block_setCell (block_setCell (block_setCell (block_setCell (HX3.out) 0 (.int .i64 ad)) 1 (.int .i64 rg)) 2 (.bool true)) 3 (.bool pn)
    generalize (((w3.setCell ⟨xb, 0, none⟩ (.int .i64 ad)).setCell ⟨xb, 1, none⟩ (.int .i64 rg)).setCell ⟨xb, 2, none⟩ (.bool true)).setCell ⟨xb, 3, none⟩ (.bool pn) = w4 at *
    clear HX3
  all_goals
    refine tk 11 (v := ?_) rfl ?_ ?_; rotate_left; · intro W hW; go_simp; try with_reducible rfl
    refine wpAnyH_done (by kernel_rfl) ?_ _
    have HR4 := Lib.hid ((HB4.out.block rb (by rw [HN2.out]; exact block_lt HR1.out)).trans HR1.out)
    have x0 := (cells_of_block HX.out 0).1
    have x1 := (cells_of_block HX.out 1).1
    have x2 := (cells_of_block HX.out 2).1
    have x3 := (cells_of_block HX.out 3).1
    simp at x0 x1 x2 x3
    have r0 := cells_of_block HR4.out 0
    have r1 := cells_of_block HR4.out 1
    have r2 := cells_of_block HR4.out 2
    have r3 := cells_of_block HR4.out 3
    simp at r0 r1 r2 r3
    obtain ⟨r0, q0⟩ := r0
    obtain ⟨r1, q1⟩ := r1
    obtain ⟨r2, q2⟩ := r2
    obtain ⟨r3, q3⟩ := r3
    go_wp2_with fail
    have e := HRE.out
    try simp only [Exit.inBlock, Exit.then]
    have hbk : ((((w4.setCell ⟨rb, 0, none⟩ (.int .i64 ad)).setCell ⟨rb, 1, none⟩ (.int .i64 rg)).setCell ⟨rb, 2, none⟩ (.bool true)).setCell ⟨rb, 3, none⟩ (.bool pn)).heap[rb]? = some (.cells #[.int .i64 ad, .int .i64 rg, .bool true, .bool pn] 93 (0, 0)) := by
      simpa using block_setCell (block_setCell (block_setCell (block_setCell (HR4.out) 0 (.int .i64 ad)) 1 (.int .i64 rg)) 2 (.bool true)) 3 (.bool pn)
    exact bodyPost_ret (results_blk rfl _ _ rb _ _ _ _ rfl hbk Tryz.underlying93 rfl rfl) rfl ⟨rfl, ((((HW.out _ HB4.out).setCell e _).setCell e _).setCell e _).setCell e _⟩
end Go.Proofs.YtcdpnfchmpncjaaGreatDoor

namespace Go.Proofs.YtcdpnfchmpncjaaGreatDoor
open Go.RowKit Go.Tr Go.Shelf
variable {w w' : World} {F G : Nat → Prop} {A : Ad} {S : HS}
set_option maxRecDepth 100000 in
set_option maxHeartbeats 1000000 in
theorem cwith_any {x : Sl} {i : Nat} (g : Nat) (lb : Array Value) (R : World → Prop) (w : World) (h : HeapF w F A S) (hx : S.sl[i]? = some x) (hu : x.used = true) (hh : x.held = true) (eg : ∀ args (w : World), (callFunc g args).run Tryz.prog w = .ok (.enter g args) w)
    (hdo : ∀ W, Below w.heap.size w W → Calls Tryz.prog g (#[entryV x] ++ lb) W fun e w' => e = .returned (.int .i64 0) ∧ R w') : Calls Tryz.prog 39 #[.pointer (some ⟨A.c, 0, none⟩), .agg #[.int .i64 i, .int .i64 x.gen], .func (.func g) #[] lb] w fun e w' => e = .returned (.int .i64 0) ∧ R w' := by
  have hba : Below w.heap.size w (w.alloc (.cells #[.int .i64 i, .int .i64 x.gen] 38)) := (Below.refl _ w).alloc (Nat.le_refl _) _
  have HBA := Lib.hid hba
  have HV := Lib.hid (cvalid_any _ (h.below hba) hx hu hh)
  have HDO := Lib.hid hdo
  obtain ⟨gn, ug, ad, rg, hd, pn⟩ := x
  simp only [entryV] at HV HDO
  clear h hx hu hh hdo hba
  go_enter Tryz.func39, Tryz.ntmps39
  go_wp2_with fail
  refine HV.out.mono ?_
  rintro e w1 ⟨rfl, hb1⟩
  have HB1 : Hid (Below w.heap.size w (w1.alloc (.cells #[.int .i64 ad, .int .i64 rg, .bool hd, .bool pn] 93))) := (HBA.out.trans (hb1.mono HBA.out.size)).alloc (Nat.le_trans HBA.out.size hb1.size) _
  clear hb1
  go_wp2_with fail
  refine (HDO.out _ HB1.out).mono ?_
  rintro e w2 ⟨rfl, hr⟩
  have HR := Lib.hid hr
  clear hr
  go_wp2
  go_ret
  exact ⟨rfl, HR.out⟩
set_option maxRecDepth 100000 in
set_option maxHeartbeats 1000000 in
theorem cdrop1_any {x : Sl} {i : Nat} (cb tb : Nat) (w : World) (h : HeapF w F A S) (hx : S.sl[i]? = some x) (hu : x.used = true) (hcb : w.heap[cb]? = some (.cells #[.pointer (some ⟨A.c, 0, none⟩)] 27 (0, 0))) (htb : w.heap[tb]? = some (.cells #[.int .i64 i, .int .i64 x.gen] 38 (0, 0))) :
    Calls Tryz.prog 40 #[entryV x, .pointer (some ⟨cb, 0, none⟩), .pointer (some ⟨tb, 0, none⟩)] w fun e w' => e = .returned (.int .i64 0) ∧ HeapF w' (grow F w w') A { S with sl := S.sl.set i ⟨x.gen, x.used, x.addr, x.region, false, x.pinned⟩ } ∧ Only F w w' := by
  have HRUN := Lib.hid (Run.start h)
  have HLT := Lib.hid h.lt
  have HSET := Lib.hid (fun W (hr : HeapF W F A S) => hr.set hx hu x.addr x.region false x.pinned)
  have HF := Lib.hid (fun W (hb : Below w.heap.size w W) => h.fields hb)
  obtain ⟨S', hS'⟩ : ∃ S', S' = { S with sl := S.sl.set i ⟨x.gen, x.used, x.addr, x.region, false, x.pinned⟩ } := ⟨_, rfl⟩
  rw [← hS'] at HSET ⊢
  obtain ⟨gn, ug, ad, rg, hd, pn⟩ := x
  simp only [entryV] at HSET ⊢
  simp only at htb
  have hba : Below w.heap.size w (w.alloc (.cells #[.int .i64 ad, .int .i64 rg, .bool false, .bool pn] 93)) := (Below.refl _ w).alloc (Nat.le_refl _) _
  have HBA := Lib.hid hba
  obtain ⟨-, -, -, c3, -⟩ := HF.out _ hba
  have k0 := (cells_of_block ((hba.block cb (block_lt hcb)).trans hcb) 0).1
  have t0 := (cells_of_block ((hba.block tb (block_lt htb)).trans htb) 0).1
  have t1 := (cells_of_block ((hba.block tb (block_lt htb)).trans htb) 1).1
  simp at k0 t0 t1
  clear h hx hu hS' hba hcb htb
  go_enter Tryz.func40, Tryz.ntmps40
  go_wp2_with fail
  have HX : Hid ((w.alloc (.cells #[.int .i64 ad, .int .i64 rg, .bool false, .bool pn] 93)).heap[w.heap.size]? = some (.cells #[.int .i64 ad, .int .i64 rg, .bool false, .bool pn] 93 (0, 0))) := heap_alloc_new w _
  obtain ⟨xb, hxb⟩ : ∃ xb, xb = w.heap.size := ⟨_, rfl⟩
  rw [← hxb]
  rw [← hxb] at HX
  clear hxb
  generalize w.alloc (.cells #[.int .i64 ad, .int .i64 rg, .bool false, .bool pn] 93) = wa at *
  have x0 := (cells_of_block HX.out 0).1
  have x1 := (cells_of_block HX.out 1).1
  have x2 := (cells_of_block HX.out 2).1
  have x3 := (cells_of_block HX.out 3).1
  simp at x0 x1 x2 x3
  go_still_tail 6, (by kernel_rfl)
  have hrun : Run w F wa.drew F A S := (HRUN.out.below HBA.out).below (Below.refl _ _).drew
  change wpList _ _ _ _ _ wa.drew
  have HRN := Lib.hid hrun
  clear hrun c3 k0 t0 t1 x0 x1 x2 x3
  generalize wa.drew = wb at *
  go_wp2_with fail
  refine (HSET.out wb HRN.out.heap).mono ?_
  rintro e w2 ⟨rfl, h2⟩
  have HRN2 := Lib.hid (HRN.out.op h2)
  clear h2
  go_wp2
  go_ret
  exact ⟨rfl, HRN2.out.fin HLT.out⟩
structure ObjOk (S : HS) (i : Nat) (x : Sl) (count : Nat) : Prop where
  sl : S.sl[i]? = some x
  used : x.used = true
  obj : ObjAt S.C S.Wd S.L S.ws S.own x.addr count i
  big : x.addr ≤ 1048576
  fit : x.addr + S.L.size count < S.C * S.Wd
  own : Owned S.own S.Wd x.addr (S.L.size count + 1)
theorem ObjOk.word {S : HS} {i count p : Nat} {x : Sl} (h : ObjOk S i x count) (hp : p < S.L.size count) : x.addr + 1 + p < S.C * S.Wd ∧ S.own.getD ((x.addr + 1 + p) / S.Wd) 0 ≠ 0 :=
  ⟨by have := h.fit; omega, by have := h.own.at (i := 1 + p) (by omega); rwa [← Nat.add_assoc] at this⟩
set_option maxRecDepth 100000 in
set_option maxHeartbeats 1000000 in
theorem cdrop_any {x : Sl} {i : Nat} (w : World) (h : HeapF w F A S) (hx : S.sl[i]? = some x) (hu : x.used = true) (hh : x.held = true) : Calls Tryz.prog 11 #[.pointer (some ⟨A.c, 0, none⟩), .agg #[.int .i64 i, .int .i64 x.gen]] w fun e w' => e = .returned (.int .i64 0) ∧ HeapF w' (grow F w w') A { S with sl := S.sl.set i ⟨x.gen, x.used, x.addr, x.region, false, x.pinned⟩ } ∧ Only F w w' := by
  have hba : Below w.heap.size w ((w.alloc (.cells #[.pointer (some ⟨A.c, 0, none⟩)] 27)).alloc (.cells #[.int .i64 i, .int .i64 x.gen] 38)) := ((Below.refl _ w).alloc (Nat.le_refl _) _).alloc (by simp) _
  have HLT := Lib.hid h.lt
  have HRUN := Lib.hid ((Run.start h).below hba)
  obtain ⟨S', hS'⟩ : ∃ S', S' = { S with sl := S.sl.set i ⟨x.gen, x.used, x.addr, x.region, false, x.pinned⟩ } := ⟨_, rfl⟩
  obtain ⟨cb, hcb⟩ : ∃ cb, cb = w.heap.size := ⟨_, rfl⟩
  obtain ⟨tb, htb⟩ : ∃ tb, tb = w.heap.size + 1 := ⟨_, rfl⟩
  have HCB : Hid (((w.alloc (.cells #[.pointer (some ⟨A.c, 0, none⟩)] 27)).alloc (.cells #[.int .i64 i, .int .i64 x.gen] 38)).heap[cb]? = some (.cells #[.pointer (some ⟨A.c, 0, none⟩)] 27 (0, 0))) := by rw [hcb]; exact (Below.heap_alloc _ _ _ (by simp)).trans (heap_alloc_new w _)
  have HTB : Hid (((w.alloc (.cells #[.pointer (some ⟨A.c, 0, none⟩)] 27)).alloc (.cells #[.int .i64 i, .int .i64 x.gen] 38)).heap[tb]? = some (.cells #[.int .i64 i, .int .i64 x.gen] 38 (0, 0))) := by rw [htb]; exact heap_alloc2_new w _ _
  have HW : Hid (Calls Tryz.prog 39 #[.pointer (some ⟨A.c, 0, none⟩), .agg #[.int .i64 i, .int .i64 x.gen], .func (.func 40) #[] #[.pointer (some ⟨cb, 0, none⟩), .pointer (some ⟨tb, 0, none⟩)]] ((w.alloc (.cells #[.pointer (some ⟨A.c, 0, none⟩)] 27)).alloc (.cells #[.int .i64 i, .int .i64 x.gen] 38)) fun e w' => e = .returned (.int .i64 0) ∧ HeapF w' (grow F w w') A S' ∧ Only F w w') :=
    cwith_any _ _ (fun w' => HeapF w' (grow F w w') A S' ∧ Only F w w') _ (h.below hba) hx hu hh (enters_of Tryz.func40 (by kernel_rfl) rfl) (fun W hb => (cdrop1_any cb tb W ((h.below hba).below hb) hx hu (seqAt_fields HCB.out hb) (seqAt_fields HTB.out hb)).mono fun e w' ⟨e1, e2, e3⟩ => ⟨e1, by rw [hS']; exact Run.fin (Run.op (Run.below HRUN.out hb) ⟨e2, e3⟩) HLT.out⟩)
  rw [← hS']
  clear h hx hu hh hba hS'
  go_enter Tryz.func11, Tryz.ntmps11
  go_wp2_with fail
  rw [← htb, ← hcb]
  refine HW.out.mono ?_
  rintro e w2 ⟨rfl, h2⟩
  have H2 := Lib.hid h2
  clear h2
  go_wp2
  go_ret
  exact ⟨rfl, H2.out⟩
end Go.Proofs.YtcdpnfchmpncjaaGreatDoor

namespace Go.Proofs.YtcdpnfchmpncjaaGreatDoor
open Go.RowKit Go.Tr Go.Shelf
variable {w w' : World} {F G : Nat → Prop} {A : Ad} {S : HS}
theorem HeapF.save (h : HeapF w F A S) {x : Sl} {i count p : Nat} (v : Nat) (ho : ObjOk S i x count) (hp : p < S.L.size count) (href : isRefN S.L p = false) (hv : v < 18446744073709551616) :
    Calls Tryz.prog 99 #[.pointer (some ⟨A.m, 0, none⟩), .int .i64 x.addr, .int .i64 p, .int .u64 v] w fun e w' => e = .returned (.int .i64 0) ∧ HeapF w' (grow F w w') A { S with ws := S.ws.set (x.addr + 1 + p) v } ∧ Only F w w' := by
  obtain ⟨G, H, hi, hG, -, hput⟩ := h.setStore
  obtain ⟨h1, h2⟩ := ho.word hp
  exact (isave_any x.addr count i p v w hi ho.obj hp href ho.big hv h1 h2).mono fun e w' ⟨e1, e2, e3⟩ => ⟨e1, hput _ w' e2 e3⟩
theorem HeapF.tie (h : HeapF w F A S) {x : Sl} {i count p idx gen : Nat} (ho : ObjOk S i x count) (hp : p < S.L.size count) (href : isRefN S.L p = true) (h1 : idx < 4096) (h2 : 1 ≤ gen) (h3 : gen ≤ 255) :
    Calls Tryz.prog 96 #[.pointer (some ⟨A.m, 0, none⟩), .int .i64 x.addr, .int .i64 p, .agg #[.int .i64 2, .int .i64 idx, .int .i64 gen]] w fun e w' => e = .returned (.int .i64 0) ∧ HeapF w' (grow F w w') A { S with ws := S.ws.set (x.addr + 1 + p) (linkN idx gen) } ∧ Only F w w' := by
  obtain ⟨G, H, hi, hG, -, hput⟩ := h.setStore
  obtain ⟨k1, k2⟩ := ho.word hp
  exact (itie_any x.addr count i p idx gen w hi ho.obj hp href ho.big h1 h2 h3 k1 k2).mono fun e w' ⟨e1, e2, e3⟩ => ⟨e1, hput _ w' e2 e3⟩
set_option maxRecDepth 100000 in
set_option maxHeartbeats 1000000 in
theorem cset1_any {x : Sl} {i count p v : Nat} (cb pb vb : Nat) (w : World) (h : HeapF w F A S) (ho : ObjOk S i x count) (hp : p < S.L.size count) (href : isRefN S.L p = false) (hv : v < 18446744073709551616)
    (hcb : w.heap[cb]? = some (.cells #[.pointer (some ⟨A.c, 0, none⟩)] 27 (0, 0))) (hpb : w.heap[pb]? = some (.cells #[.int .i64 p] 3 (0, 0))) (hvb : w.heap[vb]? = some (.cells #[.int .u64 v] 34 (0, 0))) :
    Calls Tryz.prog 98 #[entryV x, .pointer (some ⟨cb, 0, none⟩), .pointer (some ⟨pb, 0, none⟩), .pointer (some ⟨vb, 0, none⟩)] w fun e w' => e = .returned (.int .i64 0) ∧ HeapF w' (grow F w w') A { S with ws := S.ws.set (x.addr + 1 + p) v } ∧ Only F w w' := by
  have HRUN := Lib.hid (Run.start h)
  have HLT := Lib.hid h.lt
  have HSET := Lib.hid (fun W (hr : HeapF W F A S) => hr.save v ho hp href hv)
  have HF := Lib.hid (fun W (hb : Below w.heap.size w W) => h.fields hb)
  obtain ⟨S', hS'⟩ : ∃ S', S' = { S with ws := S.ws.set (x.addr + 1 + p) v } := ⟨_, rfl⟩
  rw [← hS'] at HSET ⊢
  obtain ⟨gn, ug, ad, rg, hd, pn⟩ := x
  simp only [entryV] at HSET ⊢
  have hba : Below w.heap.size w (w.alloc (.cells #[.int .i64 ad, .int .i64 rg, .bool hd, .bool pn] 93)) := (Below.refl _ w).alloc (Nat.le_refl _) _
  have HBA := Lib.hid hba
  obtain ⟨-, -, c2, -⟩ := HF.out _ hba
  have k0 := (cells_of_block ((hba.block cb (block_lt hcb)).trans hcb) 0).1
  have p0 := (cells_of_block ((hba.block pb (block_lt hpb)).trans hpb) 0).1
  have v0 := (cells_of_block ((hba.block vb (block_lt hvb)).trans hvb) 0).1
  simp at k0 p0 v0
  clear h ho hp href hS' hba hcb hpb hvb hv
  go_enter Tryz.func98, Tryz.ntmps98
  go_wp2_with fail
  have HX : Hid ((w.alloc (.cells #[.int .i64 ad, .int .i64 rg, .bool hd, .bool pn] 93)).heap[w.heap.size]? = some (.cells #[.int .i64 ad, .int .i64 rg, .bool hd, .bool pn] 93 (0, 0))) := heap_alloc_new w _
  obtain ⟨xb, hxb⟩ : ∃ xb, xb = w.heap.size := ⟨_, rfl⟩
  rw [← hxb]
  rw [← hxb] at HX
  clear hxb
  generalize w.alloc (.cells #[.int .i64 ad, .int .i64 rg, .bool hd, .bool pn] 93) = wa at *
  have x0 := (cells_of_block HX.out 0).1
  have x1 := (cells_of_block HX.out 1).1
  have x2 := (cells_of_block HX.out 2).1
  have x3 := (cells_of_block HX.out 3).1
  simp at x0 x1 x2 x3
  go_still_tail 8, (by kernel_rfl)
  have hrun : Run w F wa.drew F A S := (HRUN.out.below HBA.out).below (Below.refl _ _).drew
  change wpList _ _ _ _ _ wa.drew
  have HRN := Lib.hid hrun
  clear hrun c2 k0 p0 v0 x0 x1 x2 x3
  generalize wa.drew = wb at *
  go_wp2_with fail
  refine (HSET.out wb HRN.out.heap).mono ?_
  rintro e w2 ⟨rfl, h2⟩
  have HRN2 := Lib.hid (HRN.out.op h2)
  clear h2
  go_wp2
  go_ret
  exact ⟨rfl, HRN2.out.fin HLT.out⟩
set_option maxRecDepth 100000 in
set_option maxHeartbeats 1000000 in
theorem cset_any {x : Sl} {i count p v : Nat} (w : World) (h : HeapF w F A S) (ho : ObjOk S i x count) (hh : x.held = true) (hp : p < S.L.size count) (href : isRefN S.L p = false) (hv : v < 18446744073709551616) :
    Calls Tryz.prog 49 #[.pointer (some ⟨A.c, 0, none⟩), .agg #[.int .i64 i, .int .i64 x.gen], .int .i64 p, .int .u64 v] w fun e w' => e = .returned (.int .i64 0) ∧ HeapF w' (grow F w w') A { S with ws := S.ws.set (x.addr + 1 + p) v } ∧ Only F w w' := by
  have h4 := al4 w (.cells #[.pointer (some ⟨A.c, 0, none⟩)] 27) (.cells #[.int .i64 i, .int .i64 x.gen] 38) (.cells #[.int .i64 p] 3) (.cells #[.int .u64 v] 34)
  have HLT := Lib.hid h.lt
  obtain ⟨S', hS'⟩ : ∃ S', S' = { S with ws := S.ws.set (x.addr + 1 + p) v } := ⟨_, rfl⟩
  rw [← hS']
  have HW : Hid (∀ wa cb pb vb, Below w.heap.size w wa → wa.heap[cb]? = some (.cells #[.pointer (some ⟨A.c, 0, none⟩)] 27 (0, 0)) → wa.heap[pb]? = some (.cells #[.int .i64 p] 3 (0, 0)) → wa.heap[vb]? = some (.cells #[.int .u64 v] 34 (0, 0)) →
      Calls Tryz.prog 39 #[.pointer (some ⟨A.c, 0, none⟩), .agg #[.int .i64 i, .int .i64 x.gen], .func (.func 98) #[] #[.pointer (some ⟨cb, 0, none⟩), .pointer (some ⟨pb, 0, none⟩), .pointer (some ⟨vb, 0, none⟩)]] wa fun e w' => e = .returned (.int .i64 0) ∧ HeapF w' (grow F w w') A S' ∧ Only F w w') := fun wa cb pb vb hba h1 h2 h3 =>
    cwith_any _ _ (fun w' => HeapF w' (grow F w w') A S' ∧ Only F w w') _ (h.below hba) ho.sl ho.used hh (enters_of Tryz.func98 (by kernel_rfl) rfl) (fun W hb => (cset1_any cb pb vb W ((h.below hba).below hb) ho hp href hv (seqAt_fields h1 hb) (seqAt_fields h2 hb) (seqAt_fields h3 hb)).mono fun e w' ⟨e1, e2, e3⟩ => ⟨e1, by rw [hS']; exact Run.fin (Run.op (Run.below ((Run.start h).below hba) hb) ⟨e2, e3⟩) HLT.out⟩)
  have H4 := Lib.hid h4
  clear h4 h hp href hv ho hh hS'
  go_enter Tryz.func49, Tryz.ntmps49
  go_wp2_with fail
  refine (HW.out _ _ _ _ H4.out.1 H4.out.2.1 H4.out.2.2.2.1 H4.out.2.2.2.2).mono ?_
  rintro e w2 ⟨rfl, h2⟩
  have H2 := Lib.hid h2
  clear h2
  go_wp2
  go_ret
  exact ⟨rfl, H2.out⟩
set_option maxRecDepth 100000 in
set_option maxHeartbeats 1000000 in
theorem ctie1_any {x : Sl} {i count p idx gen : Nat} (cb pb vb : Nat) (w : World) (h : HeapF w F A S) (ho : ObjOk S i x count) (hp : p < S.L.size count) (href : isRefN S.L p = true) (h1 : idx < 4096) (h2 : 1 ≤ gen) (h3 : gen ≤ 255)
    (hcb : w.heap[cb]? = some (.cells #[.pointer (some ⟨A.c, 0, none⟩)] 27 (0, 0))) (hpb : w.heap[pb]? = some (.cells #[.int .i64 p] 3 (0, 0))) (hvb : w.heap[vb]? = some (.cells #[.int .i64 2, .int .i64 idx, .int .i64 gen] 69 (0, 0))) :
    Calls Tryz.prog 95 #[entryV x, .pointer (some ⟨cb, 0, none⟩), .pointer (some ⟨pb, 0, none⟩), .pointer (some ⟨vb, 0, none⟩)] w fun e w' => e = .returned (.int .i64 0) ∧ HeapF w' (grow F w w') A { S with ws := S.ws.set (x.addr + 1 + p) (linkN idx gen) } ∧ Only F w w' := by
  have HRUN := Lib.hid (Run.start h)
  have HLT := Lib.hid h.lt
  have HSET := Lib.hid (fun W (hr : HeapF W F A S) => hr.tie ho hp href h1 h2 h3)
  have HF := Lib.hid (fun W (hb : Below w.heap.size w W) => h.fields hb)
  obtain ⟨S', hS'⟩ : ∃ S', S' = { S with ws := S.ws.set (x.addr + 1 + p) (linkN idx gen) } := ⟨_, rfl⟩
  rw [← hS'] at HSET ⊢
  obtain ⟨gn, ug, ad, rg, hd, pn⟩ := x
  simp only [entryV] at HSET ⊢
  have hba : Below w.heap.size w (w.alloc (.cells #[.int .i64 ad, .int .i64 rg, .bool hd, .bool pn] 93)) := (Below.refl _ w).alloc (Nat.le_refl _) _
  have HBA := Lib.hid hba
  obtain ⟨-, -, c2, -⟩ := HF.out _ hba
  have k0 := (cells_of_block ((hba.block cb (block_lt hcb)).trans hcb) 0).1
  have p0 := (cells_of_block ((hba.block pb (block_lt hpb)).trans hpb) 0).1
  have v0 := (cells_of_block ((hba.block vb (block_lt hvb)).trans hvb) 0).1
  have v1 := (cells_of_block ((hba.block vb (block_lt hvb)).trans hvb) 1).1
  have v2 := (cells_of_block ((hba.block vb (block_lt hvb)).trans hvb) 2).1
  simp at k0 p0 v0 v1 v2
  clear h ho hp href hS' hba hcb hpb hvb h1 h2 h3
  go_enter Tryz.func95, Tryz.ntmps95
  go_wp2_with fail
  have HX : Hid ((w.alloc (.cells #[.int .i64 ad, .int .i64 rg, .bool hd, .bool pn] 93)).heap[w.heap.size]? = some (.cells #[.int .i64 ad, .int .i64 rg, .bool hd, .bool pn] 93 (0, 0))) := heap_alloc_new w _
  obtain ⟨xb, hxb⟩ : ∃ xb, xb = w.heap.size := ⟨_, rfl⟩
  rw [← hxb]
  rw [← hxb] at HX
  clear hxb
  generalize w.alloc (.cells #[.int .i64 ad, .int .i64 rg, .bool hd, .bool pn] 93) = wa at *
  have x0 := (cells_of_block HX.out 0).1
  have x1 := (cells_of_block HX.out 1).1
  have x2 := (cells_of_block HX.out 2).1
  have x3 := (cells_of_block HX.out 3).1
  simp at x0 x1 x2 x3
  go_still_tail 8, (by kernel_rfl)
  have hrun : Run w F wa.drew F A S := (HRUN.out.below HBA.out).below (Below.refl _ _).drew
  change wpList _ _ _ _ _ wa.drew
  have HRN := Lib.hid hrun
  clear hrun c2 k0 p0 v0 v1 v2 x0 x1 x2 x3
  generalize wa.drew = wb at *
  go_wp2_with fail
  refine (HSET.out wb HRN.out.heap).mono ?_
  rintro e w2 ⟨rfl, hh2⟩
  have HRN2 := Lib.hid (HRN.out.op hh2)
  clear hh2
  go_wp2
  go_ret
  exact ⟨rfl, HRN2.out.fin HLT.out⟩
end Go.Proofs.YtcdpnfchmpncjaaGreatDoor

namespace Go.Proofs.YtcdpnfchmpncjaaGreatDoor
open Go.RowKit Go.Tr Go.Shelf
variable {w w' : World} {F G : Nat → Prop} {A : Ad} {S : HS}
theorem HeapF.rem (h : HeapF w F A S) : ∃ G : Nat → Prop, RemF w G A.rm := by
  obtain ⟨G, hG, h1⟩ := h.1.read 5; exact ⟨G, h1⟩
theorem HeapF.cut (h : HeapF w F A S) (i p : Nat) {W : World} (hb : Below w.heap.size w W) : Calls Tryz.prog 141 #[.pointer (some ⟨A.rm, 0, none⟩), .agg #[.int .i64 i, .int .i64 p]] W fun e w' => e = .returned (.bool false) ∧ Below W.heap.size W w' := by
  obtain ⟨G, hr⟩ := (h.below hb).rem; exact rcut_any i p W hr
set_option maxRecDepth 100000 in
set_option maxHeartbeats 2000000 in
theorem cnote_any {x y : Sl} {i j : Nat} (p : Nat) (w : World) (h : HeapF w F A S) (hx : S.sl[i]? = some x) (hu : x.used = true) (hxr : x.region = 1) (hy : S.sl[j]? = some y) (hyu : y.used = true) (hyr : y.region = 1) :
    Calls Tryz.prog 97 #[.pointer (some ⟨A.c, 0, none⟩), .int .i64 i, .int .i64 p, .agg #[.int .i64 2, .int .i64 j, .int .i64 y.gen]] w fun e w' => e = .returned (.tuple #[]) ∧ Below w.heap.size w w' := by
  have HF := Lib.hid (fun W (hb : Below w.heap.size w W) => h.fields hb)
  have HG := Lib.hid (fun W (hb : Below w.heap.size w W) => h.get hy hyu hb)
  have HAT := Lib.hid (fun W (hb : Below w.heap.size w W) => cat_any W (h.below hb) hx hu)
  have HCUT := Lib.hid (fun W (hb : Below w.heap.size w W) => h.cut i p hb)
  have h2 := al2 w (.cells #[.int .i64 2, .int .i64 j, .int .i64 y.gen] 69) (.cells #[.int .i64 i, .int .i64 p] 227)
  have HB1 := Lib.hid h2.1
  have HL1 := Lib.hid h2.2.1
  have HR1 := Lib.hid h2.2.2
  obtain ⟨xg, xu, xa, xr, xh, xp⟩ := x
  obtain ⟨yg, yu, ya, yr, yh, yp⟩ := y
  simp only at hxr hyr
  subst hxr hyr
  simp only [entryV] at HG HAT ⊢
  simp only at HL1 HB1 HR1
  obtain ⟨rb, hrb⟩ : ∃ rb, rb = w.heap.size + 1 := ⟨_, rfl⟩
  obtain ⟨lb, hlb⟩ : ∃ lb, lb = w.heap.size := ⟨_, rfl⟩
  rw [← hrb] at HR1
  rw [← hlb] at HL1
  clear h hx hu hy hyu h2
  go_enter Tryz.func97, Tryz.ntmps97
  go_wp2_with fail
  rw [← hrb, ← hlb]
  clear hrb hlb
  generalize (w.alloc (.cells #[.int .i64 2, .int .i64 j, .int .i64 yg] 69)).alloc (.cells #[.int .i64 i, .int .i64 p] 227) = wa at *
  obtain ⟨-, -, -, -, -, c5, -⟩ := HF.out _ HB1.out
  have r0 := (cells_of_block HR1.out 0).1
  have r1 := (cells_of_block HR1.out 1).1
  simp at r0 r1
  go_still_tail 5, (by kernel_rfl)
  have HBA : Hid (Below w.heap.size w wa.drew) := HB1.out.drew
  have HLA : Hid (wa.drew.heap[lb]? = some (.cells #[.int .i64 2, .int .i64 j, .int .i64 yg] 69 (0, 0))) := HL1.out
  change wpList _ _ _ _ _ wa.drew
  clear c5 r0 r1
  generalize wa.drew = wb at *
  go_wp2_with fail
  refine (HCUT.out wb HBA.out).mono ?_
  rintro e w1 ⟨rfl, hb1⟩
  have HB2 : Hid (Below w.heap.size w w1) := HBA.out.trans (hb1.mono HBA.out.size)
  have HL2 := Lib.hid ((hb1.block lb (block_lt HLA.out)).trans HLA.out)
  have l0 := (cells_of_block HL2.out 0).1
  have l1 := (cells_of_block HL2.out 1).1
  have l2 := (cells_of_block HL2.out 2).1
  simp at l0 l1 l2
  clear hb1
  go_wp2_with fail
  refine (HAT.out w1 HB2.out).mono ?_
  rintro e w2 ⟨rfl, hb2⟩
  have HB3 : Hid (Below w.heap.size w (w2.alloc (.cells #[.int .i64 xa, .int .i64 1, .bool xh, .bool xp] 93))) := (HB2.out.trans (hb2.mono HB2.out.size)).alloc (Nat.le_trans HB2.out.size hb2.size) _
  have hl3 := (hb2.block lb (block_lt HL2.out)).trans HL2.out
  have HL3 : Hid ((w2.alloc (.cells #[.int .i64 xa, .int .i64 1, .bool xh, .bool xp] 93)).heap[lb]? = some (.cells #[.int .i64 2, .int .i64 j, .int .i64 yg] 69 (0, 0))) := (Below.heap_alloc _ _ _ (block_lt hl3)).trans hl3
  obtain ⟨fb, hfb⟩ : ∃ fb, fb = w2.heap.size := ⟨_, rfl⟩
  have HFB : Hid ((w2.alloc (.cells #[.int .i64 xa, .int .i64 1, .bool xh, .bool xp] 93)).heap[fb]? = some (.cells #[.int .i64 xa, .int .i64 1, .bool xh, .bool xp] 93 (0, 0))) := by rw [hfb]; exact heap_alloc_new w2 _
  clear hb2 hl3 l0 l1 l2
  go_wp2_with fail
  rw [← hfb]
  clear hfb
  generalize w2.alloc (.cells #[.int .i64 xa, .int .i64 1, .bool xh, .bool xp] 93) = w3 at *
  obtain ⟨n2, hn2⟩ : ∃ n, n = w3.heap.size := ⟨_, rfl⟩
  have HN2 : Hid (n2 = w3.heap.size) := hn2
  have HW : Hid (∀ W, Below n2 w3 W → Below w.heap.size w W) := fun W hb => by rw [hn2] at hb; exact HB3.out.trans (hb.mono HB3.out.size)
  clear hn2
  have HD : Hid (∀ W, Below n2 w3 W → W.cell? ⟨A.c, 3, none⟩ = some (.pointer (some ⟨A.t, 0, none⟩)) ∧ W.cell? ⟨lb, 1, none⟩ = some (.int .i64 j) ∧ W.cell? ⟨lb, 2, none⟩ = some (.int .i64 yg)) := fun W hb => by
    have ht := (hb.block lb (by rw [HN2.out]; exact block_lt HL3.out)).trans HL3.out
    exact ⟨(HF.out W (HW.out W hb)).2.2.2.1, (cells_of_block ht 1).1, (cells_of_block ht 2).1⟩
  refine wp_region_held_drew (S := Below n2 w3) (by kernel_rfl) (Below.refl n2 w3).drew (fun hH => ?_)
  refine tk 0 (v := ?_) rfl ?_ ?_; rotate_left; · intro W hW; go_simp; try with_reducible rfl
  refine tk 1 (v := ?_) rfl ?_ ?_; rotate_left; · intro W hW; go_simp; try with_reducible rfl
  refine tk 2 (v := ?_) rfl ?_ ?_; rotate_left; · intro W hW; go_simp; try with_reducible rfl
  refine tk 3 (v := ?_) rfl ?_ ?_; rotate_left; · intro W hW; obtain ⟨d3, e0, e1⟩ := HD.out W hW; go_simp; try with_reducible rfl
  refine tk 4 (v := ?_) rfl ?_ ?_; rotate_left; · intro W hW; obtain ⟨d3, e0, e1⟩ := HD.out W hW; go_simp; try with_reducible rfl
  refine tk 5 (v := ?_) rfl ?_ ?_; rotate_left; · intro W hW; obtain ⟨d3, e0, e1⟩ := HD.out W hW; go_simp; try with_reducible rfl
  refine rd2 6 10 rfl rfl (fun K hK => ?_) (fun K hK => ?_)
  focus
    go_simp
    refine (HG.out _ (HW.out _ hH)).mono ?_
    rintro e w4 ⟨rfl, hb3⟩
    have HB3 : Hid (Below n2 w3 w4) := hH.trans (hb3.mono (by rw [HN2.out]; exact hH.size))
    refine hK.out _ _ HB3.out (fun hH => ?_)
    clear hK K hb3
    refine tk 7 (v := ?_) rfl ?_ ?_; rotate_left; · intro W hW; go_simp; try with_reducible rfl
    refine tk 8 (v := ?_) rfl ?_ ?_; rotate_left; · intro W hW; go_simp; try with_reducible rfl
    refine tk 9 (v := ?_) rfl ?_ ?_; rotate_left; · intro W hW; go_simp; try with_reducible rfl
    refine rd 10 rfl (fun K hK => ?_)
    go_simp
    have HB4 : Hid (Below n2 w3 (w4.alloc (.cells #[.int .i64 ya, .int .i64 1, .bool yh, .bool yp] 93))) := HB3.out.alloc (by rw [HN2.out]; exact HB3.out.size) _
    refine hK.out _ _ (HB3.out.alloc (by rw [HN2.out]; exact HB3.out.size) _) (fun hH => ?_)
    clear hK K
    refine rd 11 rfl (fun K hK => ?_)
    go_simp
    refine hK.out _ _ HB4.out (fun hH => ?_)
    clear hK K
    obtain ⟨xb, hxb⟩ : ∃ xb, xb = w4.heap.size := ⟨_, rfl⟩
    have HX : Hid ((w4.alloc (.cells #[.int .i64 ya, .int .i64 1, .bool yh, .bool yp] 93)).heap[xb]? = some (.cells #[.int .i64 ya, .int .i64 1, .bool yh, .bool yp] 93 (0, 0))) := by rw [hxb]; exact heap_alloc_new w4 _
    rw [← hxb]
    clear hxb
    generalize w4.alloc (.cells #[.int .i64 ya, .int .i64 1, .bool yh, .bool yp] 93) = w5 at *
  rotate_left
  focus
    go_simp
    have hb3 : Below n2 w3 (w3.alloc (.cells #[.int .i64 0, .int .i64 0, .bool false, .bool false] 93)).drew := ((Below.refl n2 w3).alloc (Nat.le_of_eq HN2.out) _).drew
    refine hK.out _ _ hb3 (fun hH => ?_)
    clear hK K
    refine rd 6 rfl (fun K hK => ?_)
    go_simp
    refine (HG.out _ (HW.out _ hH)).mono ?_
    rintro e w4 ⟨rfl, hbc⟩
    have HB3 : Hid (Below n2 w3 w4) := hb3.trans (hbc.mono (by rw [HN2.out]; exact hb3.size))
    obtain ⟨xb, hxb⟩ : ∃ xb, xb = w3.heap.size := ⟨_, rfl⟩
    have HX3 : Hid (w4.heap[xb]? = some (.cells #[.int .i64 0, .int .i64 0, .bool false, .bool false] 93 (0, 0))) := by rw [hxb]; exact (hbc.block _ (by simp)).trans (heap_alloc_new w3 _)
    refine hK.out _ _ HB3.out (fun hH => ?_)
    rw [← hxb]
    have hxw : n2 ≤ xb := by rw [HN2.out]; exact Nat.le_of_eq hxb.symm
    clear hK K hb3 hbc hxb
    refine tk 7 (v := ?_) rfl ?_ ?_; rotate_left; · intro W hW; go_simp; try with_reducible rfl
    refine tk 8 (v := ?_) rfl ?_ ?_; rotate_left; · intro W hW; go_simp; try with_reducible rfl
    refine tk 9 (v := ?_) rfl ?_ ?_; rotate_left; · intro W hW; go_simp; try with_reducible rfl
    have z0 := cells_of_block HX3.out 0
    have z1 := cells_of_block HX3.out 1
    have z2 := cells_of_block HX3.out 2
    have z3 := cells_of_block HX3.out 3
    simp at z0 z1 z2 z3
    obtain ⟨z0, f0⟩ := z0
    obtain ⟨z1, f1⟩ := z1
    obtain ⟨z2, f2⟩ := z2
    obtain ⟨z3, f3⟩ := z3
    refine rd 11 rfl (fun K hK => ?_)
    go_simp
    have HB4 : Hid (Below n2 w3 ((((w4.setCell ⟨xb, 0, none⟩ (.int .i64 ya)).setCell ⟨xb, 1, none⟩ (.int .i64 1)).setCell ⟨xb, 2, none⟩ (.bool yh)).setCell ⟨xb, 3, none⟩ (.bool yp))) := ((((HB3.out).setCell hxw _).setCell hxw _).setCell hxw _).setCell hxw _
    refine hK.out _ _ HB4.out (fun hH => ?_)
    clear hK K hxw z0 f0 z1 f1 z2 f2 z3 f3
    have HX : Hid (((((w4.setCell ⟨xb, 0, none⟩ (.int .i64 ya)).setCell ⟨xb, 1, none⟩ (.int .i64 1)).setCell ⟨xb, 2, none⟩ (.bool yh)).setCell ⟨xb, 3, none⟩ (.bool yp)).heap[xb]? = some (.cells #[.int .i64 ya, .int .i64 1, .bool yh, .bool yp] 93 (0, 0))) := by
      show _ = _
      simpa using block_setCell (block_setCell (block_setCell (block_setCell (HX3.out) 0 (.int .i64 ya)) 1 (.int .i64 1)) 2 (.bool yh)) 3 (.bool yp)
    generalize (((w4.setCell ⟨xb, 0, none⟩ (.int .i64 ya)).setCell ⟨xb, 1, none⟩ (.int .i64 1)).setCell ⟨xb, 2, none⟩ (.bool yh)).setCell ⟨xb, 3, none⟩ (.bool yp) = w5 at *
    clear HX3
  all_goals
    refine tk 12 (v := ?_) rfl ?_ ?_; rotate_left; · intro W hW; go_simp; try with_reducible rfl
    refine wpAnyH_done (by kernel_rfl) ?_ _
    have HF5 := Lib.hid ((HB4.out.block fb (by rw [HN2.out]; exact block_lt HFB.out)).trans HFB.out)
    have x0 := (cells_of_block HX.out 0).1
    have x1 := (cells_of_block HX.out 1).1
    have x2 := (cells_of_block HX.out 2).1
    have x3 := (cells_of_block HX.out 3).1
    simp at x0 x1 x2 x3
    have f0 := (cells_of_block HF5.out 0).1
    have f1 := (cells_of_block HF5.out 1).1
    have f2 := (cells_of_block HF5.out 2).1
    have f3 := (cells_of_block HF5.out 3).1
    simp at f0 f1 f2 f3
    go_wp2_with fail
    go_end0
    exact ⟨rfl, HW.out _ HB4.out⟩
theorem Bx.of {b : Nat} {o : Obj} (h : HeapF w F A S) (hb : w'.heap[b]? = some o) (hn : w.heap.size ≤ b) : Bx w' F b o := ⟨fun hf => by have := h.lt b hf; omega, hb⟩
def TieSt (w : World) (F : Nat → Prop) (A : Ad) (S' : HS) (cb tb pb lb i gen p j g : Nat) (W : World) : Prop := ∃ F1, Run w F W F1 A S' ∧ Bx W F1 cb (.cells #[.pointer (some ⟨A.c, 0, none⟩)] 27 (0, 0)) ∧ Bx W F1 tb (.cells #[.int .i64 i, .int .i64 gen] 38 (0, 0)) ∧ Bx W F1 pb (.cells #[.int .i64 p] 3 (0, 0)) ∧ Bx W F1 lb (.cells #[.int .i64 2, .int .i64 j, .int .i64 g] 69 (0, 0))
set_option maxRecDepth 100000 in
set_option maxHeartbeats 1000000 in
theorem ctie_any {x y : Sl} {i j count p : Nat} (w : World) (h : HeapF w F A S) (ho : ObjOk S i x count) (hh : x.held = true) (hxr : x.region = 1) (hy : S.sl[j]? = some y) (hyu : y.used = true) (hyr : y.region = 1) (hp : p < S.L.size count) (href : isRefN S.L p = true) (h1 : j < 4096) (h2 : 1 ≤ y.gen) (h3 : y.gen ≤ 255) :
    Calls Tryz.prog 47 #[.pointer (some ⟨A.c, 0, none⟩), .agg #[.int .i64 i, .int .i64 x.gen], .int .i64 p, .agg #[.int .i64 2, .int .i64 j, .int .i64 y.gen]] w fun e w' => e = .returned (.int .i64 0) ∧ HeapF w' (grow F w w') A { S with ws := S.ws.set (x.addr + 1 + p) (linkN j y.gen) } ∧ Only F w w' := by
  have h4 := al4 w (.cells #[.pointer (some ⟨A.c, 0, none⟩)] 27) (.cells #[.int .i64 i, .int .i64 x.gen] 38) (.cells #[.int .i64 p] 3) (.cells #[.int .i64 2, .int .i64 j, .int .i64 y.gen] 69)
  have HLT := Lib.hid h.lt
  obtain ⟨S', hS'⟩ : ∃ S', S' = { S with ws := S.ws.set (x.addr + 1 + p) (linkN j y.gen) } := ⟨_, rfl⟩
  have hsl : S'.sl = S.sl := by rw [hS']
  rw [← hS']
  have HNT := Lib.hid (fun W F1 (hr : HeapF W F1 A S') => cnote_any p W hr (by rw [hsl]; exact ho.sl) ho.used hxr (by rw [hsl]; exact hy) hyu hyr)
  have HW : Hid (∀ wa cb tb pb vb, Below w.heap.size w wa → w.heap.size ≤ cb → w.heap.size ≤ tb → w.heap.size ≤ pb → w.heap.size ≤ vb → wa.heap[cb]? = some (.cells #[.pointer (some ⟨A.c, 0, none⟩)] 27 (0, 0)) → wa.heap[tb]? = some (.cells #[.int .i64 i, .int .i64 x.gen] 38 (0, 0)) → wa.heap[pb]? = some (.cells #[.int .i64 p] 3 (0, 0)) → wa.heap[vb]? = some (.cells #[.int .i64 2, .int .i64 j, .int .i64 y.gen] 69 (0, 0)) →
      Calls Tryz.prog 39 #[.pointer (some ⟨A.c, 0, none⟩), .agg #[.int .i64 i, .int .i64 x.gen], .func (.func 95) #[] #[.pointer (some ⟨cb, 0, none⟩), .pointer (some ⟨pb, 0, none⟩), .pointer (some ⟨vb, 0, none⟩)]] wa fun e w' => e = .returned (.int .i64 0) ∧ TieSt w F A S' cb tb pb vb i x.gen p j y.gen w') := fun wa cb tb pb vb hba n1 n2 n3 n4 k1 k2 k3 k4 =>
    cwith_any _ _ (TieSt w F A S' cb tb pb vb i x.gen p j y.gen) _ (h.below hba) ho.sl ho.used hh (enters_of Tryz.func95 (by kernel_rfl) rfl) (fun W hb => (ctie1_any cb pb vb W ((h.below hba).below hb) ho hp href h1 h2 h3 (seqAt_fields k1 hb) (seqAt_fields k3 hb) (seqAt_fields k4 hb)).mono fun e w' ⟨e1, e2, e3⟩ => ⟨e1, grow F W w', by rw [hS']; exact Run.op (Run.below ((Run.start h).below hba) hb) ⟨e2, e3⟩, (Bx.of h (seqAt_fields k1 hb) n1).op e3, (Bx.of h (seqAt_fields k2 hb) n2).op e3, (Bx.of h (seqAt_fields k3 hb) n3).op e3, (Bx.of h (seqAt_fields k4 hb) n4).op e3⟩)
  have H4 := Lib.hid h4
  obtain ⟨gn, ug, ad, rg, hd, pn⟩ := x
  obtain ⟨yg, yu, ya, yr, yh, yp⟩ := y
  simp only at HW HNT H4 ⊢
  clear h4 h hp href hh ho hS' hy hyu hyr hxr h1 h2 h3 hsl
  go_enter Tryz.func47, Tryz.ntmps47
  go_wp2_with fail
  refine (HW.out _ _ _ _ _ H4.out.1 (Nat.le_refl _) (Nat.le_add_right _ 1) (by omega) (by omega) H4.out.2.1 H4.out.2.2.1 H4.out.2.2.2.1 H4.out.2.2.2.2).mono ?_
  rintro e w2 ⟨rfl, F1, hr, hb1, hb2, hb3, hb4⟩
  have HRN := Lib.hid hr
  obtain ⟨cb, hcb⟩ : ∃ cb, cb = w.heap.size := ⟨_, rfl⟩
  rw [← hcb] at hb1 hb2 hb3 hb4
  rw [← hcb]
  have k0 := (cells_of_block hb1.2 0).1
  have t0 := (cells_of_block hb2.2 0).1
  have p0 := (cells_of_block hb3.2 0).1
  have l0 := (cells_of_block hb4.2 0).1
  have l1 := (cells_of_block hb4.2 1).1
  have l2 := (cells_of_block hb4.2 2).1
  simp at k0 t0 p0 l0 l1 l2
  clear hr hb1 hb2 hb3 hb4 hcb
  go_wp2_with fail
  refine (HNT.out w2 F1 HRN.out.heap).mono ?_
  rintro e w3 ⟨rfl, hb⟩
  have HR3 := Lib.hid (HRN.out.below hb)
  clear hb
  go_wp2
  go_ret
  exact ⟨rfl, HR3.out.fin HLT.out⟩
end Go.Proofs.YtcdpnfchmpncjaaGreatDoor

