/-
  Parts of the proof, one behind the other: KLay6.
-/
import Derived.Test.YtcdpnfchmpncjaaGreatDoorMa21
set_option linter.unusedSimpArgs false
set_option linter.unusedVariables false
namespace Go.Tr
open Go.RowKit
def spreadL (W : Nat) : List Nat := (List.range 64).filter W.testBit
theorem filter_skip {f : Nat → Bool} {k : Nat} : ∀ {n : Nat}, k ≤ n → (∀ i, k ≤ i → i < n → f i = false) → (List.range n).filter f = (List.range k).filter f
  | 0, h, _ => by rw [show k = 0 by omega]
  | n + 1, h, hf => by
    by_cases e : k = n + 1
    · rw [e]
    · rw [List.range_succ, List.filter_append, filter_skip (n := n) (by omega) (fun i h1 h2 => hf i h1 (by omega))]
      simp [hf n (by omega) (by omega)]
theorem clear_low {z t : Nat} (ht : z.testBit t = true) (hl : ∀ s, s < t → z.testBit s = false) (i : Nat) : (z &&& (z - 1)).testBit i = (decide (t < i) && z.testBit i) := by
  have h0 : z % 2 ^ t = 0 := by
    apply Nat.eq_of_testBit_eq
    intro j
    rw [Nat.testBit_mod_two_pow, Nat.zero_testBit]
    by_cases hj : j < t
    · simp [hl j hj]
    · simp [hj]
  have h1 : z / 2 ^ t % 2 = 1 := by
    have := ht
    rw [Nat.testBit_eq_decide_div_mod_eq] at this
    simpa using this
  have hp : 0 < 2 ^ t := Nat.two_pow_pos t
  obtain ⟨q, hq⟩ : ∃ q, z / 2 ^ t = 2 * q + 1 := ⟨z / 2 ^ t / 2, by omega⟩
  have hz : z = 2 ^ t * (2 * q + 1) := by
    have := Nat.div_add_mod z (2 ^ t)
    rw [h0, hq] at this; omega
  have hz1 : z - 1 = 2 ^ t * (2 * q) + (2 ^ t - 1) := by rw [hz, Nat.mul_add]; omega
  rw [Nat.testBit_and]
  rcases Nat.lt_trichotomy i t with h | h | h
  · rw [hl i h]; simp
  · subst h
    have h2 : (z - 1).testBit i = false := by
      rw [hz1, Nat.testBit_two_pow_mul_add _ (by omega), if_neg (by omega), Nat.sub_self]
      simp
    rw [h2]; simp
  · have h2 : (z - 1).testBit i = z.testBit i := by
      rw [hz1, Nat.testBit_two_pow_mul_add _ (by omega), if_neg (by omega)]
      conv => rhs; rw [hz, ← Nat.add_zero (2 ^ t * (2 * q + 1)), Nat.testBit_two_pow_mul_add _ hp, if_neg (by omega)]
      obtain ⟨j, hj⟩ : ∃ j, i - t = j + 1 := ⟨i - t - 1, by omega⟩
      rw [hj, Nat.testBit_succ, Nat.testBit_succ]
      congr 1
      omega
    rw [h2]; simp [h]
end Go.Tr
namespace Go.Proofs.YtcdpnfchmpncjaaGreatDoor
open Go.RowKit Go.Tr Go.Shelf
variable {w w' : World} {F G : Nat → Prop}
set_option maxRecDepth 100000 in
theorem lsizes_any (w : World) : Calls Tryz.prog 80 #[] w fun e w' => e = .returned (.slice (some ⟨w.heap.size, 0, none⟩) 3 3) ∧ w' = w.alloc (.cells (pcells [(0, 8), (8, 8), (16, 48)]).toArray 212) := by
  go_enter Tryz.func80, Tryz.ntmps80
  go_wp2
  go_ret
  exact ⟨rfl, rfl⟩
set_option maxRecDepth 100000 in
theorem lspread_any (W : Nat) (hW : W < 18446744073709551616) (w : World) (hT : Tz w) : Calls Tryz.prog 81 #[.int .u64 W] w fun e w' => ∃ a c, e = .returned (.slice a (spreadL W).length c) ∧ SeqAt w' a (ns (spreadL W)) ∧ (∀ b o, a = some ⟨b, o, none⟩ → w.heap.size ≤ b ∧ b < w'.heap.size) ∧ Below w.heap.size w w' := by
  obtain ⟨i0, hi, hz0, hz1, hz2⟩ := info_parts infoIntU
  have HTZ := Lib.hid hT
  clear hT
  go_enter Tryz.func81, Tryz.ntmps81
  go_wp2_with fail
  go_loopw [0, 3] (fun x v wr => ∃ z k n : Nat, x = .int .u64 (z : Int) ∧ z < 18446744073709551616 ∧ k ≤ 64 ∧ n ≤ k ∧ Hid (∀ i, z.testBit i = (decide (k ≤ i) && W.testBit i)) ∧ Hid (OwnO wr 1 v n (ns ((List.range k).filter W.testBit))) ∧ Hid (∀ q, v.ownBlock = some q → w.heap.size ≤ q) ∧ Hid (Below w.heap.size w wr)) (fun x _ _ => (intOf x).toNat)
  case atStart => exact ⟨W, 0, 0, rfl, hW, by omega, Nat.le_refl _, fun i => by simp, OwnO.nil _ _, fun q hq => by simp [Value.ownBlock] at hq, Below.refl _ w⟩
  case round =>
    obtain ⟨z, k, n, rfl, hz, hk, hnk, HZ, HV, HN, HB⟩ := hrel
    by_cases hz0' : z = 0
    · subst hz0'
      have HL : Hid (spreadL W = (List.range k).filter W.testBit) := filter_skip hk (fun i h1 h2 => by
        have := HZ.out i
        rw [Nat.zero_testBit] at this
        simpa [h1] using this.symm)
      have hne : (((0 : Nat) : Int) == 0) = true := rfl
      obtain ⟨va, vc, rfl, hsq, -, -⟩ := HV.out.seq
      have HSQ := Lib.hid hsq
      have hnl : n = (spreadL W).length := by
        have := HV.out.length
        rw [HL.out]; simpa [ns] using this.symm
      have HNL := Lib.hid hnl
      have HVL : Hid (∀ q o, va = some ⟨q, o, none⟩ → q < wr.heap.size) := fun q o e => HV.out.lt q (by subst e; rfl)
      have HNA : Hid (∀ q o, va = some ⟨q, o, none⟩ → w.heap.size ≤ q) := fun q o e => HN.out q (by subst e; rfl)
      clear hsq hnl hne
      go_wp2_with fail
      go_ret
      exact ⟨va, vc, by rw [← HNL.out]; rfl, by rw [HL.out]; exact HSQ.out, fun q o e => ⟨HNA.out q o e, HVL.out q o e⟩, HB.out⟩
    · obtain ⟨t1, t2, t3⟩ := ctz_bits hz0' hz
      have HTW := Lib.hid (tz_any z hz wr (tz_kept HTZ.out HB.out.block))
      obtain ⟨t, ht⟩ : ∃ t, t = Lib.ctz 64 z := ⟨_, rfl⟩
      rw [← ht] at t1 t2 t3 HTW
      have hkt : k ≤ t := by
        have := HZ.out t
        rw [t2] at this
        simp at this
        exact this.1
      have hneq : ((z : Int) != 0) = true := by simp; omega
      have hsub : IntKind.u64.wrap ((z : Int) - 1) = ((z - 1 : Nat) : Int) := by rw [IntWalk.u64_in _ (by omega)]; omega
      have hand : bits .and .u64 (z : Int) ((z - 1 : Nat) : Int) = ((z &&& (z - 1) : Nat) : Int) := u64_and_nat _ _ hz (by omega)
      obtain ⟨y, hy⟩ : ∃ y, y = z &&& (z - 1) := ⟨_, rfl⟩
      obtain ⟨z1, hz1'⟩ : ∃ z1, z1 = z - 1 := ⟨_, rfl⟩
      have hyb : ∀ i, y.testBit i = (decide (t < i) && z.testBit i) := fun i => by rw [hy]; exact clear_low t2 t3 i
      have hylt : y < z := by
        have h1 : y ≤ z - 1 := by rw [hy]; exact Nat.and_le_right
        omega
      rw [← hy, ← hz1'] at hand
      rw [← hz1'] at hsub
      have HY : Hid (∀ i, y.testBit i = (decide (t + 1 ≤ i) && W.testBit i)) := fun i => by
        rw [hyb i, HZ.out i]
        by_cases h : t < i
        · have h2 : k ≤ i := by omega
          have h3 : t + 1 ≤ i := h
          simp [h, h2, h3]
        · have h3 : ¬ t + 1 ≤ i := h
          simp [h, h3]
      have HLN : Hid (ns ((List.range k).filter W.testBit) ++ [.int .i64 (t : Int)] = ns ((List.range (t + 1)).filter W.testBit)) := by
        have h1 : W.testBit t = true := by
          have := HZ.out t
          rw [t2] at this
          simp at this
          exact this.2
        show _ = _
        rw [List.range_succ, List.filter_append, filter_skip hkt (fun i h1 h2 => by
          have h3 := HZ.out i
          rw [t3 i h2] at h3
          simpa [h1] using h3.symm)]
        simp [h1, ns, nv]
      clear hy hz1' hyb t2 t3 ht HZ
      obtain ⟨va, vc, rfl, -, -, -⟩ := HV.out.seq
      go_wp2_with fail
      refine HTW.out.mono ?_
      rintro e w' ⟨rfl, rfl⟩
      go_wp2_with (first
        | (at_builtin; refine wpList_appendO _ rfl (.tmp 10) (.tmp 13) 42 rfl 3 i0 _ 1 8 Tryz.underlying42 hi hz0 hz1 hz2 rfl (by decide) (.slice va n vc) n (ns ((List.range k).filter W.testBit)) rfl (HV.out.kept (fun q hq => Below.heap_alloc _ _ _ (HV.out.lt q hq))) ⟨wr.heap.size, 0, none⟩ 1 1 [.int .i64 (t : Int)] rfl rfl ?_ ?_ (by unfold maxLen; omega) (by omega) ?_)
        | fail)
      · intro j u hj
        rcases j with _ | j
        · simp at hj; subst hj; simp [Addr.add]
        · simp at hj
      · intro u hu; simp at hu; subst hu; rfl
      · intro v4 w4 r1 r2 r3
        rw [HLN.out] at r1
        have HV4 := Lib.hid r1
        have HB4 : Hid (Below w.heap.size w w4) := (HB.out.alloc HB.out.size _).grown r2 (by have := HB.out.size; simp; omega) (fun q hq => HN.out q hq)
        have HN4 : Hid (∀ q, v4.ownBlock = some q → w.heap.size ≤ q) := fun q hq => by
          rcases r3 q hq with h' | h'
          · exact HN.out q h'
          · have h1 := h'.1
            have h2 := HB.out.size
            try simp at h1
            omega
        clear r1 r2 r3
        go_wp2_with fail
        go_roundw
        case rel => exact ⟨y, t + 1, n + 1, by go_num, by omega, by omega, by omega, HY, HV4, HN4, HB4⟩
        case measure => simp [intOf]; omega
end Go.Proofs.YtcdpnfchmpncjaaGreatDoor
