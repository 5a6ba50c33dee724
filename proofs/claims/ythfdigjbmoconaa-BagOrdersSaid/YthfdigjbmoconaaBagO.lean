/-
  turnrowlaw08.BagOrders: the walk.
-/
import Derived.Test.YthfdigjbmoconaaBag5
set_option linter.unusedSimpArgs false
set_option linter.unusedVariables false
namespace Go.Proofs.Ythfdigjbmoconaa
open Go.RowKit Go.Tr

/-- Where the second road stands behind i. -/
def idxO (n t i : Nat) : Nat := (n - 1 - i + t) % n
theorem idxO_lt {n t i : Nat} (h : 0 < n) : idxO n t i < n := Nat.mod_lt _ h
theorem idxO_all {n t j : Nat} (ht : t < n) (hj : j < n) : ∃ i, i < n ∧ idxO n t i = j := by
  unfold idxO
  by_cases h : n - 1 - j + t < n
  · refine ⟨n - 1 - j + t, h, ?_⟩
    by_cases h2 : t ≤ j
    · rw [show n - 1 - (n - 1 - j + t) + t = j by omega, Nat.mod_eq_of_lt hj]
    · omega
  · refine ⟨n - 1 - j + t - n, by omega, ?_⟩
    rw [show n - 1 - (n - 1 - j + t - n) + t = j + n by omega, Nat.add_mod_right, Nat.mod_eq_of_lt hj]

set_option maxRecDepth 100000 in
set_option maxHeartbeats 4000000 in
theorem orders_row (aa : Option Addr) (an ac : Nat) (L : List Int) (x : Int) (w : World) (ha : SeqAt w aa (ints L)) (hl : L.length = an) (hc : an ≤ ac) (hm : an ≤ maxLen) (hw : ∀ x ∈ L, (Lit.int .i64 x).wf = true) (hx : (Lit.int .i64 x).wf = true) :
    Calls Try.prog 6 #[.slice aa an ac, .int .i64 x] w fun e w' => e = .returned (.bool true) ∧ Below w.heap.size w w' := by
  unfold maxLen at hm
  obtain ⟨n, hn⟩ : ∃ n, n = min an 100 := ⟨_, rfl⟩
  have hn1 : n ≤ an := by omega
  have hn2 : n ≤ 100 := by omega
  have hnc : n ≤ ac := by omega
  have HA : Hid (SeqAt w aa (ints (L.take n))) := SeqAt.takeI ha n
  have HAL : Hid ((L.take n).length = n) := by show _ = _; rw [List.length_take]; omega
  have hnI : min (an : Int) 100 = (n : Int) := by omega
  clear ha hl hw hx hn
  generalize L.take n = l at *
  go_enter Try.func6, Try.ntmps6
  go_wp2_with fail
  refine (newB aa n ac l _ HA.out HAL.out (by omega) (Bags.none (Below.refl _ _))).mono ?_
  rintro e w1 ⟨ga, rfl, hi, hb⟩
  have HI := Lib.hid hi
  clear hi hb
  go_wp2_with fail
  refine (newB none 0 0 [] _ (fun h => by simp [ints] at h) rfl (by omega) HI.out).mono ?_
  rintro e w2 ⟨gb, rfl, hi, hb⟩
  have HI2 := Lib.hid hi
  clear hi hb HI
  go_wp2_with fail
  refine (newB none 0 0 [] _ (fun h => by simp [ints] at h) rfl (by omega) HI2.out).mono ?_
  rintro e w3 ⟨gc, rfl, hi, hb⟩
  have hs0 : setL [] = [] := by
    have := setL_length []
    exact List.eq_nil_of_length_eq_zero (by simpa using this)
  rw [hs0] at hi
  have HI3 : Hid (Bags w w3 [(ga, setL l), (gb, []), (gc, [])]) := hi
  clear hi hb HI2 hs0
  go_wp2_with fail
  refine (alive08_any _).mono ?_
  rintro e w4 ⟨rfl, hb⟩
  have HI4 := Lib.hid (HI3.out.read hb)
  clear hb HI3
  go_wp2_with fail
  obtain ⟨t, htd⟩ : ∃ t : Nat, t = ((IntKind.u64.wrap x).tmod (n : Int)).toNat := ⟨_, rfl⟩
  have HTT : Hid (0 < n → (IntKind.u64.wrap x).tmod (n : Int) = (t : Int) ∧ t < n) := fun h0 => by
    have h0u := wrap_u64_nonneg x
    have hnpos : 0 < (n : Int) := by omega
    have hm1 := Int.tmod_lt_of_pos (IntKind.u64.wrap x) hnpos
    have hm0 := Int.tmod_nonneg (n : Int) h0u
    omega
  clear htd
  go_loopw [35] (fun i wr => ∃ (k : Nat) (zb zc : List Int), k ≤ n ∧ i = .int .i64 k ∧ Hid (∀ y, y ∈ zb ↔ y ∈ l.take k) ∧ Hid (∀ y, y ∈ zc ↔ ∃ i, i < k ∧ l[idxO n t i]? = some y) ∧ Hid (zb.length ≤ k ∧ zc.length ≤ k) ∧ Hid (Bags w wr [(ga, setL l), (gb, zb), (gc, zc)])) (fun i _ => n - (intOf i).toNat)
  case atStart => exact ⟨0, [], [], Nat.zero_le _, rfl, fun y => by simp, fun y => ⟨fun h => by simp at h, fun ⟨i, h, _⟩ => by omega⟩, ⟨Nat.le_refl _, Nat.le_refl _⟩, HI4⟩
  case round =>
    clear HI4
    obtain ⟨k, zb, zc, hk, rfl, HZB, HZC, HZL, HI⟩ := hrel
    have HAW := Lib.hid (HA.out.below HI.out.below (Nat.le_refl _))
    by_cases hlt : k < n
    · have hlt' : (k : Int) < (n : Int) := by omega
      obtain ⟨b, off, y, rfl, hcx, HX⟩ := HAW.out.ints (k := k) (by rw [HAL.out]; omega)
      have HT := Lib.hid (take_snoc HX.out)
      clear HX
      obtain ⟨ht, htn⟩ := HTT.out (by omega)
      have hw1 : wrap64 ((IntKind.u64.wrap x).tmod (n : Int)) = (t : Int) := by rw [ht]; unfold wrap64; omega
      have hw2 : wrap64 ((n : Int) - 1 - (k : Int) + (t : Int)) = ((n - 1 - k + t : Nat) : Int) := by unfold wrap64; omega
      have hix : ((n - 1 - k + t : Nat) : Int).tmod (n : Int) = (idxO n t k : Int) := by
        rw [Int.tmod_eq_emod_of_nonneg (by omega)]; unfold idxO; omega
      obtain ⟨ix, hixn⟩ : ∃ ix, ix = idxO n t k := ⟨_, rfl⟩
      have HIXN := Lib.hid hixn
      have hix' : (wrap64 ((n : Int) - 1 - (k : Int) + wrap64 ((IntKind.u64.wrap x).tmod (n : Int)))).tmod (n : Int) = (ix : Int) := by rw [hw1, hw2, hix, hixn]
      have hixl : ix < n := by rw [hixn]; exact idxO_lt (by omega)
      clear hw1 hw2 hix hixn ht
      go_wp2_with fail
      refine (putB 1 y _ HI.out rfl (by have := HZL.out.1; omega)).mono ?_
      rintro e w5 ⟨rfl, hi⟩
      have HI5 : Hid (Bags w w5 [(ga, setL l), (gb, putL zb y), (gc, zc)]) := hi
      clear hi
      generalize hasL zb y = bb
      obtain ⟨b', off', z, hab, hcz, HZ⟩ := (HA.out.below HI5.out.below (Nat.le_refl _)).ints (k := ix) (by rw [HAL.out]; omega)
      cases hab
      go_wp2_with fail
      refine (putB 2 z _ HI5.out rfl (by have := HZL.out.2; omega)).mono ?_
      rintro e w6 ⟨rfl, hi⟩
      have HI6 : Hid (Bags w w6 [(ga, setL l), (gb, putL zb y), (gc, putL zc z)]) := hi
      clear hi HI5 HI
      generalize hasL zc z = bb2
      have HZB2 : Hid (∀ u, u ∈ putL zb y ↔ u ∈ l.take (k + 1)) := fun u => by rw [mem_putL, HT.out, List.mem_append, HZB.out u]; simp
      have HZC2 : Hid (∀ u, u ∈ putL zc z ↔ ∃ i, i < k + 1 ∧ l[idxO n t i]? = some u) := fun u => by
        rw [mem_putL, HZC.out u]
        constructor
        · rintro (⟨i, h1, h2⟩ | rfl)
          · exact ⟨i, by omega, h2⟩
          · exact ⟨k, by omega, by rw [← HIXN.out]; exact HZ.out⟩
        · rintro ⟨i, h1, h2⟩
          by_cases e : i = k
          · subst e
            rw [← HIXN.out, HZ.out] at h2
            exact Or.inr (by simpa using h2.symm)
          · exact Or.inl ⟨i, by omega, h2⟩
      have HZL2 : Hid ((putL zb y).length ≤ k + 1 ∧ (putL zc z).length ≤ k + 1) := by
        have h1 := putL_length zb y; have h2 := putL_length zc z; have h3 := HZL.out; exact ⟨by omega, by omega⟩
      go_wp2_with fail
      go_roundw
      case rel => exact ⟨k + 1, _, _, by omega, by go_num, HZB2, HZC2, HZL2, HI6⟩
      case measure => simp [intOf]; omega
    · have hlt' : ¬ ((k : Int) < (n : Int)) := by omega
      have hkn : k = n := by omega
      subst hkn
      have hrb := HI.out.rises (i := 1) rfl
      have hrc := HI.out.rises (i := 2) rfl
      have eb : zb = setL l := rises_eq hrb (setL_rises l) (fun u => by
        rw [HZB.out u, mem_setL, List.take_of_length_le (by rw [HAL.out]; omega)])
      have ec : zc = setL l := rises_eq hrc (setL_rises l) (fun u => by
        rw [HZC.out u, mem_setL]
        constructor
        · rintro ⟨i, h1, h2⟩; exact List.mem_of_getElem? h2
        · intro hu
          obtain ⟨j, hj, rfl⟩ := List.mem_iff_getElem.1 hu
          have hj2 : j < k := by rw [← HAL.out]; exact hj
          obtain ⟨i, hi1, hi2⟩ := idxO_all (HTT.out (by omega)).2 hj2
          exact ⟨i, hi1, by rw [hi2]; exact List.getElem?_eq_getElem hj⟩)
      subst eb
      subst ec
      have HSL : Hid ((setL l).length ≤ 100) := by have := setL_length l; have := HAL.out; show _ ≤ _; omega
      clear hrb hrc HZB HZC HZL HAW
      generalize setL l = zs at *
      obtain ⟨zn, hzn⟩ : ∃ zn, zn = zs.length := ⟨_, rfl⟩
      have HZN := Lib.hid hzn.symm
      rw [← hzn] at HSL
      have hzn1 : zn ≤ 100 := HSL.out
      clear hzn
      go_wp2_with fail
      refine (allB 0 _ HI.out rfl (by rw [HZN.out]; omega)).mono ?_
      rintro e w5 ⟨a5, c5, rfl, ho, hi, hb⟩
      rw [HZN.out] at ho ⊢
      have HI5 := Lib.hid hi
      have HO5 := Lib.hid ho
      clear ho hi hb HI
      go_wp2_with fail
      refine (allB 1 _ HI5.out rfl (by rw [HZN.out]; omega)).mono ?_
      rintro e w6 ⟨a6, c6, rfl, ho, hi, hb⟩
      rw [HZN.out] at ho ⊢
      have HI6 := Lib.hid hi
      have HQ5 := Lib.hid (ownsRow_seq' (ownsRow_below HO5.out hb))
      have HQ6 := Lib.hid (ownsRow_seq' ho)
      have hm9 : zn ≤ 9223372036854775807 := by omega
      clear ho hi hb HI5 HO5
      go_wp2_with fail
      refine (same_self _ _ _ _ _ _ _ HQ5.out HQ6.out HZN.out hm9).mono ?_
      rintro e w7 ⟨rfl, hd⟩
      have HI7 := Lib.hid (HI6.out.drawn hd)
      clear hd HQ5 HQ6 HI6
      go_wp2_with fail
      refine (allB 0 _ HI7.out rfl (by rw [HZN.out]; omega)).mono ?_
      rintro e w8 ⟨a8, c8, rfl, ho, hi, hb⟩
      rw [HZN.out] at ho ⊢
      have HI8 := Lib.hid hi
      have HO8 := Lib.hid ho
      clear ho hi hb HI7
      go_wp2_with fail
      refine (allB 2 _ HI8.out rfl (by rw [HZN.out]; omega)).mono ?_
      rintro e w9 ⟨a9, c9, rfl, ho, hi, hb⟩
      rw [HZN.out] at ho ⊢
      have HI9 := Lib.hid hi
      have HQ8 := Lib.hid (ownsRow_seq' (ownsRow_below HO8.out hb))
      have HQ9 := Lib.hid (ownsRow_seq' ho)
      clear ho hi hb HI8 HO8
      go_wp2_with fail
      refine (same_self _ _ _ _ _ _ _ HQ8.out HQ9.out HZN.out hm9).mono ?_
      rintro e w10 ⟨rfl, hd⟩
      have HI10 := Lib.hid (HI9.out.drawn hd)
      clear hd HQ8 HQ9 HI9
      go_wp2_with fail
      go_ret
      exact ⟨rfl, HI10.out.below⟩
end Go.Proofs.Ythfdigjbmoconaa
