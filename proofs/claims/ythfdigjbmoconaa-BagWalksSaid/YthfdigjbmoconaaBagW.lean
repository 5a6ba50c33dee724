/-
  turnrowlaw08.BagWalks: the walk.
-/
import Derived.Test.YthfdigjbmoconaaBag2
set_option linter.unusedSimpArgs false
set_option linter.unusedVariables false
namespace Go.Proofs.Ythfdigjbmoconaa
open Go.RowKit Go.Tr

/-- Where the walk stands behind k of them. -/
def atW (zs : List Int) : Nat → Int
  | 0 => -1000001
  | k + 1 => zs[k]?.getD 0 + 1
theorem posL_split {zs : List Int} (k : Nat) (x : Int) (h1 : ∀ z ∈ zs.take k, z < x) (h2 : ∀ z ∈ zs.drop k, x ≤ z) (hk : k ≤ zs.length) : posL zs x = k := by
  unfold posL
  have e : zs = zs.take k ++ zs.drop k := (List.take_append_drop k zs).symm
  rw [e, List.countP_append]
  have a : (zs.take k).countP (· < x) = k := by
    have : (zs.take k).countP (· < x) = (zs.take k).length := List.countP_eq_length.2 (fun z hz => by simpa using h1 z hz)
    rw [this, List.length_take]; omega
  have b : (zs.drop k).countP (· < x) = 0 := List.countP_eq_zero.2 (fun z hz => by have := h2 z hz; simp; omega)
  have e2 : (zs.take k ++ zs.drop k) = zs := List.take_append_drop k zs
  rw [a, b]; rfl
theorem posL_atW {zs : List Int} (hr : zs.Pairwise (· < ·)) (hb : ∀ z ∈ zs, -1000000 < z) {k : Nat} (hk : k ≤ zs.length) : posL zs (atW zs k) = k := by
  have hg : ∀ i j (hi : i < zs.length) (hj : j < zs.length), i < j → zs[i] < zs[j] := fun i j hi hj hij => List.pairwise_iff_getElem.1 hr i j hi hj hij
  refine posL_split k _ (fun z hz => ?_) (fun z hz => ?_) hk
  · obtain ⟨i, hi, rfl⟩ := List.mem_iff_getElem.1 hz
    rw [List.length_take] at hi
    cases k with
    | zero => omega
    | succ k =>
      show _ < zs[k]?.getD 0 + 1
      rw [List.getElem?_eq_getElem (by omega), List.getElem_take]
      show zs[i] < zs[k] + 1
      rcases Nat.lt_or_ge i k with h | h
      · have := hg i k (by omega) (by omega) h; omega
      · have : i = k := by omega
        subst this; omega
  · obtain ⟨i, hi, rfl⟩ := List.mem_iff_getElem.1 hz
    rw [List.length_drop] at hi
    rw [List.getElem_drop]
    cases k with
    | zero => have := hb _ (List.getElem_mem (l := zs) (n := 0 + i) (by omega)); show -1000001 ≤ _; omega
    | succ k =>
      show zs[k]?.getD 0 + 1 ≤ _
      rw [List.getElem?_eq_getElem (by omega)]
      show zs[k] + 1 ≤ _
      have := hg k (k + 1 + i) (by omega) (by omega) (by omega); omega

theorem tmod_bound (x : Int) : -1000000 < x.tmod 1000000 ∧ x.tmod 1000000 < 1000000 := ⟨Int.lt_tmod_of_pos x (by decide), Int.tmod_lt_of_pos x (by decide)⟩
set_option maxRecDepth 100000 in
set_option maxHeartbeats 2000000 in
theorem walks_row (aa : Option Addr) (n c : Nat) (L : List Int) (w : World) (ha : SeqAt w aa (ints L)) (hl : L.length = n) (hc : n ≤ c) (hm : n ≤ maxLen) (hw : ∀ x ∈ L, (Lit.int .i64 x).wf = true) :
    Calls Try.prog 3 #[.slice aa n c] w fun e w' => e = .returned (.bool true) ∧ Below w.heap.size w w' := by
  obtain ⟨i0, hi, hz0, hz1, hz2⟩ := info_parts infoIntB
  have HA := Lib.hid ha
  have HL := Lib.hid hl
  clear ha hl hw
  unfold maxLen at hm
  obtain ⟨m, hmm⟩ : ∃ m, m = min n 100 := ⟨_, rfl⟩
  have hm1 : m ≤ n := by omega
  have hm2 : m ≤ 100 := by omega
  have hmc : m ≤ c := by omega
  have hmI : min (n : Int) 100 = (m : Int) := by omega
  go_enter Try.func3, Try.ntmps3
  go_wp2_with fail
  rw [← hmm]
  clear hmm
  go_loopw [3, 20] (fun v i wr => ∃ (k : Nat) (M : List Int), k ≤ m ∧ i = .int .i64 k ∧ Hid (wr.ownsRow w.heap.size 3 1 v k (ints M)) ∧ Hid (∀ z ∈ M, -1000000 < z ∧ z < 1000000) ∧ Hid (Below w.heap.size w wr)) (fun _ i _ => m - (intOf i).toNat)
  case atStart => exact ⟨0, [], Nat.zero_le _, rfl, World.ownsRow_nil _ _ _ _, fun z hz => by (cases hz), Below.refl _ _⟩
  case round =>
    obtain ⟨k, M, hk, rfl, HV, HM, HB⟩ := hrel
    obtain ⟨oa8, oc8, rfl, hs8, hoc8, -⟩ := ownsRow_seq HV.out
    have HML : Hid (M.length = k) := by have := HV.out.1; show _ = _; simpa [ints] using this
    by_cases hlt : k < m
    · have hlt' : (k : Int) < (m : Int) := by omega
      obtain ⟨b, off, x, rfl, hcx, HX⟩ := (HA.out.below HB.out (Nat.le_refl _)).ints (k := k) (by rw [HL.out]; omega)
      clear HX hs8
      have HTB := Lib.hid (tmod_bound x)
      obtain ⟨y, hy⟩ : ∃ y, y = x.tmod 1000000 := ⟨_, rfl⟩
      have HY := Lib.hid hy
      rw [← hy] at HTB
      have HM2 : Hid (∀ z ∈ M ++ [y], -1000000 < z ∧ z < 1000000) := fun z hz => by
        rcases List.mem_append.1 hz with hz | hz
        · exact HM.out z hz
        · simp at hz; subst hz; exact HTB.out
      go_wp2_with (first
        | (at_builtin; rw [← hy]; refine wpList_append_own _ rfl (.tmp 24) (.tmp 27) 22 rfl w.heap.size 3 i0 _ 1 8 Try.underlying22 hi hz0 hz1 hz2 rfl (by decide) _ _ _ rfl (HV.out.alloc _) ⟨wr.heap.size, 0, none⟩ 1 1 (ints [y]) rfl rfl ?_ (ints_oneCell .i64 [y]) (by unfold maxLen; omega) (by omega) (by have := HB.out.size; simp; omega) ?_)
        | fail)
      · intro j u hu
        exact news_block wr (ints [y]) 3 j u hu
      · intro v' w4 hown hgrow _
        have HV4 : Hid (w4.ownsRow w.heap.size 3 1 v' (k + 1) (ints (M ++ [y]))) := by
          have e : ints (M ++ [y]) = ints M ++ ints [x.tmod 1000000] := by rw [HY.out]; simp [ints]
          rw [e]; exact hown
        have HB4 : Hid (Below w.heap.size w w4) := (HB.out.alloc HB.out.size _).grown hgrow (by have := HB.out.size; simp; omega) (fun j hj => (HV.out.lt j hj).1)
        clear hown hgrow
        go_wp2
        go_roundw
        case rel => exact ⟨k + 1, _, by omega, by go_num, HV4, HM2, HB4⟩
        case measure => simp [intOf]; omega
    · have hlt' : ¬ ((k : Int) < (m : Int)) := by omega
      have hk100 : k ≤ 100 := by omega
      have HS := Lib.hid hs8
      clear HV hs8 HA HL
      go_wp2_with fail
      refine (bnew_any _ _ _ M _ HS.out HML.out (by omega)).mono ?_
      rintro e w1 ⟨g, v1, rfl, hbag, hb⟩
      have HG := Lib.hid hbag
      have HB1 := Lib.hid (HB.out.trans (hb.mono HB.out.size))
      have HR : Hid ((setL M).Pairwise (· < ·)) := setL_rises M
      have HSB : Hid (∀ z ∈ setL M, -1000000 < z ∧ z < 1000000) := fun z hz => HM.out z (mem_setL.1 hz)
      have HSL : Hid ((setL M).length ≤ 100) := by have := setL_length M; have h2 := HML.out; show _ ≤ _; omega
      clear hbag hb HS HB HM HML
      generalize setL M = zs at *
      go_wp2_with fail
      refine (alive08_any _).mono ?_
      rintro e w2 ⟨rfl, hb⟩
      have HG2 := Lib.hid (HG.out.below hb)
      have HB2 := Lib.hid (HB1.out.trans (hb.mono HB1.out.size))
      clear hb HG HB1
      go_wp2_with fail
      refine (all_any _ HG2.out (by have := HSL.out; omega)).mono ?_
      rintro e w3 ⟨v3, rfl, ho, hb⟩
      have HG3 := Lib.hid (HG2.out.below hb)
      have HB3 := Lib.hid (HB2.out.trans (hb.mono HB2.out.size))
      obtain ⟨a3, c3, rfl, hq, -, -⟩ := ownsRow_seq ho
      have HQ := Lib.hid hq
      clear ho hb hq HB2 HG2
      obtain ⟨zn, hzn⟩ : ∃ zn, zn = zs.length := ⟨_, rfl⟩
      have HZN := Lib.hid hzn.symm
      rw [← hzn] at HSL ⊢
      have hzn1 : zn ≤ 100 := HSL.out
      clear hzn
      go_wp2_with fail
      go_loopw [7, 41] (fun at_ i wr => ∃ k : Nat, k ≤ zn ∧ i = .int .i64 k ∧ at_ = .int .i64 (atW zs k) ∧ Hid (Drawn w3 wr)) (fun _ i _ => zn - (intOf i).toNat)
      case atStart => exact ⟨0, Nat.zero_le _, rfl, rfl, Drawn.refl _⟩
      case round =>
        obtain ⟨j, hj, rfl, rfl, HD⟩ := hrel
        have HPO : Hid (posL zs (atW zs j) = j) := posL_atW HR.out (fun z hz => (HSB.out z hz).1) (by rw [HZN.out]; exact hj)
        have HGR := Lib.hid (HG3.out.below (HD.out.below _))
        obtain ⟨at_, hat⟩ : ∃ at_, at_ = atW zs j := ⟨_, rfl⟩
        rw [← hat] at HPO ⊢
        clear hat
        by_cases hlt2 : j < zn
        · have hlt2' : (j : Int) < (zn : Int) := by omega
          obtain ⟨b2, off2, z, rfl, hcz, HZ⟩ := (HQ.out.below (HD.out.below _) (Nat.le_refl _)).ints (k := j) (by rw [HZN.out]; exact hlt2)
          have HZ0 : Hid (zs[j]?.getD 0 = z) := by show _ = _; rw [HZ.out]; rfl
          have HZB := HSB.out z (List.mem_of_getElem? HZ.out)
          have HAT : Hid (atW zs (j + 1) = z + 1) := by show zs[j]?.getD 0 + 1 = _; rw [HZ0.out]
          have hzb1 := HZB.1
          have hzb2 := HZB.2
          clear HZB HZ
          go_wp2_with fail
          refine (bfirst_any at_ _ HGR.out (by rw [HZN.out]; omega)).mono ?_
          rintro e w4 ⟨rfl, hd⟩
          have HD4 : Hid (Drawn w3 w4) := HD.out.trans hd
          rw [HPO.out, HZ0.out, HZN.out, show decide (j < zn) = true from decide_eq_true hlt2]
          clear hd
          go_wp2_with fail
          go_roundw
          case rel => exact ⟨j + 1, by omega, by go_num, by rw [HAT.out], HD4⟩
          case measure => simp [intOf]; omega
        · have hjz : j = zn := by omega
          have hlt2' : ¬ ((j : Int) < (zn : Int)) := by omega
          go_wp2_with fail
          refine (bfirst_any at_ _ HGR.out (by rw [HZN.out]; omega)).mono ?_
          rintro e w4 ⟨rfl, hd⟩
          have HB4 := Lib.hid (HB3.out.trans ((HD.out.trans hd).below _))
          rw [HPO.out, HZN.out, show decide (j < zn) = false from decide_eq_false hlt2]
          clear hd
          go_wp2_with fail
          go_ret
          exact ⟨rfl, HB4.out⟩
end Go.Proofs.Ythfdigjbmoconaa
