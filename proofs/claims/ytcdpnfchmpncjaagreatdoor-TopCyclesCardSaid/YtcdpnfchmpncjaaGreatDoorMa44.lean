/-
  Parts of the proof, one behind the other: KTopCyc, KLaid, Open.
-/
import Derived.Test.YtcdpnfchmpncjaaGreatDoorRows
import Derived.ProofKit
import Derived.LaidMore
import Derived.OpenShut
import Derived.Stop.Joined
import Derived.Deep.SlicePairs
import Derived.Test.YtcdpnfchmpncjaaGreatDoorMa43
set_option linter.unusedSimpArgs false
set_option linter.unusedVariables false
namespace Go.Proofs.YtcdpnfchmpncjaaGreatDoor
open Go.RowKit Go.Tr Go.Shelf
variable {w w' : World} {F : Nat → Prop} {A : Ad} {S : HS}
def TcSt (w : World) (h c k i j : Nat) (W : World) : Prop := ∃ F' A S, A.h = h ∧ A.c = c ∧ Run w (fun _ => False) W F' A S ∧ CycB S k i j
set_option maxRecDepth 100000 in
set_option maxHeartbeats 4000000 in
theorem topcycles_any (x y : Int) (w : World) (hT : TzB w) : Calls Tryz.prog 3 #[.int .i64 x, .int .i64 y] w fun e w' => e = .returned (.bool true) ∧ Below w.heap.size w w' := by
  have HT := Lib.hid hT
  clear hT
  obtain ⟨n, hn, hn2⟩ : ∃ n : Nat, (max 0 x).tmod 80 = (n : Int) ∧ n < 80 := by
    have h1 : 0 ≤ (max 0 x) := by omega
    have h2 := Int.tmod_eq_emod_of_nonneg (b := 80) h1
    refine ⟨((max 0 x).tmod 80).toNat, ?_, ?_⟩ <;> omega
  obtain ⟨k, hk, hk1, hk2⟩ : ∃ k : Nat, 1 + max 0 y % 10 = (k : Int) ∧ 1 ≤ k ∧ k ≤ 10 := by
    refine ⟨(1 + max 0 y % 10).toNat, ?_, ?_, ?_⟩ <;> omega
  go_enter Tryz.func3, Tryz.ntmps3
  go_wp2_with fail
  clear hn hk
  refine (enew_any 12 8 10 w (by omega) (by omega) (by omega) (by omega) (by omega) (by omega)).mono ?_
  rintro e w1 ⟨A, rfl, h1, hb1⟩
  have HB1 := Lib.hid hb1
  have HRX1 : Hid (RunX (P0 A 12 8 10 none TS.new [] [] true false false) w (fun _ => False) w1 (Nw w w1)) := ⟨h1, Only.of_below hb1 _, fun k hk => Or.inr hk.1⟩
  clear h1 hb1
  go_wp2_with fail
  refine (alive_any w1 (HT.out.below HB1.out)).mono ?_
  rintro e w1' ⟨rfl, hb1'⟩
  have HRX1' := Lib.hid (HRX1.out.below (p0_parts _ _ _ _ _ _ _ _ _ _ _) hb1')
  have e0 := p0_ev HRX1'.out.1 (Below.refl _ _)
  have hba : Below w1'.heap.size w1' (w1'.alloc (.cells #[.int .u64 2, .int .u64 2, .int .u64 0] 34)) := (Below.refl _ w1').alloc (Nat.le_refl _) _
  have HRX2 := Lib.hid (HRX1'.out.below (p0_parts _ _ _ _ _ _ _ _ _ _ _) hba)
  have HSQ : Hid (SeqAt (w1'.alloc (.cells #[.int .u64 2, .int .u64 2, .int .u64 0] 34)) (some ⟨w1'.heap.size, 0, none⟩) (us [L22.fixed + L22.record * 256, 2, 0])) := SeqAt.of_block (cs := [.int .u64 2, .int .u64 2, .int .u64 0]) (heap_alloc_new w1' _)
  clear hba hb1' HRX1
  go_wp2_with fail
  clear e0
  generalize w1'.alloc (.cells #[.int .u64 2, .int .u64 2, .int .u64 0] 34) = w2 at *
  refine (cdefine_any (L := L22) 2 0 _ 3 w2 HRX2.out.1 (HRX2.out.tz HT.out).at HSQ.out L22_right (by decide) (by decide) spread2 spread0).mono ?_
  rintro e w3 ⟨rfl, h3⟩
  have HRX3 := Lib.hid (HRX2.out.op h3)
  have e0 := p0_ev h3.1 (Below.refl _ _)
  clear h3 HSQ
  go_wp2_with fail
  clear e0
  refine (copen_any w3 HRX3.out.1 (HRX3.out.tz HT.out)).mono ?_
  rintro e w4 ⟨rfl, u, bg, h4⟩
  have HRN4 := Lib.hid (HRX3.out.opened HT.out h4)
  obtain ⟨ah, hah⟩ : ∃ ah, ah = A.h := ⟨_, rfl⟩
  obtain ⟨ac, hac⟩ : ∃ ac, ac = A.c := ⟨_, rfl⟩
  have HST : Hid (TcSt w ah ac k 0 0 w4) := ⟨_, { A with u := u, bg := bg }, _, hah.symm, hac.symm, HRN4.out, CycB.start k⟩
  rw [← hah]
  clear h4 HRX3 HRX2 HRX1' HRN4 hah hac
  go_wp2_with fail
  go_loopw [55] (fun v wr => ∃ i : Nat, v = .int .i64 (i : Int) ∧ i ≤ n ∧ Hid (TcSt w ah ac k i 0 wr)) (fun v _ => n - (intOf v).toNat)
  case atStart => exact ⟨0, rfl, Nat.zero_le _, HST.out⟩
  case round =>
    obtain ⟨i, rfl, hi, HR⟩ := hrel
    by_cases hlt : i < n
    · have hlt2 : (i : Int) < (n : Int) := by omega
      go_wp2_with fail
      clear HST
      go_loopw [59] (fun v wr => ∃ j : Nat, v = .int .i64 (j : Int) ∧ j ≤ k ∧ Hid (TcSt w ah ac k i j wr)) (fun v _ => k - (intOf v).toNat)
      case atStart => exact ⟨0, rfl, Nat.zero_le _, HR.out⟩
      case round =>
        clear HR
        obtain ⟨j, rfl, hj, HR⟩ := hrel
        by_cases hjt : j < k
        · have hjt2 : (j : Int) < (k : Int) := by omega
          obtain ⟨F', A', S, hah, hac, hrun, hc⟩ := HR.out
          obtain ⟨y0, hmk, hy0⟩ := hc.makeOk hjt hk2 (by omega)
          have HMK := Lib.hid (emake_any wr hrun.heap hc.on hmk)
          rw [hy0, hah] at HMK
          obtain ⟨gn, hgn⟩ : ∃ gn, gn = i + 1 := ⟨_, rfl⟩
          rw [← hgn] at HMK
          have hgn2 : 1 + (i : Int) = (gn : Int) := by omega
          have hgw : IntKind.i64.wrap (gn : Int) = (gn : Int) := IntWalk.i64_in _ (by omega)
          have HRN := Lib.hid hrun
          have HC := Lib.hid hc
          have HGN := Lib.hid hgn
          have HAC := Lib.hid (And.intro hah hac)
          have HIB : Hid (i < 80) := by show _ < _; omega
          clear hmk hy0 hrun hc hgn hah hac HR
          go_wp2_with fail
          refine HMK.out.mono ?_
          rintro e w5 ⟨rfl, ad, S1, ha, h5⟩
          have HRN5 := Lib.hid (HRN.out.op h5)
          have HA := Lib.hid ha
          have hba : Below w5.heap.size w5 (w5.alloc (.cells #[.int .i64 j, .int .i64 gn] 38)) := (Below.refl _ w5).alloc (Nat.le_refl _) _
          have HX6 : Hid (Bx (w5.alloc (.cells #[.int .i64 j, .int .i64 gn] 38)) (grow F' wr w5) w5.heap.size (.cells #[.int .i64 j, .int .i64 gn] 38 (0, 0))) := Bx.new HRN5.out.heap.lt
          obtain ⟨ta, hta⟩ : ∃ ta, ta = w5.heap.size := ⟨_, rfl⟩
          rw [← hta] at HX6
          have HRN6 := Lib.hid (HRN5.out.below hba)
          clear h5 ha HMK hba
          go_wp2_with fail
          rw [← hta]
          clear hta
          generalize w5.alloc (.cells #[.int .i64 j, .int .i64 gn] 38) = w6 at *
          generalize grow F' wr w5 = F6 at *
          have hfc : w6.cell? ⟨ah, 0, none⟩ = some (.pointer (some ⟨ac, 0, none⟩)) ∧ w6.cell? ⟨ta, 0, none⟩ = some (.int .i64 j) ∧ w6.cell? ⟨ta, 1, none⟩ = some (.int .i64 gn) := by
            have := HRN6.out.heap.evc (Below.refl _ _)
            rw [HAC.out.1, HAC.out.2] at this
            exact ⟨this, (cells_of_block HX6.out.2 0).1, (cells_of_block HX6.out.2 1).1⟩
          refine wp_region_held_drew (S := fun W => W.cell? ⟨ah, 0, none⟩ = some (.pointer (some ⟨ac, 0, none⟩)) ∧ W.cell? ⟨ta, 0, none⟩ = some (.int .i64 j) ∧ W.cell? ⟨ta, 1, none⟩ = some (.int .i64 gn)) (by kernel_rfl) hfc (fun hH => ?_)
          clear hfc
          refine tk 0 (v := ?_) rfl ?_ ?_; rotate_left; · intro W hW; obtain ⟨d0, d1, d2⟩ := hW; go_simp; try with_reducible rfl
          try simp only [Act.put, List.setIfInBounds_toArray, List.set_cons_zero, List.set_cons_succ]
          refine tk 1 (v := ?_) rfl ?_ ?_; rotate_left; · intro W hW; obtain ⟨d0, d1, d2⟩ := hW; go_simp; try with_reducible rfl
          try simp only [Act.put, List.setIfInBounds_toArray, List.set_cons_zero, List.set_cons_succ]
          refine tk 2 (v := ?_) rfl ?_ ?_; rotate_left; · intro W hW; obtain ⟨d0, d1, d2⟩ := hW; go_simp; try with_reducible rfl
          try simp only [Act.put, List.setIfInBounds_toArray, List.set_cons_zero, List.set_cons_succ]
          refine tk 3 (v := ?_) rfl ?_ ?_; rotate_left; · intro W hW; obtain ⟨d0, d1, d2⟩ := hW; go_simp; try with_reducible rfl
          try simp only [Act.put, List.setIfInBounds_toArray, List.set_cons_zero, List.set_cons_succ]
          refine tk 4 (v := ?_) rfl ?_ ?_; rotate_left; · intro W hW; obtain ⟨d0, d1, d2⟩ := hW; go_simp; try with_reducible rfl
          try simp only [Act.put, List.setIfInBounds_toArray, List.set_cons_zero, List.set_cons_succ]
          refine tk 5 (v := ?_) rfl ?_ ?_; rotate_left; · intro W hW; obtain ⟨d0, d1, d2⟩ := hW; go_simp; try with_reducible rfl
          try simp only [Act.put, List.setIfInBounds_toArray, List.set_cons_zero, List.set_cons_succ]
          refine tk 6 (v := ?_) rfl ?_ ?_; rotate_left; · intro W hW; obtain ⟨d0, d1, d2⟩ := hW; go_simp; try with_reducible rfl
          try simp only [Act.put, List.setIfInBounds_toArray, List.set_cons_zero, List.set_cons_succ]
          refine tk 7 (v := ?_) rfl ?_ ?_; rotate_left; · intro W hW; obtain ⟨d0, d1, d2⟩ := hW; go_simp; try with_reducible rfl
          try simp only [Act.put, List.setIfInBounds_toArray, List.set_cons_zero, List.set_cons_succ]
          refine tk 8 (v := ?_) rfl ?_ ?_; rotate_left; · intro W hW; obtain ⟨d0, d1, d2⟩ := hW; go_simp; try with_reducible rfl
          try simp only [Act.put, List.setIfInBounds_toArray, List.set_cons_zero, List.set_cons_succ]
          refine tk 9 (v := ?_) rfl ?_ ?_; rotate_left; · intro W hW; obtain ⟨d0, d1, d2⟩ := hW; go_simp; try with_reducible rfl
          try simp only [Act.put, List.setIfInBounds_toArray, List.set_cons_zero, List.set_cons_succ]
          refine tk 10 (v := ?_) rfl ?_ ?_; rotate_left; · intro W hW; obtain ⟨d0, d1, d2⟩ := hW; go_simp; try with_reducible rfl
          try simp only [Act.put, List.setIfInBounds_toArray, List.set_cons_zero, List.set_cons_succ]
          refine tk 11 (v := ?_) rfl ?_ ?_; rotate_left; · intro W hW; obtain ⟨d0, d1, d2⟩ := hW; go_simp; try with_reducible rfl
          try simp only [Act.put, List.setIfInBounds_toArray, List.set_cons_zero, List.set_cons_succ]
          refine tk 12 (v := ?_) rfl ?_ ?_; rotate_left; · intro W hW; obtain ⟨d0, d1, d2⟩ := hW; go_simp; try with_reducible rfl
          try simp only [Act.put, List.setIfInBounds_toArray, List.set_cons_zero, List.set_cons_succ]
          refine tk 13 (v := ?_) rfl ?_ ?_; rotate_left; · intro W hW; obtain ⟨d0, d1, d2⟩ := hW; go_simp; try with_reducible rfl
          try simp only [Act.put, List.setIfInBounds_toArray, List.set_cons_zero, List.set_cons_succ]
          refine tk 14 (v := ?_) rfl ?_ ?_; rotate_left; · intro W hW; obtain ⟨d0, d1, d2⟩ := hW; go_simp; try with_reducible rfl
          try simp only [Act.put, List.setIfInBounds_toArray, List.set_cons_zero, List.set_cons_succ]
          refine tk 15 (v := ?_) rfl ?_ ?_; rotate_left; · intro W hW; obtain ⟨d0, d1, d2⟩ := hW; go_simp; try with_reducible rfl
          try simp only [Act.put, List.setIfInBounds_toArray, List.set_cons_zero, List.set_cons_succ]
          have hmd := HC.out.made hjt hk2 HIB.out (by have := HA.out; rw [HC.out.lay, L22_size] at this; exact this)
          rw [← HGN.out] at hmd
          have HMD := Lib.hid hmd.2
          have HDR := Lib.hid (cdrop_any (x := ⟨gn, true, ad, 1, true, false⟩) (i := j) w6.drew (HRN6.out.below (Below.refl _ _).drew).heap hmd.1 rfl rfl)
          rw [HAC.out.2] at HDR
          have HRN6' := Lib.hid (HRN6.out.below (Below.refl _ _).drew)
          clear hmd
          refine rd 16 rfl (fun K hK => ?_)
          go_simp
          refine HDR.out.mono ?_
          rintro e w7 ⟨rfl, h7⟩
          have HRN7 := Lib.hid (HRN6'.out.op h7)
          have HX7 := Lib.hid ((HX6.out.below (Below.refl _ _).drew).op h7.2)
          have hfc : w7.cell? ⟨ah, 0, none⟩ = some (.pointer (some ⟨ac, 0, none⟩)) ∧ w7.cell? ⟨ta, 0, none⟩ = some (.int .i64 j) ∧ w7.cell? ⟨ta, 1, none⟩ = some (.int .i64 gn) := by
            have := HRN7.out.heap.evc (Below.refl _ _)
            rw [HAC.out.1, HAC.out.2] at this
            exact ⟨this, (cells_of_block HX7.out.2 0).1, (cells_of_block HX7.out.2 1).1⟩
          refine hK.out _ _ hfc (fun hH => ?_)
          have HNX : Hid (TcSt w ah ac k i (j + 1) w7) := ⟨_, A', _, HAC.out.1, HAC.out.2, HRN7.out, HMD.out⟩
          clear h7 hK K hfc HDR
          refine tk 17 (v := ?_) rfl ?_ ?_; rotate_left; · intro W hW; go_simp; try with_reducible rfl
          try simp only [Act.put, List.setIfInBounds_toArray, List.set_cons_zero, List.set_cons_succ]
          refine tk 18 (v := ?_) rfl ?_ ?_; rotate_left; · intro W hW; go_simp; try with_reducible rfl
          try simp only [Act.put, List.setIfInBounds_toArray, List.set_cons_zero, List.set_cons_succ]
          refine wpAnyH_done (by kernel_rfl) ?_ _
          go_wp2_with fail
          go_roundw
          case rel => exact ⟨j + 1, by go_num, by omega, HNX.out⟩
          case measure => simp [intOf]; omega
        · have hjt2 : ¬ ((j : Int) < (k : Int)) := by omega
          have hjk : j = k := by omega
          obtain ⟨F', A', S, hah, hac, hrun, hc⟩ := HR.out
          rw [hjk] at hc
          have HTF := Lib.hid (tfinish_any (b := 3) (hc.evJ hk2 (by omega)) wr hrun.heap hc.good hc.on ⟨rfl, rfl⟩ (by omega) (by omega))
          rw [hah] at HTF
          have HRN := Lib.hid hrun
          have HC := Lib.hid hc
          have HAC := Lib.hid (And.intro hah hac)
          clear hjk hrun hc hah hac HR
          go_wp2_with fail
          refine HTF.out.mono ?_
          rintro e w5 ⟨v, u2, gl, rfl, sv, fr, n5, SJ, S3, rfl, ⟨va, vc, rfl⟩, ⟨-, rfl⟩, -, hfr, h5⟩
          obtain ⟨g1, g2, g3, g4⟩ := HC.out.fin hk2 hfr
          rw [g2]
          obtain ⟨A5, a1, a2, h5⟩ : ∃ A5 : Ad, A5.h = ah ∧ A5.c = ac ∧ HeapF w5 (grow F' wr w5) A5 S3 ∧ Only F' wr w5 := ⟨{ A' with h := ah, u2 := u2, gl := gl }, rfl, HAC.out.2, h5⟩
          have HRN5 := Lib.hid (HRN.out.op h5)
          generalize grow F' wr w5 = F5 at *
          generalize fr.length = fl at *
          have hba : Below w5.heap.size w5 (w5.alloc (.cells #[.slice va fl vc, .int .i64 k] 44)) := (Below.refl _ w5).alloc (Nat.le_refl _) _
          have HRN6 := Lib.hid (HRN5.out.below hba)
          have HSF : Hid (∀ W, Below (w5.alloc (.cells #[.slice va fl vc, .int .i64 k] 44)).heap.size (w5.alloc (.cells #[.slice va fl vc, .int .i64 k] 44)) W → W.cell? ⟨ah, 0, none⟩ = some (.pointer (some ⟨ac, 0, none⟩)) ∧ W.cell? ⟨ac, 0, none⟩ = some (.pointer (some ⟨A5.s, 0, none⟩)) ∧ W.cell? ⟨ac, 3, none⟩ = some (.pointer (some ⟨A5.t, 0, none⟩)) ∧
              Calls Tryz.prog 13 #[.pointer (some ⟨A5.s, 0, none⟩)] W (fun e w' => e = .returned (.int .i64 12) ∧ Drawn W w') ∧ Calls Tryz.prog 14 #[.pointer (some ⟨A5.t, 0, none⟩)] W (fun e w' => e = .returned (.int .i64 0) ∧ Drawn W w') ∧ Calls Tryz.prog 15 #[.pointer (some ⟨A5.t, 0, none⟩)] W (fun e w' => e = .returned (.int .i64 10) ∧ Drawn W w')) := fun W hb => by
            have k0 := HRN6.out.heap.evc hb
            obtain ⟨k1, -, -, k2, -⟩ := HRN6.out.heap.fields hb
            have k3 := HRN6.out.heap.sfree hb
            have k4 := HRN6.out.heap.tused hb
            have k5 := HRN6.out.heap.tleft hb
            rw [g1.c, g3] at k3
            rw [g1.kk, g4] at k4
            rw [g1.kk, g4] at k5
            rw [a1, a2] at k0
            rw [a2] at k1 k2
            exact ⟨k0, k1, k2, k3, k4, k5⟩
          have HNX : Hid (∀ W, Below (w5.alloc (.cells #[.slice va fl vc, .int .i64 k] 44)).heap.size (w5.alloc (.cells #[.slice va fl vc, .int .i64 k] 44)) W → TcSt w ah ac k (i + 1) 0 W) := fun W hb => ⟨F5, A5, S3, a1, a2, HRN6.out.below hb, g1⟩
          clear h5 hfr g1 g2 g3 g4 hba HTF HRN5 HRN6 a1 a2
          obtain ⟨e0, c0, c3, -⟩ := HSF.out _ (Below.refl _ _)
          go_wp2_with fail
          clear e0 c0 c3
          generalize w5.alloc (.cells #[.slice va fl vc, .int .i64 k] 44) = w6 at *
          refine (HSF.out w6 (Below.refl _ _)).2.2.2.1.mono ?_
          rintro e w7 ⟨rfl, hd7⟩
          have HB7 := Lib.hid (hd7.below w6.heap.size)
          obtain ⟨e0, c0, c3, -⟩ := HSF.out _ HB7.out
          clear hd7
          go_wp2_with fail
          clear e0 c0 c3
          refine (HSF.out w7 HB7.out).2.2.2.2.1.mono ?_
          rintro e w8 ⟨rfl, hd8⟩
          have HB8 : Hid (Below w6.heap.size w6 w8) := HB7.out.trans (hd8.below w6.heap.size)
          obtain ⟨e0, c0, c3, -⟩ := HSF.out _ HB8.out
          clear hd8
          go_wp2_with fail
          clear e0 c0 c3
          refine (HSF.out w8 HB8.out).2.2.2.2.2.mono ?_
          rintro e w9 ⟨rfl, hd9⟩
          have HB9 : Hid (Below w6.heap.size w6 w9) := HB8.out.trans (hd9.below w6.heap.size)
          have HN9 := Lib.hid (HNX.out w9 HB9.out)
          clear hd9
          go_wp2_with fail
          go_roundw
          case rel => exact ⟨i + 1, by go_num, by omega, HN9.out⟩
          case measure => simp [intOf]; omega
    · have hlt2 : ¬ ((i : Int) < (n : Int)) := by omega
      obtain ⟨F', A', S, hah, hac, hrun, hc⟩ := HR.out
      have e0 := hrun.heap.evc (Below.refl _ _)
      obtain ⟨-, -, -, -, c4, -⟩ := hrun.heap.fields (Below.refl _ _)
      rw [hah] at e0
      have HQL := Lib.hid (hrun.heap.qlen (Below.refl _ _))
      have HB := Lib.hid hrun.fin0
      clear hrun hc HR HST hah hac
      go_wp2_with fail
      refine HQL.out.mono ?_
      rintro e w5 ⟨rfl, rfl⟩
      go_wp2
      go_ret
      exact ⟨rfl, HB.out⟩
end Go.Proofs.YtcdpnfchmpncjaaGreatDoor
namespace Go.Proofs.YtcdpnfchmpncjaaGreatDoor
open Go.ChangeShapes Go.WideShapes Go.ChangeAt Go.WideMaps Go.WideElems Go.RowKit Go.Tr
theorem gTab : Tryz.prog.globalNamed "math/bits.deBruijn64tab" = some 0 := by kernel_rfl
theorem tTab : (Tryz.prog.globals[0]?).map (·.type) = some 257 := by kernel_rfl
def laidTab : List (String × DataW Unit) := [("math/bits.deBruijn64tab", Rows.laid_math_bits_deBruijn64tab)]
theorem laid_tab : (Rows.laid_math_bits_deBruijn64tab : DataW Unit) = .agg (Lib.deBruijn64tab.map fun n => .lit (.int .u8 (n : Nat))) := by rfl
theorem of_laid {W : World} (h : laidMetH Tryz.prog laidTab W) : TzB W := by
  rw [MakeChecks.laidMetH_plain _ _ _ (by kernel_rfl)] at h
  obtain ⟨ps, ⟨g0, t0, cs0, f0, p0, q0, hg0, ht0, hv0, hd0, _, _⟩, _, _⟩ := h
  obtain rfl := Option.some.inj (gTab.symm.trans hg0)
  obtain rfl := Option.some.inj (tTab.symm.trans ht0)
  obtain ⟨xs, m1, rfl, hx1, hlen, hn3, hel⟩ := DataW.trod_array Tryz.underlying257 hd0
  have c1 : Tryz.prog.cellsOf 5 = 1 := by kernel_rfl
  rw [laid_tab] at hx1
  simp only [Prod.mk.injEq, DataW.agg.injEq] at hx1
  have key : ∀ j, j < 64 → W.cell? ⟨0, j, none⟩ = some (.int .u8 (Lib.deBruijn64tab.getD j 0 : Nat)) := fun j hj => by
    have h1 := hel j hj
    rw [c1, Nat.mul_one] at h1
    obtain ⟨x, hx⟩ : ∃ x, xs[j]? = some x := ⟨_, List.getElem?_eq_getElem (by rw [hn3]; exact hj)⟩
    rw [hx] at h1
    obtain ⟨k, e1, e2, _⟩ := DataW.trod_int Tryz.underlying5 h1
    have h2 : (xs.map (·.1))[j]? = some x.1 := by rw [List.getElem?_map, hx]; rfl
    rw [← hx1.1, List.getElem?_map] at h2
    have hl : Lib.deBruijn64tab.length = 64 := by decide
    have h3 : Lib.deBruijn64tab[j]? = some (Lib.deBruijn64tab.getD j 0) := by
      rw [List.getD_eq_getElem?_getD, List.getElem?_eq_getElem (by rw [hl]; exact hj)]
      rfl
    rw [h3, e2] at h2
    have h4 : k = ((Lib.deBruijn64tab.getD j 0 : Nat) : Int) := by
      simp only [Option.map_some, Option.some.injEq] at h2
      simpa using h2.symm
    subst h4
    have := World.var?_cell hg0 hv0 j
    rw [this]
    have h5 : (cs0.toList.drop j).head? = some (.int .u8 (Lib.deBruijn64tab.getD j 0 : Nat)) := by
      cases hd : cs0.toList.drop j with
      | nil => rw [hd] at e1; cases e1
      | cons c r => rw [hd] at e1; simp at e1; simp [e1]
    rw [List.head?_drop] at h5
    simpa using h5
  have hlt := World.block_lt_of_cell? W _ (key 0 (by decide))
  refine ⟨0 + 1, hlt, fun W' hW j hj => ?_⟩
  have hl : Lib.deBruijn64tab.length = 64 := by decide
  exact (World.cell?_of_block (a := ⟨0, j, none⟩) (hW _ (Nat.lt_succ_self _))).trans (key j (by rw [← hl]; exact hj))
end Go.Proofs.YtcdpnfchmpncjaaGreatDoor
namespace Go.Tr
open Go.ChangeShapes Go.WideShapes Go.RowKit Go.Deep
section
variable {H : Type} {enc : TypeId × Value → H} {P : Program} {w : World} {base : Nat} {sp : Nat → Bool} {held : Bool}
theorem spot_none {w : World} {a : Addr} {v : Value} (h : w.cell? (a.add 0) = some v) : a.spot = none := by simpa [Addr.add] using World.cell?_spot h
theorem openI {t e : TypeId} {a : Option Addr} {n c : Nat} {d : DataW H} {ps : List MemPlace} (ht : P.underlying t = some (.slice e)) (he : P.underlying e = some (.int .i64)) (hc : P.cellsOf e = 1)
    (h : DataW.Trod enc P w base sp held t (.slice a n c) d ps) : ∃ zs, SeqAt w a (ints zs) ∧ zs.length = n ∧ n ≤ c ∧ n ≤ maxLen ∧ ∀ z ∈ zs, (Lit.int .i64 z).wf = true := by
  obtain ⟨fuel, hf⟩ := h
  rcases open_ints ht he hc hf with ⟨hcs, hx⟩ | ⟨x, l, c', zs, hcs, _, hl, hm, hz, hx, hcell, hwz⟩
  · simp [Value.cells] at hcs
    obtain ⟨rfl, rfl, rfl⟩ := hcs
    exact ⟨[], fun h0 => by simp [ints] at h0, rfl, Nat.le_refl _, Nat.zero_le _, by simp⟩
  · simp [Value.cells] at hcs
    obtain ⟨rfl, rfl, rfl⟩ := hcs
    have hlz : n ≤ zs.length := by rw [hz]; split <;> omega
    refine ⟨zs.take n, fun h0 => ?_, by simp; omega, hl, Nat.le_trans hl hm, fun z hz => hwz z (List.mem_of_mem_take hz)⟩
    · have h1 : 0 < n := by simp [ints] at h0; omega
      have hs := spot_none (hcell 0 (by omega))
      obtain ⟨b, off, spot⟩ := x
      simp at hs; subst hs
      refine ⟨b, off, rfl, fun j hj => ?_⟩
      simp [ints] at hj
      have := hcell j (by omega)
      rw [add_plain] at this
      rw [this]
      simp [ints, List.getD, show j < n by omega, show j < zs.length by omega, iv]
theorem openE {t e : TypeId} {f0 f1 : Field} {a : Option Addr} {n c : Nat} {d : DataW H} {ps : List MemPlace} (ht : P.underlying t = some (.slice e)) (he : P.underlying e = some (.struct #[f0, f1]))
    (ce : P.cellsOf e = 2) (o0 : f0.offset = 0) (o1 : f1.offset = 1) (c0 : P.cellsOf f0.type = 1) (c1 : P.cellsOf f1.type = 1) (k0 : P.underlying f0.type = some (.int .i64)) (k1 : P.underlying f1.type = some (.int .i64))
    (h : DataW.Trod enc P w base sp held t (.slice a n c) d ps) : ∃ E : Edges, SeqAt w a (ecells E) ∧ E.length = n ∧ n ≤ c ∧ n ≤ maxLen := by
  obtain ⟨fuel, hf⟩ := h
  rcases open_slice_pairs ht he ce o0 o1 c0 c1 hf with ⟨hcs, hx⟩ | ⟨x, l, c', m, q, V0, V1, D0, D1, P0, P1, hcs, _, hl, hm, hmm, hx, hcell⟩
  · simp [Value.cells] at hcs
    obtain ⟨rfl, rfl, rfl⟩ := hcs
    exact ⟨[], fun h0 => by simp [ecells] at h0, rfl, Nat.le_refl _, Nat.zero_le _⟩
  · simp [Value.cells] at hcs
    obtain ⟨rfl, rfl, rfl⟩ := hcs
    have hlm : n ≤ m := by rw [hmm]; split <;> omega
    have each : ∀ i, i < n → ∃ e : Int × Int, w.cell? (x.add (i * 2)) = some (.int .i64 e.1) ∧ w.cell? (x.add (i * 2 + 1)) = some (.int .i64 e.2) := fun i hi => by
      obtain ⟨g0, g1, t0, t1⟩ := hcell i (by omega)
      obtain ⟨u, e0, _, _⟩ := DataW.trod_int k0 t0
      obtain ⟨v, e1, _, _⟩ := DataW.trod_int k1 t1
      simp at e0 e1
      exact ⟨(u, v), by rw [g0, e0], by rw [g1, e1]⟩
    obtain ⟨f, hfE⟩ := choose_lt each
    refine ⟨(List.range n).map f, fun h0 => ?_, by simp, hl, Nat.le_trans hl hm⟩
    have h1 : 0 < n := by rw [ecells_length] at h0; simp at h0; omega
    have hs := spot_none (by simpa using (hfE 0 h1).1)
    obtain ⟨b, off, spot⟩ := x
    simp at hs; subst hs
    refine ⟨b, off, rfl, fun j hj => ?_⟩
    rw [ecells_length] at hj
    simp at hj
    have hE : ((List.range n).map f)[j / 2]? = some (f (j / 2)) := by simp [show j / 2 < n by omega]
    have h2 := ecells_at hE
    have h3 := hfE (j / 2) (by omega)
    rw [add_plain, add_plain] at h3
    rcases Nat.mod_two_eq_zero_or_one j with h4 | h4
    · have : j = 2 * (j / 2) := by omega
      rw [this, h2.1, ← h3.1]; congr 2; omega
    · have : j = 2 * (j / 2) + 1 := by omega
      rw [this, h2.2, ← h3.2]; congr 2; omega
theorem trod_blocks {t : TypeId} {v : Value} {d : DataW H} {ps : List MemPlace} (h : DataW.Trod enc P w base sp held t v d ps) : ∀ x ∈ ps, x.block < w.heap.size := by
  obtain ⟨m, hm⟩ := h; exact DataW.trod_lt m _ _ _ hm
end
end Go.Tr
