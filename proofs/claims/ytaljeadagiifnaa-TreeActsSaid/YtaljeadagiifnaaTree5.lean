/-
  turnrowlaw10.grown, turnrowlaw10.TreeNumbers: the walks.
-/
import Derived.Test.YtaljeadagiifnaaTree4
set_option linter.unusedSimpArgs false
set_option linter.unusedVariables false
namespace Go.Proofs.Ytaljeadagiifnaa
open Go.RowKit Go.Tr

theorem mergeE_cases (S : TS) (id : Int) : S.mergeE id = 0 ∨ S.mergeE id = 6 ∨ S.mergeE id = 16 := by unfold TS.mergeE; split; split; exact Or.inr (Or.inr rfl); exact Or.inl rfl; exact Or.inr (Or.inl rfl)
theorem addS_yes {S : TS} {p : Int} (h : S.addE p = 0) : (S.addS p).last = S.last + 1 := by unfold TS.addS; rw [if_pos h]; rfl
theorem addS_no {S : TS} {p : Int} (h : S.addE p ≠ 0) : S.addS p = S := by unfold TS.addS; rw [if_neg h]
theorem last_free (S : TS) (zs : List Int) : (S.free zs).last = S.last := rfl

set_option maxRecDepth 100000 in
set_option maxHeartbeats 1000000 in
theorem grown_any (aa : Option Addr) (n c : Nat) (L : Edges) (w : World) (ha : SeqAt w aa (ecells L)) (hl : L.length = n) (hn : n ≤ 120) :
    Calls Try.prog 9 #[.slice aa n c] w fun e w' => ∃ g bm S, e = .returned (.tuple #[.pointer (some ⟨g, 0, none⟩), .int .i64 S.last]) ∧ TInv w w' g bm S ∧ S.last ≤ 120 := by
  have HA := Lib.hid ha
  have HL := Lib.hid hl
  clear ha hl
  go_enter Try.func9, Try.ntmps9
  go_wp2_with fail
  refine (newT _).mono ?_
  rintro e w1 ⟨g, bm, rfl, hi⟩
  have HI := Lib.hid hi
  clear hi
  have hn' : ¬ (120 < (n : Int)) := by omega
  go_wp2_with fail
  go_loopw [5, 20] (fun nv i wr => ∃ (k : Nat) (S : TS), k ≤ n ∧ i = .int .i64 k ∧ nv = .int .i64 S.last ∧ S.last ≤ k ∧ Hid (TInv w wr g bm S)) (fun _ i _ => n - (intOf i).toNat)
  case atStart => exact ⟨0, TS.new, Nat.zero_le _, rfl, rfl, by decide, HI⟩
  case round =>
    clear HI
    obtain ⟨k, S, hk, rfl, rfl, hsl, HI⟩ := hrel
    have hs0 := HI.out.wf.last0
    by_cases hlt : k < n
    · obtain ⟨b, off, ak, an, rfl, hc1, hc2, HK⟩ := (HA.out.below HI.out.below (Nat.le_refl _)).edge (k := k) (by rw [HL.out]; exact hlt)
      have HIA := fun o => Lib.hid (HI.out.alloc o)
      have HLL : Hid (S.last ≤ 1000000) := by show _ ≤ _; omega
      clear HK
      by_cases e0 : ak = 0
      · subst e0
        by_cases he : S.addE an = 0
        · have HE := Lib.hid he
          have HLS := Lib.hid (addS_yes he)
          clear he
          go_wp2_with fail
          refine (addT an _ (HIA _).out HLL.out).mono ?_
          rintro e w2 ⟨rfl, hi2, ho2⟩
          rw [HE.out]
          have HI2 := Lib.hid hi2
          clear hi2 ho2 HI HIA
          generalize S.addS an = S2 at *
          go_wp2
          go_roundw
          case rel => exact ⟨k + 1, S2, by omega, by go_num, by rw [HLS.out], by rw [HLS.out]; omega, HI2⟩
          case measure => simp [intOf]; omega
        · have HSS := Lib.hid (addS_no he)
          have hef : (S.addE an == 0) = false := by simpa using he
          have heg : (S.addE an != 0) = true := by simpa using he
          obtain ⟨ev, hev⟩ : ∃ ev, ev = S.addE an := ⟨_, rfl⟩
          rw [← hev] at hef heg
          clear he
          go_wp2_with fail
          refine (addT an _ (HIA _).out HLL.out).mono ?_
          rintro e w2 ⟨rfl, hi2, ho2⟩
          rw [HSS.out] at hi2
          have HI2 := Lib.hid hi2
          rw [← hev]
          clear hi2 ho2 HI HIA hev
          go_wp2
          go_roundw
          case rel => exact ⟨k + 1, S, by omega, by go_num, rfl, by omega, HI2⟩
          case measure => simp [intOf]; omega
      · have d0 : (ak == 0) = false := by simpa using e0
        by_cases e1 : ak = 1
        · subst e1
          go_wp2_with fail
          refine (freeT an _ (HIA _).out).mono ?_
          rintro e w2 ⟨fa, fn, fc, zs, rfl, -, -, -, -, hi2, -⟩
          have HI2 := Lib.hid hi2
          clear hi2 HI HIA
          go_wp2
          go_roundw
          case rel => exact ⟨k + 1, S.free zs, by omega, by go_num, rfl, by show S.last ≤ _; omega, HI2⟩
          case measure => simp [intOf]; omega
        · have d1 : (ak == 1) = false := by simpa using e1
          by_cases e2 : ak = 2
          · subst e2
            have HLM := Lib.hid (last_mergeS S an)
            go_wp2_with fail
            refine (mergeT an _ (HIA _).out HLL.out).mono ?_
            rintro e w2 ⟨rfl, hi2, ho2⟩
            have HI2 := Lib.hid hi2
            clear hi2 ho2 HI HIA
            go_wp2
            go_roundw
            case rel => exact ⟨k + 1, S.mergeS an, by omega, by go_num, by rw [HLM.out], by rw [HLM.out]; omega, HI2⟩
            case measure => simp [intOf]; omega
          · have d2 : (ak == 2) = false := by simpa using e2
            clear e0 e1 e2
            go_wp2
            go_roundw
            case rel => exact ⟨k + 1, S, by omega, by go_num, rfl, by omega, HIA _⟩
            case measure => simp [intOf]; omega
    · have hlast : S.last ≤ 120 := by omega
      go_wp2
      go_ret2
      exact ⟨g, bm, S, rfl, HI.out, hlast⟩

set_option maxRecDepth 100000 in
theorem grown_big (aa : Option Addr) (n c : Nat) (w : World) (hn : 120 < n) (hm : n ≤ 9223372036854775807) :
    Calls Try.prog 9 #[.slice aa n c] w fun e w' => e = .returned (.tuple #[.pointer none, .int .i64 0]) ∧ Below w.heap.size w w' := by
  go_enter Try.func9, Try.ntmps9
  go_wp2_with fail
  refine (newT _).mono ?_
  rintro e w1 ⟨g, bm, rfl, hi⟩
  have HI := Lib.hid hi.below
  clear hi
  have hn' : 120 < (n : Int) := by omega
  go_wp2
  go_ret2
  exact ⟨rfl, HI.out⟩

set_option maxRecDepth 100000 in
set_option maxHeartbeats 1000000 in
theorem numbers_any (aa : Option Addr) (n c : Nat) (L : Edges) (w : World) (ha : SeqAt w aa (ecells L)) (hl : L.length = n) (hn : n ≤ 120) :
    Calls Try.prog 8 #[.slice aa n c] w fun e w' => e = .returned (.bool true) ∧ Below w.heap.size w w' := by
  have HA := Lib.hid ha
  have HL := Lib.hid hl
  clear ha hl
  go_enter Try.func8, Try.ntmps8
  go_wp2_with fail
  refine (newT _).mono ?_
  rintro e w1 ⟨g, bm, rfl, hi⟩
  have HI := Lib.hid hi
  clear hi
  have hn' : ¬ (120 < (n : Int)) := by omega
  go_wp2_with fail
  refine (alive10_any _).mono ?_
  rintro e w2 ⟨rfl, hb⟩
  have HI2 := Lib.hid (HI.out.read hb)
  clear hb HI
  go_wp2_with fail
  go_loopw [4, 28] (fun nv i wr => ∃ (k : Nat) (S : TS), k ≤ n ∧ i = .int .i64 k ∧ nv = .int .i64 S.last ∧ S.last ≤ k ∧ Hid (TInv w wr g bm S)) (fun _ i _ => n - (intOf i).toNat)
  case atStart => exact ⟨0, TS.new, Nat.zero_le _, rfl, rfl, by decide, HI2⟩
  case round =>
    clear HI2
    obtain ⟨k, S, hk, rfl, rfl, hsl, HI⟩ := hrel
    have hs0 := HI.out.wf.last0
    by_cases hlt : k < n
    · obtain ⟨b, off, ak, an, rfl, hc1, hc2, HK⟩ := (HA.out.below HI.out.below (Nat.le_refl _)).edge (k := k) (by rw [HL.out]; exact hlt)
      have HIA := fun o => Lib.hid (HI.out.alloc o)
      have HLL : Hid (S.last ≤ 1000000) := by show _ ≤ _; omega
      clear HK
      by_cases e0 : ak = 0
      · subst e0
        by_cases he : S.addE an = 0
        · have HE := Lib.hid he
          have HLS := Lib.hid (addS_yes he)
          have HX : Hid (S.addX an = S.last + 1) := by show _ = _; unfold TS.addX; rw [if_pos he]
          clear he
          have hmx : max S.last (S.last + 1) = S.last + 1 := by omega
          go_wp2_with fail
          refine (addT an _ (HIA _).out HLL.out).mono ?_
          rintro e w2 ⟨rfl, hi2, ho2⟩
          rw [HE.out, HX.out]
          have HI2 := Lib.hid hi2
          clear hi2 ho2 HI HIA
          generalize S.addS an = S2 at *
          go_wp2
          go_roundw
          case rel => exact ⟨k + 1, S2, by omega, by go_num, by rw [HLS.out], by rw [HLS.out]; omega, HI2⟩
          case measure => simp [intOf]; omega
        · have HSS := Lib.hid (addS_no he)
          have HX : Hid (S.addX an = 0) := by show _ = _; unfold TS.addX; rw [if_neg he]
          have hef : (S.addE an == 0) = false := by simpa using he
          have heg : (S.addE an != 0) = true := by simpa using he
          obtain ⟨ev, hev⟩ : ∃ ev, ev = S.addE an := ⟨_, rfl⟩
          rw [← hev] at hef heg
          clear he
          have hmx : max S.last 0 = S.last := by omega
          go_wp2_with fail
          refine (addT an _ (HIA _).out HLL.out).mono ?_
          rintro e w2 ⟨rfl, hi2, ho2⟩
          rw [HSS.out] at hi2
          have HI2 := Lib.hid hi2
          rw [← hev, HX.out]
          clear hi2 ho2 HI HIA hev
          go_wp2
          go_roundw
          case rel => exact ⟨k + 1, S, by omega, by go_num, rfl, by omega, HI2⟩
          case measure => simp [intOf]; omega
      · have d0 : (ak == 0) = false := by simpa using e0
        by_cases e1 : ak = 1
        · subst e1
          go_wp2_with fail
          refine (freeT an _ (HIA _).out).mono ?_
          rintro e w2 ⟨fa, fn, fc, zs, rfl, -, -, -, -, hi2, -⟩
          have HI2 := Lib.hid hi2
          clear hi2 HI HIA
          go_wp2
          go_roundw
          case rel => exact ⟨k + 1, S.free zs, by omega, by go_num, rfl, by show S.last ≤ _; omega, HI2⟩
          case measure => simp [intOf]; omega
        · have d1 : (ak == 1) = false := by simpa using e1
          by_cases e2 : ak = 2
          · subst e2
            have HLM := Lib.hid (last_mergeS S an)
            go_wp2_with fail
            refine (mergeT an _ (HIA _).out HLL.out).mono ?_
            rintro e w2 ⟨rfl, hi2, ho2⟩
            have HI2 := Lib.hid hi2
            clear hi2 ho2 HI HIA
            go_wp2
            go_roundw
            case rel => exact ⟨k + 1, S.mergeS an, by omega, by go_num, by rw [HLM.out], by rw [HLM.out]; omega, HI2⟩
            case measure => simp [intOf]; omega
          · have d2 : (ak == 2) = false := by simpa using e2
            clear e0 e1 e2
            go_wp2
            go_roundw
            case rel => exact ⟨k + 1, S, by omega, by go_num, rfl, by omega, HIA _⟩
            case measure => simp [intOf]; omega
    · have hlast : S.last ≤ 120 := by omega
      have hsz := HI.out.wf.size
      have HF1 : Hid (S.has (S.last + 1) = false) := HI.out.wf.fresh
      have HF0 : Hid (S.has 0 = false) := by
        show _ = _
        cases hh : S.has 0
        · rfl
        · have := HI.out.wf.pos hh; omega
      have hlen : (S.tab.length : Int) ≤ S.last := by
        have hnd : (S.tab.map fun p => p.1.toNat).Nodup := by
          have h1 := HI.out.wf.nodup
          unfold keysA at h1
          rw [List.nodup_iff_pairwise_ne, List.pairwise_map] at h1 ⊢
          refine h1.imp_of_mem (fun {p q} hp hq hne e => hne ?_)
          have a := HI.out.wf.pos (S := S) (x := p.1) (hasA_iff.2 (List.mem_map.2 ⟨p, hp, rfl⟩))
          have b := HI.out.wf.pos (S := S) (x := q.1) (hasA_iff.2 (List.mem_map.2 ⟨q, hq, rfl⟩))
          omega
        have h2 := length_of_sub hnd (m := (List.range S.last.toNat).map (· + 1)) (fun y hy => by
          obtain ⟨p, hp, rfl⟩ := List.mem_map.1 hy
          have a := HI.out.wf.pos (S := S) (x := p.1) (hasA_iff.2 (List.mem_map.2 ⟨p, hp, rfl⟩))
          exact List.mem_map.2 ⟨p.1.toNat - 1, by simp; omega, by omega⟩)
        simp at h2
        omega
      obtain ⟨sn, hsn⟩ : ∃ sn, sn = S.tab.length := ⟨_, rfl⟩
      have hmin : decide ((sn : Int) ≤ min S.last 64) = true := by simp; omega
      go_wp2_with fail
      refine (lenT _ HI.out).mono ?_
      rintro e w2 ⟨rfl, rfl⟩
      rw [← hsn]
      clear hsn hlen hsz
      go_wp2_with fail
      refine (liveT _ _ HI.out).mono ?_
      rintro e w2 ⟨rfl, rfl⟩
      rw [HF1.out]
      go_wp2_with fail
      refine (liveT _ _ HI.out).mono ?_
      rintro e w2 ⟨rfl, rfl⟩
      rw [HF0.out]
      go_wp2
      go_ret
      exact ⟨rfl, HI.out.below⟩

set_option maxRecDepth 100000 in
theorem numbers_big (aa : Option Addr) (n c : Nat) (w : World) (hn : 120 < n) (hm : n ≤ 9223372036854775807) :
    Calls Try.prog 8 #[.slice aa n c] w fun e w' => e = .returned (.bool true) ∧ Below w.heap.size w w' := by
  have hn' : 120 < (n : Int) := by omega
  go_enter Try.func8, Try.ntmps8
  go_wp2_with fail
  refine (newT _).mono ?_
  rintro e w1 ⟨g, bm, rfl, hi⟩
  have HI := Lib.hid hi
  clear hi
  go_wp2_with fail
  refine (alive10_any _).mono ?_
  rintro e w2 ⟨rfl, hb⟩
  have HI2 := Lib.hid (HI.out.read hb)
  clear hb HI
  go_wp2_with fail
  refine (alive10_any _).mono ?_
  rintro e w3 ⟨rfl, hb⟩
  have HI3 := Lib.hid (HI2.out.read hb)
  clear hb HI2
  go_wp2
  go_ret
  exact ⟨rfl, HI3.out.below⟩
theorem numbers_row (a0 : Option Addr) (n0 c0 : Nat) (z0 : Edges) (w : World) (hz0 : SeqAt w a0 (ecells z0)) (hl0 : z0.length = n0) (hc0 : n0 ≤ c0) (hm0 : n0 ≤ maxLen) :
    Calls Try.prog 8 #[.slice a0 n0 c0] w fun e w' => e = .returned (.bool true) ∧ Below w.heap.size w w' := by
  unfold maxLen at hm0
  by_cases h : 120 < n0
  · exact numbers_big a0 n0 c0 w h (by omega)
  · exact numbers_any a0 n0 c0 z0 w hz0 hl0 (by omega)
end Go.Proofs.Ytaljeadagiifnaa
