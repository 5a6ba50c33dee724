/-
  turnrowlaw10.TreeWays: the walk.
-/
import Derived.Test.YtaljeadagiifnaaTree5
set_option linter.unusedSimpArgs false
set_option linter.unusedVariables false
namespace Go.Proofs.Ytaljeadagiifnaa
open Go.RowKit Go.Tr

/-- Where one is, having gone up s times from i. -/
def Climb (S : TS) (id i a : Int) (s : Nat) : Prop := 0 ≤ a ∧ (s : Int) + a ≤ i ∧ (a = 0 ∨ S.has a = true) ∧ (Desc S.tab id i ↔ Desc S.tab id a)
theorem Climb.start {S : TS} (h : S.WF) {id i : Int} (hi : S.has i = true) : Climb S id i i 0 := ⟨by have := h.pos hi; omega, by simp, Or.inr hi, Iff.rfl⟩
theorem Climb.step {S : TS} (h : S.WF) {id i a : Int} {s : Nat} (hc : Climb S id i a s) (h1 : a ≠ id) (h0 : a ≠ 0) : Climb S id i (S.par a) (s + 1) := by
  obtain ⟨c1, c2, c3, c4⟩ := hc
  have hh : S.has a = true := c3.resolve_left h0
  obtain ⟨p, hp⟩ := hasA_some.1 hh
  have hpp : S.par a = p := by unfold TS.par; rw [hp]; rfl
  have hl := h.low a p hp
  rw [hpp]
  refine ⟨hl.1, by omega, hl.2.2.2, c4.trans ⟨fun hd => ?_, fun hd => .kid hp hd⟩⟩
  cases hd with
  | self => exact absurd rfl h1
  | kid hx hq => rw [hp] at hx; cases hx; exact hq
theorem Climb.zero {S : TS} (h : S.WF) {id i : Int} {s : Nat} (hi : S.has id = true) (hc : Climb S id i 0 s) : ¬ Desc S.tab id i := fun hd => by
  have h1 := (hc.2.2.2.1 hd).ge h
  have h2 := h.pos hi
  omega
theorem hasL_take {zs : List Int} {k : Nat} {z x : Int} (h : zs[k]? = some z) : hasL (zs.take (k + 1)) x = (hasL (zs.take k) x || z == x) := by
  rw [take_snoc h, Bool.eq_iff_iff]
  simp [hasL]
  exact or_congr Iff.rfl ⟨fun e => e.symm, fun e => e.symm⟩

set_option maxRecDepth 100000 in
set_option maxHeartbeats 1000000 in
theorem ways_any (aa : Option Addr) (n c : Nat) (L : Edges) (x : Int) (w : World) (ha : SeqAt w aa (ecells L)) (hl : L.length = n) (hn : n ≤ 120) (hx : (Lit.int .i64 x).wf = true) :
    Calls Try.prog 4 #[.slice aa n c, .int .i64 x] w fun e w' => e = .returned (.bool true) ∧ Below w.heap.size w w' := by
  have HG := Lib.hid (grown_any aa n c L w ha hl hn)
  clear ha hl
  go_enter Try.func4, Try.ntmps4
  go_wp2_with fail
  refine HG.out.mono ?_
  rintro e w1 ⟨g, bm, S, rfl, hi, hlast⟩
  have HI := Lib.hid hi
  have hl0 := hi.wf.last0
  obtain ⟨ln, hln⟩ : ∃ ln : Nat, S.last = ln := ⟨S.last.toNat, by omega⟩
  rw [hln] at hlast
  have HLN := Lib.hid hln
  simp only [hln]
  clear hi HG hl0 hln
  have hl120 : ln ≤ 120 := by omega
  clear hlast
  go_wp2_with fail
  refine (alive10_any _).mono ?_
  rintro e w2 ⟨rfl, hb⟩
  have HI2 := Lib.hid (HI.out.read hb)
  clear hb HI
  go_wp2_with fail
  obtain ⟨id, hid⟩ : ∃ id, id = wrap64 (1 + wrap64 ((IntKind.u64.wrap x).tmod (max (ln : Int) 1))) := ⟨_, rfl⟩
  rw [← hid]
  clear hid
  refine (underT id _ HI2.out).mono ?_
  rintro e w3 ⟨ua, un, uc, us, rfl, hs, hl, hn64, hu, hi, hb⟩
  have HU := Lib.hid hs
  have HUN := Lib.hid hl
  have HUO := Lib.hid hu
  have HI3 := Lib.hid hi
  clear hs hl hu hi hb HI2
  by_cases hd : S.has id = true
  · have HE : Hid (TS.needE S id = 0) := by show _ = _; unfold TS.needE; rw [if_pos hd]
    have HD := Lib.hid hd
    have HPOS := Lib.hid (HI3.out.wf.pos hd)
    rw [HE.out]
    clear hd HE
    go_wp2_with fail
    go_loop [9] (fun i => ∃ k : Nat, k ≤ ln ∧ i = .int .i64 ((k : Int) + 1)) (fun i => ln + 1 - (intOf i).toNat)
    case atStart => exact ⟨0, Nat.zero_le _, rfl⟩
    case round =>
      obtain ⟨k, hk, rfl⟩ := hrel
      by_cases hlt : k < ln
      · have hle : (k : Int) + 1 ≤ (ln : Int) := by omega
        by_cases hv : S.has ((k : Int) + 1) = true
        · have HV := Lib.hid hv
          have HC0 := Lib.hid (Climb.start (id := id) HI3.out.wf hv)
          clear hv
          go_wp2_with fail
          refine (liveT _ _ HI3.out).mono ?_
          rintro e w4 ⟨rfl, rfl⟩
          rw [HV.out]
          go_wp2_with fail
          go_loop [10, 11] (fun av sv => ∃ (a : Int) (s : Nat), av = .int .i64 a ∧ sv = .int .i64 s ∧ (s : Int) ≤ ln ∧ 0 ≤ a ∧ a ≤ ln ∧ Hid (Climb S id ((k : Int) + 1) a s)) (fun _ sv => ln + 1 - (intOf sv).toNat)
          case atStart => exact ⟨(k : Int) + 1, 0, rfl, rfl, by omega, by omega, by omega, HC0⟩
          case round =>
            clear HC0
            obtain ⟨a, s, rfl, rfl, hsl, ha0, hal, HC⟩ := hrel
            by_cases h1 : a = id
            · subst h1
              have HIN : Hid (hasL us ((k : Int) + 1) = true) := by
                show _ = _
                rw [hasL_iff, HUO.out.2]
                exact ⟨HD.out, HC.out.2.2.2.2 .self⟩
              clear HC
              go_wp2_with fail
              go_loop [12, 89] (fun bv i => ∃ j : Nat, j ≤ un ∧ i = .int .i64 j ∧ bv = .bool (hasL (us.take j) ((k : Int) + 1))) (fun _ i => un - (intOf i).toNat)
              case atStart => exact ⟨0, Nat.zero_le _, rfl, rfl⟩
              case round =>
                obtain ⟨j, hj, rfl, rfl⟩ := hrel
                by_cases hjl : j < un
                · obtain ⟨b, off, y, rfl, hc, HX⟩ := HU.out.ints (k := j) (by rw [HUN.out]; exact hjl)
                  have HT := Lib.hid (hasL_take (x := (k : Int) + 1) HX.out)
                  generalize hasL (us.take j) ((k : Int) + 1) = bb at *
                  clear HX
                  by_cases hyx : y = (k : Int) + 1
                  · have hyx1 : (y == (k : Int) + 1) = true := by simpa using hyx
                    have HT2 : Hid (hasL (us.take (j + 1)) ((k : Int) + 1) = true) := by show _ = _; rw [HT.out, hyx1]; simp
                    clear hyx HT
                    cases bb
                    all_goals
                      go_wp2
                      go_round
                      case rel => exact ⟨j + 1, by omega, by go_num, by rw [HT2.out]⟩
                      case measure => simp [intOf]; omega
                  · have hyx1 : (y == (k : Int) + 1) = false := by simpa using hyx
                    have HT2 : Hid (hasL (us.take (j + 1)) ((k : Int) + 1) = bb) := by show _ = _; rw [HT.out, hyx1]; simp
                    clear hyx HT
                    cases bb
                    all_goals
                      go_wp2
                      go_round
                      case rel => exact ⟨j + 1, by omega, by go_num, by rw [HT2.out]⟩
                      case measure => simp [intOf]; omega
                · have HT : Hid (us.take j = us) := List.take_of_length_le (by rw [HUN.out]; omega)
                  rw [HT.out, HIN.out]
                  go_wp2
                  go_round
                  case rel => exact ⟨k + 1, by omega, by go_num⟩
                  case measure => simp [intOf]; omega
            · have h1f : (a == id) = false := by simpa using h1
              have h1g : (a != id) = true := by simpa using h1
              by_cases h0 : a = 0
              · subst h0
                have HIN : Hid (hasL us ((k : Int) + 1) = false) := by
                  show _ = _
                  rw [hasL_iff', HUO.out.2]
                  exact fun h => HC.out.zero HI3.out.wf HD.out h.2
                clear HC h1
                go_wp2_with fail
                go_loop [12, 89] (fun bv i => ∃ j : Nat, j ≤ un ∧ i = .int .i64 j ∧ bv = .bool (hasL (us.take j) ((k : Int) + 1))) (fun _ i => un - (intOf i).toNat)
                case atStart => exact ⟨0, Nat.zero_le _, rfl, rfl⟩
                case round =>
                  obtain ⟨j, hj, rfl, rfl⟩ := hrel
                  by_cases hjl : j < un
                  · obtain ⟨b, off, y, rfl, hc, HX⟩ := HU.out.ints (k := j) (by rw [HUN.out]; exact hjl)
                    have HT := Lib.hid (hasL_take (x := (k : Int) + 1) HX.out)
                    generalize hasL (us.take j) ((k : Int) + 1) = bb at *
                    clear HX
                    by_cases hyx : y = (k : Int) + 1
                    · have hyx1 : (y == (k : Int) + 1) = true := by simpa using hyx
                      have HT2 : Hid (hasL (us.take (j + 1)) ((k : Int) + 1) = true) := by show _ = _; rw [HT.out, hyx1]; simp
                      clear hyx HT
                      cases bb
                      all_goals
                        go_wp2
                        go_round
                        case rel => exact ⟨j + 1, by omega, by go_num, by rw [HT2.out]⟩
                        case measure => simp [intOf]; omega
                    · have hyx1 : (y == (k : Int) + 1) = false := by simpa using hyx
                      have HT2 : Hid (hasL (us.take (j + 1)) ((k : Int) + 1) = bb) := by show _ = _; rw [HT.out, hyx1]; simp
                      clear hyx HT
                      cases bb
                      all_goals
                        go_wp2
                        go_round
                        case rel => exact ⟨j + 1, by omega, by go_num, by rw [HT2.out]⟩
                        case measure => simp [intOf]; omega
                  · have HT : Hid (us.take j = us) := List.take_of_length_le (by rw [HUN.out]; omega)
                    rw [HT.out, HIN.out]
                    go_wp2
                    go_round
                    case rel => exact ⟨k + 1, by omega, by go_num⟩
                    case measure => simp [intOf]; omega
              · have h0g : (a != 0) = true := by simpa using h0
                have h0f : (a == 0) = false := by simpa using h0
                have HC2 := Lib.hid (HC.out.step HI3.out.wf h1 h0)
                have hb1 := HC.out.2.1
                have hb2 := HC2.out.1
                have hb3 := HC2.out.2.1
                clear h1 h0 HC
                go_wp2_with fail
                refine (parentT a _ HI3.out).mono ?_
                rintro e w5 ⟨rfl, rfl⟩
                go_wp2
                go_round
                case rel => exact ⟨S.par a, s + 1, rfl, by go_num, by omega, by omega, by omega, HC2⟩
                case measure => simp [intOf]; omega
        · have HV : Hid (S.has ((k : Int) + 1) = false) := by simpa [Hid] using hv
          clear hv
          go_wp2_with fail
          refine (liveT _ _ HI3.out).mono ?_
          rintro e w4 ⟨rfl, rfl⟩
          rw [HV.out]
          go_wp2
          go_round
          case rel => exact ⟨k + 1, by omega, by go_num⟩
          case measure => simp [intOf]; omega
      · have hle : ¬ ((k : Int) + 1 ≤ (ln : Int)) := by omega
        go_wp2
        go_ret
        exact ⟨rfl, HI3.out.below⟩
  · have HE : Hid (TS.needE S id = 6) := by show _ = _; unfold TS.needE; rw [if_neg hd]
    have HD : Hid (S.has id = false) := by simpa [Hid] using hd
    have hz : us = [] := by
      cases us with
      | nil => rfl
      | cons y t => exact absurd ((HUO.out.2 y).1 (by simp)).1 hd
    subst hz
    obtain rfl : un = 0 := HUN.out.symm
    rw [HE.out]
    clear hd HE
    go_wp2_with fail
    refine (liveT _ _ HI3.out).mono ?_
    rintro e w4 ⟨rfl, rfl⟩
    rw [HD.out]
    go_wp2
    go_ret
    exact ⟨rfl, HI3.out.below⟩

set_option maxRecDepth 100000 in
theorem ways_big (aa : Option Addr) (n c : Nat) (x : Int) (w : World) (hn : 120 < n) (hm : n ≤ 9223372036854775807) :
    Calls Try.prog 4 #[.slice aa n c, .int .i64 x] w fun e w' => e = .returned (.bool true) ∧ Below w.heap.size w w' := by
  have hn' : 120 < (n : Int) := by omega
  go_enter Try.func4, Try.ntmps4
  go_wp2_with fail
  refine (grown_big aa n c _ hn hm).mono ?_
  rintro e w1 ⟨rfl, hb1⟩
  have HB1 := Lib.hid hb1
  clear hb1
  go_wp2_with fail
  refine (alive10_any _).mono ?_
  rintro e w2 ⟨rfl, hb⟩
  have HB2 : Hid (Below w.heap.size w w2) := HB1.out.trans (hb.mono HB1.out.size)
  clear hb HB1
  go_wp2_with fail
  refine (alive10_any _).mono ?_
  rintro e w3 ⟨rfl, hb⟩
  have HB3 : Hid (Below w.heap.size w w3) := HB2.out.trans (hb.mono HB2.out.size)
  clear hb HB2
  go_wp2
  go_ret
  exact ⟨rfl, HB3.out⟩
theorem ways_row (a0 : Option Addr) (n0 c0 : Nat) (z0 : Edges) (x : Int) (w : World) (hz0 : SeqAt w a0 (ecells z0)) (hl0 : z0.length = n0) (hc0 : n0 ≤ c0) (hm0 : n0 ≤ maxLen) (hx : (Lit.int .i64 x).wf = true) :
    Calls Try.prog 4 #[.slice a0 n0 c0, .int .i64 x] w fun e w' => e = .returned (.bool true) ∧ Below w.heap.size w w' := by
  unfold maxLen at hm0
  by_cases h : 120 < n0
  · exact ways_big a0 n0 c0 x w h (by omega)
  · exact ways_any a0 n0 c0 z0 x w hz0 hl0 (by omega) hx
end Go.Proofs.Ytaljeadagiifnaa
