/-
  turnrowlaw10.tells, turnrowlaw10.TreeActs: the walks.
-/
import Derived.Test.YtaljeadagiifnaaTBoth
import Derived.Test.YtaljeadagiifnaaNil10
set_option linter.unusedSimpArgs false
set_option linter.unusedVariables false
namespace Go.Proofs.Ytaljeadagiifnaa
open Go.RowKit Go.Tr
variable {w0 w w' : World} {g bm m : Nat} {S : TS}

theorem KidsOf.dead {S : TS} (hS : S.WF) {id : Int} {zs : List Int} (h : KidsOf S id zs) (hd : S.has id = false) (h0 : id ≠ 0) : zs = [] := by
  cases zs with
  | nil => rfl
  | cons y t =>
    have h1 := (h.2 y).1 (by simp)
    have h2 := (hS.low _ _ h1).2.2.2
    rcases h2 with h2 | h2
    · exact absurd h2 h0
    · rw [hd] at h2; cases h2

set_option maxRecDepth 100000 in
set_option maxHeartbeats 2000000 in
theorem tells_any (x : Int) (w : World) (h : Both w0 g bm m w S S) (hl : S.last ≤ 800000) :
    Calls Try.prog 22 #[.pointer (some ⟨g, 0, none⟩), .pointer (some ⟨m, 0, none⟩), .int .i64 x] w fun e w' => e = .returned (.bool true) ∧ Both w0 g bm m w' S S := by
  have HB := Lib.hid h
  have HL : Hid (S.last ≤ 900000) := by show _ ≤ _; omega
  have HWF := Lib.hid h.wf
  clear h hl
  obtain ⟨p, hp⟩ : ∃ p, p = S.par x := ⟨_, rfl⟩
  have HP := Lib.hid hp.symm
  clear hp
  cases hlv : S.has x
  · have HLV := Lib.hid hlv
    have HNE : Hid (TS.needE S x = 6) := by show _ = _; unfold TS.needE; rw [if_neg (by rw [hlv]; decide)]
    have HP0 : Hid (S.par x = 0) := par_dead hlv
    by_cases hx : x = 0
    · have HKE : Hid (TS.kidsE S x = 0) := by show _ = _; unfold TS.kidsE; rw [if_pos (Or.inr hx)]
      subst hx
      clear hlv
      go_enter Try.func22, Try.ntmps22
      go_wp2_with fail
      refine (parentB 0 _ HB.out).mono ?_
      rintro e w1 ⟨rfl, rfl⟩
      rw [HP0.out, HNE.out]
      go_wp2_with fail
      refine (kidsB 0 _ HB.out).mono ?_
      rintro e w2 ⟨ka, kn, kc, ks, rfl, hko, hkn, hkn64, hk, hb⟩
      rw [HKE.out]
      have HKO := Lib.hid hko
      have HKN := Lib.hid hkn
      have HK := Lib.hid hk
      have HB2 := Lib.hid hb
      clear hko hkn hk hb HB
      go_wp2_with fail
      refine (underB 0 _ HB2.out).mono ?_
      rintro e w3 ⟨ua, un, uc, us, rfl, huo, hun, hun64, hu, hb, hbl⟩
      rw [HNE.out]
      have hz := hu.dead HLV.out
      subst hz
      obtain rfl : un = 0 := hun.symm
      have HKO3 := Lib.hid (ownsRow_below HKO.out hbl)
      have HB3 := Lib.hid hb
      clear huo hun hu hb hbl HB2 HKO
      go_wp2_with fail
      refine (live10B 0 _ HB3.out HL.out).mono ?_
      rintro e w4 ⟨rfl, rfl⟩
      rw [HLV.out]
      go_wp2_with fail
      refine (liveB 0 _ HB3.out).mono ?_
      rintro e w4 ⟨rfl, rfl⟩
      rw [HLV.out]
      go_wp2_with fail
      refine (kids10B 0 _ HB3.out HL.out (Int.le_refl _)).mono ?_
      rintro e w4 ⟨ra, rc, rs, rfl, hrs, hr, hb, hbl⟩
      have hzz := hr.same HK.out
      subst hzz
      rw [HKN.out]
      have HS1 := Lib.hid (ownsRow_seq' (ownsRow_below HKO3.out hbl))
      have HS2 := Lib.hid hrs
      have HB4 := Lib.hid hb
      have hm : kn ≤ 9223372036854775807 := by omega
      clear hrs hr hb hbl HB3 HKO3
      go_wp2_with fail
      refine (same_self _ _ _ _ _ _ _ HS1.out HS2.out HKN.out hm).mono ?_
      rintro e w5 ⟨rfl, hd⟩
      have HB5 := Lib.hid (HB4.out.drawn hd)
      clear hd
      go_wp2_with fail
      go_ret
      exact ⟨rfl, HB5.out⟩
    · have HKE : Hid (TS.kidsE S x = 6) := by show _ = _; unfold TS.kidsE; rw [if_neg (by rw [hlv]; simp [hx])]
      have HX0 := Lib.hid hx
      have hx1 : (x == 0) = false := by simpa using hx
      have hx2 : (x != 0) = true := by simpa using hx
      clear hlv hx
      go_enter Try.func22, Try.ntmps22
      go_wp2_with fail
      refine (parentB x _ HB.out).mono ?_
      rintro e w1 ⟨rfl, rfl⟩
      rw [HP0.out, HNE.out]
      go_wp2_with fail
      refine (kidsB x _ HB.out).mono ?_
      rintro e w2 ⟨ka, kn, kc, ks, rfl, hko, hkn, hkn64, hk, hb⟩
      rw [HKE.out]
      have hz := hk.dead HWF.out HLV.out HX0.out
      subst hz
      obtain rfl : kn = 0 := hkn.symm
      have HB2 := Lib.hid hb
      clear hko hkn hk hb HB
      go_wp2_with fail
      refine (underB x _ HB2.out).mono ?_
      rintro e w3 ⟨ua, un, uc, us, rfl, huo, hun, hun64, hu, hb, hbl⟩
      rw [HNE.out]
      have hz := hu.dead HLV.out
      subst hz
      obtain rfl : un = 0 := hun.symm
      have HB3 := Lib.hid hb
      clear huo hun hu hb hbl HB2
      go_wp2_with fail
      refine (live10B x _ HB3.out HL.out).mono ?_
      rintro e w4 ⟨rfl, rfl⟩
      rw [HLV.out]
      go_wp2_with fail
      refine (liveB x _ HB3.out).mono ?_
      rintro e w4 ⟨rfl, rfl⟩
      rw [HLV.out]
      go_wp2_with fail
      go_ret
      exact ⟨rfl, HB3.out⟩
  · have HLV := Lib.hid hlv
    have HNE : Hid (TS.needE S x = 0) := by show _ = _; unfold TS.needE; rw [if_pos hlv]
    have HKE : Hid (TS.kidsE S x = 0) := by show _ = _; unfold TS.kidsE; rw [if_pos (Or.inl hlv)]
    have hpos := HWF.out.pos hlv
    obtain ⟨xn, rfl⟩ : ∃ xn : Nat, x = xn := ⟨x.toNat, by omega⟩
    have HUP : Hid (S.up xn = p) := by show _ = _; rw [up_live hlv]; exact HP.out
    have h0 := HWF.out.last0
    obtain ⟨pl, hpl⟩ : ∃ pl : Nat, pl = S.last.toNat + 1 := ⟨_, rfl⟩
    have hxn : xn < pl := by omega
    have hxn' : (xn : Int) < (pl : Int) := by omega
    have HXL : Hid (xn ≤ S.last.toNat) := by show _ ≤ _; omega
    have HPL : Hid ((refP S).length = pl) := by show _ = _; rw [refP_length, hpl]
    clear hlv hpos h0 hpl
    go_enter Try.func22, Try.ntmps22
    go_wp2_with fail
    refine (parentB xn _ HB.out).mono ?_
    rintro e w1 ⟨rfl, rfl⟩
    rw [HP.out, HNE.out]
    go_wp2_with fail
    refine (kidsB xn _ HB.out).mono ?_
    rintro e w2 ⟨ka, kn, kc, ks, rfl, hko, hkn, hkn64, hk, hb⟩
    rw [HKE.out]
    have HKO := Lib.hid hko
    have HKN := Lib.hid hkn
    have HK := Lib.hid hk
    have HB2 := Lib.hid hb
    clear hko hkn hk hb HB
    go_wp2_with fail
    refine (underB xn _ HB2.out).mono ?_
    rintro e w3 ⟨ua, un, uc, us, rfl, huo, hun, hun64, hu, hb, hbl⟩
    rw [HNE.out]
    have HKO3 := Lib.hid (ownsRow_below HKO.out hbl)
    have HUO := Lib.hid huo
    have HUN := Lib.hid hun
    have HU := Lib.hid hu
    have HB3 := Lib.hid hb
    clear huo hun hu hb hbl HB2 HKO
    go_wp2_with fail
    refine (live10B xn _ HB3.out HL.out).mono ?_
    rintro e w4 ⟨rfl, rfl⟩
    rw [HLV.out]
    go_wp2_with fail
    refine (liveB xn _ HB3.out).mono ?_
    rintro e w4 ⟨rfl, rfl⟩
    rw [HLV.out]
    obtain ⟨F, -, ⟨b, off, cap, hr⟩, -, -⟩ := HB3.out
    obtain ⟨c0, f0⟩ := hr.head
    rw [HPL.out] at c0
    obtain ⟨hc, hf⟩ := hr.at (refP_at S (k := xn) HXL.out)
    rw [HUP.out] at hc
    clear hr
    go_wp2_with fail
    refine (kids10B xn _ HB3.out HL.out (by omega)).mono ?_
    rintro e w5 ⟨ra, rc, rs, rfl, hrs, hr, hb, hbl⟩
    have hzz := hr.same HK.out
    subst hzz
    rw [HKN.out]
    have HS1 := Lib.hid (ownsRow_seq' (ownsRow_below HKO3.out hbl))
    have HS2 := Lib.hid hrs
    have HB4 := Lib.hid hb
    have HUO4 := Lib.hid (ownsRow_below HUO.out hbl)
    have hm : kn ≤ 9223372036854775807 := by omega
    clear hrs hr hb hbl HB3 HKO3 HUO c0 f0 hc hf
    go_wp2_with fail
    refine (same_self _ _ _ _ _ _ _ HS1.out HS2.out HKN.out hm).mono ?_
    rintro e w6 ⟨rfl, hd⟩
    have HB5 := Lib.hid (HB4.out.drawn hd)
    have HUO5 := Lib.hid (ownsRow_below HUO4.out (hd.below _))
    clear hd HS1 HS2 HB4 HUO4
    go_wp2_with fail
    refine (under10B xn _ HB5.out HL.out HLV.out).mono ?_
    rintro e w7 ⟨ra2, rc2, rs2, rfl, hrs, hr, hb, hbl⟩
    have hzz := hr.same HU.out
    subst hzz
    rw [HUN.out]
    have HS1 := Lib.hid (ownsRow_seq' (ownsRow_below HUO5.out hbl))
    have HS2 := Lib.hid hrs
    have HB6 := Lib.hid hb
    have hm2 : un ≤ 9223372036854775807 := by omega
    clear hrs hr hb hbl HB5 HUO5
    go_wp2_with fail
    refine (same_self _ _ _ _ _ _ _ HS1.out HS2.out HUN.out hm2).mono ?_
    rintro e w8 ⟨rfl, hd⟩
    have HB7 := Lib.hid (HB6.out.drawn hd)
    clear hd HS1 HS2 HB6
    go_wp2_with fail
    go_ret
    exact ⟨rfl, HB7.out⟩

set_option maxRecDepth 100000 in
set_option maxHeartbeats 2000000 in
theorem tacts_any (aa : Option Addr) (n c : Nat) (L : Edges) (x : Int) (w : World) (ha : SeqAt w aa (ecells L)) (hl : L.length = n) :
    Calls Try.prog 5 #[.slice aa n c, .int .i64 x] w fun e w' => e = .returned (.bool true) ∧ Below w.heap.size w w' := by
  have HA := Lib.hid ha
  have HL := Lib.hid hl
  clear ha hl
  go_enter Try.func5, Try.ntmps5
  go_wp2_with fail
  refine (tnil_add 0 _).mono ?_
  rintro e w' ⟨rfl, rfl⟩
  go_wp2_with fail
  refine (tnil_parent 1 _).mono ?_
  rintro e w' ⟨rfl, rfl⟩
  go_wp2_with fail
  refine (tnil_kids 0 _).mono ?_
  rintro e w' ⟨rfl, rfl⟩
  go_wp2_with fail
  refine (tnil_under 1 _).mono ?_
  rintro e w' ⟨rfl, rfl⟩
  go_wp2_with fail
  refine (tnil_free 1 _).mono ?_
  rintro e w' ⟨rfl, rfl⟩
  go_wp2_with fail
  refine (tnil_merge 1 _).mono ?_
  rintro e w' ⟨rfl, rfl⟩
  go_wp2_with fail
  refine (newT _).mono ?_
  rintro e w1 ⟨g, bm, rfl, hi⟩
  have HI := Lib.hid hi
  clear hi
  go_wp2_with fail
  refine (alive10_any _).mono ?_
  rintro e w2 ⟨rfl, hb⟩
  have HI2 := Lib.hid (HI.out.read hb)
  clear hb HI
  go_wp2_with fail
  refine (tnil_live 1 _).mono ?_
  rintro e w' ⟨rfl, rfl⟩
  go_wp2_with fail
  refine (tnil_len _).mono ?_
  rintro e w' ⟨rfl, rfl⟩
  by_cases hn : 120 < n
  · have hn' : (120 : Int) < (n : Int) := by omega
    go_wp2_with fail
    go_ret
    exact ⟨rfl, HI2.out.below⟩
  · have hn' : ¬ ((120 : Int) < (n : Int)) := by omega
    go_wp2_with fail
    refine (rnew_any _).mono ?_
    rintro e w3 ⟨m, rfl, hr, hb⟩
    have hlt := HI2.out.tree.lt
    have HB0 : Hid (Both w g bm m w3 TS.new TS.new) := ⟨_, HI2.out.read hb, hr, TS.WF.new, fun k hk => ⟨Nat.le_trans HI2.out.below.size hk.1, hk.2, by omega, by omega⟩⟩
    clear hr hb hlt HI2
    go_wp2_with fail
    go_loopw [104] (fun i wr => ∃ (k : Nat) (S : TS), k ≤ n ∧ i = .int .i64 k ∧ S.last ≤ k ∧ Hid (Both w g bm m wr S S)) (fun i _ => n - (intOf i).toNat)
    case atStart => exact ⟨0, TS.new, Nat.zero_le _, rfl, by decide, HB0⟩
    case round =>
      clear HB0
      obtain ⟨k, S, hk, rfl, hsl, HB⟩ := hrel
      by_cases hlt : k < n
      · obtain ⟨b, off, ak, an, rfl, hc1, hc2, HK⟩ := (HA.out.below HB.out.below (Nat.le_refl _)).edge (k := k) (by rw [HL.out]; exact hlt)
        have HBA := fun o => Lib.hid (HB.out.alloc o)
        clear HK
        go_wp2_with fail
        refine (tdo_any ak an _ (HBA _).out (by omega)).mono ?_
        rintro e w4 ⟨rfl, S', hb, hl2⟩
        have HB4 := Lib.hid hb
        clear hb HBA
        go_wp2
        go_roundw
        case rel => exact ⟨k + 1, S', by omega, by go_num, by omega, HB4⟩
        case measure => simp [intOf]; omega
      · have hs0 := HB.out.wf.last0
        have hs1 : S.last ≤ 120 := by omega
        obtain ⟨pl, hpl⟩ : ∃ pl : Nat, pl = S.last.toNat + 1 := ⟨_, rfl⟩
        have HPL : Hid ((refP S).length = pl) := by show _ = _; rw [refP_length, hpl]
        have hpl1 : pl ≤ 121 := by omega
        have HS8 : Hid (S.last ≤ 800000) := by show _ ≤ _; omega
        obtain ⟨F, h1, ⟨pb, off, cap, hr⟩, h3, h4⟩ := HB.out
        obtain ⟨c0, f0⟩ := hr.head
        rw [HPL.out] at c0
        clear hs0 hs1 hpl h1 hr h3 h4 hsl hk
        go_wp2_with fail
        clear c0 f0
        go_loopw [120] (fun i wr => ∃ j : Nat, j ≤ pl + 1 ∧ i = .int .i64 j ∧ Hid (Both w g bm m wr S S)) (fun i _ => pl + 1 - (intOf i).toNat)
        case atStart => exact ⟨0, Nat.zero_le _, rfl, HB⟩
        case round =>
          clear HB
          obtain ⟨j, hj, rfl, HB⟩ := hrel
          by_cases hlt2 : j < pl + 1
          · have hlt2' : (j : Int) < (pl : Int) + 1 := by omega
            go_wp2_with fail
            refine (tells_any j _ HB.out HS8.out).mono ?_
            rintro e w5 ⟨rfl, hb⟩
            have HB5 := Lib.hid hb
            clear hb
            go_wp2
            go_roundw
            case rel => exact ⟨j + 1, by omega, by go_num, HB5⟩
            case measure => simp [intOf]; omega
          · have hlt2' : ¬ ((j : Int) < (pl : Int) + 1) := by omega
            go_wp2_with fail
            refine (tells_any x _ HB.out HS8.out).mono ?_
            rintro e w5 ⟨rfl, hb⟩
            have HB5 := Lib.hid hb
            have hln := hb.wf.size
            obtain ⟨tn, htn⟩ : ∃ tn, tn = S.tab.length := ⟨_, rfl⟩
            have HTN := Lib.hid htn.symm
            rw [← htn] at hln
            clear hb htn
            go_wp2_with fail
            refine (lenB _ HB5.out).mono ?_
            rintro e w6 ⟨rfl, rfl⟩
            rw [HTN.out]
            go_wp2_with fail
            refine (all10B _ HB5.out (by have := HS8.out; omega)).mono ?_
            rintro e w7 ⟨a7, c7, rfl, hb⟩
            rw [HTN.out]
            have HB7 := Lib.hid hb
            clear hb
            go_wp2_with fail
            go_ret
            exact ⟨rfl, HB7.out.below⟩
theorem treeActs_row (a0 : Option Addr) (n0 c0 : Nat) (z0 : Edges) (x : Int) (w : World) (hz0 : SeqAt w a0 (ecells z0)) (hl0 : z0.length = n0) (hc0 : n0 ≤ c0) (hm0 : n0 ≤ maxLen) (hx : (Lit.int .i64 x).wf = true) :
    Calls Try.prog 5 #[.slice a0 n0 c0, .int .i64 x] w fun e w' => e = .returned (.bool true) ∧ Below w.heap.size w w' := tacts_any a0 n0 c0 z0 x w hz0 hl0
end Go.Proofs.Ytaljeadagiifnaa
