/-
  turnrowlaw10.TreeShape: the walk.
-/
import Derived.Test.YtaljeadagiifnaaTree6
import Derived.Test.YtaljeadagiifnaaTree7
set_option linter.unusedSimpArgs false
set_option linter.unusedVariables false
namespace Go.Tr
theorem Desc.trans {tab : List (Int × Int)} {a b c : Int} (h1 : Desc tab a b) (h2 : Desc tab b c) : Desc tab a c := by
  induction h2 with
  | self => exact h1
  | kid hx _ ih => exact .kid hx ih
/-- Of two ways up from one the one is part of the other. -/
theorem Desc.chain {tab : List (Int × Int)} {a b y : Int} (h1 : Desc tab a y) (h2 : Desc tab b y) : Desc tab a b ∨ Desc tab b a := by
  induction h1 with
  | self => exact Or.inr h2
  | kid hx hp ih =>
    cases h2 with
    | self => exact Or.inl (.kid hx hp)
    | kid hx' hq => rw [hx] at hx'; cases hx'; exact ih hq
end Go.Tr
namespace Go.Proofs.Ytaljeadagiifnaa
open Go.RowKit Go.Tr

theorem desc_split {tab : List (Int × Int)} {id y : Int} : Desc tab id y ↔ y = id ∨ ∃ z, lookA tab z = some id ∧ Desc tab z y := by
  constructor
  · intro h
    induction h with
    | self => exact Or.inl rfl
    | kid hx _ ih =>
      rcases ih with rfl | ⟨z, hz, hd⟩
      · exact Or.inr ⟨_, hx, .self⟩
      · exact Or.inr ⟨z, hz, .kid hx hd⟩
  · rintro (rfl | ⟨z, hz, hd⟩)
    · exact .self
    · exact (Desc.kid hz .self).trans hd
/-- All that is under the first j of some kids, each once. -/
def Gath (S : TS) (ks : List Int) (j : Nat) (acc : List Int) : Prop := acc.Nodup ∧ ∀ y, y ∈ acc ↔ ∃ z ∈ ks.take j, Desc S.tab z y
theorem Gath.start (S : TS) (ks : List Int) : Gath S ks 0 [] := ⟨List.nodup_nil, by simp⟩
theorem Gath.step {S : TS} (hS : S.WF) {id : Int} {ks : List Int} (hk : KidsOf S id ks) {j : Nat} {acc : List Int} (h : Gath S ks j acc) {z : Int} (hz : ks[j]? = some z) {us : List Int} (hu : UnderOf S z us) : Gath S ks (j + 1) (acc ++ us) := by
  have hzk := (hk.2 z).1 (List.mem_of_getElem? hz)
  have hzl : S.has z = true := hasA_some.2 ⟨_, hzk⟩
  refine ⟨List.nodup_append.2 ⟨h.1, rises_nodup hu.1, fun a ha b hb e => ?_⟩, fun y => ?_⟩
  · subst e
    obtain ⟨z', hz', hd'⟩ := (h.2 a).1 ha
    have hd := ((hu.2 a).1 hb).2
    have hz'k := (hk.2 z').1 (List.mem_of_mem_take hz')
    have hne : z' ≠ z := fun e => by
      subst e
      obtain ⟨i, hi, e⟩ := List.mem_iff_getElem.1 hz'
      rw [List.getElem_take] at e
      obtain ⟨h1, h2⟩ := List.getElem?_eq_some_iff.1 hz
      have hi' : i < ks.length := by simp at hi; omega
      have := (List.getElem_inj (h₀ := hi') (h₁ := h1) (rises_nodup hk.1)).1 (by rw [h2]; exact e)
      simp at hi; omega
    have hl1 := hS.low _ _ hzk
    have hl2 := hS.low _ _ hz'k
    rcases hd.chain hd' with hc | hc
    · cases hc with
      | self => exact hne rfl
      | kid hx hq => rw [hz'k] at hx; cases hx; have := hq.ge hS; omega
    · cases hc with
      | self => exact hne rfl
      | kid hx hq => rw [hzk] at hx; cases hx; have := hq.ge hS; omega
  · rw [List.mem_append, h.2, hu.2, take_snoc hz]
    constructor
    · rintro (⟨z', hz', hd'⟩ | ⟨_, hd⟩)
      · exact ⟨z', List.mem_append_left _ hz', hd'⟩
      · exact ⟨z, by simp, hd⟩
    · rintro ⟨z', hz', hd'⟩
      rcases List.mem_append.1 hz' with h1 | h1
      · exact Or.inl ⟨z', h1, hd'⟩
      · simp at h1; subst h1; exact Or.inr ⟨hzl, hd'⟩
theorem Gath.sum {S : TS} (hS : S.WF) {id : Int} {ks : List Int} (hk : KidsOf S id ks) {acc : List Int} (h : Gath S ks ks.length acc) {us : List Int} (hu : UnderOf S id us) (hl : S.has id = true) : us.length = acc.length + 1 := by
  rw [show Gath S ks ks.length acc = Gath S ks ks.length acc from rfl] at h
  have hm : ∀ y, y ∈ acc ↔ ∃ z, lookA S.tab z = some id ∧ Desc S.tab z y := fun y => by
    rw [h.2, List.take_of_length_le (Nat.le_refl _)]
    exact ⟨fun ⟨z, hz, hd⟩ => ⟨z, (hk.2 z).1 hz, hd⟩, fun ⟨z, hz, hd⟩ => ⟨z, (hk.2 z).2 hz, hd⟩⟩
  have hid : id ∉ acc := fun hi => by
    obtain ⟨z, hz, hd⟩ := (hm id).1 hi
    have h1 := hS.low _ _ hz
    have h2 := hd.ge hS
    omega
  have n1 : (id :: acc).Nodup := List.nodup_cons.2 ⟨hid, h.1⟩
  have e : ∀ y, y ∈ us ↔ y ∈ id :: acc := fun y => by
    rw [hu.2, desc_split, List.mem_cons, hm]; simp [hl]
  have a := length_of_sub n1 (m := us) (fun y hy => (e y).2 hy)
  have b := length_of_sub (rises_nodup hu.1) (m := id :: acc) (fun y hy => (e y).1 hy)
  simp at a b
  omega
theorem top_of {S : TS} (hS : S.WF) : ∀ (n : Nat) (y : Int), y ≤ n → S.has y = true → ∃ z, lookA S.tab z = some 0 ∧ Desc S.tab z y
  | 0, y, hn, hy => by have := hS.pos hy; omega
  | n + 1, y, hn, hy => by
    obtain ⟨p, hp⟩ := hasA_some.1 hy
    have hl := hS.low y p hp
    rcases hl.2.2.2 with rfl | hh
    · exact ⟨y, hp, .self⟩
    · obtain ⟨z, hz, hd⟩ := top_of hS n p (by omega) hh
      exact ⟨z, hz, .kid hp hd⟩
theorem Gath.all {S : TS} (hS : S.WF) {ks : List Int} (hk : KidsOf S 0 ks) {acc : List Int} (h : Gath S ks ks.length acc) : acc.length = S.tab.length := by
  have hm : ∀ y, y ∈ acc ↔ S.has y = true := fun y => by
    rw [h.2, List.take_of_length_le (Nat.le_refl _)]
    constructor
    · rintro ⟨z, hz, hd⟩
      exact hd.live (hasA_some.2 ⟨_, (hk.2 z).1 hz⟩)
    · intro hy
      have := hS.pos hy
      obtain ⟨z, hz, hd⟩ := top_of hS y.toNat y (by omega) hy
      exact ⟨z, (hk.2 z).2 hz, hd⟩
  have a := length_of_sub h.1 (m := keysA S.tab) (fun y hy => hasA_iff.1 ((hm y).1 hy))
  have b := length_of_sub hS.nodup (m := acc) (fun y hy => (hm y).2 (hasA_iff.2 hy))
  simp [keysA] at a b
  omega
/-- Those that are live, up to k. -/
def LiveTo (S : TS) (k : Int) (lv : List Int) : Prop := lv.Nodup ∧ ∀ y, y ∈ lv ↔ S.has y = true ∧ y ≤ k
theorem LiveTo.start {S : TS} (h : S.WF) : LiveTo S 0 [] := ⟨List.nodup_nil, fun y => ⟨fun h => (by cases h), fun hy => by have := h.pos hy.1; omega⟩⟩
theorem LiveTo.yes {S : TS} {k : Int} {lv : List Int} (h : LiveTo S k lv) (hh : S.has (k + 1) = true) : LiveTo S (k + 1) (lv ++ [k + 1]) := by
  refine ⟨List.nodup_append.2 ⟨h.1, by simp, fun a ha b hb e => by simp at hb; subst hb; subst e; have := ((h.2 _).1 ha).2; omega⟩, fun y => ?_⟩
  rw [List.mem_append, h.2, List.mem_singleton]
  constructor
  · rintro (⟨a, b⟩ | rfl)
    · exact ⟨a, by omega⟩
    · exact ⟨hh, Int.le_refl _⟩
  · rintro ⟨a, b⟩
    by_cases e : y = k + 1
    · exact Or.inr e
    · exact Or.inl ⟨a, by omega⟩
theorem LiveTo.no {S : TS} {k : Int} {lv : List Int} (h : LiveTo S k lv) (hh : S.has (k + 1) = false) : LiveTo S (k + 1) lv := by
  refine ⟨h.1, fun y => (h.2 y).trans ⟨fun ⟨a, b⟩ => ⟨a, by omega⟩, fun ⟨a, b⟩ => ⟨a, ?_⟩⟩⟩
  by_cases e : y = k + 1
  · subst e; rw [hh] at a; cases a
  · omega
theorem LiveTo.all {S : TS} (hS : S.WF) {k : Int} (hk : S.last ≤ k) {lv : List Int} (h : LiveTo S k lv) : lv.length = S.tab.length := by
  have a := length_of_sub h.1 (m := keysA S.tab) (fun y hy => hasA_iff.1 ((h.2 y).1 hy).1)
  have b := length_of_sub hS.nodup (m := lv) (fun y hy => (h.2 y).2 ⟨hasA_iff.2 hy, by have := hS.pos (hasA_iff.2 hy); omega⟩)
  simp [keysA] at a b
  omega
theorem under_head {S : TS} (hS : S.WF) {id : Int} {us : List Int} (hu : UnderOf S id us) (hl : S.has id = true) : ∃ t, us = id :: t := by
  have hi : id ∈ us := (hu.2 id).2 ⟨hl, .self⟩
  cases us with
  | nil => cases hi
  | cons a t =>
    rcases List.mem_cons.1 hi with rfl | h
    · exact ⟨t, rfl⟩
    · have h1 := (List.pairwise_cons.1 hu.1).1 id h
      have h2 := ((hu.2 a).1 (by simp)).2.ge hS
      omega

set_option maxRecDepth 100000 in
set_option maxHeartbeats 2000000 in
theorem shape_any (aa : Option Addr) (n c : Nat) (L : Edges) (w : World) (ha : SeqAt w aa (ecells L)) (hl : L.length = n) (hn : n ≤ 120) :
    Calls Try.prog 6 #[.slice aa n c] w fun e w' => e = .returned (.bool true) ∧ Below w.heap.size w w' := by
  have HG := Lib.hid (grown_any aa n c L w ha hl hn)
  clear ha hl
  go_enter Try.func6, Try.ntmps6
  go_wp2_with fail
  refine HG.out.mono ?_
  rintro e w1 ⟨g, bm, S, rfl, hi, hlast⟩
  have HI := Lib.hid hi
  have hl0 := hi.wf.last0
  obtain ⟨ln, hln⟩ : ∃ ln : Nat, S.last = ln := ⟨S.last.toNat, by omega⟩
  rw [hln] at hlast
  have HLN := Lib.hid hln
  simp only [hln]
  have HWF := Lib.hid hi.wf
  have hs64 := hi.wf.size
  obtain ⟨sn, hsn⟩ : ∃ sn, sn = S.tab.length := ⟨_, rfl⟩
  rw [← hsn] at hs64
  have HSN := Lib.hid hsn
  clear hi HG hl0 hln hsn
  have hl120 : ln ≤ 120 := by omega
  clear hlast
  go_wp2_with fail
  refine (alive10_any _).mono ?_
  rintro e w2 ⟨rfl, hb⟩
  have HI2 := Lib.hid (HI.out.read hb)
  have HLV0 := Lib.hid (LiveTo.start HWF.out)
  clear hb HI
  go_wp2_with fail
  go_loopw [5, 6] (fun lv i wr => ∃ (k m : Nat) (lvs : List Int), k ≤ ln ∧ i = .int .i64 ((k : Int) + 1) ∧ lv = .int .i64 m ∧ m ≤ k ∧ Hid (lvs.length = m) ∧ Hid (LiveTo S k lvs) ∧ Hid (TInv w wr g bm S)) (fun _ i _ => ln + 1 - (intOf i).toNat)
  case atStart => exact ⟨0, 0, [], Nat.zero_le _, rfl, rfl, Nat.zero_le _, rfl, HLV0, HI2⟩
  case round =>
    clear HI2 HLV0
    obtain ⟨k, m, lvs, hk, rfl, rfl, hmk, HML, HLV, HI⟩ := hrel
    by_cases hlt : k < ln
    · have hle : (k : Int) + 1 ≤ (ln : Int) := by omega
      by_cases hv : S.has ((k : Int) + 1) = true
      · have HV := Lib.hid hv
        have HLV2 := Lib.hid (HLV.out.yes hv)
        have HML2 : Hid ((lvs ++ [(k : Int) + 1]).length = m + 1) := by show _ = _; rw [List.length_append, HML.out]; rfl
        have HNE : Hid (TS.needE S ((k : Int) + 1) = 0) := by show _ = _; unfold TS.needE; rw [if_pos hv]
        obtain ⟨p, hp⟩ : ∃ p, p = S.par ((k : Int) + 1) := ⟨_, rfl⟩
        have hlk : lookA S.tab ((k : Int) + 1) = some p := by
          obtain ⟨v, hv'⟩ := hasA_some.1 hv
          rw [hp]; unfold TS.par; rw [hv']; rfl
        have hlow := HWF.out.low _ _ hlk
        have hp0 : 0 ≤ p := hlow.1
        have hpk : p < (k : Int) + 1 := hlow.2.1
        have HPL := Lib.hid hlow.2.2.2
        have HLK := Lib.hid hlk
        have HP := Lib.hid hp
        have HKE : Hid (TS.kidsE S p = 0) := by
          show _ = _; unfold TS.kidsE
          rw [if_pos (hlow.2.2.2.symm)]
        have hkE0 : TS.kidsE S ((k : Int) + 1) = 0 := by unfold TS.kidsE; rw [if_pos (Or.inl hv)]
        have HKE0 := Lib.hid hkE0
        clear hv hlk hlow hp hkE0 HLV HML
        go_wp2_with fail
        refine (liveT _ _ HI.out).mono ?_
        rintro e w3 ⟨rfl, rfl⟩
        rw [HV.out]
        go_wp2_with fail
        refine (parentT _ _ HI.out).mono ?_
        rintro e w3 ⟨rfl, rfl⟩
        rw [← HP.out, HNE.out]
        go_wp2_with fail
        refine (kidsO p _ HI.out).mono ?_
        rintro e w3 ⟨ka, kn, kc, ks, rfl, hs, hl, hn64, hu, hi, hb⟩
        rw [HKE.out]
        have HK := Lib.hid (ownsRow_seq' hs)
        have HKN := Lib.hid hl
        have HIN : Hid (hasL ks ((k : Int) + 1) = true) := (hasL_iff _ _).2 ((hu.2 _).2 HLK.out)
        have HI3 := Lib.hid hi
        clear hs hl hu hi hb HI
        have hpz : p = 0 ∨ (0 < p ∧ S.has p = true) := by
          rcases HPL.out with e | e
          · exact Or.inl e
          · have := HWF.out.pos e; exact Or.inr ⟨by omega, e⟩
        rcases hpz with hpz | ⟨hpz, hhp⟩
        all_goals
          first
            | (subst hpz
               go_wp2_with fail)
            | (have HHP := Lib.hid hhp
               clear hhp
               go_wp2_with fail
               refine (liveT _ _ HI3.out).mono ?_
               rintro e w4 ⟨rfl, rfl⟩
               rw [HHP.out]
               go_wp2_with fail)
          go_loop [11, 97] (fun bv i => ∃ j : Nat, j ≤ kn ∧ i = .int .i64 j ∧ bv = .bool (hasL (ks.take j) ((k : Int) + 1))) (fun _ i => kn - (intOf i).toNat)
          case atStart => exact ⟨0, Nat.zero_le _, rfl, rfl⟩
          case round =>
            obtain ⟨j, hj, rfl, rfl⟩ := hrel
            by_cases hjl : j < kn
            · obtain ⟨b, off, y, rfl, hc, HX⟩ := HK.out.ints (k := j) (by rw [HKN.out]; exact hjl)
              have HT := Lib.hid (hasL_take (x := (k : Int) + 1) HX.out)
              generalize hasL (ks.take j) ((k : Int) + 1) = bb at *
              clear HX
              by_cases hyx : y = (k : Int) + 1
              · have hyx1 : (y == (k : Int) + 1) = true := by simpa using hyx
                have HT2 : Hid (hasL (ks.take (j + 1)) ((k : Int) + 1) = true) := by show _ = _; rw [HT.out, hyx1]; simp
                clear hyx HT
                cases bb
                all_goals
                  go_wp2
                  go_round
                  case rel => exact ⟨j + 1, by omega, by go_num, by rw [HT2.out]⟩
                  case measure => simp [intOf]; omega
              · have hyx1 : (y == (k : Int) + 1) = false := by simpa using hyx
                have HT2 : Hid (hasL (ks.take (j + 1)) ((k : Int) + 1) = bb) := by show _ = _; rw [HT.out, hyx1]; simp
                clear hyx HT
                cases bb
                all_goals
                  go_wp2
                  go_round
                  case rel => exact ⟨j + 1, by omega, by go_num, by rw [HT2.out]⟩
                  case measure => simp [intOf]; omega
            · have HT : Hid (ks.take j = ks) := List.take_of_length_le (by rw [HKN.out]; omega)
              rw [HT.out, HIN.out]
              clear HT HIN hj
              have hjl' : ¬ j < kn := hjl
              go_wp2_with fail
              refine (kidsO ((k : Int) + 1) _ HI3.out).mono ?_
              rintro e w4 ⟨ma, mn, mc, mine, rfl, hs, hl, hmn64, hu, hi, hb⟩
              rw [HKE0.out]
              have HM := Lib.hid (ownsRow_seq' hs)
              have HMN := Lib.hid hl
              have HMK := Lib.hid hu
              have HI4 := Lib.hid hi
              have HG0 := Lib.hid (Gath.start S mine)
              clear hs hl hu hi hb HI3
              go_wp2_with fail
              go_loopw [14, 116] (fun sv i wr => ∃ (q t : Nat) (acc : List Int), q ≤ mn ∧ i = .int .i64 q ∧ sv = .int .i64 ((t : Int) + 1) ∧ t ≤ 64 * q ∧ Hid (acc.length = t) ∧ Hid (Gath S mine q acc) ∧ Hid (TInv w wr g bm S) ∧ Hid (Below w4.heap.size w4 wr)) (fun _ i _ => mn - (intOf i).toNat)
              case atStart => exact ⟨0, 0, [], Nat.zero_le _, rfl, rfl, Nat.zero_le _, rfl, HG0, HI4, Below.refl _ _⟩
              case round =>
                clear HG0 HI4
                obtain ⟨q, t, acc, hq, rfl, rfl, htq, HAL, HGA, HI5, HB5⟩ := hrel
                by_cases hqm : q < mn
                · obtain ⟨b, off, z, rfl, hc, HX⟩ := (HM.out.below HB5.out (Nat.le_refl _)).ints (k := q) (by rw [HMN.out]; exact hqm)
                  have HZL : Hid (TS.needE S z = 0) := by
                    have := (HMK.out.2 z).1 (List.mem_of_getElem? HX.out)
                    show _ = _; unfold TS.needE; rw [if_pos (show S.has z = true from hasA_some.2 ⟨_, this⟩)]
                  go_wp2_with fail
                  refine (underO z _ HI5.out).mono ?_
                  rintro e w6 ⟨ua, un, uc, us, rfl, hs, hl, hun64, hu, hi, hb⟩
                  rw [HZL.out]
                  have HG2 := Lib.hid (HGA.out.step HWF.out HMK.out HX.out hu)
                  have HAL2 : Hid ((acc ++ us).length = t + un) := by show _ = _; rw [List.length_append, HAL.out, hl]
                  have HI6 := Lib.hid hi
                  have HB6 : Hid (Below w4.heap.size w4 w6) := HB5.out.trans (hb.mono HB5.out.size)
                  clear hs hl hu hi hb HI5 HB5 HX HGA HAL
                  go_wp2
                  go_roundw
                  case rel => exact ⟨q + 1, t + un, acc ++ us, by omega, by go_num, by go_num, by omega, HAL2, HG2, HI6, HB6⟩
                  case measure => simp [intOf]; omega
                · have hqe : q = mn := by omega
                  have HGE : Hid (Gath S mine mine.length acc) := by rw [HMN.out, ← hqe]; exact HGA.out
                  clear hqe HGA
                  go_wp2_with fail
                  refine (underO ((k : Int) + 1) _ HI5.out).mono ?_
                  rintro e w6 ⟨ua, un, uc, us, rfl, hs, hl, hun64, hu, hi, hb⟩
                  rw [HNE.out]
                  obtain ⟨ut, hut⟩ := under_head HWF.out hu HV.out
                  have hsum := HGE.out.sum HWF.out HMK.out hu HV.out
                  rw [hl, HAL.out] at hsum
                  subst hsum
                  have hus := ownsRow_seq' hs
                  obtain ⟨b, off, y0, rfl, hc, HX⟩ := hus.ints (k := 0) (by rw [hl]; omega)
                  have hy0 : y0 = (k : Int) + 1 := by have := HX.out; rw [hut] at this; simpa using this.symm
                  subst hy0
                  simp only [Nat.add_zero] at hc
                  have HI6 := Lib.hid hi
                  clear hs hl hu hi hb HI5 HB5 HX hus hut
                  have hpos : 0 < t + 1 := by omega
                  go_wp2_with fail
                  go_roundw
                  case rel => exact ⟨k + 1, m + 1, lvs ++ [(k : Int) + 1], by omega, by go_num, by go_num, by omega, HML2, HLV2, HI6⟩
                  case measure => simp [intOf]; omega
      · have HV : Hid (S.has ((k : Int) + 1) = false) := by simpa [Hid] using hv
        have HLV2 := Lib.hid (HLV.out.no HV.out)
        clear hv
        go_wp2_with fail
        refine (liveT _ _ HI.out).mono ?_
        rintro e w3 ⟨rfl, rfl⟩
        rw [HV.out]
        go_wp2
        go_roundw
        case rel => exact ⟨k + 1, m, lvs, by omega, by go_num, rfl, by omega, HML, HLV2, HI⟩
        case measure => simp [intOf]; omega
    · have hle : ¬ ((k : Int) + 1 ≤ (ln : Int)) := by omega
      have hms : m = sn := by
        have := HLV.out.all HWF.out (by rw [HLN.out]; omega)
        rw [HML.out, ← HSN.out] at this; exact this
      subst hms
      have HK0 : Hid (TS.kidsE S 0 = 0) := by show _ = _; unfold TS.kidsE; rw [if_pos (Or.inr rfl)]
      clear HLV HML
      go_wp2_with fail
      refine (kidsO 0 _ HI.out).mono ?_
      rintro e w4 ⟨ma, mn, mc, mine, rfl, hs, hl, hmn64, hu, hi, hb⟩
      rw [HK0.out]
      have HM := Lib.hid (ownsRow_seq' hs)
      have HMN := Lib.hid hl
      have HMK := Lib.hid hu
      have HI4 := Lib.hid hi
      have HG0 := Lib.hid (Gath.start S mine)
      clear hs hl hu hi hb HI
      go_wp2_with fail
      go_loopw [23, 174] (fun sv i wr => ∃ (q t : Nat) (acc : List Int), q ≤ mn ∧ i = .int .i64 q ∧ sv = .int .i64 t ∧ t ≤ 64 * q ∧ Hid (acc.length = t) ∧ Hid (Gath S mine q acc) ∧ Hid (TInv w wr g bm S) ∧ Hid (Below w4.heap.size w4 wr)) (fun _ i _ => mn - (intOf i).toNat)
      case atStart => exact ⟨0, 0, [], Nat.zero_le _, rfl, rfl, Nat.zero_le _, rfl, HG0, HI4, Below.refl _ _⟩
      case round =>
        clear HG0 HI4
        obtain ⟨q, t, acc, hq, rfl, rfl, htq, HAL, HGA, HI5, HB5⟩ := hrel
        by_cases hqm : q < mn
        · obtain ⟨b, off, z, rfl, hc, HX⟩ := (HM.out.below HB5.out (Nat.le_refl _)).ints (k := q) (by rw [HMN.out]; exact hqm)
          go_wp2_with fail
          refine (underO z _ HI5.out).mono ?_
          rintro e w6 ⟨ua, un, uc, us, rfl, hs, hl, hun64, hu, hi, hb⟩
          have HG2 := Lib.hid (HGA.out.step HWF.out HMK.out HX.out hu)
          have HAL2 : Hid ((acc ++ us).length = t + un) := by show _ = _; rw [List.length_append, HAL.out, hl]
          have HI6 := Lib.hid hi
          have HB6 : Hid (Below w4.heap.size w4 w6) := HB5.out.trans (hb.mono HB5.out.size)
          clear hs hl hu hi hb HI5 HB5 HX HGA HAL
          go_wp2
          go_roundw
          case rel => exact ⟨q + 1, t + un, acc ++ us, by omega, by go_num, by go_num, by omega, HAL2, HG2, HI6, HB6⟩
          case measure => simp [intOf]; omega
        · have hqe : q = mn := by omega
          have HGE : Hid (Gath S mine mine.length acc) := by rw [HMN.out, ← hqe]; exact HGA.out
          have hts : t = m := by
            have := HGE.out.all HWF.out HMK.out
            rw [HAL.out, ← HSN.out] at this; exact this
          subst hts
          clear hqe HGA
          go_wp2_with fail
          refine (lenT _ HI5.out).mono ?_
          rintro e w6 ⟨rfl, rfl⟩
          rw [← HSN.out]
          go_wp2
          go_ret
          exact ⟨rfl, HI5.out.below⟩

set_option maxRecDepth 100000 in
theorem shape_big (aa : Option Addr) (n c : Nat) (w : World) (hn : 120 < n) (hm : n ≤ 9223372036854775807) :
    Calls Try.prog 6 #[.slice aa n c] w fun e w' => e = .returned (.bool true) ∧ Below w.heap.size w w' := by
  have hn' : 120 < (n : Int) := by omega
  go_enter Try.func6, Try.ntmps6
  go_wp2_with fail
  refine (grown_big aa n c _ hn hm).mono ?_
  rintro e w1 ⟨rfl, hb1⟩
  have HB1 := Lib.hid hb1
  clear hb1
  go_wp2_with fail
  refine (alive10_any _).mono ?_
  rintro e w2 ⟨rfl, hb⟩
  have HB2 : Hid (Below w.heap.size w w2) := HB1.out.trans (hb.mono HB1.out.size)
  clear hb HB1
  go_wp2_with fail
  refine (alive10_any _).mono ?_
  rintro e w3 ⟨rfl, hb⟩
  have HB3 : Hid (Below w.heap.size w w3) := HB2.out.trans (hb.mono HB2.out.size)
  clear hb HB2
  go_wp2
  go_ret
  exact ⟨rfl, HB3.out⟩
theorem shape_row (a0 : Option Addr) (n0 c0 : Nat) (z0 : Edges) (w : World) (hz0 : SeqAt w a0 (ecells z0)) (hl0 : z0.length = n0) (hc0 : n0 ≤ c0) (hm0 : n0 ≤ maxLen) :
    Calls Try.prog 6 #[.slice a0 n0 c0] w fun e w' => e = .returned (.bool true) ∧ Below w.heap.size w w' := by
  unfold maxLen at hm0
  by_cases h : 120 < n0
  · exact shape_big a0 n0 c0 w h (by omega)
  · exact shape_any a0 n0 c0 z0 w hz0 hl0 (by omega)
end Go.Proofs.Ytaljeadagiifnaa
