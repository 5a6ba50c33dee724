/-
  turnrowlaw10.TreeMerges: the walk.
-/
import Derived.Test.YtaljeadagiifnaaTree7
set_option linter.unusedSimpArgs false
set_option linter.unusedVariables false
namespace Go.Proofs.Ytaljeadagiifnaa
open Go.RowKit Go.Tr

theorem par_some {S : TS} {id : Int} (h : S.has id = true) : lookA S.tab id = some (S.par id) := by
  obtain ⟨p, hp⟩ := hasA_some.1 h
  unfold TS.par; rw [hp]; rfl
section
variable {S : TS} {id p : Int}
theorem merge_desc (hS : S.WF) (hp : lookA S.tab id = some p) (x : Int) : Desc (S.merge id p).tab p x ↔ Desc S.tab p x ∧ x ≠ id := by
  have hlt := (hS.low id p hp).2.1
  constructor
  · intro h
    induction h with
    | self => exact ⟨.self, by omega⟩
    | kid hx _ ih =>
      rw [look_merge] at hx
      rename_i y q _
      by_cases hy : y = id
      · rw [if_pos hy] at hx; cases hx
      · rw [if_neg hy] at hx
        obtain ⟨u, hu, he⟩ := Option.map_eq_some_iff.1 hx
        by_cases hui : u = id
        · rw [hui] at hu
          exact ⟨.kid hu (.kid hp .self), hy⟩
        · rw [if_neg hui] at he
          subst he
          exact ⟨.kid hu ih.1, hy⟩
  · rintro ⟨h, hne⟩
    induction h with
    | self => exact .self
    | kid hx _ ih =>
      rename_i y u _
      by_cases hui : u = id
      · refine .kid (p := p) ?_ .self
        rw [look_merge, if_neg hne, hx]
        simp [hui]
      · refine .kid (p := u) ?_ (ih hui)
        rw [look_merge, if_neg hne, hx]
        simp [hui]
theorem merge_kids (hS : S.WF) (hp : lookA S.tab id = some p) {mine his ks : List Int} (h1 : KidsOf S id mine) (h2 : KidsOf S p his) (h3 : KidsOf (S.merge id p) p ks) : ks.length + 1 = mine.length + his.length := by
  have hlt := (hS.low id p hp).2.1
  have hm : ∀ x, x ∈ ks ↔ (x ∈ mine ∨ x ∈ his) ∧ x ≠ id := fun x => by
    rw [h3.2, look_merge, h1.2, h2.2]
    by_cases hx : x = id
    · simp [hx]
    · rw [if_neg hx]
      simp only [hx, ne_eq, not_false_eq_true, and_true]
      cases lookA S.tab x with
      | none => simp
      | some u =>
        by_cases hu : u = id
        · simp [hu]
        · simp [hu]
  have hid : id ∈ his := (h2.2 id).2 hp
  have hnk : id ∉ ks := fun h => ((hm id).1 h).2 rfl
  have n1 : (id :: ks).Nodup := List.nodup_cons.2 ⟨hnk, rises_nodup h3.1⟩
  have n2 : (mine ++ his).Nodup := List.nodup_append.2 ⟨rises_nodup h1.1, rises_nodup h2.1, fun a ha b hb e => by
    subst e
    have e1 := (h1.2 a).1 ha
    have e2 := (h2.2 a).1 hb
    rw [e1] at e2
    simp at e2
    omega⟩
  have a := length_of_sub n1 (m := mine ++ his) (fun y hy => by
    rcases List.mem_cons.1 hy with rfl | hy
    · exact List.mem_append_right _ hid
    · exact List.mem_append.2 ((hm y).1 hy).1)
  have b := length_of_sub n2 (m := id :: ks) (fun y hy => by
    by_cases e : y = id
    · subst e; simp
    · exact List.mem_cons_of_mem _ ((hm y).2 ⟨List.mem_append.1 hy, e⟩))
  simp at a b
  omega
theorem merge_under (hS : S.WF) (hp : lookA S.tab id = some p) (h0 : p ≠ 0) {us vs : List Int} (h1 : UnderOf S p us) (h2 : UnderOf (S.merge id p) p vs) : vs.length + 1 = us.length := by
  have hl := hS.low id p hp
  have hhp : S.has p = true := by rcases hl.2.2.2 with e | e; exact absurd e h0; exact e
  have hhp' : (S.merge id p).has p = true := (has_merge id p p).2 ⟨hhp, by omega⟩
  have hm : ∀ x, x ∈ vs ↔ x ∈ us ∧ x ≠ id := fun x => by
    rw [h2.2, h1.2, merge_desc hS hp]
    simp [hhp, hhp']
  have hid : id ∈ us := (h1.2 id).2 ⟨hhp, .kid hp .self⟩
  have n1 : (id :: vs).Nodup := List.nodup_cons.2 ⟨fun h => ((hm id).1 h).2 rfl, rises_nodup h2.1⟩
  have a := length_of_sub n1 (m := us) (fun y hy => by
    rcases List.mem_cons.1 hy with rfl | hy
    · exact hid
    · exact ((hm y).1 hy).1)
  have b := length_of_sub (rises_nodup h1.1) (m := id :: vs) (fun y hy => by
    by_cases e : y = id
    · subst e; simp
    · exact List.mem_cons_of_mem _ ((hm y).2 ⟨hy, e⟩))
  simp at a b
  omega
theorem merge_par {x : Int} (hne : x ≠ id) (h : lookA S.tab x = some id) : (S.merge id p).par x = p ∧ (S.merge id p).has x = true := by
  have : lookA (S.merge id p).tab x = some p := by rw [look_merge, if_neg hne, h]; simp
  exact ⟨by unfold TS.par; rw [this]; rfl, hasA_some.2 ⟨_, this⟩⟩
end

set_option maxRecDepth 100000 in
set_option maxHeartbeats 2000000 in
theorem merges_any (aa : Option Addr) (n c : Nat) (L : Edges) (x : Int) (w : World) (ha : SeqAt w aa (ecells L)) (hl : L.length = n) (hn : n ≤ 120) (hx : (Lit.int .i64 x).wf = true) :
    Calls Try.prog 3 #[.slice aa n c, .int .i64 x] w fun e w' => e = .returned (.bool true) ∧ Below w.heap.size w w' := by
  have HG := Lib.hid (grown_any aa n c L w ha hl hn)
  clear ha hl
  go_enter Try.func3, Try.ntmps3
  go_wp2_with fail
  refine HG.out.mono ?_
  rintro e w1 ⟨g, bm, S, rfl, hi, hlast⟩
  have HI := Lib.hid hi
  have hl0 := hi.wf.last0
  obtain ⟨ln, hln⟩ : ∃ ln : Nat, S.last = ln := ⟨S.last.toNat, by omega⟩
  rw [hln] at hlast
  have HLN := Lib.hid hln
  simp only [hln]
  clear hi HG hl0 hln
  have hl120 : ln ≤ 120 := by omega
  clear hlast
  go_wp2_with fail
  refine (alive10_any _).mono ?_
  rintro e w2 ⟨rfl, hb⟩
  have HI2 := Lib.hid (HI.out.read hb)
  clear hb HI
  go_wp2_with fail
  obtain ⟨id, hid⟩ : ∃ id, id = wrap64 (1 + wrap64 ((IntKind.u64.wrap x).tmod (max (ln : Int) 1))) := ⟨_, rfl⟩
  rw [← hid]
  clear hid
  have HGB := Lib.hid HI2.out.tree.lt
  have HLM : Hid (S.last ≤ 1000000) := by show _ ≤ _; rw [HLN.out]; omega
  refine (parentT id _ HI2.out).mono ?_
  rintro e w3 ⟨rfl, rfl⟩
  obtain ⟨p, hp⟩ : ∃ p, p = S.par id := ⟨_, rfl⟩
  rw [← hp]
  have HP := Lib.hid hp
  clear hp
  go_wp2_with fail
  refine (kidsO id _ HI2.out).mono ?_
  rintro e w3 ⟨ma, mn, mc, mine, rfl, hs, hl, hn64, hu, hi, hb⟩
  have HMI := Lib.hid hs
  have HMN := Lib.hid hl
  have HMK := Lib.hid hu
  have HI3 := Lib.hid hi
  have hmn64 := hn64
  clear hs hl hu hi hb HI2 hn64
  go_wp2_with fail
  refine (kidsO p _ HI3.out).mono ?_
  rintro e w4 ⟨ha, hn', hc, his, rfl, hs, hl, hn64, hu, hi, hb⟩
  have HHN := Lib.hid hl
  have HHK := Lib.hid hu
  have HI4 := Lib.hid hi
  have HMI4 := Lib.hid (ownsRow_below HMI.out hb)
  have hhn64 := hn64
  clear hs hl hu hi hb HI3 HMI hn64
  go_wp2_with fail
  refine (underO p _ HI4.out).mono ?_
  rintro e w5 ⟨ua, un, uc, us, rfl, hs, hl, hn64, hu, hi, hb⟩
  have HUN := Lib.hid hl
  have HUO := Lib.hid hu
  have HI5 := Lib.hid hi
  have HMI5 := Lib.hid (ownsRow_below HMI4.out hb)
  have hun64 := hn64
  clear hs hl hu hi hb HI4 HMI4 hn64
  by_cases hd : S.has id = true
  · have HNE : Hid (TS.needE S id = 0) := by show _ = _; unfold TS.needE; rw [if_pos hd]
    have HLK : Hid (lookA S.tab id = some p) := by show _ = _; rw [HP.out]; exact par_some hd
    by_cases h0 : p = 0
    · have HE : Hid (S.mergeE id = 16) := by show _ = _; unfold TS.mergeE; rw [if_pos hd, if_pos (by rw [← HP.out]; exact h0)]
      have HSS : Hid (S.mergeS id = S) := by show _ = _; unfold TS.mergeS; rw [if_neg (fun h => h.2 (by rw [← HP.out]; exact h0))]
      have HD := Lib.hid hd
      rw [HNE.out]
      subst h0
      clear hd
      go_wp2_with fail
      refine (mergeT id _ HI5.out HLM.out).mono ?_
      rintro e w6 ⟨rfl, hi, ho⟩
      rw [HE.out, ← HP.out]
      rw [HSS.out] at hi
      have HI6 := Lib.hid hi
      clear hi ho HI5
      go_wp2_with fail
      refine (liveT _ _ HI6.out).mono ?_
      rintro e w7 ⟨rfl, rfl⟩
      rw [HD.out]
      go_wp2
      go_ret
      exact ⟨rfl, HI6.out.below⟩
    · have HE : Hid (S.mergeE id = 0) := by show _ = _; unfold TS.mergeE; rw [if_pos hd, if_neg (by rw [← HP.out]; exact h0)]
      have HSS : Hid (S.mergeS id = S.merge id p) := by show _ = _; unfold TS.mergeS; rw [if_pos ⟨hd, by rw [← HP.out]; exact h0⟩, ← HP.out]
      have hpf : (p == 0) = false := by simpa using h0
      have HWF := Lib.hid HI5.out.wf
      have hlow := HWF.out.low id p HLK.out
      have HLOW := Lib.hid hlow
      have HHP : Hid ((S.merge id p).has p = true) := by
        refine (has_merge id p p).2 ⟨?_, by omega⟩
        rcases hlow.2.2.2 with e | e
        · exact absurd e h0
        · exact e
      have HHI : Hid ((S.merge id p).has id = false) := by
        show _ = _
        cases hh : (S.merge id p).has id with
        | false => rfl
        | true => exact absurd rfl ((has_merge id p id).1 hh).2
      have HKE : Hid (TS.kidsE (S.merge id p) p = 0) := by show _ = _; unfold TS.kidsE; rw [if_pos (Or.inl HHP.out)]
      have HUE : Hid (TS.needE (S.merge id p) p = 0) := by show _ = _; unfold TS.needE; rw [if_pos HHP.out]
      have HP0 := Lib.hid h0
      rw [HNE.out]
      clear hd h0 hlow
      go_wp2_with fail
      refine (mergeT id _ HI5.out HLM.out).mono ?_
      rintro e w6 ⟨rfl, hi, ho⟩
      rw [HE.out, ← HP.out]
      rw [HSS.out] at hi
      have HI6 := Lib.hid hi
      have HMI6 := Lib.hid (ownsRow_deed HMI5.out ho HGB.out.1 HGB.out.2)
      clear hi ho HI5 HMI5
      go_wp2_with fail
      refine (kidsO p _ HI6.out).mono ?_
      rintro e w7 ⟨ka, kn, kc, ks, rfl, hs, hl, hn64, hu, hi, hb⟩
      rw [HKE.out]
      have hk1 := merge_kids HWF.out HLK.out HMK.out HHK.out hu
      rw [hl, HMN.out, HHN.out] at hk1
      have HI7 := Lib.hid hi
      have HMI7 := Lib.hid (ownsRow_below HMI6.out hb)
      have HK1 := Lib.hid hk1
      clear hs hl hu hi hb HI6 HMI6 hk1
      go_wp2_with fail
      refine (underO p _ HI7.out).mono ?_
      rintro e w8 ⟨va, vn, vc, vs, rfl, hs, hl, hn64, hu, hi, hb⟩
      rw [HUE.out]
      have hk2 := merge_under HWF.out HLK.out HP0.out HUO.out hu
      rw [hl, HUN.out] at hk2
      have HI8 := Lib.hid hi
      have HMI8 := Lib.hid (ownsRow_seq' (ownsRow_below HMI7.out hb))
      have HK2 := Lib.hid hk2
      clear hs hl hu hi hb HI7 HMI7 hk2
      go_wp2_with fail
      refine (liveT _ _ HI8.out).mono ?_
      rintro e w9 ⟨rfl, rfl⟩
      rw [HHI.out]
      have hkk : (kn : Int) = (mn : Int) + (hn' : Int) - 1 := by have := HK1.out; omega
      have hvv : (vn : Int) = (un : Int) - 1 := by have := HK2.out; omega
      go_wp2_with fail
      clear hkk hvv
      go_loop [156] (fun i => ∃ j : Nat, j ≤ mn ∧ i = .int .i64 j) (fun i => mn - (intOf i).toNat)
      case atStart => exact ⟨0, Nat.zero_le _, rfl⟩
      case round =>
        obtain ⟨j, hj, rfl⟩ := hrel
        by_cases hjl : j < mn
        · obtain ⟨b, off, y, rfl, hc, HX⟩ := HMI8.out.ints (k := j) (by rw [HMN.out]; exact hjl)
          have hyk := (HMK.out.2 y).1 (List.mem_of_getElem? HX.out)
          have hyi : y ≠ id := fun e => by
            rw [e, HLK.out] at hyk
            have := HLOW.out.2.1
            simp at hyk
            omega
          have HMP := Lib.hid (merge_par (p := p) hyi hyk)
          have HNP : Hid (TS.needE (S.merge id p) y = 0) := by show _ = _; unfold TS.needE; rw [if_pos HMP.out.2]
          clear hyk hyi HX
          go_wp2_with fail
          refine (parentT y _ HI8.out).mono ?_
          rintro e w9 ⟨rfl, rfl⟩
          rw [HMP.out.1, HNP.out]
          go_wp2
          go_round
          case rel => exact ⟨j + 1, by omega, by go_num⟩
          case measure => simp [intOf]; omega
        · go_wp2
          go_ret
          exact ⟨rfl, HI8.out.below⟩
  · have hd' : S.has id = false := by simpa using hd
    have HNE : Hid (TS.needE S id = 6) := by show _ = _; unfold TS.needE; rw [if_neg hd]
    have HE : Hid (S.mergeE id = 6) := by show _ = _; unfold TS.mergeE; rw [if_neg hd]
    have HSS : Hid (S.mergeS id = S) := by show _ = _; unfold TS.mergeS; rw [if_neg (fun h => hd h.1)]
    have HP0 : Hid (S.par id = 0) := par_dead hd'
    rw [HNE.out]
    clear hd hd'
    go_wp2_with fail
    refine (mergeT id _ HI5.out HLM.out).mono ?_
    rintro e w6 ⟨rfl, hi, ho⟩
    rw [HE.out, HP0.out]
    rw [HSS.out] at hi
    have HI6 := Lib.hid hi
    clear hi ho HI5
    go_wp2
    go_ret
    exact ⟨rfl, HI6.out.below⟩

set_option maxRecDepth 100000 in
theorem merges_big (aa : Option Addr) (n c : Nat) (x : Int) (w : World) (hn : 120 < n) (hm : n ≤ 9223372036854775807) :
    Calls Try.prog 3 #[.slice aa n c, .int .i64 x] w fun e w' => e = .returned (.bool true) ∧ Below w.heap.size w w' := by
  have hn' : 120 < (n : Int) := by omega
  go_enter Try.func3, Try.ntmps3
  go_wp2_with fail
  refine (grown_big aa n c _ hn hm).mono ?_
  rintro e w1 ⟨rfl, hb1⟩
  have HB1 := Lib.hid hb1
  clear hb1
  go_wp2_with fail
  refine (alive10_any _).mono ?_
  rintro e w2 ⟨rfl, hb⟩
  have HB2 : Hid (Below w.heap.size w w2) := HB1.out.trans (hb.mono HB1.out.size)
  clear hb HB1
  go_wp2_with fail
  refine (alive10_any _).mono ?_
  rintro e w3 ⟨rfl, hb⟩
  have HB3 : Hid (Below w.heap.size w w3) := HB2.out.trans (hb.mono HB2.out.size)
  clear hb HB2
  go_wp2
  go_ret
  exact ⟨rfl, HB3.out⟩
theorem merges_row (a0 : Option Addr) (n0 c0 : Nat) (z0 : Edges) (x : Int) (w : World) (hz0 : SeqAt w a0 (ecells z0)) (hl0 : z0.length = n0) (hc0 : n0 ≤ c0) (hm0 : n0 ≤ maxLen) (hx : (Lit.int .i64 x).wf = true) :
    Calls Try.prog 3 #[.slice a0 n0 c0, .int .i64 x] w fun e w' => e = .returned (.bool true) ∧ Below w.heap.size w w' := by
  unfold maxLen at hm0
  by_cases h : 120 < n0
  · exact merges_big a0 n0 c0 x w h (by omega)
  · exact merges_any a0 n0 c0 z0 x w hz0 hl0 (by omega) hx
end Go.Proofs.Ytaljeadagiifnaa
