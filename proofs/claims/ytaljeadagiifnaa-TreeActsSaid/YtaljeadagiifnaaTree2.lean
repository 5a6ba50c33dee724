/-
  Package tree: the walks of Under and Free.
-/
import Derived.Test.YtaljeadagiifnaaTree1
import Derived.Test.YtaljeadagiifnaaAppSeq
set_option linter.unusedSimpArgs false
set_option linter.unusedVariables false
namespace Go.Proofs.Ytaljeadagiifnaa
open Go.RowKit Go.Tr

theorem ownsRow_below {w w' : World} {base : Nat} {e : TypeId} {size n : Nat} {v : Value} {xs : List Value} (h : w.ownsRow base e size v n xs) (hb : Below w.heap.size w w') : w'.ownsRow base e size v n xs := ownsRow_kept h (fun k hk => hb.block k (h.lt k hk).2)
variable {g bm : Nat} {S : TS}
set_option maxRecDepth 100000 in
set_option maxHeartbeats 1000000 in
theorem tunder_any (id : Int) (w : World) (h : TreeAt w g bm S) (hS : S.WF) :
    Calls Try.prog 13 #[.pointer (some ⟨g, 0, none⟩), .int .i64 id] w fun e w' => ∃ v zs, e = .returned (.tuple #[v, .int .i64 (TS.needE S id)]) ∧ own3 w' 3 w.heap.size v zs ∧ zs.Pairwise (· < ·) ∧ (∀ x, x ∈ zs ↔ S.has id = true ∧ Desc S.tab id x) ∧ zs.length ≤ 64 ∧ Below w.heap.size w w' := by
  obtain ⟨i0, hi, hz0, hz1, hz2⟩ := info_parts infoIntT
  have HN := Lib.hid (tneed_any id w h)
  have HT := Lib.hid h
  have HS := Lib.hid hS
  clear h hS
  by_cases hd : S.has id = true
  · have HE : Hid (TS.needE S id = 0) := by show _ = _; unfold TS.needE; rw [if_pos hd]
    have HD := Lib.hid hd
    clear hd
    go_enter Try.func13, Try.ntmps13
    go_wp2_with fail
    refine HN.out.mono ?_
    rintro e w' ⟨rfl, rfl⟩
    rw [HE.out]
    go_wp2_with fail
    have HV0 : Hid ((w.alloc (.cells #[.int .i64 id] 3)).ownsRow w.heap.size 3 1 (.slice (some ⟨w.heap.size, 0, none⟩) 1 1) 1 (ints [id])) := ⟨rfl, Or.inr ⟨w.heap.size, 1, _, rfl, Nat.le_refl _, heap_alloc_new w _, Nat.le_refl _, by decide, rfl, rfl⟩⟩
    have HB0 : Hid (Below w.heap.size w (w.alloc (.cells #[.int .i64 id] 3))) := (Below.refl _ w).alloc (Nat.le_refl _) _
    go_loopw [7, 8] (fun v iv wr => ∃ (i ln : Nat) (L : List Int), iv = .int .i64 i ∧ i ≤ ln ∧ Hid (L.length = ln) ∧ Hid (wr.ownsRow w.heap.size 3 1 v ln (ints L)) ∧ Hid (Bfs S id L i) ∧ Hid (Below w.heap.size w wr)) (fun _ iv _ => 65 - (intOf iv).toNat)
    case atStart => exact ⟨0, 1, [id], rfl, Nat.zero_le _, rfl, HV0, Bfs.start S id, HB0⟩
    case round =>
      clear HV0 HB0
      obtain ⟨i, ln, L, rfl, hil, HL, HV, HF, HB⟩ := hrel
      have hl64 : ln ≤ 64 := by have := HF.out.length HS.out HD.out; rw [HL.out] at this; exact this
      obtain ⟨oa, oc, rfl, hso, hoc, hom⟩ := ownsRow_seq HV.out
      have HO := Lib.hid hso
      clear hso
      have HNIL := Lib.hid (own_nil HV.out)
      by_cases hlt : i < ln
      · obtain ⟨b, off, x, hoa, hc, HX⟩ := HO.out.ints (k := i) (by rw [HL.out]; exact hlt)
        subst hoa
        have HTr := Lib.hid (HT.out.below HB.out)
        go_wp2_with fail
        refine (tkids_any x _ HTr.out HS.out).mono ?_
        rintro e w2 ⟨v2, ks, rfl, ho2, hr2, hm2, hk2, hb2⟩
        obtain ⟨kn, hkn⟩ : ∃ kn, kn = ks.length := ⟨_, rfl⟩
        have ho2' : w2.ownsRow wr.heap.size 3 1 v2 kn (ints ks) := by rw [hkn]; exact ho2
        rw [← hkn] at hk2
        have HKN := Lib.hid hkn.symm
        obtain ⟨ka, kc, rfl, hks, -, -⟩ := ownsRow_seq ho2'
        have HK := Lib.hid hks
        have HKNIL := Lib.hid (own_nil ho2')
        have HF2 := Lib.hid (HF.out.step HS.out HX.out (rises_nodup hr2) hm2)
        have HV2 := Lib.hid (ownsRow_below HV.out hb2)
        have HB2 : Hid (Below w.heap.size w w2) := HB.out.trans (hb2.mono HB.out.size)
        clear ho2 ho2' hr2 hm2 hb2 hkn hks HX HTr
        go_wp2_with (first
          | (at_builtin; refine wpList_append_seq rfl (.tmp 34) (.tmp 35) 31 rfl w.heap.size 3 i0 _ 1 8 Try.underlying31 hi hz0 hz1 hz2 rfl (by decide) (.slice (some ⟨b, off, none⟩) ln oc) ln (ints L) rfl HV2.out ka kn kc (ints ks) rfl HKNIL.out (by rw [ints_length, HKN.out]; omega) HK.out (ints_oneCell .i64 ks) (by unfold maxLen; omega) (by omega) HB2.out.size ?_
             intro v5 w5 hown5 hgrow5 hat5
             have HV5 : Hid (w5.ownsRow w.heap.size 3 1 v5 (ln + kn) (ints (L ++ ks))) := by
               have e : ints (L ++ ks) = ints L ++ ints ks := by simp [ints]
               rw [e]; exact hown5
             have HB5 : Hid (Below w.heap.size w w5) := HB2.out.grown hgrow5 HB2.out.size (fun j hj => (HV2.out.lt j hj).1)
             clear hown5 hgrow5 hat5)
          | fail)
        have HL5 : Hid ((L ++ ks).length = ln + kn) := by show _ = _; rw [List.length_append, HL.out, HKN.out]
        go_wp2
        go_roundw
        case rel => exact ⟨i + 1, ln + kn, L ++ ks, by go_num, by omega, HL5, HV5, HF2, HB5⟩
        case measure => simp [intOf]; omega
      · have HM := Lib.hid (HF.out.done (by rw [HL.out]; omega))
        have HR := Lib.hid (rises_sort HF.out.nodup)
        have HV' : Hid (own3 wr 3 w.heap.size (.slice oa ln oc) L) := by show World.ownsRow _ _ _ _ _ _ _; rw [HL.out]; exact HV.out
        go_wp2_with fail
        refine (sort_own w.heap.size (.slice oa ln oc) L _ HV'.out (by rw [HL.out]; omega)).mono ?_
        rintro e w3 ⟨rfl, ho, hg⟩
        have HV3 := Lib.hid ho
        have HB3 : Hid (Below w.heap.size w w3) := HB.out.grown hg HB.out.size (fun j hj => (HV'.out.lt j hj).1)
        clear ho hg
        go_wp2
        go_ret2
        exact ⟨_, _, by rw [HE.out]; rfl, HV3.out, HR.out, fun x => by rw [mem_sortL, HM.out]; exact ⟨fun h => ⟨HD.out, h⟩, fun h => h.2⟩, by rw [sortL_length, HL.out]; exact hl64, HB3.out⟩
  · have HE : Hid (TS.needE S id = 6) := by show _ = _; unfold TS.needE; rw [if_neg hd]
    have HNO : Hid (∀ x, x ∈ ([] : List Int) ↔ S.has id = true ∧ Desc S.tab id x) := fun x => ⟨fun h => (by cases h), fun h => absurd h.1 hd⟩
    clear hd
    go_enter Try.func13, Try.ntmps13
    go_wp2_with fail
    refine HN.out.mono ?_
    rintro e w' ⟨rfl, rfl⟩
    rw [HE.out]
    go_wp2
    go_ret2
    exact ⟨.slice none 0 0, [], by rw [HE.out]; rfl, World.ownsRow_nil _ _ _ _, List.Pairwise.nil, HNO.out, by simp, Below.refl _ _⟩

set_option maxRecDepth 100000 in
set_option maxHeartbeats 1000000 in
theorem tfree_any (id : Int) (w : World) (h : TreeAt w g bm S) (hS : S.WF) :
    Calls Try.prog 17 #[.pointer (some ⟨g, 0, none⟩), .int .i64 id] w fun e w' => ∃ v zs, e = .returned (.tuple #[v, .int .i64 (TS.needE S id)]) ∧ own3 w' 3 w.heap.size v zs ∧ zs.Pairwise (· < ·) ∧ (∀ x, x ∈ zs ↔ S.has id = true ∧ Desc S.tab id x) ∧ zs.length ≤ 64 ∧ TreeAt w' g bm (S.free zs) ∧ Only (Fp g bm) w w' := by
  have HU := Lib.hid (tunder_any id w h hS)
  have HT := Lib.hid h
  clear h hS
  go_enter Try.func17, Try.ntmps17
  go_wp2_with fail
  refine HU.out.mono ?_
  rintro e w1 ⟨v, zs, rfl, ho, hr, hm, hl, hb⟩
  have HT1 := Lib.hid (HT.out.below hb)
  have HO1 : Hid (Only (Fp g bm) w w1) := Only.of_below hb _
  have HSZ : Hid (w.heap.size ≤ w1.heap.size) := hb.size
  have HLT := Lib.hid HT.out.lt
  have HR := Lib.hid hr
  have HM := Lib.hid hm
  obtain ⟨n, hn⟩ : ∃ n, n = zs.length := ⟨_, rfl⟩
  have HV1 : Hid (w1.ownsRow w.heap.size 3 1 v n (ints zs)) := by rw [hn]; exact ho
  rw [← hn] at hl
  have HN := Lib.hid hn.symm
  obtain ⟨oa, oc, rfl, -, -, -⟩ := ownsRow_seq HV1.out
  have HT1' : Hid (TreeAt w1 g bm (S.free (zs.take 0))) := by rw [List.take_zero, free_nil]; exact HT1.out
  clear ho hr hm hb hn HU HT
  go_wp2_with fail
  go_loopw [18] (fun iv wr => ∃ k : Nat, k ≤ n ∧ iv = .int .i64 k ∧ Hid (wr.ownsRow w.heap.size 3 1 (.slice oa n oc) n (ints zs)) ∧ Hid (TreeAt wr g bm (S.free (zs.take k))) ∧ Hid (Only (Fp g bm) w wr)) (fun iv _ => n - (intOf iv).toNat)
  case atStart => exact ⟨0, Nat.zero_le _, rfl, HV1, HT1', HO1⟩
  case round =>
    clear HV1 HT1 HT1' HO1
    obtain ⟨k, hk, rfl, HV, HT, HO⟩ := hrel
    by_cases hlt : k < n
    · obtain ⟨oa', oc', e, hso, -, -⟩ := ownsRow_seq HV.out
      cases e
      obtain ⟨b, off, x, hoa, hc, HX⟩ := hso.ints (k := k) (by rw [HN.out]; exact hlt)
      subst hoa
      clear hso
      obtain ⟨⟨c0, f0⟩, c1, f1⟩ := HT.out.cells
      have HMm := Lib.hid HT.out.2.2
      go_wp2_with (first
        | (refine wpList_delI _ rfl (.tmp 25) (.tmp 26) 50 3 rfl 3 Try.underlying50 Try.underlying3 bm _ rfl HMm.out x rfl ?_
           intro w2 hm2 hg2 hs2
           have HT2 : Hid (TreeAt w2 g bm (S.free (zs.take (k + 1)))) := by
             refine ⟨(hg2.block g (HT.out.lt.1) (by simp; exact fun e => HT.out.2.1 e.symm)).trans HT.out.1, HT.out.2.1, ?_⟩
             rw [free_take HX.out, ← delA_mapA]
             exact hm2
           have HO2 : Hid (Only (Fp g bm) w w2) := HO.out.grown hg2 (fun j hj => by cases hj; exact Or.inl (Or.inr rfl))
           have HV2 : Hid (w2.ownsRow w.heap.size 3 1 (.slice (some ⟨b, off, none⟩) n oc) n (ints zs)) := ownsRow_kept HV.out (fun j hj => hg2.block j (HV.out.lt j hj).2 (by simp; intro e; have := (HV.out.lt j hj).1; have := HLT.out.2; omega))
           clear hm2 hg2 hs2)
        | fail)
      go_wp2
      go_roundw
      case rel => exact ⟨k + 1, by omega, by go_num, HV2, HT2, HO2⟩
      case measure => simp [intOf]; omega
    · have HE : Hid (zs.take k = zs) := List.take_of_length_le (by rw [HN.out]; omega)
      have HT2 : Hid (TreeAt wr g bm (S.free zs)) := by have := HT.out; rw [HE.out] at this; exact this
      have HV2 : Hid (own3 wr 3 w.heap.size (.slice oa n oc) zs) := by show World.ownsRow _ _ _ _ _ _ _; rw [HN.out]; exact HV.out
      clear HE
      go_wp2
      go_ret2
      exact ⟨_, zs, rfl, HV2.out, HR.out, HM.out, by rw [HN.out]; exact hl, HT2.out, HO.out⟩
end Go.Proofs.Ytaljeadagiifnaa
