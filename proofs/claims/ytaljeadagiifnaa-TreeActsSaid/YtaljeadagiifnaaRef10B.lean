/-
  turnrowref10.Tree: the walks of Add, Free, Merge.
-/
import Derived.Test.YtaljeadagiifnaaRef10A
set_option linter.unusedSimpArgs false
set_option linter.unusedVariables false
namespace Go.Tr
open Go.RowKit
variable {T : TypeId} {w w2 : World} {m b off cap : Nat} {F G : Nat → Prop} {zs : List Int}
theorem RefT.mono (h : RefT T w m F b off cap zs) (hs : ∀ k, F k → G k) : RefT T w m G b off cap zs := ⟨hs _ h.own, h.block, h.sl, hs _ h.fb, h.ne⟩
theorem RefP.mono (h : RefP T w m F zs) (hs : ∀ k, F k → G k) : RefP T w m G zs := by obtain ⟨b, off, cap, h⟩ := h; exact ⟨b, off, cap, h.mono hs⟩
/-- What an append leaves. -/
theorem RefT.app (h : RefT T w m F b off cap zs) {o : Obj} (hg : (w.alloc o).grownBy w2 (some b)) {v : Value} {n : Nat} {y : Int} (hn : n = zs.length + 1) (hv : OwnO w2 1 v n (ints (zs ++ [y]))) (hf : ∀ k, v.ownBlock = some k → some b = some k ∨ (w.heap.size ≤ k ∧ k < w2.heap.size)) :
    RefP T (w2.setCell ⟨m, 0, none⟩ v) m (grow F w (w2.setCell ⟨m, 0, none⟩ v)) (zs ++ [y]) ∧ Only F w (w2.setCell ⟨m, 0, none⟩ v) := by
  have hs : (w2.setCell ⟨m, 0, none⟩ v).heap.size = w2.heap.size := by simp [World.setCell]
  have hk : ∀ k, k ≠ m → (w2.setCell ⟨m, 0, none⟩ v).heap[k]? = w2.heap[k]? := fun k hk => Below.heap_setCell _ _ _ _ hk
  have hm : w2.heap[m]? = w.heap[m]? := (hg.block m (by have := h.lt.1; simp; omega) (by have := h.ne; simp; omega)).trans (Below.heap_alloc w _ _ h.lt.1)
  have ho : Only F w w2 := ((Only.refl F w).alloc _).grown hg (fun k hk => by cases hk; exact Or.inl h.fb)
  rcases hv with ⟨_, e, _⟩ | ⟨g, o', c, rfl, h1, h2, h3, h4, h5, h6⟩
  · omega
  · have hgF := hf g rfl
    have hgm : g ≠ m := hgF.elim (fun e => by cases e; exact h.ne) (fun e => by have := h.lt.1; have := e.1; omega)
    have hl : n = (zs ++ [y]).length := by simp [hn]
    refine ⟨⟨g, o', c, ⟨Or.inl h.own, ?_, ?_, ?_, hgm⟩⟩, ho.setCell (Or.inl h.own) _⟩
    · rw [← hl]; simp [World.setCell, Array.getElem?_modify, hm.trans h.block]
    · rw [← hl]
      exact OwnO.kept (Or.inr ⟨g, o', c, rfl, h1, h2, h3, h4, h5, h6⟩) (fun k hk' => by cases hk'; exact hk g hgm)
    · exact hgF.elim (fun e => by cases e; exact Or.inl h.fb) (fun e => Or.inr ⟨e.1, by rw [hs]; exact e.2⟩)
theorem addS_dead {S : TS} {p : Int} (h : S.addE p ≠ 0) : S.addS p = S ∧ S.addX p = 0 := by unfold TS.addS TS.addX; rw [if_neg h, if_neg h]; exact ⟨rfl, rfl⟩
end Go.Tr
namespace Go.Proofs.Ytaljeadagiifnaa
open Go.RowKit Go.Tr
variable {m : Nat} {F : Nat → Prop} {S : TS}

set_option maxRecDepth 100000 in
set_option maxHeartbeats 1000000 in
theorem radd_any (p : Int) (w : World) (h : RefP 44 w m F (refP S)) (hS : S.WF) (hl : S.last ≤ 900000) : Calls Try.prog 29 #[.pointer (some ⟨m, 0, none⟩), .int .i64 p] w fun e w' => e = .returned (.tuple #[.int .i64 (S.addX p), .int .i64 (S.addE p)]) ∧ RefP 44 w' m (grow F w w') (refP (S.addS p)) ∧ Only F w w' := by
  obtain ⟨i0, hi0, hz0, hz1, hz2⟩ := info_parts infoIntT10
  have HLI := Lib.hid (rlive_any p w h hS (by omega))
  have HAL := Lib.hid (rall_any w h hS (by omega))
  have HLEN := Lib.hid (all_length hS)
  have h64 := hS.size
  by_cases hd : p ≠ 0 ∧ S.has p = false
  · have HE : Hid (S.addE p = 6) := by show _ = _; unfold TS.addE; rw [if_pos hd]
    obtain ⟨e1, e2⟩ := addS_dead (S := S) (p := p) (by rw [HE.out]; decide)
    rw [e1, e2, HE.out]
    have hp := hd.1
    have HH := Lib.hid hd.2
    have hp1 : (p == 0) = false := by simpa using hp
    have hp2 : (p != 0) = true := by simpa using hp
    have HRR : Hid (RefP 44 w m F (refP S)) := h
    clear hd e1 e2 h
    go_enter Try.func29, Try.ntmps29
    go_wp2_with fail
    refine HLI.out.mono ?_
    rintro e w' ⟨rfl, rfl⟩
    rw [HH.out]
    go_wp2_with fail
    go_ret2
    exact ⟨rfl, HRR.out.mono (fun _ hk => Or.inl hk), Only.refl _ _⟩
  · have hp : p = 0 ∨ S.has p = true := by
      by_cases hp : p = 0
      · exact Or.inl hp
      · refine Or.inr ?_
        cases hh : S.has p
        · exact absurd ⟨hp, hh⟩ hd
        · rfl
    obtain ⟨lv, hlv⟩ : ∃ lv, lv = S.has p := ⟨_, rfl⟩
    rw [← hlv] at HLI hp
    have hp' : (p = 0 ∧ (p == 0) = true ∧ (p != 0) = false) ∨ (lv = true ∧ (p == 0) = false ∧ (p != 0) = true) := by
      by_cases h0 : p = 0
      · subst h0; exact Or.inl ⟨rfl, rfl, rfl⟩
      · exact Or.inr ⟨hp.resolve_left h0, by simpa using h0, by simpa using h0⟩
    by_cases hf : S.tab.length = 64
    · have HE : Hid (S.addE p = 5) := by show _ = _; unfold TS.addE; rw [if_neg hd, if_pos hf]
      obtain ⟨e1, e2⟩ := addS_dead (S := S) (p := p) (by rw [HE.out]; decide)
      rw [e1, e2, HE.out]
      have HRR : Hid (RefP 44 w m F (refP S)) := h
      have HL64 : Hid ((pick S.has (S.last.toNat + 1)).length = 64) := HLEN.out.trans hf
      clear hd e1 e2 h hlv hf h64 hp
      go_enter Try.func29, Try.ntmps29
      go_wp2_with fail
      refine HLI.out.mono ?_
      rintro e w' ⟨rfl, rfl⟩
      rcases hp' with ⟨rfl, -, -⟩ | ⟨rfl, hp1, hp2⟩
      all_goals
        go_wp2_with fail
        refine HAL.out.mono ?_
        rintro e w2 ⟨v, rfl, ho, hb⟩
        obtain ⟨a, c, rfl, -, -, -⟩ := ownsRow_seq ho
        rw [HL64.out]
        have HB := Lib.hid hb
        clear ho hb
        go_wp2_with fail
        go_ret2
        exact ⟨rfl, (HRR.out.below HB.out).mono (fun _ hk => Or.inl hk), Only.of_below HB.out _⟩
    · have HE : Hid (S.addE p = 0) := by show _ = _; unfold TS.addE; rw [if_neg hd, if_neg hf]
      have e1 : S.addS p = S.add p := by unfold TS.addS; rw [if_pos HE.out]
      have e2 : S.addX p = S.last + 1 := by unfold TS.addX; rw [if_pos HE.out]
      rw [e1, e2, HE.out, refP_add hS]
      have h0 := hS.last0
      obtain ⟨ln, hln⟩ : ∃ ln : Nat, S.last = ln := ⟨S.last.toNat, by omega⟩
      obtain ⟨tn, htn⟩ : ∃ tn : Nat, tn = (pick S.has (S.last.toNat + 1)).length := ⟨_, rfl⟩
      have htn64 : tn < 64 := by rw [htn, HLEN.out]; omega
      have ht2 : ((tn : Nat) : Int) < 64 := by omega
      obtain ⟨b, off, cap, h⟩ := h
      have HR := Lib.hid h
      have HRL : Hid ((refP S).length = ln + 1) := by show _ = _; rw [refP_length, hln]; rfl
      have hl6 : ln ≤ 900000 := by omega
      rw [hln]
      clear hd e1 e2 h hlv hf h64 hp hl h0 hln hS HLEN
      go_enter Try.func29, Try.ntmps29
      go_wp2_with fail
      refine HLI.out.mono ?_
      rintro e w' ⟨rfl, rfl⟩
      rcases hp' with ⟨-, hp1, hp2⟩ | ⟨rfl, hp1, hp2⟩
      all_goals
        go_wp2_with fail
        refine HAL.out.mono ?_
        rintro e w1 ⟨v, rfl, ho, hb⟩
        obtain ⟨a, c, rfl, -, -, -⟩ := ownsRow_seq ho
        rw [← htn]
        have HB := Lib.hid hb
        have HR1 := Lib.hid (HR.out.below hb)
        clear ho hb
        obtain ⟨c0, f0⟩ := HR1.out.head
        rw [HRL.out] at c0
        have HW1 : Hid (OwnO w1 1 (.slice (some ⟨b, off, none⟩) (ln + 1) cap) (ln + 1) (ints (refP S))) := by have := HR1.out.sl; rw [HRL.out] at this; exact this
        go_wp2_with (first
          | (at_builtin; refine wpList_appendO _ rfl (.tmp 26) (.tmp 28) 31 rfl 3 i0 _ 1 8 Try.underlying31 hi0 hz0 hz1 hz2 rfl (by decide) _ (ln + 1) (ints (refP S)) rfl (HW1.out.kept (fun k hk => Below.heap_alloc _ _ _ (HW1.out.lt k hk))) ⟨w1.heap.size, 0, none⟩ 1 1 (ints [p]) rfl rfl ?_ (ints_oneCell .i64 [p]) (by unfold maxLen; omega) (by omega) ?_)
          | fail)
        · intro j u hu
          exact news_block w1 (ints [p]) 3 j u hu
        · intro v' w2 r1 r2 r3
          have hm : w2.heap[m]? = w1.heap[m]? := (r2.block m (by have := HR1.out.lt.1; simp; omega) (by have := HR1.out.ne; simp [Value.ownBlock]; omega)).trans (Below.heap_alloc w1 _ _ HR1.out.lt.1)
          have HE2 := Lib.hid (HR1.out.app r2 (by rw [HRL.out]) (by have : ∀ y, ints (refP S ++ [y]) = ints (refP S) ++ ints [y] := fun y => by simp [ints]
                                                                    rw [this]; exact r1) (fun k hk => (r3 k hk).imp id (fun h => ⟨by have := h.1; omega, h.2⟩)))
          obtain ⟨va, vc, rfl, -, -, -⟩ := r1.seq
          have c2 : w2.cell? ⟨m, 0, none⟩ = some (.slice (some ⟨b, off, none⟩) (ln + 1) cap) := by rw [World.cell?_of_block (a := ⟨m, 0, none⟩) (w := w1) hm]; exact c0
          have f2 : w2.frozen? ⟨m, 0, none⟩ = false := by rw [World.frozen?_of_block (a := ⟨m, 0, none⟩) (w := w1) hm]; exact f0
          clear r1 r2 r3 c0 f0 hm
          go_wp2
          go_ret2
          refine ⟨by go_num, HE2.out.1.mono (fun k hk => hk.imp id (fun h => ⟨Nat.le_trans HB.out.size h.1, h.2⟩)), (Only.of_below HB.out F).trans HE2.out.2 (fun k hk => Or.inl hk)⟩

set_option maxRecDepth 100000 in
set_option maxHeartbeats 1000000 in
theorem rfree_any (id : Int) (w : World) (h : RefP 44 w m F (refP S)) (hS : S.WF) (hl : S.last ≤ 900000) (hid : S.has id = true) : Calls Try.prog 31 #[.pointer (some ⟨m, 0, none⟩), .int .i64 id] w fun e w' => ∃ a c zs, e = .returned (.slice a zs.length c) ∧ SeqAt w' a (ints zs) ∧ zs.length ≤ 900001 ∧ UnderOf S id zs ∧ RefP 44 w' m F (refP (S.free zs)) ∧ Only F w w' := by
  have HUN := Lib.hid (runder_any id w h hS (by omega) hid)
  have HUP := Lib.hid (under_pick hS hid)
  have hpl := pick_le (S.underB id) (S.last.toNat + 1)
  have h0 := hS.last0
  have HS := Lib.hid hS
  obtain ⟨ln, hln⟩ : ∃ ln : Nat, S.last = ln := ⟨S.last.toNat, by omega⟩
  obtain ⟨zs, hzs⟩ : ∃ zs, zs = pick (S.underB id) (S.last.toNat + 1) := ⟨_, rfl⟩
  rw [← hzs] at HUN HUP hpl
  obtain ⟨n, hn⟩ : ∃ n, n = zs.length := ⟨_, rfl⟩
  rw [← hn] at hpl
  have hn9 : n ≤ 900001 := by omega
  have HN := Lib.hid hn.symm
  have HLN := Lib.hid hln
  obtain ⟨b, off, cap, h⟩ := h
  have HR := Lib.hid h
  have HRL : ∀ l, Hid ((refP (S.free l)).length = ln + 1) := fun l => by show _ = _; rw [refP_length]; show S.last.toNat + 1 = _; rw [hln]; rfl
  have HID := Lib.hid hid
  clear hS h hzs hpl hn h0 hl hln hid
  go_enter Try.func31, Try.ntmps31
  go_wp2_with fail
  refine HUN.out.mono ?_
  rintro e w1 ⟨v, rfl, ho, hb⟩
  have HV1 : Hid (w1.ownsRow w.heap.size 3 1 v n (ints zs)) := by have : own3 w1 3 w.heap.size v zs := ho; unfold own3 at this; rw [HN.out] at this; exact this
  have HR1 : Hid (RefT 44 w1 m F b off cap (refP (S.free (zs.take 0)))) := by rw [List.take_zero, free_nil]; exact HR.out.below hb
  have HO1 : Hid (Only F w w1) := Only.of_below hb _
  have HBL := Lib.hid HR.out.lt
  have HFB := Lib.hid HR.out.fb
  obtain ⟨oa, oc, rfl, -, -, -⟩ := ownsRow_seq HV1.out
  clear ho hb HR HUN
  go_wp2_with fail
  go_loopw [6] (fun iv0 wr => ∃ k : Nat, k ≤ n ∧ iv0 = .int .i64 k ∧ Hid (wr.ownsRow w.heap.size 3 1 (.slice oa n oc) n (ints zs)) ∧ Hid (RefT 44 wr m F b off cap (refP (S.free (zs.take k)))) ∧ Hid (Only F w wr)) (fun iv0 _ => n - (intOf iv0).toNat)
  case atStart => exact ⟨0, Nat.zero_le _, rfl, HV1, HR1, HO1⟩
  case round =>
    clear HV1 HR1 HO1
    obtain ⟨k, hk, rfl, HV, HR, HO⟩ := hrel
    by_cases hlt : k < n
    · have hlt' : (k : Int) < (n : Int) := by omega
      obtain ⟨oa', oc', e, hso, -, -⟩ := ownsRow_seq HV.out
      cases e
      obtain ⟨lb, loff, x, rfl, hc, HX⟩ := hso.ints (k := k) (by rw [HN.out]; exact hlt)
      clear hso
      obtain ⟨c0, f0⟩ := HR.out.head
      rw [(HRL _).out] at c0
      have hxl := HS.out.pos (((HUP.out.2 x).1 (List.mem_of_getElem? HX.out)).2.live HID.out)
      rw [HLN.out] at hxl
      obtain ⟨xn, rfl⟩ : ∃ xn : Nat, x = xn := ⟨x.toNat, by omega⟩
      have hxn : xn < ln + 1 := by omega
      have HXL : Hid (xn ≤ S.last.toNat) := by show _ ≤ _; rw [HLN.out]; omega
      obtain ⟨q, hq⟩ : ∃ q, (refP (S.free (zs.take k)))[xn]? = some q := ⟨_, List.getElem?_eq_getElem (by rw [(HRL _).out]; exact hxn)⟩
      obtain ⟨c1, f1⟩ := HR.out.at hq
      obtain ⟨pl, hpl⟩ : ∃ pl, pl = ln + 1 := ⟨_, rfl⟩
      rw [← hpl] at c0 hxn
      have HRL' : ∀ l, Hid ((refP (S.free l)).length = pl) := fun l => by show _ = _; rw [hpl]; exact (HRL l).out
      have hxn' : (xn : Int) < (pl : Int) := by omega
      clear hq hxl hpl HRL
      go_wp2_with fail
      go_still_tail 9, (by kernel_rfl)
      go_wp2_with fail
      have HR2 := Lib.hid ((RefT.kept (w2 := wr.drew) HR.out rfl rfl).set (k := xn) (by rw [(HRL' _).out]; exact hxn) (-1))
      rw [← refP_free HX.out HXL.out] at HR2
      have HO2 : Hid (Only F w (wr.drew.setCell ⟨b, off + xn, none⟩ (.int .i64 (-1)))) := HO.out.drew.setCell (Or.inl HFB.out) _
      have HV2 : Hid ((wr.drew.setCell ⟨b, off + xn, none⟩ (.int .i64 (-1))).ownsRow w.heap.size 3 1 (.slice (some ⟨lb, loff, none⟩) n oc) n (ints zs)) := ownsRow_kept HV.out (fun j hj => by
        have := (HV.out.lt j hj).1
        have := HBL.out.2
        exact Below.heap_setCell wr.drew _ _ _ (by simp; omega))
      go_roundw
      case rel => exact ⟨k + 1, by omega, by go_num, HV2, HR2.out.1, HO2⟩
      case measure => simp [intOf]; omega
    · have hke : k = n := by omega
      have hlt' : ¬ ((k : Int) < (n : Int)) := by omega
      have HT : Hid (zs.take k = zs) := List.take_of_length_le (by rw [HN.out]; omega)
      rw [HT.out] at HR
      clear hke
      go_wp2_with fail
      go_ret
      refine ⟨oa, oc, zs, by rw [HN.out]; rfl, ownsRow_seq' HV.out, by rw [HN.out]; exact hn9, HUP.out, ⟨_, _, _, HR.out⟩, HO.out⟩

set_option maxRecDepth 100000 in
set_option maxHeartbeats 1000000 in
theorem rmerge_any (id : Int) (w : World) (h : RefP 44 w m F (refP S)) (hS : S.WF) (hl : S.last ≤ 900000) : Calls Try.prog 32 #[.pointer (some ⟨m, 0, none⟩), .int .i64 id] w fun e w' => e = .returned (.tuple #[.int .i64 (S.par id), .int .i64 (S.mergeE id)]) ∧ RefP 44 w' m F (refP (S.mergeS id)) ∧ Only F w w' := by
  have HLI := Lib.hid (rlive_any id w h hS (by omega))
  have HRR : Hid (RefP 44 w m F (refP S)) := h
  by_cases h1 : S.has id = true
  · obtain ⟨b, off, cap, h⟩ := h
    have h0 := hS.last0
    obtain ⟨ln, hln⟩ : ∃ ln : Nat, S.last = ln := ⟨S.last.toNat, by omega⟩
    have hpos := hS.pos h1
    obtain ⟨idn, rfl⟩ : ∃ idn : Nat, id = idn := ⟨id.toNat, by omega⟩
    obtain ⟨pl, hpl⟩ : ∃ pl, pl = ln + 1 := ⟨_, rfl⟩
    obtain ⟨c0, f0⟩ := h.head
    rw [refP_length, hln, Int.toNat_natCast, ← hpl] at c0
    have hidn : idn < pl := by omega
    have hidn' : (idn : Int) < (pl : Int) := by omega
    have hid0 : 1 ≤ idn := by omega
    have hpl9 : pl ≤ 900001 := by omega
    obtain ⟨hc, hf⟩ := h.at (refP_at S (k := idn) (by omega))
    rw [up_live h1] at hc
    have H1 := Lib.hid h1
    have HS := Lib.hid hS
    have HR := Lib.hid h
    have HL := Lib.hid hln
    by_cases h2 : S.par idn = 0
    · have HE : Hid (S.mergeE idn = 16) := by show _ = _; unfold TS.mergeE; rw [if_pos h1, if_pos h2]
      have HSS : Hid (S.mergeS idn = S) := by show _ = _; unfold TS.mergeS; rw [if_neg (fun h => h.2 h2)]
      have HP := Lib.hid h2
      rw [h2] at hc
      rw [HSS.out, HE.out, h2]
      clear h1 h2 h hS h0 hln hpl hpos
      go_enter Try.func32, Try.ntmps32
      go_wp2_with fail
      refine HLI.out.mono ?_
      rintro e w' ⟨rfl, rfl⟩
      rw [H1.out]
      go_wp2_with fail
      go_ret2
      exact ⟨rfl, HRR.out, Only.refl _ _⟩
    · have HE : Hid (S.mergeE idn = 0) := by show _ = _; unfold TS.mergeE; rw [if_pos h1, if_neg h2]
      have HSS : Hid (S.mergeS idn = S.merge idn (S.par idn)) := by show _ = _; unfold TS.mergeS; rw [if_pos ⟨h1, h2⟩]
      obtain ⟨p, hp⟩ : ∃ p, p = S.par idn := ⟨_, rfl⟩
      rw [← hp] at hc h2 HSS
      rw [HSS.out, HE.out, ← hp]
      have hp2 : (p == 0) = false := by simpa using h2
      have HMS : Hid (mergeP S idn p 1 = refP S) := mergeP_start hS (by omega) p
      have HML : ∀ k, Hid ((mergeP S idn p k).length = pl) := fun k => by show _ = _; rw [mergeP_length, hln, hpl]; rfl
      have HMA : Hid (∀ k j : Nat, j < pl → (mergeP S idn p k)[j]? = some (if j < k ∧ S.up j = idn then p else S.up j)) := fun k j hj => mergeP_at S _ _ _ (by omega)
      have HTK : Hid (∀ k : Nat, k < pl → S.up k = idn → mergeP S idn p (k + 1) = (mergeP S idn p k).set k p) := fun k hk hu => mergeP_take hu (by omega)
      have HEN : Hid ((mergeP S idn p pl).set idn (-1) = refP (S.merge idn p)) := by
        have := mergeP_end h1 p (by omega)
        rw [hln, Int.toNat_natCast, ← hpl] at this
        exact this
      have HR1 : Hid (RefT 44 w m F b off cap (mergeP S idn p 1)) := by rw [HMS.out]; exact h
      have hpl1 : 1 ≤ pl := by omega
      clear h1 h2 h hS h0 hln hpl hpos hp HRR HR HMS
      go_enter Try.func32, Try.ntmps32
      go_wp2_with fail
      refine HLI.out.mono ?_
      rintro e w' ⟨rfl, rfl⟩
      rw [H1.out]
      go_wp2_with fail
      clear c0 f0 hc hf
      go_loopw [8] (fun iv0 wr => ∃ k : Nat, 1 ≤ k ∧ k ≤ pl ∧ iv0 = .int .i64 k ∧ Hid (RefT 44 wr m F b off cap (mergeP S idn p k)) ∧ Hid (Only F w wr)) (fun iv0 _ => pl - (intOf iv0).toNat)
      case atStart => exact ⟨1, Nat.le_refl _, hpl1, rfl, HR1, Only.refl _ _⟩
      case round =>
        clear HR1
        obtain ⟨k, hk1, hk, rfl, HR, HO⟩ := hrel
        obtain ⟨c0, f0⟩ := HR.out.head
        rw [(HML _).out] at c0
        by_cases hlt : k < pl
        · have hlt' : (k : Int) < (pl : Int) := by omega
          have hat := HMA.out k k hlt
          rw [if_neg (fun e => absurd e.1 (Nat.lt_irrefl k))] at hat
          obtain ⟨hc, hf⟩ := HR.out.at hat
          by_cases hq : S.up k = idn
          · rw [hq] at hc
            have HR2 := Lib.hid (HR.out.set (k := k) (by rw [(HML _).out]; exact hlt) p)
            rw [← HTK.out k hlt hq] at HR2
            have HO2 : Hid (Only F w (wr.setCell ⟨b, off + k, none⟩ (.int .i64 p))) := HO.out.setCell (Or.inl HR.out.fb) _
            clear hat hq
            go_wp2_with fail
            go_roundw
            case rel => exact ⟨k + 1, by omega, by omega, by go_num, HR2.out.1, HO2⟩
            case measure => simp [intOf]; omega
          · have hq2 : (S.up k == (idn : Int)) = false := by simpa using hq
            obtain ⟨q, hqq⟩ : ∃ q, q = S.up k := ⟨_, rfl⟩
            have HR2 : Hid (RefT 44 wr m F b off cap (mergeP S idn p (k + 1))) := by rw [mergeP_skip hq]; exact HR.out
            rw [← hqq] at hc hq2
            clear hat hq hqq
            go_wp2_with fail
            go_roundw
            case rel => exact ⟨k + 1, by omega, by omega, by go_num, HR2, HO⟩
            case measure => simp [intOf]; omega
        · have hke : k = pl := by omega
          subst hke
          have hlt' : ¬ ((k : Int) < (k : Int)) := by omega
          obtain ⟨hc, hf⟩ := HR.out.at (HMA.out k idn hidn)
          have HR2 := Lib.hid (HR.out.set (k := idn) (by rw [(HML _).out]; exact hidn) (-1))
          rw [HEN.out] at HR2
          have HO2 : Hid (Only F w (wr.setCell ⟨b, off + idn, none⟩ (.int .i64 (-1)))) := HO.out.setCell (Or.inl HR.out.fb) _
          go_wp2_with fail
          go_ret2
          exact ⟨rfl, ⟨_, _, _, HR2.out.1⟩, HO2.out⟩
  · have HE : Hid (S.mergeE id = 6) := by show _ = _; unfold TS.mergeE; rw [if_neg h1]
    have HSS : Hid (S.mergeS id = S) := by show _ = _; unfold TS.mergeS; rw [if_neg (fun h => h1 h.1)]
    have HP : Hid (S.par id = 0) := par_dead (by simpa using h1)
    have H1 : Hid (S.has id = false) := by simpa [Hid] using h1
    rw [HSS.out, HE.out, HP.out]
    clear h1 h
    go_enter Try.func32, Try.ntmps32
    go_wp2_with fail
    refine HLI.out.mono ?_
    rintro e w' ⟨rfl, rfl⟩
    rw [H1.out]
    go_wp2
    go_ret2
    exact ⟨rfl, HRR.out, Only.refl _ _⟩
end Go.Proofs.Ytaljeadagiifnaa
