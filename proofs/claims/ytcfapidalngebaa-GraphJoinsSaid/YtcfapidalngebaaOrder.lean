/-
  graph.Order: its walk.
-/
import Derived.Test.YtcfapidalngebaaOrderParts
import Derived.Test.YtcfapidalngebaaRegion
set_option linter.unusedSimpArgs false
set_option linter.unusedVariables false
namespace Go.Proofs.Ytcfapidalngebaa
open Go.RowKit Go.Tr

theorem zeroSlice (w : World) : (zeroValue 22).run Try.prog w = .ok nils w := by kernel_rfl
theorem zeroInt (w : World) : (zeroValue 3).run Try.prog w = .ok (.int .i64 0) w := by kernel_rfl
theorem infoInt : (Try.prog.info? 3).map (fun i => (i.zero, i.size, i.bytes)) = some (some (.int .i64 0), 1, 8) := by kernel_rfl
theorem infoInts : (Try.prog.info? 22).map (fun i => (i.zero, i.size, i.bytes)) = some (some nils, 1, 24) := by kernel_rfl

set_option maxRecDepth 100000 in
set_option maxHeartbeats 400000 in
theorem order_any (ra ea : Option Addr) (rn rc en ec : Nat) (roots : List Int) (E : Edges) (w : World) (hr : SeqAt w ra (ints roots)) (he : SeqAt w ea (ecells E)) (hrn : roots.length = rn) (hen : E.length = en) (hsz : rn + en ≤ 1000000) :
    Calls Try.prog 16 #[.slice ra rn rc, .slice ea en ec] w fun e w' => ∃ v, e = .returned v ∧ own3 w' 3 w.heap.size v (orderL roots E) ∧ Below w.heap.size w w' := by
  have HR := Lib.hid hr; clear hr
  have HE := Lib.hid he; clear he
  have HRN := Lib.hid hrn; clear hrn
  have HEN := Lib.hid hen; clear hen
  have hmm := @run_makeMap Try.prog
  obtain ⟨i0, hi, hz0, hz1, hz2⟩ := info_parts infoInt
  obtain ⟨j0, ji, jz0, jz1, jz2⟩ := info_parts infoInts
  go_enter Try.func16, Try.ntmps16
  go_wp2
  go_loopw [17] (fun i wr => ∃ (k : Nat) (r : Grp), k ≤ en ∧ i = .int .i64 k ∧ Hid (Groups wr 3 w.heap.size r ∧ mapA (·.2) r = grp (E.take k)) ∧ Below w.heap.size w wr ∧ w.heap.size + 1 ≤ wr.heap.size)
    (fun i _ => en - (intOf i).toNat)
  case atStart => exact ⟨0, [], Nat.zero_le _, rfl, ⟨Groups.made _ _, rfl⟩, (Below.refl _ _).alloc (Nat.le_refl _) _, by simp⟩
  case round =>
    obtain ⟨k, r, hk, rfl, HG, hbl, hws⟩ := hrel
    by_cases hlt : k < en
    · obtain ⟨b, off, x, y, rfl, hc1, hc2, HK⟩ := (HE.out.below hbl (Nat.le_refl _)).edge (k := k) (by rw [HEN.out]; exact hlt)
      go_wp2
      refine wp_region_held_drew (S := fun W => W.cell? ⟨wr.heap.size, 0, none⟩ = some (.int .i64 x) ∧ W.cell? ⟨wr.heap.size, 1, none⟩ = some (.int .i64 y)) (by kernel_rfl) ?_ (fun hH => ?_)
      · exact ⟨by simp, by simp⟩
      refine takeH 0 (v := ?_) rfl (by kernel_rfl) (by kernel_rfl) (by kernel_rfl) (fun _ _ _ h => h) (by rfl) ?_ hH ?_
      rotate_left
      · intro W hW
        obtain ⟨hW1, hW2⟩ := hW
        go_simp
        try with_reducible rfl
      simp only [Act.put, List.setIfInBounds_toArray, List.set_cons_zero, List.set_cons_succ]
      refine takeH 1 (v := ?_) rfl (by kernel_rfl) (by kernel_rfl) (by kernel_rfl) (fun _ _ _ h => h) (by rfl) ?_ hH ?_
      rotate_left
      · intro W hW
        obtain ⟨hW1, hW2⟩ := hW
        go_simp
        try with_reducible rfl
      simp only [Act.put, List.setIfInBounds_toArray, List.set_cons_zero, List.set_cons_succ]
      refine takeH 2 (v := ?_) rfl (by kernel_rfl) (by kernel_rfl) (by kernel_rfl) (fun _ _ _ h => h) (by rfl) ?_ hH ?_
      rotate_left
      · intro W hW
        obtain ⟨hW1, hW2⟩ := hW
        go_simp
        try with_reducible rfl
      simp only [Act.put, List.setIfInBounds_toArray, List.set_cons_zero, List.set_cons_succ]
      refine takeH 3 (v := ?_) rfl (by kernel_rfl) (by kernel_rfl) (by kernel_rfl) (fun _ _ _ h => h) (by rfl) ?_ hH ?_
      rotate_left
      · intro W hW
        obtain ⟨hW1, hW2⟩ := hW
        go_simp
        try with_reducible rfl
      simp only [Act.put, List.setIfInBounds_toArray, List.set_cons_zero, List.set_cons_succ]
      refine takeH 4 (v := ?_) rfl (by kernel_rfl) (by kernel_rfl) (by kernel_rfl) (fun _ _ _ h => h) (by rfl) ?_ hH ?_
      rotate_left
      · intro W hW
        obtain ⟨hW1, hW2⟩ := hW
        go_simp
        try with_reducible rfl
      simp only [Act.put, List.setIfInBounds_toArray, List.set_cons_zero, List.set_cons_succ]
      refine takeH 5 (v := ?_) rfl (by kernel_rfl) (by kernel_rfl) (by kernel_rfl) (fun _ _ _ h => h) (by rfl) ?_ hH ?_
      rotate_left
      · intro W hW
        obtain ⟨hW1, hW2⟩ := hW
        go_simp
        try with_reducible rfl
      simp only [Act.put, List.setIfInBounds_toArray, List.set_cons_zero, List.set_cons_succ]
      refine takeH 7 (v := ?_) rfl (by kernel_rfl) (by kernel_rfl) (by kernel_rfl) (fun _ _ _ h => h) (by rfl) ?_ hH ?_
      rotate_left
      · intro W hW
        obtain ⟨hW1, hW2⟩ := hW
        go_simp
        try with_reducible rfl
      simp only [Act.put, List.setIfInBounds_toArray, List.set_cons_zero, List.set_cons_succ]
      refine takeH 8 (v := ?_) rfl (by kernel_rfl) (by kernel_rfl) (by kernel_rfl) (fun _ _ _ h => h) (by rfl) ?_ hH ?_
      rotate_left
      · intro W hW
        obtain ⟨hW1, hW2⟩ := hW
        go_simp
        try with_reducible rfl
      simp only [Act.put, List.setIfInBounds_toArray, List.set_cons_zero, List.set_cons_succ]
      obtain ⟨v, hv, hov, hvb, -⟩ := HG.out.1.look x
      have hGm := HG.out.1.1
      refine wpAnyH_ready (rs := [6, 9]) (by kernel_rfl) (by simp) ?_
      refine readyH rfl (fun K hK => ?_) (readyH rfl (fun K hK => ?_) AllReadyH.nil)
      rotate_left
      -- the new one-cell slice first
      rw [if_pos (by rfl)]
      go_simp
      refine hK.out _ _ (by simp) (fun hH => ?_)
      clear hK K
      refine wpAnyH_ready (rs := [6]) (by kernel_rfl) (by simp) (readyH rfl (fun K hK => ?_) AllReadyH.nil)
      rw [if_pos (by rfl)]
      refine wpO_lookI (.tmp 24) (.tmp 26) 62 rfl 3 22 Try.underlying62 Try.underlying3 nils zeroSlice w.heap.size (mapA (·.1) r) rfl ?h3 x rfl ?_
      case h3 => exact (hGm.kept (Below.heap_alloc wr _ _ hGm.lt)).kept (Below.heap_alloc _ _ _ (by simp; exact Nat.lt_succ_of_lt hGm.lt))
      rw [hv]
      refine hK.out _ _ (by simp) (fun hH => ?_)
      clear hK K
      simp only [Act.put, List.setIfInBounds_toArray, List.set_cons_zero, List.set_cons_succ]
      rotate_left
      -- the look-up first
      rw [if_pos (by rfl)]
      refine wpO_lookI (.tmp 24) (.tmp 26) 62 rfl 3 22 Try.underlying62 Try.underlying3 nils zeroSlice w.heap.size (mapA (·.1) r) rfl ?h3b x rfl ?_
      case h3b => exact hGm.kept (Below.heap_alloc wr _ _ hGm.lt)
      rw [hv]
      refine hK.out _ _ hH (fun hH => ?_)
      clear hK K
      refine wpAnyH_ready (rs := [9]) (by kernel_rfl) (by simp) (readyH rfl (fun K hK => ?_) AllReadyH.nil)
      rw [if_pos (by rfl)]
      simp only [Act.put, List.setIfInBounds_toArray, List.set_cons_zero, List.set_cons_succ]
      go_simp
      refine hK.out _ _ (by simp) (fun hH => ?_)
      clear hK K
      all_goals
        refine wpAnyH_ready (rs := [10]) (by kernel_rfl) (by simp) (readyH rfl (fun K hK => ?_) AllReadyH.nil)
        rw [if_pos (by rfl)]
        refine wp_append_lies _ (.tmp 27) (.tmp 30) 22 rfl (w.heap.size + 1) 3 i0 (.int .i64 0) 1 8 Try.underlying22 hi hz0 hz1 hz2 rfl (by decide) v _ _ rfl ((hov.alloc _).alloc _) ⟨wr.heap.size + 1, 0, none⟩ 1 1 [.int .i64 y] rfl rfl ?hc (ints_oneCell .i64 [y]) (by decide) ?hl ?hb ?hbs _ rfl ?_
        case hc => exact news_one _ _ (by simp)
        case hl => have := look_length HG.out.2 x; unfold maxLen; omega
        case hb => have := look_length HG.out.2 x; omega
        case hbs => simp; omega
        intro gg cap w1 hown1 hgrow1 hat1 hlt1
        have hvlt := fun j hj => (hov.lt j hj).2
        refine hK.out _ _ ⟨hgrow1.cell (by simp) (fun e => Nat.lt_irrefl _ (hvlt _ e.symm)), hgrow1.cell (by simp) (fun e => Nat.lt_irrefl _ (hvlt _ e.symm))⟩ (fun hH => ?_)
        clear hK K
        simp only [Act.put, List.setIfInBounds_toArray, List.set_cons_zero, List.set_cons_succ]
        refine wpAnyH_ready (rs := [11]) (by kernel_rfl) (by simp) (readyH rfl (fun K hK => ?_) AllReadyH.nil)
        rw [if_pos (by rfl)]
        have hall := grown_two wr (.cells #[.int .i64 x, .int .i64 y] 29) (.cells #[.int .i64 y] 3) v.ownBlock
        refine wpO_putI (.tmp 21) (.tmp 23) (.tmp 31) 62 rfl 3 22 Try.underlying62 Try.underlying3 w.heap.size (mapA (·.1) r) rfl (hGm.kept ((hall.trans hgrow1).block _ hGm.lt (Ne.symm hvb))) x rfl (.slice (some ⟨gg, 0, none⟩) (((lookA (mapA (·.2) r) x).getD []).length + 1) cap) rfl ?_
        intro w2 hm2 hg2 hs2
        have hb : w.heap.size < wr.heap.size := hGm.lt
        have R := ord_round HG.out HK.out hbl hws hv hall hgrow1 (by simpa [own3, ints, iv] using hown1) (by rcases hat1 with h | h; exact Or.inl h; exact Or.inr ⟨gg, rfl, by have h' := h; simp at h'; omega⟩) hm2 hg2
        refine hK.out _ _ ⟨hg2.cell hH.1 (by simp; omega), hg2.cell hH.2 (by simp; omega)⟩ (fun hH => ?_)
        clear hK K
        refine wpAnyH_done (by kernel_rfl) ?_ _
        have R1 := Lib.hid R.1
        have R2 := Lib.hid R.2.1
        have R3 := R.2.2
        clear R hH hm2 hg2 hgrow1 hown1 hat1 hall
        go_wp2
        go_roundw
        case rel => exact ⟨k + 1, _, by omega, by go_num, R1, R2.out, R3⟩
        case measure => simp [intOf]; omega
    · go_wp2
      have HG' : Hid (Groups wr 3 w.heap.size r ∧ mapA (·.2) r = grp E) := by
        have := HG.out; rw [List.take_of_length_le (by rw [HEN.out]; omega)] at this; exact this
      have HR' := Lib.hid (HR.out.below hbl (Nat.le_refl _))
      have hB0 : w.heap.size < wr.heap.size := HG.out.1.1.lt
      obtain ⟨wo, rfl⟩ : ∃ wo : World, wo = wr := ⟨_, rfl⟩
      obtain ⟨lf, hlf⟩ : ∃ lf, lf = mapA (fun p : Value × List Int => p.1) r := ⟨_, rfl⟩
      have HLF := Lib.hid hlf; clear hlf
      go_loopw [9, 10, 11] (fun vl vn i wr => ∃ (n m : Nat) (an : Option Addr) (capn : Nat), i = .int .i64 n ∧ vn = .slice an (m + 1) capn ∧ n ≤ m + 1 ∧ m ≤ rn + en ∧ Hid (OrdHead wo wr 3 22 lf (.slice ra rn rc) roots E n m vl an capn))
        (fun _ _ i _ => rn + en + 2 - (intOf i).toNat)
      case atStart =>
        obtain ⟨m, an, capn, h1, h2⟩ := ordHead_mk (roots := roots) (E := E) (n := 0) (Nat.zero_le _) (ord_start wo 3 22 lf (.slice ra rn rc))
        exact ⟨0, m, an, capn, rfl, h1, h2.out.2.1, by have := h2.out.2.2.1; rw [HRN.out, HEN.out] at this; exact this, h2⟩
      case round =>
        obtain ⟨n, m, an, capn, rfl, rfl, hn1, hmle, HI⟩ := hrel
        by_cases hlt : n < m + 1
        · obtain ⟨a, len, cap, hx1, hx2, hx3, hlen⟩ := ord_list (rc := rc) HR'.out HRN.out HG'.out.1 HG'.out.2 (n := n) (by rw [← HI.out.1]; exact hlt) (by rw [HEN.out]; exact hsz)
          rw [← HLF.out] at hx1
          have HX := Lib.hid hx1; clear hx1
          have HS := Lib.hid hx2; clear hx2
          have HL := Lib.hid hx3; clear hx3
          obtain ⟨b1, o1, rfl, hc1⟩ := HI.out.2.2.2.2 (by simp)
          have hc := hc1 n (by simp; rw [← HI.out.1]; omega)
          rw [List.getD_eq_getElem?_getD, HX.out] at hc
          simp only [Option.getD_some] at hc
          clear hc1
          have hdt : decide ((n : Int) < (m : Int) + 1) = true := by simp; omega
          go_wp2
          go_step3
          go_wp2
          go_step3
          go_wp2
          have HI0 : Hid (OrdInv wo wr 3 22 lf (.slice ra rn rc) (addAll (stO roots E n) ((nextO roots E n).take 0)) u9 (.slice (some ⟨b1, o1, none⟩) (m + 1) capn)) := HI.out.2.2.2.1
          go_loopw [9, 10, 47] (fun vl vn i wr => ∃ j : Nat, j ≤ len ∧ i = .int .i64 j ∧ Hid (OrdInv wo wr 3 22 lf (.slice ra rn rc) (addAll (stO roots E n) ((nextO roots E n).take j)) vl vn))
            (fun _ _ i _ => len - (intOf i).toNat)
          case atStart => exact ⟨0, Nat.zero_le _, rfl, HI0⟩
          case round =>
            obtain ⟨j, hj, rfl, HJ⟩ := hrel
            by_cases hjl : j < len
            · obtain ⟨b2, o2, x, rfl, hcx, HXJ⟩ := (HS.out.below HJ.out.2.2.2.1 (Nat.le_refl _)).ints (k := j) (by rw [HL.out]; exact hjl)
              obtain ⟨L, hL⟩ : ∃ L, L = addAll (stO roots E n) ((nextO roots E n).take j) := ⟨_, rfl⟩
              rw [← hL] at HJ
              have HLE := Lib.hid hL; clear hL
              have hmap := HJ.out.2.2.1
              have hsl := seen_look L x
              by_cases hh : hasL L x = true
              · rw [hh] at hsl
                have HH := Lib.hid hh; clear hh
                have HSL := Lib.hid hsl; clear hsl
                go_wp2_with (first | (at_lookup; refine wpList_lookI _ rfl _ _ 63 rfl 3 3 Try.underlying63 Try.underlying3 (.int .i64 0) zeroInt wo.heap.size _ rfl hmap x rfl ?_; rw [HSL.out]))
                go_roundw
                case rel =>
                  have HN : Hid (OrdInv wo wr 3 22 lf (.slice ra rn rc) (addAll (stO roots E n) ((nextO roots E n).take (j + 1))) u9 u10) := by
                    have := HJ.out; rw [HLE.out] at this; rw [part_old HXJ.out (by rw [← HLE.out]; exact HH.out)]; exact this
                  exact ⟨j + 1, by omega, by go_num, HN⟩
                case measure => simp [intOf]; omega
              · have hh : hasL L x = false := by simpa using hh
                rw [hh] at hsl
                have HH := Lib.hid hh; clear hh
                have HSL := Lib.hid hsl; clear hsl
                have hLl : L.length ≤ 1000000 := by
                  have h1 := part_length roots E n j
                  have h2 := stO_length roots E (n + 1)
                  rw [HRN.out, HEN.out] at h2
                  rw [HLE.out]; omega
                obtain ⟨av, lv, cv, hvs⟩ := look_slice HG'.out.1 x
                rw [← HLF.out] at hvs
                have HV := Lib.hid hvs; clear hvs
                have hmf : MapI wo w.heap.size lf := by rw [HLF.out]; exact HG'.out.1.1
                go_wp2_with (first
                  | (at_lookup; refine wpList_lookI _ rfl (.tmp 51) (.tmp 52) 63 rfl 3 3 Try.underlying63 Try.underlying3 (.int .i64 0) zeroInt wo.heap.size _ rfl hmap x rfl ?_; rw [HSL.out])
                  | (at_mapUpdate; refine wpList_putI _ rfl _ _ _ 63 rfl 3 3 Try.underlying63 Try.underlying3 wo.heap.size _ rfl hmap x rfl (.int .i64 1) rfl ?_; intro w1 hm1 hg1 hs1; clear hs1)
                  | (at_builtin; refine wpList_append_own_at _ rfl (.tmp 57) (.tmp 59) 22 rfl (wo.heap.size + 1) 3 i0 (.int .i64 0) 1 8 Try.underlying22 hi hz0 hz1 hz2 rfl (by decide) _ _ _ rfl ((ord_mid1 HJ.out hg1).1.alloc _) ⟨w1.heap.size, 0, none⟩ 1 1 [.int .i64 x] rfl rfl (cell_one_new _ _ _) (ints_oneCell .i64 [x]) (by unfold maxLen; omega) (by omega) (by have := (ord_mid1 HJ.out hg1).2; simp; omega) ?_; intro vl' w2 ho2 hg2 hn2 hl2)
                  | (at_lookup; refine wpList_lookI _ rfl (.tmp 62) (.tmp 63) 62 rfl 3 22 Try.underlying62 Try.underlying3 nils zeroSlice w.heap.size lf rfl (hmf.kept ((ord_mid HJ.out hg1 hg2).2.1.block _ hB0)) x rfl ?_; rw [HV.out])
                  | (at_builtin; refine wpList_append_own_at _ rfl (.tmp 61) (.tmp 65) 64 rfl (wo.heap.size + 1) 22 j0 nils 1 24 Try.underlying64 ji jz0 jz1 jz2 rfl (by decide) _ _ _ rfl ((ord_mid HJ.out hg1 hg2).1.alloc _) ⟨w2.heap.size, 0, none⟩ 1 1 [.slice av lv cv] rfl rfl (cell_one_new _ _ _) (by intro u hu; simp at hu; subst hu; rfl) (by unfold maxLen; omega) (by omega) (by have := (ord_mid1 HJ.out hg1).2; have := (ord_mid HJ.out hg1 hg2).2.2.1; simp; omega) ?_; intro vn' w3 ho3 hg3 hn3 hl3))
                have HN : Hid (OrdInv wo w3 3 22 lf (.slice ra rn rc) (addAll (stO roots E n) ((nextO roots E n).take (j + 1))) vl' vn') := by
                  rw [part_new HXJ.out (by rw [← HLE.out]; exact HH.out), ← HLE.out]
                  exact ord_visit HJ.out HH.out hm1 hg1 ho2 hg2 hl2 (by rw [HV.out]; exact ho3) hg3 hl3
                clear hm1 hg1 ho2 hg2 hl2 ho3 hg3 hl3 hn2 hn3 hmf hmap
                go_roundw
                case rel =>
                  exact ⟨j + 1, by omega, by go_num, HN⟩
                case measure => simp [intOf]; omega
            · have HF : Hid (n + 1 ≤ (stO roots E (n + 1)).length + 1 ∧ OrdInv wo wr 3 22 lf (.slice ra rn rc) (stO roots E (n + 1)) u9 u10) := by
                have h1 := HJ.out
                rw [List.take_of_length_le (by rw [HL.out]; omega), ← stO_succ] at h1
                refine ⟨?_, h1⟩
                obtain ⟨q, h2⟩ := stO_prefix roots E n
                have h3 := HI.out.1
                rw [h2, List.length_append, ← h3]; omega
              obtain ⟨m', an', capn', hvn, HO⟩ := ordHead_mk HF.out.1 HF.out.2
              have HVN := Lib.hid hvn; clear hvn
              have hb1 := HO.out.2.1
              have hb2 : m' ≤ rn + en := by have := HO.out.2.2.1; rw [HRN.out, HEN.out] at this; exact this
              go_wp2
              rw [Exit.noGoto_normal]
              go_wp2
              go_roundw
              case rel => exact ⟨n + 1, m', an', capn', by go_num, HVN.out, hb1, hb2, HO⟩
              case measure => simp [intOf]; omega
        · have HQ : Hid (own3 wr 3 w.heap.size u9 (orderL roots E) ∧ Below w.heap.size w wr) := by
            obtain ⟨h1, h2, h3, h4, h5⟩ := HI.out
            have h6 : stO roots E n = orderL roots E := stO_order roots E (by omega) (by rw [HRN.out, HEN.out]; omega)
            rw [h6] at h4
            exact ⟨ownsRow_mono h4.1 (by omega), hbl.trans (h4.2.2.2.1.mono (by omega))⟩
          go_wp2
          go_ret
          exact ⟨_, rfl, HQ.out.1, HQ.out.2⟩

end Go.Proofs.Ytcfapidalngebaa
