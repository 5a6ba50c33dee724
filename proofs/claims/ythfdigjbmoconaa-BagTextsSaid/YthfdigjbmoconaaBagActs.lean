/-
  turnrowlaw08.BagActs: the walk.
-/
import Derived.Test.YthfdigjbmoconaaBag10
import Derived.Test.YthfdigjbmoconaaNil08
import Derived.Test.YthfdigjbmoconaaBag2
import Derived.Test.YthfdigjbmoconaaGreat08
import Derived.Test.YthfdigjbmoconaaRef08B
import Derived.Test.YthfdigjbmoconaaRef08C
import Derived.Deep.LoopGhost
import Derived.Deep.DeepCutAuto
import Derived.Deep.CutBlock
set_option linter.unusedSimpArgs false
set_option linter.unusedVariables false
namespace Go.Tr
theorem cells_of_block {w : World} {g : Nat} {cs : Array Value} {T : TypeId} (h : w.heap[g]? = some (.cells cs T (0, 0))) (o : Nat) : w.cell? ⟨g, o, none⟩ = cs[o]? ∧ w.frozen? ⟨g, o, none⟩ = false :=
  ⟨by simp [World.cell?, h], by simp [World.frozen?, h]⟩
end Go.Tr
namespace Go.Proofs.Ythfdigjbmoconaa
open Go.RowKit Go.Tr

variable {w0 w : World} {l : List (Nat × List Int)} {g m : Nat} {zb zm : List Int}
theorem firstL (x : Int) (w : World) (h : BL w0 w [(g, zb)] m zm) (hl : zb.length ≤ 5000) : Calls Try.prog 12 #[.pointer (some ⟨g, 0, none⟩), .int .i64 x] w fun e w' => e = .returned (.tuple #[.int .i64 (zb[posL zb x]?.getD 0), .bool (decide (posL zb x < zb.length))]) ∧ BL w0 w' [(g, zb)] m zm := by
  have h' := h
  obtain ⟨Y, ⟨Fs, h1, rfl⟩, h2⟩ := h
  obtain ⟨v, hb, _⟩ := h1.1 0 _ rfl
  exact (bfirst_any x w hb (by show zb.length ≤ _; omega)).mono fun e w' ⟨e1, e2⟩ => ⟨e1, h'.read (e2.below _)⟩
theorem mfirstL (x : Int) (w : World) (h : BL w0 w l m zm) (hl : zm.length ≤ 900000) : Calls Try.prog 31 #[.pointer (some ⟨m, 0, none⟩), .int .i64 x] w fun e w' => MFirst zm x e ∧ w = w' := by
  obtain ⟨Y, h1, h2⟩ := h
  exact mfirst_any x w h2 hl
theorem BL.list (h : BL w0 w l m zm) : ∃ a c, w.cell? ⟨m, 0, none⟩ = some (.slice a zm.length c) := by
  obtain ⟨Y, h1, v, h2⟩ := h
  obtain ⟨a, c, rfl, -, -, -⟩ := h2.sl.seq
  exact ⟨a, c, h2.head.1⟩
theorem BL.mlt (h : BL w0 w l m zm) : m < w.heap.size := by
  obtain ⟨Y, h1, v, h2⟩ := h
  exact h2.lt
theorem mallL (w : World) (h : BL w0 w l m zm) (hl : zm.length ≤ 900000) : Calls Try.prog 32 #[.pointer (some ⟨m, 0, none⟩)] w fun e w' => ∃ v, e = .returned v ∧ own3 w' 3 w.heap.size v (setL zm) ∧ Below w.heap.size w w' := by
  obtain ⟨Y, h1, h2⟩ := h
  exact mall_any w h2 hl
theorem mhasL (x : Int) (w : World) (h : BL w0 w l m zm) (hl : zm.length ≤ 1000000) : Calls Try.prog 33 #[.pointer (some ⟨m, 0, none⟩), .int .i64 x] w fun e w' => e = .returned (.bool (hasL zm x)) ∧ w = w' := by
  obtain ⟨Y, h1, h2⟩ := h
  exact mhas_any x w h2 hl

set_option maxRecDepth 100000 in
set_option maxHeartbeats 4000000 in
theorem bagacts_small (a : Option Addr) (n c : Nat) (zs : List Int) (a1 : Option Addr) (n1 c1 : Nat) (L : List AV) (x : Int) (w : World) (h : SeqAt w a (ints zs)) (hl : zs.length = n) (hn : n ≤ 50)
    (h1 : SeqAt w a1 (acells L)) (hl1 : L.length = n1) (hm1 : n1 ≤ 9223372036854775807) (hA : ∀ A ∈ L, A.ok w) (hg2 : greatA L = false) :
    Calls Try.prog 8 #[.slice a n c, .slice a1 n1 c1, .int .i64 x] w fun e w' => e = .returned (.bool true) ∧ Below w.heap.size w w' := by
  have HF := Lib.hid h; clear h
  have HFL := Lib.hid hl; clear hl
  have H := Lib.hid h1; clear h1
  have HL := Lib.hid hl1; clear hl1
  have HAN : Hid (∀ A ∈ L, A.n ≤ 9223372036854775807) := fun A hm => by have := (hA A hm).2.2.2; unfold maxLen at this; omega
  have HA := Lib.hid hA
  have hn50 : n1 ≤ 50 ∧ ∀ A ∈ L, A.n ≤ 50 := by
    unfold greatA at hg2
    rw [HL.out] at hg2
    simp at hg2
    exact ⟨hg2.1, fun A hA => by have := hg2.2 A hA; omega⟩
  obtain ⟨hn5, hA5⟩ := hn50
  have HG := Lib.hid hg2
  have HA5 := Lib.hid hA5
  clear hg2 hA5 hA
  go_enter Try.func8, Try.ntmps8
  go_wp2_with fail
  refine (bnil_join none _).mono ?_
  rintro e w' ⟨rfl, rfl⟩
  go_wp2_with fail
  refine (bnil_less none _).mono ?_
  rintro e w' ⟨rfl, rfl⟩
  go_wp2_with fail
  refine (bnil_first _ _).mono ?_
  rintro e w' ⟨rfl, rfl⟩
  go_wp2_with fail
  refine (alive08_any _).mono ?_
  rintro e w1 ⟨rfl, hb⟩
  have HB := Lib.hid hb; clear hb
  go_wp2_with fail
  refine (bnil_put _ _).mono ?_
  rintro e w' ⟨rfl, rfl⟩
  go_wp2_with fail
  refine (bnil_del _ _).mono ?_
  rintro e w' ⟨rfl, rfl⟩
  go_wp2_with fail
  refine (bnil_has _ _).mono ?_
  rintro e w' ⟨rfl, rfl⟩
  go_wp2_with fail
  refine (bnil_len _).mono ?_
  rintro e w' ⟨rfl, rfl⟩
  go_wp2_with fail
  refine (all_nil _).mono ?_
  rintro e w2 ⟨rfl, hb⟩
  have HB2 : Hid (Below w.heap.size w w2) := HB.out.trans (hb.mono HB.out.size)
  clear HB hb
  go_wp2_with fail
  refine (great08_any a1 n1 c1 L _ (H.out.below HB2.out (Nat.le_refl _)) HL.out hm1 HAN.out).mono ?_
  rintro e w3 ⟨rfl, hb⟩
  rw [HG.out]
  have HB3 : Hid (Below w.heap.size w w3) := HB2.out.trans (hb.mono HB2.out.size)
  clear HB2 hb
  go_wp2_with fail
  refine (newB (w0 := w) a n c zs _ (HF.out.below HB3.out (Nat.le_refl _)) HFL.out (by omega) (Bags.none HB3.out)).mono ?_
  rintro e w4 ⟨g, rfl, hB, hb⟩
  have HM0 := Lib.hid (BL.start hB (by simp))
  clear hB hb HB3
  go_wp2_with fail
  generalize w4.heap.size = m at *
  go_loopw [80] (fun i wr => ∃ k : Nat, k ≤ n ∧ i = .int .i64 k ∧ Hid (BL w wr [(g, setL zs)] m (addsL [] (zs.take k)))) (fun i _ => n - (intOf i).toNat)
  case atStart => exact ⟨0, Nat.zero_le _, rfl, HM0⟩
  case round =>
    clear HM0
    obtain ⟨k, hk, rfl, HM⟩ := hrel
    by_cases hlt : k < n
    · obtain ⟨b, off, y, rfl, hc, HX⟩ := (HF.out.below HM.out.below (Nat.le_refl _)).ints (k := k) (by rw [HFL.out]; exact hlt)
      have HTK := Lib.hid (take_snoc HX.out)
      have hsz := addsL_length (zs.take k) []
      have hsz2 : (zs.take k).length ≤ k := List.length_take_le _ _
      simp only [List.length_nil] at hsz
      clear HX
      go_wp2_with fail
      refine (mputL y _ HM.out (by simp) (by omega)).mono ?_
      rintro e w5 ⟨rfl, hM⟩
      have HM5 : Hid (BL w w5 [(g, setL zs)] m (addsL [] (zs.take (k + 1)))) := by rw [HTK.out, addsL_snoc]; exact hM
      clear hM HM hsz hsz2
      go_wp2
      go_roundw
      case rel => exact ⟨k + 1, by omega, by go_num, HM5⟩
      case measure => simp [intOf]; omega
    · have HM1 : Hid (BL w wr [(g, setL zs)] m (addsL [] zs)) := by
        have := HM.out
        rw [List.take_of_length_le (by rw [HFL.out]; omega)] at this
        exact this
      have HAG : Hid (AgB (setL zs) (addsL [] zs) (50 + 50 * 0)) := (AgB.start zs).mono (by rw [HFL.out]; omega)
      clear HM
      have hge : ¬ k < n := hlt
      go_wp2_with fail
      go_loopg [90] n1 (fun gk i wr => ∃ (k : Nat) (zb zm : List Int), gk + k = n1 ∧ i = .int .i64 k ∧ Hid (AgB zb zm (50 + 50 * k)) ∧ Hid (BL w wr [(g, zb)] m zm))
      case atStart => exact ⟨0, _, _, by omega, rfl, HAG, HM1⟩
      case round =>
        clear HAG HM1
        obtain ⟨k, zb, zm, hgk, rfl, HS, HT⟩ := hrel
        by_cases hlt : k < n1
        · obtain ⟨b, off, A, rfl, hc0, hc1, hc2, HK⟩ := (H.out.below HT.out.below (Nat.le_refl _)).act (k := k) (by rw [HL.out]; exact hlt)
          have hmem : A ∈ L := List.mem_of_getElem? HK.out
          have hA50 := HA5.out A hmem
          have HOK := Lib.hid (HA.out A hmem)
          obtain ⟨Ak, Ax, Aa, An, Ac, Al⟩ := A
          simp only [] at hA50 hc0 hc1 hc2
          obtain ⟨nb, hnb⟩ : ∃ nb, nb = wr.heap.size := ⟨_, rfl⟩
          have hX : BX w (wr.alloc (.cells #[.int .i64 Ak, .int .i64 Ax, .slice Aa An Ac] 42)) [(g, zb)] m zm nb (.cells #[.int .i64 Ak, .int .i64 Ax, .slice Aa An Ac] 42 (0, 0)) := by rw [hnb]; exact HT.out.box (by simp) _ _
          have HX := Lib.hid hX
          have HBK := Lib.hid hX.block
          have hzm : zm.length ≤ 5000 := by have := HS.out.le; omega
          have hzb : zb.length ≤ 5000 := by rw [HS.out.len]; exact hzm
          clear HT hX
          go_upto_block 4 with fail
          rw [← hnb]
          clear hnb
          generalize wr.alloc (.cells #[.int .i64 Ak, .int .i64 Ax, .slice Aa An Ac] 42) = wa at *
          by_cases e0 : Ak = 0
          · subst e0
            have HSN := Lib.hid (HS.out.put Ax)
            obtain ⟨bb, hbb⟩ : ∃ bb, hasL zb Ax = bb := ⟨_, rfl⟩
            have hba : hasL zm Ax = bb := by rw [← HS.out.has]; exact hbb
            have HBA := Lib.hid hba
            have HBB := Lib.hid hbb
            clear hba hbb
            have hcx := (cells_of_block HBK.out 1).1
            simp at hcx
            go_wp2_with fail
            refine wp_region_held_drew (S := fun W => W.cell? ⟨nb, 1, none⟩ = some (.int .i64 Ax)) (by kernel_rfl) hcx (fun hH => ?_)
            refine takeH 0 (v := ?_) rfl (by kernel_rfl) (by kernel_rfl) (by kernel_rfl) (fun _ _ _ h => h) (by rfl) ?_ (by assumption) ?_
            rotate_left
            · intro W hW
              go_simp
              try with_reducible rfl
            try simp only [Act.put, List.setIfInBounds_toArray, List.set_cons_zero, List.set_cons_succ]
            refine takeH 1 (v := ?_) rfl (by kernel_rfl) (by kernel_rfl) (by kernel_rfl) (fun _ _ _ h => h) (by rfl) ?_ (by assumption) ?_
            rotate_left
            · intro W hW
              go_simp
              try with_reducible rfl
            try simp only [Act.put, List.setIfInBounds_toArray, List.set_cons_zero, List.set_cons_succ]
            refine takeH 2 (v := ?_) rfl (by kernel_rfl) (by kernel_rfl) (by kernel_rfl) (fun _ _ _ h => h) (by rfl) ?_ (by assumption) ?_
            rotate_left
            · intro W hW
              go_simp
              try with_reducible rfl
            try simp only [Act.put, List.setIfInBounds_toArray, List.set_cons_zero, List.set_cons_succ]
            refine takeH 4 (v := ?_) rfl (by kernel_rfl) (by kernel_rfl) (by kernel_rfl) (fun _ _ _ h => h) (by rfl) ?_ (by assumption) ?_
            rotate_left
            · intro W hW
              go_simp
              try with_reducible rfl
            try simp only [Act.put, List.setIfInBounds_toArray, List.set_cons_zero, List.set_cons_succ]
            refine takeH 5 (v := ?_) rfl (by kernel_rfl) (by kernel_rfl) (by kernel_rfl) (fun _ _ _ h => h) (by rfl) ?_ (by assumption) ?_
            rotate_left
            · intro W hW
              go_simp
              try with_reducible rfl
            try simp only [Act.put, List.setIfInBounds_toArray, List.set_cons_zero, List.set_cons_succ]
            refine takeH 6 (v := ?_) rfl (by kernel_rfl) (by kernel_rfl) (by kernel_rfl) (fun _ _ _ h => h) (by rfl) ?_ (by assumption) ?_
            rotate_left
            · intro W hW
              go_simp
              try with_reducible rfl
            try simp only [Act.put, List.setIfInBounds_toArray, List.set_cons_zero, List.set_cons_succ]
            refine wpAnyH_ready (rs := [3]) (by kernel_rfl) (by simp) (readyH rfl (fun K hK => ?_) AllReadyH.nil)
            rw [if_pos (by rfl)]
            go_simp
            refine (putX 0 Ax _ (HX.out.read (Drawn.below ⟨1, rfl⟩ _)) rfl (by omega) (by omega) (by omega)).mono ?_
            rintro e w4 ⟨rfl, ht⟩
            rw [HBB.out]
            have HT4 : Hid (BX w w4 [(g, putL zb Ax)] m zm nb (.cells #[.int .i64 0, .int .i64 Ax, .slice Aa An Ac] 42 (0, 0))) := ht
            clear ht
            have hcx4 := (cells_of_block HT4.out.block 1).1
            simp at hcx4
            refine hK.out _ _ hcx4 (fun hH => ?_)
            clear hK K
            try simp only [Act.put, List.setIfInBounds_toArray, List.set_cons_zero, List.set_cons_succ]
            refine wpAnyH_ready (rs := [7]) (by kernel_rfl) (by simp) (readyH rfl (fun K hK => ?_) AllReadyH.nil)
            rw [if_pos (by rfl)]
            go_simp
            refine (mputX Ax _ HT4.out (by simp) (by omega)).mono ?_
            rintro e w5 ⟨rfl, ht⟩
            rw [HBA.out]
            have HT5 := Lib.hid ht
            clear ht
            have hcx5 := (cells_of_block HT5.out.block 1).1
            simp at hcx5
            refine hK.out _ _ hcx5 (fun hH => ?_)
            clear hK K
            try simp only [Act.put, List.setIfInBounds_toArray, List.set_cons_zero, List.set_cons_succ]
            cases bb
            all_goals
              refine takeH 8 (v := ?_) rfl (by kernel_rfl) (by kernel_rfl) (by kernel_rfl) (fun _ _ _ h => h) (by rfl) ?_ (by assumption) ?_
              rotate_left
              · intro W hW
                go_simp
                try with_reducible rfl
              try simp only [Act.put, List.setIfInBounds_toArray, List.set_cons_zero, List.set_cons_succ]
              refine wpAnyH_done (by kernel_rfl) ?_ _
              go_wp2_with fail
              go_roundg (gk - 1)
              case measure => omega
              case rel => exact ⟨k + 1, _, _, by omega, by go_num, Lib.hid (HSN.out.mono (by omega)), Lib.hid HT5.out.bl⟩
          · have d0 : (Ak == 0) = false := by simpa using e0
            by_cases e1 : Ak = 1
            · subst e1
              have HSN := Lib.hid (HS.out.del Ax)
              obtain ⟨bb, hbb⟩ : ∃ bb, hasL zb Ax = bb := ⟨_, rfl⟩
              have hba : hasL zm Ax = bb := by rw [← HS.out.has]; exact hbb
              have HBA := Lib.hid hba
              have HBB := Lib.hid hbb
              clear hba hbb
              have hcx := (cells_of_block HBK.out 1).1
              simp at hcx
              go_wp2_with fail
              refine wp_region_held_drew (S := fun W => W.cell? ⟨nb, 1, none⟩ = some (.int .i64 Ax)) (by kernel_rfl) hcx (fun hH => ?_)
              refine takeH 0 (v := ?_) rfl (by kernel_rfl) (by kernel_rfl) (by kernel_rfl) (fun _ _ _ h => h) (by rfl) ?_ (by assumption) ?_
              rotate_left
              · intro W hW
                go_simp
                try with_reducible rfl
              try simp only [Act.put, List.setIfInBounds_toArray, List.set_cons_zero, List.set_cons_succ]
              refine takeH 1 (v := ?_) rfl (by kernel_rfl) (by kernel_rfl) (by kernel_rfl) (fun _ _ _ h => h) (by rfl) ?_ (by assumption) ?_
              rotate_left
              · intro W hW
                go_simp
                try with_reducible rfl
              try simp only [Act.put, List.setIfInBounds_toArray, List.set_cons_zero, List.set_cons_succ]
              refine takeH 2 (v := ?_) rfl (by kernel_rfl) (by kernel_rfl) (by kernel_rfl) (fun _ _ _ h => h) (by rfl) ?_ (by assumption) ?_
              rotate_left
              · intro W hW
                go_simp
                try with_reducible rfl
              try simp only [Act.put, List.setIfInBounds_toArray, List.set_cons_zero, List.set_cons_succ]
              refine takeH 4 (v := ?_) rfl (by kernel_rfl) (by kernel_rfl) (by kernel_rfl) (fun _ _ _ h => h) (by rfl) ?_ (by assumption) ?_
              rotate_left
              · intro W hW
                go_simp
                try with_reducible rfl
              try simp only [Act.put, List.setIfInBounds_toArray, List.set_cons_zero, List.set_cons_succ]
              refine takeH 5 (v := ?_) rfl (by kernel_rfl) (by kernel_rfl) (by kernel_rfl) (fun _ _ _ h => h) (by rfl) ?_ (by assumption) ?_
              rotate_left
              · intro W hW
                go_simp
                try with_reducible rfl
              try simp only [Act.put, List.setIfInBounds_toArray, List.set_cons_zero, List.set_cons_succ]
              refine takeH 6 (v := ?_) rfl (by kernel_rfl) (by kernel_rfl) (by kernel_rfl) (fun _ _ _ h => h) (by rfl) ?_ (by assumption) ?_
              rotate_left
              · intro W hW
                go_simp
                try with_reducible rfl
              try simp only [Act.put, List.setIfInBounds_toArray, List.set_cons_zero, List.set_cons_succ]
              refine wpAnyH_ready (rs := [3]) (by kernel_rfl) (by simp) (readyH rfl (fun K hK => ?_) AllReadyH.nil)
              rw [if_pos (by rfl)]
              go_simp
              refine (delX 0 Ax _ (HX.out.read (Drawn.below ⟨1, rfl⟩ _)) rfl (by omega) (by omega) (by omega)).mono ?_
              rintro e w4 ⟨rfl, ht⟩
              rw [HBB.out]
              have HT4 : Hid (BX w w4 [(g, outL zb Ax)] m zm nb (.cells #[.int .i64 1, .int .i64 Ax, .slice Aa An Ac] 42 (0, 0))) := ht
              clear ht
              have hcx4 := (cells_of_block HT4.out.block 1).1
              simp at hcx4
              refine hK.out _ _ hcx4 (fun hH => ?_)
              clear hK K
              try simp only [Act.put, List.setIfInBounds_toArray, List.set_cons_zero, List.set_cons_succ]
              refine wpAnyH_ready (rs := [7]) (by kernel_rfl) (by simp) (readyH rfl (fun K hK => ?_) AllReadyH.nil)
              rw [if_pos (by rfl)]
              go_simp
              refine (mdelX Ax _ HT4.out (by simp) (by omega)).mono ?_
              rintro e w5 ⟨rfl, ht⟩
              rw [HBA.out]
              have HT5 := Lib.hid ht
              clear ht
              have hcx5 := (cells_of_block HT5.out.block 1).1
              simp at hcx5
              refine hK.out _ _ hcx5 (fun hH => ?_)
              clear hK K
              try simp only [Act.put, List.setIfInBounds_toArray, List.set_cons_zero, List.set_cons_succ]
              cases bb
              all_goals
                refine takeH 8 (v := ?_) rfl (by kernel_rfl) (by kernel_rfl) (by kernel_rfl) (fun _ _ _ h => h) (by rfl) ?_ (by assumption) ?_
                rotate_left
                · intro W hW
                  go_simp
                  try with_reducible rfl
                try simp only [Act.put, List.setIfInBounds_toArray, List.set_cons_zero, List.set_cons_succ]
                refine wpAnyH_done (by kernel_rfl) ?_ _
                go_wp2_with fail
                go_roundg (gk - 1)
                case measure => omega
                case rel => exact ⟨k + 1, _, _, by omega, by go_num, Lib.hid (HSN.out.mono (by omega)), Lib.hid HT5.out.bl⟩
            · have d1 : (Ak == 1) = false := by simpa using e1
              by_cases e2 : Ak = 2
              · subst e2
                have HSN := Lib.hid (HS.out.join Al)
                have HAL : Hid (Al.length = An) := HOK.out.2.1
                have HAS : Hid (SeqAt w Aa (ints Al)) := HOK.out.1
                have hsl : (setL Al).length ≤ 5000 := by have := length_of_sub ((setL_rises Al).imp (fun {a b} (h : a < b) => (by omega : a ≠ b))) (fun y hy => (mem_setL.1 hy : y ∈ Al)); have := HAL.out; omega
                have hcx := (cells_of_block HBK.out 2).1
                simp at hcx
                go_wp2_with fail
                refine (newX Aa An Ac Al _ (HAS.out.below HX.out.below (Nat.le_refl _)) HAL.out (by omega) HX.out (by simp)).mono ?_
                rintro e w4 ⟨g2, rfl, ht⟩
                have HT4 := Lib.hid ht
                clear ht
                go_wp2_with fail
                refine (joinX 0 1 _ HT4.out rfl rfl (by omega) (by omega) (by omega) (by omega)).mono ?_
                rintro e w5 ⟨rfl, ht⟩
                have HT5 : Hid (BX w w5 [(g, setL (zb ++ setL Al))] m (addsL zm (Al.take 0)) nb (.cells #[.int .i64 2, .int .i64 Ax, .slice Aa An Ac] 42 (0, 0))) := BX.drop (p := (g2, setL Al)) ht
                clear ht HT4 HX hcx hsl
                have hcx := (cells_of_block HT5.out.block 2).1
                simp at hcx
                go_wp2_with fail
                go_loopw [128] (fun i wr => ∃ j : Nat, j ≤ An ∧ i = .int .i64 j ∧ Hid (BX w wr [(g, setL (zb ++ setL Al))] m (addsL zm (Al.take j)) nb (.cells #[.int .i64 2, .int .i64 Ax, .slice Aa An Ac] 42 (0, 0)))) (fun i _ => An - (intOf i).toNat)
                case atStart => exact ⟨0, Nat.zero_le _, rfl, HT5⟩
                case round =>
                  clear HT5 hcx
                  obtain ⟨j, hj, rfl, HT⟩ := hrel
                  by_cases hlj : j < An
                  · obtain ⟨b, off, y, rfl, hc, HY⟩ := (HAS.out.below HT.out.below (Nat.le_refl _)).ints (k := j) (by rw [HAL.out]; exact hlj)
                    have HTK := Lib.hid (take_snoc HY.out)
                    have hsz := addsL_length (Al.take j) zm
                    have hsz2 : (Al.take j).length ≤ j := List.length_take_le _ _
                    clear HY
                    go_wp2_with fail
                    refine (mputX y _ HT.out (by simp) (by omega)).mono ?_
                    rintro e w6 ⟨rfl, hM⟩
                    rw [← addsL_snoc, ← HTK.out] at hM; have HM6 := Lib.hid hM
                    clear hM HT hsz hsz2
                    go_wp2
                    go_roundw
                    case rel => exact ⟨j + 1, by omega, by go_num, HM6⟩
                    case measure => simp [intOf]; omega
                  · have HM1 : Hid (BL w wr [(g, setL (zb ++ setL Al))] m (addsL zm Al)) := by
                      have := HT.out.bl
                      rw [List.take_of_length_le (by rw [HAL.out]; omega)] at this
                      exact this
                    clear HT
                    have hge : ¬ j < An := hlj
                    have hall : Al.length ≤ 50 := by rw [HAL.out]; exact hA50
                    go_wp2_with fail
                    go_roundg (gk - 1)
                    case measure => omega
                    case rel => exact ⟨k + 1, _, _, by omega, by go_num, Lib.hid (HSN.out.mono (by omega)), HM1⟩
              · have d2 : (Ak == 2) = false := by simpa using e2
                by_cases e3 : Ak = 3
                · subst e3
                  have HSN := Lib.hid (HS.out.less Al)
                  have HAL : Hid (Al.length = An) := HOK.out.2.1
                  have HAS : Hid (SeqAt w Aa (ints Al)) := HOK.out.1
                  have hsl : (setL Al).length ≤ 5000 := by have := length_of_sub ((setL_rises Al).imp (fun {a b} (h : a < b) => (by omega : a ≠ b))) (fun y hy => (mem_setL.1 hy : y ∈ Al)); have := HAL.out; omega
                  have hcx := (cells_of_block HBK.out 2).1
                  simp at hcx
                  go_wp2_with fail
                  refine (newX Aa An Ac Al _ (HAS.out.below HX.out.below (Nat.le_refl _)) HAL.out (by omega) HX.out (by simp)).mono ?_
                  rintro e w4 ⟨g2, rfl, ht⟩
                  have HT4 := Lib.hid ht
                  clear ht
                  go_wp2_with fail
                  refine (lessX 0 1 _ HT4.out rfl rfl (by omega) (by omega) (by omega) (by omega)).mono ?_
                  rintro e w5 ⟨rfl, ht⟩
                  have HT5 : Hid (BX w w5 [(g, lessL zb (setL Al))] m (outsL zm (Al.take 0)) nb (.cells #[.int .i64 3, .int .i64 Ax, .slice Aa An Ac] 42 (0, 0))) := BX.drop (p := (g2, setL Al)) ht
                  clear ht HT4 HX hcx hsl
                  have hcx := (cells_of_block HT5.out.block 2).1
                  simp at hcx
                  go_wp2_with fail
                  go_loopw [146] (fun i wr => ∃ j : Nat, j ≤ An ∧ i = .int .i64 j ∧ Hid (BX w wr [(g, lessL zb (setL Al))] m (outsL zm (Al.take j)) nb (.cells #[.int .i64 3, .int .i64 Ax, .slice Aa An Ac] 42 (0, 0)))) (fun i _ => An - (intOf i).toNat)
                  case atStart => exact ⟨0, Nat.zero_le _, rfl, HT5⟩
                  case round =>
                    clear HT5 hcx
                    obtain ⟨j, hj, rfl, HT⟩ := hrel
                    by_cases hlj : j < An
                    · obtain ⟨b, off, y, rfl, hc, HY⟩ := (HAS.out.below HT.out.below (Nat.le_refl _)).ints (k := j) (by rw [HAL.out]; exact hlj)
                      have HTK := Lib.hid (take_snoc HY.out)
                      have hsz := outsL_length (Al.take j) zm
                      have hsz2 : (Al.take j).length ≤ j := List.length_take_le _ _
                      clear HY
                      go_wp2_with fail
                      refine (mdelX y _ HT.out (by simp) (by omega)).mono ?_
                      rintro e w6 ⟨rfl, hM⟩
                      rw [← outsL_snoc, ← HTK.out] at hM; have HM6 := Lib.hid hM
                      clear hM HT hsz hsz2
                      go_wp2
                      go_roundw
                      case rel => exact ⟨j + 1, by omega, by go_num, HM6⟩
                      case measure => simp [intOf]; omega
                    · have HM1 : Hid (BL w wr [(g, lessL zb (setL Al))] m (outsL zm Al)) := by
                        have := HT.out.bl
                        rw [List.take_of_length_le (by rw [HAL.out]; omega)] at this
                        exact this
                      clear HT
                      have hge : ¬ j < An := hlj
                      have hall : Al.length ≤ 50 := by rw [HAL.out]; exact hA50
                      go_wp2_with fail
                      go_roundg (gk - 1)
                      case measure => omega
                      case rel => exact ⟨k + 1, _, _, by omega, by go_num, Lib.hid (HSN.out.mono (by omega)), HM1⟩
                · have d3 : (Ak == 3) = false := by simpa using e3
                  clear e0 e1 e2 e3
                  go_wp2_with fail
                  go_roundg (gk - 1)
                  case measure => omega
                  case rel => exact ⟨k + 1, _, _, by omega, by go_num, Lib.hid (HS.out.mono (by omega)), Lib.hid HX.out.bl⟩
        · have hkn : k = n1 := by omega
          have hzm : zm.length ≤ 5000 := by have := HS.out.le; omega
          have HLE : Hid (zb.length = zm.length) := HS.out.len
          have HSE : Hid (zb = setL zm) := HS.out.set
          have HHA : Hid (hasL zb x = hasL zm x) := HS.out.has x
          have hzb : zb.length ≤ 5000 := by rw [HLE.out]; exact hzm
          have hge : ¬ k < n1 := hlt
          clear hkn hgk
          go_wp2_with fail
          refine (firstL x _ HT.out hzb).mono ?_
          rintro e w5 ⟨rfl, hT⟩
          obtain ⟨fv, hfv⟩ : ∃ fv, fv = zb[posL zb x]?.getD 0 := ⟨_, rfl⟩
          obtain ⟨fb, hfb⟩ : ∃ fb, fb = decide (posL zb x < zb.length) := ⟨_, rfl⟩
          rw [← hfv, ← hfb]
          have HFV := Lib.hid hfv
          have HFB := Lib.hid hfb
          have HT5 := Lib.hid hT
          clear hT HT hfv hfb
          go_wp2_with fail
          refine (mfirstL x _ HT5.out (by omega)).mono ?_
          rintro e w6 ⟨⟨mv, mb, rfl, hf⟩, rfl⟩
          obtain ⟨q1, q2⟩ := hf.bag HS.out.rises HS.out.mem
          obtain rfl : fv = mv := HFV.out.trans q1
          obtain rfl : fb = mb := HFB.out.trans q2
          clear hf q1 q2 HFV HFB
          go_wp2_with fail
          refine (bnil_join2 g _).mono ?_
          rintro e w6 ⟨rfl, rfl⟩
          go_wp2_with fail
          refine (bnil_less2 g _).mono ?_
          rintro e w6 ⟨rfl, rfl⟩
          obtain ⟨va, mc, hcx⟩ := HT5.out.list
          obtain ⟨mn, hmn⟩ : ∃ mn, mn = zm.length := ⟨_, rfl⟩
          rw [← hmn] at hcx
          have HMN := Lib.hid hmn.symm
          clear hmn
          go_wp2_with fail
          refine wp_region_held_drew (S := fun W => W.cell? ⟨m, 0, none⟩ = some (.slice va mn mc)) (by kernel_rfl) hcx (fun hH => ?_)
          refine takeH 0 (v := ?_) rfl (by kernel_rfl) (by kernel_rfl) (by kernel_rfl) (fun _ _ _ h => h) (by rfl) ?_ (by assumption) ?_
          rotate_left
          · intro W hW
            go_simp
            try with_reducible rfl
          try simp only [Act.put, List.setIfInBounds_toArray, List.set_cons_zero, List.set_cons_succ]
          refine takeH 2 (v := ?_) rfl (by kernel_rfl) (by kernel_rfl) (by kernel_rfl) (fun _ _ _ h => h) (by rfl) ?_ (by assumption) ?_
          rotate_left
          · intro W hW
            go_simp
            try with_reducible rfl
          try simp only [Act.put, List.setIfInBounds_toArray, List.set_cons_zero, List.set_cons_succ]
          refine wpAnyH_ready (rs := [1]) (by kernel_rfl) (by simp) (readyH rfl (fun K hK => ?_) AllReadyH.nil)
          rw [if_pos (by rfl)]
          go_simp
          have HTd : Hid (BL w w5.drew [(g, zb)] m zm) := HT5.out.read (Drawn.below ⟨1, rfl⟩ _)
          refine (allB 0 _ HTd.out.bags rfl (by omega)).mono ?_
          rintro e w7 ⟨ba, bc, rfl, ho, -, hb⟩
          have HQ7 := Lib.hid (ownsRow_seq' ho)
          have HT7 := Lib.hid (HTd.out.read hb)
          have hH7 : w7.cell? ⟨m, 0, none⟩ = some (.slice va mn mc) := (World.cell?_of_block (a := ⟨m, 0, none⟩) (hb.block m HTd.out.mlt)).trans hH
          clear ho hb HTd
          refine hK.out _ _ hH7 (fun hH => ?_)
          clear hK K
          try simp only [Act.put, List.setIfInBounds_toArray, List.set_cons_zero, List.set_cons_succ]
          refine wpAnyH_ready (rs := [3]) (by kernel_rfl) (by simp) (readyH rfl (fun K hK => ?_) AllReadyH.nil)
          rw [if_pos (by rfl)]
          go_simp
          refine (mallL _ HT7.out (by have := HMN.out; omega)).mono ?_
          rintro e w8 ⟨v8, rfl, ho, hb⟩
          rw [← HSE.out] at ho
          obtain ⟨ma, mcc, rfl, -, -, -⟩ := ownsRow_seq ho
          have HM8 := Lib.hid (ownsRow_seq' ho)
          have HQ8 := Lib.hid (HQ7.out.below hb (Nat.le_refl _))
          have HT8 := Lib.hid (HT7.out.read hb)
          have hH8 : w8.cell? ⟨m, 0, none⟩ = some (.slice va mn mc) := (World.cell?_of_block (a := ⟨m, 0, none⟩) (hb.block m HT7.out.mlt)).trans hH
          clear ho hb HQ7 HT7
          refine hK.out _ _ hH8 (fun hH => ?_)
          clear hK K
          try simp only [Act.put, List.setIfInBounds_toArray, List.set_cons_zero, List.set_cons_succ]
          refine wpAnyH_ready (rs := [4]) (by kernel_rfl) (by simp) (readyH rfl (fun K hK => ?_) AllReadyH.nil)
          rw [if_pos (by rfl)]
          go_simp
          obtain ⟨zn, hzn⟩ : ∃ zn, zn = zb.length := ⟨_, rfl⟩
          have HZN := Lib.hid hzn.symm
          rw [← hzn]
          clear hzn
          refine (same_self ba ma bc mcc zn zb _ HQ8.out HM8.out HZN.out (by rw [← HZN.out]; omega)).mono ?_
          rintro e w9 ⟨rfl, hd⟩
          have HT9 := Lib.hid (HT8.out.read (hd.below _))
          have hH9 : w9.cell? ⟨m, 0, none⟩ = some (.slice va mn mc) := (World.cell?_of_block (a := ⟨m, 0, none⟩) ((hd.below w8.heap.size).block m HT8.out.mlt)).trans hH
          clear hd HT8 HQ8 HM8
          refine hK.out _ _ hH9 (fun hH => ?_)
          clear hK K
          try simp only [Act.put, List.setIfInBounds_toArray, List.set_cons_zero, List.set_cons_succ]
          refine takeH 5 (v := ?_) rfl (by kernel_rfl) (by kernel_rfl) (by kernel_rfl) (fun _ _ _ h => h) (by rfl) ?_ (by assumption) ?_
          rotate_left
          · intro W hW
            go_simp
            try with_reducible rfl
          try simp only [Act.put, List.setIfInBounds_toArray, List.set_cons_zero, List.set_cons_succ]
          refine takeH 6 (v := ?_) rfl (by kernel_rfl) (by kernel_rfl) (by kernel_rfl) (fun _ _ _ h => h) (by rfl) ?_ (by assumption) ?_
          rotate_left
          · intro W hW
            go_simp
            try with_reducible rfl
          try simp only [Act.put, List.setIfInBounds_toArray, List.set_cons_zero, List.set_cons_succ]
          refine takeH 8 (v := ?_) rfl (by kernel_rfl) (by kernel_rfl) (by kernel_rfl) (fun _ _ _ h => h) (by rfl) ?_ (by assumption) ?_
          rotate_left
          · intro W hW
            go_simp
            try with_reducible rfl
          try simp only [Act.put, List.setIfInBounds_toArray, List.set_cons_zero, List.set_cons_succ]
          refine takeH 9 (v := ?_) rfl (by kernel_rfl) (by kernel_rfl) (by kernel_rfl) (fun _ _ _ h => h) (by rfl) ?_ (by assumption) ?_
          rotate_left
          · intro W hW
            go_simp
            try with_reducible rfl
          try simp only [Act.put, List.setIfInBounds_toArray, List.set_cons_zero, List.set_cons_succ]
          refine takeH 10 (v := ?_) rfl (by kernel_rfl) (by kernel_rfl) (by kernel_rfl) (fun _ _ _ h => h) (by rfl) ?_ (by assumption) ?_
          rotate_left
          · intro W hW
            go_simp
            try with_reducible rfl
          try simp only [Act.put, List.setIfInBounds_toArray, List.set_cons_zero, List.set_cons_succ]
          refine takeH 11 (v := ?_) rfl (by kernel_rfl) (by kernel_rfl) (by kernel_rfl) (fun _ _ _ h => h) (by rfl) ?_ (by assumption) ?_
          rotate_left
          · intro W hW
            go_simp
            try with_reducible rfl
          try simp only [Act.put, List.setIfInBounds_toArray, List.set_cons_zero, List.set_cons_succ]
          refine takeH 12 (v := ?_) rfl (by kernel_rfl) (by kernel_rfl) (by kernel_rfl) (fun _ _ _ h => h) (by rfl) ?_ (by assumption) ?_
          rotate_left
          · intro W hW
            go_simp
            try with_reducible rfl
          try simp only [Act.put, List.setIfInBounds_toArray, List.set_cons_zero, List.set_cons_succ]
          refine wpAnyH_ready (rs := [7]) (by kernel_rfl) (by simp) (readyH rfl (fun K hK => ?_) AllReadyH.nil)
          rw [if_pos (by rfl)]
          go_simp
          refine (lenB 0 _ HT9.out.bags rfl).mono ?_
          rintro e w10 ⟨rfl, rfl⟩
          rw [show zb.length = mn from HLE.out.trans HMN.out]
          refine hK.out _ _ hH9 (fun hH => ?_)
          clear hK K
          try simp only [Act.put, List.setIfInBounds_toArray, List.set_cons_zero, List.set_cons_succ]
          refine takeH 13 (v := ?_) rfl (by kernel_rfl) (by kernel_rfl) (by kernel_rfl) (fun _ _ _ h => h) (by rfl) ?_ (by assumption) ?_
          rotate_left
          · intro W hW
            go_simp
            try with_reducible rfl
          try simp only [Act.put, List.setIfInBounds_toArray, List.set_cons_zero, List.set_cons_succ]
          refine takeH 14 (v := ?_) rfl (by kernel_rfl) (by kernel_rfl) (by kernel_rfl) (fun _ _ _ h => h) (by rfl) ?_ (by assumption) ?_
          rotate_left
          · intro W hW
            go_simp
            try with_reducible rfl
          try simp only [Act.put, List.setIfInBounds_toArray, List.set_cons_zero, List.set_cons_succ]
          refine takeH 15 (v := ?_) rfl (by kernel_rfl) (by kernel_rfl) (by kernel_rfl) (fun _ _ _ h => h) (by rfl) ?_ (by assumption) ?_
          rotate_left
          · intro W hW
            go_simp
            try with_reducible rfl
          try simp only [Act.put, List.setIfInBounds_toArray, List.set_cons_zero, List.set_cons_succ]
          refine takeH 16 (v := ?_) rfl (by kernel_rfl) (by kernel_rfl) (by kernel_rfl) (fun _ _ _ h => h) (by rfl) ?_ (by assumption) ?_
          rotate_left
          · intro W hW
            go_simp
            try with_reducible rfl
          try simp only [Act.put, List.setIfInBounds_toArray, List.set_cons_zero, List.set_cons_succ]
          refine takeH 17 (v := ?_) rfl (by kernel_rfl) (by kernel_rfl) (by kernel_rfl) (fun _ _ _ h => h) (by rfl) ?_ (by assumption) ?_
          rotate_left
          · intro W hW
            go_simp
            try with_reducible rfl
          try simp only [Act.put, List.setIfInBounds_toArray, List.set_cons_zero, List.set_cons_succ]
          refine takeH 19 (v := ?_) rfl (by kernel_rfl) (by kernel_rfl) (by kernel_rfl) (fun _ _ _ h => h) (by rfl) ?_ (by assumption) ?_
          rotate_left
          · intro W hW
            go_simp
            try with_reducible rfl
          try simp only [Act.put, List.setIfInBounds_toArray, List.set_cons_zero, List.set_cons_succ]
          refine takeH 20 (v := ?_) rfl (by kernel_rfl) (by kernel_rfl) (by kernel_rfl) (fun _ _ _ h => h) (by rfl) ?_ (by assumption) ?_
          rotate_left
          · intro W hW
            go_simp
            try with_reducible rfl
          try simp only [Act.put, List.setIfInBounds_toArray, List.set_cons_zero, List.set_cons_succ]
          refine wpAnyH_ready (rs := [18]) (by kernel_rfl) (by simp) (readyH rfl (fun K hK => ?_) AllReadyH.nil)
          rw [if_pos (by rfl)]
          go_simp
          refine (hasB 0 x _ HT9.out.bags rfl (by omega)).mono ?_
          rintro e w11 ⟨rfl, -, hd⟩
          rw [HHA.out]
          have HT11 := Lib.hid (HT9.out.read (hd.below _))
          have hH11 : w11.cell? ⟨m, 0, none⟩ = some (.slice va mn mc) := (World.cell?_of_block (a := ⟨m, 0, none⟩) ((hd.below _).block m HT9.out.mlt)).trans hH
          clear hd HT9
          refine hK.out _ _ hH11 (fun hH => ?_)
          clear hK K
          try simp only [Act.put, List.setIfInBounds_toArray, List.set_cons_zero, List.set_cons_succ]
          refine wpAnyH_ready (rs := [21]) (by kernel_rfl) (by simp) (readyH rfl (fun K hK => ?_) AllReadyH.nil)
          rw [if_pos (by rfl)]
          go_simp
          refine (mhasL x _ HT11.out (by have := HMN.out; omega)).mono ?_
          rintro e w12 ⟨rfl, rfl⟩
          refine hK.out _ _ hH11 (fun hH => ?_)
          clear hK K
          try simp only [Act.put, List.setIfInBounds_toArray, List.set_cons_zero, List.set_cons_succ]
          refine takeH 22 (v := ?_) rfl (by kernel_rfl) (by kernel_rfl) (by kernel_rfl) (fun _ _ _ h => h) (by rfl) ?_ (by assumption) ?_
          rotate_left
          · intro W hW
            go_simp
            try with_reducible rfl
          try simp only [Act.put, List.setIfInBounds_toArray, List.set_cons_zero, List.set_cons_succ]
          refine takeH 23 (v := ?_) rfl (by kernel_rfl) (by kernel_rfl) (by kernel_rfl) (fun _ _ _ h => h) (by rfl) ?_ (by assumption) ?_
          rotate_left
          · intro W hW
            go_simp
            try with_reducible rfl
          try simp only [Act.put, List.setIfInBounds_toArray, List.set_cons_zero, List.set_cons_succ]
          refine takeH 24 (v := ?_) rfl (by kernel_rfl) (by kernel_rfl) (by kernel_rfl) (fun _ _ _ h => h) (by rfl) ?_ (by assumption) ?_
          rotate_left
          · intro W hW
            go_simp
            try with_reducible rfl
          try simp only [Act.put, List.setIfInBounds_toArray, List.set_cons_zero, List.set_cons_succ]
          refine takeH 25 (v := ?_) rfl (by kernel_rfl) (by kernel_rfl) (by kernel_rfl) (fun _ _ _ h => h) (by rfl) ?_ (by assumption) ?_
          rotate_left
          · intro W hW
            go_simp
            try with_reducible rfl
          try simp only [Act.put, List.setIfInBounds_toArray, List.set_cons_zero, List.set_cons_succ]
          refine takeH 26 (v := ?_) rfl (by kernel_rfl) (by kernel_rfl) (by kernel_rfl) (fun _ _ _ h => h) (by rfl) ?_ (by assumption) ?_
          rotate_left
          · intro W hW
            go_simp
            try with_reducible rfl
          try simp only [Act.put, List.setIfInBounds_toArray, List.set_cons_zero, List.set_cons_succ]
          refine takeH 27 (v := ?_) rfl (by kernel_rfl) (by kernel_rfl) (by kernel_rfl) (fun _ _ _ h => h) (by rfl) ?_ (by assumption) ?_
          rotate_left
          · intro W hW
            go_simp
            try with_reducible rfl
          try simp only [Act.put, List.setIfInBounds_toArray, List.set_cons_zero, List.set_cons_succ]
          refine takeH 28 (v := ?_) rfl (by kernel_rfl) (by kernel_rfl) (by kernel_rfl) (fun _ _ _ h => h) (by rfl) ?_ (by assumption) ?_
          rotate_left
          · intro W hW
            go_simp
            try with_reducible rfl
          try simp only [Act.put, List.setIfInBounds_toArray, List.set_cons_zero, List.set_cons_succ]
          refine takeH 29 (v := ?_) rfl (by kernel_rfl) (by kernel_rfl) (by kernel_rfl) (fun _ _ _ h => h) (by rfl) ?_ (by assumption) ?_
          rotate_left
          · intro W hW
            go_simp
            try with_reducible rfl
          try simp only [Act.put, List.setIfInBounds_toArray, List.set_cons_zero, List.set_cons_succ]
          refine takeH 30 (v := ?_) rfl (by kernel_rfl) (by kernel_rfl) (by kernel_rfl) (fun _ _ _ h => h) (by rfl) ?_ (by assumption) ?_
          rotate_left
          · intro W hW
            go_simp
            try with_reducible rfl
          try simp only [Act.put, List.setIfInBounds_toArray, List.set_cons_zero, List.set_cons_succ]
          refine takeH 31 (v := ?_) rfl (by kernel_rfl) (by kernel_rfl) (by kernel_rfl) (fun _ _ _ h => h) (by rfl) ?_ (by assumption) ?_
          rotate_left
          · intro W hW
            go_simp
            try with_reducible rfl
          try simp only [Act.put, List.setIfInBounds_toArray, List.set_cons_zero, List.set_cons_succ]
          refine takeH 32 (v := ?_) rfl (by kernel_rfl) (by kernel_rfl) (by kernel_rfl) (fun _ _ _ h => h) (by rfl) ?_ (by assumption) ?_
          rotate_left
          · intro W hW
            go_simp
            try with_reducible rfl
          try simp only [Act.put, List.setIfInBounds_toArray, List.set_cons_zero, List.set_cons_succ]
          refine takeH 33 (v := ?_) rfl (by kernel_rfl) (by kernel_rfl) (by kernel_rfl) (fun _ _ _ h => h) (by rfl) ?_ (by assumption) ?_
          rotate_left
          · intro W hW
            go_simp
            try with_reducible rfl
          try simp only [Act.put, List.setIfInBounds_toArray, List.set_cons_zero, List.set_cons_succ]
          refine takeH 34 (v := ?_) rfl (by kernel_rfl) (by kernel_rfl) (by kernel_rfl) (fun _ _ _ h => h) (by rfl) ?_ (by assumption) ?_
          rotate_left
          · intro W hW
            go_simp
            try with_reducible rfl
          try simp only [Act.put, List.setIfInBounds_toArray, List.set_cons_zero, List.set_cons_succ]
          refine wpAnyH_done (by kernel_rfl) ?_ _
          go_wp2
          go_ret
          exact ⟨rfl, HT11.out.below⟩

set_option maxRecDepth 100000 in
theorem bagacts_big (a : Option Addr) (n c : Nat) (zs : List Int) (a1 : Option Addr) (n1 c1 : Nat) (L : List AV) (x : Int) (w : World) (hm : n ≤ 9223372036854775807)
    (h1 : SeqAt w a1 (acells L)) (hl1 : L.length = n1) (hm1 : n1 ≤ 9223372036854775807) (hA : ∀ A ∈ L, A.ok w) (hg2 : greatA L = true) :
    Calls Try.prog 8 #[.slice a n c, .slice a1 n1 c1, .int .i64 x] w fun e w' => e = .returned (.bool true) ∧ Below w.heap.size w w' := by
  have H := Lib.hid h1; clear h1
  have HL := Lib.hid hl1; clear hl1
  have HAN : Hid (∀ A ∈ L, A.n ≤ 9223372036854775807) := fun A hm => by have := (hA A hm).2.2.2; unfold maxLen at this; omega
  have HG := Lib.hid hg2
  clear hg2 hA
  go_enter Try.func8, Try.ntmps8
  go_wp2_with fail
  refine (bnil_join none _).mono ?_
  rintro e w' ⟨rfl, rfl⟩
  go_wp2_with fail
  refine (bnil_less none _).mono ?_
  rintro e w' ⟨rfl, rfl⟩
  go_wp2_with fail
  refine (bnil_first _ _).mono ?_
  rintro e w' ⟨rfl, rfl⟩
  go_wp2_with fail
  refine (alive08_any _).mono ?_
  rintro e w1 ⟨rfl, hb⟩
  have HB := Lib.hid hb; clear hb
  go_wp2_with fail
  refine (bnil_put _ _).mono ?_
  rintro e w' ⟨rfl, rfl⟩
  go_wp2_with fail
  refine (bnil_del _ _).mono ?_
  rintro e w' ⟨rfl, rfl⟩
  go_wp2_with fail
  refine (bnil_has _ _).mono ?_
  rintro e w' ⟨rfl, rfl⟩
  go_wp2_with fail
  refine (bnil_len _).mono ?_
  rintro e w' ⟨rfl, rfl⟩
  go_wp2_with fail
  refine (all_nil _).mono ?_
  rintro e w2 ⟨rfl, hb⟩
  have HB2 : Hid (Below w.heap.size w w2) := HB.out.trans (hb.mono HB.out.size)
  clear HB hb
  go_wp2_with fail
  refine (great08_any a1 n1 c1 L _ (H.out.below HB2.out (Nat.le_refl _)) HL.out hm1 HAN.out).mono ?_
  rintro e w3 ⟨rfl, hb⟩
  rw [HG.out]
  have HB3 : Hid (Below w.heap.size w w3) := HB2.out.trans (hb.mono HB2.out.size)
  clear HB2 hb
  go_wp2
  go_ret
  exact ⟨rfl, HB3.out⟩

set_option maxRecDepth 100000 in
theorem bagacts_long (a : Option Addr) (n c : Nat) (zs : List Int) (a1 : Option Addr) (n1 c1 : Nat) (L : List AV) (x : Int) (w : World) (hm : n ≤ 9223372036854775807)
    (h1 : SeqAt w a1 (acells L)) (hl1 : L.length = n1) (hm1 : n1 ≤ 9223372036854775807) (hA : ∀ A ∈ L, A.ok w) (hg2 : greatA L = false) (hn : 50 < n) :
    Calls Try.prog 8 #[.slice a n c, .slice a1 n1 c1, .int .i64 x] w fun e w' => e = .returned (.bool true) ∧ Below w.heap.size w w' := by
  have H := Lib.hid h1; clear h1
  have HL := Lib.hid hl1; clear hl1
  have HAN : Hid (∀ A ∈ L, A.n ≤ 9223372036854775807) := fun A hm => by have := (hA A hm).2.2.2; unfold maxLen at this; omega
  have HG := Lib.hid hg2
  clear hg2 hA
  go_enter Try.func8, Try.ntmps8
  go_wp2_with fail
  refine (bnil_join none _).mono ?_
  rintro e w' ⟨rfl, rfl⟩
  go_wp2_with fail
  refine (bnil_less none _).mono ?_
  rintro e w' ⟨rfl, rfl⟩
  go_wp2_with fail
  refine (bnil_first _ _).mono ?_
  rintro e w' ⟨rfl, rfl⟩
  go_wp2_with fail
  refine (alive08_any _).mono ?_
  rintro e w1 ⟨rfl, hb⟩
  have HB := Lib.hid hb; clear hb
  go_wp2_with fail
  refine (bnil_put _ _).mono ?_
  rintro e w' ⟨rfl, rfl⟩
  go_wp2_with fail
  refine (bnil_del _ _).mono ?_
  rintro e w' ⟨rfl, rfl⟩
  go_wp2_with fail
  refine (bnil_has _ _).mono ?_
  rintro e w' ⟨rfl, rfl⟩
  go_wp2_with fail
  refine (bnil_len _).mono ?_
  rintro e w' ⟨rfl, rfl⟩
  go_wp2_with fail
  refine (all_nil _).mono ?_
  rintro e w2 ⟨rfl, hb⟩
  have HB2 : Hid (Below w.heap.size w w2) := HB.out.trans (hb.mono HB.out.size)
  clear HB hb
  go_wp2_with fail
  refine (great08_any a1 n1 c1 L _ (H.out.below HB2.out (Nat.le_refl _)) HL.out hm1 HAN.out).mono ?_
  rintro e w3 ⟨rfl, hb⟩
  rw [HG.out]
  have HB3 : Hid (Below w.heap.size w w3) := HB2.out.trans (hb.mono HB2.out.size)
  clear HB2 hb
  go_wp2
  go_ret
  exact ⟨rfl, HB3.out⟩

theorem bagacts_row (a0 : Option Addr) (n0 c0 : Nat) (z0 : List Int) (a1 : Option Addr) (n1 c1 : Nat) (z1 : List AV) (x : Int) (w : World)
    (hz0 : SeqAt w a0 (ints z0)) (hl0 : z0.length = n0) (hc0 : n0 ≤ c0) (hm0 : n0 ≤ maxLen) (hw0 : ∀ x ∈ z0, (Lit.int .i64 x).wf = true)
    (hz1 : SeqAt w a1 (acells z1)) (hl1 : z1.length = n1) (hc1 : n1 ≤ c1) (hm1 : n1 ≤ maxLen) (hA1 : ∀ A ∈ z1, A.ok w) (w2 : (Lit.int .i64 x).wf = true) :
    Calls Try.prog 8 #[.slice a0 n0 c0, .slice a1 n1 c1, .int .i64 x] w fun e w' => e = .returned (.bool true) ∧ Below w.heap.size w w' := by
  unfold maxLen at hm0 hm1
  by_cases hg : greatA z1 = true
  · exact bagacts_big a0 n0 c0 z0 a1 n1 c1 z1 x w (by omega) hz1 hl1 (by omega) hA1 hg
  · by_cases hn : 50 < n0
    · exact bagacts_long a0 n0 c0 z0 a1 n1 c1 z1 x w (by omega) hz1 hl1 (by omega) hA1 (by simpa using hg) hn
    · exact bagacts_small a0 n0 c0 z0 a1 n1 c1 z1 x w hz0 hl0 (by omega) hz1 hl1 (by omega) hA1 (by simpa using hg)
end Go.Proofs.Ythfdigjbmoconaa
