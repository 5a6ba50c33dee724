/-
  turnrowlaw14.GrayActs: the walk.
-/
import Derived.Test.YtcfapidalngebaaTwo
import Derived.Test.YtcfapidalngebaaAgree
import Derived.Test.YtcfapidalngebaaNil14
import Derived.Test.YtcfapidalngebaaAlive14
import Derived.Test.YtcfapidalngebaaGreat14
import Derived.Test.YtcfapidalngebaaGray4
import Derived.Test.YtcfapidalngebaaSame
import Derived.Deep.LoopGhost
import Derived.Deep.DeepCutAuto
import Derived.Deep.CutBlock
set_option linter.unusedSimpArgs false
set_option linter.unusedVariables false
namespace Go.Proofs.Ytcfapidalngebaa
open Go.RowKit Go.Tr

def actsL (L : List AV) : List (Int × List Int) := L.map fun A => (A.x, A.l)

theorem askL_length (x : Int) : ∀ L : List AV, (∀ A ∈ L, A.l.length ≤ 40) → (askL x (actsL L)).length ≤ 1 + 41 * L.length
  | [], _ => by simp [askL, actsL]
  | A :: L, h => by
    have h1 := askL_length x L (fun B hB => h B (List.mem_cons_of_mem _ hB))
    have h2 := h A (by simp)
    simp [askL, actsL] at h1 ⊢
    omega

set_option maxRecDepth 100000 in
set_option maxHeartbeats 1000000 in
theorem grayacts_small (a : Option Addr) (n c : Nat) (L : List AV) (x : Int) (w : World) (h : SeqAt w a (acells L)) (hl : L.length = n) (hm : n ≤ 9223372036854775807) (hA : ∀ A ∈ L, A.ok w) (hg2 : greatA L = false) :
    Calls Try.prog 8 #[.slice a n c, .int .i64 x] w fun e w' => e = .returned (.bool true) ∧ Below w.heap.size w w' := by
  have H := Lib.hid h; clear h
  have HL := Lib.hid hl; clear hl
  have HAN : Hid (∀ A ∈ L, A.n ≤ 9223372036854775807) := fun A hm => by have := (hA A hm).2.2.2; unfold maxLen at this; omega
  have HA := Lib.hid hA
  have hn80 : n ≤ 80 ∧ ∀ A ∈ L, A.n ≤ 40 := by
    unfold greatA at hg2
    rw [HL.out] at hg2
    simp at hg2
    exact ⟨hg2.1, fun A hA => by have := hg2.2 A hA; omega⟩
  obtain ⟨hn8, hA4⟩ := hn80
  obtain ⟨i0, hi, hz0, hz1, hz2⟩ := info_parts infoInt14
  have HG := Lib.hid hg2
  have HA4 := Lib.hid hA4
  have HLEN : Hid (∀ k, k ≤ n → (askL x (actsL (L.take k))).length ≤ 1000000) := fun k hk => by
    have h1 := askL_length x (L.take k) (fun A hm => by have h2 := hA A (List.mem_of_mem_take hm); have h3 := hA4 A (List.mem_of_mem_take hm); have h4 := h2.2.1; omega)
    have h2 : (L.take k).length ≤ k := List.length_take_le _ _
    omega
  clear hg2 hA4 hA
  go_enter Try.func8, Try.ntmps8
  go_wp2_with fail
  refine (gnil_next _).mono ?_
  rintro e w' ⟨rfl, rfl⟩
  go_wp2_with fail
  refine (newS _).mono ?_
  rintro e w1 ⟨g, rfl, hg⟩
  have HI := Lib.hid hg; clear hg
  go_wp2_with fail
  refine (alive14_any _).mono ?_
  rintro e w2 ⟨rfl, hb⟩
  have HI2 := Lib.hid (HI.out.below hb)
  clear HI hb
  go_wp2_with fail
  refine (gnil_put (some ⟨w2.heap.size, 0, none⟩) 1 1 [1] _ ?h1 rfl (by decide)).mono ?_
  case h1 => exact seqAt_block (cs := #[iv 1]) (heap_alloc_new w2 _)
  rintro e w' ⟨rfl, rfl⟩
  have HI3 := Lib.hid (HI2.out.alloc (.cells #[.int .i64 1] 3))
  clear HI2
  go_wp2_with fail
  refine (gnil_again _ _).mono ?_
  rintro e w' ⟨rfl, rfl⟩
  go_wp2_with fail
  refine (gnil_color _ _).mono ?_
  rintro e w' ⟨rfl, rfl⟩
  go_wp2_with fail
  refine (gnil_len _).mono ?_
  rintro e w' ⟨rfl, rfl⟩
  go_wp2_with fail
  refine (gnil_done _).mono ?_
  rintro e w' ⟨rfl, rfl⟩
  go_wp2_with fail
  refine (gnil_paint _ _).mono ?_
  rintro e w' ⟨rfl, rfl⟩
  go_wp2_with fail
  refine (great14_any a n c L _ (H.out.below HI3.out.toBelow (Nat.le_refl _)) HL.out hm HAN.out).mono ?_
  rintro e w3 ⟨rfl, hb⟩
  rw [HG.out]
  have HI4 := Lib.hid (HI3.out.below hb)
  clear HI3 hb
  go_wp2_with fail
  have HT := Lib.hid (Two.start HI4.out x)
  have HT' : Hid (Two w (fun _ => False) g w3.heap.size _ GS.new ⟨[], []⟩ _ (askL x (actsL (L.take 0)))) := HT
  clear HT HI4
  generalize w3.heap.size = m at *
  go_loopg [10, 75] n (fun gk v i wr => ∃ (k : Nat) (S : GS) (R : RS), gk + k = n ∧ i = .int .i64 k ∧ Hid (Ag S R k) ∧ Hid (Two w (fun _ => False) g m wr S R v (askL x (actsL (L.take k)))))
  case atStart => exact ⟨0, GS.new, ⟨[], []⟩, by omega, rfl, Ag.zero, HT'⟩
  case round =>
    clear HT'
    obtain ⟨k, S, R, hgk, rfl, HS, HT⟩ := hrel
    by_cases hlt : k < n
    · obtain ⟨b, off, A, rfl, hc0, hc1, hc2, HK⟩ := (H.out.below HT.out.toBelow (Nat.le_refl _)).act (k := k) (by rw [HL.out]; exact hlt)
      have hmem : A ∈ L := List.mem_of_getElem? HK.out
      have hA40 := HA4.out A hmem
      have HOK := Lib.hid (HA.out A hmem)
      have HTK := Lib.hid (take_snoc HK.out)
      obtain ⟨Ak, Ax, Aa, An, Ac, Al⟩ := A
      simp only [] at hA40 hc0 hc1 hc2
      obtain ⟨nb, hnb⟩ : ∃ nb, nb = wr.heap.size := ⟨_, rfl⟩
      have HF := Lib.hid (HT.out.fresh ((Below.refl _ wr).alloc (Nat.le_refl _) (.cells #[.int .i64 Ak, .int .i64 Ax, .slice Aa An Ac] 45)))
      have hY : Hid (Two w (fun y => y = nb) g m (wr.alloc (.cells #[.int .i64 Ak, .int .i64 Ax, .slice Aa An Ac] 45)) S R u10 (askL x (actsL (L.take k)))) := by
        have := HF.out
        have e : (fun y => wr.heap.size ≤ y ∧ y < (wr.alloc (.cells #[.int .i64 Ak, .int .i64 Ax, .slice Aa An Ac] 45)).heap.size) = (fun y => y = nb) := by
          funext y; rw [hnb]; simp; omega
        rw [e] at this; exact this
      have hbk : (wr.alloc (.cells #[.int .i64 Ak, .int .i64 Ax, .slice Aa An Ac] 45)).heap[nb]? = some (.cells #[.int .i64 Ak, .int .i64 Ax, .slice Aa An Ac] 45 (0, 0)) := by rw [hnb]; exact heap_alloc_new _ _
      have HBK := Lib.hid hbk
      clear HF HT hbk
      go_upto_block 2 with fail
      rw [← hnb]
      clear hnb
      generalize wr.alloc (.cells #[.int .i64 Ak, .int .i64 Ax, .slice Aa An Ac] 45) = wa at *
      go_cut [75] (fun i wx => ∃ (S' : GS) (R' : RS), i = .int .i64 k ∧ Hid (Ag S' R' (k + 1)) ∧ Hid (Two w (fun y => y = nb) g m wx S' R' u10 (askL x (actsL (L.take k)))) ∧ Hid (wx.heap[nb]? = some (.cells #[.int .i64 Ak, .int .i64 Ax, .slice Aa An Ac] 45 (0, 0))))
      case first =>
        have hm0 : Hid (S.Small 1000000) := HS.out.2.1.mono (by omega)
        have hr0 : Hid (R.wl.length + R.bl.length ≤ 900000) := by have := HS.out.2.2.2; unfold RS.size at this; show _ ≤ _; omega
        by_cases e0 : Ak = 0
        · subst e0
          have HSN := Lib.hid (HS.out.put (l := Al) (by have := HOK.out.2.1; simp only [] at this; omega))
          have HPN : Hid (S.putN Al = R.putsN Al) := (same_puts Al HS.out.1).2
          have HAL : Hid (Al.length = An) := HOK.out.2.1
          have HAS : Hid (SeqAt w Aa (ints Al)) := HOK.out.1
          have hcx := (cells_of_block HBK.out 2).1
          simp at hcx
          have HY0 : Hid (Two w (fun y => y = nb) g m wa S (R.puts (Al.take 0)) u10 (askL x (actsL (L.take k)))) := hY
          go_wp2_with fail
          go_loopw [13, 86] (fun nv i wr => ∃ j : Nat, j ≤ An ∧ i = .int .i64 j ∧ nv = .int .i64 (R.putsN (Al.take j)) ∧ Hid (Two w (fun y => y = nb) g m wr S (R.puts (Al.take j)) u10 (askL x (actsL (L.take k)))) ∧ Hid (wr.heap[nb]? = some (.cells #[.int .i64 0, .int .i64 Ax, .slice Aa An Ac] 45 (0, 0)))) (fun _ i _ => An - (intOf i).toNat)
          case atStart => exact ⟨0, Nat.zero_le _, rfl, rfl, HY0, HBK⟩
          case round =>
            clear HY0 hcx
            obtain ⟨j, hj, rfl, rfl, HT, HB⟩ := hrel
            have hpl := putsN_le (Al.take j) R
            have hjl : (Al.take j).length ≤ j := List.length_take_le _ _
            by_cases hlj : j < An
            · obtain ⟨b, off, y, rfl, hc, HX⟩ := (HAS.out.below HT.out.toBelow (Nat.le_refl _)).ints (k := j) (by rw [HAL.out]; exact hlj)
              have HTJ := Lib.hid (take_snoc HX.out)
              clear HX
              have HR2 : Hid ((R.puts (Al.take j)).wl.length + (R.puts (Al.take j)).bl.length ≤ 900000) := HS.out.part _ (by omega) (by omega)
              have HPS : Hid (R.putsN (Al.take (j + 1)) = R.putsN (Al.take j) + if (R.puts (Al.take j)).color y = 0 then 1 else 0) := by show _ = _; rw [HTJ.out, putsN_snoc]
              obtain ⟨bb, hbb⟩ : ∃ bb, decide ((R.puts (Al.take j)).color y = 0) = bb := ⟨_, rfl⟩
              have HBB := Lib.hid hbb
              clear hbb
              go_wp2_with fail
              refine (put14T y _ HT.out HR2.out).mono ?_
              rintro e w4 ⟨rfl, ht, hk⟩
              rw [HBB.out]
              have HT4 : Hid (Two w (fun y => y = nb) g m w4 S (R.puts (Al.take (j + 1))) u10 (askL x (actsL (L.take k)))) := by rw [HTJ.out, puts_snoc]; exact ht
              have HB4 := Lib.hid ((hk nb rfl).trans HB.out)
              clear ht hk HT
              obtain ⟨pn, hpn⟩ : ∃ pn, pn = R.putsN (Al.take j) := ⟨_, rfl⟩
              rw [← hpn] at hpl HPS
              simp only [← hpn]
              have HPE := Lib.hid hpn
              clear hpn
              cases bb
              · have HQ : Hid (R.putsN (Al.take (j + 1)) = pn) := by show _ = _; rw [HPS.out, if_neg (by simpa using HBB.out)]; omega
                go_wp2
                go_roundw
                case rel => exact ⟨j + 1, by omega, by go_num, by rw [HQ.out], HT4, HB4⟩
                case measure => simp [intOf]; omega
              · have HQ : Hid (R.putsN (Al.take (j + 1)) = pn + 1) := by show _ = _; rw [HPS.out, if_pos (by simpa using HBB.out)]
                go_wp2
                go_roundw
                case rel => exact ⟨j + 1, by omega, by go_num, by rw [HQ.out], HT4, HB4⟩
                case measure => simp [intOf]; omega
            · have HTE : Hid (Al.take j = Al) := List.take_of_length_le (by rw [HAL.out]; omega)
              have HT2 : Hid (Two w (fun y => y = nb) g m wr S (R.puts Al) u10 (askL x (actsL (L.take k)))) := by have := HT.out; rw [HTE.out] at this; exact this
              rw [HTE.out] at hpl
              simp only [HTE.out]
              clear HT HTE
              have hcx := (cells_of_block HB.out 2).1
              simp at hcx
              obtain ⟨pn, hpn⟩ : ∃ pn, pn = R.putsN Al := ⟨_, rfl⟩
              rw [← hpn] at hpl HPN
              simp only [← hpn]
              clear hpn
              go_wp2_with fail
              refine (putT Aa An Ac Al _ HT2.out HAS.out HAL.out (HS.out.2.1.mono (by omega))).mono ?_
              rintro e w4 ⟨rfl, ht, hk⟩
              rw [HPN.out]
              have HT4 := Lib.hid ht
              have HB4 : Hid (w4.heap[nb]? = some (.cells #[.int .i64 0, .int .i64 Ax, .slice Aa An Ac] 45 (0, 0))) := (hk nb rfl).trans HB.out
              clear ht hk HT2
              go_wp2_with fail
              go_meet
              case rel => exact ⟨_, _, rfl, HSN, HT4, HB4⟩
        · have d0 : (Ak == 0) = false := by simpa using e0
          by_cases e1 : Ak = 1
          · subst e1
            have HSN := Lib.hid (HS.out.again Ax)
            obtain ⟨bb, hbb⟩ : ∃ bb, decide (R.color Ax = 2) = bb := ⟨_, rfl⟩
            have hba : decide (S.color Ax = 2) = bb := by rw [HS.out.1.same]; exact hbb
            have HBA := Lib.hid hba
            have HBB := Lib.hid hbb
            clear hba hbb
            have hcx := (cells_of_block HBK.out 1).1
            simp at hcx
            go_wp2_with fail
            refine wp_region_held_drew (S := fun W => W.cell? ⟨nb, 1, none⟩ = some (.int .i64 Ax)) (by kernel_rfl) hcx (fun hH => ?_)
            refine takeH 0 (v := ?_) rfl (by kernel_rfl) (by kernel_rfl) (by kernel_rfl) (fun _ _ _ h => h) (by rfl) ?_ (by assumption) ?_
            rotate_left
            · intro W hW
              go_simp
              try with_reducible rfl
            try simp only [Act.put, List.setIfInBounds_toArray, List.set_cons_zero, List.set_cons_succ]
            refine takeH 1 (v := ?_) rfl (by kernel_rfl) (by kernel_rfl) (by kernel_rfl) (fun _ _ _ h => h) (by rfl) ?_ (by assumption) ?_
            rotate_left
            · intro W hW
              go_simp
              try with_reducible rfl
            try simp only [Act.put, List.setIfInBounds_toArray, List.set_cons_zero, List.set_cons_succ]
            refine takeH 2 (v := ?_) rfl (by kernel_rfl) (by kernel_rfl) (by kernel_rfl) (fun _ _ _ h => h) (by rfl) ?_ (by assumption) ?_
            rotate_left
            · intro W hW
              go_simp
              try with_reducible rfl
            try simp only [Act.put, List.setIfInBounds_toArray, List.set_cons_zero, List.set_cons_succ]
            refine takeH 4 (v := ?_) rfl (by kernel_rfl) (by kernel_rfl) (by kernel_rfl) (fun _ _ _ h => h) (by rfl) ?_ (by assumption) ?_
            rotate_left
            · intro W hW
              go_simp
              try with_reducible rfl
            try simp only [Act.put, List.setIfInBounds_toArray, List.set_cons_zero, List.set_cons_succ]
            refine takeH 5 (v := ?_) rfl (by kernel_rfl) (by kernel_rfl) (by kernel_rfl) (fun _ _ _ h => h) (by rfl) ?_ (by assumption) ?_
            rotate_left
            · intro W hW
              go_simp
              try with_reducible rfl
            try simp only [Act.put, List.setIfInBounds_toArray, List.set_cons_zero, List.set_cons_succ]
            refine takeH 6 (v := ?_) rfl (by kernel_rfl) (by kernel_rfl) (by kernel_rfl) (fun _ _ _ h => h) (by rfl) ?_ (by assumption) ?_
            rotate_left
            · intro W hW
              go_simp
              try with_reducible rfl
            try simp only [Act.put, List.setIfInBounds_toArray, List.set_cons_zero, List.set_cons_succ]
            refine wpAnyH_ready (rs := [3]) (by kernel_rfl) (by simp) (readyH rfl (fun K hK => ?_) AllReadyH.nil)
            · rw [if_pos (by rfl)]
              go_simp
              refine (againT Ax _ (hY.out.drawn ⟨1, rfl⟩) hm0.out).mono ?_
              rintro e w4 ⟨rfl, ht, hk⟩
              rw [HBA.out]
              have HT4 := Lib.hid ht
              have HB4 : Hid (w4.heap[nb]? = some (.cells #[.int .i64 1, .int .i64 Ax, .slice Aa An Ac] 45 (0, 0))) := (hk nb rfl).trans HBK.out
              clear ht hk
              have hcx4 := (cells_of_block HB4.out 1).1
              simp at hcx4
              refine hK.out _ _ hcx4 (fun hH => ?_)
              clear hK K
              try simp only [Act.put, List.setIfInBounds_toArray, List.set_cons_zero, List.set_cons_succ]
              refine wpAnyH_ready (rs := [7]) (by kernel_rfl) (by simp) (readyH rfl (fun K hK => ?_) AllReadyH.nil)
              rw [if_pos (by rfl)]
              go_simp
              refine (again14T Ax _ HT4.out hr0.out).mono ?_
              rintro e w5 ⟨rfl, ht, hk⟩
              rw [HBB.out]
              have HT5 := Lib.hid ht
              have HB5 : Hid (w5.heap[nb]? = some (.cells #[.int .i64 1, .int .i64 Ax, .slice Aa An Ac] 45 (0, 0))) := (hk nb rfl).trans HB4.out
              clear ht hk
              have hcx5 := (cells_of_block HB5.out 1).1
              simp at hcx5
              refine hK.out _ _ hcx5 (fun hH => ?_)
              clear hK K
              try simp only [Act.put, List.setIfInBounds_toArray, List.set_cons_zero, List.set_cons_succ]
              cases bb
              all_goals
                refine takeH 8 (v := ?_) rfl (by kernel_rfl) (by kernel_rfl) (by kernel_rfl) (fun _ _ _ h => h) (by rfl) ?_ (by assumption) ?_
                rotate_left
                · intro W hW
                  go_simp
                  try with_reducible rfl
                try simp only [Act.put, List.setIfInBounds_toArray, List.set_cons_zero, List.set_cons_succ]
                refine wpAnyH_done (by kernel_rfl) ?_ _
                go_wp2_with fail
                go_meet
                case rel => exact ⟨_, _, rfl, HSN, HT5, HB5⟩
          · have d1 : (Ak == 1) = false := by simpa using e1
            by_cases e2 : Ak = 2
            · subst e2
              have HSN := Lib.hid HS.out.next
              have HNV : Hid (S.next.1 = R.next.1) := (same_next HS.out.1).2
              obtain ⟨y, bb, hyb⟩ : ∃ y bb, nextV S.next = .tuple #[.int .i64 y, .bool bb] := ⟨_, _, rfl⟩
              have hyr : nextR R.next = .tuple #[.int .i64 y, .bool bb] := by
                rw [← hyb]; unfold nextV nextR; rw [HNV.out]
              have HY1 := Lib.hid hyb
              have HY2 := Lib.hid hyr
              clear hyb hyr
              go_wp2_with fail
              refine (nextT _ hY.out hm0.out).mono ?_
              rintro e w4 ⟨rfl, ht, hk⟩
              rw [HY1.out]
              have HT4 := Lib.hid ht
              have HB4 : Hid (w4.heap[nb]? = some (.cells #[.int .i64 2, .int .i64 Ax, .slice Aa An Ac] 45 (0, 0))) := (hk nb rfl).trans HBK.out
              clear ht hk
              go_wp2_with fail
              refine (next14T _ HT4.out hr0.out).mono ?_
              rintro e w5 ⟨rfl, ht, hk⟩
              rw [HY2.out]
              have HT5 := Lib.hid ht
              have HB5 : Hid (w5.heap[nb]? = some (.cells #[.int .i64 2, .int .i64 Ax, .slice Aa An Ac] 45 (0, 0))) := (hk nb rfl).trans HB4.out
              clear ht hk
              cases bb
              all_goals
                go_wp2_with fail
                go_meet
                case rel => exact ⟨_, _, rfl, HSN, HT5, HB5⟩
            · have d2 : (Ak == 2) = false := by simpa using e2
              by_cases e3 : Ak = 3
              · subst e3
                have HSN := Lib.hid (HS.out.paint Ax)
                obtain ⟨bb, hbb⟩ : ∃ bb, decide (R.color Ax ≠ 2) = bb := ⟨_, rfl⟩
                have hba : decide (S.color Ax ≠ 2) = bb := by rw [HS.out.1.same]; exact hbb
                have HBA := Lib.hid hba
                have HBB := Lib.hid hbb
                clear hba hbb
                have hcx := (cells_of_block HBK.out 1).1
                simp at hcx
                go_wp2_with fail
                refine wp_region_held_drew (S := fun W => W.cell? ⟨nb, 1, none⟩ = some (.int .i64 Ax)) (by kernel_rfl) hcx (fun hH => ?_)
                refine takeH 0 (v := ?_) rfl (by kernel_rfl) (by kernel_rfl) (by kernel_rfl) (fun _ _ _ h => h) (by rfl) ?_ (by assumption) ?_
                rotate_left
                · intro W hW
                  go_simp
                  try with_reducible rfl
                try simp only [Act.put, List.setIfInBounds_toArray, List.set_cons_zero, List.set_cons_succ]
                refine takeH 1 (v := ?_) rfl (by kernel_rfl) (by kernel_rfl) (by kernel_rfl) (fun _ _ _ h => h) (by rfl) ?_ (by assumption) ?_
                rotate_left
                · intro W hW
                  go_simp
                  try with_reducible rfl
                try simp only [Act.put, List.setIfInBounds_toArray, List.set_cons_zero, List.set_cons_succ]
                refine takeH 2 (v := ?_) rfl (by kernel_rfl) (by kernel_rfl) (by kernel_rfl) (fun _ _ _ h => h) (by rfl) ?_ (by assumption) ?_
                rotate_left
                · intro W hW
                  go_simp
                  try with_reducible rfl
                try simp only [Act.put, List.setIfInBounds_toArray, List.set_cons_zero, List.set_cons_succ]
                refine takeH 4 (v := ?_) rfl (by kernel_rfl) (by kernel_rfl) (by kernel_rfl) (fun _ _ _ h => h) (by rfl) ?_ (by assumption) ?_
                rotate_left
                · intro W hW
                  go_simp
                  try with_reducible rfl
                try simp only [Act.put, List.setIfInBounds_toArray, List.set_cons_zero, List.set_cons_succ]
                refine takeH 5 (v := ?_) rfl (by kernel_rfl) (by kernel_rfl) (by kernel_rfl) (fun _ _ _ h => h) (by rfl) ?_ (by assumption) ?_
                rotate_left
                · intro W hW
                  go_simp
                  try with_reducible rfl
                try simp only [Act.put, List.setIfInBounds_toArray, List.set_cons_zero, List.set_cons_succ]
                refine takeH 6 (v := ?_) rfl (by kernel_rfl) (by kernel_rfl) (by kernel_rfl) (fun _ _ _ h => h) (by rfl) ?_ (by assumption) ?_
                rotate_left
                · intro W hW
                  go_simp
                  try with_reducible rfl
                try simp only [Act.put, List.setIfInBounds_toArray, List.set_cons_zero, List.set_cons_succ]
                refine wpAnyH_ready (rs := [3]) (by kernel_rfl) (by simp) (readyH rfl (fun K hK => ?_) AllReadyH.nil)
                · rw [if_pos (by rfl)]
                  go_simp
                  refine (paintT Ax _ (hY.out.drawn ⟨1, rfl⟩) hm0.out).mono ?_
                  rintro e w4 ⟨rfl, ht, hk⟩
                  rw [HBA.out]
                  have HT4 := Lib.hid ht
                  have HB4 : Hid (w4.heap[nb]? = some (.cells #[.int .i64 3, .int .i64 Ax, .slice Aa An Ac] 45 (0, 0))) := (hk nb rfl).trans HBK.out
                  clear ht hk
                  have hcx4 := (cells_of_block HB4.out 1).1
                  simp at hcx4
                  refine hK.out _ _ hcx4 (fun hH => ?_)
                  clear hK K
                  try simp only [Act.put, List.setIfInBounds_toArray, List.set_cons_zero, List.set_cons_succ]
                  refine wpAnyH_ready (rs := [7]) (by kernel_rfl) (by simp) (readyH rfl (fun K hK => ?_) AllReadyH.nil)
                  rw [if_pos (by rfl)]
                  go_simp
                  refine (paint14T Ax _ HT4.out hr0.out).mono ?_
                  rintro e w5 ⟨rfl, ht, hk⟩
                  rw [HBB.out]
                  have HT5 := Lib.hid ht
                  have HB5 : Hid (w5.heap[nb]? = some (.cells #[.int .i64 3, .int .i64 Ax, .slice Aa An Ac] 45 (0, 0))) := (hk nb rfl).trans HB4.out
                  clear ht hk
                  have hcx5 := (cells_of_block HB5.out 1).1
                  simp at hcx5
                  refine hK.out _ _ hcx5 (fun hH => ?_)
                  clear hK K
                  try simp only [Act.put, List.setIfInBounds_toArray, List.set_cons_zero, List.set_cons_succ]
                  cases bb
                  all_goals
                    refine takeH 8 (v := ?_) rfl (by kernel_rfl) (by kernel_rfl) (by kernel_rfl) (fun _ _ _ h => h) (by rfl) ?_ (by assumption) ?_
                    rotate_left
                    · intro W hW
                      go_simp
                      try with_reducible rfl
                    try simp only [Act.put, List.setIfInBounds_toArray, List.set_cons_zero, List.set_cons_succ]
                    refine wpAnyH_done (by kernel_rfl) ?_ _
                    go_wp2_with fail
                    go_meet
                    case rel => exact ⟨_, _, rfl, HSN, HT5, HB5⟩
              · have d3 : (Ak == 3) = false := by simpa using e3
                clear e0 e1 e2 e3
                go_wp2_with fail
                go_meet
                case rel => exact ⟨S, R, rfl, HS.out.none, hY, HBK⟩
      case rest =>
        obtain ⟨S', R', rfl, HS', HT', HB'⟩ := hcut
        have hsz1 := HLEN.out k (by omega)
        obtain ⟨M, hM⟩ : ∃ M, M = askL x (actsL (L.take k)) := ⟨_, rfl⟩
        rw [← hM] at HT' hsz1
        have HM := Lib.hid hM
        clear hM
        obtain ⟨mn, hmn⟩ : ∃ mn, mn = M.length := ⟨_, rfl⟩
        rw [← hmn] at hsz1
        have HMN := Lib.hid hmn.symm
        have HV : Hid (wc.ownsRow w.heap.size 3 1 u10 mn (ints M)) := by rw [hmn]; exact HT'.out.own
        clear hmn
        obtain ⟨oa, oc, rfl, -, hoc, -⟩ := ownsRow_seq HV.out
        have hcx := (cells_of_block HB'.out 1).1
        have hcy := (cells_of_block HB'.out 2).1
        simp at hcx hcy
        go_wp2_with fail
        refine wp_region_held_drew (S := fun W => W.cell? ⟨nb, 1, none⟩ = some (.int .i64 Ax) ∧ W.cell? ⟨nb, 2, none⟩ = some (.slice Aa An Ac)) (by kernel_rfl) ⟨hcx, hcy⟩ (fun hH => ?_)
        refine takeH 0 (v := ?_) rfl (by kernel_rfl) (by kernel_rfl) (by kernel_rfl) (fun _ _ _ h => h) (by rfl) ?_ (by assumption) ?_
        rotate_left
        · intro W hW
          go_simp
          try with_reducible rfl
        try simp only [Act.put, List.setIfInBounds_toArray, List.set_cons_zero, List.set_cons_succ]
        refine takeH 1 (v := ?_) rfl (by kernel_rfl) (by kernel_rfl) (by kernel_rfl) (fun _ _ _ h => h) (by rfl) ?_ (by assumption) ?_
        rotate_left
        · intro W hW
          go_simp
          try with_reducible rfl
        try simp only [Act.put, List.setIfInBounds_toArray, List.set_cons_zero, List.set_cons_succ]
        refine takeH 2 (v := ?_) rfl (by kernel_rfl) (by kernel_rfl) (by kernel_rfl) (fun _ _ _ h => h) (by rfl) ?_ (by assumption) ?_
        rotate_left
        · intro W hW
          go_simp
          try with_reducible rfl
        try simp only [Act.put, List.setIfInBounds_toArray, List.set_cons_zero, List.set_cons_succ]
        refine takeH 5 (v := ?_) rfl (by kernel_rfl) (by kernel_rfl) (by kernel_rfl) (fun _ _ _ h => h) (by rfl) ?_ (by assumption) ?_
        rotate_left
        · intro W hW
          go_simp
          try with_reducible rfl
        try simp only [Act.put, List.setIfInBounds_toArray, List.set_cons_zero, List.set_cons_succ]
        refine takeH 6 (v := ?_) rfl (by kernel_rfl) (by kernel_rfl) (by kernel_rfl) (fun _ _ _ h => h) (by rfl) ?_ (by assumption) ?_
        rotate_left
        · intro W hW
          go_simp
          try with_reducible rfl
        try simp only [Act.put, List.setIfInBounds_toArray, List.set_cons_zero, List.set_cons_succ]
        refine wpAnyH_ready (rs := [3]) (by kernel_rfl) (by simp) (readyH rfl (fun K hK => ?_) AllReadyH.nil)
        rw [if_pos (by rfl)]
        go_simp
        have hnbl : nb < wc.heap.size := (Array.getElem?_eq_some_iff.1 HB'.out).1
        refine hK.out _ _ ⟨(World.cell?_alloc_lt _ _ _ hnbl).trans hcx, (World.cell?_alloc_lt _ _ _ hnbl).trans hcy⟩ (fun hH => ?_)
        clear hK K
        try simp only [Act.put, List.setIfInBounds_toArray, List.set_cons_zero, List.set_cons_succ]
        have HTa : Hid (Two w (fun y => y = nb) g m (wc.alloc (.cells #[.int .i64 Ax] 3)).drew S' R' (.slice oa mn oc) M) := (HT'.out.alloc _).drawn ⟨1, rfl⟩
        have HVa : Hid ((wc.alloc (.cells #[.int .i64 Ax] 3)).drew.ownsRow w.heap.size 3 1 (.slice oa mn oc) mn (ints M)) := World.ownsRow.drew (HV.out.alloc _)
        have HSa : Hid (SeqAt (wc.alloc (.cells #[.int .i64 Ax] 3)).drew (some ⟨wc.heap.size, 0, none⟩) (ints [Ax])) := (seqAt_block (cs := #[iv Ax]) (heap_alloc_new wc _) : SeqAt (wc.alloc _) _ _)
        have HBa : Hid ((wc.alloc (.cells #[.int .i64 Ax] 3)).drew.heap[nb]? = wc.heap[nb]?) := Below.heap_alloc _ _ _ hnbl
        refine wpAnyH_ready (rs := [4]) (by kernel_rfl) (by simp) (readyH rfl (fun K hK => ?_) AllReadyH.nil)
        rw [if_pos (by rfl)]
        refine wpO_append_seq (.tmp 144) (.tmp 147) 22 rfl w.heap.size 3 i0 _ 1 8 Try.underlying22 hi hz0 hz1 hz2 rfl (by decide) (.slice oa mn oc) mn (ints M) rfl HVa.out (some ⟨wc.heap.size, 0, none⟩) 1 1 (ints [Ax]) rfl (by simp) rfl HSa.out (ints_oneCell .i64 [Ax]) (by unfold maxLen; omega) (by omega) HTa.out.lt ?_
        intro v4 w4 hown hgrow hat
        have hown4 : own3 w4 3 w.heap.size v4 (M ++ [Ax]) := by
          unfold own3
          have e : ints (M ++ [Ax]) = ints M ++ ints [Ax] := by simp [ints]
          rw [List.length_append, HMN.out, e]; exact hown
        obtain ⟨ht4, hk4⟩ := HTa.out.asked hown4 hgrow (hat.imp id (fun e k hk => by rw [e] at hk; cases hk; exact Nat.le_refl _))
        obtain ⟨va, vc, rfl, -, hvc, -⟩ := ownsRow_seq hown
        have HT4 := Lib.hid ht4
        have HV4 : Hid (w4.ownsRow w.heap.size 3 1 (.slice va (mn + 1) vc) (mn + 1) (ints (M ++ [Ax]))) := by
          have e : ints (M ++ [Ax]) = ints M ++ ints [Ax] := by simp [ints]
          rw [e]; exact hown
        have HB4 : Hid (w4.heap[nb]? = some (.cells #[.int .i64 Ak, .int .i64 Ax, .slice Aa An Ac] 45 (0, 0))) := (hk4 nb rfl).trans (HBa.out.trans HB'.out)
        clear hown hgrow hat hown4 ht4 hk4 HTa HVa HSa HBa
        have hcx4 := (cells_of_block HB4.out 1).1
        have hcy4 := (cells_of_block HB4.out 2).1
        simp at hcx4 hcy4
        refine hK.out _ _ ⟨hcx4, hcy4⟩ (fun hH => ?_)
        clear hK K
        try simp only [Act.put, List.setIfInBounds_toArray, List.set_cons_zero, List.set_cons_succ]
        have HS4 : Hid (SeqAt w4 Aa (ints Al)) := (HOK.out.1 : SeqAt w Aa (ints Al)).below HT4.out.toBelow (Nat.le_refl _)
        have HAL : Hid (Al.length = An) := HOK.out.2.1
        refine wpAnyH_ready (rs := [7]) (by kernel_rfl) (by simp) (readyH rfl (fun K hK => ?_) AllReadyH.nil)
        rw [if_pos (by rfl)]
        refine wpO_append_seq (.tmp 148) (.tmp 150) 22 rfl w.heap.size 3 i0 _ 1 8 Try.underlying22 hi hz0 hz1 hz2 rfl (by decide) (.slice va (mn + 1) vc) (mn + 1) (ints (M ++ [Ax])) rfl HV4.out Aa An Ac (ints Al) rfl HOK.out.2.2.1.2 (by rw [ints_length, HAL.out]; omega) HS4.out (ints_oneCell .i64 Al) (by unfold maxLen; omega) (by omega) HT4.out.lt ?_
        intro v5 w5 hown hgrow hat
        have hown5 : own3 w5 3 w.heap.size v5 (M ++ [Ax] ++ Al) := by
          unfold own3
          have e : ints (M ++ [Ax] ++ Al) = ints (M ++ [Ax]) ++ ints Al := by simp [ints]
          rw [List.length_append, List.length_append, HMN.out, HAL.out, e]; exact hown
        obtain ⟨ht5, hk5⟩ := HT4.out.asked hown5 hgrow (hat.imp id (fun e k hk => by rw [e] at hk; cases hk; exact Nat.le_refl _))
        have HT5 : Hid (Two w (fun _ => False) g m w5 S' R' v5 (askL x (actsL (L.take (k + 1))))) := by
          have e : askL x (actsL (L.take (k + 1))) = M ++ [Ax] ++ Al := by
            rw [HTK.out]
            unfold actsL
            rw [List.map_append, List.map_cons, List.map_nil, askL_snoc, HM.out]
            rfl
          rw [e]; exact ht5.drop
        have HB5 : Hid (w5.heap[nb]? = some (.cells #[.int .i64 Ak, .int .i64 Ax, .slice Aa An Ac] 45 (0, 0))) := (hk5 nb rfl).trans HB4.out
        obtain ⟨va5, vc5, rfl, -, -, -⟩ := ownsRow_seq hown
        clear hown hgrow hat hown5 ht5 hk5
        have hcx5 := (cells_of_block HB5.out 1).1
        have hcy5 := (cells_of_block HB5.out 2).1
        simp at hcx5 hcy5
        refine hK.out _ _ ⟨hcx5, hcy5⟩ (fun hH => ?_)
        clear hK K
        try simp only [Act.put, List.setIfInBounds_toArray, List.set_cons_zero, List.set_cons_succ]
        refine takeH 8 (v := ?_) rfl (by kernel_rfl) (by kernel_rfl) (by kernel_rfl) (fun _ _ _ h => h) (by rfl) ?_ (by assumption) ?_
        rotate_left
        · intro W hW
          go_simp
          try with_reducible rfl
        try simp only [Act.put, List.setIfInBounds_toArray, List.set_cons_zero, List.set_cons_succ]
        refine wpAnyH_done (by kernel_rfl) ?_ _
        go_wp2_with fail
        go_roundg (gk - 1)
        case measure => omega
        case rel => exact ⟨k + 1, S', R', by omega, by go_num, HS', HT5⟩
    · have hkn : k = n := by omega
      have HTL : Hid (actsL (L.take k) = actsL L) := by show _ = _; rw [List.take_of_length_le (by rw [HL.out]; omega)]
      rw [HTL.out] at HT
      have hsz1 := HLEN.out k (by omega)
      rw [HTL.out] at hsz1
      obtain ⟨M, hM⟩ : ∃ M, M = askL x (actsL L) := ⟨_, rfl⟩
      rw [← hM] at HT hsz1
      clear hM HTL
      obtain ⟨mn, hmn⟩ : ∃ mn, mn = M.length := ⟨_, rfl⟩
      rw [← hmn] at hsz1
      have HMN := Lib.hid hmn.symm
      have HV : Hid (wr.ownsRow w.heap.size 3 1 u10 mn (ints M)) := by rw [hmn]; exact HT.out.own
      clear hmn
      obtain ⟨oa, oc, rfl, hso, hoc, -⟩ := ownsRow_seq HV.out
      have HO := Lib.hid hso
      clear hso
      have hr0 : Hid (R.wl.length + R.bl.length ≤ 900000) := by have := HS.out.2.2.2; unfold RS.size at this; show _ ≤ _; omega
      have HTB : Hid (S.tab.length ≤ 1000000) := by have := HS.out.2.2.1; show _ ≤ _; omega
      have hlt2 : ¬ k < n := hlt
      clear hkn hgk
      go_wp2_with fail
      go_loop [155] (fun i => ∃ k : Nat, k ≤ mn ∧ i = .int .i64 k) (fun i => mn - (intOf i).toNat)
      case atStart => exact ⟨0, Nat.zero_le _, rfl⟩
      case round =>
        obtain ⟨j, hj, rfl⟩ := hrel
        by_cases hlj : j < mn
        · obtain ⟨b, off, y, rfl, hc, HX⟩ := HO.out.ints (k := j) (by rw [HMN.out]; exact hlj)
          have HCE : Hid (S.color y = R.color y) := HS.out.1.same y
          go_wp2_with fail
          refine (colorT y _ HT.out).mono ?_
          rintro e w4 ⟨rfl, rfl⟩
          rw [HCE.out]
          go_wp2_with fail
          refine (color14T y _ HT.out hr0.out).mono ?_
          rintro e w4 ⟨rfl, rfl⟩
          go_wp2
          go_round
          case rel => exact ⟨j + 1, by omega, by go_num⟩
          case measure => simp [intOf]; omega
        · obtain ⟨wa, wlc, ba, bc, hm0, hm1, hbs⟩ := HT.out.cells
          have HWT : Hid (S.wait = R.wl.length) := HS.out.1.cnt
          have HBS := Lib.hid hbs
          have HBL : Hid (∀ y, S.color y = 2 ↔ y ∈ R.bl) := HS.out.1.black
          have HBW := Lib.hid HT.out.toBelow
          obtain ⟨F, ⟨G, hG, hGl⟩, -⟩ := HT.out
          have HGR := Lib.hid hG
          clear hbs hG hGl
          generalize R.wl.length = wln at *
          have hbl0 : R.bl.length ≤ 900000 := by have := hr0.out; omega
          obtain ⟨bln, hbl⟩ : ∃ bln, bln = R.bl.length := ⟨_, rfl⟩
          rw [← hbl] at hm1 hbl0
          have HBN := Lib.hid hbl.symm
          clear hbl
          go_wp2_with fail
          refine wp_region_held_drew (S := fun W => W.cell? ⟨m, 0, none⟩ = some (.slice wa wln wlc) ∧ W.cell? ⟨m, 1, none⟩ = some (.slice ba bln bc)) (by kernel_rfl) ⟨hm0, hm1⟩ (fun hH => ?_)
          refine takeH 0 (v := ?_) rfl (by kernel_rfl) (by kernel_rfl) (by kernel_rfl) (fun _ _ _ h => h) (by rfl) ?_ (by assumption) ?_
          rotate_left
          · intro W hW
            go_simp
            try with_reducible rfl
          try simp only [Act.put, List.setIfInBounds_toArray, List.set_cons_zero, List.set_cons_succ]
          refine takeH 2 (v := ?_) rfl (by kernel_rfl) (by kernel_rfl) (by kernel_rfl) (fun _ _ _ h => h) (by rfl) ?_ (by assumption) ?_
          rotate_left
          · intro W hW
            go_simp
            try with_reducible rfl
          try simp only [Act.put, List.setIfInBounds_toArray, List.set_cons_zero, List.set_cons_succ]
          refine takeH 3 (v := ?_) rfl (by kernel_rfl) (by kernel_rfl) (by kernel_rfl) (fun _ _ _ h => h) (by rfl) ?_ (by assumption) ?_
          rotate_left
          · intro W hW
            go_simp
            try with_reducible rfl
          try simp only [Act.put, List.setIfInBounds_toArray, List.set_cons_zero, List.set_cons_succ]
          refine takeH 4 (v := ?_) rfl (by kernel_rfl) (by kernel_rfl) (by kernel_rfl) (fun _ _ _ h => h) (by rfl) ?_ (by assumption) ?_
          rotate_left
          · intro W hW
            go_simp
            try with_reducible rfl
          try simp only [Act.put, List.setIfInBounds_toArray, List.set_cons_zero, List.set_cons_succ]
          refine takeH 5 (v := ?_) rfl (by kernel_rfl) (by kernel_rfl) (by kernel_rfl) (fun _ _ _ h => h) (by rfl) ?_ (by assumption) ?_
          rotate_left
          · intro W hW
            go_simp
            try with_reducible rfl
          try simp only [Act.put, List.setIfInBounds_toArray, List.set_cons_zero, List.set_cons_succ]
          refine takeH 6 (v := ?_) rfl (by kernel_rfl) (by kernel_rfl) (by kernel_rfl) (fun _ _ _ h => h) (by rfl) ?_ (by assumption) ?_
          rotate_left
          · intro W hW
            go_simp
            try with_reducible rfl
          try simp only [Act.put, List.setIfInBounds_toArray, List.set_cons_zero, List.set_cons_succ]
          refine wpAnyH_ready (rs := [1]) (by kernel_rfl) (by simp) (readyH rfl (fun K hK => ?_) AllReadyH.nil)
          rw [if_pos (by rfl)]
          go_simp
          have HGR1 : Hid (GrayAt 68 wr.drew g G S) := HGR.out.drawn ⟨1, rfl⟩
          have HBS1 : Hid (SeqAt wr.drew ba (ints R.bl)) := HBS.out.drawn ⟨1, rfl⟩
          have HBW1 : Hid (Below w.heap.size w wr.drew) := HBW.out.drew
          refine (glen_any _ HGR1.out).mono ?_
          rintro e w4 ⟨rfl, rfl⟩
          rw [HWT.out]
          refine hK.out _ _ hH (fun hH => ?_)
          clear hK K
          try simp only [Act.put, List.setIfInBounds_toArray, List.set_cons_zero, List.set_cons_succ]
          refine takeH 7 (v := ?_) rfl (by kernel_rfl) (by kernel_rfl) (by kernel_rfl) (fun _ _ _ h => h) (by rfl) ?_ (by assumption) ?_
          rotate_left
          · intro W hW
            go_simp
            try with_reducible rfl
          try simp only [Act.put, List.setIfInBounds_toArray, List.set_cons_zero, List.set_cons_succ]
          refine takeH 8 (v := ?_) rfl (by kernel_rfl) (by kernel_rfl) (by kernel_rfl) (fun _ _ _ h => h) (by rfl) ?_ (by assumption) ?_
          rotate_left
          · intro W hW
            go_simp
            try with_reducible rfl
          try simp only [Act.put, List.setIfInBounds_toArray, List.set_cons_zero, List.set_cons_succ]
          refine takeH 9 (v := ?_) rfl (by kernel_rfl) (by kernel_rfl) (by kernel_rfl) (fun _ _ _ h => h) (by rfl) ?_ (by assumption) ?_
          rotate_left
          · intro W hW
            go_simp
            try with_reducible rfl
          try simp only [Act.put, List.setIfInBounds_toArray, List.set_cons_zero, List.set_cons_succ]
          refine takeH 11 (v := ?_) rfl (by kernel_rfl) (by kernel_rfl) (by kernel_rfl) (fun _ _ _ h => h) (by rfl) ?_ (by assumption) ?_
          rotate_left
          · intro W hW
            go_simp
            try with_reducible rfl
          try simp only [Act.put, List.setIfInBounds_toArray, List.set_cons_zero, List.set_cons_succ]
          refine takeH 12 (v := ?_) rfl (by kernel_rfl) (by kernel_rfl) (by kernel_rfl) (fun _ _ _ h => h) (by rfl) ?_ (by assumption) ?_
          rotate_left
          · intro W hW
            go_simp
            try with_reducible rfl
          try simp only [Act.put, List.setIfInBounds_toArray, List.set_cons_zero, List.set_cons_succ]
          refine takeH 13 (v := ?_) rfl (by kernel_rfl) (by kernel_rfl) (by kernel_rfl) (fun _ _ _ h => h) (by rfl) ?_ (by assumption) ?_
          rotate_left
          · intro W hW
            go_simp
            try with_reducible rfl
          try simp only [Act.put, List.setIfInBounds_toArray, List.set_cons_zero, List.set_cons_succ]
          refine takeH 14 (v := ?_) rfl (by kernel_rfl) (by kernel_rfl) (by kernel_rfl) (fun _ _ _ h => h) (by rfl) ?_ (by assumption) ?_
          rotate_left
          · intro W hW
            go_simp
            try with_reducible rfl
          try simp only [Act.put, List.setIfInBounds_toArray, List.set_cons_zero, List.set_cons_succ]
          refine wpAnyH_ready (rs := [10]) (by kernel_rfl) (by simp) (readyH rfl (fun K hK => ?_) AllReadyH.nil)
          rw [if_pos (by rfl)]
          go_simp
          refine (done_any _ HGR1.out HTB.out).mono ?_
          rintro e w5 ⟨vd, zs, rfl, ho5, hr5, hm5, hb5⟩
          obtain ⟨zn, hzn⟩ : ∃ zn, zn = zs.length := ⟨_, rfl⟩
          have ho5' : w5.ownsRow wr.heap.size 3 1 vd zn (ints zs) := by rw [hzn]; exact ho5
          have HZN := Lib.hid hzn.symm
          obtain ⟨da, dc, rfl, hsd, -, -⟩ := ownsRow_seq ho5'
          have HD5 := Lib.hid hsd
          have HR5 := Lib.hid hr5
          have HM5 : Hid (∀ y, y ∈ zs ↔ y ∈ R.bl) := fun y => (hm5 y).trans (HBL.out y)
          have HBS5 := Lib.hid (HBS1.out.below hb5 (Nat.le_refl _))
          have HB5 : Hid (Below w.heap.size w w5) := HBW1.out.trans (hb5.mono HBW1.out.size)
          have hH5 : w5.cell? ⟨m, 0, none⟩ = some (.slice wa wln wlc) ∧ w5.cell? ⟨m, 1, none⟩ = some (.slice ba bln bc) :=
            ⟨(hb5.cell (p := ⟨m, 0, none⟩) (World.block_lt_of_cell? _ _ hH.1)).trans hH.1, (hb5.cell (p := ⟨m, 1, none⟩) (World.block_lt_of_cell? _ _ hH.2)).trans hH.2⟩
          clear ho5 ho5' hr5 hm5 hb5 hsd hzn
          refine hK.out _ _ hH5 (fun hH => ?_)
          clear hK K
          try simp only [Act.put, List.setIfInBounds_toArray, List.set_cons_zero, List.set_cons_succ]
          refine wpAnyH_ready (rs := [15]) (by kernel_rfl) (by simp) (readyH rfl (fun K hK => ?_) AllReadyH.nil)
          rw [if_pos (by rfl)]
          go_simp
          refine (sorted13_any ba bln bc R.bl _ HBS5.out HBN.out (by omega)).mono ?_
          rintro e w6 ⟨vs, zs2, rfl, ho6, hr6, hm6, hb6⟩
          have hzz : zs2 = zs := rises_eq hr6 HR5.out (fun z => (hm6 z).trans (HM5.out z).symm)
          subst hzz
          have ho6' : w6.ownsRow w5.heap.size 3 1 vs zn (ints zs2) := by rw [← HZN.out]; exact ho6
          obtain ⟨sa, sc, rfl, hss, -, -⟩ := ownsRow_seq ho6'
          have HS6 := Lib.hid hss
          have HD6 := Lib.hid (HD5.out.below hb6 (Nat.le_refl _))
          have HB6 : Hid (Below w.heap.size w w6) := HB5.out.trans (hb6.mono HB5.out.size)
          have hH6 : w6.cell? ⟨m, 0, none⟩ = some (.slice wa wln wlc) ∧ w6.cell? ⟨m, 1, none⟩ = some (.slice ba bln bc) :=
            ⟨(hb6.cell (p := ⟨m, 0, none⟩) (World.block_lt_of_cell? _ _ hH.1)).trans hH.1, (hb6.cell (p := ⟨m, 1, none⟩) (World.block_lt_of_cell? _ _ hH.2)).trans hH.2⟩
          have hzle : zn ≤ 900000 := by
            have h1 := length_of_sub (hr6.imp (fun {a b} (h : a < b) => (by omega : a ≠ b))) (fun y hy => (hm6 y).1 hy)
            rw [HZN.out, HBN.out] at h1
            omega
          clear ho6 ho6' hr6 hm6 hb6 hss
          refine hK.out _ _ hH6 (fun hH => ?_)
          clear hK K
          try simp only [Act.put, List.setIfInBounds_toArray, List.set_cons_zero, List.set_cons_succ]
          refine wpAnyH_ready (rs := [16]) (by kernel_rfl) (by simp) (readyH rfl (fun K hK => ?_) AllReadyH.nil)
          rw [if_pos (by rfl)]
          go_simp
          refine (same_any da sa zn dc zn sc zs2 zs2 _ HD6.out HS6.out HZN.out HZN.out (by omega)).mono ?_
          rintro e w7 ⟨rfl, hd⟩
          rw [show sameL zs2 zs2 = true from (sameL_iff _ _).2 rfl]
          have HB7 : Hid (Below w.heap.size w w7) := HB6.out.trans (hd.below _)
          have hH7 : w7.cell? ⟨m, 0, none⟩ = some (.slice wa wln wlc) ∧ w7.cell? ⟨m, 1, none⟩ = some (.slice ba bln bc) := by obtain ⟨q, rfl⟩ := hd; exact hH
          clear hd
          refine hK.out _ _ hH7 (fun hH => ?_)
          clear hK K
          try simp only [Act.put, List.setIfInBounds_toArray, List.set_cons_zero, List.set_cons_succ]
          refine takeH 17 (v := ?_) rfl (by kernel_rfl) (by kernel_rfl) (by kernel_rfl) (fun _ _ _ h => h) (by rfl) ?_ (by assumption) ?_
          rotate_left
          · intro W hW
            go_simp
            try with_reducible rfl
          try simp only [Act.put, List.setIfInBounds_toArray, List.set_cons_zero, List.set_cons_succ]
          refine takeH 18 (v := ?_) rfl (by kernel_rfl) (by kernel_rfl) (by kernel_rfl) (fun _ _ _ h => h) (by rfl) ?_ (by assumption) ?_
          rotate_left
          · intro W hW
            go_simp
            try with_reducible rfl
          try simp only [Act.put, List.setIfInBounds_toArray, List.set_cons_zero, List.set_cons_succ]
          refine wpAnyH_done (by kernel_rfl) ?_ _
          go_wp2
          go_ret
          exact ⟨rfl, HB7.out⟩

set_option maxRecDepth 100000 in
theorem grayacts_big (a : Option Addr) (n c : Nat) (L : List AV) (x : Int) (w : World) (h : SeqAt w a (acells L)) (hl : L.length = n) (hm : n ≤ 9223372036854775807) (hA : ∀ A ∈ L, A.ok w) (hg2 : greatA L = true) :
    Calls Try.prog 8 #[.slice a n c, .int .i64 x] w fun e w' => e = .returned (.bool true) ∧ Below w.heap.size w w' := by
  have H := Lib.hid h; clear h
  have HL := Lib.hid hl; clear hl
  have HAN : Hid (∀ A ∈ L, A.n ≤ 9223372036854775807) := fun A hm => by have := (hA A hm).2.2.2; unfold maxLen at this; omega
  have HG := Lib.hid hg2
  clear hg2 hA
  go_enter Try.func8, Try.ntmps8
  go_wp2_with fail
  refine (gnil_next _).mono ?_
  rintro e w' ⟨rfl, rfl⟩
  go_wp2_with fail
  refine (newS _).mono ?_
  rintro e w1 ⟨g, rfl, hg⟩
  have HI := Lib.hid hg; clear hg
  go_wp2_with fail
  refine (alive14_any _).mono ?_
  rintro e w2 ⟨rfl, hb⟩
  have HI2 := Lib.hid (HI.out.below hb)
  clear HI hb
  go_wp2_with fail
  refine (gnil_put (some ⟨w2.heap.size, 0, none⟩) 1 1 [1] _ ?h1 rfl (by decide)).mono ?_
  case h1 => exact seqAt_block (cs := #[iv 1]) (heap_alloc_new w2 _)
  rintro e w' ⟨rfl, rfl⟩
  have HI3 := Lib.hid (HI2.out.alloc (.cells #[.int .i64 1] 3))
  clear HI2
  go_wp2_with fail
  refine (gnil_again _ _).mono ?_
  rintro e w' ⟨rfl, rfl⟩
  go_wp2_with fail
  refine (gnil_color _ _).mono ?_
  rintro e w' ⟨rfl, rfl⟩
  go_wp2_with fail
  refine (gnil_len _).mono ?_
  rintro e w' ⟨rfl, rfl⟩
  go_wp2_with fail
  refine (gnil_done _).mono ?_
  rintro e w' ⟨rfl, rfl⟩
  go_wp2_with fail
  refine (gnil_paint _ _).mono ?_
  rintro e w' ⟨rfl, rfl⟩
  go_wp2_with fail
  refine (great14_any a n c L _ (H.out.below HI3.out.toBelow (Nat.le_refl _)) HL.out hm HAN.out).mono ?_
  rintro e w3 ⟨rfl, hb⟩
  rw [HG.out]
  have HI4 := Lib.hid (HI3.out.below hb)
  clear HI3 hb
  go_wp2
  go_ret
  exact ⟨rfl, HI4.out.toBelow⟩

theorem grayacts_row (a0 : Option Addr) (n0 c0 : Nat) (z0 : List AV) (x1 : Int) (w : World) (hz0 : SeqAt w a0 (acells z0)) (hl0 : z0.length = n0) (hc0 : n0 ≤ c0) (hm0 : n0 ≤ maxLen) (hA0 : ∀ A ∈ z0, A.ok w) (w1 : (Lit.int .i64 x1).wf = true) :
    Calls Try.prog 8 #[.slice a0 n0 c0, .int .i64 x1] w fun e w' => e = .returned (.bool true) ∧ Below w.heap.size w w' := by
  unfold maxLen at hm0
  by_cases hg : greatA z0 = true
  · exact grayacts_big a0 n0 c0 z0 x1 w hz0 hl0 (by omega) hA0 hg
  · exact grayacts_small a0 n0 c0 z0 x1 w hz0 hl0 (by omega) hA0 (by simpa using hg)
end Go.Proofs.Ytcfapidalngebaa
