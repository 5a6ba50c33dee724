/-
  turnrowlaw08.BagTexts: the walk.
-/
import Derived.Test.YthfdigjbmoconaaBagS4
import Derived.Test.YthfdigjbmoconaaRound
import Derived.Test.YthfdigjbmoconaaBagActs
import Derived.Laws.Bits128
import Derived.Laws.EntriesVeiled
set_option linter.unusedSimpArgs false
set_option linter.unusedVariables false
namespace Go.Proofs.Ythfdigjbmoconaa
open Go.RowKit Go.Shelf Go.Tr

theorem setL_nil : setL [] = [] := List.eq_nil_iff_forall_not_mem.2 (fun x hx => by have := mem_setL.1 hx; simp at this)
theorem infoStrB : (Try.prog.info? 9).map (fun i => (i.zero, i.size, i.bytes)) = some (some (.string ⟨#[]⟩), 1, 16) := by kernel_rfl
theorem seqAt_strs {w : World} {a : Option Addr} {zs : List Int} (h : SeqAt w a (strs zs)) {k : Nat} (hk : k < zs.length) :
    ∃ b off z, a = some ⟨b, off, none⟩ ∧ w.cell? ⟨b, off + k, none⟩ = some (.string (tx z)) ∧ Hid (zs[k]? = some z) := by
  obtain ⟨b, off, e, hc⟩ := h (by rw [strs_length]; omega)
  refine ⟨b, off, zs[k], e, ?_, List.getElem?_eq_getElem hk⟩
  rw [hc k (by rw [strs_length]; exact hk)]
  simp [strs, List.getD, hk, sv]
theorem prefix_snoc {pre ys : List Int} {x z : Int} (h : pre.map tx <+: ys.map tx) (hz : ys[pre.length]? = some z) (e : tx x = tx z) : (pre ++ [x]).map tx <+: ys.map tx := by
  rw [List.prefix_iff_eq_take] at h ⊢
  have h1 : (ys.map tx)[pre.length]? = some (tx z) := by rw [List.getElem?_map, hz]; rfl
  have h2 := take_snoc h1
  rw [List.map_append, List.length_append, List.length_map]
  simp only [List.map_cons, List.map_nil, List.length_cons, List.length_nil, Nat.zero_add]
  rw [h2, e]
  rw [List.length_map] at h
  rw [← h]
theorem prefix_last {pre ys : List Int} {x z : Int} (h : (pre ++ [x]).map tx <+: ys.map tx) (hz : ys[pre.length]? = some z) : tx x = tx z := by
  obtain ⟨t, ht⟩ := h
  have h1 : (ys.map tx)[pre.length]? = some (tx z) := by rw [List.getElem?_map, hz]; rfl
  rw [← ht, List.getElem?_append_left (by simp)] at h1
  simpa using h1
theorem putL_in7 {zs : List Int} {x : Int} (h : In7 zs) (hx : 0 ≤ x ∧ x ≤ 127) : In7 (putL zs x) := fun z hz => (mem_putL.1 hz).elim (h z) (fun e => by rw [e]; exact hx)
theorem outL_in7 {zs : List Int} {x : Int} (h : In7 zs) : In7 (outL zs x) := fun z hz => h z (mem_outL.1 hz).1

set_option maxRecDepth 1000000 in
set_option maxHeartbeats 4000000 in
theorem bagtexts_small (a1 : Option Addr) (n1 c1 : Nat) (L : List AV) (w : World)
    (h1 : SeqAt w a1 (acells L)) (hl1 : L.length = n1) (hm1 : n1 ≤ 9223372036854775807) (hA : ∀ A ∈ L, A.ok w) (hg2 : greatA L = false) :
    Calls Try.prog 7 #[.slice a1 n1 c1] w fun e w' => e = .returned (.bool true) ∧ Below w.heap.size w w' := by
  have H := Lib.hid h1; clear h1
  have HL := Lib.hid hl1; clear hl1
  have HAN : Hid (∀ A ∈ L, A.n ≤ 9223372036854775807) := fun A hm => by have := (hA A hm).2.2.2; unfold maxLen at this; omega
  have HA := Lib.hid hA
  have hn5 : n1 ≤ 50 := by
    unfold greatA at hg2
    rw [HL.out] at hg2
    simp at hg2
    exact hg2.1
  have HG := Lib.hid hg2
  clear hg2 hA
  refine (callsIn_wide (n := 3)).1 ?_
  refine callsIn_of_wp_marks Try.func7 rfl trivial ?_ rfl
  refine wpIn_wide.2 (wp_noPanic ?_)
  simp only [Try.ntmps7, List.size_toArray, List.length_cons, List.length_nil, Nat.reduceAdd, Nat.reduceSub, Array.replicate_succ, Array.replicate_zero, List.push_toArray, List.append_toArray, List.nil_append, List.cons_append]
  go_wp2_with fail
  refine (alive08_any _).mono ?_
  rintro e w1 ⟨rfl, hb⟩
  have HB : Hid (Below w.heap.size w w1) := ((Below.refl _ w).alloc (Nat.le_refl _) _).trans (hb.mono (by simp))
  have hbk : w1.heap[w.heap.size]? = some (.cells #[.bool false] 4 (0, 0)) := (hb.block _ (by simp)).trans (heap_alloc_new w _)
  have HR := Lib.hid hbk
  clear hb hbk
  go_wp2_with fail
  refine (great08_any a1 n1 c1 L _ (H.out.below HB.out (Nat.le_refl _)) HL.out hm1 HAN.out).mono ?_
  rintro e w2 ⟨rfl, hb⟩
  rw [HG.out]
  have HB2 : Hid (Below w.heap.size w w2) := HB.out.trans (hb.mono HB.out.size)
  have hbk : w2.heap[w.heap.size]? = some (.cells #[.bool false] 4 (0, 0)) := (hb.block _ (Array.getElem?_eq_some_iff.1 HR.out).1).trans HR.out
  have HR2 := Lib.hid hbk
  clear hb hbk HB HR
  go_wp2_with fail
  obtain ⟨tb, htb⟩ : ∃ tb, tb = w2.heap.size := ⟨_, rfl⟩
  obtain ⟨rb, hrb⟩ : ∃ rb, rb = w.heap.size := ⟨_, rfl⟩
  obtain ⟨w4, hw4⟩ : ∃ w4, w4 = w2.alloc (.cells #[.func (.func 21) #[] #[]] 38) := ⟨_, rfl⟩
  have hb24 : Below w2.heap.size w2 w4 := by rw [hw4]; exact (Below.refl _ w2).alloc (Nat.le_refl _) _
  have HB4 : Hid (Below w.heap.size w w4) := HB2.out.trans (hb24.mono HB2.out.size)
  have HTC : Hid (w4.heap[tb]? = some (.cells #[.func (.func 21) #[] #[]] 38 (0, 0))) := by show _ = _; rw [hw4, htb]; exact heap_alloc_new w2 _
  have HR4 : Hid (w4.heap[rb]? = some (.cells #[.bool false] 4 (0, 0))) := by show _ = _; rw [hrb]; exact (hb24.block _ (Array.getElem?_eq_some_iff.1 HR2.out).1).trans HR2.out
  have HTL : Hid (tb < w4.heap.size) := (Array.getElem?_eq_some_iff.1 HTC.out).1
  have HRL : Hid (rb < w4.heap.size) := (Array.getElem?_eq_some_iff.1 HR4.out).1
  have HRN : Hid (w.heap.size ≤ rb) := by show _ ≤ _; omega
  rw [← hw4, ← htb, ← hrb]
  clear hb24 hw4 htb hrb HR2 HB2
  refine (bnewS_any w4).mono ?_
  rintro e w5 ⟨ga, va, rfl, ha, hb5⟩
  have HAS := Lib.hid ha
  have HB5 := Lib.hid hb5
  clear ha hb5
  go_wp2_with fail
  refine (bnew_any none 0 0 [] w5 (fun h => absurd h (by decide)) rfl (by omega)).mono ?_
  rintro e w6 ⟨gb, vb, rfl, hb, hb6⟩
  have HT0 : Hid (BT w4 w6 ga [] gb [] rb (.cells #[.bool false] 4 (0, 0))) := BT.start HRL.out HR4.out HAS.out HB5.out (by rw [setL_nil] at hb; exact hb) hb6
  clear hb hb6 HAS HB5
  go_wp2_with fail
  go_loopg [29] n1 (fun gk i wr => ∃ (k : Nat) (zs : List Int) (nb : Nat) (o : Obj), gk + k = n1 ∧ i = .int .i64 k ∧ Hid (In7 zs) ∧ zs.length ≤ k ∧ Hid (BT w4 wr ga zs gb zs nb o))
  case atStart => exact ⟨0, [], rb, _, by omega, rfl, fun z hz => by simp at hz, by simp, HT0⟩
  case round =>
    clear HT0
    obtain ⟨k, zs, nb0, o0, hgk, rfl, HIN, hzl, HT⟩ := hrel
    by_cases hlt : k < n1
    · obtain ⟨b, off, A, rfl, hc0, hc1, hc2, HK⟩ := (H.out.below (HB4.out.trans (HT.out.below.mono HB4.out.size)) (Nat.le_refl _)).act (k := k) (by rw [HL.out]; exact hlt)
      obtain ⟨Ak, Ax, Aa, An, Ac, Al⟩ := A
      simp only [] at hc0 hc1 hc2
      have hb127 := i64_and127 Ax
      have hz0 : 0 ≤ Ax % 128 := by omega
      have hz1 : Ax % 128 ≤ 127 := by omega
      obtain ⟨z, hz⟩ : ∃ z, z = Ax % 128 := ⟨_, rfl⟩
      rw [← hz] at hb127 hz0 hz1
      have HZ : Hid (Ax % 128 = z) := hz.symm
      obtain ⟨bb, hbb⟩ : ∃ bb, hasL zs z = bb := ⟨_, rfl⟩
      have HBB := Lib.hid hbb
      clear hz hbb HK
      obtain ⟨nb, hnb⟩ : ∃ nb, nb = wr.heap.size := ⟨_, rfl⟩
      have hX : BT w4 (wr.alloc (.cells #[.int .i64 Ak, .int .i64 Ax, .slice Aa An Ac] 42)) ga zs gb zs nb (.cells #[.int .i64 Ak, .int .i64 Ax, .slice Aa An Ac] 42 (0, 0)) := by rw [hnb]; exact HT.out.box _ _
      have HX := Lib.hid hX
      have HBK := Lib.hid hX.block
      clear HT hX
      go_upto_block 2 with fail
      rw [← hnb]
      clear hnb
      generalize wr.alloc (.cells #[.int .i64 Ak, .int .i64 Ax, .slice Aa An Ac] 42) = wa at *
      by_cases e0 : Ak = 0
      · subst e0
        have hcx := (cells_of_block HBK.out 1).1
        simp at hcx
        have hct : wa.cell? ⟨tb, 0, none⟩ = some (.func (.func 21) #[] #[]) := by
          rw [World.cell?_of_block (a := ⟨tb, 0, none⟩) (w := w4) (HX.out.below.block tb HTL.out)]; exact (cells_of_block HTC.out 0).1
        go_wp2_with fail
        refine wp_region_held_drew (S := fun W => W.cell? ⟨nb, 1, none⟩ = some (.int .i64 Ax) ∧ W.cell? ⟨tb, 0, none⟩ = some (.func (.func 21) #[] #[])) (by kernel_rfl) ⟨hcx, hct⟩ (fun hH => ?_)
        refine takeH 0 (v := ?_) rfl (by kernel_rfl) (by kernel_rfl) (by kernel_rfl) (fun _ _ _ h => h) (by rfl) ?_ (by assumption) ?_
        rotate_left
        · intro W hW
          go_simp
          try with_reducible rfl
        try simp only [Act.put, List.setIfInBounds_toArray, List.set_cons_zero, List.set_cons_succ]
        refine takeH 1 (v := ?_) rfl (by kernel_rfl) (by kernel_rfl) (by kernel_rfl) (fun _ _ _ h => h) (by rfl) ?_ (by assumption) ?_
        rotate_left
        · intro W hW
          go_simp
          try with_reducible rfl
        try simp only [Act.put, List.setIfInBounds_toArray, List.set_cons_zero, List.set_cons_succ]
        refine takeH 2 (v := ?_) rfl (by kernel_rfl) (by kernel_rfl) (by kernel_rfl) (fun _ _ _ h => h) (by rfl) ?_ (by assumption) ?_
        rotate_left
        · intro W hW
          go_simp
          try with_reducible rfl
        try simp only [Act.put, List.setIfInBounds_toArray, List.set_cons_zero, List.set_cons_succ]
        refine takeH 3 (v := ?_) rfl (by kernel_rfl) (by kernel_rfl) (by kernel_rfl) (fun _ _ _ h => h) (by rfl) ?_ (by assumption) ?_
        rotate_left
        · intro W hW
          go_simp
          try with_reducible rfl
        try simp only [Act.put, List.setIfInBounds_toArray, List.set_cons_zero, List.set_cons_succ]
        refine takeH 6 (v := ?_) rfl (by kernel_rfl) (by kernel_rfl) (by kernel_rfl) (fun _ _ _ h => h) (by rfl) ?_ (by assumption) ?_
        rotate_left
        · intro W hW
          go_simp
          try with_reducible rfl
        try simp only [Act.put, List.setIfInBounds_toArray, List.set_cons_zero, List.set_cons_succ]
        refine takeH 7 (v := ?_) rfl (by kernel_rfl) (by kernel_rfl) (by kernel_rfl) (fun _ _ _ h => h) (by rfl) ?_ (by assumption) ?_
        rotate_left
        · intro W hW
          go_simp
          try with_reducible rfl
        try simp only [Act.put, List.setIfInBounds_toArray, List.set_cons_zero, List.set_cons_succ]
        refine takeH 8 (v := ?_) rfl (by kernel_rfl) (by kernel_rfl) (by kernel_rfl) (fun _ _ _ h => h) (by rfl) ?_ (by assumption) ?_
        rotate_left
        · intro W hW
          go_simp
          try with_reducible rfl
        try simp only [Act.put, List.setIfInBounds_toArray, List.set_cons_zero, List.set_cons_succ]
        refine takeH 9 (v := ?_) rfl (by kernel_rfl) (by kernel_rfl) (by kernel_rfl) (fun _ _ _ h => h) (by rfl) ?_ (by assumption) ?_
        rotate_left
        · intro W hW
          go_simp
          try with_reducible rfl
        try simp only [Act.put, List.setIfInBounds_toArray, List.set_cons_zero, List.set_cons_succ]
        refine wpAnyH_ready (rs := [4]) (by kernel_rfl) (by simp) (readyH rfl (fun K hK => ?_) AllReadyH.nil)
        rw [if_pos (by rfl)]
        go_simp
        refine (text_any Ax _).mono ?_
        rintro e w5 ⟨rfl, hb⟩
        rw [HZ.out]
        have HX5 := Lib.hid (HX.out.read (Below.trans (Drawn.below ⟨1, rfl⟩ _) hb))
        clear hb
        have hcx5 := (cells_of_block HX5.out.block 1).1
        simp at hcx5
        have hct5 : w5.cell? ⟨tb, 0, none⟩ = some (.func (.func 21) #[] #[]) := by
          rw [World.cell?_of_block (a := ⟨tb, 0, none⟩) (w := w4) (HX5.out.below.block tb HTL.out)]; exact (cells_of_block HTC.out 0).1
        refine hK.out _ _ ⟨hcx5, hct5⟩ (fun hH => ?_)
        clear hK K
        try simp only [Act.put, List.setIfInBounds_toArray, List.set_cons_zero, List.set_cons_succ]
        refine wpAnyH_ready (rs := [5]) (by kernel_rfl) (by simp) (readyH rfl (fun K hK => ?_) AllReadyH.nil)
        rw [if_pos (by rfl)]
        go_simp
        refine (putTA z _ ⟨hz0, hz1⟩ HX5.out (by omega)).mono ?_
        rintro e w6 ⟨rfl, ht⟩
        rw [HBB.out]
        have HX6 := Lib.hid ht
        clear ht
        have hcx6 := (cells_of_block HX6.out.block 1).1
        simp at hcx6
        have hct6 : w6.cell? ⟨tb, 0, none⟩ = some (.func (.func 21) #[] #[]) := by
          rw [World.cell?_of_block (a := ⟨tb, 0, none⟩) (w := w4) (HX6.out.below.block tb HTL.out)]; exact (cells_of_block HTC.out 0).1
        refine hK.out _ _ ⟨hcx6, hct6⟩ (fun hH => ?_)
        clear hK K
        try simp only [Act.put, List.setIfInBounds_toArray, List.set_cons_zero, List.set_cons_succ]
        refine wpAnyH_ready (rs := [10]) (by kernel_rfl) (by simp) (readyH rfl (fun K hK => ?_) AllReadyH.nil)
        rw [if_pos (by rfl)]
        go_simp
        refine (putTB z _ HX6.out (by omega)).mono ?_
        rintro e w7 ⟨rfl, ht⟩
        rw [HBB.out]
        have HX7 := Lib.hid ht
        clear ht
        have hcx7 := (cells_of_block HX7.out.block 1).1
        simp at hcx7
        have hct7 : w7.cell? ⟨tb, 0, none⟩ = some (.func (.func 21) #[] #[]) := by
          rw [World.cell?_of_block (a := ⟨tb, 0, none⟩) (w := w4) (HX7.out.below.block tb HTL.out)]; exact (cells_of_block HTC.out 0).1
        refine hK.out _ _ ⟨hcx7, hct7⟩ (fun hH => ?_)
        clear hK K
        try simp only [Act.put, List.setIfInBounds_toArray, List.set_cons_zero, List.set_cons_succ]
        cases bb
        all_goals
          refine takeH 11 (v := ?_) rfl (by kernel_rfl) (by kernel_rfl) (by kernel_rfl) (fun _ _ _ h => h) (by rfl) ?_ (by assumption) ?_
          rotate_left
          · intro W hW
            go_simp
            try with_reducible rfl
          try simp only [Act.put, List.setIfInBounds_toArray, List.set_cons_zero, List.set_cons_succ]
          refine wpAnyH_done (by kernel_rfl) ?_ _
          go_wp2_with fail
          go_roundg (gk - 1)
          case measure => omega
          case rel => exact ⟨k + 1, putL zs z, nb, _, by omega, by go_num, Lib.hid (putL_in7 HIN.out ⟨hz0, hz1⟩), by have := putL_length zs z; omega, HX7⟩
      · have d0 : (Ak == 0) = false := by simpa using e0
        by_cases e1 : Ak = 1
        · subst e1
          have hcx := (cells_of_block HBK.out 1).1
          simp at hcx
          have hct : wa.cell? ⟨tb, 0, none⟩ = some (.func (.func 21) #[] #[]) := by
            rw [World.cell?_of_block (a := ⟨tb, 0, none⟩) (w := w4) (HX.out.below.block tb HTL.out)]; exact (cells_of_block HTC.out 0).1
          go_wp2_with fail
          refine wp_region_held_drew (S := fun W => W.cell? ⟨nb, 1, none⟩ = some (.int .i64 Ax) ∧ W.cell? ⟨tb, 0, none⟩ = some (.func (.func 21) #[] #[])) (by kernel_rfl) ⟨hcx, hct⟩ (fun hH => ?_)
          refine takeH 0 (v := ?_) rfl (by kernel_rfl) (by kernel_rfl) (by kernel_rfl) (fun _ _ _ h => h) (by rfl) ?_ (by assumption) ?_
          rotate_left
          · intro W hW
            go_simp
            try with_reducible rfl
          try simp only [Act.put, List.setIfInBounds_toArray, List.set_cons_zero, List.set_cons_succ]
          refine takeH 1 (v := ?_) rfl (by kernel_rfl) (by kernel_rfl) (by kernel_rfl) (fun _ _ _ h => h) (by rfl) ?_ (by assumption) ?_
          rotate_left
          · intro W hW
            go_simp
            try with_reducible rfl
          try simp only [Act.put, List.setIfInBounds_toArray, List.set_cons_zero, List.set_cons_succ]
          refine takeH 2 (v := ?_) rfl (by kernel_rfl) (by kernel_rfl) (by kernel_rfl) (fun _ _ _ h => h) (by rfl) ?_ (by assumption) ?_
          rotate_left
          · intro W hW
            go_simp
            try with_reducible rfl
          try simp only [Act.put, List.setIfInBounds_toArray, List.set_cons_zero, List.set_cons_succ]
          refine takeH 3 (v := ?_) rfl (by kernel_rfl) (by kernel_rfl) (by kernel_rfl) (fun _ _ _ h => h) (by rfl) ?_ (by assumption) ?_
          rotate_left
          · intro W hW
            go_simp
            try with_reducible rfl
          try simp only [Act.put, List.setIfInBounds_toArray, List.set_cons_zero, List.set_cons_succ]
          refine takeH 6 (v := ?_) rfl (by kernel_rfl) (by kernel_rfl) (by kernel_rfl) (fun _ _ _ h => h) (by rfl) ?_ (by assumption) ?_
          rotate_left
          · intro W hW
            go_simp
            try with_reducible rfl
          try simp only [Act.put, List.setIfInBounds_toArray, List.set_cons_zero, List.set_cons_succ]
          refine takeH 7 (v := ?_) rfl (by kernel_rfl) (by kernel_rfl) (by kernel_rfl) (fun _ _ _ h => h) (by rfl) ?_ (by assumption) ?_
          rotate_left
          · intro W hW
            go_simp
            try with_reducible rfl
          try simp only [Act.put, List.setIfInBounds_toArray, List.set_cons_zero, List.set_cons_succ]
          refine takeH 8 (v := ?_) rfl (by kernel_rfl) (by kernel_rfl) (by kernel_rfl) (fun _ _ _ h => h) (by rfl) ?_ (by assumption) ?_
          rotate_left
          · intro W hW
            go_simp
            try with_reducible rfl
          try simp only [Act.put, List.setIfInBounds_toArray, List.set_cons_zero, List.set_cons_succ]
          refine takeH 9 (v := ?_) rfl (by kernel_rfl) (by kernel_rfl) (by kernel_rfl) (fun _ _ _ h => h) (by rfl) ?_ (by assumption) ?_
          rotate_left
          · intro W hW
            go_simp
            try with_reducible rfl
          try simp only [Act.put, List.setIfInBounds_toArray, List.set_cons_zero, List.set_cons_succ]
          refine wpAnyH_ready (rs := [4]) (by kernel_rfl) (by simp) (readyH rfl (fun K hK => ?_) AllReadyH.nil)
          rw [if_pos (by rfl)]
          go_simp
          refine (text_any Ax _).mono ?_
          rintro e w5 ⟨rfl, hb⟩
          rw [HZ.out]
          have HX5 := Lib.hid (HX.out.read (Below.trans (Drawn.below ⟨1, rfl⟩ _) hb))
          clear hb
          have hcx5 := (cells_of_block HX5.out.block 1).1
          simp at hcx5
          have hct5 : w5.cell? ⟨tb, 0, none⟩ = some (.func (.func 21) #[] #[]) := by
            rw [World.cell?_of_block (a := ⟨tb, 0, none⟩) (w := w4) (HX5.out.below.block tb HTL.out)]; exact (cells_of_block HTC.out 0).1
          refine hK.out _ _ ⟨hcx5, hct5⟩ (fun hH => ?_)
          clear hK K
          try simp only [Act.put, List.setIfInBounds_toArray, List.set_cons_zero, List.set_cons_succ]
          refine wpAnyH_ready (rs := [5]) (by kernel_rfl) (by simp) (readyH rfl (fun K hK => ?_) AllReadyH.nil)
          rw [if_pos (by rfl)]
          go_simp
          refine (delTA z _ ⟨hz0, hz1⟩ HX5.out (by omega)).mono ?_
          rintro e w6 ⟨rfl, ht⟩
          rw [HBB.out]
          have HX6 := Lib.hid ht
          clear ht
          have hcx6 := (cells_of_block HX6.out.block 1).1
          simp at hcx6
          have hct6 : w6.cell? ⟨tb, 0, none⟩ = some (.func (.func 21) #[] #[]) := by
            rw [World.cell?_of_block (a := ⟨tb, 0, none⟩) (w := w4) (HX6.out.below.block tb HTL.out)]; exact (cells_of_block HTC.out 0).1
          refine hK.out _ _ ⟨hcx6, hct6⟩ (fun hH => ?_)
          clear hK K
          try simp only [Act.put, List.setIfInBounds_toArray, List.set_cons_zero, List.set_cons_succ]
          refine wpAnyH_ready (rs := [10]) (by kernel_rfl) (by simp) (readyH rfl (fun K hK => ?_) AllReadyH.nil)
          rw [if_pos (by rfl)]
          go_simp
          refine (delTB z _ HX6.out (by omega)).mono ?_
          rintro e w7 ⟨rfl, ht⟩
          rw [HBB.out]
          have HX7 := Lib.hid ht
          clear ht
          have hcx7 := (cells_of_block HX7.out.block 1).1
          simp at hcx7
          have hct7 : w7.cell? ⟨tb, 0, none⟩ = some (.func (.func 21) #[] #[]) := by
            rw [World.cell?_of_block (a := ⟨tb, 0, none⟩) (w := w4) (HX7.out.below.block tb HTL.out)]; exact (cells_of_block HTC.out 0).1
          refine hK.out _ _ ⟨hcx7, hct7⟩ (fun hH => ?_)
          clear hK K
          try simp only [Act.put, List.setIfInBounds_toArray, List.set_cons_zero, List.set_cons_succ]
          cases bb
          all_goals
            refine takeH 11 (v := ?_) rfl (by kernel_rfl) (by kernel_rfl) (by kernel_rfl) (fun _ _ _ h => h) (by rfl) ?_ (by assumption) ?_
            rotate_left
            · intro W hW
              go_simp
              try with_reducible rfl
            try simp only [Act.put, List.setIfInBounds_toArray, List.set_cons_zero, List.set_cons_succ]
            refine wpAnyH_done (by kernel_rfl) ?_ _
            go_wp2_with fail
            go_roundg (gk - 1)
            case measure => omega
            case rel => exact ⟨k + 1, outL zs z, nb, _, by omega, by go_num, Lib.hid (outL_in7 HIN.out), by have := outL_length zs z; omega, HX7⟩
        · have d1 : (Ak == 1) = false := by simpa using e1
          clear e0 e1
          go_wp2_with fail
          go_roundg (gk - 1)
          case measure => omega
          case rel => exact ⟨k + 1, zs, nb, _, by omega, by go_num, HIN, by omega, HX⟩
    · have hge : ¬ k < n1 := hlt
      have hzl2 : zs.length ≤ 50 := by omega
      clear hgk
      go_wp2_with fail
      have HTb := Lib.hid (HT.out.read ((Below.refl _ wr).alloc (Nat.le_refl _) (.cells #[.slice none 0 0] 44)))
      obtain ⟨vB, hvB⟩ := HTb.out.bagB
      refine (ball_any _ hvB (by omega)).mono ?_
      rintro e w7 ⟨Bs, b, ia, icap, rfl, hBs, hcs, hI, hbb, hb1, hb2, hbl⟩
      go_wp2_with fail
      have HRT : Hid (wr.heap[tb]? = some (.cells #[(.func (.func 21) #[] #[])] 38 (0, 0))) := (HT.out.below.block tb HTL.out).trans HTC.out
      have HRTL : Hid (tb < wr.heap.size) := (Array.getElem?_eq_some_iff.1 HRT.out).1
      have HRR : Hid (wr.heap[rb]? = some (.cells #[.bool false] 4 (0, 0))) := (HT.out.below.block rb HRL.out).trans HR4.out
      have HRRL : Hid (rb < wr.heap.size) := (Array.getElem?_eq_some_iff.1 HRR.out).1
      have HBW : Hid (Below w.heap.size w wr) := HB4.out.trans (HT.out.below.mono HB4.out.size)
      obtain ⟨i0, hi, hz0, hz1, hz2⟩ := info_parts infoStrB
      have bO : Boxed w7 wr.heap.size 44 (.slice none 0 0) := (hbl.block wr.heap.size (by simp)).trans (Boxed.new wr 44 (.slice none 0 0))
      have hB0 : Below wr.heap.size wr w7 := ((Below.refl _ wr).alloc (Nat.le_refl _) _).trans (hbl.mono (by simp))
      have hsz := hB0.size
      simp only [World.size_alloc] at hb1
      obtain ⟨wb, hwb⟩ : ∃ wb, wb = wr.heap.size := ⟨_, rfl⟩
      rw [← hwb] at bO hb1 ⊢
      clear hvB hbl
      have HWB := Lib.hid hwb
      clear hwb
      refine (wpIn_wide (n := 3)).1 ?_
      refine range_one rfl (by omega) (gf := 63) (lb := #[.pointer (some ⟨Bs, 0, none⟩)]) rfl trivial (enters_of Try.func63 (by kernel_rfl) rfl) (q := 9) (enc := fun x : Int => .int .i64 x)
        (bvalues_stops Bs b icap ia zs (by omega) w7 hBs hcs hI hbb) (fun h k => keepsB_t h k) (keepsB_b hb2) (Below.refl _ _)
        (fun pre W => (∃ v, Boxed W wb 44 v ∧ W.ownsRow wb 9 1 v pre.length (strs (pre.map (· % 128))) ∧ (∀ k, v.ownBlock = some k → b < k)) ∧ Below wr.heap.size wr W ∧ b < W.heap.size)
        (fun _ _ _ => False)
        (OwnFrom.and (Own.from (holdsRow_own wb wb 44 9 1 (fun pre : List Int => pre.length) (fun pre => strs (pre.map (· % 128))) (fun pre v => ∀ k, v.ownBlock = some k → b < k)) _) (OwnFrom.and (ownFrom_below (Nat.le_refl _) hsz) (fun s A B row hs hg _ => Nat.lt_of_lt_of_le hs hg.size)))
        (fun _ _ _ _ _ hs _ _ => hs)
        ⟨⟨_, bO, World.ownsRow_nil _ _ _ _, fun k hk => by simp [Value.ownBlock] at hk⟩, hB0, hb2⟩ ?assign ?body ?done ?stop
      case assign =>
        intro l x W K hK
        simp only [List.setIfInBounds_toArray, List.set_cons_zero, List.set_cons_succ] at hK ⊢
        have hsem := @Oper.semAt_some
        gi_wp2
        exact hK
      case body =>
        rintro l pre x W ⟨⟨v, hv, hrow, hnb⟩, hB, hbW⟩ hplt
        simp only [List.setIfInBounds_toArray, List.set_cons_zero, List.set_cons_succ]
        have hsem := @Oper.semAt_some
        have hpl : pre.length < 1000000 := by omega
        have hc := hv.cell
        obtain ⟨va, vc, rfl, -, -, -⟩ := ownsRow_seq hrow
        have hct : W.cell? ⟨tb, 0, none⟩ = some (.func (.func 21) #[] #[]) := by
          rw [World.cell?_of_block (a := ⟨tb, 0, none⟩) (w := wr) (hB.block tb HRTL.out)]; exact (cells_of_block HRT.out 0).1
        have HV := Lib.hid hv
        have HROW := Lib.hid hrow
        have HNB := Lib.hid hnb
        have HBB := Lib.hid hB
        have HBW2 := Lib.hid hbW
        obtain ⟨pn, hpn⟩ : ∃ pn, pn = pre.length := ⟨_, rfl⟩
        rw [← hpn] at hc hpl HROW HNB HV
        have HPN := Lib.hid hpn.symm
        clear hv hrow hnb hB hpn
        gi_wp2
        have HB1 := Lib.hid hb1
        clear hsem hbW hBs hcs hI hbb hb1 hb2 hB0 hsz bO
        refine wpIn_region_lastH (S := fun W => W.cell? ⟨wb, 0, none⟩ = some (.slice va pn vc) ∧ W.cell? ⟨tb, 0, none⟩ = some (.func (.func 21) #[] #[])) (by kernel_rfl) (fun ⟨_, _, h⟩ => h) 6 (by kernel_rfl) (by kernel_rfl) ⟨hc, hct⟩ (fun hH => ?_)
        simp only [lastOps, nop, List.modify_toArray, List.modify_succ_cons, List.modify_zero_cons]
        refine takeH 0 (v := ?_) rfl (by kernel_rfl) (by kernel_rfl) (by kernel_rfl) (fun _ _ _ h => h) (by rfl) ?_ (by assumption) ?_
        rotate_left
        · intro W hW
          go_simp
          try with_reducible rfl
        try simp only [Act.put, List.setIfInBounds_toArray, List.set_cons_zero, List.set_cons_succ]
        refine takeH 1 (v := ?_) rfl (by kernel_rfl) (by kernel_rfl) (by kernel_rfl) (fun _ _ _ h => h) (by rfl) ?_ (by assumption) ?_
        rotate_left
        · intro W hW
          go_simp
          try with_reducible rfl
        try simp only [Act.put, List.setIfInBounds_toArray, List.set_cons_zero, List.set_cons_succ]
        refine takeH 2 (v := ?_) rfl (by kernel_rfl) (by kernel_rfl) (by kernel_rfl) (fun _ _ _ h => h) (by rfl) ?_ (by assumption) ?_
        rotate_left
        · intro W hW
          go_simp
          try with_reducible rfl
        try simp only [Act.put, List.setIfInBounds_toArray, List.set_cons_zero, List.set_cons_succ]
        refine wpAnyH_ready (rs := [3]) (by kernel_rfl) (by simp) (readyH rfl (fun K hK => ?_) AllReadyH.nil)
        rw [if_pos (by rfl)]
        go_simp
        refine (text_any x _).mono ?_
        rintro e w8 ⟨rfl, hb⟩
        obtain ⟨tv, htv⟩ : ∃ tv, tv = tx (x % 128) := ⟨_, rfl⟩
        have HTV := Lib.hid htv
        rw [← htv]
        clear htv
        have HW8 : Hid (Below W.heap.size W w8) := Below.trans (Drawn.below ⟨1, rfl⟩ _) hb
        have hv8 : Boxed w8 wb 44 (.slice va pn vc) := (HW8.out.block wb HV.out.lt).trans HV.out
        have hwt8 : w8.heap[tb]? = wr.heap[tb]? := (HW8.out.block tb (Nat.lt_of_lt_of_le HRTL.out HBB.out.size)).trans (HBB.out.block tb HRTL.out)
        have HT8 := Lib.hid hwt8
        have HV8 := Lib.hid hv8
        have hH8 : w8.cell? ⟨wb, 0, none⟩ = some (.slice va pn vc) ∧ w8.cell? ⟨tb, 0, none⟩ = some (.func (.func 21) #[] #[]) := ⟨hv8.cell, by rw [World.cell?_of_block (a := ⟨tb, 0, none⟩) (w := wr) hwt8]; exact (cells_of_block HRT.out 0).1⟩
        have HROW8 : Hid (w8.ownsRow wb 9 1 (.slice va pn vc) pn (strs (pre.map (· % 128)))) := ownsRow_kept HROW.out (fun k hk => HW8.out.block k (HROW.out.lt k hk).2)
        clear hb hv8 hwt8
        refine hK.out _ _ hH8 (fun hH => ?_)
        clear hK K
        try simp only [Act.put, List.setIfInBounds_toArray, List.set_cons_zero, List.set_cons_succ]
        refine wpAnyH_ready (rs := [4]) (by kernel_rfl) (by simp) (readyH rfl (fun K hK => ?_) AllReadyH.nil)
        rw [if_pos (by rfl)]
        go_simp
        have hHa : (w8.alloc (.cells #[.string tv] 9)).cell? ⟨wb, 0, none⟩ = some (.slice va pn vc) ∧ (w8.alloc (.cells #[.string tv] 9)).cell? ⟨tb, 0, none⟩ = some (.func (.func 21) #[] #[]) := ⟨(World.cell?_alloc_lt _ _ _ (World.block_lt_of_cell? _ _ hH8.1)).trans hH8.1, (World.cell?_alloc_lt _ _ _ (World.block_lt_of_cell? _ _ hH8.2)).trans hH8.2⟩
        refine hK.out _ _ hHa (fun hH => ?_)
        clear hK K
        try simp only [Act.put, List.setIfInBounds_toArray, List.set_cons_zero, List.set_cons_succ]
        refine wpAnyH_ready (rs := [5]) (by kernel_rfl) (by simp) (readyH rfl (fun K hK => ?_) AllReadyH.nil)
        rw [if_pos (by rfl)]
        have HSa : Hid (SeqAt (w8.alloc (.cells #[.string tv] 9)) (some ⟨w8.heap.size, 0, none⟩) [.string tv]) := (seqAt_block (cs := #[.string tv]) (heap_alloc_new w8 _) : SeqAt (w8.alloc _) _ _)
        have hszb : wb ≤ w8.heap.size := by have := HV8.out.lt; omega
        refine wpO_append_seq (.tmp 67) (.tmp 71) 44 rfl wb 9 i0 _ 1 16 Try.underlying44 hi hz0 hz1 hz2 rfl (by decide) (.slice va pn vc) pn (strs (pre.map (· % 128))) rfl (HROW8.out.alloc _) (some ⟨w8.heap.size, 0, none⟩) 1 1 [.string tv] rfl (by simp) rfl HSa.out (fun u hu => by simp at hu; subst hu; rfl) (by unfold maxLen; omega) (by omega) (by simp; omega) ?_
        intro v' w10 hown' hgrow hob
        obtain ⟨g', cap', rfl⟩ := ownsRow_succ hown'
        obtain ⟨hv1, hv2, hr2, hk2, hb2'⟩ := HV8.out.appended (n₀ := wb) (by decide) HROW8.out hszb (Nat.le_refl _) hown' hgrow
        have hob0 : ∀ k, (Value.slice va pn vc).ownBlock = some k → wr.heap.size ≤ k := fun k hk => by have := (HROW8.out.lt k hk).1; have := HWB.out; omega
        have hH10 : w10.cell? ⟨wb, 0, none⟩ = some (.slice va pn vc) ∧ w10.cell? ⟨tb, 0, none⟩ = some (.func (.func 21) #[] #[]) := by
          refine ⟨hv1.cell, ?_⟩
          have h1 : w10.heap[tb]? = (w8.alloc (.cells #[.string tv] 9)).heap[tb]? := hgrow.block tb (by have := HRTL.out; have := HBB.out.size; have := HW8.out.size; simp; omega) (fun e => by have := hob0 tb e.symm; have := HRTL.out; omega)
          rw [World.cell?_of_block (a := ⟨tb, 0, none⟩) h1]
          exact hHa.2
        have hf1 := hv1.frozen
        refine hK.out _ _ hH10 (fun hH => ?_)
        clear hK K
        try simp only [Act.put, List.setIfInBounds_toArray, List.set_cons_zero, List.set_cons_succ]
        refine takeH 6 (v := ?_) rfl (by kernel_rfl) (by kernel_rfl) (by kernel_rfl) (fun _ _ _ h => h) (by rfl) ?_ (by assumption) ?_
        rotate_left
        · intro W hW
          go_simp
          try with_reducible rfl
        try simp only [Act.put, List.setIfInBounds_toArray, List.set_cons_zero, List.set_cons_succ]
        refine lastH_done (by kernel_rfl) rfl (by rfl) (Oper.wp_mono (K := fun _ w' => Hid (w' = w10.setCell ⟨wb, 0, none⟩ (.slice (some ⟨g', 0, none⟩) (pn + 1) cap'))) (fun a' w' e => ?_) ?_)
        rotate_left
        · clear hv2 hr2 hk2 hb2' hgrow hown' hob hob0
          go_simp
          exact trivial
        have e := e.out
        subst e
        have hBf : Below wr.heap.size wr (w10.setCell ⟨wb, 0, none⟩ (.slice (some ⟨g', 0, none⟩) (pn + 1) cap')) := by
          have h1 : Below wr.heap.size wr w8 := HBB.out.trans (HW8.out.mono HBB.out.size)
          refine h1.trans ?_
          have := HWB.out
          rw [← this]
          exact hb2'
        refine ⟨?_, ?_, ⟨_, hv2, ?_, fun k hk => ?_⟩, hBf, ?_⟩
        · exact KeepsFrom.trans ⟨HW8.out.size, fun k o _ hk _ => (HW8.out.block k (Array.getElem?_eq_some_iff.1 hk).1).trans hk⟩ (hk2.from _)
        · have hk8 : w8.heap[b]? = W.heap[b]? := HW8.out.block b HBW2.out
          have hb8 : b < w8.heap.size := Nat.lt_of_lt_of_le HBW2.out HW8.out.size
          have h1 : w10.heap[b]? = w8.heap[b]? := (hgrow.block b (by simp; omega) (fun e => by have := HNB.out b e.symm; omega)).trans (Below.heap_alloc w8 _ _ hb8)
          exact (Below.heap_setCell w10 ⟨wb, 0, none⟩ _ b (by have := HB1.out; simp; omega)).trans (h1.trans hk8)
        · rw [HTV.out] at hr2
          have e1 : strs ((pre ++ [x]).map (· % 128)) = strs (pre.map (· % 128)) ++ [.string (tx (x % 128))] := by simp [strs, sv]
          rw [e1, List.length_append, HPN.out]
          exact hr2
        · rcases hob with e | e
          · exact HNB.out k (by rw [← hk]; exact e.symm)
          · have : some k = some (w8.heap.size + 1) := by rw [← hk, e]; simp
            cases this
            have := HBW2.out; have := HW8.out.size; omega
        · have h0 := HBW2.out
          have h1 := HW8.out.size
          have h2 := hgrow.size
          rw [World.size_alloc] at h2
          have h3 : (w10.setCell ⟨wb, 0, none⟩ (.slice (some ⟨g', 0, none⟩) (pn + 1) cap')).heap.size = w10.heap.size := by simp [World.setCell]
          show b < _
          rw [h3]
          omega
      case done =>
        rintro D ys W hD hys ⟨⟨v, hv, hrow, hnb⟩, hB, hbW⟩ hK
        obtain rfl : ys = zs := hys
        clear hBs hcs hI hbb hb1 hb2 hB0 bO hnb hbW
        have hzm : ys.map (· % 128) = ys := by
          have : ∀ z ∈ ys, z % 128 = z := fun z hz => by have := HIN.out z hz; omega
          calc ys.map (· % 128) = ys.map id := List.map_congr_left this
            _ = ys := by simp
        rw [hzm] at hrow
        clear hzm
        obtain ⟨va, vc, rfl, hsq, -, -⟩ := ownsRow_seq hrow
        have HSQ := Lib.hid hsq
        have HVW := Lib.hid hv
        have HBWr := Lib.hid hB
        have HD := Lib.hid hD
        have HBWr0 : Hid (wr.heap.size ≤ w7.heap.size) := hsz
        have HKD := Lib.hid hK
        have HTW := Lib.hid (HT.out.read hB)
        clear hrow hsq hv hB hD hK HT HTb hsz
        obtain ⟨zn, hzn⟩ : ∃ zn, zn = ys.length := ⟨_, rfl⟩
        rw [← hzn] at hzl hzl2 HVW
        have HZN := Lib.hid hzn.symm
        clear hzn
        go_wp2_with fail
        have HTn := Lib.hid (HTW.out.read ((Below.refl _ W).alloc (Nat.le_refl _) (.cells #[.int .i64 0] 3)))
        obtain ⟨vA, hvA⟩ := HTn.out.bagA
        refine (sall_any _ hvA (by rw [HZN.out]; omega)).mono ?_
        rintro e w9 ⟨Bs, b, ia, icap, rfl, hBs, hcs, hI, hbb, hb1, hb2, hbl⟩
        have bO : Boxed w9 W.heap.size 3 (.int .i64 0) := (hbl.block W.heap.size (by simp)).trans (Boxed.new W 3 (.int .i64 0))
        have hB0 : Below W.heap.size W w9 := ((Below.refl _ W).alloc (Nat.le_refl _) _).trans (hbl.mono (by simp))
        have hsz := hB0.size
        simp only [World.size_alloc] at hb1
        go_wp2_with fail
        obtain ⟨nb, hnb⟩ : ∃ nb, nb = W.heap.size := ⟨_, rfl⟩
        rw [← hnb] at bO hb1 ⊢
        clear hvA hbl
        have HNB := Lib.hid hnb
        clear hnb
        refine (wpIn_wide (n := 3)).1 ?_
        refine range_one rfl (by omega) (gf := 64) (lb := #[.pointer (some ⟨Bs, 0, none⟩)]) rfl trivial (enters_of Try.func64 (by kernel_rfl) rfl) (q := 11) (enc := fun x : Int => .string (tx x))
          (svalues_stops Bs b icap ia ys (by rw [HZN.out]; omega) w9 hBs hcs hI hbb) (fun h k => keepsB_t h k) (keepsB_b hb2) (Below.refl _ _)
          (fun pre W2 => (Boxed W2 nb 3 (.int .i64 pre.length) ∧ pre.map tx <+: ys.map tx) ∧ Below W.heap.size W W2 ∧ b < W2.heap.size)
          (fun _ pre _ => ¬ (pre.map tx <+: ys.map tx))
          (OwnFrom.and (OwnFrom.and (Own.from (boxed_own nb 3 (fun pre : List Int => .int .i64 pre.length)) _) (ownFrom_pure _ _)) (OwnFrom.and (ownFrom_below (Nat.le_refl _) hsz) (fun s A B row hs hg _ => Nat.lt_of_lt_of_le hs hg.size)))
          (fun _ => ownFrom_pure _ _)
          ⟨⟨bO, by simp⟩, hB0, hb2⟩ ?assign2 ?body2 ?done2 ?stop2
        case assign2 =>
          intro l x W K hK
          simp only [List.setIfInBounds_toArray, List.set_cons_zero, List.set_cons_succ] at hK ⊢
          have hsem := @Oper.semAt_some
          gi_wp2
          exact hK
        case stop2 =>
          rintro D c pre W _ hp hx _
          exact absurd (List.IsPrefix.map tx hp) hx
        case body2 =>
          rintro l pre x W2 ⟨⟨hv, hpre⟩, hB, hbW⟩ hplt
          simp only [List.setIfInBounds_toArray, List.set_cons_zero, List.set_cons_succ]
          have hsem := @Oper.semAt_some
          obtain ⟨pn, hpn⟩ : ∃ pn, pn = pre.length := ⟨_, rfl⟩
          have hcn := hv.cell
          have hfn := hv.frozen
          rw [← hpn] at hcn hplt hv
          have HPN := Lib.hid hpn.symm
          have HV2 := Lib.hid hv
          have HPRE := Lib.hid hpre
          have HB2' := Lib.hid hB
          have HBW2 := Lib.hid hbW
          have hww : W2.heap[wb]? = W.heap[wb]? := hB.block wb HVW.out.lt
          have hcw : W2.cell? ⟨wb, 0, none⟩ = some (.slice va zn vc) := by rw [World.cell?_of_block (a := ⟨wb, 0, none⟩) (w := W) hww]; exact HVW.out.cell
          have hwr : W2.frozen? ⟨rb, 0, none⟩ = false := by
            rw [World.frozen?_of_block (a := ⟨rb, 0, none⟩) (w := wr) ((hB.block rb (Nat.lt_of_lt_of_le HRRL.out HBWr.out.size)).trans (HBWr.out.block rb HRRL.out))]
            exact (cells_of_block HRR.out 0).2
          have hcr : W2.cell? ⟨rb, 0, none⟩ = some (.bool false) := by
            rw [World.cell?_of_block (a := ⟨rb, 0, none⟩) (w := wr) ((hB.block rb (Nat.lt_of_lt_of_le HRRL.out HBWr.out.size)).trans (HBWr.out.block rb HRRL.out))]
            exact (cells_of_block HRR.out 0).1
          obtain ⟨eb, eoff, z, rfl, hce, HZ⟩ := seqAt_strs (HSQ.out.below hB (Nat.le_refl _)) (k := pn) hplt
          have hpz : pn < zn := by rw [← HZN.out]; exact hplt
          have HB1 := Lib.hid hb1
          have HNL := Lib.hid bO.lt
          have HRNL : Hid (rb < w9.heap.size) := Nat.lt_of_lt_of_le (Nat.lt_of_lt_of_le HRRL.out HBWr.out.size) hsz
          clear hpn hv hpre hB hbW hww hBs hcs hI hbb hb1 hb2 hB0 hsz bO
          by_cases he : tx x = tx z
          · rw [he]
            have HE := Lib.hid he
            clear he
            have HPS := Lib.hid (prefix_snoc (x := x) HPRE.out (by rw [HPN.out]; exact HZ.out) HE.out)
            generalize tx z = sz at *
            gi_wp2
            refine ⟨KeepsFrom.of_grownBy (grownBy_setCell' W2 nb _) (fun j e => by cases e; exact HNL.out), Below.heap_setCell _ _ _ b (by have := HB1.out; simp; omega), ⟨?_, HPS.out⟩, HB2'.out.setCell (by have := HNB.out; simp; omega) _, ?_⟩
            · have := HV2.out.set (.int .i64 ((pn : Int) + 1))
              rw [List.length_append, HPN.out]
              exact this
            · have := HBW2.out
              simpa [World.setCell] using this
          · have HPS : Hid (¬ (pre ++ [x]).map tx <+: ys.map tx) := fun h => he (prefix_last h (by rw [HPN.out]; exact HZ.out))
            have hq2 : ((tx x).toList == (tx z).toList) = false := by
              rw [beq_eq_false_iff_ne]
              intro h
              rw [ByteArray.toList_eq, ByteArray.toList_eq] at h
              exact he (ByteArray.ext (by simpa using congrArg List.toArray h))
            clear he
            generalize tx z = sz at *
            generalize tx x = sx at *
            gi_wp2
            exact ⟨KeepsFrom.of_grownBy (grownBy_setCell' W2 rb _) (fun j e => by cases e; exact HRNL.out), HPS.out⟩
        case done2 =>
          rintro D2 xs W2 hD2 hxs ⟨⟨hv, -⟩, hB, hbW⟩ hK2
          rw [hxs, HZN.out] at hv
          have HV2 := Lib.hid hv
          have hww : W2.heap[wb]? = W.heap[wb]? := hB.block wb HVW.out.lt
          have hrr2 : W2.heap[rb]? = some (.cells #[.bool false] 4 (0, 0)) := ((hB.block rb (Nat.lt_of_lt_of_le HRRL.out HBWr.out.size)).trans (HBWr.out.block rb HRRL.out)).trans HRR.out
          have hcn := hv.cell
          have hcw : W2.cell? ⟨wb, 0, none⟩ = some (.slice va zn vc) := by rw [World.cell?_of_block (a := ⟨wb, 0, none⟩) (w := W) hww]; exact HVW.out.cell
          have HRR2 := Lib.hid hrr2
          have HT2 := Lib.hid (HTW.out.read hB)
          have HBB2 : Hid (Below w.heap.size w W2) := HBW.out.trans ((HBWr.out.trans (hB.mono HBWr.out.size)).mono HBW.out.size)
          have HDW : Hid (W2.heap[D]? = some (.deferred (some []))) := (hB.block D (Array.getElem?_eq_some_iff.1 HKD.out).1).trans HKD.out
          have HDL : Hid (D < W.heap.size) := (Array.getElem?_eq_some_iff.1 HKD.out).1
          have HDL2 : Hid (W.heap.size ≤ D2) := Nat.le_trans hsz hD2
          have HK2 := Lib.hid hK2
          have HRL2 : Hid (rb < wr.heap.size ∧ wr.heap.size ≤ D ∧ w.heap.size ≤ wr.heap.size) := ⟨HRRL.out, Nat.le_trans HBWr0.out HD.out, HBW.out.size⟩
          obtain ⟨vA2, hvA2⟩ := HT2.out.bagA
          have HVA := Lib.hid hvA2
          clear hv hww hrr2 hB hbW hK2 hD2 hxs hBs hcs hI hbb hb1 hb2 hB0 hsz bO hvA2
          go_wp2_with fail
          refine wp_region_lastH (S := fun W => W.cell? ⟨nb, 0, none⟩ = some (.int .i64 zn) ∧ W.cell? ⟨wb, 0, none⟩ = some (.slice va zn vc)) 10 (by kernel_rfl) (by kernel_rfl) ⟨hcn, hcw⟩ (fun hH => ?_)
          simp only [lastOps, nop, List.modify_toArray, List.modify_succ_cons, List.modify_zero_cons]
          refine takeH 0 (v := ?_) rfl (by kernel_rfl) (by kernel_rfl) (by kernel_rfl) (fun _ _ _ h => h) (by rfl) ?_ (by assumption) ?_
          rotate_left
          · intro W hW
            go_simp
            try with_reducible rfl
          try simp only [Act.put, List.setIfInBounds_toArray, List.set_cons_zero, List.set_cons_succ]
          refine takeH 1 (v := ?_) rfl (by kernel_rfl) (by kernel_rfl) (by kernel_rfl) (fun _ _ _ h => h) (by rfl) ?_ (by assumption) ?_
          rotate_left
          · intro W hW
            go_simp
            try with_reducible rfl
          try simp only [Act.put, List.setIfInBounds_toArray, List.set_cons_zero, List.set_cons_succ]
          refine takeH 2 (v := ?_) rfl (by kernel_rfl) (by kernel_rfl) (by kernel_rfl) (fun _ _ _ h => h) (by rfl) ?_ (by assumption) ?_
          rotate_left
          · intro W hW
            go_simp
            try with_reducible rfl
          try simp only [Act.put, List.setIfInBounds_toArray, List.set_cons_zero, List.set_cons_succ]
          refine takeH 3 (v := ?_) rfl (by kernel_rfl) (by kernel_rfl) (by kernel_rfl) (fun _ _ _ h => h) (by rfl) ?_ (by assumption) ?_
          rotate_left
          · intro W hW
            go_simp
            try with_reducible rfl
          try simp only [Act.put, List.setIfInBounds_toArray, List.set_cons_zero, List.set_cons_succ]
          refine takeH 4 (v := ?_) rfl (by kernel_rfl) (by kernel_rfl) (by kernel_rfl) (fun _ _ _ h => h) (by rfl) ?_ (by assumption) ?_
          rotate_left
          · intro W hW
            go_simp
            try with_reducible rfl
          try simp only [Act.put, List.setIfInBounds_toArray, List.set_cons_zero, List.set_cons_succ]
          refine takeH 5 (v := ?_) rfl (by kernel_rfl) (by kernel_rfl) (by kernel_rfl) (fun _ _ _ h => h) (by rfl) ?_ (by assumption) ?_
          rotate_left
          · intro W hW
            go_simp
            try with_reducible rfl
          try simp only [Act.put, List.setIfInBounds_toArray, List.set_cons_zero, List.set_cons_succ]
          refine takeH 7 (v := ?_) rfl (by kernel_rfl) (by kernel_rfl) (by kernel_rfl) (fun _ _ _ h => h) (by rfl) ?_ (by assumption) ?_
          rotate_left
          · intro W hW
            go_simp
            try with_reducible rfl
          try simp only [Act.put, List.setIfInBounds_toArray, List.set_cons_zero, List.set_cons_succ]
          refine wpAnyH_ready (rs := [6]) (by kernel_rfl) (by simp) (readyH rfl (fun K hK => ?_) AllReadyH.nil)
          rw [if_pos (by rfl)]
          go_simp
          refine (blenS_any W2.drew (HVA.out.below (Drawn.below ⟨1, rfl⟩ _))).mono ?_
          rintro e w11 ⟨rfl, rfl⟩
          rw [HZN.out]
          refine hK.out _ _ hH (fun hH => ?_)
          clear hK K
          try simp only [Act.put, List.setIfInBounds_toArray, List.set_cons_zero, List.set_cons_succ]
          refine takeH 8 (v := ?_) rfl (by kernel_rfl) (by kernel_rfl) (by kernel_rfl) (fun _ _ _ h => h) (by rfl) ?_ (by assumption) ?_
          rotate_left
          · intro W hW
            go_simp
            try with_reducible rfl
          try simp only [Act.put, List.setIfInBounds_toArray, List.set_cons_zero, List.set_cons_succ]
          refine takeH 9 (v := ?_) rfl (by kernel_rfl) (by kernel_rfl) (by kernel_rfl) (fun _ _ _ h => h) (by rfl) ?_ (by assumption) ?_
          rotate_left
          · intro W hW
            go_simp
            try with_reducible rfl
          try simp only [Act.put, List.setIfInBounds_toArray, List.set_cons_zero, List.set_cons_succ]
          refine takeH 10 (v := ?_) rfl (by kernel_rfl) (by kernel_rfl) (by kernel_rfl) (fun _ _ _ h => h) (by rfl) ?_ (by assumption) ?_
          rotate_left
          · intro W hW
            go_simp
            try with_reducible rfl
          try simp only [Act.put, List.setIfInBounds_toArray, List.set_cons_zero, List.set_cons_succ]
          have hcr := (cells_of_block HRR2.out 0).1
          have hfr := (cells_of_block HRR2.out 0).2
          refine lastH_done (by kernel_rfl) rfl (by rfl) ?_
          go_simp
          clear hcr hfr hcn hcw
          go_wp2
          have hRS : (W2.setCell ⟨rb, 0, none⟩ (.bool true)).drew.heap[rb]? = some (.cells #[.bool true] 4 (0, 0)) := Boxed.set (.bool true) HRR2.out
          have hne2 : rb ≠ D2 := by have := HRL2.out; have := HDL.out; have := HDL2.out; omega
          have hne1 : rb ≠ D := by have := HRL2.out; omega
          have hK2' : (W2.setCell ⟨rb, 0, none⟩ (.bool true)).drew.heap[D2]? = some (.deferred (some [])) := (Below.heap_setCell W2 ⟨rb, 0, none⟩ _ D2 (by simpa using Ne.symm hne2)).trans HK2.out
          have hK1' : (W2.setCell ⟨rb, 0, none⟩ (.bool true)).drew.heap[D]? = some (.deferred (some [])) := (Below.heap_setCell W2 ⟨rb, 0, none⟩ _ D (by simpa using Ne.symm hne1)).trans HDW.out
          have hBs : Below w.heap.size w (W2.setCell ⟨rb, 0, none⟩ (.bool true)).drew := (HBB2.out.setCell (show w.heap.size ≤ (⟨rb, 0, none⟩ : Addr).block from HRN.out) _).drew
          generalize (W2.setCell ⟨rb, 0, none⟩ (.bool true)).drew = WF at *
          have hK1f : (WF.putObj D2 (.deferred none)).heap[D]? = some (.deferred (some [])) := (World.putObj_heap_other (by have := HDL.out; have := HDL2.out; omega)).trans hK1'
          have hRf : ((WF.putObj D2 (.deferred none)).putObj D (.deferred none)).heap[rb]? = some (.cells #[.bool true] 4 (0, 0)) := (World.putObj_heap_other hne1).trans ((World.putObj_heap_other hne2).trans hRS)
          have hcf := (cells_of_block hRf 0).1
          have hb2 := belowK_b (w := w) (Nat.le_refl _) WF D2 _ (.deferred none) (by have := HRL2.out; have := HDL.out; have := HDL2.out; omega) hK2' rfl rfl
          have hb1 := belowK_b (w := w) (Nat.le_refl _) (WF.putObj D2 (.deferred none)) D _ (.deferred none) (by have := HRL2.out; omega) hK1f rfl rfl
          refine ⟨by simp, .inl ⟨_, _, rfl, run_takeDeferred hK2', by simp, .inl ⟨_, _, rfl, run_takeDeferred hK1f, ?_⟩⟩⟩
          refine ⟨.bool true, ?_, rfl, hBs.trans (hb2.trans hb1)⟩
          generalize (WF.putObj D2 (.deferred none)).putObj D (.deferred none) = WG at *
          simp [results, Try.results7, go_sem, hcf]
      case stop =>
        rintro D c pre W _ _ h _
        exact h.elim

set_option maxRecDepth 1000000 in
theorem bagtexts_big (a1 : Option Addr) (n1 c1 : Nat) (L : List AV) (w : World)
    (h1 : SeqAt w a1 (acells L)) (hl1 : L.length = n1) (hm1 : n1 ≤ 9223372036854775807) (hA : ∀ A ∈ L, A.ok w) (hg2 : greatA L = true) :
    Calls Try.prog 7 #[.slice a1 n1 c1] w fun e w' => e = .returned (.bool true) ∧ Below w.heap.size w w' := by
  have H := Lib.hid h1; clear h1
  have HL := Lib.hid hl1; clear hl1
  have HAN : Hid (∀ A ∈ L, A.n ≤ 9223372036854775807) := fun A hm => by have := (hA A hm).2.2.2; unfold maxLen at this; omega
  have HG := Lib.hid hg2
  clear hg2 hA
  go_enter Try.func7, Try.ntmps7
  go_wp2_with fail
  refine (alive08_any _).mono ?_
  rintro e w1 ⟨rfl, hb⟩
  have HB : Hid (Below w.heap.size w w1) := ((Below.refl _ w).alloc (Nat.le_refl _) _).trans (hb.mono (by simp))
  have hbk : w1.heap[w.heap.size]? = some (.cells #[.bool false] 4 (0, 0)) := (hb.block _ (by simp)).trans (heap_alloc_new w _)
  have HR := Lib.hid hbk
  clear hb hbk
  go_wp2_with fail
  refine (great08_any a1 n1 c1 L _ (H.out.below HB.out (Nat.le_refl _)) HL.out hm1 HAN.out).mono ?_
  rintro e w2 ⟨rfl, hb⟩
  rw [HG.out]
  have HB2 : Hid (Below w.heap.size w w2) := HB.out.trans (hb.mono HB.out.size)
  have hbk : w2.heap[w.heap.size]? = some (.cells #[.bool false] 4 (0, 0)) := (hb.block _ (Array.getElem?_eq_some_iff.1 HR.out).1).trans HR.out
  have HR2 := Lib.hid hbk
  clear hb hbk HB HR
  go_wp2_with fail
  refine (alive08_any _).mono ?_
  rintro e w3 ⟨rfl, hb⟩
  have HB3 : Hid (Below w.heap.size w w3) := HB2.out.trans (hb.mono HB2.out.size)
  have hbk : w3.heap[w.heap.size]? = some (.cells #[.bool false] 4 (0, 0)) := (hb.block _ (Array.getElem?_eq_some_iff.1 HR2.out).1).trans HR2.out
  have hcr := (cells_of_block hbk 0).1
  have hfr := (cells_of_block hbk 0).2
  have hRS : (w3.setCell ⟨w.heap.size, 0, none⟩ (.bool true)).cell? ⟨w.heap.size, 0, none⟩ = some (.bool true) := (cells_of_block (Boxed.set (.bool true) hbk) 0).1
  clear hb hbk HB2 HR2
  go_wp2_with fail
  exact bodyPost_ret (v := .bool true) (by simp [results, Try.results7, go_sem, hRS]) rfl ⟨rfl, HB3.out.setCell (Nat.le_refl _) _⟩
theorem bagtexts_row (a0 : Option Addr) (n0 c0 : Nat) (z0 : List AV) (w : World)
    (hz0 : SeqAt w a0 (acells z0)) (hl0 : z0.length = n0) (hc0 : n0 ≤ c0) (hm0 : n0 ≤ maxLen) (hA0 : ∀ A ∈ z0, A.ok w) :
    Calls Try.prog 7 #[.slice a0 n0 c0] w fun e w' => e = .returned (.bool true) ∧ Below w.heap.size w w' := by
  unfold maxLen at hm0
  by_cases hg : greatA z0 = true
  · exact bagtexts_big a0 n0 c0 z0 w hz0 hl0 (by omega) hA0 hg
  · exact bagtexts_small a0 n0 c0 z0 w hz0 hl0 (by omega) hA0 (by simpa using hg)
end Go.Proofs.Ythfdigjbmoconaa
