/-
  Parts of the proof, one behind the other: Gray2, Gray3, KHeap.
-/
import Derived.StillTailTactics
import Derived.Test.YtcdpnfchmpncjaaGreatDoorMa27
set_option linter.unusedSimpArgs false
set_option linter.unusedVariables false
namespace Go.Proofs.YtcdpnfchmpncjaaGreatDoor
open Go.RowKit Go.Tr
set_option maxRecDepth 100000 in
theorem paint_any {g : Nat} {F : Nat → Prop} {S : GS} (x : Int) (w : World) (h : GrayAt 165 w g F S) (hs : S.Small 1000000) : Calls Tryz.prog 38 #[.pointer (some ⟨g, 0, none⟩), .int .i64 x] w fun e w' => e = .returned (.bool (decide (S.color x ≠ 2))) ∧ GrayAt 165 w' g (grow F w w') (S.paint x) ∧ Only F w w' := by
  have hw : 0 ≤ S.wait + 1000000 := by obtain ⟨s1, s2, s3, s4, s5⟩ := hs; omega
  have hw2 : S.wait ≤ 1000000 := hs.2.2.2.1
  clear hs
  have H := Lib.hid h; clear h
  by_cases h2 : S.color x = 2
  · go_enter Tryz.func38, Tryz.ntmps38
    go_wp2_with fail
    refine (color_any x _ H.out).mono ?_
    rintro e w1 ⟨rfl, rfl⟩
    rw [h2]
    go_wp2_with fail
    go_ret
    refine ⟨by simp [h2], ?_, Only.refl _ _⟩
    rw [GS.paint, if_pos h2]
    exact H.out.mono (fun k hk => Or.inl hk)
  · by_cases h1 : S.color x = 1
    · go_enter Tryz.func38, Tryz.ntmps38
      go_wp2_with fail
      refine (color_any x _ H.out).mono ?_
      rintro e w1 ⟨rfl, rfl⟩
      rw [h1]
      go_wp2_with fail
      refine (color_any x _ H.out).mono ?_
      rintro e w1 ⟨rfl, rfl⟩
      rw [h1]
      obtain ⟨f1, bm, qv, b2, f3, b4, b5, b6, b7⟩ := H.out
      have hc0 := cells_of_block b2 0
      have hc3 := cells_of_block b2 3
      simp at hc0 hc3
      obtain ⟨c0, e0⟩ := hc0
      obtain ⟨c3, e3⟩ := hc3
      have B2 := Lib.hid b2; clear b2
      go_wp2_with (refine wpList_putI _ rfl (.tmp 27) (.tmp 28) (.tmp 29) 162 rfl 3 167 Tryz.underlying162 Tryz.underlying3 bm _ rfl (b5.kept (Below.heap_setCell _ _ _ _ b4)) x rfl (thingV (2, 0)) rfl ?_; intro w2 hm2 hg2 hs2)
      go_ret
      have hP : S.paint x = { S with tab := putA S.tab x (2, 0), wait := S.wait - 1 } := by rw [GS.paint, if_neg h2, if_pos h1]
      rw [hP]
      have hm3 := hm2
      rw [putA_mapA] at hm3
      obtain ⟨r1, r2⟩ := GrayAt.painted (S := S) (S' := { S with tab := putA S.tab x (2, 0), wait := S.wait - 1 }) f1 f3 b4 (block_setCell B2.out 3 _) ((Only.refl F w).setCell (Or.inl f1) _) (b6.kept (fun k hk => Below.heap_setCell _ _ _ _ (b7 k hk).2.1)) hm3 hg2 b7
      exact ⟨by simp [h2], r1, r2⟩
    · have hd2 : (S.color x == 2) = false := by simpa using h2
      have hd1 : (S.color x == 1) = false := by simpa using h1
      have HC2 := Lib.hid h2; clear h2
      have HC1 := Lib.hid h1; clear h1
      go_enter Tryz.func38, Tryz.ntmps38
      go_wp2_with fail
      refine (color_any x _ H.out).mono ?_
      rintro e w1 ⟨rfl, rfl⟩
      go_wp2_with fail
      refine (color_any x _ H.out).mono ?_
      rintro e w1 ⟨rfl, rfl⟩
      obtain ⟨f1, bm, qv, b2, f3, b4, b5, b6, b7⟩ := H.out
      have hc0 := cells_of_block b2 0
      have hc3 := cells_of_block b2 3
      simp at hc0 hc3
      obtain ⟨c0, e0⟩ := hc0
      obtain ⟨c3, e3⟩ := hc3
      have B2 := Lib.hid b2; clear b2
      go_wp2_with (refine wpList_putI _ rfl (.tmp 27) (.tmp 28) (.tmp 29) 162 rfl 3 167 Tryz.underlying162 Tryz.underlying3 bm _ rfl b5 x rfl (thingV (2, 0)) rfl ?_; intro w2 hm2 hg2 hs2)
      go_ret
      have hP : S.paint x = { S with tab := putA S.tab x (2, 0) } := by rw [GS.paint, if_neg HC2.out, if_neg HC1.out]
      rw [hP]
      have hm3 := hm2
      rw [putA_mapA] at hm3
      obtain ⟨r1, r2⟩ := GrayAt.painted (S := S) (S' := { S with tab := putA S.tab x (2, 0) }) f1 f3 b4 B2.out (Only.refl F w) b6 hm3 hg2 b7
      exact ⟨by have := HC2.out; simp [this], r1, r2⟩
set_option maxRecDepth 100000 in
theorem again_any {g : Nat} {F : Nat → Prop} {S : GS} (x : Int) (w : World) (h : GrayAt 165 w g F S) (hs : S.Small 1000000) : Calls Tryz.prog 61 #[.pointer (some ⟨g, 0, none⟩), .int .i64 x] w fun e w' => e = .returned (.bool (decide (S.color x = 2))) ∧ GrayAt 165 w' g (grow F w w') (S.again x) ∧ Only F w w' := by
  have HS := Lib.hid hs; clear hs
  have H := Lib.hid h; clear h
  by_cases h2 : S.color x = 2
  · go_enter Tryz.func61, Tryz.ntmps61
    go_wp2_with fail
    refine (color_any x _ H.out).mono ?_
    rintro e w1 ⟨rfl, rfl⟩
    rw [h2]
    go_wp2_with fail
    refine (enter_any x _ H.out HS.out).mono ?_
    rintro e w1 ⟨rfl, h3, h4⟩
    go_wp2_with fail
    go_ret
    refine ⟨by simp [h2], ?_, h4⟩
    rw [GS.again, if_pos h2]
    exact h3
  · have hd2 : (S.color x == 2) = false := by simpa using h2
    have HC2 := Lib.hid h2; clear h2
    go_enter Tryz.func61, Tryz.ntmps61
    go_wp2_with fail
    refine (color_any x _ H.out).mono ?_
    rintro e w1 ⟨rfl, rfl⟩
    go_wp2_with fail
    go_ret
    refine ⟨by have := HC2.out; simp [this], ?_, Only.refl _ _⟩
    rw [GS.again, if_neg HC2.out]
    exact H.out.mono (fun k hk => Or.inl hk)
set_option maxRecDepth 100000 in
theorem put_any {g : Nat} {F : Nat → Prop} {S : GS} (a : Option Addr) (n c : Nat) (xs : List Int) (w : World) (h : GrayAt 165 w g F S) (ha : SeqAt w a (ints xs)) (hl : xs.length = n) (hn : 0 < n → ∀ b o, a = some ⟨b, o, none⟩ → ¬ F b ∧ b < w.heap.size) (hs : S.Small (1000000 - n)) :
    Calls Tryz.prog 58 #[.pointer (some ⟨g, 0, none⟩), .slice a n c] w fun e w' => e = .returned (.int .i64 (S.putN xs)) ∧ GrayAt 165 w' g (grow F w w') (S.put xs) ∧ Only F w w' := by
  have hn0 : n ≤ 1000000 := by obtain ⟨s1, s2, s3, s4, s5⟩ := hs; omega
  have HS := Lib.hid hs; clear hs
  have H := Lib.hid h; clear h
  have HA := Lib.hid ha; clear ha
  have HL := Lib.hid hl; clear hl
  go_enter Tryz.func58, Tryz.ntmps58
  go_wp2_with fail
  go_loopw [5, 10] (fun v i wr => ∃ (k : Nat) (m : Int), k ≤ n ∧ i = .int .i64 k ∧ v = .int .i64 m ∧ 0 ≤ m ∧ m ≤ k ∧ Hid (m = S.putN (xs.take k)) ∧ Hid (GrayAt 165 wr g (grow F w wr) (S.put (xs.take k))) ∧ Hid (Only F w wr)) (fun _ i _ => n - (intOf i).toNat)
  case atStart => exact ⟨0, 0, Nat.zero_le _, rfl, rfl, by omega, by omega, by simp [Hid, GS.putN], H.out.mono (fun k hk => Or.inl hk), Only.refl _ _⟩
  case round =>
    obtain ⟨k, m, hk, rfl, rfl, hm0, hm1, HM, HG, HO⟩ := hrel
    by_cases hlt : k < n
    · have hR : SeqAt wr a (ints xs) := HA.out.only HO.out (fun _ b o e => (hn (by omega) b o e).1)
      obtain ⟨b, off, z, rfl, hc, HZ⟩ := hR.ints (k := k) (by rw [HL.out]; exact hlt)
      clear hR
      have hi : (k : Int) < (n : Int) := by omega
      have hS : (S.put (xs.take k)).Small (1000000 - n + k) := by
        have := GS.Small.put (xs.take k) HS.out
        rwa [List.length_take, HL.out, Nat.min_eq_left (by omega)] at this
      have HSk := Lib.hid (hS.mono (M := 1000000) (by omega))
      clear hS
      obtain ⟨Sk, hSk⟩ : ∃ Sk, Sk = S.put (xs.take k) := ⟨_, rfl⟩
      rw [← hSk] at HG HSk
      have hP := put_snoc z (xs.take k) S
      have hN := putN_snoc z (xs.take k) S
      rw [← hSk] at hP hN
      rw [← take_snoc HZ.out] at hP hN
      have HP := Lib.hid hP
      have HN := Lib.hid hN
      have HSK := Lib.hid hSk
      clear hP hN hSk HZ
      by_cases hw0 : Sk.color z = 0
      · go_wp2_with fail
        refine (color_any z _ HG.out).mono ?_
        rintro e w1 ⟨rfl, rfl⟩
        rw [hw0]
        go_wp2_with fail
        refine (enter_any z _ HG.out HSk.out).mono ?_
        rintro e w1 ⟨rfl, h3, h4⟩
        have H3 : Hid (GrayAt 165 w1 g (grow F w w1) (Sk.enter z)) := h3.mono (grow_trans HO.out.size h4.size)
        have H4 : Hid (Only F w w1) := HO.out.grow h4
        clear h3 h4
        go_wp2
        go_roundw
        case rel =>
          refine ⟨k + 1, m + 1, by omega, by go_num, by go_num, by omega, by omega, ?_, ?_, H4⟩
          · have := HN.out
            rw [if_pos hw0, ← HM.out] at this
            exact this.symm
          · have := H3.out
            rw [HP.out, GS.put1, if_pos hw0]
            exact this
        case measure => simp [intOf]; omega
      · have hd : (Sk.color z == 0) = false := by simpa using hw0
        have HW0 := Lib.hid hw0; clear hw0
        go_wp2_with fail
        refine (color_any z _ HG.out).mono ?_
        rintro e w1 ⟨rfl, rfl⟩
        go_wp2
        go_roundw
        case rel =>
          refine ⟨k + 1, m, by omega, by go_num, rfl, by omega, by omega, ?_, ?_, HO⟩
          · have := HN.out
            rw [if_neg HW0.out, ← HM.out, Int.add_zero] at this
            exact this.symm
          · have := HG.out
            rw [HP.out, GS.put1, if_neg HW0.out]
            exact this
        case measure => simp [intOf]; omega
    · go_wp2
      go_ret
      have ht : xs.take k = xs := List.take_of_length_le (by rw [HL.out]; omega)
      rw [ht] at HM HG
      exact ⟨by rw [HM.out]; rfl, HG.out, HO.out⟩
end Go.Proofs.YtcdpnfchmpncjaaGreatDoor
namespace Go.Proofs.YtcdpnfchmpncjaaGreatDoor
open Go.RowKit Go.Tr
def nextV (r : Option Int × GS) : Value := .tuple #[.int .i64 (r.1.getD 0), .bool r.1.isSome]
set_option maxRecDepth 100000 in
set_option maxHeartbeats 1000000 in
theorem next_any {g : Nat} {F : Nat → Prop} {S : GS} (w : World) (h : GrayAt 165 w g F S) (hs : S.Small 1000000) :
    Calls Tryz.prog 59 #[.pointer (some ⟨g, 0, none⟩)] w fun e w' => e = .returned (nextV S.next) ∧ GrayAt 165 w' g (grow F w w') S.next.2 ∧ Only F w w' := by
  have HS := Lib.hid hs; clear hs
  have H := Lib.hid h; clear h
  go_enter Tryz.func59, Tryz.ntmps59
  go_wp2_with fail
  go_loopw [] (fun wr => ∃ k : Nat, k ≤ S.q.length ∧ Hid (GrayAt 165 wr g (grow F w wr) { S with q := S.q.drop k }) ∧ Hid (Only F w wr) ∧ Hid (S.next = nextQ S (S.q.drop k))) (fun wr => lenAt g wr)
  case atStart => exact ⟨0, Nat.zero_le _, H.out.mono (fun k hk => Or.inl hk), Only.refl _ _, rfl⟩
  case round =>
    obtain ⟨k, hk, HG, HO, HN⟩ := hrel
    obtain ⟨f1, bm, qv, b2, f3, b4, b5, b6, b7⟩ := HG.out
    have hc0 := cells_of_block b2 0
    have hc1 := cells_of_block b2 1
    simp at hc0 hc1
    obtain ⟨c0, e0⟩ := hc0
    obtain ⟨c1, e1⟩ := hc1
    have B2 := Lib.hid b2; clear b2
    cases hq : S.q.drop k with
    | nil =>
      simp only [hq, List.length_nil] at *
      obtain ⟨oa, oc, rfl, hso, hoc, -⟩ := b6.seq
      go_wp2_with fail
      go_ret2
      have := HN.out
      rw [nextQ] at this
      rw [this]
      exact ⟨rfl, HG.out, HO.out⟩
    | cons t r =>
      obtain ⟨x, n⟩ := t
      have HQK : Hid (S.q.drop (k + 1) = r ∧ k + 1 ≤ S.q.length) := by
        have h2 := congrArg List.length hq
        simp at h2
        exact ⟨by rw [← List.tail_drop, hq]; rfl, by omega⟩
      simp only [hq, List.length_cons] at *
      obtain ⟨qg, qo, qc, rfl, q1, q2, q3⟩ := b6.tail (by decide)
      have q4 := b6.cells 0 (by omega)
      have q5 := b6.cells 1 (by omega)
      simp [ecells, iv] at q4 q5
      have hgl : g < wr.heap.size := (Array.getElem?_eq_some_iff.1 B2.out).1
      have hi : (0 : Int) < (r.length : Int) + 1 := by omega
      have hts := HO.out.size
      obtain ⟨ts, hts'⟩ : ∃ ts, ts = wr.heap.size := ⟨_, rfl⟩
      by_cases hq1 : qc = 1
      all_goals first | (subst hq1; rw [if_pos rfl] at q3; have hr0 : r = [] := List.eq_nil_of_length_eq_zero (by omega); simp only [Nat.sub_self] at q3) | (rw [if_neg hq1] at q3)
      all_goals
        go_wp2_with fail
        rw [← hts']
        generalize hw1 : ((wr.setCell _ _).alloc _) = w1
        have step : Hid (GrayAt 165 w1 g (fun k => grow F w w1 k ∧ k ≠ ts) ⟨S.tab, r, S.last, S.wait⟩) ∧ Hid (Only F w w1) ∧ w1.heap[ts]? = some (.cells #[.int .i64 x, .int .i64 n] 190 (0, 0)) := by
          rw [← hw1, hts']
          try rw [hr0] at b6 q3 b7 ⊢
          try simp only [hr0] at B2
          have step0 := GrayAt.popped (T' := 190) f1 f3 b4 B2.out HO.out b5 q3 (fun k hk => by simp [Value.ownBlock] at hk; exact hk.symm) b7
          exact step0
        clear hw1 hts'
        obtain ⟨G1, O1, t1⟩ := step
        have T1 := Lib.hid t1
        have hl := look_thing S x
        obtain ⟨g1, bm', qv', g2, g3, g4, g5, g6, g7⟩ := G1.out
        have hc0 := cells_of_block g2 0
        have ht0 := cells_of_block t1 0
        have ht1 := cells_of_block t1 1
        simp at hc0 ht0 ht1
        obtain ⟨d0, -⟩ := hc0
        obtain ⟨d1, d1'⟩ := ht0
        obtain ⟨d2, d2'⟩ := ht1
        refine wp_region_held_drew (S := fun W => W.cell? ⟨g, 0, none⟩ = some (.map (some bm')) ∧ W.cell? ⟨ts, 0, none⟩ = some (.int .i64 x) ∧ W.cell? ⟨ts, 1, none⟩ = some (.int .i64 n) ∧ MapI W bm' (mapA thingV S.tab)) (by kernel_rfl) ⟨d0, d1, d2, g5⟩ (fun hH => ?_)
        have HL := Lib.hid hl
        have hcn := (cells_of_block g2 1).1
        simp at hcn
        obtain ⟨oa1, oc1, rfl, -, -, -⟩ := g6.seq
        have HLN : Hid (lenAt g w1.drew < lenAt g wr) := by
          have e1 : lenAt g w1.drew = r.length := by show lenAt g w1 = _; unfold lenAt; rw [hcn]
          have e2 : lenAt g wr = r.length + 1 := by unfold lenAt; rw [c1]
          show lenAt g w1.drew < lenAt g wr
          omega
        clear hcn
        clear c0 c1 e0 e1 q1 q2 q3 q4 q5 b5 b6 b7 g2 g3 g4 g5 g6 g7 hl t1 B2 HG HO f1 f3 b4
        refine takeH 0 (v := ?_) rfl (by kernel_rfl) (by kernel_rfl) (by kernel_rfl) (fun _ _ _ h => h) (by rfl) ?_ (by assumption) ?_
        rotate_left
        · intro W hW
          go_simp
          try with_reducible rfl
        try simp only [Act.put, List.setIfInBounds_toArray, List.set_cons_zero, List.set_cons_succ]
        refine takeH 1 (v := ?_) rfl (by kernel_rfl) (by kernel_rfl) (by kernel_rfl) (fun _ _ _ h => h) (by rfl) ?_ (by assumption) ?_
        rotate_left
        · intro W hW
          go_simp
          try with_reducible rfl
        try simp only [Act.put, List.setIfInBounds_toArray, List.set_cons_zero, List.set_cons_succ]
        refine takeH 2 (v := ?_) rfl (by kernel_rfl) (by kernel_rfl) (by kernel_rfl) (fun _ _ _ h => h) (by rfl) ?_ (by assumption) ?_
        rotate_left
        · intro W hW
          go_simp
          try with_reducible rfl
        try simp only [Act.put, List.setIfInBounds_toArray, List.set_cons_zero, List.set_cons_succ]
        refine takeH 3 (v := ?_) rfl (by kernel_rfl) (by kernel_rfl) (by kernel_rfl) (fun _ _ _ h => h) (by rfl) ?_ (by assumption) ?_
        rotate_left
        · intro W hW
          go_simp
          try with_reducible rfl
        try simp only [Act.put, List.setIfInBounds_toArray, List.set_cons_zero, List.set_cons_succ]
        refine takeH 4 (v := ?_) rfl (by kernel_rfl) (by kernel_rfl) (by kernel_rfl) (fun _ _ _ h => h) (by rfl) ?_ (by assumption) ?_
        rotate_left
        · intro W hW
          go_simp
          try with_reducible rfl
        try simp only [Act.put, List.setIfInBounds_toArray, List.set_cons_zero, List.set_cons_succ]
        refine takeH 5 (v := ?_) rfl (by kernel_rfl) (by kernel_rfl) (by kernel_rfl) (fun _ _ _ h => h) (by rfl) ?_ (by assumption) ?_
        rotate_left
        · intro W hW
          go_simp
          try with_reducible rfl
        try simp only [Act.put, List.setIfInBounds_toArray, List.set_cons_zero, List.set_cons_succ]
        refine takeH 6 (v := .agg #[.int .i64 (S.at x).1, .int .i64 (S.at x).2]) rfl (by kernel_rfl) (by kernel_rfl) (by kernel_rfl) (fun _ _ _ h => h) (by rfl) ?_ hH ?_
        · intro W hW
          rw [← HL.out]
          exact exec_lookI (.tmp 30) (.tmp 32) 162 (by rfl) 3 167 Tryz.underlying162 Tryz.underlying3 _ zeroThing bm' _ (by rfl) hW.2.2.2 x (by rfl)
        try simp only [Act.put, List.setIfInBounds_toArray, List.set_cons_zero, List.set_cons_succ]
        refine takeH 7 (v := ?_) rfl (by kernel_rfl) (by kernel_rfl) (by kernel_rfl) (fun _ _ _ h => h) (by rfl) ?_ (by assumption) ?_
        rotate_left
        · intro W hW
          go_simp
          try with_reducible rfl
        try simp only [Act.put, List.setIfInBounds_toArray, List.set_cons_zero, List.set_cons_succ]
        refine takeH 8 (v := ?_) rfl (by kernel_rfl) (by kernel_rfl) (by kernel_rfl) (fun _ _ _ h => h) (by rfl) ?_ (by assumption) ?_
        rotate_left
        · intro W hW
          go_simp
          try with_reducible rfl
        try simp only [Act.put, List.setIfInBounds_toArray, List.set_cons_zero, List.set_cons_succ]
        refine takeH 9 (v := ?_) rfl (by kernel_rfl) (by kernel_rfl) (by kernel_rfl) (fun _ _ _ h => h) (by rfl) ?_ (by assumption) ?_
        rotate_left
        · intro W hW
          go_simp
          try with_reducible rfl
        try simp only [Act.put, List.setIfInBounds_toArray, List.set_cons_zero, List.set_cons_succ]
        refine takeH 10 (v := .bool (decide (S.at x = (1, n)))) rfl (by kernel_rfl) (by kernel_rfl) (by kernel_rfl) (fun _ _ _ h => h) (by rfl) ?_ hH ?_
        · intro W hW
          go_simp
          rcases hp : S.at x with ⟨p1, p2⟩
          by_cases h1 : p1 = 1 <;> by_cases h2 : p2 = n <;> simp [h1, h2]
        try simp only [Act.put, List.setIfInBounds_toArray, List.set_cons_zero, List.set_cons_succ]
        refine wpAnyH_done (by kernel_rfl) ?_ _
        by_cases hat : S.at x = (1, n)
        · rw [show decide (S.at x = (1, n)) = true by simp [hat]]
          have hq1' : Hid (S.next = (some x, ({ S with q := r } : GS).paint x)) := by
            have := HN.out
            rw [nextQ, if_pos hat] at this
            exact this
          have hcol : ({ S with q := r } : GS).color x = 1 := by show (S.at x).1 = 1; rw [hat]
          have hsm : ({ S with q := r } : GS).Small 1000000 := by
            obtain ⟨s1, s2, s3, s4, s5⟩ := HS.out
            refine ⟨s1, s2, s3, s4, ?_⟩
            have := HQK.out
            rw [← this.1]
            simp; omega
          have HCOL := Lib.hid hcol
          have HSM := Lib.hid hsm
          clear hcol hsm HQK HLN HL HN hat HS H
          go_wp2_with fail
          refine wp_region_held_drew (S := fun W => W.cell? ⟨ts, 0, none⟩ = some (.int .i64 x)) (by kernel_rfl) d1 (fun hH => ?_)
          refine takeH 0 (v := ?_) rfl (by kernel_rfl) (by kernel_rfl) (by kernel_rfl) (fun _ _ _ h => h) (by rfl) ?_ (by assumption) ?_
          rotate_left
          · intro W hW
            go_simp
            try with_reducible rfl
          try simp only [Act.put, List.setIfInBounds_toArray, List.set_cons_zero, List.set_cons_succ]
          refine takeH 1 (v := ?_) rfl (by kernel_rfl) (by kernel_rfl) (by kernel_rfl) (fun _ _ _ h => h) (by rfl) ?_ (by assumption) ?_
          rotate_left
          · intro W hW
            go_simp
            try with_reducible rfl
          try simp only [Act.put, List.setIfInBounds_toArray, List.set_cons_zero, List.set_cons_succ]
          refine takeH 2 (v := ?_) rfl (by kernel_rfl) (by kernel_rfl) (by kernel_rfl) (fun _ _ _ h => h) (by rfl) ?_ (by assumption) ?_
          rotate_left
          · intro W hW
            go_simp
            try with_reducible rfl
          try simp only [Act.put, List.setIfInBounds_toArray, List.set_cons_zero, List.set_cons_succ]
          refine takeH 3 (v := ?_) rfl (by kernel_rfl) (by kernel_rfl) (by kernel_rfl) (fun _ _ _ h => h) (by rfl) ?_ (by assumption) ?_
          rotate_left
          · intro W hW
            go_simp
            try with_reducible rfl
          try simp only [Act.put, List.setIfInBounds_toArray, List.set_cons_zero, List.set_cons_succ]
          refine takeH 4 (v := ?_) rfl (by kernel_rfl) (by kernel_rfl) (by kernel_rfl) (fun _ _ _ h => h) (by rfl) ?_ (by assumption) ?_
          rotate_left
          · intro W hW
            go_simp
            try with_reducible rfl
          try simp only [Act.put, List.setIfInBounds_toArray, List.set_cons_zero, List.set_cons_succ]
          refine wpAnyH_ready (rs := [5]) (by kernel_rfl) (by simp) (readyH rfl (fun K hK => ?_) AllReadyH.nil)
          rw [if_pos (by rfl)]
          go_simp
          refine (paint_any (F := fun k => grow F w w1 k ∧ k ≠ ts) (S := { S with q := r }) x _ (G1.out.drawn ⟨2, rfl⟩) HSM.out).mono ?_
          rintro e w2 ⟨rfl, h3, h4⟩
          rw [show decide (({ S with q := r } : GS).color x ≠ 2) = true by rw [HCOL.out]; decide]
          have hts2 : w2.heap[ts]? = some (.cells #[.int .i64 x, .int .i64 n] 190 (0, 0)) := (h4.block ts (Array.getElem?_eq_some_iff.1 T1.out).1 (fun h => h.2 rfl)).trans T1.out
          have hH2 : w2.cell? ⟨ts, 0, none⟩ = some (.int .i64 x) := by have := (cells_of_block hts2 0).1; simpa using this
          have G2 : Hid (GrayAt 165 w2 g (grow F w w2) (({ S with q := r } : GS).paint x)) := h3.mono (fun k hk => grow_trans O1.out.size h4.size k (grow_mono (G := grow F w w1) (fun k (hk : grow F w w1 k ∧ k ≠ ts) => hk.1) k hk))
          have O2 : Hid (Only F w w2) := O1.out.grow (Only.undrew (h4.mono (G := grow F w w1) (fun k hk => hk.1)))
          clear h3 h4 hts2 G1 O1 T1
          refine hK.out _ _ hH2 (fun hH => ?_)
          clear hK K
          try simp only [Act.put, List.setIfInBounds_toArray, List.set_cons_zero, List.set_cons_succ]
          refine takeH 6 (v := ?_) rfl (by kernel_rfl) (by kernel_rfl) (by kernel_rfl) (fun _ _ _ h => h) (by rfl) ?_ (by assumption) ?_
          rotate_left
          · intro W hW
            go_simp
            try with_reducible rfl
          try simp only [Act.put, List.setIfInBounds_toArray, List.set_cons_zero, List.set_cons_succ]
          refine takeH 7 (v := ?_) rfl (by kernel_rfl) (by kernel_rfl) (by kernel_rfl) (fun _ _ _ h => h) (by rfl) ?_ (by assumption) ?_
          rotate_left
          · intro W hW
            go_simp
            try with_reducible rfl
          try simp only [Act.put, List.setIfInBounds_toArray, List.set_cons_zero, List.set_cons_succ]
          refine wpAnyH_done (by kernel_rfl) ?_ _
          go_wp2
          go_ret2
          rw [hq1'.out]
          exact ⟨rfl, G2.out, O2.out⟩
        · rw [show decide (S.at x = (1, n)) = false by simp [hat]]
          go_wp2_with fail
          go_roundw
          case rel =>
            obtain ⟨hdrop, hk1⟩ := HQK.out
            refine ⟨k + 1, hk1, ?_, O1.out.drew, ?_⟩
            · rw [hdrop]; exact G1.out.mono (fun k hk => hk.1)
            · rw [hdrop]
              have := HN.out
              rw [nextQ, if_neg hat] at this
              exact this
          case measure => exact HLN.out
end Go.Proofs.YtcdpnfchmpncjaaGreatDoor
namespace Go.Proofs.YtcdpnfchmpncjaaGreatDoor
open Go.RowKit Go.Tr Go.Shelf
structure Ad where
  (c h s b m t tr trm rm sp mn u bg u2 gl : Nat)
structure HS where
  (C Wd K : Nat)
  L : Lay
  (ws own : List Nat)
  sl : List Sl
  mine : List Int
  ps : List (Nat × Nat)
  (a en : Nat)
  on : Bool
  ps2 : List (Nat × Nat)
  (a2 en2 : Nat)
  gs : GS
def pv (x : Nat) : Value := .pointer (some ⟨x, 0, none⟩)
def CellsAt (w : World) (F : Nat → Prop) (A : Ad) (sp mn : List (Int × Value)) : Prop := F A.c ∧ F A.sp ∧ F A.mn ∧ A.sp ≠ A.mn ∧ w.heap[A.c]? = some (.cells #[.pointer (some ⟨A.s, 0, none⟩), .pointer (some ⟨A.b, 0, none⟩), .pointer (some ⟨A.m, 0, none⟩), .pointer (some ⟨A.t, 0, none⟩), .pointer (some ⟨A.tr, 0, none⟩), .pointer (some ⟨A.rm, 0, none⟩), .map (some A.sp), .map (some A.mn)] 56 (0, 0)) ∧ MapI w A.sp sp ∧ MapI w A.mn mn
def EvOn (A : Ad) : Bool → Array Value
  | false => #[.pointer (some ⟨A.c, 0, none⟩), .int .i64 0, .pointer none, .pointer none]
  | true => #[.pointer (some ⟨A.c, 0, none⟩), .int .i64 1, .pointer (some ⟨A.u2, 0, none⟩), .pointer (some ⟨A.gl, 0, none⟩)]
def EvAt (w : World) (F : Nat → Prop) (A : Ad) (on : Bool) : Prop := F A.h ∧ w.heap[A.h]? = some (.cells (EvOn A on) 31 (0, 0))
def tree1 : TS := ⟨[(1, 0)], 1⟩
def TrF (w : World) (F : Nat → Prop) (A : Ad) (S : TS) : Prop := F A.tr ∧ F A.trm ∧ TreeAt w A.tr A.trm S
def PP (A : Ad) (S : HS) : Nat → Part
  | 0 => fun w F => CellsAt w F A [(1, pv A.u)] [(1, pv A.bg)]
  | 1 => fun w F => StF w F A.s S.C S.Wd S.ws S.own
  | 2 => fun w F => Bk1 w F A.b S.L ∧ RightLay S.L
  | 3 => fun w F => TbF w F A.t S.K S.sl
  | 4 => fun w F => TrF w F A tree1
  | 5 => fun w F => RemF w F A.rm
  | 6 => fun w F => SpF 154 w F A.u A.s 1 S.ps S.a S.en
  | 7 => fun w F => Bag w A.bg F S.mine
  | 8 => fun w F => F A.m ∧ ImAt w A.m A.s A.b
  | 9 => fun w F => EvAt w F A S.on
  | 10 => fun w F => S.on = true → SpF 154 w F A.u2 A.s 1 S.ps2 S.a2 S.en2
  | 11 => fun w F => S.on = true → GrayAt 165 w A.gl F S.gs
  | _ => fun _ _ => True
variable {w w' : World} {F G : Nat → Prop} {A : Ad} {S : HS}
theorem _root_.Go.Tr.BMF.mono2 {g n : Nat} {B : Nat → Bool} (h : BMF w F g n B) (hs : ∀ k, F k → G k) : BMF w G g n B := by
  obtain ⟨b, ws, h1, h2, h3⟩ := h; exact ⟨b, ws, h1, hs _ h2, hs _ h3⟩
theorem StF.mono {g C Wd : Nat} {ws own : List Nat} (h : StF w F g C Wd ws own) (hs : ∀ k, F k → G k) : StF w G g C Wd ws own := by
  obtain ⟨wb, ob, m, Fm, h, h1, h2, h3, h4⟩ := h; exact ⟨wb, ob, m, Fm, h, hs _ h1, hs _ h2, hs _ h3, fun k hk => hs _ (h4 k hk)⟩
theorem TbF.mono {t K : Nat} {sl : List Sl} (h : TbF w F t K sl) (hs : ∀ k, F k → G k) : TbF w G t K sl := by
  obtain ⟨tb, m, Fm, h, h1, h2, h3⟩ := h; exact ⟨tb, m, Fm, h, hs _ h1, hs _ h2, fun k hk => hs _ (h3 k hk)⟩
theorem Bk1.mono {b : Nat} {L : Lay} (h : Bk1 w F b L) (hs : ∀ k, F k → G k) : Bk1 w G b L := by
  obtain ⟨h1, lb, lo, cap, ra, rc, sa, sc, h2, h3, h4, h5, h6⟩ := h
  exact ⟨hs _ h1, lb, lo, cap, ra, rc, sa, sc, h2, hs _ h3, h4, h5.mono hs, h6⟩
theorem RemF.mono {r : Nat} (h : RemF w F r) (hs : ∀ k, F k → G k) : RemF w G r := by
  obtain ⟨h0, m1, m2, m3, c, h1, f1, f2, f3, h2⟩ := h; exact ⟨hs _ h0, m1, m2, m3, c, h1, hs _ f1, hs _ f2, hs _ f3, h2⟩
theorem Bag.kept {g : Nat} {zs : List Int} (h : Bag w g F zs) (hk : ∀ k, F k → k < w.heap.size → w'.heap[k]? = w.heap[k]?) : Bag w' g F zs := by
  obtain ⟨v, h1, h2, h3⟩ := h; exact ⟨v, h1.kept (hk _ h2 h1.lt) (fun k hv => hk k (h3 k hv) (h1.own.lt k hv).2), h2, h3⟩
theorem _root_.Go.Tr.GrayAt.kept {T : TypeId} {g : Nat} {S : GS} (h : GrayAt T w g F S) (hk : ∀ k, F k → k < w.heap.size → w'.heap[k]? = w.heap[k]?) : GrayAt T w' g F S := by
  have hl := h.lt
  obtain ⟨h1, bm, qv, h2, h3, h4, h5, h6, h7⟩ := h
  exact ⟨h1, bm, qv, (hk g h1 hl).trans h2, h3, h4, h5.kept (hk bm h3 h5.lt), h6.kept (fun k hv => hk k (h7 k hv).1 (h6.lt k hv)), h7⟩
theorem block_lt {b : Nat} {o : Obj} (h : w.heap[b]? = some o) : b < w.heap.size := (Array.getElem?_eq_some_iff.1 h).1
theorem CellsAt.kept {sp mn : List (Int × Value)} (h : CellsAt w F A sp mn) (hk : ∀ k, F k → k < w.heap.size → w'.heap[k]? = w.heap[k]?) : CellsAt w' F A sp mn :=
  ⟨h.1, h.2.1, h.2.2.1, h.2.2.2.1, (hk _ h.1 (block_lt h.2.2.2.2.1)).trans h.2.2.2.2.1, h.2.2.2.2.2.1.kept (hk _ h.2.1 h.2.2.2.2.2.1.lt), h.2.2.2.2.2.2.kept (hk _ h.2.2.1 h.2.2.2.2.2.2.lt)⟩
theorem TrF.kept {T : TS} (h : TrF w F A T) (hk : ∀ k, F k → k < w.heap.size → w'.heap[k]? = w.heap[k]?) : TrF w' F A T := ⟨h.1, h.2.1, h.2.2.kept (hk _ h.1 h.2.2.lt.1) (hk _ h.2.1 h.2.2.lt.2)⟩
theorem pp_parts (A : Ad) (S : HS) : Parts (PP A S) := by
  refine ⟨fun j w w' F h hk => ?_, fun j w F G h hs => ?_⟩
  · match j with
    | 0 => exact CellsAt.kept h hk
    | 1 => exact StF.kept h hk
    | 2 => exact ⟨Bk1.kept h.1 hk, h.2⟩
    | 3 => exact TbF.kept h hk
    | 4 => exact TrF.kept h hk
    | 5 => exact RemF.kept h hk
    | 6 => exact SpF.kept h hk
    | 7 => exact Bag.kept h hk
    | 8 => exact ⟨h.1, (hk _ h.1 (block_lt h.2)).trans h.2⟩
    | 9 => exact ⟨h.1, (hk _ h.1 (block_lt h.2)).trans h.2⟩
    | 10 => exact fun e => SpF.kept (h e) hk
    | 11 => exact fun e => GrayAt.kept (h e) hk
    | _ + 12 => trivial
  · match j with
    | 0 => exact ⟨hs _ h.1, hs _ h.2.1, hs _ h.2.2.1, h.2.2.2⟩
    | 1 => exact StF.mono h hs
    | 2 => exact ⟨Bk1.mono h.1 hs, h.2⟩
    | 3 => exact TbF.mono h hs
    | 4 => exact ⟨hs _ h.1, hs _ h.2.1, h.2.2⟩
    | 5 => exact RemF.mono h hs
    | 6 => exact SpF.mono h hs
    | 7 => exact Bag.mono h hs
    | 8 => exact ⟨hs _ h.1, h.2⟩
    | 9 => exact ⟨hs _ h.1, h.2⟩
    | 10 => exact fun e => SpF.mono (h e) hs
    | 11 => exact fun e => GrayAt.mono (h e) hs
    | _ + 12 => trivial
def TzF (w : World) (F : Nat → Prop) : Prop := ∃ B, (∀ k, F k → B ≤ k) ∧ B ≤ w.heap.size ∧ ∀ W : World, (∀ k, k < B → W.heap[k]? = w.heap[k]?) → Tz W
theorem TzF.at (h : TzF w F) : Tz w := by obtain ⟨B, h1, h2, h3⟩ := h; exact h3 w (fun _ _ => rfl)
theorem TzF.grow {U : Nat → Prop} (h : TzF w F) (ho : Only F w w') : TzF w' (grow F w w') := by
  obtain ⟨B, h1, h2, h3⟩ := h
  have hs := ho.size
  exact ⟨B, fun k hk => hk.elim (h1 k) (fun hk => by omega), by omega, fun W hW => h3 W (fun k hk => (hW k hk).trans (ho.block k (by omega) (fun hf => by have := h1 k hf; omega)))⟩
theorem TzF.below (h : TzF w F) (hb : Below w.heap.size w w') : TzF w' F := by
  obtain ⟨B, h1, h2, h3⟩ := h
  have hs := hb.size
  exact ⟨B, h1, by omega, fun W hW => h3 W (fun k hk => (hW k hk).trans (hb.block k (by omega)))⟩
def HeapF (w : World) (F : Nat → Prop) (A : Ad) (S : HS) : Prop := Comp (PP A S) w F ∧ TzF w F
theorem HeapF.below (h : HeapF w F A S) (hb : Below w.heap.size w w') : HeapF w' F A S := ⟨h.1.below (pp_parts A S) hb, h.2.below hb⟩
theorem HeapF.lt (h : HeapF w F A S) : ∀ k, F k → k < w.heap.size := h.1.1
theorem HeapF.cells (h : HeapF w F A S) : w.heap[A.c]? = some (.cells #[.pointer (some ⟨A.s, 0, none⟩), .pointer (some ⟨A.b, 0, none⟩), .pointer (some ⟨A.m, 0, none⟩), .pointer (some ⟨A.t, 0, none⟩), .pointer (some ⟨A.tr, 0, none⟩), .pointer (some ⟨A.rm, 0, none⟩), .map (some A.sp), .map (some A.mn)] 56 (0, 0)) ∧ MapI w A.sp [(1, pv A.u)] ∧ MapI w A.mn [(1, pv A.bg)] ∧ F A.c := by
  obtain ⟨G, hG, h0⟩ := h.1.read 0
  obtain ⟨f, _, _, _, h1, h2, h3⟩ : CellsAt w G A [(1, pv A.u)] [(1, pv A.bg)] := h0
  exact ⟨h1, h2, h3, hG _ f⟩
theorem HeapF.ev (h : HeapF w F A S) : w.heap[A.h]? = some (.cells (EvOn A S.on) 31 (0, 0)) ∧ F A.h := by
  obtain ⟨G, hG, h0⟩ := h.1.read 9
  obtain ⟨f, h1⟩ : EvAt w G A S.on := h0
  exact ⟨h1, hG _ f⟩
theorem HeapF.img (h : HeapF w F A S) : ∃ G H : Nat → Prop, ImgEnv w G H A.m A.s A.b S.C S.Wd S.L S.ws S.own ∧ (∀ k, G k → F k) ∧ (∀ k, H k → F k) ∧ F A.m := by
  obtain ⟨G, hG, h1⟩ := h.1.read 1
  obtain ⟨H, hH, h2⟩ := h.1.read 2
  obtain ⟨K, hK, h3⟩ := h.1.read 8
  exact ⟨G, H, ⟨h3.2, h1, h2.1, h2.2⟩, hG, hH, hK _ h3.1⟩
theorem HeapF.table (h : HeapF w F A S) : ∃ G : Nat → Prop, TbF w G A.t S.K S.sl ∧ (∀ k, G k → F k) := by
  obtain ⟨G, hG, h1⟩ := h.1.read 3; exact ⟨G, h1, hG⟩
theorem HeapF.put (h : TzF w F) (h2 : Comp (PP A S) w' (grow F w w') ∧ Only F w w') : HeapF w' (grow F w w') A S ∧ Only F w w' := ⟨⟨h2.1, h.grow (U := F) h2.2⟩, h2.2⟩
theorem HeapF.setTable (h : HeapF w F A S) : ∃ G : Nat → Prop, TbF w G A.t S.K S.sl ∧ (∀ k, G k → F k) ∧ ∀ sl w', TbF w' G A.t S.K sl → Only G w w' → HeapF w' (grow F w w') A { S with sl := sl } ∧ Only F w w' := by
  obtain ⟨G, hG, h1, -, hb⟩ := h.1.part1 (pp_parts A S) 3
  refine ⟨G, h1, hG, fun sl w' ht ho => HeapF.put h.2 (hb (PP A { S with sl := sl }) w' (pp_parts _ _) (fun j hj => ?_) (TbF.mono ht (fun k hk => Or.inl hk)) ho)⟩
  unfold PP
  split <;> first | rfl | exact absurd rfl hj
theorem HeapF.setStore (h : HeapF w F A S) : ∃ G H : Nat → Prop, ImgEnv w G H A.m A.s A.b S.C S.Wd S.L S.ws S.own ∧ (∀ k, G k → F k) ∧ ¬ G A.m ∧ ∀ ws w', StF w' G A.s S.C S.Wd ws S.own → Only G w w' → HeapF w' (grow F w w') A { S with ws := ws } ∧ Only F w w' := by
  obtain ⟨G, hG, h1, hoth, hb⟩ := h.1.part1 (pp_parts A S) 1
  obtain ⟨H, hH, h2⟩ := hoth 2 (by decide)
  obtain ⟨M, hM, h3⟩ := hoth 8 (by decide)
  refine ⟨G, H, ⟨h3.2, h1, h2.1, h2.2⟩, hG, (hM _ h3.1).2, fun ws w' ht ho => HeapF.put h.2 (hb (PP A { S with ws := ws }) w' (pp_parts _ _) (fun j hj => ?_) (StF.mono ht (fun k hk => Or.inl hk)) ho)⟩
  unfold PP
  split <;> first | rfl | exact absurd rfl hj
def Run (w : World) (F : Nat → Prop) (W : World) (F1 : Nat → Prop) (A : Ad) (S : HS) : Prop := Comp (PP A S) W F1 ∧ Only F w W ∧ (∀ k, F1 k → F k ∨ w.heap.size ≤ k) ∧ TzF w F
variable {W W' : World} {F1 : Nat → Prop} {A' : Ad} {S' : HS}
theorem Run.start (h : HeapF w F A S) : Run w F w F A S := ⟨h.1, Only.refl _ _, fun k hk => Or.inl hk, h.2⟩
theorem Run.tz (h : Run w F W F1 A S) : TzF W F1 := by
  obtain ⟨h1, h2, h3, B, t1, t2, t3⟩ := h
  have hs := h2.size
  exact ⟨B, fun k hk => (h3 k hk).elim (t1 k) (fun h => by omega), by omega, fun V hV => t3 V (fun k hk => (hV k hk).trans (h2.block k (by omega) (fun hf => by have := t1 k hf; omega)))⟩
theorem Run.heap (h : Run w F W F1 A S) : HeapF W F1 A S := ⟨h.1, h.tz⟩
theorem Run.below (h : Run w F W F1 A S) (hb : Below W.heap.size W W') : Run w F W' F1 A S :=
  ⟨h.1.below (pp_parts A S) hb, h.2.1.trans (Only.of_below hb (fun _ => False)) (fun k hk => hk.elim), h.2.2.1, h.2.2.2⟩
theorem Run.op (h : Run w F W F1 A S) (k : HeapF W' (grow F1 W W') A' S' ∧ Only F1 W W') : Run w F W' (grow F1 W W') A' S' :=
  ⟨k.1.1, h.2.1.trans k.2 h.2.2.1, fun j hj => hj.elim (h.2.2.1 j) (fun hj => Or.inr (Nat.le_trans h.2.1.size hj.1)), h.2.2.2⟩
theorem Comp.mono {X : Nat → Part} (hp : Parts X) (h : Comp X w F) (hs : ∀ k, F k → G k) (hb : ∀ k, G k → k < w.heap.size) : Comp X w G := by
  obtain ⟨h1, tau, ht⟩ := h
  exact ⟨hb, tau, fun j => hp.mono j w _ _ (ht j) (fun k hk => ⟨hs k hk.1, hk.2⟩)⟩
theorem Run.fin (h : Run w F W F1 A S) (hF : ∀ k, F k → k < w.heap.size) : HeapF W (grow F w W) A S ∧ Only F w W :=
  ⟨⟨Comp.mono (pp_parts A S) h.1 (fun k hk => (h.2.2.1 k hk).imp id (fun h2 => ⟨h2, h.1.1 k hk⟩)) (grow_lt hF h.2.1.size), h.2.2.2.grow (U := F) h.2.1⟩, h.2.1⟩
theorem Run.loc {b j : Nat} {v : Value} (h : Run w F W F1 A S) (hb : w.heap.size ≤ b) (hn : ¬ F1 b) : Run w F (W.setCell ⟨b, j, none⟩ v) F1 A S := by
  obtain ⟨⟨h0, tau, ht⟩, h2, h3, h4⟩ := h
  exact ⟨⟨fun k hk => by simpa [World.setCell] using h0 k hk, tau, fun i => (pp_parts A S).kept i W _ _ (ht i) (fun k hk _ => Below.heap_setCell _ _ _ _ (fun e => hn (by rw [← show k = b from e]; exact hk.1)))⟩, h2.setCell (p := ⟨b, j, none⟩) (Or.inr hb) v, h3, h4⟩
def Bx (W : World) (F1 : Nat → Prop) (b : Nat) (o : Obj) : Prop := ¬ F1 b ∧ W.heap[b]? = some o
theorem Bx.below {b : Nat} {o : Obj} (h : Bx W F1 b o) (hb : Below W.heap.size W W') : Bx W' F1 b o := ⟨h.1, (hb.block b (block_lt h.2)).trans h.2⟩
theorem Bx.op {b : Nat} {o : Obj} (h : Bx W F1 b o) (k : Only F1 W W') : Bx W' (grow F1 W W') b o := ⟨fun hg => hg.elim h.1 (fun hg => by have := block_lt h.2; omega), (k.block b (block_lt h.2) h.1).trans h.2⟩
theorem Bx.new {o : Obj} (h : ∀ k, F1 k → k < W.heap.size) : Bx (W.alloc o) F1 W.heap.size o := ⟨fun hk => Nat.lt_irrefl _ (h _ hk), heap_alloc_new W o⟩
theorem HeapF.set (h : HeapF w F A S) {x : Sl} {i : Nat} (hx : S.sl[i]? = some x) (hu : x.used = true) (ad rg : Nat) (hd pn : Bool) :
    Calls Tryz.prog 41 #[.pointer (some ⟨A.t, 0, none⟩), .agg #[.int .i64 i, .int .i64 x.gen], .agg #[.int .i64 ad, .int .i64 rg, .bool hd, .bool pn]] w fun e w' => e = .returned (.int .i64 0) ∧ HeapF w' (grow F w w') A { S with sl := S.sl.set i ⟨x.gen, x.used, ad, rg, hd, pn⟩ } ∧ Only F w w' := by
  obtain ⟨G, ht, hG, hput⟩ := h.setTable
  exact (tset_any ad rg hd pn w ht (fun k hk => h.lt k (hG k hk)) hx hu).mono fun e w' ⟨e1, e2, e3⟩ => ⟨e1, hput _ w' e2 e3⟩
end Go.Proofs.YtcdpnfchmpncjaaGreatDoor
