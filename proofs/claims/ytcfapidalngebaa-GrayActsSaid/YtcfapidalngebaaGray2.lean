/-
  Package gray: the walks of Paint, Again, Put.
-/
import Derived.Test.YtcfapidalngebaaGray1
set_option linter.unusedSimpArgs false
set_option linter.unusedVariables false
namespace Go.Proofs.Ytcfapidalngebaa
open Go.RowKit Go.Tr

set_option maxRecDepth 100000 in
theorem paint_any {g : Nat} {F : Nat → Prop} {S : GS} (x : Int) (w : World) (h : GrayAt 68 w g F S) (hs : S.Small 1000000) : Calls Try.prog 26 #[.pointer (some ⟨g, 0, none⟩), .int .i64 x] w fun e w' => e = .returned (.bool (decide (S.color x ≠ 2))) ∧ GrayAt 68 w' g (grow F w w') (S.paint x) ∧ Only F w w' := by
  have hw : 0 ≤ S.wait + 1000000 := by obtain ⟨s1, s2, s3, s4, s5⟩ := hs; omega
  have hw2 : S.wait ≤ 1000000 := hs.2.2.2.1
  clear hs
  have H := Lib.hid h; clear h
  by_cases h2 : S.color x = 2
  · go_enter Try.func26, Try.ntmps26
    go_wp2_with fail
    refine (color_any x _ H.out).mono ?_
    rintro e w1 ⟨rfl, rfl⟩
    rw [h2]
    go_wp2_with fail
    go_ret
    refine ⟨by simp [h2], ?_, Only.refl _ _⟩
    rw [GS.paint, if_pos h2]
    exact H.out.mono (fun k hk => Or.inl hk)
  · by_cases h1 : S.color x = 1
    · go_enter Try.func26, Try.ntmps26
      go_wp2_with fail
      refine (color_any x _ H.out).mono ?_
      rintro e w1 ⟨rfl, rfl⟩
      rw [h1]
      go_wp2_with fail
      refine (color_any x _ H.out).mono ?_
      rintro e w1 ⟨rfl, rfl⟩
      rw [h1]
      obtain ⟨f1, bm, qv, b2, f3, b4, b5, b6, b7⟩ := H.out
      have hc0 := cells_of_block b2 0
      have hc3 := cells_of_block b2 3
      simp at hc0 hc3
      obtain ⟨c0, e0⟩ := hc0
      obtain ⟨c3, e3⟩ := hc3
      have B2 := Lib.hid b2; clear b2
      go_wp2_with (refine wpList_putI _ rfl (.tmp 27) (.tmp 28) (.tmp 29) 65 rfl 3 73 Try.underlying65 Try.underlying3 bm _ rfl (b5.kept (Below.heap_setCell _ _ _ _ b4)) x rfl (thingV (2, 0)) rfl ?_; intro w2 hm2 hg2 hs2)
      go_ret
      have hP : S.paint x = { S with tab := putA S.tab x (2, 0), wait := S.wait - 1 } := by rw [GS.paint, if_neg h2, if_pos h1]
      rw [hP]
      have hm3 := hm2
      rw [putA_mapA] at hm3
      obtain ⟨r1, r2⟩ := GrayAt.painted (S := S) (S' := { S with tab := putA S.tab x (2, 0), wait := S.wait - 1 }) f1 f3 b4 (block_setCell B2.out 3 _) ((Only.refl F w).setCell (Or.inl f1) _) (b6.kept (fun k hk => Below.heap_setCell _ _ _ _ (b7 k hk).2.1)) hm3 hg2 b7
      exact ⟨by simp [h2], r1, r2⟩
    · have hd2 : (S.color x == 2) = false := by simpa using h2
      have hd1 : (S.color x == 1) = false := by simpa using h1
      have HC2 := Lib.hid h2; clear h2
      have HC1 := Lib.hid h1; clear h1
      go_enter Try.func26, Try.ntmps26
      go_wp2_with fail
      refine (color_any x _ H.out).mono ?_
      rintro e w1 ⟨rfl, rfl⟩
      go_wp2_with fail
      refine (color_any x _ H.out).mono ?_
      rintro e w1 ⟨rfl, rfl⟩
      obtain ⟨f1, bm, qv, b2, f3, b4, b5, b6, b7⟩ := H.out
      have hc0 := cells_of_block b2 0
      have hc3 := cells_of_block b2 3
      simp at hc0 hc3
      obtain ⟨c0, e0⟩ := hc0
      obtain ⟨c3, e3⟩ := hc3
      have B2 := Lib.hid b2; clear b2
      go_wp2_with (refine wpList_putI _ rfl (.tmp 27) (.tmp 28) (.tmp 29) 65 rfl 3 73 Try.underlying65 Try.underlying3 bm _ rfl b5 x rfl (thingV (2, 0)) rfl ?_; intro w2 hm2 hg2 hs2)
      go_ret
      have hP : S.paint x = { S with tab := putA S.tab x (2, 0) } := by rw [GS.paint, if_neg HC2.out, if_neg HC1.out]
      rw [hP]
      have hm3 := hm2
      rw [putA_mapA] at hm3
      obtain ⟨r1, r2⟩ := GrayAt.painted (S := S) (S' := { S with tab := putA S.tab x (2, 0) }) f1 f3 b4 B2.out (Only.refl F w) b6 hm3 hg2 b7
      exact ⟨by have := HC2.out; simp [this], r1, r2⟩

set_option maxRecDepth 100000 in
theorem again_any {g : Nat} {F : Nat → Prop} {S : GS} (x : Int) (w : World) (h : GrayAt 68 w g F S) (hs : S.Small 1000000) : Calls Try.prog 25 #[.pointer (some ⟨g, 0, none⟩), .int .i64 x] w fun e w' => e = .returned (.bool (decide (S.color x = 2))) ∧ GrayAt 68 w' g (grow F w w') (S.again x) ∧ Only F w w' := by
  have HS := Lib.hid hs; clear hs
  have H := Lib.hid h; clear h
  by_cases h2 : S.color x = 2
  · go_enter Try.func25, Try.ntmps25
    go_wp2_with fail
    refine (color_any x _ H.out).mono ?_
    rintro e w1 ⟨rfl, rfl⟩
    rw [h2]
    go_wp2_with fail
    refine (enter_any x _ H.out HS.out).mono ?_
    rintro e w1 ⟨rfl, h3, h4⟩
    go_wp2_with fail
    go_ret
    refine ⟨by simp [h2], ?_, h4⟩
    rw [GS.again, if_pos h2]
    exact h3
  · have hd2 : (S.color x == 2) = false := by simpa using h2
    have HC2 := Lib.hid h2; clear h2
    go_enter Try.func25, Try.ntmps25
    go_wp2_with fail
    refine (color_any x _ H.out).mono ?_
    rintro e w1 ⟨rfl, rfl⟩
    go_wp2_with fail
    go_ret
    refine ⟨by have := HC2.out; simp [this], ?_, Only.refl _ _⟩
    rw [GS.again, if_neg HC2.out]
    exact H.out.mono (fun k hk => Or.inl hk)

set_option maxRecDepth 100000 in
theorem put_any {g : Nat} {F : Nat → Prop} {S : GS} (a : Option Addr) (n c : Nat) (xs : List Int) (w : World) (h : GrayAt 68 w g F S) (ha : SeqAt w a (ints xs)) (hl : xs.length = n) (hn : 0 < n → ∀ b o, a = some ⟨b, o, none⟩ → ¬ F b ∧ b < w.heap.size) (hs : S.Small (1000000 - n)) :
    Calls Try.prog 21 #[.pointer (some ⟨g, 0, none⟩), .slice a n c] w fun e w' => e = .returned (.int .i64 (S.putN xs)) ∧ GrayAt 68 w' g (grow F w w') (S.put xs) ∧ Only F w w' := by
  have hn0 : n ≤ 1000000 := by obtain ⟨s1, s2, s3, s4, s5⟩ := hs; omega
  have HS := Lib.hid hs; clear hs
  have H := Lib.hid h; clear h
  have HA := Lib.hid ha; clear ha
  have HL := Lib.hid hl; clear hl
  go_enter Try.func21, Try.ntmps21
  go_wp2_with fail
  go_loopw [5, 10] (fun v i wr => ∃ (k : Nat) (m : Int), k ≤ n ∧ i = .int .i64 k ∧ v = .int .i64 m ∧ 0 ≤ m ∧ m ≤ k ∧ Hid (m = S.putN (xs.take k)) ∧ Hid (GrayAt 68 wr g (grow F w wr) (S.put (xs.take k))) ∧ Hid (Only F w wr)) (fun _ i _ => n - (intOf i).toNat)
  case atStart => exact ⟨0, 0, Nat.zero_le _, rfl, rfl, by omega, by omega, by simp [Hid, GS.putN], H.out.mono (fun k hk => Or.inl hk), Only.refl _ _⟩
  case round =>
    obtain ⟨k, m, hk, rfl, rfl, hm0, hm1, HM, HG, HO⟩ := hrel
    by_cases hlt : k < n
    · have hR : SeqAt wr a (ints xs) := HA.out.only HO.out (fun _ b o e => (hn (by omega) b o e).1)
      obtain ⟨b, off, z, rfl, hc, HZ⟩ := hR.ints (k := k) (by rw [HL.out]; exact hlt)
      clear hR
      have hi : (k : Int) < (n : Int) := by omega
      have hS : (S.put (xs.take k)).Small (1000000 - n + k) := by
        have := GS.Small.put (xs.take k) HS.out
        rwa [List.length_take, HL.out, Nat.min_eq_left (by omega)] at this
      have HSk := Lib.hid (hS.mono (M := 1000000) (by omega))
      clear hS
      obtain ⟨Sk, hSk⟩ : ∃ Sk, Sk = S.put (xs.take k) := ⟨_, rfl⟩
      rw [← hSk] at HG HSk
      have hP := put_snoc z (xs.take k) S
      have hN := putN_snoc z (xs.take k) S
      rw [← hSk] at hP hN
      rw [← take_snoc HZ.out] at hP hN
      have HP := Lib.hid hP
      have HN := Lib.hid hN
      have HSK := Lib.hid hSk
      clear hP hN hSk HZ
      by_cases hw0 : Sk.color z = 0
      · go_wp2_with fail
        refine (color_any z _ HG.out).mono ?_
        rintro e w1 ⟨rfl, rfl⟩
        rw [hw0]
        go_wp2_with fail
        refine (enter_any z _ HG.out HSk.out).mono ?_
        rintro e w1 ⟨rfl, h3, h4⟩
        have H3 : Hid (GrayAt 68 w1 g (grow F w w1) (Sk.enter z)) := h3.mono (grow_trans HO.out.size h4.size)
        have H4 : Hid (Only F w w1) := HO.out.grow h4
        clear h3 h4
        go_wp2
        go_roundw
        case rel =>
          refine ⟨k + 1, m + 1, by omega, by go_num, by go_num, by omega, by omega, ?_, ?_, H4⟩
          · have := HN.out
            rw [if_pos hw0, ← HM.out] at this
            exact this.symm
          · have := H3.out
            rw [HP.out, GS.put1, if_pos hw0]
            exact this
        case measure => simp [intOf]; omega
      · have hd : (Sk.color z == 0) = false := by simpa using hw0
        have HW0 := Lib.hid hw0; clear hw0
        go_wp2_with fail
        refine (color_any z _ HG.out).mono ?_
        rintro e w1 ⟨rfl, rfl⟩
        go_wp2
        go_roundw
        case rel =>
          refine ⟨k + 1, m, by omega, by go_num, rfl, by omega, by omega, ?_, ?_, HO⟩
          · have := HN.out
            rw [if_neg HW0.out, ← HM.out, Int.add_zero] at this
            exact this.symm
          · have := HG.out
            rw [HP.out, GS.put1, if_neg HW0.out]
            exact this
        case measure => simp [intOf]; omega
    · go_wp2
      go_ret
      have ht : xs.take k = xs := List.take_of_length_le (by rw [HL.out]; omega)
      rw [ht] at HM HG
      exact ⟨by rw [HM.out]; rfl, HG.out, HO.out⟩
end Go.Proofs.Ytcfapidalngebaa
