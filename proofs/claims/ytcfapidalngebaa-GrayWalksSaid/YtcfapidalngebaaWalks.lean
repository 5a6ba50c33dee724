/-
  turnrowlaw14.GrayWalks: the walk.
-/
import Derived.Test.YtcfapidalngebaaAlive14
import Derived.Test.YtcfapidalngebaaGrayX
import Derived.Test.YtcfapidalngebaaWalksPlain
import Derived.Test.YtcfapidalngebaaOrder13
import Derived.Test.YtcfapidalngebaaSame
import Derived.Maps.AppendAt
set_option linter.unusedSimpArgs false
set_option linter.unusedVariables false
namespace Go.Proofs.Ytcfapidalngebaa
open Go.RowKit Go.Tr

set_option maxRecDepth 100000 in
set_option maxHeartbeats 1000000 in
theorem walks_any (ra ea : Option Addr) (rn rc en ec : Nat) (roots : List Int) (E : Edges) (w : World) (hr : SeqAt w ra (ints roots)) (he : SeqAt w ea (ecells E)) (hrn : roots.length = rn) (hen : E.length = en) (hm1 : rn ≤ 9223372036854775807) (hm2 : en ≤ 9223372036854775807) :
    Calls Try.prog 5 #[.slice ra rn rc, .slice ea en ec] w fun e w' => e = .returned (.bool true) ∧ Below w.heap.size w w' := by
  obtain ⟨i0, hi, hz0, hz1, hz2⟩ := info_parts infoInt13
  have HR := Lib.hid hr; clear hr
  have HE := Lib.hid he; clear he
  have HRN := Lib.hid hrn; clear hrn
  have HEN := Lib.hid hen; clear hen
  by_cases hbig : 60 < rn ∨ 60 < en
  · have hbig2 : (60 < rn) ∨ (¬ 60 < rn ∧ 60 < en) := by omega
    clear hbig
    rcases hbig2 with hbig2 | ⟨hbig1, hbig2⟩
    all_goals
      go_enter Try.func5, Try.ntmps5
      go_wp2_with fail
      refine (newS _).mono ?_
      rintro e w1 ⟨g, rfl, hg⟩
      have HG := Lib.hid hg; clear hg
      go_wp2_with fail
      refine (alive14_any _).mono ?_
      rintro e w2 ⟨rfl, hb⟩
      have HG2 := Lib.hid (HG.out.below hb)
      clear HG hb
      go_wp2_with fail
      refine (alive14_any _).mono ?_
      rintro e w3 ⟨rfl, hb⟩
      have HG3 := Lib.hid (HG2.out.below hb)
      clear HG2 hb
      go_wp2
      go_ret
      exact ⟨rfl, HG3.out.toBelow⟩
  · have hs1 : rn ≤ 60 := by omega
    have hs2 : en ≤ 60 := by omega
    clear hbig
    go_enter Try.func5, Try.ntmps5
    go_wp2_with fail
    refine (newS _).mono ?_
    rintro e w1 ⟨g, rfl, hg⟩
    have HG := Lib.hid hg; clear hg
    go_wp2_with fail
    refine (alive14_any _).mono ?_
    rintro e w2 ⟨rfl, hb⟩
    have HG2 := Lib.hid (HG.out.below hb)
    clear HG hb
    go_wp2_with fail
    refine (putS ra rn rc roots _ HG2.out (HR.out.below HG2.out.toBelow (Nat.le_refl _)) HRN.out ?hn ?hsm).mono ?_
    case hn =>
      intro h0 b o e
      obtain ⟨b', o', e', hc⟩ := HR.out (by rw [ints_length, HRN.out]; exact h0)
      rw [e] at e'
      cases e'
      exact World.block_lt_of_cell? w _ (hc 0 (by rw [ints_length, HRN.out]; exact h0))
    case hsm => refine ⟨?_, ?_, ?_, ?_, ?_⟩ <;> simp [GS.new] <;> omega
    rintro e w3 ⟨rfl, hg⟩
    have HG3 := Lib.hid hg
    clear HG2 hg
    go_wp2_with fail
    have hw0 := walk0 roots E (by rw [HRN.out]; exact hs1)
    generalize GS.new.putN roots = pn
    have HW0 := Lib.hid hw0; clear hw0
    have HX0 : Hid (GX w g (fun b => (Value.slice none 0 0).ownBlock = some b) w3 (GS.new.put roots)) := HG3.out.toX (by simp [Value.ownBlock])
    have HB0 := Lib.hid HG3.out.toBelow
    generalize GS.new.put roots = S0 at *
    clear HG3
    go_loopw [6, 36] (fun v i wr => ∃ (k : Nat) (S : GS) (got : List Int), k ≤ rn + en ∧ i = .int .i64 k ∧ Hid (WalkAt roots E S got k) ∧ Hid (GX w g (fun b => v.ownBlock = some b) wr S) ∧ Hid (own3 wr 3 w.heap.size v got) ∧ Hid (Below w.heap.size w wr)) (fun _ i _ => rn + en + 1 - (intOf i).toNat)
    case atStart => exact ⟨0, S0, [], Nat.zero_le _, rfl, HW0, HX0, World.ownsRow_nil _ _ _ _, HB0⟩
    case round =>
      clear HW0 HX0 HB0
      obtain ⟨k, S, got, hk, rfl, HW, HX, HV, HB⟩ := hrel
      have hk200 : (k : Int) < 200 := by omega
      have hsm : S.Small 1000000 := by obtain ⟨wl, h1, h2, h3, h4⟩ := HW.out; exact h4.mono (by omega)
      have HSM := Lib.hid hsm; clear hsm
      go_wp2_with fail
      refine (nextX _ HX.out HSM.out HB.out.size (fun b hb => (HV.out.lt b hb).2)).mono ?_
      rintro e w4 ⟨rfl, hx4, ho4⟩
      have HX4 := Lib.hid hx4
      have HV4 : Hid (own3 w4 3 w.heap.size u6 got) := may_row ho4 HV.out (fun k hk => hk)
      have HB4 : Hid (Below w.heap.size w w4) := may_below ho4 HB.out HB.out.size
      clear hx4 ho4 HX HV HB HSM
      obtain ⟨oa, oc, rfl, hso, hoc, -⟩ := ownsRow_seq HV4.out
      have HO := Lib.hid hso; clear hso
      cases hn : S.next.1 with
      | none =>
        rw [show nextV S.next = .tuple #[.int .i64 0, .bool false] by rw [nextV, hn]; rfl]
        have HFIN := Lib.hid (HW.out.fin hn)
        have hgl := congrArg List.length HFIN.out
        have hol := order_length roots E
        rw [HRN.out, HEN.out] at hol
        obtain ⟨gn, hgn⟩ : ∃ gn, gn = got.length := ⟨_, rfl⟩
        rw [← hgn] at hgl hoc
        simp only [← hgn]
        have HGN := Lib.hid hgn.symm; clear hgn
        have hgb : gn ≤ 120 := by omega
        clear HW hn hgl hol
        go_wp2_with fail
        refine (order13_any ra ea rn rc en ec roots E _ (HR.out.below HB4.out (Nat.le_refl _)) (HE.out.below HB4.out (Nat.le_refl _)) HRN.out HEN.out (by omega)).mono ?_
        rintro e w5 ⟨vo, rfl, hvo, hb5⟩
        obtain ⟨oa2, oc2, rfl, hso2, -, -⟩ := ownsRow_seq hvo
        have HO2 := Lib.hid hso2
        have HO1 := Lib.hid (HO.out.below hb5 (Nat.le_refl _))
        have HB5 : Hid (Below w.heap.size w w5) := HB4.out.trans (hb5.mono HB4.out.size)
        clear hvo hso2 hb5
        generalize horder : (orderL roots E).length = onn
        have HON := Lib.hid horder
        go_wp2_with fail
        refine (same_any oa oa2 gn oc onn oc2 got (orderL roots E) _ HO1.out HO2.out HGN.out HON.out (by omega)).mono ?_
        rintro e w6 ⟨rfl, hd⟩
        rw [show sameL got (orderL roots E) = true from (sameL_iff _ _).2 HFIN.out]
        have HB6 : Hid (Below w.heap.size w w6) := HB5.out.trans (hd.below _)
        clear hd
        go_wp2
        go_ret
        exact ⟨rfl, HB6.out⟩
      | some x =>
        rw [show nextV S.next = .tuple #[.int .i64 x, .bool true] by rw [nextV, hn]; rfl]
        have HIN := Lib.hid (HW.out.step hn)
        have hgl := HIN.out.lt
        rw [HRN.out, HEN.out] at hgl
        obtain ⟨hk2, -, hgl⟩ := hgl
        obtain ⟨S1, hS1⟩ : ∃ S1, S1 = S.next.2 := ⟨_, rfl⟩
        rw [← hS1] at HIN HX4
        clear hS1 HW hn
        have HV4' : Hid (w4.ownsRow w.heap.size 3 1 (.slice oa k oc) k (ints got)) := by have := HV4.out; unfold own3 at this; rwa [hgl] at this
        rw [hgl] at hoc HX4
        simp only [hgl]
        have HGL := Lib.hid hgl; clear hgl HV4 HO
        go_wp2_with (first
          | (at_builtin; refine wpList_append_own_at _ rfl (.tmp 45) (.tmp 47) 22 rfl w.heap.size 3 i0 _ 1 8 Try.underlying22 hi hz0 hz1 hz2 rfl (by decide) _ _ _ rfl (HV4'.out.alloc _) ⟨w4.heap.size, 0, none⟩ 1 1 (ints [x]) rfl rfl ?_ (ints_oneCell .i64 [x]) (by unfold maxLen; omega) (by omega) (by have := HB4.out.size; simp; omega) ?_))
        · intro j u hu
          exact news_block w4 (ints [x]) 3 j u hu
        · intro v' w5 hown hgrow _ hat
          have HV5 : Hid (own3 w5 3 w.heap.size v' (got ++ [x])) := by
            have := hown
            rw [← HGL.out] at this
            show w5.ownsRow _ _ _ _ _ _
            simpa [ints] using this
          have HB5 : Hid (Below w.heap.size w w5) := (HB4.out.alloc HB4.out.size _).grown hgrow (by have := HB4.out.size; simp; omega) (fun j hj => (HV4'.out.lt j hj).1)
          have HX5 : Hid (GX w g (fun b => v'.ownBlock = some b) w5 S1) := by
            refine GX.turn (X := fun b => (Value.slice oa k oc).ownBlock = some b) (HX4.out.alloc _) ⟨hgrow.os, hgrow.tape, hgrow.output, hgrow.size, fun j hj hn => hgrow.block j hj (fun e => hn e.symm)⟩ (fun b hb => ?_)
            rcases hat with h | h
            · exact Or.inl (h ▸ hb)
            · rw [h] at hb; cases hb; exact Or.inr (by simp)
          clear hown hgrow hat HX4 HV4' HB4
          go_wp2
          go_loopw [51] (fun i wr => ∃ (j : Nat) (S2 : GS), j ≤ en ∧ i = .int .i64 j ∧ Hid (WalkIn roots E S2 got x k j) ∧ Hid (GX w g (fun b => v'.ownBlock = some b) wr S2) ∧ Hid (own3 wr 3 w.heap.size v' (got ++ [x])) ∧ Hid (Below w.heap.size w wr)) (fun i _ => en - (intOf i).toNat)
          case atStart => exact ⟨0, S1, Nat.zero_le _, rfl, HIN, HX5, HV5, HB5⟩
          case round =>
            clear HIN HX5 HV5 HB5
            obtain ⟨j, S2, hj, rfl, HIN, HX, HV, HB⟩ := hrel
            by_cases hlt : j < en
            · obtain ⟨b, off, e1, e2, rfl, hc1, hc2, HK⟩ := (HE.out.below HB.out (Nat.le_refl _)).edge (k := j) (by rw [HEN.out]; exact hlt)
              by_cases he : e1 = x
              · subst he
                have HIN2 := Lib.hid (HIN.out.put HK.out)
                have hsm := HIN.out.lt.2.1
                have hput := putXA 1 [e2] 3 (wr.alloc (.cells #[.int .i64 e1, .int .i64 e2] 39)) #[.int .i64 e2] rfl (HX.out.alloc _) rfl (hsm.mono (by omega)) (by have := HB.out.size; simp; omega) (fun b hb => by have := (HV.out.lt b hb).2; simp; omega)
                have hall : Below wr.heap.size wr (wr.alloc (.cells #[.int .i64 e1, .int .i64 e2] 39)) := (Below.refl _ wr).alloc (Nat.le_refl _) _
                rw [World.size_alloc] at hput
                have HPUT := Lib.hid hput
                have HALL := Lib.hid hall
                clear hput hsm hall HIN
                go_wp2_with fail
                refine HPUT.out.mono ?_
                rintro e w6 ⟨rfl, hx6, ho6⟩
                have HX6 := Lib.hid hx6
                have HV6 : Hid (own3 w6 3 w.heap.size v' (got ++ [e1])) := may_row ho6 (HV.out.alloc _) (fun k hk => hk)
                have HB6 : Hid (Below w.heap.size w w6) := may_below ho6 (HB.out.trans (HALL.out.mono HB.out.size)) (by have := HB.out.size; simp; omega)
                clear hx6 ho6 HPUT HALL
                go_wp2
                go_roundw
                case rel => exact ⟨j + 1, S2.put [e2], by omega, by go_num, HIN2, HX6, HV6, HB6⟩
                case measure => simp [intOf]; omega
              · have HIN2 := Lib.hid (HIN.out.skip HK.out he)
                have HX2 : Hid (GX w g (fun b => v'.ownBlock = some b) (wr.alloc (.cells #[.int .i64 e1, .int .i64 e2] 39)) S2) := HX.out.alloc _
                have HV2 : Hid (own3 (wr.alloc (.cells #[.int .i64 e1, .int .i64 e2] 39)) 3 w.heap.size v' (got ++ [x])) := HV.out.alloc _
                have HB2 : Hid (Below w.heap.size w (wr.alloc (.cells #[.int .i64 e1, .int .i64 e2] 39))) := HB.out.alloc HB.out.size _
                go_wp2
                go_roundw
                case rel => exact ⟨j + 1, S2, by omega, by go_num, HIN2, HX2, HV2, HB2⟩
                case measure => simp [intOf]; omega
            · have hje : j = en := by omega
              have HLAST := Lib.hid ((show WalkIn roots E S2 got x k en from hje ▸ HIN.out).last HEN.out hs2)
              go_wp2
              go_roundw
              case rel => exact ⟨k + 1, S2, got ++ [x], by omega, by go_num, HLAST, HX, HV, HB⟩
              case measure => simp [intOf]; omega

theorem walks_row (a0 : Option Addr) (n0 c0 : Nat) (z0 : List Int) (a1 : Option Addr) (n1 c1 : Nat) (z1 : Edges) (w : World) (hz0 : SeqAt w a0 (ints z0)) (hl0 : z0.length = n0) (hc0 : n0 ≤ c0) (hm0 : n0 ≤ maxLen) (hw0 : ∀ z ∈ z0, (Lit.int .i64 z).wf = true)
    (hz1 : SeqAt w a1 (ecells z1)) (hl1 : z1.length = n1) (hc1 : n1 ≤ c1) (hm1 : n1 ≤ maxLen) :
    Calls Try.prog 5 #[.slice a0 n0 c0, .slice a1 n1 c1] w fun e w' => e = .returned (.bool true) ∧ Below w.heap.size w w' :=
  walks_any a0 a1 n0 c0 n1 c1 z0 z1 w hz0 hz1 hl0 hl1 (by unfold maxLen at hm0; omega) (by unfold maxLen at hm1; omega)
end Go.Proofs.Ytcfapidalngebaa
