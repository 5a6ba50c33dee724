/-
  Package gray: the walk of Next.
-/
import Derived.Test.YtcfapidalngebaaGray2
set_option linter.unusedSimpArgs false
set_option linter.unusedVariables false
namespace Go.Proofs.Ytcfapidalngebaa
open Go.RowKit Go.Tr

def nextV (r : Option Int × GS) : Value := .tuple #[.int .i64 (r.1.getD 0), .bool r.1.isSome]

set_option maxRecDepth 100000 in
set_option maxHeartbeats 1000000 in
theorem next_any {g : Nat} {F : Nat → Prop} {S : GS} (w : World) (h : GrayAt 68 w g F S) (hs : S.Small 1000000) :
    Calls Try.prog 22 #[.pointer (some ⟨g, 0, none⟩)] w fun e w' => e = .returned (nextV S.next) ∧ GrayAt 68 w' g (grow F w w') S.next.2 ∧ Only F w w' := by
  have HS := Lib.hid hs; clear hs
  have H := Lib.hid h; clear h
  go_enter Try.func22, Try.ntmps22
  go_wp2_with fail
  go_loopw [] (fun wr => ∃ k : Nat, k ≤ S.q.length ∧ Hid (GrayAt 68 wr g (grow F w wr) { S with q := S.q.drop k }) ∧ Hid (Only F w wr) ∧ Hid (S.next = nextQ S (S.q.drop k))) (fun wr => lenAt g wr)
  case atStart => exact ⟨0, Nat.zero_le _, H.out.mono (fun k hk => Or.inl hk), Only.refl _ _, rfl⟩
  case round =>
    obtain ⟨k, hk, HG, HO, HN⟩ := hrel
    obtain ⟨f1, bm, qv, b2, f3, b4, b5, b6, b7⟩ := HG.out
    have hc0 := cells_of_block b2 0
    have hc1 := cells_of_block b2 1
    simp at hc0 hc1
    obtain ⟨c0, e0⟩ := hc0
    obtain ⟨c1, e1⟩ := hc1
    have B2 := Lib.hid b2; clear b2
    cases hq : S.q.drop k with
    | nil =>
      simp only [hq, List.length_nil] at *
      obtain ⟨oa, oc, rfl, hso, hoc, -⟩ := b6.seq
      go_wp2_with fail
      go_ret2
      have := HN.out
      rw [nextQ] at this
      rw [this]
      exact ⟨rfl, HG.out, HO.out⟩
    | cons t r =>
      obtain ⟨x, n⟩ := t
      have HQK : Hid (S.q.drop (k + 1) = r ∧ k + 1 ≤ S.q.length) := by
        have h2 := congrArg List.length hq
        simp at h2
        exact ⟨by rw [← List.tail_drop, hq]; rfl, by omega⟩
      simp only [hq, List.length_cons] at *
      obtain ⟨qg, qo, qc, rfl, q1, q2, q3⟩ := b6.tail (by decide)
      have q4 := b6.cells 0 (by omega)
      have q5 := b6.cells 1 (by omega)
      simp [ecells, iv] at q4 q5
      have hgl : g < wr.heap.size := (Array.getElem?_eq_some_iff.1 B2.out).1
      have hi : (0 : Int) < (r.length : Int) + 1 := by omega
      have hts := HO.out.size
      obtain ⟨ts, hts'⟩ : ∃ ts, ts = wr.heap.size := ⟨_, rfl⟩
      by_cases hq1 : qc = 1
      all_goals first | (subst hq1; rw [if_pos rfl] at q3; have hr0 : r = [] := List.eq_nil_of_length_eq_zero (by omega); simp only [Nat.sub_self] at q3) | (rw [if_neg hq1] at q3)
      all_goals
        go_wp2_with fail
        rw [← hts']
        generalize hw1 : ((wr.setCell _ _).alloc _) = w1
        have step : Hid (GrayAt 68 w1 g (fun k => grow F w w1 k ∧ k ≠ ts) ⟨S.tab, r, S.last, S.wait⟩) ∧ Hid (Only F w w1) ∧ w1.heap[ts]? = some (.cells #[.int .i64 x, .int .i64 n] 71 (0, 0)) := by
          rw [← hw1, hts']
          try rw [hr0] at b6 q3 b7 ⊢
          try simp only [hr0] at B2
          have step0 := GrayAt.popped (T' := 71) f1 f3 b4 B2.out HO.out b5 q3 (fun k hk => by simp [Value.ownBlock] at hk; exact hk.symm) b7
          exact step0
        clear hw1 hts'
        obtain ⟨G1, O1, t1⟩ := step
        have T1 := Lib.hid t1
        have hl := look_thing S x
        obtain ⟨g1, bm', qv', g2, g3, g4, g5, g6, g7⟩ := G1.out
        have hc0 := cells_of_block g2 0
        have ht0 := cells_of_block t1 0
        have ht1 := cells_of_block t1 1
        simp at hc0 ht0 ht1
        obtain ⟨d0, -⟩ := hc0
        obtain ⟨d1, d1'⟩ := ht0
        obtain ⟨d2, d2'⟩ := ht1
        refine wp_region_held_drew (S := fun W => W.cell? ⟨g, 0, none⟩ = some (.map (some bm')) ∧ W.cell? ⟨ts, 0, none⟩ = some (.int .i64 x) ∧ W.cell? ⟨ts, 1, none⟩ = some (.int .i64 n) ∧ MapI W bm' (mapA thingV S.tab)) (by kernel_rfl) ⟨d0, d1, d2, g5⟩ (fun hH => ?_)
        have HL := Lib.hid hl
        have hcn := (cells_of_block g2 1).1
        simp at hcn
        obtain ⟨oa1, oc1, rfl, -, -, -⟩ := g6.seq
        have HLN : Hid (lenAt g w1.drew < lenAt g wr) := by
          have e1 : lenAt g w1.drew = r.length := by show lenAt g w1 = _; unfold lenAt; rw [hcn]
          have e2 : lenAt g wr = r.length + 1 := by unfold lenAt; rw [c1]
          show lenAt g w1.drew < lenAt g wr
          omega
        clear hcn
        clear c0 c1 e0 e1 q1 q2 q3 q4 q5 b5 b6 b7 g2 g3 g4 g5 g6 g7 hl t1 B2 HG HO f1 f3 b4
        refine takeH 0 (v := ?_) rfl (by kernel_rfl) (by kernel_rfl) (by kernel_rfl) (fun _ _ _ h => h) (by rfl) ?_ (by assumption) ?_
        rotate_left
        · intro W hW
          go_simp
          try with_reducible rfl
        try simp only [Act.put, List.setIfInBounds_toArray, List.set_cons_zero, List.set_cons_succ]
        refine takeH 1 (v := ?_) rfl (by kernel_rfl) (by kernel_rfl) (by kernel_rfl) (fun _ _ _ h => h) (by rfl) ?_ (by assumption) ?_
        rotate_left
        · intro W hW
          go_simp
          try with_reducible rfl
        try simp only [Act.put, List.setIfInBounds_toArray, List.set_cons_zero, List.set_cons_succ]
        refine takeH 2 (v := ?_) rfl (by kernel_rfl) (by kernel_rfl) (by kernel_rfl) (fun _ _ _ h => h) (by rfl) ?_ (by assumption) ?_
        rotate_left
        · intro W hW
          go_simp
          try with_reducible rfl
        try simp only [Act.put, List.setIfInBounds_toArray, List.set_cons_zero, List.set_cons_succ]
        refine takeH 3 (v := ?_) rfl (by kernel_rfl) (by kernel_rfl) (by kernel_rfl) (fun _ _ _ h => h) (by rfl) ?_ (by assumption) ?_
        rotate_left
        · intro W hW
          go_simp
          try with_reducible rfl
        try simp only [Act.put, List.setIfInBounds_toArray, List.set_cons_zero, List.set_cons_succ]
        refine takeH 4 (v := ?_) rfl (by kernel_rfl) (by kernel_rfl) (by kernel_rfl) (fun _ _ _ h => h) (by rfl) ?_ (by assumption) ?_
        rotate_left
        · intro W hW
          go_simp
          try with_reducible rfl
        try simp only [Act.put, List.setIfInBounds_toArray, List.set_cons_zero, List.set_cons_succ]
        refine takeH 5 (v := ?_) rfl (by kernel_rfl) (by kernel_rfl) (by kernel_rfl) (fun _ _ _ h => h) (by rfl) ?_ (by assumption) ?_
        rotate_left
        · intro W hW
          go_simp
          try with_reducible rfl
        try simp only [Act.put, List.setIfInBounds_toArray, List.set_cons_zero, List.set_cons_succ]
        refine takeH 6 (v := .agg #[.int .i64 (S.at x).1, .int .i64 (S.at x).2]) rfl (by kernel_rfl) (by kernel_rfl) (by kernel_rfl) (fun _ _ _ h => h) (by rfl) ?_ hH ?_
        · intro W hW
          rw [← HL.out]
          exact exec_lookI (.tmp 30) (.tmp 32) 65 (by rfl) 3 73 Try.underlying65 Try.underlying3 _ zeroThing bm' _ (by rfl) hW.2.2.2 x (by rfl)
        try simp only [Act.put, List.setIfInBounds_toArray, List.set_cons_zero, List.set_cons_succ]
        refine takeH 7 (v := ?_) rfl (by kernel_rfl) (by kernel_rfl) (by kernel_rfl) (fun _ _ _ h => h) (by rfl) ?_ (by assumption) ?_
        rotate_left
        · intro W hW
          go_simp
          try with_reducible rfl
        try simp only [Act.put, List.setIfInBounds_toArray, List.set_cons_zero, List.set_cons_succ]
        refine takeH 8 (v := ?_) rfl (by kernel_rfl) (by kernel_rfl) (by kernel_rfl) (fun _ _ _ h => h) (by rfl) ?_ (by assumption) ?_
        rotate_left
        · intro W hW
          go_simp
          try with_reducible rfl
        try simp only [Act.put, List.setIfInBounds_toArray, List.set_cons_zero, List.set_cons_succ]
        refine takeH 9 (v := ?_) rfl (by kernel_rfl) (by kernel_rfl) (by kernel_rfl) (fun _ _ _ h => h) (by rfl) ?_ (by assumption) ?_
        rotate_left
        · intro W hW
          go_simp
          try with_reducible rfl
        try simp only [Act.put, List.setIfInBounds_toArray, List.set_cons_zero, List.set_cons_succ]
        refine takeH 10 (v := .bool (decide (S.at x = (1, n)))) rfl (by kernel_rfl) (by kernel_rfl) (by kernel_rfl) (fun _ _ _ h => h) (by rfl) ?_ hH ?_
        · intro W hW
          go_simp
          rcases hp : S.at x with ⟨p1, p2⟩
          by_cases h1 : p1 = 1 <;> by_cases h2 : p2 = n <;> simp [h1, h2]
        try simp only [Act.put, List.setIfInBounds_toArray, List.set_cons_zero, List.set_cons_succ]
        refine wpAnyH_done (by kernel_rfl) ?_ _
        by_cases hat : S.at x = (1, n)
        · rw [show decide (S.at x = (1, n)) = true by simp [hat]]
          have hq1' : Hid (S.next = (some x, ({ S with q := r } : GS).paint x)) := by
            have := HN.out
            rw [nextQ, if_pos hat] at this
            exact this
          have hcol : ({ S with q := r } : GS).color x = 1 := by show (S.at x).1 = 1; rw [hat]
          have hsm : ({ S with q := r } : GS).Small 1000000 := by
            obtain ⟨s1, s2, s3, s4, s5⟩ := HS.out
            refine ⟨s1, s2, s3, s4, ?_⟩
            have := HQK.out
            rw [← this.1]
            simp; omega
          have HCOL := Lib.hid hcol
          have HSM := Lib.hid hsm
          clear hcol hsm HQK HLN HL HN hat HS H
          go_wp2_with fail
          refine wp_region_held_drew (S := fun W => W.cell? ⟨ts, 0, none⟩ = some (.int .i64 x)) (by kernel_rfl) d1 (fun hH => ?_)
          refine takeH 0 (v := ?_) rfl (by kernel_rfl) (by kernel_rfl) (by kernel_rfl) (fun _ _ _ h => h) (by rfl) ?_ (by assumption) ?_
          rotate_left
          · intro W hW
            go_simp
            try with_reducible rfl
          try simp only [Act.put, List.setIfInBounds_toArray, List.set_cons_zero, List.set_cons_succ]
          refine takeH 1 (v := ?_) rfl (by kernel_rfl) (by kernel_rfl) (by kernel_rfl) (fun _ _ _ h => h) (by rfl) ?_ (by assumption) ?_
          rotate_left
          · intro W hW
            go_simp
            try with_reducible rfl
          try simp only [Act.put, List.setIfInBounds_toArray, List.set_cons_zero, List.set_cons_succ]
          refine takeH 2 (v := ?_) rfl (by kernel_rfl) (by kernel_rfl) (by kernel_rfl) (fun _ _ _ h => h) (by rfl) ?_ (by assumption) ?_
          rotate_left
          · intro W hW
            go_simp
            try with_reducible rfl
          try simp only [Act.put, List.setIfInBounds_toArray, List.set_cons_zero, List.set_cons_succ]
          refine takeH 3 (v := ?_) rfl (by kernel_rfl) (by kernel_rfl) (by kernel_rfl) (fun _ _ _ h => h) (by rfl) ?_ (by assumption) ?_
          rotate_left
          · intro W hW
            go_simp
            try with_reducible rfl
          try simp only [Act.put, List.setIfInBounds_toArray, List.set_cons_zero, List.set_cons_succ]
          refine takeH 4 (v := ?_) rfl (by kernel_rfl) (by kernel_rfl) (by kernel_rfl) (fun _ _ _ h => h) (by rfl) ?_ (by assumption) ?_
          rotate_left
          · intro W hW
            go_simp
            try with_reducible rfl
          try simp only [Act.put, List.setIfInBounds_toArray, List.set_cons_zero, List.set_cons_succ]
          refine wpAnyH_ready (rs := [5]) (by kernel_rfl) (by simp) (readyH rfl (fun K hK => ?_) AllReadyH.nil)
          rw [if_pos (by rfl)]
          go_simp
          refine (paint_any (F := fun k => grow F w w1 k ∧ k ≠ ts) (S := { S with q := r }) x _ (G1.out.drawn ⟨2, rfl⟩) HSM.out).mono ?_
          rintro e w2 ⟨rfl, h3, h4⟩
          rw [show decide (({ S with q := r } : GS).color x ≠ 2) = true by rw [HCOL.out]; decide]
          have hts2 : w2.heap[ts]? = some (.cells #[.int .i64 x, .int .i64 n] 71 (0, 0)) := (h4.block ts (Array.getElem?_eq_some_iff.1 T1.out).1 (fun h => h.2 rfl)).trans T1.out
          have hH2 : w2.cell? ⟨ts, 0, none⟩ = some (.int .i64 x) := by have := (cells_of_block hts2 0).1; simpa using this
          have G2 : Hid (GrayAt 68 w2 g (grow F w w2) (({ S with q := r } : GS).paint x)) := h3.mono (fun k hk => grow_trans O1.out.size h4.size k (grow_mono (G := grow F w w1) (fun k (hk : grow F w w1 k ∧ k ≠ ts) => hk.1) k hk))
          have O2 : Hid (Only F w w2) := O1.out.grow (Only.undrew (h4.mono (G := grow F w w1) (fun k hk => hk.1)))
          clear h3 h4 hts2 G1 O1 T1
          refine hK.out _ _ hH2 (fun hH => ?_)
          clear hK K
          try simp only [Act.put, List.setIfInBounds_toArray, List.set_cons_zero, List.set_cons_succ]
          refine takeH 6 (v := ?_) rfl (by kernel_rfl) (by kernel_rfl) (by kernel_rfl) (fun _ _ _ h => h) (by rfl) ?_ (by assumption) ?_
          rotate_left
          · intro W hW
            go_simp
            try with_reducible rfl
          try simp only [Act.put, List.setIfInBounds_toArray, List.set_cons_zero, List.set_cons_succ]
          refine takeH 7 (v := ?_) rfl (by kernel_rfl) (by kernel_rfl) (by kernel_rfl) (fun _ _ _ h => h) (by rfl) ?_ (by assumption) ?_
          rotate_left
          · intro W hW
            go_simp
            try with_reducible rfl
          try simp only [Act.put, List.setIfInBounds_toArray, List.set_cons_zero, List.set_cons_succ]
          refine wpAnyH_done (by kernel_rfl) ?_ _
          go_wp2
          go_ret2
          rw [hq1'.out]
          exact ⟨rfl, G2.out, O2.out⟩
        · rw [show decide (S.at x = (1, n)) = false by simp [hat]]
          go_wp2_with fail
          go_roundw
          case rel => 
            obtain ⟨hdrop, hk1⟩ := HQK.out
            refine ⟨k + 1, hk1, ?_, O1.out.drew, ?_⟩
            · rw [hdrop]; exact G1.out.mono (fun k hk => hk.1)
            · rw [hdrop]
              have := HN.out
              rw [nextQ, if_neg hat] at this
              exact this
          case measure => exact HLN.out
end Go.Proofs.Ytcfapidalngebaa
