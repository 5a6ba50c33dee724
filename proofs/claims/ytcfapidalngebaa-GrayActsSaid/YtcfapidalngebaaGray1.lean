/-
  Package gray: the walks of New, Color, Len, enter.
-/
import Derived.Test.YtcfapidalngebaaGrayDef
import Derived.StillTailTactics
set_option linter.unusedSimpArgs false
set_option linter.unusedVariables false
namespace Go.Proofs.Ytcfapidalngebaa
open Go.RowKit Go.Tr

theorem zeroThing (w : World) : (zeroValue 73).run Try.prog w = .ok (.agg #[.int .i64 0, .int .i64 0]) w := by kernel_rfl
theorem infoTurn : (Try.prog.info? 71).map (fun i => (i.zero, i.size, i.bytes)) = some (some (.agg #[.int .i64 0, .int .i64 0]), 2, 16) := by kernel_rfl

theorem fieldThing0 (a b : Int) (w : World) : (Instr.field 73 (.agg #[.int .i64 a, .int .i64 b]) 0).run Try.prog w = .ok (.int .i64 a) w := by kernel_rfl

set_option maxRecDepth 100000 in
theorem gnew_any (w : World) : Calls Try.prog 19 #[] w fun e w' => ∃ g, e = .returned (.pointer (some ⟨g, 0, none⟩)) ∧ GrayAt 68 w' g (grow (fun _ => False) w w') GS.new ∧ Only (fun _ => False) w w' ∧ w.heap.size ≤ g := by
  have hmm := @run_makeMap Try.prog
  go_enter Try.func19, Try.ntmps19
  go_wp2
  go_ret
  refine ⟨w.heap.size + 1, rfl, ⟨Or.inr (by simp), w.heap.size, .slice none 0 0, ?_, Or.inr (by simp; omega), by omega, (MapI.made w).kept (Below.heap_alloc _ _ _ (by simp)), OwnO.nil _ _, by simp [Value.ownBlock]⟩, ((Only.refl _ w).alloc _).alloc _, by omega⟩
  have := heap_alloc_new (w.alloc (.map #[] 0)) (.cells #[.map (some w.heap.size), .slice none 0 0, .int .i64 0, .int .i64 0] 68)
  rw [World.size_alloc] at this
  exact this

set_option maxRecDepth 100000 in
theorem color_any {g : Nat} {F : Nat → Prop} {S : GS} (x : Int) (w : World) (h : GrayAt 68 w g F S) : Calls Try.prog 28 #[.pointer (some ⟨g, 0, none⟩), .int .i64 x] w fun e w' => e = .returned (.int .i64 (S.color x)) ∧ w = w' := by
  obtain ⟨h1, bm, qv, h2, h3, h4, h5, h6, h7⟩ := h
  have hc0 := (cells_of_block h2 0).1
  simp at hc0
  have hl := look_thing S x
  have HL := Lib.hid hl; clear hl
  have H2 := Lib.hid h2; clear h2
  have H5 := Lib.hid h5; clear h5
  clear h1 h3 h4 h6 h7
  have hf0 := fieldThing0
  go_enter Try.func28, Try.ntmps28
  go_wp2_with (first | (at_lookup; refine wpList_lookI _ rfl _ _ 65 rfl 3 73 Try.underlying65 Try.underlying3 _ zeroThing bm _ rfl H5.out x rfl ?_; rw [HL.out]))
  go_ret
  exact ⟨rfl, rfl⟩

set_option maxRecDepth 100000 in
theorem glen_any {g : Nat} {F : Nat → Prop} {S : GS} (w : World) (h : GrayAt 68 w g F S) : Calls Try.prog 27 #[.pointer (some ⟨g, 0, none⟩)] w fun e w' => e = .returned (.int .i64 S.wait) ∧ w = w' := by
  obtain ⟨h1, bm, qv, h2, h3, h4, h5, h6, h7⟩ := h
  have hc3 := (cells_of_block h2 3).1
  simp at hc3
  clear h1 h2 h3 h4 h5 h6 h7
  go_enter Try.func27, Try.ntmps27
  go_wp2
  go_ret
  exact ⟨rfl, rfl⟩

set_option maxRecDepth 100000 in
theorem enter_any {g : Nat} {F : Nat → Prop} {S : GS} (x : Int) (w : World) (h : GrayAt 68 w g F S) (hs : S.Small 1000000) : Calls Try.prog 40 #[.pointer (some ⟨g, 0, none⟩), .int .i64 x] w fun e w' => e = .returned (.tuple #[]) ∧ GrayAt 68 w' g (grow F w w') (S.enter x) ∧ Only F w w' := by
  obtain ⟨h1, bm, qv, h2, h3, h4, h5, h6, h7⟩ := h
  obtain ⟨s1, s2, s3, s4, s5⟩ := hs
  obtain ⟨i0, hi, hz0, hz1, hz2⟩ := info_parts infoTurn
  have hc0 := cells_of_block h2 0
  have hc1 := cells_of_block h2 1
  have hc2 := cells_of_block h2 2
  have hc3 := cells_of_block h2 3
  simp at hc0 hc1 hc2 hc3
  obtain ⟨c0, f0⟩ := hc0
  obtain ⟨c1, f1⟩ := hc1
  obtain ⟨c2, f2⟩ := hc2
  obtain ⟨c3, f3⟩ := hc3
  have H2 := Lib.hid h2; clear h2
  go_enter Try.func40, Try.ntmps40
  go_wp2
  generalize hw1 : (w.setCell ⟨g, 2, none⟩ (.int .i64 (S.last + 1))).setCell ⟨g, 3, none⟩ (.int .i64 (S.wait + 1)) = w1
  have hb1 : w1.heap[g]? = some (.cells #[.map (some bm), qv, .int .i64 (S.last + 1), .int .i64 (S.wait + 1)] 68 (0, 0)) := by
    rw [← hw1]; exact block_setCell (block_setCell H2.out 2 _) 3 _
  have ho1 : Only F w w1 := by rw [← hw1]; exact ((Only.refl F w).setCell (Or.inl h1) _).setCell (Or.inl h1) _
  have hk1 : ∀ k, k ≠ g → w1.heap[k]? = w.heap[k]? := fun k hk => by rw [← hw1, Below.heap_setCell _ _ _ _ hk, Below.heap_setCell _ _ _ _ hk]
  have hs1 : w1.heap.size = w.heap.size := by rw [← hw1]; simp [World.setCell]
  clear hw1 c0 c1 c2 c3 f0 f1 f2 f3
  have hc0 := cells_of_block hb1 0
  have hc1 := cells_of_block hb1 1
  have hc2 := cells_of_block hb1 2
  simp at hc0 hc1 hc2
  obtain ⟨c0, f0⟩ := hc0
  obtain ⟨c1, f1⟩ := hc1
  obtain ⟨c2, f2⟩ := hc2
  have HB1 := Lib.hid hb1; clear hb1
  have HO1 := Lib.hid ho1; clear ho1
  have HS1 := Lib.hid hs1; clear hs1
  have HM1 : Hid (MapI w1 bm (mapA thingV S.tab)) := h5.kept (hk1 bm h4)
  have HQ1 : Hid (OwnO w1 2 qv S.q.length (ecells S.q)) := h6.kept (fun k hk => hk1 k (h7 k hk).2.1)
  clear hk1
  go_still_tail 10, (by kernel_rfl)
  refine wpList_putI _ rfl (.tmp 21) (.tmp 22) (.tmp 27) 65 rfl 3 73 Try.underlying65 Try.underlying3 bm _ rfl HM1.out x rfl (thingV (1, S.last + 1)) rfl ?_
  intro w2 hm2 hg2 hs2
  have hk2 : ∀ k, k ≠ bm → k < w1.heap.size → w2.heap[k]? = w1.heap[k]? := fun k hk hl => hg2.block k hl (by simpa using hk)
  have hgl : g < w1.heap.size := (Array.getElem?_eq_some_iff.1 HB1.out).1
  have hb2 : w2.heap[g]? = some (.cells #[.map (some bm), qv, .int .i64 (S.last + 1), .int .i64 (S.wait + 1)] 68 (0, 0)) := (hk2 g (Ne.symm h4) hgl).trans HB1.out
  have HQ2 : Hid (OwnO w2 2 qv S.q.length (ecells S.q)) := HQ1.out.kept (fun k hk => hk2 k (h7 k hk).2.2 (HQ1.out.lt k hk))
  have HM2 : Hid (MapI w2 bm (mapA thingV (putA S.tab x (1, S.last + 1)))) := by
    have := hm2; rw [putA_mapA] at this; exact this
  have HO2 : Hid (Only F w w2) := HO1.out.drew.grown hg2 (fun k hk => by cases hk; exact Or.inl h3)
  have HS2 : Hid (w2.heap.size = w.heap.size) := hs2.trans HS1.out
  clear hk2 hgl hm2 hg2 hs2 c0 c1 c2 f0 f1 f2 HM1 HQ1 HO1 HB1 HS1
  have hc1 := cells_of_block hb2 1
  have hc2 := cells_of_block hb2 2
  simp at hc1 hc2
  obtain ⟨c1, f1⟩ := hc1
  obtain ⟨c2, f2⟩ := hc2
  have HB2 := Lib.hid hb2; clear hb2
  go_wp2
  refine wp_region_lastH (S := fun W => W.cell? ⟨g, 1, none⟩ = some qv ∧ W.cell? ⟨g, 2, none⟩ = some (.int .i64 (S.last + 1))) 15 (by kernel_rfl) (by kernel_rfl) ⟨c1, c2⟩ (fun hH => ?_)
  simp only [lastOps, nop, List.modify_toArray, List.modify_succ_cons, List.modify_zero_cons]
  refine takeH 0 (v := ?_) rfl (by kernel_rfl) (by kernel_rfl) (by kernel_rfl) (fun _ _ _ h => h) (by rfl) ?_ (by assumption) ?_
  rotate_left
  · intro W hW
    go_simp
    try with_reducible rfl
  try simp only [Act.put, List.setIfInBounds_toArray, List.set_cons_zero, List.set_cons_succ]
  refine takeH 1 (v := ?_) rfl (by kernel_rfl) (by kernel_rfl) (by kernel_rfl) (fun _ _ _ h => h) (by rfl) ?_ (by assumption) ?_
  rotate_left
  · intro W hW
    go_simp
    try with_reducible rfl
  try simp only [Act.put, List.setIfInBounds_toArray, List.set_cons_zero, List.set_cons_succ]
  refine takeH 2 (v := ?_) rfl (by kernel_rfl) (by kernel_rfl) (by kernel_rfl) (fun _ _ _ h => h) (by rfl) ?_ (by assumption) ?_
  rotate_left
  · intro W hW
    go_simp
    try with_reducible rfl
  try simp only [Act.put, List.setIfInBounds_toArray, List.set_cons_zero, List.set_cons_succ]
  refine takeH 3 (v := ?_) rfl (by kernel_rfl) (by kernel_rfl) (by kernel_rfl) (fun _ _ _ h => h) (by rfl) ?_ (by assumption) ?_
  rotate_left
  · intro W hW
    go_simp
    try with_reducible rfl
  try simp only [Act.put, List.setIfInBounds_toArray, List.set_cons_zero, List.set_cons_succ]
  refine takeH 4 (v := ?_) rfl (by kernel_rfl) (by kernel_rfl) (by kernel_rfl) (fun _ _ _ h => h) (by rfl) ?_ (by assumption) ?_
  rotate_left
  · intro W hW
    go_simp
    try with_reducible rfl
  try simp only [Act.put, List.setIfInBounds_toArray, List.set_cons_zero, List.set_cons_succ]
  refine takeH 5 (v := ?_) rfl (by kernel_rfl) (by kernel_rfl) (by kernel_rfl) (fun _ _ _ h => h) (by rfl) ?_ (by assumption) ?_
  rotate_left
  · intro W hW
    go_simp
    try with_reducible rfl
  try simp only [Act.put, List.setIfInBounds_toArray, List.set_cons_zero, List.set_cons_succ]
  refine takeH 6 (v := ?_) rfl (by kernel_rfl) (by kernel_rfl) (by kernel_rfl) (fun _ _ _ h => h) (by rfl) ?_ (by assumption) ?_
  rotate_left
  · intro W hW
    go_simp
    try with_reducible rfl
  try simp only [Act.put, List.setIfInBounds_toArray, List.set_cons_zero, List.set_cons_succ]
  refine takeH 7 (v := ?_) rfl (by kernel_rfl) (by kernel_rfl) (by kernel_rfl) (fun _ _ _ h => h) (by rfl) ?_ (by assumption) ?_
  rotate_left
  · intro W hW
    go_simp
    try with_reducible rfl
  try simp only [Act.put, List.setIfInBounds_toArray, List.set_cons_zero, List.set_cons_succ]
  refine takeH 8 (v := ?_) rfl (by kernel_rfl) (by kernel_rfl) (by kernel_rfl) (fun _ _ _ h => h) (by rfl) ?_ (by assumption) ?_
  rotate_left
  · intro W hW
    go_simp
    try with_reducible rfl
  try simp only [Act.put, List.setIfInBounds_toArray, List.set_cons_zero, List.set_cons_succ]
  refine takeH 9 (v := ?_) rfl (by kernel_rfl) (by kernel_rfl) (by kernel_rfl) (fun _ _ _ h => h) (by rfl) ?_ (by assumption) ?_
  rotate_left
  · intro W hW
    go_simp
    try with_reducible rfl
  try simp only [Act.put, List.setIfInBounds_toArray, List.set_cons_zero, List.set_cons_succ]
  refine takeH 10 (v := ?_) rfl (by kernel_rfl) (by kernel_rfl) (by kernel_rfl) (fun _ _ _ h => h) (by rfl) ?_ (by assumption) ?_
  rotate_left
  · intro W hW
    go_simp
    try with_reducible rfl
  try simp only [Act.put, List.setIfInBounds_toArray, List.set_cons_zero, List.set_cons_succ]
  refine wpAnyH_ready (rs := [11]) (by kernel_rfl) (by simp) (readyH rfl (fun K hK => ?_) AllReadyH.nil)
  rw [if_pos (by rfl)]
  go_simp
  have hgl2 : g < w2.heap.size := (Array.getElem?_eq_some_iff.1 HB2.out).1
  refine hK.out _ _ ⟨(World.cell?_alloc_lt _ _ _ hgl2).trans hH.1, (World.cell?_alloc_lt _ _ _ hgl2).trans hH.2⟩ (fun hH => ?_)
  clear hK K
  try simp only [Act.put, List.setIfInBounds_toArray, List.set_cons_zero, List.set_cons_succ]
  refine wpAnyH_ready (rs := [12]) (by kernel_rfl) (by simp) (readyH rfl (fun K hK => ?_) AllReadyH.nil)
  rw [if_pos (by rfl)]
  refine wpO_appendO _ (.tmp 32) (.tmp 39) 66 rfl 71 i0 _ 2 16 Try.underlying66 hi hz0 hz1 hz2 rfl (by decide) qv S.q.length (ecells S.q) rfl (HQ2.out.kept ?hkept) ⟨w2.heap.size, 0, none⟩ 1 1 [.int .i64 x, .int .i64 (S.last + 1)] rfl rfl ?hn ?h1 ?h63 ?hby ?_
  case hkept => exact fun k hk => Below.heap_alloc _ _ _ (HQ2.out.lt k hk)
  case hn =>
    intro j u hj
    rcases j with _ | _ | j
    · simp at hj; subst hj; simp [Addr.add]
    · simp at hj; subst hj; simp [Addr.add]
    · simp at hj
  case h1 => intro u hu; simp at hu; rcases hu with rfl | rfl <;> rfl
  case h63 => unfold maxLen; omega
  case hby => omega
  intro v3 w3 r1 r2 r3
  obtain ⟨a3, cap3, rfl, -, -, -⟩ := r1.seq
  have hg3 : w3.heap[g]? = w2.heap[g]? := (r2.block g (by simp; omega) (fun e => (h7 g e.symm).2.1 rfl)).trans (Below.heap_alloc _ _ _ hgl2)
  have hb3 := hg3.trans HB2.out
  have hm3 : w3.heap[bm]? = w2.heap[bm]? := (r2.block bm (by have := HM2.out.lt; simp; omega) (fun e => (h7 bm e.symm).2.2 rfl)).trans (Below.heap_alloc _ _ _ HM2.out.lt)
  have HM3 : Hid (MapI w3 bm (mapA thingV (putA S.tab x (1, S.last + 1)))) := HM2.out.kept hm3
  have HO3 : Hid (Only F w w3) := (HO2.out.drew.alloc _).grown r2 (fun k hk => Or.inl (h7 k hk).1)
  have HR3 := Lib.hid r1
  have r4 : ∀ k, (Value.slice a3 (S.q.length + 1) cap3).ownBlock = some k → grow F w w3 k ∧ k ≠ g ∧ k ≠ bm := by
    intro k hk
    rcases r3 k hk with h | h
    · exact ⟨Or.inl (h7 k h).1, (h7 k h).2⟩
    · have h8 := h.1
      have h9 := HM2.out.lt
      have h10 := HS2.out
      simp at h8
      exact ⟨Or.inr ⟨by omega, h.2⟩, by omega, by omega⟩
  have HR4 := Lib.hid r4
  have hc1 := cells_of_block hb3 1
  have hc2 := cells_of_block hb3 2
  simp at hc1 hc2
  obtain ⟨d1, e1⟩ := hc1
  obtain ⟨d2, e2⟩ := hc2
  have HB3 := Lib.hid hb3
  clear hb3 hm3 r1 r2 r3 r4 c1 c2 f1 f2 hg3
  refine hK.out _ _ ⟨d1, d2⟩ (fun hH => ?_)
  clear hK K
  try simp only [Act.put, List.setIfInBounds_toArray, List.set_cons_zero, List.set_cons_succ]
  refine takeH 13 (v := ?_) rfl (by kernel_rfl) (by kernel_rfl) (by kernel_rfl) (fun _ _ _ h => h) (by rfl) ?_ (by assumption) ?_
  rotate_left
  · intro W hW
    go_simp
    try with_reducible rfl
  try simp only [Act.put, List.setIfInBounds_toArray, List.set_cons_zero, List.set_cons_succ]
  refine takeH 14 (v := ?_) rfl (by kernel_rfl) (by kernel_rfl) (by kernel_rfl) (fun _ _ _ h => h) (by rfl) ?_ (by assumption) ?_
  rotate_left
  · intro W hW
    go_simp
    try with_reducible rfl
  try simp only [Act.put, List.setIfInBounds_toArray, List.set_cons_zero, List.set_cons_succ]
  refine takeH 15 (v := ?_) rfl (by kernel_rfl) (by kernel_rfl) (by kernel_rfl) (fun _ _ _ h => h) (by rfl) ?_ (by assumption) ?_
  rotate_left
  · intro W hW
    go_simp
    try with_reducible rfl
  try simp only [Act.put, List.setIfInBounds_toArray, List.set_cons_zero, List.set_cons_succ]
  refine lastH_done (by kernel_rfl) rfl (by rfl) ?_
  go_simp
  go_wp2
  go_end0
  have hsz : (w3.setCell ⟨g, 1, none⟩ (.slice a3 (S.q.length + 1) cap3)).heap.size = w3.heap.size := by simp [World.setCell]
  have hkk : ∀ k, k ≠ g → (w3.setCell ⟨g, 1, none⟩ (.slice a3 (S.q.length + 1) cap3)).heap[k]? = w3.heap[k]? := fun k hk => Below.heap_setCell _ _ _ _ hk
  refine ⟨rfl, ⟨Or.inl h1, bm, .slice a3 (S.q.length + 1) cap3, block_setCell HB3.out 1 _, Or.inl h3, h4, HM3.out.kept (hkk bm h4), ?_, fun k hk => ?_⟩, HO3.out.setCell (Or.inl h1) _⟩
  · have := HR3.out.kept (fun k hk => hkk k (HR4.out k hk).2.1)
    have e : ecells [(x, S.last + 1)] = [.int .i64 x, .int .i64 (S.last + 1)] := rfl
    simpa [GS.enter, ecells_append, e] using this
  · obtain ⟨h8, h9⟩ := HR4.out k hk
    exact ⟨by unfold grow at h8 ⊢; rw [hsz]; exact h8, h9⟩
end Go.Proofs.Ytcfapidalngebaa
