/-
  Parts of the proof, one behind the other: KCell8, KCell9, KCell10.
-/
import Derived.Test.YtcdpnfchmpncjaaGreatDoorMa31
set_option linter.unusedSimpArgs false
set_option linter.unusedVariables false
namespace Go.Proofs.YtcdpnfchmpncjaaGreatDoor
open Go.RowKit Go.Tr Go.Shelf
variable {w w' : World} {F G : Nat → Prop} {A : Ad} {S : HS}
def noPanic (Q : Exit → Act → World → Prop) : Exit → Act → World → Prop
  | .panic _, _, _ => False
  | .normal, a, w => Q .normal a w
  | .ret, a, w => Q .ret a w
  | .exit i, a, w => Q (.exit i) a w
  | .goto l, a, w => Q (.goto l) a w
  | .outgrown, a, w => Q .outgrown a w
theorem wp_noPanic {P : Program} {c : Code} {Q : Exit → Act → World → Prop} {a : Act} {w : World} (h : c.wp P (noPanic Q) a w) : c.wp P Q a w :=
  wp_mono h (fun e a w h => by cases e <;> first | exact h | exact h.elim)
def tgt (l : List (Nat × Option (Nat × Nat))) : List Int := l.filterMap fun x => x.2.map fun q => (q.1 : Int)
theorem tgt_snoc (l : List (Nat × Option (Nat × Nat))) (p : Nat) (o : Option (Nat × Nat)) : tgt (l ++ [(p, o)]) = tgt l ++ (match o with | none => [] | some q => [(q.1 : Int)]) := by
  unfold tgt
  rw [List.filterMap_append]
  cases o <;> rfl
theorem tgt_length (l : List (Nat × Option (Nat × Nat))) : (tgt l).length ≤ l.length := List.length_filterMap_le _ _
theorem slotsL_length {L : Lay} (h : RightLay L) {count : Nat} (hc : count ≤ 1024) : (slotsL L count).length ≤ 100000 := by
  have h1 := risesN_len h.refs h.f
  have h2 := risesN_len h.recs h.r
  unfold slotsL
  rw [List.length_append, List.length_flatMap]
  have : ((List.range count).map fun i => (L.recs.map (L.fixed + i * L.record + ·)).length).sum ≤ count * 64 := by
    have : ∀ n, ((List.range n).map fun i => (L.recs.map (L.fixed + i * L.record + ·)).length).sum ≤ n * 64 := fun n => by
      induction n with
      | zero => simp
      | succ n ih => rw [List.range_succ, List.map_append, List.sum_append]; simp at ih ⊢; omega
    exact this count
  omega
theorem ObjOk.lkEnv {i count : Nat} {x : Sl} {o : Nat → Option (Nat × Nat)} (h : ObjOk S i x count) (hlk : ∀ p ∈ slotsL S.L count, LkOk (o p) ∧ S.ws.getD (x.addr + 1 + p) 0 = lkN (o p)) : LkEnv S.C S.Wd S.L S.ws S.own x.addr count i o := ⟨h.obj, h.big, h.fit, h.own, hlk⟩
theorem infoIntC : (Tryz.prog.info? 3).map (fun i => (i.zero, i.size, i.bytes)) = some (some (.int .i64 0), 1, 8) := by kernel_rfl
set_option maxRecDepth 100000 in
set_option maxHeartbeats 4000000 in
theorem ctargets_any {x : Sl} {i count : Nat} (o : Nat → Option (Nat × Nat)) (w : World) (h : HeapF w F A S) (ho : ObjOk S i x count) (hlk : ∀ p ∈ slotsL S.L count, LkOk (o p) ∧ S.ws.getD (x.addr + 1 + p) 0 = lkN (o p)) :
    Calls Tryz.prog 111 #[.pointer (some ⟨A.c, 0, none⟩), .int .i64 i] w fun e w' => ∃ v, e = .returned v ∧ own3 w' 3 w.heap.size v (tgt (refsL S.L count o)) ∧ Below w.heap.size w w' := by
  obtain ⟨i0, hi, hz0, hz1, hz2⟩ := info_parts infoIntC
  have HH := Lib.hid h
  have HAT := Lib.hid (fun W (hb : Below w.heap.size w W) => cat_any W (h.below hb) ho.sl ho.used)
  have HF := Lib.hid (fun W (hb : Below w.heap.size w W) => h.fields hb)
  have HENV := Lib.hid (ho.lkEnv hlk)
  have HLT := Lib.hid h.lt
  have HLEN : Hid ((refsL S.L count o).length ≤ 100000) := by
    obtain ⟨G, H, hi, -⟩ := h.img
    show _ ≤ _
    unfold refsL
    rw [List.length_map]
    exact slotsL_length hi.right ho.obj.cnt
  obtain ⟨lb, hlb⟩ : ∃ lb, lb = w.heap.size := ⟨_, rfl⟩
  have hb0 : Below w.heap.size w (w.alloc (.cells #[.slice none 0 0] 42)) := (Below.refl _ w).alloc (Nat.le_refl _) _
  have HB0 := Lib.hid hb0
  have HL0 : Hid (Boxed (w.alloc (.cells #[.slice none 0 0] 42)) lb 42 (.slice none 0 0)) := by rw [hlb]; exact Boxed.new w _ _
  have HLB := Lib.hid hlb
  obtain ⟨gn, ug, ad, rg, hd, pn⟩ := x
  simp only [entryV] at HAT HENV
  clear h ho hlk hb0
  refine (callsIn_wide (n := 2)).1 ?_
  refine callsIn_of_wp_marks Tryz.func111 rfl trivial ?_ rfl
  refine wpIn_wide.2 (wp_noPanic ?_)
  simp only [Tryz.ntmps111, List.size_toArray, List.length_cons, List.length_nil, Nat.reduceAdd, Nat.reduceSub, Array.replicate_succ, Array.replicate_zero, List.push_toArray, List.append_toArray, List.nil_append, List.cons_append]
  go_wp2_with fail
  rw [← hlb]
  clear hlb
  generalize w.alloc (.cells #[.slice none 0 0] 42) = wa at *
  refine (HAT.out wa HB0.out).mono ?_
  rintro e w1 ⟨rfl, hb1⟩
  have hb1' : Below wa.heap.size wa (w1.alloc (.cells #[.int .i64 ad, .int .i64 rg, .bool hd, .bool pn] 93)) := hb1.alloc hb1.size _
  have HB1 : Hid (Below w.heap.size w (w1.alloc (.cells #[.int .i64 ad, .int .i64 rg, .bool hd, .bool pn] 93))) := HB0.out.trans (hb1'.mono HB0.out.size)
  have HL1 : Hid (Boxed (w1.alloc (.cells #[.int .i64 ad, .int .i64 rg, .bool hd, .bool pn] 93)) lb 42 (.slice none 0 0)) := seqAt_fields HL0.out hb1'
  have HX1 : Hid ((w1.alloc (.cells #[.int .i64 ad, .int .i64 rg, .bool hd, .bool pn] 93)).heap[w1.heap.size]? = some (.cells #[.int .i64 ad, .int .i64 rg, .bool hd, .bool pn] 93 (0, 0))) := heap_alloc_new w1 _
  obtain ⟨xb, hxb⟩ : ∃ xb, xb = w1.heap.size := ⟨_, rfl⟩
  rw [← hxb] at HX1
  clear hb1 hb1'
  go_wp2_with fail
  rw [← hxb]
  clear hxb
  generalize w1.alloc (.cells #[.int .i64 ad, .int .i64 rg, .bool hd, .bool pn] 93) = w2 at *
  obtain ⟨-, -, c2, -⟩ := HF.out _ HB1.out
  have x0 := (cells_of_block HX1.out 0).1
  have x1 := (cells_of_block HX1.out 1).1
  have x2 := (cells_of_block HX1.out 2).1
  have x3 := (cells_of_block HX1.out 3).1
  simp at x0 x1 x2 x3
  go_still_tail 6, (by kernel_rfl)
  have HB2 : Hid (Below w.heap.size w w2.drew) := HB1.out.drew
  have HL2 : Hid (Boxed w2.drew lb 42 (.slice none 0 0)) := HL1.out
  change wpList _ _ _ _ _ w2.drew
  clear c2 x0 x1 x2 x3
  generalize w2.drew = w3 at *
  go_wp2_with fail
  refine (ilinks_any A.m ad w3).mono ?_
  rintro e w4 ⟨bm, ba, rfl, hbm, hba, hbm1, hba1, hb34⟩
  have HB4 : Hid (Below w.heap.size w w4) := HB2.out.trans (hb34.mono HB2.out.size)
  have HL4 : Hid (Boxed w4 lb 42 (.slice none 0 0)) := seqAt_fields HL2.out hb34
  have HSEQ : Hid (SeqAllN StepN (KeepN fun k => k = lb ∨ k = w4.heap.size + 1) Tryz.prog 193 #[.pointer (some ⟨bm, 0, none⟩), .pointer (some ⟨ba, 0, none⟩)] refE (refsL S.L count o) w4) := by
    obtain ⟨G, H, hI, hG, hH, hM⟩ := (HH.out.below HB4.out).img
    refine links_seq hbm hba hI HENV.out (fun k hk hO => ?_) (fun k hk => ?_)
    · have hlt : ∀ j, F j → j < w.heap.size := HLT.out
      have h5 := block_lt hbm
      have h6 := block_lt hba
      have h7 := HB4.out.size
      have h8 := (HL2.out).lt
      have hw3 := HB2.out.size
      have hlb2 := HLB.out
      rcases hk with hk | hk | rfl | rfl | rfl
      · have := hlt k (hG k hk); omega
      · have := hlt k (hH k hk); omega
      · have := hlt _ hM; omega
      · omega
      · omega
    · have := HL4.out.lt; omega
  clear hbm hba hbm1 hba1 hb34
  go_wp2_with fail
  refine (wpIn_wide (n := 2)).1 ?_
  refine range_allN (m := 0) (gf := 193) (lb := #[.pointer (some ⟨bm, 0, none⟩), .pointer (some ⟨ba, 0, none⟩)]) rfl (enters_of Tryz.func193 (by kernel_rfl) rfl) HSEQ.out (Below.refl _ _) (fun x => rfl) (fun h k => KeepN.trans h k) ?hkb
    (fun N pre W' => ∃ v, Boxed W' lb 42 v ∧ own3 W' 3 w.heap.size v (tgt pre) ∧ (∀ k, v.ownBlock = some k → N ≤ k ∧ w4.heap.size + 1 < k) ∧ Below w.heap.size w W') ?hib ?hst ?hsk ?h0 ?round ?done
  case hkb => exact fun N W r r' _ => ⟨by simp, fun k hk ho => World.putObj_heap_other (fun e => ho (Or.inr e))⟩
  case hib =>
    rintro N pre W r r' ⟨v, h1, h2, h3, h4⟩ hl
    have hsz := HB4.out.size
    have hlb := HLB.out
    have hl4 := HL4.out.lt
    refine ⟨v, (World.putObj_heap_other (by omega)).trans h1, ownsRow_kept h2 (fun k hk => World.putObj_heap_other (by have := (h3 k hk).2; omega)), h3, h4.os, h4.tape, h4.output, by simpa using h4.size, fun k hk => (World.putObj_heap_other (by omega)).trans (h4.block k hk)⟩
  case hst =>
    rintro N pre B C ⟨v, h1, h2, h3, h4⟩ hs
    have hsz := HB4.out.size
    have hl4 := HL4.out.lt
    have hb := h4.size
    refine ⟨v, (hs.block lb h1.lt (Or.inl (by omega))).trans h1, ownsRow_kept h2 (fun k hk => hs.block k (h2.lt k hk).2 (Or.inr (h3 k hk).1)), h3, hs.os.trans h4.os, hs.tape.trans h4.tape, hs.output.trans h4.output, Nat.le_trans h4.size hs.size, fun k hk => (hs.block k (by omega) (Or.inl (by omega))).trans (h4.block k hk)⟩
  case hsk => exact fun N B C k hs hk hkb => hs.block k hkb (Or.inl hk)
  case h0 =>
    intro N r
    have hb : Below w4.heap.size w4 ((w4.alloc (.deferred (some []))).alloc (.loop r)) := ((Below.refl _ w4).alloc (Nat.le_refl _) _).alloc (by simp) _
    exact ⟨_, seqAt_fields HL4.out hb, World.ownsRow_nil _ _ _ _, fun k hk => by simp [Value.ownBlock] at hk, HB4.out.trans (hb.mono HB4.out.size)⟩
  case round =>
    rintro N pre ⟨p, lk⟩ W hN ⟨v, hv, hrow, hnb, hB⟩ hpre hlt
    have hpl : (tgt pre).length ≤ 100000 := by
      have h1 := tgt_length pre
      have h2 := hpre.length_le
      have h3 := HLEN.out
      simp at h2
      omega
    have HTG := Lib.hid (tgt_snoc pre p lk)
    have HN := Lib.hid hN
    have HV := Lib.hid hv
    have HROW := Lib.hid hrow
    have HNB := Lib.hid hnb
    have HBW := Lib.hid hB
    have HL := Lib.hid hlt
    clear hpre hN hv hrow hnb hB hlt
    obtain ⟨kb, hkb⟩ : ∃ kb, kb = W.heap.size := ⟨_, rfl⟩
    have HKB := Lib.hid hkb
    have HLV : Hid (lb < w4.heap.size) := HL4.out.lt
    have HBOX : Hid (∀ (q : Array Value) (r : Loop), ((W.alloc (.cells q 69)).putObj (w4.heap.size + 1) (.loop r)).heap[kb]? = some (.cells q 69 (0, 0)) ∧ KeepN (fun k => k = lb ∨ k = w4.heap.size + 1) N W (W.alloc (.cells q 69)) ∧
        KeepsB (w4.heap.size + 1) (W.alloc (.cells q 69)) (W.alloc (.cells q 69)) ∧ Boxed ((W.alloc (.cells q 69)).putObj (w4.heap.size + 1) (.loop r)) lb 42 v ∧ own3 ((W.alloc (.cells q 69)).putObj (w4.heap.size + 1) (.loop r)) 3 w.heap.size v (tgt pre) ∧
        Below w.heap.size w ((W.alloc (.cells q 69)).putObj (w4.heap.size + 1) (.loop r)) ∧ W.heap.size + 1 = ((W.alloc (.cells q 69)).putObj (w4.heap.size + 1) (.loop r)).heap.size) := fun q r => by
      have hb : Below W.heap.size W (W.alloc (.cells q 69)) := (Below.refl _ W).alloc (Nat.le_refl _) _
      have h1 := HL.out
      have h2 := HLV.out
      have h3 := HB4.out.size
      have h4 := HBW.out.size
      refine ⟨?_, KeepN.below hb HN.out, rfl, ?_, ?_, ⟨HBW.out.os, HBW.out.tape, HBW.out.output, by simp; omega, fun k hk => ?_⟩, by simp⟩
      · rw [hkb]; exact (World.putObj_heap_other (by omega)).trans (heap_alloc_new W _)
      · exact (World.putObj_heap_other (by omega)).trans (seqAt_fields HV.out hb)
      · exact ownsRow_kept HROW.out (fun k hk => (World.putObj_heap_other (by have := (HNB.out k hk).2; omega)).trans (hb.block k (HROW.out.lt k hk).2))
      · exact (World.putObj_heap_other (by omega)).trans ((hb.block k (by omega)).trans (HBW.out.block k hk))
    have hsem := @Oper.semAt_some
    rcases lk with _ | ⟨j, g⟩
    · simp only [refE, lkV, linkV]
      gi_wp2_with fail
      have h1 := HL.out
      refine ⟨Below.heap_alloc _ _ _ (by omega), Below.heap_alloc _ _ _ (by omega), KeepN.below ((Below.refl _ W).alloc (Nat.le_refl _) _) HN.out, fun r _ => ?_⟩
      obtain ⟨q1, q2, -, q3, q4, q5, q6⟩ := HBOX.out #[.int .i64 0, .int .i64 0, .int .i64 0] r
      rw [← hkb]
      clear hkb h1
      generalize (W.alloc (.cells #[.int .i64 0, .int .i64 0, .int .i64 0] 69)).putObj (w4.heap.size + 1) (.loop r) = W2 at *
      have c0 := (cells_of_block q1 0).1
      simp at c0
      have Q3 := Lib.hid q3
      have Q4 := Lib.hid q4
      have Q5 := Lib.hid q5
      clear q1 q2 q3 q4 q5 q6
      gi_wp2_with fail
      refine ⟨rfl, rfl, ⟨Nat.le_refl _, fun _ _ _ => rfl⟩, _, Q3.out, by rw [HTG.out, List.append_nil]; exact Q4.out, HNB.out, Q5.out⟩
    · simp only [refE, lkV, linkV]
      gi_wp2_with fail
      have h1 := HL.out
      refine ⟨Below.heap_alloc _ _ _ (by omega), Below.heap_alloc _ _ _ (by omega), KeepN.below ((Below.refl _ W).alloc (Nat.le_refl _) _) HN.out, fun r _ => ?_⟩
      obtain ⟨q1, q2, -, q3, q4, q5, q6⟩ := HBOX.out #[.int .i64 2, .int .i64 j, .int .i64 g] r
      have HWN : Hid (N ≤ ((W.alloc (.cells #[.int .i64 2, .int .i64 j, .int .i64 g] 69)).putObj (w4.heap.size + 1) (.loop r)).heap.size ∧ w4.heap.size + 1 < ((W.alloc (.cells #[.int .i64 2, .int .i64 j, .int .i64 g] 69)).putObj (w4.heap.size + 1) (.loop r)).heap.size) := by
        have := HN.out
        show _ ∧ _
        omega
      rw [← hkb]
      clear hkb h1
      generalize (W.alloc (.cells #[.int .i64 2, .int .i64 j, .int .i64 g] 69)).putObj (w4.heap.size + 1) (.loop r) = W2 at *
      have c0 := (cells_of_block q1 0).1
      have c1 := (cells_of_block q1 1).1
      simp at c0 c1
      have hc := q3.cell
      have Q3 := Lib.hid q3
      have Q4 := Lib.hid q4
      have Q5 := Lib.hid q5
      obtain ⟨tl, htl⟩ : ∃ tl, tl = (tgt pre).length := ⟨_, rfl⟩
      rw [← htl] at hpl
      have hrw : W2.ownsRow w.heap.size 3 1 v tl (ints (tgt pre)) := by rw [htl]; exact q4
      have HRW := Lib.hid hrw
      have HTL := Lib.hid htl
      clear q1 q2 q3 q4 q5 q6 htl
      gi_wp2_with (gi_at_builtin; refine wpListIn_append_own_at _ rfl _ _ 42 rfl w.heap.size 3 i0 (.int .i64 0) 1 8 Tryz.underlying42 hi hz0 hz1 hz2 rfl (by decide) _ _ _ rfl (hrw.alloc _) ⟨W2.heap.size, 0, none⟩ 1 1 [.int .i64 j] rfl rfl (cell_one_new _ _ _) (by simp [Value.oneCell']) (by unfold maxLen; omega) (by omega) (by have := Q5.out.size; simp; omega) ?_; intro v' w1 hown' hgrow _ hob; obtain ⟨g', cap', rfl⟩ := ownsRow_succ hown'; obtain ⟨hv1, hv2, hr2, hk2, hb2⟩ := Q3.out.appended (by decide) hrw Q5.out.size (by have := HLB.out; omega) hown' hgrow; have hc1 := hv1.cell; have hf1 := hv1.frozen)
      have hkk : ∀ k, k < N ∨ k ≤ w4.heap.size + 1 → k ≠ lb → (w1.setCell ⟨lb, 0, none⟩ (.slice (some ⟨g', 0, none⟩) (tl + 1) cap')).heap[k]? = W2.heap[k]? := fun k hk hne => by
        have h1 := HWN.out.1
        have h2 := HWN.out.2
        refine (Below.heap_setCell _ _ _ _ hne).trans ((hgrow.block k (by simp; omega) (fun e => ?_)).trans (Below.heap_alloc _ _ _ (by omega)))
        have := HNB.out k e.symm
        omega
      have h3 := HLV.out
      refine ⟨hkk _ (Or.inr (Nat.le_refl _)) (by omega), hkk _ (Or.inr (by omega)) (by omega), ⟨hb2.size, fun k hk ho => hkk k (Or.inl hk) (fun e => ho (Or.inl e))⟩, _, hv2, ?_, fun k hk => ?_, Q5.out.trans hb2⟩
      · rw [HTG.out]
        unfold own3
        rw [List.length_append, ← HTL.out]
        simpa [ints, iv] using hr2
      · rcases hob with e | e
        · exact HNB.out k (show v.ownBlock = some k from by rw [← hk]; exact e.symm)
        · have : some k = some (W2.heap.size + 1) := by rw [← hk, e]; simp
          cases this
          have h1 := HWN.out
          omega
  case done =>
    rintro N W ⟨v, hv, hrow, hnb, hB⟩ hD
    have hc := hv.cell
    go_wp2_with fail
    refine ⟨by simp, .inl ⟨_, _, rfl, run_takeDeferred hD, ?_⟩⟩
    have h1 := HB4.out.size
    refine ⟨_, results_tmp rfl _ _ _, v, rfl, ownsRow_kept hrow (fun k hk => World.putObj_heap_other (by have := (hnb k hk).2; omega)), hB.os, hB.tape, hB.output, by simpa using hB.size, fun k hk => (World.putObj_heap_other (by omega)).trans (hB.block k hk)⟩
end Go.Proofs.YtcdpnfchmpncjaaGreatDoor
namespace Go.Proofs.YtcdpnfchmpncjaaGreatDoor
open Go.RowKit Go.Tr Go.Shelf
variable {w w' : World} {F G : Nat → Prop} {A : Ad} {S S1 : HS}
theorem cntB_lt {B : Nat → Bool} {n i : Nat} (hi : i < n) (hb : B i = false) : cntB B n < n := by
  have h1 := cntB_set (B := B) (on := true) hi (by rw [hb]; decide)
  have h2 := cntB_le (setB B i true) n
  simp at h1
  omega
def AllocSt (S : HS) (n addr : Nat) (S' : HS) : Prop :=
  (S.a + n ≤ S.en ∧ addr = S.a ∧ S' = { S with a := S.a + n }) ∨
  (S.en < S.a + n ∧ ∃ c q, q = (n - 1) / S.Wd ∧ c + (q + 1) ≤ S.C ∧ (∀ i, c ≤ i → i < c + (q + 1) → S.own.getD i 0 = 0) ∧ addr = c * S.Wd ∧
    S' = { S with ps := S.ps ++ [(c, q + 1)], a := if q = 0 then c * S.Wd + n else S.a, en := if q = 0 then (c + 1) * S.Wd else S.en, ws := putAt S.ws (c * S.Wd) (List.replicate ((q + 1) * S.Wd) 0), own := putAt S.own c (List.replicate (q + 1) 1) })
def RoomOk (S : HS) (n : Nat) : Prop := S.a ≤ S.en ∧ S.en ≤ 1048576 ∧ S.ps.length ≤ 100000 ∧ 1 ≤ n ∧ n ≤ 1048576 ∧ (S.a + n ≤ S.en ∨ ∃ c, c + ((n - 1) / S.Wd + 1) ≤ S.C ∧ ∀ i, c ≤ i → i < c + ((n - 1) / S.Wd + 1) → S.own.getD i 0 = 0)
theorem HeapF.alloc (h : HeapF w F A S) {n : Nat} (hr : RoomOk S n) : Calls Tryz.prog 88 #[.pointer (some ⟨A.u, 0, none⟩), .int .i64 n] w fun e w' => ∃ addr S', e = .returned (.tuple #[.int .i64 (addr : Nat), .int .i64 0]) ∧ AllocSt S n addr S' ∧ HeapF w' (grow F w w') A S' ∧ Only F w w' := by
  obtain ⟨h1, h2, h3, h4, h5, h6⟩ := hr
  by_cases hlt : S.a + n ≤ S.en
  · obtain ⟨G, hG, hp, -, hb⟩ := h.1.part1 (pp_parts A S) 6
    refine (uallocR_any n w hp h4 hlt h2).mono ?_
    rintro e w' ⟨rfl, e2, e3, -⟩
    refine ⟨S.a, { S with a := S.a + n }, rfl, Or.inl ⟨hlt, rfl, rfl⟩, HeapF.put h.2 (hb (PP A { S with a := S.a + n }) w' (pp_parts _ _) (fun j hj => ?_) (SpF.mono e2 (fun k hk => Or.inl hk)) e3)⟩
    unfold PP
    split <;> first | rfl | exact absurd rfl hj
  · obtain ⟨G, H, hG, hH, hd, hp, hst, hb⟩ := h.1.part2 (pp_parts A S) 6 1 (by decide)
    have hfree := h6.resolve_left hlt
    refine (uallocN_any n _ w hp hst hd h.2.at rfl h4 h5 h1 (by omega) h2 (Nat.le_refl _) (by decide) h3 hfree).mono ?_
    rintro e w' ⟨c, rfl, a1, a2, a3, a4, a5⟩
    refine ⟨c * S.Wd, _, rfl, Or.inr ⟨by omega, c, _, rfl, a1, a2, rfl, rfl⟩, HeapF.put h.2 (hb (PP A _) w' (pp_parts _ _) (fun j hj hj2 => ?_) a3 a4 a5)⟩
    unfold PP
    split <;> first | rfl | exact absurd rfl hj | exact absurd rfl hj2
theorem HeapF.add (h : HeapF w F A S) {y : Sl} {i : Nat} (ad : Nat) (hy : S.sl[i]? = some y) (hu : y.used = false) (hlow : ∀ j, j < i → usedB S.sl j = true) (hg : y.gen ≤ 255) : Calls Tryz.prog 89 #[.pointer (some ⟨A.t, 0, none⟩), .agg #[.int .i64 ad, .int .i64 1, .bool true, .bool false]] w fun e w' => e = .returned (.tuple #[.agg #[.int .i64 i, .int .i64 (y.gen + 1 : Nat)], .int .i64 0]) ∧ HeapF w' (grow F w w') A { S with sl := S.sl.set i ⟨y.gen + 1, true, ad, 1, true, false⟩ } ∧ Only F w w' := by
  obtain ⟨G, ht, hG, hput⟩ := h.setTable
  exact (tadd_any ad 1 true false w ht h.2.at (fun k hk => h.lt k (hG k hk)) hy hu hlow hg).mono fun e w' ⟨e1, e2, e3⟩ => ⟨e1, hput _ w' e2 e3⟩
theorem HeapF.imake (h : HeapF w F A S) {addr count i : Nat} (hc : count ≤ 1024) (hi : i < 4096) (hcr : count = 0 ∨ S.L.record ≠ 0) (hsz : S.L.size count < 8192) (ha : addr + (S.L.size count + 1) ≤ S.C * S.Wd) (ho : Owned S.own S.Wd addr (S.L.size count + 1)) :
    Calls Tryz.prog 90 #[.pointer (some ⟨A.m, 0, none⟩), .int .i64 addr, .agg #[.int .i64 1, .int .i64 count, .int .i64 i]] w fun e w' => e = .returned (.tuple #[.int .i64 (S.L.size count + 1 : Nat), .int .i64 0]) ∧ HeapF w' (grow F w w') A { S with ws := putAt S.ws addr (hdrN i count 1 :: List.replicate (S.L.size count) 0) } ∧ Only F w w' := by
  obtain ⟨G, H, hI, hG, hm, hput⟩ := h.setStore
  exact (imake_any addr count i w hI hm hc hi hcr hsz ha ho).mono fun e w' ⟨e1, e2, e3⟩ => ⟨e1, hput _ w' e2 e3⟩
theorem HeapF.bput (h : HeapF w F A S) (i : Nat) (hl : S.mine.length ≤ 900000) : Calls Tryz.prog 91 #[.pointer (some ⟨A.bg, 0, none⟩), .int .i64 i] w fun e w' => e = .returned (.bool (!hasL S.mine i)) ∧ HeapF w' (grow F w w') A { S with mine := putL S.mine i } ∧ Only F w w' := by
  obtain ⟨G, hb, hG, hput⟩ := h.setBag
  exact (bputF_any i w hb hl).mono fun e w' ⟨e1, e2, e3⟩ => ⟨e1, hput _ w' e2 e3⟩
theorem HeapF.live (h : HeapF w F A S) {W : World} (hb : Below w.heap.size w W) : Calls Tryz.prog 53 #[.pointer (some ⟨A.tr, 0, none⟩), .int .i64 1] W fun e w' => e = .returned (.bool true) ∧ W = w' := by
  obtain ⟨G, hG, h1⟩ := (h.below hb).1.read 4
  obtain ⟨_, _, h2⟩ : TrF W G A tree1 := h1
  exact qlive_any 1 W h2
theorem HeapF.layout (h : HeapF w F A S) {W : World} (hb : Below w.heap.size w W) : Calls Tryz.prog 86 #[.pointer (some ⟨A.b, 0, none⟩), .int .i64 1] W fun e w' => ∃ v, e = .returned (.tuple #[v, .int .i64 0]) ∧ LayAt w' v S.L ∧ Below W.heap.size W w' := by
  obtain ⟨G, hG, h1⟩ := (h.below hb).1.read 2
  obtain ⟨h2, h3⟩ : Bk1 W G A.b S.L ∧ RightLay S.L := h1
  have k1 := risesN_len h3.refs h3.f
  have k2 := risesN_len h3.recs h3.r
  exact (lget_any W h2 (by omega) (by omega)).mono fun e w' ⟨v, e1, e2, e3⟩ => ⟨v, e1, e2.at, e3⟩
theorem HeapF.left (h : HeapF w F A S) {y : Sl} {i : Nat} (hy : S.sl[i]? = some y) (hu : y.used = false) {W : World} (hb : Below w.heap.size w W) : Calls Tryz.prog 15 #[.pointer (some ⟨A.t, 0, none⟩)] W fun e w' => ∃ k : Nat, e = .returned (.int .i64 (k + 1 : Nat)) ∧ Drawn W w' := by
  obtain ⟨G, ht, -⟩ := (h.below hb).table
  refine (tleft_any W ht).mono ?_
  rintro e w' ⟨rfl, hd⟩
  obtain ⟨tb, m, Fm, ht, -⟩ := ht
  have hik : i < S.K := by rw [← ht.len]; exact (List.getElem?_eq_some_iff.1 hy).1
  have := cntB_lt (B := usedB S.sl) hik (by unfold usedB; simp [List.getD, hy, hu])
  exact ⟨S.K - cntB (usedB S.sl) S.K - 1, by congr 2; omega, hd⟩
def mkS (S : HS) (i gen addr count : Nat) : HS := { S with sl := S.sl.set i ⟨gen, true, addr, 1, true, false⟩, ws := putAt S.ws addr (hdrN i count 1 :: List.replicate (S.L.size count) 0), mine := putL S.mine i }
end Go.Proofs.YtcdpnfchmpncjaaGreatDoor
namespace Go.Proofs.YtcdpnfchmpncjaaGreatDoor
open Go.RowKit Go.Tr Go.Shelf
variable {w w' : World} {F G : Nat → Prop} {A : Ad} {S S1 : HS}
set_option maxRecDepth 100000 in
set_option maxHeartbeats 4000000 in
theorem cmake_any {y : Sl} {i count : Nat} (w : World) (h : HeapF w F A S) (hrt : RightLay S.L) (hroom : RoomOk S (S.L.size count + 1)) (hy : S.sl[i]? = some y) (hu : y.used = false) (hlow : ∀ j, j < i → usedB S.sl j = true) (hg : y.gen ≤ 255) (hc : count ≤ 1024) (hi : i < 4096) (hcr : count = 0 ∨ S.L.record ≠ 0) (hsz : S.L.size count < 8192)
    (hml : S.mine.length ≤ 900000) (hok : ∀ addr S1, AllocSt S (S.L.size count + 1) addr S1 → addr + (S.L.size count + 1) ≤ S.C * S.Wd ∧ Owned S1.own S.Wd addr (S.L.size count + 1)) :
    Calls Tryz.prog 37 #[.pointer (some ⟨A.c, 0, none⟩), .int .i64 1, .int .i64 1, .int .i64 count] w fun e w' => e = .returned (.tuple #[.agg #[.int .i64 i, .int .i64 (y.gen + 1 : Nat)], .int .i64 0]) ∧ ∃ addr S1, AllocSt S (S.L.size count + 1) addr S1 ∧ HeapF w' (grow F w w') A (mkS S1 i (y.gen + 1) addr count) ∧ Only F w w' := by
  have HF := Lib.hid (fun W (hb : Below w.heap.size w W) => h.fields hb)
  have HLV := Lib.hid (fun W (hb : Below w.heap.size w W) => h.live hb)
  have HLY := Lib.hid (fun W (hb : Below w.heap.size w W) => h.layout hb)
  have HLF := Lib.hid (fun W (hb : Below w.heap.size w W) => h.left hy hu hb)
  have HLS := Lib.hid (fun W (hb : Below w.heap.size w W) => h.lookSpace hb)
  have HSZ : Hid (∀ v W, LayAt W v S.L → _) := fun v W (hv : LayAt W v S.L) => lsize_any count W hv hrt hc hcr hsz
  have HRUN := Lib.hid (Run.start h)
  have HLT := Lib.hid h.lt
  have HAL := Lib.hid (fun W (hr : HeapF W F A S) => hr.alloc hroom)
  obtain ⟨z, hz⟩ : ∃ z, z = S.L.size count := ⟨_, rfl⟩
  rw [← hz] at hsz hok HSZ HAL ⊢
  rw [Int.natCast_succ] at HAL
  have HADD : Hid (∀ W F1 S1 addr, AllocSt S (z + 1) addr S1 → HeapF W F1 A S1 → Calls Tryz.prog 89 #[.pointer (some ⟨A.t, 0, none⟩), .agg #[.int .i64 addr, .int .i64 1, .bool true, .bool false]] W fun e w' => e = .returned (.tuple #[.agg #[.int .i64 i, .int .i64 (y.gen + 1 : Nat)], .int .i64 0]) ∧ HeapF w' (grow F1 W w') A { S1 with sl := S1.sl.set i ⟨y.gen + 1, true, addr, 1, true, false⟩ } ∧ Only F1 W w') := fun W F1 S1 addr ha hr => by
    have e : S1.sl = S.sl := by rcases ha with ⟨_, _, e⟩ | ⟨_, c, q, _, _, _, _, e⟩ <;> rw [e]
    exact hr.add addr (by rw [e]; exact hy) hu (by rw [e]; exact hlow) hg
  have HIM : Hid (∀ W F1 S1 addr (sl : List Sl), AllocSt S (z + 1) addr S1 → HeapF W F1 A { S1 with sl := sl } → Calls Tryz.prog 90 #[.pointer (some ⟨A.m, 0, none⟩), .int .i64 addr, .agg #[.int .i64 1, .int .i64 count, .int .i64 i]] W fun e w' => e = .returned (.tuple #[.int .i64 (z + 1 : Nat), .int .i64 0]) ∧ HeapF w' (grow F1 W w') A { S1 with sl := sl, ws := putAt S1.ws addr (hdrN i count 1 :: List.replicate (S1.L.size count) 0) } ∧ Only F1 W w') := fun W F1 S1 addr sl ha hr => by
    have e : S1.L = S.L ∧ S1.C = S.C ∧ S1.Wd = S.Wd := by rcases ha with ⟨_, _, e⟩ | ⟨_, c, q, _, _, _, _, e⟩ <;> rw [e] <;> exact ⟨rfl, rfl, rfl⟩
    obtain ⟨o1, o2⟩ := hok addr S1 ha
    have := hr.imake (addr := addr) (count := count) (i := i) hc hi (by simpa [e.1] using hcr) (by simp [e.1, ← hz]; exact hsz) (by simp [e.1, e.2.1, e.2.2, ← hz]; exact o1) (by simp [e.1, e.2.2, ← hz]; exact o2)
    simp only [e.1, ← hz] at this ⊢
    exact this
  have HPT : Hid (∀ W F1 S1 addr (sl : List Sl) (ws : List Nat), AllocSt S (z + 1) addr S1 → HeapF W F1 A { S1 with sl := sl, ws := ws } → Calls Tryz.prog 91 #[.pointer (some ⟨A.bg, 0, none⟩), .int .i64 i] W fun e w' => e = .returned (.bool (!hasL S1.mine i)) ∧ HeapF w' (grow F1 W w') A { S1 with sl := sl, ws := ws, mine := putL S1.mine i } ∧ Only F1 W w') := fun W F1 S1 addr sl ws ha hr => by
    have e : S1.mine = S.mine := by rcases ha with ⟨_, _, e⟩ | ⟨_, c, q, _, _, _, _, e⟩ <;> rw [e]
    exact hr.bput i (by simp [e]; exact hml)
  have HF1 := Lib.hid (fun W F1 S1 (hr : HeapF W F1 A S1) => hr.fields (Below.refl _ _))
  have HLM := Lib.hid (fun W F1 S1 (hr : HeapF W F1 A S1) => hr.lookMine (Below.refl _ _))
  obtain ⟨g1, hg1⟩ : ∃ g1, g1 = y.gen + 1 := ⟨_, rfl⟩
  rw [← hg1] at HADD ⊢
  have HB0 : Hid (Below w.heap.size w (w.alloc (.cells #[.int .i64 0, .int .i64 0] 38))) := (Below.refl _ w).alloc (Nat.le_refl _) _
  obtain ⟨rb, hrb⟩ : ∃ rb, rb = w.heap.size := ⟨_, rfl⟩
  have HR0 : Hid ((w.alloc (.cells #[.int .i64 0, .int .i64 0] 38)).heap[rb]? = some (.cells #[.int .i64 0, .int .i64 0] 38 (0, 0))) := by rw [hrb]; exact heap_alloc_new w _
  have HRE : Hid (w.heap.size ≤ rb) := Nat.le_of_eq hrb.symm
  obtain ⟨-, -, -, -, c4, -⟩ := HF.out _ HB0.out
  clear h hrt hroom hy hu hlow hg hc hi hcr hml hok hz hg1
  go_enter Tryz.func37, Tryz.ntmps37
  go_wp2_with fail
  rw [← hrb]
  clear hrb c4
  generalize w.alloc (.cells #[.int .i64 0, .int .i64 0] 38) = wa at *
  refine (HLV.out wa HB0.out).mono ?_
  rintro e w1 ⟨rfl, rfl⟩
  obtain ⟨-, c1, -⟩ := HF.out _ HB0.out
  go_wp2_with fail
  refine (HLY.out wa HB0.out).mono ?_
  rintro e w1 ⟨v, rfl, hlay, hb1⟩
  obtain ⟨fx, l1, rx, l2, a1, n1, a2, n2, rfl⟩ : ∃ (fx l1 rx l2 : Nat) (a1 : Option Addr) (n1 : Nat) (a2 : Option Addr) (n2 : Nat), v = .agg #[.int .i64 fx, .slice a1 l1 n1, .int .i64 rx, .slice a2 l2 n2] := by
    obtain ⟨a1, n1, a2, n2, rfl, -, -⟩ := hlay
    exact ⟨_, _, _, _, a1, n1, a2, n2, rfl⟩
  have hb1' : Below wa.heap.size wa (w1.alloc (.cells #[.int .i64 fx, .slice a1 l1 n1, .int .i64 rx, .slice a2 l2 n2] 60)) := hb1.alloc hb1.size _
  have HB1 : Hid (Below w.heap.size w (w1.alloc (.cells #[.int .i64 fx, .slice a1 l1 n1, .int .i64 rx, .slice a2 l2 n2] 60))) := HB0.out.trans (hb1'.mono HB0.out.size)
  have HR1 := Lib.hid (seqAt_fields HR0.out hb1')
  have HLAY : Hid (LayAt (w1.alloc (.cells #[.int .i64 fx, .slice a1 l1 n1, .int .i64 rx, .slice a2 l2 n2] 60)) (.agg #[.int .i64 fx, .slice a1 l1 n1, .int .i64 rx, .slice a2 l2 n2]) S.L) := hlay.kept ((Below.refl _ w1).alloc (Nat.le_refl _) _)
  clear hb1 hb1' hlay c1
  go_wp2_with fail
  generalize w1.alloc (.cells #[.int .i64 fx, .slice a1 l1 n1, .int .i64 rx, .slice a2 l2 n2] 60) = wb at *
  refine (HSZ.out _ wb HLAY.out).mono ?_
  rintro e w2 ⟨rfl, hb2⟩
  have HB2 : Hid (Below w.heap.size w w2) := HB1.out.trans (hb2.mono HB1.out.size)
  have HR2 := Lib.hid (seqAt_fields HR1.out hb2)
  obtain ⟨-, -, -, c3, -⟩ := HF.out _ HB2.out
  clear hb2
  go_wp2_with fail
  refine (HLF.out w2 HB2.out).mono ?_
  rintro e w3 ⟨k, rfl, hd⟩
  have HB3 : Hid (Below w.heap.size w w3) := HB2.out.trans (hd.below _)
  have HR3 := Lib.hid (seqAt_fields HR2.out (hd.below _))
  obtain ⟨-, -, -, -, -, -, c6, -⟩ := HF.out _ HB3.out
  have hk0 : ((k + 1 : Nat) : Int) ≠ 0 := by omega
  have hk1 : (((k + 1 : Nat) : Int) == 0) = false := by simp; omega
  clear hd c3
  go_wp2_with (first
    | (refine list_look (.tmp 65) (.tmp 66) 53 rfl _ _ _ rfl rfl (HLS.out _ HB3.out) ?_)
    | fail)
  refine (HAL.out w3 (HRUN.out.below HB3.out).heap).mono ?_
  rintro e w4 ⟨addr, S1, rfl, ha, h4⟩
  have HA := Lib.hid ha
  have HRN4 := Lib.hid ((HRUN.out.below HB3.out).op h4)
  have HR4 : Hid (Bx w4 (grow F w3 w4) rb (.cells #[.int .i64 0, .int .i64 0] 38 (0, 0))) := Bx.op ⟨fun hf => by have := HLT.out rb hf; have := HRE.out; omega, HR3.out⟩ h4.2
  obtain ⟨F4, hF4⟩ : ∃ F4, F4 = grow F w3 w4 := ⟨_, rfl⟩
  rw [← hF4] at HRN4 HR4
  obtain ⟨-, -, -, c3, -⟩ := HF1.out _ _ _ HRN4.out.heap
  clear ha h4 hF4 hk0 hk1 c6
  go_wp2_with fail
  refine (HADD.out w4 F4 S1 addr HA.out HRN4.out.heap).mono ?_
  rintro e w5 ⟨rfl, h5⟩
  have HRN5 := Lib.hid ((HRN4.out.op h5).below ((Below.refl _ w5).alloc (Nat.le_refl _) (.cells #[.int .i64 i, .int .i64 g1] 38)))
  have HR5 := Lib.hid ((HR4.out.op h5.2).below ((Below.refl _ w5).alloc (Nat.le_refl _) (.cells #[.int .i64 i, .int .i64 g1] 38)))
  have HT5 : Hid (Bx (w5.alloc (.cells #[.int .i64 i, .int .i64 g1] 38)) (grow F4 w4 w5) w5.heap.size (.cells #[.int .i64 i, .int .i64 g1] 38 (0, 0))) := Bx.new h5.1.lt
  obtain ⟨F5, hF5⟩ : ∃ F5, F5 = grow F4 w4 w5 := ⟨_, rfl⟩
  rw [← hF5] at HRN5 HR5 HT5
  obtain ⟨tb, htb⟩ : ∃ tb, tb = w5.heap.size := ⟨_, rfl⟩
  rw [← htb] at HT5
  clear h5 hF5 c3
  go_wp2_with fail
  rw [← htb]
  clear htb
  generalize w5.alloc (.cells #[.int .i64 i, .int .i64 g1] 38) = w6 at *
  obtain ⟨-, -, c2, -⟩ := HF1.out _ _ _ HRN5.out.heap
  have HT6 := Lib.hid HT5.out.2
  have t0 := (cells_of_block HT6.out 0).1
  have t1 := (cells_of_block HT6.out 1).1
  simp at t0 t1
  go_still_tail 10, (by kernel_rfl)
  have HRN6 := Lib.hid (HRN5.out.below (Below.refl _ _).drew)
  have HR6 := Lib.hid (HR5.out.below (Below.refl _ _).drew)
  have HT7 := Lib.hid (HT5.out.below (Below.refl _ _).drew)
  change wpList _ _ _ _ _ w6.drew
  clear c2 t0 t1 HT6
  generalize w6.drew = w7 at *
  go_wp2_with fail
  refine (HIM.out w7 F5 S1 addr _ HA.out HRN6.out.heap).mono ?_
  rintro e w8 ⟨rfl, h8⟩
  have HRN8 := Lib.hid (HRN6.out.op h8)
  have HR8 := Lib.hid (HR6.out.op h8.2)
  have HT8 := Lib.hid (HT7.out.op h8.2)
  obtain ⟨F8, hF8⟩ : ∃ F8, F8 = grow F5 w7 w8 := ⟨_, rfl⟩
  rw [← hF8] at HRN8 HR8 HT8
  obtain ⟨-, -, -, -, -, -, -, c7⟩ := HF1.out _ _ _ HRN8.out.heap
  have HT9 := Lib.hid HT8.out.2
  have t0 := (cells_of_block HT9.out 0).1
  have t1 := (cells_of_block HT9.out 1).1
  simp at t0 t1
  clear h8 hF8
  go_wp2_with fail
  go_still_tail 8, (by kernel_rfl)
  refine still_look (.tmp 102) (.tmp 103) 54 rfl _ _ _ rfl rfl (HLM.out _ _ _ (HRN8.out.below (Below.refl _ _).drew).heap) ?_
  repeat still_step
  refine wpStill_nil ?_
  have HRN9 := Lib.hid (HRN8.out.below (Below.refl _ _).drew)
  have HR9 := Lib.hid (HR8.out.below (Below.refl _ _).drew)
  have HT10 := Lib.hid (HT8.out.below (Below.refl _ _).drew)
  change wpList _ _ _ _ _ w8.drew
  clear c7 t0 t1 HT9
  generalize w8.drew = w9 at *
  go_wp2_with fail
  refine (HPT.out w9 F8 S1 addr _ _ HA.out HRN9.out.heap).mono ?_
  rintro e w10 ⟨rfl, h10⟩
  have HRN11 := Lib.hid (HRN9.out.op h10)
  have HR11 := Lib.hid (HR9.out.op h10.2)
  have HT11 := Lib.hid (HT10.out.op h10.2)
  have HT12 := Lib.hid HT11.out.2
  have HR12 := Lib.hid HR11.out.2
  have t0 := (cells_of_block HT12.out 0).1
  have t1 := (cells_of_block HT12.out 1).1
  simp at t0 t1
  have r0 := cells_of_block HR12.out 0
  have r1 := cells_of_block HR12.out 1
  simp at r0 r1
  obtain ⟨r0, q0⟩ := r0
  obtain ⟨r1, q1⟩ := r1
  clear h10
  go_wp2_with fail
  have e := HRE.out
  have hn := HR11.out.1
  try simp only [Exit.inBlock, Exit.then]
  have hbk : ((w10.setCell ⟨rb, 0, none⟩ (.int .i64 i)).setCell ⟨rb, 1, none⟩ (.int .i64 g1)).heap[rb]? = some (.cells #[.int .i64 i, .int .i64 g1] 38 (0, 0)) := by
    simpa using block_setCell (block_setCell (HR12.out) 0 (.int .i64 i)) 1 (.int .i64 g1)
  exact bodyPost_ret (results_blk rfl _ _ rb _ _ _ _ rfl hbk Tryz.underlying38 rfl rfl) rfl ⟨rfl, addr, S1, HA.out, ((HRN11.out.loc e hn).loc e hn).fin HLT.out⟩
end Go.Proofs.YtcdpnfchmpncjaaGreatDoor
