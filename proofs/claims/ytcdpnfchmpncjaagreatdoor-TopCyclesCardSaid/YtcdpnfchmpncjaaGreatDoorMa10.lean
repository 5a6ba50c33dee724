/-
  Parts of the proof, one behind the other: KBump4, KBump5.
-/
import Derived.Test.YtcdpnfchmpncjaaGreatDoorMa9
set_option linter.unusedSimpArgs false
set_option linter.unusedVariables false
namespace Go.Tr
open Go.RowKit
variable {T : TypeId} {w w1 : World} {F G : Nat → Prop} {g s o a en : Nat} {ps : List (Nat × Nat)}
theorem SpF.at2 (h : SpF T w F g s o ps a en) (x y : Nat) : SpF T ((w.setCell ⟨g, 3, none⟩ (.int .i64 (x : Nat))).setCell ⟨g, 4, none⟩ (.int .i64 (y : Nat))) F g s o ps x y := by
  obtain ⟨h1, pv, h2, h3, h4⟩ := h
  refine ⟨h1, pv, ?_, h3.kept (fun k hk => (Below.heap_setCell _ _ _ _ (h4 k hk).2).trans (Below.heap_setCell _ _ _ _ (h4 k hk).2)), h4⟩
  simpa using block_setCell (block_setCell h2 3 (.int .i64 (x : Nat))) 4 (.int .i64 (y : Nat))
theorem SpF.at1 (h : SpF T w F g s o ps a en) (x : Nat) : SpF T (w.setCell ⟨g, 3, none⟩ (.int .i64 (x : Nat))) F g s o ps x en := by
  obtain ⟨h1, pv, h2, h3, h4⟩ := h
  refine ⟨h1, pv, ?_, h3.kept (fun k hk => Below.heap_setCell _ _ _ _ (h4 k hk).2), h4⟩
  simpa using block_setCell h2 3 (.int .i64 (x : Nat))
end Go.Tr
namespace Go.Proofs.YtcdpnfchmpncjaaGreatDoor
open Go.RowKit Go.Tr Go.Shelf
variable {w w' : World} {F G : Nat → Prop} {g s o a en C Wd : Nat} {ps : List (Nat × Nat)} {ws own : List Nat}
set_option maxRecDepth 100000 in
theorem uallocR_any (n : Nat) (w : World) (h : SpF 154 w F g s o ps a en) (hn : 1 ≤ n) (h1 : a + n ≤ en) (h2 : en ≤ 1048576) : Calls Tryz.prog 88 #[.pointer (some ⟨g, 0, none⟩), .int .i64 n] w fun e w' => e = .returned (.tuple #[.int .i64 (a : Nat), .int .i64 0]) ∧ SpF 154 w' F g s o ps (a + n) en ∧ Only F w w' ∧ w'.heap.size = w.heap.size := by
  have HR := Lib.hid (uroom_any w h (by omega) h2)
  obtain ⟨pa, pc, -, -, -, c3, -, -⟩ := h.head
  obtain ⟨-, pv, hb, -⟩ := id h
  have f3 := (cells_of_block hb 3).2
  have HS := Lib.hid (h.at1 (a + n))
  have HFG : Hid (F g) := h.1
  clear h hb
  obtain ⟨r, hr⟩ : ∃ r, r = en - a := ⟨_, rfl⟩
  have hnr : (n : Int) ≤ (r : Int) := by omega
  rw [← hr] at HR
  clear hr
  go_enter Tryz.func88, Tryz.ntmps88
  go_wp2_with fail
  refine HR.out.mono ?_
  rintro e w1 ⟨rfl, q, rfl⟩
  have e1 : ((a : Int) + (n : Int) - (n : Int)) = (a : Int) := by omega
  go_wp2_with fail
  go_ret2
  refine ⟨rfl, ?_, ?_, by simp [World.setCell]⟩
  · have := HS.out
    rw [Int.natCast_add] at this
    exact this
  · exact ((Only.refl F w).drawn ⟨q, rfl⟩).setCell (p := ⟨g, 3, none⟩) (Or.inl HFG.out) _
def AllocP (F G : Nat → Prop) (g s o C Wd n q a en : Nat) (ps : List (Nat × Nat)) (ws own : List Nat) (w : World) (e : Ending) (w' : World) : Prop :=
  ∃ c, e = .returned (.tuple #[.int .i64 (c * Wd : Nat), .int .i64 0]) ∧ c + (q + 1) ≤ C ∧ (∀ i, c ≤ i → i < c + (q + 1) → own.getD i 0 = 0) ∧
    SpF 154 w' (grow F w w') g s o (ps ++ [(c, q + 1)]) (if q = 0 then c * Wd + n else a) (if q = 0 then (c + 1) * Wd else en) ∧
    StF w' G s C Wd (putAt ws (c * Wd) (List.replicate ((q + 1) * Wd) 0)) (putAt own c (List.replicate (q + 1) o)) ∧ Only (fun k => F k ∨ G k) w w'
set_option maxRecDepth 100000 in
theorem uallocN_any (n q : Nat) (w : World) (h : SpF 154 w F g s o ps a en) (hS : StF w G s C Wd ws own) (hd : ∀ k, F k → ¬ G k) (hT : Tz w) (hq : q = (n - 1) / Wd) (hn : 1 ≤ n) (hn2 : n ≤ 1048576) (h0 : a ≤ en) (h1 : en < a + n) (h2 : en ≤ 1048576) (ho : 1 ≤ o) (ho2 : o ≤ 9223372036854775807) (hl : ps.length ≤ 100000)
    (hfree : ∃ c, c + (q + 1) ≤ C ∧ ∀ i, c ≤ i → i < c + (q + 1) → own.getD i 0 = 0) : Calls Tryz.prog 88 #[.pointer (some ⟨g, 0, none⟩), .int .i64 n] w fun e w' => AllocP F G g s o C Wd n q a en ps ws own w e w' := by
  obtain ⟨i0, hi, hz0, hz1, hz2⟩ := info_parts infoPart
  have HR := Lib.hid (uroom_any w h h0 h2)
  have HH := Lib.hid h
  have HST := Lib.hid hS
  have HD := Lib.hid hd
  have HTZ := Lib.hid hT
  have HFR := Lib.hid hfree
  obtain ⟨wb, ob, m, Fm, hst, -⟩ := id hS
  obtain ⟨hc1, hc2⟩ := hst.cb
  obtain ⟨hw1, hw2⟩ := hst.wd
  obtain ⟨pa, pc, c0, c1, c2, -, -, -⟩ := h.head
  have hqb : q ≤ n - 1 := by rw [hq]; exact Nat.div_le_self _ _
  have hqi : ((n : Int) - 1) / (Wd : Int) = (q : Int) := by
    rw [hq, show (n : Int) - 1 = ((n - 1 : Nat) : Int) by omega]; push_cast; rfl
  have hwz : ¬ ((Wd : Int) = 0) := by omega
  have HQ := Lib.hid hq
  clear h hst hS hd hT hfree hq
  obtain ⟨r, hr⟩ : ∃ r, r = en - a := ⟨_, rfl⟩
  have hnr : ¬ (n : Int) ≤ (r : Int) := by omega
  rw [← hr] at HR
  clear hr
  go_enter Tryz.func88, Tryz.ntmps88
  go_wp2_with fail
  refine HR.out.mono ?_
  rintro e w1 ⟨rfl, q1, rfl⟩
  go_wp2_with fail
  refine (swords_any (w.drewN q1) (HST.out.kept (fun _ _ _ => rfl))).mono ?_
  rintro e w' ⟨rfl, rfl⟩
  go_wp2_with fail
  refine wp_region_held_drew (S := fun W => W.cell? ⟨g, 0, none⟩ = some (.pointer (some ⟨s, 0, none⟩)) ∧ W.cell? ⟨g, 1, none⟩ = some (.int .i64 o)) (by kernel_rfl) ⟨c0, c1⟩ (fun hH => ?_)
  refine takeH 0 (v := ?_) rfl (by kernel_rfl) (by kernel_rfl) (by kernel_rfl) (fun _ _ _ h => h) (by rfl) ?_ (by assumption) ?_
  rotate_left
  · intro W hW
    go_simp
    try with_reducible rfl
  try simp only [Act.put, List.setIfInBounds_toArray, List.set_cons_zero, List.set_cons_succ]
  refine takeH 1 (v := ?_) rfl (by kernel_rfl) (by kernel_rfl) (by kernel_rfl) (fun _ _ _ h => h) (by rfl) ?_ (by assumption) ?_
  rotate_left
  · intro W hW
    go_simp
    try with_reducible rfl
  try simp only [Act.put, List.setIfInBounds_toArray, List.set_cons_zero, List.set_cons_succ]
  refine takeH 2 (v := ?_) rfl (by kernel_rfl) (by kernel_rfl) (by kernel_rfl) (fun _ _ _ h => h) (by rfl) ?_ (by assumption) ?_
  rotate_left
  · intro W hW
    go_simp
    try with_reducible rfl
  try simp only [Act.put, List.setIfInBounds_toArray, List.set_cons_zero, List.set_cons_succ]
  refine takeH 3 (v := ?_) rfl (by kernel_rfl) (by kernel_rfl) (by kernel_rfl) (fun _ _ _ h => h) (by rfl) ?_ (by assumption) ?_
  rotate_left
  · intro W hW
    go_simp
    try with_reducible rfl
  try simp only [Act.put, List.setIfInBounds_toArray, List.set_cons_zero, List.set_cons_succ]
  refine takeH 4 (v := ?_) rfl (by kernel_rfl) (by kernel_rfl) (by kernel_rfl) (fun _ _ _ h => h) (by rfl) ?_ (by assumption) ?_
  rotate_left
  · intro W hW
    go_simp
    try with_reducible rfl
  try simp only [Act.put, List.setIfInBounds_toArray, List.set_cons_zero, List.set_cons_succ]
  refine takeH 5 (v := ?_) rfl (by kernel_rfl) (by kernel_rfl) (by kernel_rfl) (fun _ _ _ h => h) (by rfl) ?_ (by assumption) ?_
  rotate_left
  · intro W hW
    go_simp
    try with_reducible rfl
  try simp only [Act.put, List.setIfInBounds_toArray, List.set_cons_zero, List.set_cons_succ]
  refine takeH 6 (v := ?_) rfl (by kernel_rfl) (by kernel_rfl) (by kernel_rfl) (fun _ _ _ h => h) (by rfl) ?_ (by assumption) ?_
  rotate_left
  · intro W hW
    go_simp
    try with_reducible rfl
  try simp only [Act.put, List.setIfInBounds_toArray, List.set_cons_zero, List.set_cons_succ]
  refine takeH 7 (v := ?_) rfl (by kernel_rfl) (by kernel_rfl) (by kernel_rfl) (fun _ _ _ h => h) (by rfl) ?_ (by assumption) ?_
  rotate_left
  · intro W hW
    go_simp
    try with_reducible rfl
  try simp only [Act.put, List.setIfInBounds_toArray, List.set_cons_zero, List.set_cons_succ]
  refine takeH 8 (v := ?_) rfl (by kernel_rfl) (by kernel_rfl) (by kernel_rfl) (fun _ _ _ h => h) (by rfl) ?_ (by assumption) ?_
  rotate_left
  · intro W hW
    go_simp
    try with_reducible rfl
  try simp only [Act.put, List.setIfInBounds_toArray, List.set_cons_zero, List.set_cons_succ]
  refine wpAnyH_ready (rs := [9]) (by kernel_rfl) (by simp) (readyH rfl (fun K hK => ?_) AllReadyH.nil)
  rw [if_pos (by rfl)]
  go_simp
  refine (stake_any o (q + 1) (w.drewN (q1 + 1)) (HST.out.kept (fun _ _ _ => rfl)) HTZ.out ho ho2 (by omega) (by omega)).mono ?_
  rintro e w2 ⟨hp, hon, hsz⟩
  rcases hp with ⟨c, rfl, hcC, hoff, hst⟩ | ⟨-, -, hno⟩
  · have hg2 : w2.heap[g]? = w.heap[g]? := hon.block g HH.out.lt (HD.out g HH.out.1)
    have HH2 : Hid (SpF 154 w2 F g s o ps a en) := HH.out.kept (fun k hf hl => hon.block k hl (HD.out k hf))
    have HO2 : Hid (Only G w w2) := hon.undrew
    have HZ2 : Hid (w2.heap.size = w.heap.size) := hsz
    have HST2 := Lib.hid hst
    have HOFF := Lib.hid hoff
    obtain ⟨hfg, pv2, hb2, how2, hob2⟩ := id HH2.out
    obtain ⟨pa2, pc2, rfl, -, -, -⟩ := how2.seq
    have d0 := (cells_of_block hb2 0).1
    have d1 := (cells_of_block hb2 1).1
    have d2 := (cells_of_block hb2 2).1
    simp at d0 d1 d2
    obtain ⟨lp, hlp⟩ : ∃ lp, lp = ps.length := ⟨_, rfl⟩
    rw [← hlp] at d2 hl how2 hob2 hb2
    have HLP := Lib.hid hlp
    have HW2 := Lib.hid how2
    have HB2 := Lib.hid hb2
    have HOB2 := Lib.hid hob2
    have HFG := Lib.hid hfg
    clear hon hsz hst hoff hg2 how2 hb2 hob2 hlp hfg
    refine hK.out _ _ ⟨d0, d1⟩ (fun hH => ?_)
    clear hK K
    try simp only [Act.put, List.setIfInBounds_toArray, List.set_cons_zero, List.set_cons_succ]
    refine takeH 10 (v := ?_) rfl (by kernel_rfl) (by kernel_rfl) (by kernel_rfl) (fun _ _ _ h => h) (by rfl) ?_ (by assumption) ?_
    rotate_left
    · intro W hW
      go_simp
      try with_reducible rfl
    try simp only [Act.put, List.setIfInBounds_toArray, List.set_cons_zero, List.set_cons_succ]
    refine takeH 11 (v := ?_) rfl (by kernel_rfl) (by kernel_rfl) (by kernel_rfl) (fun _ _ _ h => h) (by rfl) ?_ (by assumption) ?_
    rotate_left
    · intro W hW
      go_simp
      try with_reducible rfl
    try simp only [Act.put, List.setIfInBounds_toArray, List.set_cons_zero, List.set_cons_succ]
    refine takeH 12 (v := ?_) rfl (by kernel_rfl) (by kernel_rfl) (by kernel_rfl) (fun _ _ _ h => h) (by rfl) ?_ (by assumption) ?_
    rotate_left
    · intro W hW
      go_simp
      try with_reducible rfl
    try simp only [Act.put, List.setIfInBounds_toArray, List.set_cons_zero, List.set_cons_succ]
    refine takeH 13 (v := ?_) rfl (by kernel_rfl) (by kernel_rfl) (by kernel_rfl) (fun _ _ _ h => h) (by rfl) ?_ (by assumption) ?_
    rotate_left
    · intro W hW
      go_simp
      try with_reducible rfl
    try simp only [Act.put, List.setIfInBounds_toArray, List.set_cons_zero, List.set_cons_succ]
    refine takeH 14 (v := ?_) rfl (by kernel_rfl) (by kernel_rfl) (by kernel_rfl) (fun _ _ _ h => h) (by rfl) ?_ (by assumption) ?_
    rotate_left
    · intro W hW
      go_simp
      try with_reducible rfl
    try simp only [Act.put, List.setIfInBounds_toArray, List.set_cons_zero, List.set_cons_succ]
    refine wpAnyH_done (by kernel_rfl) ?_ _
    go_wp2_with (first
      | (at_builtin; refine wpList_appendO _ rfl (.tmp 65) (.tmp 69) 152 rfl 199 i0 _ 2 16 Tryz.underlying152 hi hz0 hz1 hz2 rfl (by decide) (.slice pa2 lp pc2) lp (pcells ps) rfl (HW2.out.kept (fun k hk => Below.heap_alloc _ _ _ (HW2.out.lt k hk))) ⟨w2.heap.size, 0, none⟩ 1 1 [.int .i64 (c : Int), .int .i64 ((q : Int) + 1)] rfl rfl ?_ ?_ (by unfold maxLen; omega) (by omega) ?_)
      | fail)
    · intro j u hj
      rcases j with _ | _ | j
      · simp at hj; subst hj; simp [Addr.add]
      · simp at hj; subst hj; simp [Addr.add]
      · simp at hj
    · intro u hu; simp at hu; rcases hu with rfl | rfl <;> rfl
    · intro v4 w4 r1 r2 r3
      have hgl : g < w2.heap.size := (Array.getElem?_eq_some_iff.1 HB2.out).1
      have hlen : lp + 1 = (ps ++ [(c, q + 1)]).length := by rw [List.length_append, ← HLP.out]; rfl
      have hcells : pcells ps ++ [.int .i64 (c : Int), .int .i64 ((q : Int) + 1)] = pcells (ps ++ [(c, q + 1)]) := by rw [pcells_append]; rfl
      rw [hlen, hcells] at r1
      have hg4 : w4.heap[g]? = w2.heap[g]? := (r2.block g (by simp; omega) (fun e => (HOB2.out g e.symm).2 rfl)).trans (Below.heap_alloc _ _ _ hgl)
      have HO4 : Hid (Only F w2 w4) := ((Only.refl F w2).alloc _).grown r2 (fun k hk => Or.inl (HOB2.out k hk).1)
      have HN4 : Hid (∀ k, v4.ownBlock = some k → grow F w2 w4 k ∧ k ≠ g) := fun k hk => by
        rcases r3 k hk with h' | h'
        · exact ⟨Or.inl (HOB2.out k h').1, (HOB2.out k h').2⟩
        · have h1 := h'.1
          try simp at h1
          exact ⟨Or.inr ⟨by omega, h'.2⟩, by omega⟩
      have HP4 := Lib.hid (SpF.put (T := 154) HFG.out HO4.out (hg4.trans HB2.out) r1 HN4.out)
      obtain ⟨a4, cap4, rfl, -, -, -⟩ := r1.seq
      have HB4 := Lib.hid (hg4.trans HB2.out)
      have b2 := cells_of_block HB4.out 2
      have b3 := cells_of_block HB4.out 3
      have b4 := cells_of_block HB4.out 4
      simp at b3 b4
      simp at b2
      obtain ⟨b2, f2⟩ := b2
      obtain ⟨b3, f3⟩ := b3
      obtain ⟨b4, f4⟩ := b4
      clear r1 r2 r3 hlen hcells hg4
      have hcw : c * Wd + Wd ≤ 1048576 := by
        have := Nat.mul_le_mul (show c + 1 ≤ 1024 by omega) hw2
        rw [Nat.add_mul, Nat.one_mul] at this; exact this
      obtain ⟨m1, hm1⟩ : ∃ m1, m1 = c * Wd := ⟨_, rfl⟩
      have hx1 : (c : Int) * (Wd : Int) = (m1 : Int) := by rw [hm1]; push_cast; rfl
      have hx2 : ((c : Int) + 1) * (Wd : Int) = (m1 : Int) + (Wd : Int) := by rw [Int.add_mul, hx1, Int.one_mul]
      have HM1 := Lib.hid hm1
      rw [← hm1] at hcw
      clear hm1
      have HFIN : Hid (∀ W, Only F w4 W → W.heap.size = w4.heap.size → Only (fun k => F k ∨ G k) w W ∧ StF W G s C Wd (putAt ws (c * Wd) (List.replicate ((q + 1) * Wd) 0)) (putAt own c (List.replicate (q + 1) o)) ∧ ∀ k, grow F w2 W k → grow F w W k) := fun W hW hs => by
        have h1 : Only F w2 W := HO4.out.grow (hW.mono (fun k hk => Or.inl hk))
        refine ⟨(HO2.out.mono (fun k hk => Or.inr hk)).trans (h1.mono (fun k hk => Or.inl hk)) (fun k hk => Or.inl hk), HST2.out.kept (fun k hk hl => h1.block k hl (fun hf => HD.out k hf hk)), fun k hk => ?_⟩
        have := HZ2.out
        rcases hk with hk | hk
        · exact Or.inl hk
        · exact Or.inr ⟨by omega, hk.2⟩
      by_cases hq0 : q = 0
      · subst hq0
        go_wp2_with fail
        go_ret2
        have hsp := HP4.out.1.at2 (m1 + n) (m1 + Wd)
        have el : (ps ++ [(c, 0 + 1)]).length = ps.length + 1 := by simp
        rw [Int.natCast_add, Int.natCast_add, el] at hsp
        have hfin := HFIN.out (((w4.setCell ⟨g, 2, none⟩ (.slice a4 (ps.length + 1) cap4)).setCell ⟨g, 3, none⟩ (.int .i64 ((m1 : Int) + (n : Int)))).setCell ⟨g, 4, none⟩ (.int .i64 ((m1 : Int) + (Wd : Int)))) ((((Only.refl F w4).setCell (p := ⟨g, 2, none⟩) (Or.inl HFG.out) _).setCell (p := ⟨g, 3, none⟩) (Or.inl HFG.out) _).setCell (p := ⟨g, 4, none⟩) (Or.inl HFG.out) _) (by simp [World.setCell])
        refine ⟨c, by rw [← HM1.out]; rfl, hcC, HOFF.out, ?_, hfin.2.1, hfin.1⟩
        rw [if_pos rfl, if_pos rfl, ← HM1.out, show (c + 1) * Wd = m1 + Wd by rw [HM1.out, Nat.add_mul, Nat.one_mul]]
        refine hsp.mono (fun k hk => hfin.2.2 k ?_)
        unfold grow at hk ⊢
        simpa [World.setCell] using hk
      · have hq0' : ((q : Int) + 1 == 1) = false := by simp; omega
        go_wp2_with fail
        go_ret2
        have hfin := HFIN.out (w4.setCell ⟨g, 2, none⟩ (.slice a4 (ps.length + 1) cap4)) ((Only.refl F w4).setCell (p := ⟨g, 2, none⟩) (Or.inl HFG.out) _) (by simp [World.setCell])
        refine ⟨c, by rw [← HM1.out]; rfl, hcC, HOFF.out, ?_, hfin.2.1, hfin.1⟩
        rw [if_neg hq0, if_neg hq0]
        have hp4 := HP4.out.1
        have el : (ps ++ [(c, q + 1)]).length = ps.length + 1 := by simp
        rw [el] at hp4
        exact hp4.mono hfin.2.2
  · exact absurd HFR.out (fun ⟨c, h1, h2⟩ => by
      obtain ⟨i, h3, h4, h5⟩ := hno c h1
      exact h5 (h2 i h3 h4))
end Go.Proofs.YtcdpnfchmpncjaaGreatDoor
namespace Go.Tr
open Go.RowKit
theorem set_same {own : List Nat} {i o : Nat} (h : own.getD i 0 = o) (hl : i < own.length) : own.set i o = own := by
  apply List.ext_getElem?
  intro j
  rw [List.getElem?_set]
  by_cases e : i = j
  · subst e
    rw [if_pos rfl, if_pos hl, List.getElem?_eq_getElem hl]
    simp [List.getD, List.getElem?_eq_getElem hl] at h
    rw [h]
  · rw [if_neg e]
end Go.Tr
namespace Go.Proofs.YtcdpnfchmpncjaaGreatDoor
open Go.RowKit Go.Tr Go.Shelf
variable {w w' : World} {F G : Nat → Prop} {g s o a en C Wd : Nat} {ps : List (Nat × Nat)} {ws own : List Nat}
set_option maxRecDepth 100000 in
theorem uget_any (d m : Nat) (w : World) (h : SpF 154 w F g s o ps a en) (hS : StF w G s C Wd ws own) (hd : ∀ k, F k → ¬ G k) (hfs : ∀ k, F k → k < w.heap.size) (hgs : ∀ k, G k → k < w.heap.size) (ho : 1 ≤ o) (ho2 : o ≤ 9223372036854775807) (hl : ps.length ≤ 100000) (hm : d + m ≤ C) (hown : ∀ i, d ≤ i → i < d + m → own.getD i 0 = o) :
    Calls Tryz.prog 123 #[.pointer (some ⟨g, 0, none⟩), .agg #[.int .i64 d, .int .i64 m]] w fun e w' => e = .returned (.tuple #[]) ∧ SpF 154 w' (grow F w w') g s o (ps ++ [(d, m)]) a en ∧ StF w' G s C Wd ws own ∧ Only (fun k => F k ∨ G k) w w' := by
  obtain ⟨i0, hi, hz0, hz1, hz2⟩ := info_parts infoPart
  have HH := Lib.hid h
  have HD := Lib.hid hd
  have HGS := Lib.hid hgs
  have HFX : Hid (¬ F w.heap.size) := fun hf => by have := hfs _ hf; omega
  have HOWN := Lib.hid hown
  have HST := Lib.hid hS
  obtain ⟨wb, ob, mm, Fm, hst, -⟩ := id hS
  obtain ⟨hc1, hc2⟩ := hst.cb
  have holen := hst.olen
  have hgl := h.lt
  clear h hS hd hown hst hgs hfs
  obtain ⟨xb, hxb⟩ : ∃ xb, xb = w.heap.size := ⟨_, rfl⟩
  have HXB := Lib.hid hxb
  rw [← hxb] at HFX
  go_enter Tryz.func123, Tryz.ntmps123
  go_wp2_with fail
  rw [← hxb]
  have HBX : Hid ((w.alloc (.cells #[.int .i64 d, .int .i64 m] 199)).heap[xb]? = some (.cells #[.int .i64 d, .int .i64 m] 199 (0, 0))) := by rw [hxb]; exact heap_alloc_new _ _
  go_loopw [7] (fun i wr => ∃ j : Nat, j ≤ m ∧ i = .int .i64 (j : Int) ∧ Hid (StF wr G s C Wd ws own) ∧ Hid (Only G w wr) ∧ Hid (wr.heap[xb]? = some (.cells #[.int .i64 d, .int .i64 m] 199 (0, 0))) ∧ Hid (wr.heap.size = w.heap.size + 1) ∧ Hid (¬ G xb)) (fun i _ => m - (intOf i).toNat)
  case atStart =>
    exact ⟨0, Nat.zero_le _, rfl, HST.out.kept (fun k _ hl => Below.heap_alloc _ _ _ hl), (Only.refl G w).alloc _, HBX, by simp [Hid], fun hx => by have := HGS.out xb hx; omega⟩
  case round =>
    clear HBX hxb
    obtain ⟨j, hj, rfl, HSt, HO, HX, HZ, HGX⟩ := hrel
    have x0 := (cells_of_block HX.out 0).1
    have x1 := (cells_of_block HX.out 1).1
    simp at x0 x1
    have HHr : Hid (SpF 154 wr F g s o ps a en) := HH.out.kept (fun k hf hl => HO.out.block k hl (HD.out k hf))
    obtain ⟨hfg, pv2, hb2, how2, hob2⟩ := id HHr.out
    obtain ⟨pa2, pc2, rfl, -, -, -⟩ := how2.seq
    have d0 := (cells_of_block hb2 0).1
    have d1 := (cells_of_block hb2 1).1
    have d2 := (cells_of_block hb2 2).1
    simp at d0 d1 d2
    by_cases hjm : j < m
    · have hjm' : (j : Int) < (m : Int) := by omega
      clear hb2 how2 hob2 d2
      have hoj : own.getD (d + j) 0 = o := HOWN.out (d + j) (by omega) (by omega)
      have HGV : Hid (∀ W : World, W.heap = wr.heap → Calls Tryz.prog 170 #[.pointer (some ⟨s, 0, none⟩), .int .i64 ((d : Int) + (j : Int)), .int .i64 o] W fun e w' => e = .returned (.int .i64 0) ∧ StF w' G s C Wd ws own ∧ Only G W w' ∧ w'.heap.size = W.heap.size) := fun W e => by
        have := sgive_any (d + j) o W (HSt.out.kept (fun k _ _ => by rw [e])) (by omega) (by rw [hoj]; omega) ho ho2
        rw [Int.natCast_add, set_same hoj (by omega)] at this
        exact this
      clear hoj
      have hwr : IntKind.i64.wrap ((d : Int) + (j : Int)) = (d : Int) + (j : Int) := by rw [IntWalk.i64_in _ (by omega)]
      go_wp2_with fail
      refine wp_region_held_drew (S := fun W => W.cell? ⟨g, 0, none⟩ = some (.pointer (some ⟨s, 0, none⟩)) ∧ W.cell? ⟨g, 1, none⟩ = some (.int .i64 o) ∧ W.cell? ⟨xb, 0, none⟩ = some (.int .i64 d)) (by kernel_rfl) ⟨d0, d1, x0⟩ (fun hH => ?_)
      refine takeH 0 (v := ?_) rfl (by kernel_rfl) (by kernel_rfl) (by kernel_rfl) (fun _ _ _ h => h) (by rfl) ?_ (by assumption) ?_
      rotate_left
      · intro W hW
        go_simp
        try with_reducible rfl
      try simp only [Act.put, List.setIfInBounds_toArray, List.set_cons_zero, List.set_cons_succ]
      refine takeH 1 (v := ?_) rfl (by kernel_rfl) (by kernel_rfl) (by kernel_rfl) (fun _ _ _ h => h) (by rfl) ?_ (by assumption) ?_
      rotate_left
      · intro W hW
        go_simp
        try with_reducible rfl
      try simp only [Act.put, List.setIfInBounds_toArray, List.set_cons_zero, List.set_cons_succ]
      refine takeH 2 (v := ?_) rfl (by kernel_rfl) (by kernel_rfl) (by kernel_rfl) (fun _ _ _ h => h) (by rfl) ?_ (by assumption) ?_
      rotate_left
      · intro W hW
        go_simp
        try with_reducible rfl
      try simp only [Act.put, List.setIfInBounds_toArray, List.set_cons_zero, List.set_cons_succ]
      refine takeH 3 (v := ?_) rfl (by kernel_rfl) (by kernel_rfl) (by kernel_rfl) (fun _ _ _ h => h) (by rfl) ?_ (by assumption) ?_
      rotate_left
      · intro W hW
        go_simp
        try with_reducible rfl
      try simp only [Act.put, List.setIfInBounds_toArray, List.set_cons_zero, List.set_cons_succ]
      refine takeH 4 (v := ?_) rfl (by kernel_rfl) (by kernel_rfl) (by kernel_rfl) (fun _ _ _ h => h) (by rfl) ?_ (by assumption) ?_
      rotate_left
      · intro W hW
        go_simp
        try with_reducible rfl
      try simp only [Act.put, List.setIfInBounds_toArray, List.set_cons_zero, List.set_cons_succ]
      refine takeH 5 (v := ?_) rfl (by kernel_rfl) (by kernel_rfl) (by kernel_rfl) (fun _ _ _ h => h) (by rfl) ?_ (by assumption) ?_
      rotate_left
      · intro W hW
        go_simp
        try with_reducible rfl
      try simp only [Act.put, List.setIfInBounds_toArray, List.set_cons_zero, List.set_cons_succ]
      refine takeH 6 (v := ?_) rfl (by kernel_rfl) (by kernel_rfl) (by kernel_rfl) (fun _ _ _ h => h) (by rfl) ?_ (by assumption) ?_
      rotate_left
      · intro W hW
        go_simp
        try with_reducible rfl
      try simp only [Act.put, List.setIfInBounds_toArray, List.set_cons_zero, List.set_cons_succ]
      refine takeH 7 (v := ?_) rfl (by kernel_rfl) (by kernel_rfl) (by kernel_rfl) (fun _ _ _ h => h) (by rfl) ?_ (by assumption) ?_
      rotate_left
      · intro W hW
        go_simp
        try with_reducible rfl
      try simp only [Act.put, List.setIfInBounds_toArray, List.set_cons_zero, List.set_cons_succ]
      refine takeH 8 (v := ?_) rfl (by kernel_rfl) (by kernel_rfl) (by kernel_rfl) (fun _ _ _ h => h) (by rfl) ?_ (by assumption) ?_
      rotate_left
      · intro W hW
        go_simp
        try with_reducible rfl
      try simp only [Act.put, List.setIfInBounds_toArray, List.set_cons_zero, List.set_cons_succ]
      refine takeH 9 (v := ?_) rfl (by kernel_rfl) (by kernel_rfl) (by kernel_rfl) (fun _ _ _ h => h) (by rfl) ?_ (by assumption) ?_
      rotate_left
      · intro W hW
        go_simp
        try with_reducible rfl
      try simp only [Act.put, List.setIfInBounds_toArray, List.set_cons_zero, List.set_cons_succ]
      refine takeH 10 (v := ?_) rfl (by kernel_rfl) (by kernel_rfl) (by kernel_rfl) (fun _ _ _ h => h) (by rfl) ?_ (by assumption) ?_
      rotate_left
      · intro W hW
        go_simp
        try with_reducible rfl
      try simp only [Act.put, List.setIfInBounds_toArray, List.set_cons_zero, List.set_cons_succ]
      refine takeH 11 (v := ?_) rfl (by kernel_rfl) (by kernel_rfl) (by kernel_rfl) (fun _ _ _ h => h) (by rfl) ?_ (by assumption) ?_
      rotate_left
      · intro W hW
        go_simp
        try with_reducible rfl
      try simp only [Act.put, List.setIfInBounds_toArray, List.set_cons_zero, List.set_cons_succ]
      refine wpAnyH_ready (rs := [12]) (by kernel_rfl) (by simp) (readyH rfl (fun K hK => ?_) AllReadyH.nil)
      rw [if_pos (by rfl)]
      go_simp
      refine (HGV.out wr.drew rfl).mono ?_
      rintro e w2 ⟨rfl, hst2, hon2, hsz2⟩
      have HS2 := Lib.hid hst2
      have HO2 : Hid (Only G w w2) := HO.out.drew.trans hon2 (fun k hk => Or.inl hk)
      have hkx : w2.heap[xb]? = wr.heap[xb]? := hon2.block xb (Array.getElem?_eq_some_iff.1 HX.out).1 HGX.out
      have HX2 := Lib.hid (hkx.trans HX.out)
      have HZ2 : Hid (w2.heap.size = w.heap.size + 1) := hsz2.trans HZ.out
      have hkg : w2.heap[g]? = wr.heap[g]? := hon2.block g HHr.out.lt (HD.out g HH.out.1)
      have e0 := (World.cell?_of_block (a := ⟨g, 0, none⟩) hkg).trans d0
      have e1 := (World.cell?_of_block (a := ⟨g, 1, none⟩) hkg).trans d1
      have e2 := (World.cell?_of_block (a := ⟨xb, 0, none⟩) hkx).trans x0
      clear hst2 hon2 hsz2 hkx hkg
      refine hK.out _ _ ⟨e0, e1, e2⟩ (fun hH => ?_)
      clear hK K
      try simp only [Act.put, List.setIfInBounds_toArray, List.set_cons_zero, List.set_cons_succ]
      refine wpAnyH_done (by kernel_rfl) ?_ _
      go_wp2_with fail
      go_roundw
      case rel => exact ⟨j + 1, by omega, by go_num, HS2, HO2, HX2, HZ2, HGX⟩
      case measure => simp [intOf]; omega
    · have hjm' : ¬ (j : Int) < (m : Int) := by omega
      obtain ⟨lp, hlp⟩ : ∃ lp, lp = ps.length := ⟨_, rfl⟩
      rw [← hlp] at d2 hl how2 hob2 hb2
      have HLP := Lib.hid hlp
      have HW2 := Lib.hid how2
      have HB2 := Lib.hid hb2
      have HOB2 := Lib.hid hob2
      have HFG := Lib.hid hfg
      clear how2 hb2 hob2 hlp hfg d0 d1
      go_wp2_with fail
      refine wp_region_lastH (S := fun W => W.cell? ⟨g, 2, none⟩ = some (.slice pa2 lp pc2) ∧ W.cell? ⟨xb, 0, none⟩ = some (.int .i64 d) ∧ W.cell? ⟨xb, 1, none⟩ = some (.int .i64 m)) 10 (by kernel_rfl) (by kernel_rfl) ⟨d2, x0, x1⟩ (fun hH => ?_)
      simp only [lastOps, nop, List.modify_toArray, List.modify_succ_cons, List.modify_zero_cons]
      refine takeH 0 (v := ?_) rfl (by kernel_rfl) (by kernel_rfl) (by kernel_rfl) (fun _ _ _ h => h) (by rfl) ?_ (by assumption) ?_
      rotate_left
      · intro W hW
        go_simp
        try with_reducible rfl
      try simp only [Act.put, List.setIfInBounds_toArray, List.set_cons_zero, List.set_cons_succ]
      refine takeH 1 (v := ?_) rfl (by kernel_rfl) (by kernel_rfl) (by kernel_rfl) (fun _ _ _ h => h) (by rfl) ?_ (by assumption) ?_
      rotate_left
      · intro W hW
        go_simp
        try with_reducible rfl
      try simp only [Act.put, List.setIfInBounds_toArray, List.set_cons_zero, List.set_cons_succ]
      refine takeH 2 (v := ?_) rfl (by kernel_rfl) (by kernel_rfl) (by kernel_rfl) (fun _ _ _ h => h) (by rfl) ?_ (by assumption) ?_
      rotate_left
      · intro W hW
        go_simp
        try with_reducible rfl
      try simp only [Act.put, List.setIfInBounds_toArray, List.set_cons_zero, List.set_cons_succ]
      refine takeH 3 (v := ?_) rfl (by kernel_rfl) (by kernel_rfl) (by kernel_rfl) (fun _ _ _ h => h) (by rfl) ?_ (by assumption) ?_
      rotate_left
      · intro W hW
        go_simp
        try with_reducible rfl
      try simp only [Act.put, List.setIfInBounds_toArray, List.set_cons_zero, List.set_cons_succ]
      refine takeH 4 (v := ?_) rfl (by kernel_rfl) (by kernel_rfl) (by kernel_rfl) (fun _ _ _ h => h) (by rfl) ?_ (by assumption) ?_
      rotate_left
      · intro W hW
        go_simp
        try with_reducible rfl
      try simp only [Act.put, List.setIfInBounds_toArray, List.set_cons_zero, List.set_cons_succ]
      refine takeH 5 (v := ?_) rfl (by kernel_rfl) (by kernel_rfl) (by kernel_rfl) (fun _ _ _ h => h) (by rfl) ?_ (by assumption) ?_
      rotate_left
      · intro W hW
        go_simp
        try with_reducible rfl
      try simp only [Act.put, List.setIfInBounds_toArray, List.set_cons_zero, List.set_cons_succ]
      refine wpAnyH_ready (rs := [6]) (by kernel_rfl) (by simp) (readyH rfl (fun K hK => ?_) AllReadyH.nil)
      rw [if_pos (by rfl)]
      go_simp
      have hgl2 : g < wr.heap.size := (Array.getElem?_eq_some_iff.1 HB2.out).1
      have hxl2 : xb < wr.heap.size := (Array.getElem?_eq_some_iff.1 HX.out).1
      refine hK.out _ _ ⟨(World.cell?_alloc_lt _ _ _ hgl2).trans hH.1, (World.cell?_alloc_lt _ _ _ hxl2).trans hH.2.1, (World.cell?_alloc_lt _ _ _ hxl2).trans hH.2.2⟩ (fun hH => ?_)
      clear hK K
      try simp only [Act.put, List.setIfInBounds_toArray, List.set_cons_zero, List.set_cons_succ]
      refine wpAnyH_ready (rs := [7]) (by kernel_rfl) (by simp) (readyH rfl (fun K hK => ?_) AllReadyH.nil)
      rw [if_pos (by rfl)]
      refine wpO_appendO _ (.tmp 28) (.tmp 30) 152 rfl 199 i0 _ 2 16 Tryz.underlying152 hi hz0 hz1 hz2 rfl (by decide) (.slice pa2 lp pc2) lp (pcells ps) rfl (HW2.out.kept ?hkept) ⟨wr.heap.size, 0, none⟩ 1 1 [.int .i64 (d : Int), .int .i64 (m : Int)] rfl rfl ?hn ?h1 ?h63 ?hby ?_
      case hkept => exact fun k hk => Below.heap_alloc _ _ _ (HW2.out.lt k hk)
      case hn =>
        intro j u hj
        rcases j with _ | _ | j
        · simp at hj; subst hj; simp [Addr.add]
        · simp at hj; subst hj; simp [Addr.add]
        · simp at hj
      case h1 => intro u hu; simp at hu; rcases hu with rfl | rfl <;> rfl
      case h63 => unfold maxLen; omega
      case hby => omega
      intro v4 w4 r1 r2 r3
      have hlen : lp + 1 = (ps ++ [(d, m)]).length := by rw [List.length_append, ← HLP.out]; rfl
      have hcells : pcells ps ++ [.int .i64 (d : Int), .int .i64 (m : Int)] = pcells (ps ++ [(d, m)]) := by rw [pcells_append]; rfl
      rw [hlen, hcells] at r1
      have hg4 : w4.heap[g]? = wr.heap[g]? := (r2.block g (by simp; omega) (fun e => (HOB2.out g e.symm).2 rfl)).trans (Below.heap_alloc _ _ _ hgl2)
      have HO4 : Hid (Only F wr w4) := ((Only.refl F wr).drew.alloc _).grown r2 (fun k hk => Or.inl (HOB2.out k hk).1)
      have HN4 : Hid (∀ k, v4.ownBlock = some k → grow F wr w4 k ∧ k ≠ g) := fun k hk => by
        rcases r3 k hk with h' | h'
        · exact ⟨Or.inl (HOB2.out k h').1, (HOB2.out k h').2⟩
        · have h1 := h'.1
          try simp at h1
          exact ⟨Or.inr ⟨by omega, h'.2⟩, by omega⟩
      have HP4 := Lib.hid (SpF.put (T := 154) HFG.out HO4.out (hg4.trans HB2.out) r1 HN4.out)
      obtain ⟨a4, cap4, rfl, -, -, -⟩ := r1.seq
      have HB4 := Lib.hid (hg4.trans HB2.out)
      have b2 := cells_of_block HB4.out 2
      simp at b2
      obtain ⟨b2, f2⟩ := b2
      have hx4 : w4.heap[xb]? = wr.heap[xb]? := HO4.out.block xb hxl2 (fun hf => by have := HH.out.lt; have := HZ.out; exact HFX.out hf)
      have y0 := (World.cell?_of_block (a := ⟨xb, 0, none⟩) hx4).trans x0
      have y1 := (World.cell?_of_block (a := ⟨xb, 1, none⟩) hx4).trans x1
      clear r1 r2 r3 hcells hg4 hx4
      refine hK.out _ _ ⟨b2, y0, y1⟩ (fun hH => ?_)
      clear hK K
      try simp only [Act.put, List.setIfInBounds_toArray, List.set_cons_zero, List.set_cons_succ]
      refine takeH 8 (v := ?_) rfl (by kernel_rfl) (by kernel_rfl) (by kernel_rfl) (fun _ _ _ h => h) (by rfl) ?_ (by assumption) ?_
      rotate_left
      · intro W hW
        go_simp
        try with_reducible rfl
      try simp only [Act.put, List.setIfInBounds_toArray, List.set_cons_zero, List.set_cons_succ]
      refine takeH 9 (v := ?_) rfl (by kernel_rfl) (by kernel_rfl) (by kernel_rfl) (fun _ _ _ h => h) (by rfl) ?_ (by assumption) ?_
      rotate_left
      · intro W hW
        go_simp
        try with_reducible rfl
      try simp only [Act.put, List.setIfInBounds_toArray, List.set_cons_zero, List.set_cons_succ]
      refine takeH 10 (v := ?_) rfl (by kernel_rfl) (by kernel_rfl) (by kernel_rfl) (fun _ _ _ h => h) (by rfl) ?_ (by assumption) ?_
      rotate_left
      · intro W hW
        go_simp
        try with_reducible rfl
      try simp only [Act.put, List.setIfInBounds_toArray, List.set_cons_zero, List.set_cons_succ]
      refine lastH_done (by kernel_rfl) rfl (by rfl) ?_
      go_simp
      go_wp2
      go_end0
      have el : (ps ++ [(d, m)]).length = ps.length + 1 := by simp
      have hp4 := HP4.out.1
      have ho4 : Only F w4 (w4.setCell ⟨g, 2, none⟩ (.slice a4 (ps ++ [(d, m)]).length cap4)) := (Only.refl F w4).setCell (p := ⟨g, 2, none⟩) (Or.inl HFG.out) _
      rw [el] at hp4 ho4
      have hz4 : (w4.setCell ⟨g, 2, none⟩ (.slice a4 (ps.length + 1) cap4)).heap.size = w4.heap.size := by simp [World.setCell]
      have h5 : Only F wr (w4.setCell ⟨g, 2, none⟩ (.slice a4 (ps.length + 1) cap4)) := HO4.out.grow (ho4.mono (fun k hk => Or.inl hk))
      refine ⟨rfl, hp4.mono (fun k hk => ?_), HSt.out.kept (fun k hk hl => h5.block k hl (fun hf => HD.out k hf hk)), (HO.out.mono (fun k hk => Or.inr hk)).trans (h5.mono (fun k hk => Or.inl hk)) (fun k hk => Or.inl hk)⟩
      have := HZ.out
      rcases hk with hk | hk
      · exact Or.inl hk
      · exact Or.inr ⟨by omega, hk.2⟩
end Go.Proofs.YtcdpnfchmpncjaaGreatDoor
