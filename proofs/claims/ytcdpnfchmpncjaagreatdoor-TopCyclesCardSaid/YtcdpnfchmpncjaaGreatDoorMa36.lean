/-
  Parts of the proof, one behind the other: KEvac6, KEvac7.
-/
import Derived.Test.YtcdpnfchmpncjaaGreatDoorMa35
set_option linter.unusedSimpArgs false
set_option linter.unusedVariables false
namespace Go.Proofs.YtcdpnfchmpncjaaGreatDoor
open Go.RowKit Go.Tr Go.Shelf
variable {w w' : World} {F G : Nat → Prop} {A : Ad} {S S1 : HS}
theorem HeapF.begun {w4 : World} {u g : Nat} {gs : GS} {Gu Gg : Nat → Prop} (h : HeapF w F A S) (ho : Only (fun k => k = A.h) w w4) (hh : w4.heap[A.h]? = some (.cells (EvOn { A with u2 := u, gl := g } true) 31 (0, 0)))
    (hg : GrayAt 165 w4 g Gg gs) (hu : SpF 154 w4 Gu u A.s 1 [] 0 0) (hgb : ∀ k, Gg k → w.heap.size ≤ k ∧ k < w4.heap.size) (hub : ∀ k, Gu k → w.heap.size ≤ k ∧ k < w4.heap.size) (hd : ∀ k, Gg k → ¬ Gu k) :
    Run w F w4 (fun k => F k ∨ Gg k ∨ Gu k) { A with u2 := u, gl := g } { S with on := true, ps2 := [], a2 := 0, en2 := 0, gs := gs } := by
  classical
  obtain ⟨⟨hF, tau, ht⟩, htz⟩ := h
  have h9 : EvAt w (Fr F tau 9) A S.on := ht 9
  have hoF : Only F w w4 := ho.mono (fun k hk => by rw [show k = A.h from hk]; exact h9.1.1)
  refine ⟨⟨fun k hk => ?_, fun k => if k < w.heap.size then tau k else if Gg k then 11 else 10, fun j => ?_⟩, hoF, fun k hk => ?_, htz⟩
  · rcases hk with hk | hk | hk
    · exact Nat.lt_of_lt_of_le (hF k hk) ho.size
    · exact (hgb k hk).2
    · exact (hub k hk).2
  · have old : ∀ k, F k → (if k < w.heap.size then tau k else if Gg k then 11 else 10) = tau k := fun k hk => if_pos (hF k hk)
    by_cases h1 : j = 9
    · subst h1
      exact ⟨⟨Or.inl h9.1.1, (old _ h9.1.1).trans h9.1.2⟩, hh⟩
    by_cases h2 : j = 10
    · subst h2
      intro _
      exact SpF.mono hu (fun k hk => ⟨Or.inr (Or.inr hk), by
        show (if k < w.heap.size then tau k else if Gg k then 11 else 10) = 10
        rw [if_neg (by have := (hub k hk).1; omega), if_neg (fun hk2 => hd k hk2 hk)]⟩)
    by_cases h3 : j = 11
    · subst h3
      intro _
      exact hg.mono (fun k hk => ⟨Or.inr (Or.inl hk), by
        show (if k < w.heap.size then tau k else if Gg k then 11 else 10) = 11
        rw [if_neg (by have := (hgb k hk).1; omega), if_pos hk]⟩)
    have e : PP { A with u2 := u, gl := g } { S with on := true, ps2 := [], a2 := 0, en2 := 0, gs := gs } j = PP A S j := by
      unfold PP
      split <;> first | rfl | exact absurd rfl h1 | exact absurd rfl h2 | exact absurd rfl h3
    rw [e]
    exact (pp_parts A S).mono j w4 _ _ ((pp_parts A S).kept j w w4 _ (ht j) (fun k hk hl => ho.block k hl (fun ek => h1 (by rw [← hk.2, show k = A.h from ek, h9.1.2])))) (fun k hk => ⟨Or.inl hk.1, (old k hk.1).trans hk.2⟩)
  · rcases hk with hk | hk | hk
    · exact Or.inl hk
    · exact Or.inr (hgb k hk).1
    · exact Or.inr (hub k hk).1
theorem GrayAt.stay {W W' : World} {g : Nat} {gs : GS} {G : Nat → Prop} (h : GrayAt 165 W g G gs) (hk : ∀ k, G k → W'.heap[k]? = W.heap[k]?) (A : Ad) (S : HS) : GrayAt 165 W' g G gs :=
  (pp_parts { A with gl := g } { S with on := true, gs := gs }).kept 11 W W' G (fun _ => h) (fun k hk2 _ => hk k hk2) rfl
theorem SpF.stay {W W' : World} {u s a en : Nat} {ps : List (Nat × Nat)} {G : Nat → Prop} (h : SpF 154 W G u s 1 ps a en) (hk : ∀ k, G k → W'.heap[k]? = W.heap[k]?) (A : Ad) (S : HS) : SpF 154 W' G u s 1 ps a en :=
  (pp_parts { A with u := u, s := s } { S with ps := ps, a := a, en := en }).kept 6 W W' G h (fun k hk2 _ => hk k hk2)
theorem HeapF.rof (h : HeapF w F A S) (x : Int) {W : World} (hb : Below w.heap.size w W) : Calls Tryz.prog 57 #[.pointer (some ⟨A.rm, 0, none⟩), .int .i64 x] W fun e w' => e = .returned (.slice none 0 0) ∧ Below W.heap.size W w' := by
  obtain ⟨G, hG, h1⟩ := (h.below hb).1.read 5
  exact rof_any x W h1
theorem HeapF.all (h : HeapF w F A S) (hl : S.mine.length ≤ 1000000) {W : World} (hb : Below w.heap.size w W) : Calls Tryz.prog 55 #[.pointer (some ⟨A.bg, 0, none⟩)] W fun e w' => ∃ Bs b, e = .returned (.func (.func 146) #[] #[.pointer (some ⟨Bs, 0, none⟩)]) ∧
    SeqAll (fun _ A B => A = B) (KeepsB b) Tryz.prog 146 #[.pointer (some ⟨Bs, 0, none⟩)] (fun x : Int => #[Value.int .i64 x]) S.mine w' ∧ W.heap.size ≤ b ∧ b < w'.heap.size ∧ Below W.heap.size W w' := by
  obtain ⟨G, hG, h1⟩ := (h.below hb).1.read 7
  exact ballF_any W h1 hl
theorem Run.putObj {b : Nat} {o : Obj} {W : World} {F1 : Nat → Prop} (h : Run w F W F1 A S) (hb : w.heap.size ≤ b) (hn : ¬ F1 b) : Run w F (W.putObj b o) F1 A S := by
  obtain ⟨⟨h0, tau, ht⟩, h2, h3, h4⟩ := h
  have hk : ∀ k, k ≠ b → (W.putObj b o).heap[k]? = W.heap[k]? := fun k hk => World.putObj_heap_other hk
  refine ⟨⟨fun k hk => by simpa using h0 k hk, tau, fun i => (pp_parts A S).kept i W _ _ (ht i) (fun k hk2 _ => hk k (fun e => hn (by rw [← e]; exact hk2.1)))⟩, ?_, h3, h4⟩
  exact ⟨h2.os, h2.tape, h2.output, by simpa using h2.size, fun k hl hf => (hk k (by omega)).trans (h2.block k hl hf)⟩
def heldB (sl : List Sl) (z : Int) : Bool := match sl[z.toNat]? with | some y => y.held | none => false
def BgSt (w : World) (F : Nat → Prop) (A : Ad) (S : HS) (bx b lb : Nat) (pre : List Int) (W : World) : Prop :=
  ∃ F', Run w F W F' A { S with gs := GS.new.put (pre.filter (heldB S.sl)) } ∧ Bx W F' bx (.cells #[.pointer (some ⟨A.h, 0, none⟩)] 22 (0, 0)) ∧ ¬ F' b ∧ ¬ F' lb ∧ ¬ F' (lb + 1)
set_option maxRecDepth 100000 in
set_option maxHeartbeats 4000000 in
theorem ebegin_any (w : World) (h : HeapF w F A S) (hoff : S.on = false) (hl : S.mine.length ≤ 900000) (hm : ∀ z ∈ S.mine, ∃ (j : Nat) (y : Sl), z = (j : Int) ∧ S.sl[j]? = some y ∧ y.used = true ∧ y.pinned = false) :
    Calls Tryz.prog 25 #[.pointer (some ⟨A.h, 0, none⟩), .int .i64 1] w fun e w' => e = .returned (.int .i64 0) ∧ ∃ u g, HeapF w' (grow F w w') { A with u2 := u, gl := g } { S with on := true, ps2 := [], a2 := 0, en2 := 0, gs := GS.new.put (S.mine.filter (heldB S.sl)) } ∧ Only F w w' := by
  have HH := Lib.hid h
  have HLT := Lib.hid h.lt
  have HF := Lib.hid (fun W (hb : Below w.heap.size w W) => h.fields hb)
  have HE := Lib.hid (fun W (hb : Below w.heap.size w W) => h.evf0 hoff hb)
  have HLV := Lib.hid (fun W (hb : Below w.heap.size w W) => h.live hb)
  have HM := Lib.hid hm
  have HL := Lib.hid hl
  have HEV : Hid (F A.h ∧ w.heap[A.h]? = some (.cells #[.pointer (some ⟨A.c, 0, none⟩), .int .i64 0, .pointer none, .pointer none] 31 (0, 0))) := by
    have := h.ev
    rw [hoff] at this
    exact ⟨this.2, this.1⟩
  obtain ⟨bx, hbx⟩ : ∃ bx, bx = w.heap.size := ⟨_, rfl⟩
  have HBX := Lib.hid hbx
  have HB0 : Hid (Below w.heap.size w (w.alloc (.cells #[.pointer (some ⟨A.h, 0, none⟩)] 22))) := (Below.refl _ w).alloc (Nat.le_refl _) _
  have HX0 : Hid ((w.alloc (.cells #[.pointer (some ⟨A.h, 0, none⟩)] 22)).heap[bx]? = some (.cells #[.pointer (some ⟨A.h, 0, none⟩)] 22 (0, 0))) := by rw [hbx]; exact heap_alloc_new w _
  have x0 := (cells_of_block HX0.out 0).1
  simp at x0
  obtain ⟨e0, e1⟩ := HE.out _ HB0.out
  obtain ⟨-, -, -, -, c4, -⟩ := HF.out _ HB0.out
  clear h hoff hl hm
  refine (callsIn_wide (n := 2)).1 ?_
  refine callsIn_of_wp_marks Tryz.func25 rfl trivial ?_ rfl
  refine wpIn_wide.2 (wp_noPanic ?_)
  simp only [Tryz.ntmps25, List.size_toArray, List.length_cons, List.length_nil, Nat.reduceAdd, Nat.reduceSub, Array.replicate_succ, Array.replicate_zero, List.push_toArray, List.append_toArray, List.nil_append, List.cons_append]
  go_wp2_with fail
  rw [← hbx]
  clear hbx
  generalize w.alloc (.cells #[.pointer (some ⟨A.h, 0, none⟩)] 22) = wa at *
  refine (HLV.out wa HB0.out).mono ?_
  rintro e w1 ⟨rfl, rfl⟩
  go_wp2_with fail
  clear x0 e0 e1 c4
  have hne : bx ≠ A.h := by have h1 := HLT.out _ HEV.out.1; have h2 := HBX.out; omega
  have HNE := Lib.hid hne
  have HDX : Hid (∀ W, Only (fun k => k = A.h) wa W → W.cell? ⟨bx, 0, none⟩ = some (.pointer (some ⟨A.h, 0, none⟩))) := fun W ho => by
    have := (ho.block bx (block_lt HX0.out) HNE.out).trans HX0.out
    exact (cells_of_block this 0).1
  have HCB : Hid (A.c ≠ A.h ∧ A.c < w.heap.size ∧ ∃ v1 v2 v3 v4 v5 v6 v7, w.heap[A.c]? = some (.cells #[.pointer (some ⟨A.s, 0, none⟩), v1, v2, v3, v4, v5, v6, v7] 56 (0, 0))) := by
    have h1 := HH.out.cells.1
    refine ⟨fun e => ?_, block_lt h1, _, _, _, _, _, _, _, h1⟩
    rw [e, HEV.out.2] at h1
    simp at h1
  have HV1 : Hid (wa.heap[A.h]? = some (.cells #[.pointer (some ⟨A.c, 0, none⟩), .int .i64 0, .pointer none, .pointer none] 31 (0, 0))) := (HB0.out.block A.h (HLT.out _ HEV.out.1)).trans HEV.out.2
  clear hne
  refine wp_region_held_drew (S := Only (fun k => k = A.h) wa) (by kernel_rfl) (Only.refl _ wa).drew (fun hH => ?_)
  refine tk 0 (v := ?_) rfl ?_ ?_; rotate_left; · intro W hW; have d0 := HDX.out W hW; go_simp; try with_reducible rfl
  try simp only [Act.put, List.setIfInBounds_toArray, List.set_cons_zero, List.set_cons_succ]
  refine tk 1 (v := ?_) rfl ?_ ?_; rotate_left; · intro W hW; have d0 := HDX.out W hW; go_simp; try with_reducible rfl
  try simp only [Act.put, List.setIfInBounds_toArray, List.set_cons_zero, List.set_cons_succ]
  refine tk 2 (v := ?_) rfl ?_ ?_; rotate_left; · intro W hW; have d0 := HDX.out W hW; go_simp; try with_reducible rfl
  try simp only [Act.put, List.setIfInBounds_toArray, List.set_cons_zero, List.set_cons_succ]
  refine rd 3 rfl (fun K hK => ?_)
  go_simp
  refine (gnew_any _).mono ?_
  rintro e w2 ⟨g, rfl, hg, hon, hgs⟩
  have ho2 : Only (fun k => k = A.h) wa w2 := hH.trans hon (fun k hk => hk.elim)
  have HO2 := Lib.hid ho2
  have HG2 := Lib.hid hg
  have HV2 : Hid (w2.heap[A.h]? = some (.cells #[.pointer (some ⟨A.c, 0, none⟩), .int .i64 0, .pointer none, .pointer none] 31 (0, 0))) := (hon.block A.h (block_lt HV1.out) (fun hk => hk)).trans HV1.out
  refine hK.out _ _ ho2 (fun hH => ?_)
  clear hK K ho2
  refine tk 4 (v := ?_) rfl ?_ ?_; rotate_left; · intro W hW; go_simp; try with_reducible rfl
  try simp only [Act.put, List.setIfInBounds_toArray, List.set_cons_zero, List.set_cons_succ]
  refine tk 5 (v := ?_) rfl ?_ ?_; rotate_left; · intro W hW; go_simp; try with_reducible rfl
  try simp only [Act.put, List.setIfInBounds_toArray, List.set_cons_zero, List.set_cons_succ]
  refine rd 6 rfl (fun K hK => ?_)
  have v0 := cells_of_block HV2.out 0
  have v1 := cells_of_block HV2.out 1
  have v2 := cells_of_block HV2.out 2
  have v3 := cells_of_block HV2.out 3
  simp at v0 v1 v2 v3
  obtain ⟨v0, f0⟩ := v0
  obtain ⟨v1, f1⟩ := v1
  obtain ⟨v2, f2⟩ := v2
  obtain ⟨v3, f3⟩ := v3
  go_simp
  have ho3 : Only (fun k => k = A.h) wa (w2.setCell ⟨A.h, 1, none⟩ (.int .i64 1)) := HO2.out.setCell (p := ⟨A.h, 1, none⟩) (Or.inl rfl) _
  refine hK.out _ _ ho3 (fun hH => ?_)
  clear hK K v0 v1 v2 v3 f0 f1 f2 f3
  have HV3 : Hid ((w2.setCell ⟨A.h, 1, none⟩ (.int .i64 1)).heap[A.h]? = some (.cells #[.pointer (some ⟨A.c, 0, none⟩), .int .i64 1, .pointer none, .pointer none] 31 (0, 0))) := by
    show _ = _
    simpa using block_setCell HV2.out 1 (.int .i64 1)
  have HO3 := Lib.hid ho3
  have HSZ3 : Hid ((w2.setCell ⟨A.h, 1, none⟩ (.int .i64 1)).heap.size = w2.heap.size ∧ ∀ k, k ≠ A.h → (w2.setCell ⟨A.h, 1, none⟩ (.int .i64 1)).heap[k]? = w2.heap[k]?) := ⟨by simp, fun k hk => Below.heap_setCell _ _ _ _ hk⟩
  generalize w2.setCell ⟨A.h, 1, none⟩ (.int .i64 1) = w3 at *
  clear ho3
  refine tk 7 (v := ?_) rfl ?_ ?_; rotate_left; · intro W hW; go_simp; try with_reducible rfl
  try simp only [Act.put, List.setIfInBounds_toArray, List.set_cons_zero, List.set_cons_succ]
  refine tk 8 (v := ?_) rfl ?_ ?_; rotate_left; · intro W hW; go_simp; try with_reducible rfl
  try simp only [Act.put, List.setIfInBounds_toArray, List.set_cons_zero, List.set_cons_succ]
  refine rd 9 rfl (fun K hK => ?_)
  have v0 := cells_of_block HV3.out 0
  have v1 := cells_of_block HV3.out 1
  have v2 := cells_of_block HV3.out 2
  have v3 := cells_of_block HV3.out 3
  simp at v0 v1 v2 v3
  obtain ⟨v0, f0⟩ := v0
  obtain ⟨v1, f1⟩ := v1
  obtain ⟨v2, f2⟩ := v2
  obtain ⟨v3, f3⟩ := v3
  go_simp
  have ho4 : Only (fun k => k = A.h) wa (w3.setCell ⟨A.h, 3, none⟩ (.pointer (some ⟨g, 0, none⟩))) := HO3.out.setCell (p := ⟨A.h, 3, none⟩) (Or.inl rfl) _
  refine hK.out _ _ ho4 (fun hH => ?_)
  clear hK K v0 v1 v2 v3 f0 f1 f2 f3
  have HV4 : Hid ((w3.setCell ⟨A.h, 3, none⟩ (.pointer (some ⟨g, 0, none⟩))).heap[A.h]? = some (.cells #[.pointer (some ⟨A.c, 0, none⟩), .int .i64 1, .pointer none, .pointer (some ⟨g, 0, none⟩)] 31 (0, 0))) := by
    show _ = _
    simpa using block_setCell HV3.out 3 (.pointer (some ⟨g, 0, none⟩))
  have HO4 := Lib.hid ho4
  have HSZ4 : Hid ((w3.setCell ⟨A.h, 3, none⟩ (.pointer (some ⟨g, 0, none⟩))).heap.size = w2.heap.size ∧ ∀ k, k ≠ A.h → (w3.setCell ⟨A.h, 3, none⟩ (.pointer (some ⟨g, 0, none⟩))).heap[k]? = w2.heap[k]?) := ⟨by rw [← HSZ3.out.1]; simp, fun k hk => (Below.heap_setCell _ _ _ _ hk).trans (HSZ3.out.2 k hk)⟩
  generalize w3.setCell ⟨A.h, 3, none⟩ (.pointer (some ⟨g, 0, none⟩)) = w4 at *
  clear ho4
  refine wpAnyH_done (by kernel_rfl) ?_ _
  go_wp2_with fail
  obtain ⟨n4, hn4⟩ : ∃ n, n = w4.heap.size := ⟨_, rfl⟩
  have HN4 : Hid (n4 = w4.heap.size) := hn4
  clear hn4
  have HDY : Hid (∀ W, (Only (fun k => k = A.h) w4 W ∧ W.cell? ⟨A.h, 0, none⟩ = some (.pointer (some ⟨A.c, 0, none⟩))) → W.cell? ⟨bx, 0, none⟩ = some (.pointer (some ⟨A.h, 0, none⟩)) ∧ W.cell? ⟨A.h, 0, none⟩ = some (.pointer (some ⟨A.c, 0, none⟩)) ∧ W.cell? ⟨A.c, 0, none⟩ = some (.pointer (some ⟨A.s, 0, none⟩))) := fun W hb => by
    obtain ⟨d1, d2, _, _, _, _, _, _, _, d3⟩ := HCB.out
    have hs := HO4.out.size
    have hs0 := HB0.out.size
    have h2 := (hb.1.block A.c (by omega) d1).trans ((HO4.out.block A.c (by omega) d1).trans ((HB0.out.block A.c d2).trans d3))
    have h3 := (hb.1.block bx (Nat.lt_of_lt_of_le (block_lt HX0.out) hs) HNE.out).trans ((HO4.out.block bx (block_lt HX0.out) HNE.out).trans HX0.out)
    exact ⟨(cells_of_block h3 0).1, hb.2, (cells_of_block h2 0).1⟩
  have HG4 := Lib.hid hg
  clear hon hgs hg
  refine wp_region_held_drew (S := fun W => Only (fun k => k = A.h) w4 W ∧ W.cell? ⟨A.h, 0, none⟩ = some (.pointer (some ⟨A.c, 0, none⟩))) (by kernel_rfl) ⟨(Only.refl _ w4).drew, (cells_of_block HV4.out 0).1⟩ (fun hH => ?_)
  refine tk 0 (v := ?_) rfl ?_ ?_; rotate_left; · intro W hW; obtain ⟨d0, d1, d2⟩ := HDY.out W hW; go_simp; try with_reducible rfl
  try simp only [Act.put, List.setIfInBounds_toArray, List.set_cons_zero, List.set_cons_succ]
  refine tk 1 (v := ?_) rfl ?_ ?_; rotate_left; · intro W hW; obtain ⟨d0, d1, d2⟩ := HDY.out W hW; go_simp; try with_reducible rfl
  try simp only [Act.put, List.setIfInBounds_toArray, List.set_cons_zero, List.set_cons_succ]
  refine tk 2 (v := ?_) rfl ?_ ?_; rotate_left; · intro W hW; obtain ⟨d0, d1, d2⟩ := HDY.out W hW; go_simp; try with_reducible rfl
  try simp only [Act.put, List.setIfInBounds_toArray, List.set_cons_zero, List.set_cons_succ]
  refine tk 3 (v := ?_) rfl ?_ ?_; rotate_left; · intro W hW; obtain ⟨d0, d1, d2⟩ := HDY.out W hW; go_simp; try with_reducible rfl
  try simp only [Act.put, List.setIfInBounds_toArray, List.set_cons_zero, List.set_cons_succ]
  refine tk 4 (v := ?_) rfl ?_ ?_; rotate_left; · intro W hW; obtain ⟨d0, d1, d2⟩ := HDY.out W hW; go_simp; try with_reducible rfl
  try simp only [Act.put, List.setIfInBounds_toArray, List.set_cons_zero, List.set_cons_succ]
  refine tk 5 (v := ?_) rfl ?_ ?_; rotate_left; · intro W hW; obtain ⟨d0, d1, d2⟩ := HDY.out W hW; go_simp; try with_reducible rfl
  try simp only [Act.put, List.setIfInBounds_toArray, List.set_cons_zero, List.set_cons_succ]
  refine tk 6 (v := ?_) rfl ?_ ?_; rotate_left; · intro W hW; obtain ⟨d0, d1, d2⟩ := HDY.out W hW; go_simp; try with_reducible rfl
  try simp only [Act.put, List.setIfInBounds_toArray, List.set_cons_zero, List.set_cons_succ]
  refine tk 7 (v := ?_) rfl ?_ ?_; rotate_left; · intro W hW; obtain ⟨d0, d1, d2⟩ := HDY.out W hW; go_simp; try with_reducible rfl
  try simp only [Act.put, List.setIfInBounds_toArray, List.set_cons_zero, List.set_cons_succ]
  refine tk 8 (v := ?_) rfl ?_ ?_; rotate_left; · intro W hW; obtain ⟨d0, d1, d2⟩ := HDY.out W hW; go_simp; try with_reducible rfl
  try simp only [Act.put, List.setIfInBounds_toArray, List.set_cons_zero, List.set_cons_succ]
  refine rd 9 rfl (fun K hK => ?_)
  go_simp
  obtain ⟨u, hu0⟩ : ∃ u, u = w4.drew.heap.size := ⟨_, rfl⟩
  refine (unew_any A.s 1 w4.drew (by decide)).mono ?_
  rintro e w5 ⟨rfl, hu, hou⟩
  rw [← hu0] at hu ⊢
  have HU5 := Lib.hid hu
  have HO5 : Hid (Only (fun k => k = A.h) w4 w5) := (Only.refl (fun k => k = A.h) w4).drew.trans hou (fun k hk => hk.elim)
  have HV5 : Hid (w5.heap[A.h]? = some (.cells #[.pointer (some ⟨A.c, 0, none⟩), .int .i64 1, .pointer none, .pointer (some ⟨g, 0, none⟩)] 31 (0, 0))) := (hou.block A.h (block_lt HV4.out) (fun hk => hk)).trans HV4.out
  refine hK.out _ _ ⟨HO5.out, (cells_of_block HV5.out 0).1⟩ (fun hH => ?_)
  clear hK K hu hou hu0
  refine tk 10 (v := ?_) rfl ?_ ?_; rotate_left; · intro W hW; go_simp; try with_reducible rfl
  try simp only [Act.put, List.setIfInBounds_toArray, List.set_cons_zero, List.set_cons_succ]
  refine tk 11 (v := ?_) rfl ?_ ?_; rotate_left; · intro W hW; go_simp; try with_reducible rfl
  try simp only [Act.put, List.setIfInBounds_toArray, List.set_cons_zero, List.set_cons_succ]
  refine tk 12 (v := ?_) rfl ?_ ?_; rotate_left; · intro W hW; go_simp; try with_reducible rfl
  try simp only [Act.put, List.setIfInBounds_toArray, List.set_cons_zero, List.set_cons_succ]
  refine tk 13 (v := ?_) rfl ?_ ?_; rotate_left; · intro W hW; go_simp; try with_reducible rfl
  try simp only [Act.put, List.setIfInBounds_toArray, List.set_cons_zero, List.set_cons_succ]
  refine tk 14 (v := ?_) rfl ?_ ?_; rotate_left; · intro W hW; go_simp; try with_reducible rfl
  try simp only [Act.put, List.setIfInBounds_toArray, List.set_cons_zero, List.set_cons_succ]
  refine rd 15 rfl (fun K hK => ?_)
  have v0 := cells_of_block HV5.out 0
  have v1 := cells_of_block HV5.out 1
  have v2 := cells_of_block HV5.out 2
  have v3 := cells_of_block HV5.out 3
  simp at v0 v1 v2 v3
  obtain ⟨v0, f0⟩ := v0
  obtain ⟨v1, f1⟩ := v1
  obtain ⟨v2, f2⟩ := v2
  obtain ⟨v3, f3⟩ := v3
  go_simp
  have ho6 : Only (fun k => k = A.h) w4 (w5.setCell ⟨A.h, 2, none⟩ (.pointer (some ⟨u, 0, none⟩))) := HO5.out.setCell (p := ⟨A.h, 2, none⟩) (Or.inl rfl) _
  have HV6 : Hid ((w5.setCell ⟨A.h, 2, none⟩ (.pointer (some ⟨u, 0, none⟩))).heap[A.h]? = some (.cells #[.pointer (some ⟨A.c, 0, none⟩), .int .i64 1, .pointer (some ⟨u, 0, none⟩), .pointer (some ⟨g, 0, none⟩)] 31 (0, 0))) := by
    show _ = _
    simpa using block_setCell HV5.out 2 (.pointer (some ⟨u, 0, none⟩))
  refine hK.out _ _ ⟨ho6, (cells_of_block HV6.out 0).1⟩ (fun hH => ?_)
  have HO6 := Lib.hid ho6
  clear hK K v0 v1 v2 v3 f0 f1 f2 f3 ho6
  have HSZ6 : Hid ((w5.setCell ⟨A.h, 2, none⟩ (.pointer (some ⟨u, 0, none⟩))).heap.size = w5.heap.size ∧ ∀ k, k ≠ A.h → (w5.setCell ⟨A.h, 2, none⟩ (.pointer (some ⟨u, 0, none⟩))).heap[k]? = w5.heap[k]?) := ⟨by simp, fun k hk => Below.heap_setCell _ _ _ _ hk⟩
  generalize w5.setCell ⟨A.h, 2, none⟩ (.pointer (some ⟨u, 0, none⟩)) = w6 at *
  refine wpAnyH_done (by kernel_rfl) ?_ _
  have hah := HLT.out _ HEV.out.1
  have s0 := HB0.out.size
  have s4 : w2.heap.size = w4.heap.size := HSZ4.out.1.symm
  have s6 : w6.heap.size = w5.heap.size := HSZ6.out.1
  have sa : wa.heap.size ≤ w4.heap.size := HO4.out.size
  have s5 : w4.heap.size ≤ w5.heap.size := HO5.out.size
  have HRN : Hid (Run w F w6 (fun k => F k ∨ grow (fun _ => False) wa.drew w2 k ∨ grow (fun _ => False) w4.drew w5 k) { A with u2 := u, gl := g } { S with on := true, ps2 := [], a2 := 0, en2 := 0, gs := GS.new }) := by
    refine HH.out.begun (((Only.of_below HB0.out _).trans HO4.out (fun k hk => Or.inl hk)).trans HO6.out (fun k hk => Or.inl hk)) HV6.out (GrayAt.stay HG4.out (fun k hk => ?_) A S) (SpF.stay HU5.out (fun k hk => ?_) A S) (fun k hk => ?_) (fun k hk => ?_) (fun k hk hk2 => ?_)
    · rcases hk with hk | hk
      · exact hk.elim
      · have e1 : wa.heap.size ≤ k := hk.1
        have e2 : k < w2.heap.size := hk.2
        exact (HO6.out.block k (by omega) (by show ¬ k = A.h; omega)).trans (HSZ4.out.2 k (by omega))
    · rcases hk with hk | hk
      · exact hk.elim
      · have e1 : w4.heap.size ≤ k := hk.1
        exact HSZ6.out.2 k (by omega)
    · rcases hk with hk | hk
      · exact hk.elim
      · have e1 : wa.heap.size ≤ k := hk.1
        have e2 : k < w2.heap.size := hk.2
        omega
    · rcases hk with hk | hk
      · exact hk.elim
      · have e1 : w4.heap.size ≤ k := hk.1
        have e2 : k < w5.heap.size := hk.2
        omega
    · rcases hk with hk | hk
      · exact hk.elim
      · rcases hk2 with hk2 | hk2
        · exact hk2.elim
        · have e1 : w4.heap.size ≤ k := hk2.1
          have e2 : k < w2.heap.size := hk.2
          omega
  have HX6 : Hid (Bx w6 (fun k => F k ∨ grow (fun _ => False) wa.drew w2 k ∨ grow (fun _ => False) w4.drew w5 k) bx (.cells #[.pointer (some ⟨A.h, 0, none⟩)] 22 (0, 0))) := by
    have hl0 := block_lt HX0.out
    refine ⟨fun hk => ?_, (HO6.out.block bx (by omega) HNE.out).trans ((HO4.out.block bx hl0 HNE.out).trans HX0.out)⟩
    rcases hk with hk | hk | hk
    · have := HLT.out bx hk; have := HBX.out; omega
    · rcases hk with hk | hk
      · exact hk.elim
      · have e1 : wa.heap.size ≤ bx := hk.1
        omega
    · rcases hk with hk | hk
      · exact hk.elim
      · have e1 : w4.heap.size ≤ bx := hk.1
        omega
  obtain ⟨F6, hF6⟩ : ∃ F6 : Nat → Prop, F6 = (fun k => F k ∨ grow (fun _ => False) wa.drew w2 k ∨ grow (fun _ => False) w4.drew w5 k) := ⟨_, rfl⟩
  rw [← hF6] at HRN HX6
  clear hF6 hah s0 s4 s6 sa s5 HU5 HG4 HSZ6 HSZ4 HO6 HO5 HO4 HV6 HV5 HV4 HDY HCB HDX HN4 HV1 HO2 HG2 HV2 HSZ3 HO3 HV3
  obtain ⟨S1, hS1⟩ : ∃ S1 : HS, S1 = { S with on := true, ps2 := [], a2 := 0, en2 := 0 } := ⟨_, rfl⟩
  obtain ⟨A1, hA1⟩ : ∃ A1 : Ad, A1 = { A with u2 := u, gl := g } := ⟨_, rfl⟩
  have HRN1 : Hid (Run w F w6 F6 A1 { S1 with gs := GS.new.put (([] : List Int).filter (heldB S1.sl)) }) := by rw [hS1, hA1]; exact HRN.out
  have HSA : Hid (S1.on = true ∧ S1.sl = S.sl ∧ S1.mine = S.mine ∧ A1.h = A.h ∧ A1.c = A.c ∧ A1.mn = A.mn ∧ A1.bg = A.bg ∧ A1.rm = A.rm) := by rw [hS1, hA1]; exact ⟨rfl, rfl, rfl, rfl, rfl, rfl, rfl, rfl⟩
  have HEV1 : Hid (∀ W F1 gs, HeapF W F1 A1 { S1 with gs := gs } → W.cell? ⟨A.h, 0, none⟩ = some (.pointer (some ⟨A.c, 0, none⟩)) ∧ W.cell? ⟨A.h, 3, none⟩ = some (.pointer (some ⟨A1.gl, 0, none⟩)) ∧ W.cell? ⟨A.c, 5, none⟩ = some (.pointer (some ⟨A.rm, 0, none⟩)) ∧ W.cell? ⟨A.c, 7, none⟩ = some (.map (some A.mn))) := fun W F1 gs hr => by
    obtain ⟨h1, h2, h3, h4, h5, h6, h7, h8⟩ := HSA.out
    rw [← h4, ← h5, ← h6, ← h8]
    have e := hr.evf h1 (Below.refl _ _)
    have c := hr.fields (Below.refl _ _)
    exact ⟨e.1, e.2.2.2, c.2.2.2.2.2.1, c.2.2.2.2.2.2.2⟩
  have HLM := Lib.hid (HRN1.out.heap.lookMine (Below.refl _ _))
  have HALL := Lib.hid (HRN1.out.heap.all (by have := HL.out; simp only; rw [HSA.out.2.2.1]; omega) (Below.refl _ _))
  simp only [HSA.out.2.2.1, HSA.out.2.2.2.2.2.1, HSA.out.2.2.2.2.2.2.1] at HLM HALL
  obtain ⟨e0, e3, c5, c7⟩ := HEV1.out _ _ _ HRN1.out.heap
  have x0 := (cells_of_block HX6.out.2 0).1
  simp at x0
  have HFIN : Hid (∀ w', (∃ F', Run w F w' F' A1 { S1 with gs := GS.new.put (S.mine.filter (heldB S1.sl)) }) → ∃ u g, HeapF w' (grow F w w') { A with u2 := u, gl := g } { S with on := true, ps2 := [], a2 := 0, en2 := 0, gs := GS.new.put (S.mine.filter (heldB S.sl)) } ∧ Only F w w') := fun w' ⟨F', hr⟩ => by
    rw [hS1, hA1] at hr
    exact ⟨u, g, hr.fin HLT.out⟩
  clear hS1 hA1 HRN
  go_wp2_with (first
    | (refine list_look (.tmp 57) (.tmp 58) 54 rfl _ _ _ rfl rfl HLM.out ?_)
    | fail)
  refine HALL.out.mono ?_
  rintro e w7 ⟨Bs, b, rfl, hseq, hb1, hb2, hb3⟩
  have HSEQ := Lib.hid hseq
  have HRN7 := Lib.hid (HRN1.out.below hb3)
  have HX7 := Lib.hid (HX6.out.below hb3)
  have HN7 : Hid (¬ F6 b ∧ b < w7.heap.size ∧ w.heap.size ≤ w7.heap.size ∧ (∀ k, F6 k → k < w7.heap.size) ∧ bx < w7.heap.size) := by
    have h1 := HRN1.out.heap.lt
    have h2 := hb3.size
    have h3 := HRN1.out.2.1.size
    have h4 := block_lt HX6.out.2
    exact ⟨fun hf => by have := h1 b hf; omega, hb2, by omega, fun k hk => by have := h1 k hk; omega, by omega⟩
  have HLW : Hid (w.heap.size ≤ w7.heap.size) := HN7.out.2.2.1
  clear hseq hb1 hb2 hb3 e0 e3 c5 c7 x0
  go_wp2_with fail
  have hIB : ∀ pre W (r : Loop), BgSt w F A1 S1 bx b w7.heap.size pre W → BgSt w F A1 S1 bx b w7.heap.size pre (W.putObj (w7.heap.size + 1) (.loop r)) := fun pre W r ⟨F', h1, h2, h3, h4, h5⟩ => by
    have h6 := HN7.out.2.2.2.2
    have h7 := HLW.out
    exact ⟨F', h1.putObj (by omega) h5, ⟨h2.1, (World.putObj_heap_other (by omega)).trans h2.2⟩, h3, h4, h5⟩
  have HIB := Lib.hid hIB
  clear hIB
  refine (wpIn_wide (n := 2)).1 ?_
  refine range_all (m := 0) (gf := 146) (lb := #[.pointer (some ⟨Bs, 0, none⟩)]) rfl (enters_of Tryz.func146 (by kernel_rfl) rfl) HSEQ.out (Below.refl _ _) (fun x => rfl) (fun h k => keepsB_t h k) ?hkb
    (fun pre W => BgSt w F A1 S1 bx b w7.heap.size pre W) ?hib ?hst ?hsk ?h0 ?round ?done
  case hkb => exact fun W r r' _ => World.putObj_heap_other (by have := HN7.out.2.1; omega)
  case hib => exact fun pre W r r' h _ => HIB.out pre W r' h
  case hst => rintro pre A B h rfl; exact h
  case hsk => rintro A B k rfl _ _; rfl
  case h0 =>
    intro r
    have hb : Below w7.heap.size w7 ((w7.alloc (.deferred (some []))).alloc (.loop r)) := ((Below.refl _ w7).alloc (Nat.le_refl _) _).alloc (by simp) _
    obtain ⟨h1, h2, h3, h4, h5⟩ := HN7.out
    exact ⟨F6, HRN7.out.below hb, by have := HX7.out.below hb; rw [HSA.out.2.2.2.1]; exact this, h1, fun h => by have := h4 _ h; omega, fun h => by have := h4 _ h; omega⟩
  case round =>
    intro pre x W hI hpre hlt
    obtain ⟨j, y, rfl, hy, hu, hp⟩ := HM.out x (hpre.subset (by simp))
    have hsem := @Oper.semAt_some
    gi_wp2_with fail
    refine ⟨trivial, trivial, rfl, fun r hkr => ?_⟩
    obtain ⟨F', h1, h2, h3, h4, h5⟩ := HIB.out pre W r hI
    have hsz : w7.heap.size + 1 < (W.putObj (w7.heap.size + 1) (.loop r)).heap.size := by simpa using hlt
    clear hI hkr hlt
    generalize W.putObj (w7.heap.size + 1) (.loop r) = W2 at *
    rw [HSA.out.2.2.2.1] at h2
    obtain ⟨yg, yu, ya, yr, yh, yp⟩ := y
    simp only at hu hp
    subst hp
    have hENT := CallsIn.inRound (w7.heap.size + 1) (callsIn_wide (n := 0).2 (eentry_any W2 h1.heap (i := j) (x := ⟨yg, yu, ya, yr, yh, false⟩) (by simp only; rw [HSA.out.2.1]; exact hy) hu))
    simp only [entryV, HSA.out.2.2.2.1] at hENT
    have HENT := Lib.hid hENT
    have HRN2 := Lib.hid h1
    have HX2 := Lib.hid h2
    have HN2 := Lib.hid (And.intro h3 (And.intro h4 h5))
    have HSZ2 := Lib.hid hsz
    have HY := Lib.hid hy
    have HPRE := Lib.hid hpre
    have x0 := (cells_of_block HX2.out.2 0).1
    simp at x0
    clear h1 h2 h3 h4 h5 hENT hsz hy hu hpre
    gi_wp2_with fail
    refine ⟨trivial, rfl, HENT.out.mono ?_⟩
    rintro e w8 ⟨rfl, hb8⟩
    cases yh
    focus
      have h2 := al2 w8 (.cells #[.int .i64 j, .int .i64 yg] 38) (.cells #[.int .i64 ya, .int .i64 yr, .bool false, .bool false] 93)
      have hb9 : Below W2.heap.size W2 ((w8.alloc (.cells #[.int .i64 j, .int .i64 yg] 38)).alloc (.cells #[.int .i64 ya, .int .i64 yr, .bool false, .bool false] 93)) := hb8.trans (h2.1.mono hb8.size)
      have HRN9 := Lib.hid (HRN2.out.below hb9)
      have HX9 := Lib.hid (HX2.out.below hb9)
      have HB9 := Lib.hid hb9
      obtain ⟨qb, hqb⟩ : ∃ qb, qb = w8.heap.size + 1 := ⟨_, rfl⟩
      obtain ⟨pb, hpb⟩ : ∃ pb, pb = w8.heap.size := ⟨_, rfl⟩
      clear hb8 hb9 h2 x0
      have x0 := (cells_of_block HX9.out.2 0).1
      simp at x0
      obtain ⟨e0, e3, c5, c7⟩ := HEV1.out _ _ _ HRN9.out.heap
      gi_wp2_with fail
      rw [← hqb, ← hpb]
      clear hqb hpb x0 e0 e3 c5 c7
      generalize (w8.alloc (.cells #[.int .i64 j, .int .i64 yg] 38)).alloc (.cells #[.int .i64 ya, .int .i64 yr, .bool false, .bool false] 93) = w9 at *
      have hOF := CallsIn.inRound (w7.heap.size + 1) (callsIn_wide (n := 0).2 (HRN9.out.heap.rof (j : Int) (Below.refl _ _)))
      simp only [HSA.out.2.2.2.2.2.2.2] at hOF
      refine ⟨trivial, rfl, hOF.mono ?_⟩
      rintro e w10 ⟨rfl, hb10⟩
      have HRN10 := Lib.hid (HRN9.out.below hb10)
      have HX10 := Lib.hid (HX9.out.below hb10)
      have HB10 := Lib.hid (HB9.out.trans (hb10.mono HB9.out.size))
      clear hb10 hOF
      gi_wp2_with fail
      have e : (pre ++ [(j : Int)]).filter (heldB S1.sl) = pre.filter (heldB S1.sl) := by
        rw [List.filter_append]
        simp [heldB, HSA.out.2.1, HY.out]
      have h1 := HSZ2.out
      have h2 := HN7.out.2.1
      exact ⟨HB10.out.block _ h1, HB10.out.block _ (by omega), HB10.out.block _ (by omega), F', by rw [e]; exact HRN10.out, by rw [HSA.out.2.2.2.1]; exact HX10.out, HN2.out⟩
    focus
      have h2 := al2 w8 (.cells #[.int .i64 j, .int .i64 yg] 38) (.cells #[.int .i64 ya, .int .i64 yr, .bool true, .bool false] 93)
      have hb9 : Below W2.heap.size W2 ((w8.alloc (.cells #[.int .i64 j, .int .i64 yg] 38)).alloc (.cells #[.int .i64 ya, .int .i64 yr, .bool true, .bool false] 93)) := hb8.trans (h2.1.mono hb8.size)
      have HRN9 := Lib.hid (HRN2.out.below hb9)
      have HX9 := Lib.hid (HX2.out.below hb9)
      have HB9 := Lib.hid hb9
      obtain ⟨qb, hqb⟩ : ∃ qb, qb = w8.heap.size + 1 := ⟨_, rfl⟩
      obtain ⟨pb, hpb⟩ : ∃ pb, pb = w8.heap.size := ⟨_, rfl⟩
      clear hb8 hb9 h2 x0
      have x0 := (cells_of_block HX9.out.2 0).1
      simp at x0
      obtain ⟨e0, e3, c5, c7⟩ := HEV1.out _ _ _ HRN9.out.heap
      gi_wp2_with fail
      rw [← hqb, ← hpb]
      clear hqb hpb x0 e0 e3 c5 c7
      generalize (w8.alloc (.cells #[.int .i64 j, .int .i64 yg] 38)).alloc (.cells #[.int .i64 ya, .int .i64 yr, .bool true, .bool false] 93) = w9 at *
      refine ⟨trivial, ?_⟩
      rename_i K hK
      refine hK _ _ ?_
      clear hK K
      have x0 := (cells_of_block HX9.out.2 0).1
      simp at x0
      obtain ⟨e0, e3, c5, c7⟩ := HEV1.out _ _ _ HRN9.out.heap
      gi_wp2_with fail
      have hsml : (GS.new.put (pre.filter (heldB S1.sl))).Small 999999 := by
        have h1 := HPRE.out.length_le
        have h2 := HL.out
        have h3 := List.length_filter_le (heldB S1.sl) pre
        rw [List.length_append] at h1
        refine (GS.Small.put (N := 0) (pre.filter (heldB S1.sl)) (by unfold GS.Small GS.new; simp)).mono ?_
        omega
      have hb11 : Below w9.heap.size w9 (w9.alloc (.cells #[.int .i64 j] 3)) := (Below.refl _ _).alloc (Nat.le_refl _) _
      have hGP := CallsIn.inRound (w7.heap.size + 1) (callsIn_wide (n := 0).2 (HRN9.out.heap.gput (by exact HSA.out.1) hsml (j : Int) w9.heap.size hb11 (heap_alloc_new w9 _) (Nat.le_refl _)))
      refine ⟨trivial, rfl, hGP.mono ?_⟩
      rintro e w12 ⟨⟨kk, rfl⟩, h12⟩
      have HRN12 := Lib.hid ((HRN9.out.below hb11).op h12)
      have HX12 := Lib.hid ((HX9.out.below hb11).op h12.2)
      have HB11 := Lib.hid (HB9.out.trans (hb11.mono HB9.out.size))
      have HO12 := Lib.hid h12.2
      have HL11 : Hid (W2.heap.size ≤ (w9.alloc (.cells #[.int .i64 j] 3)).heap.size) := HB11.out.size
      clear hsml hb11 hGP h12 x0 e0 e3 c5 c7
      gi_wp2_with fail
      have e : (pre ++ [(j : Int)]).filter (heldB S1.sl) = pre.filter (heldB S1.sl) ++ [(j : Int)] := by
        rw [List.filter_append]
        simp [heldB, HSA.out.2.1, HY.out]
      have h1 := HSZ2.out
      have h2 := HN7.out.2.1
      have h3 := HL11.out
      obtain ⟨m1, m2, m3⟩ := HN2.out
      have hk : ∀ k, k < W2.heap.size → ¬ F' k → w12.heap[k]? = W2.heap[k]? := fun k hk hn => (HO12.out.block k (by omega) hn).trans (HB11.out.block k hk)
      have hg : ∀ k, k < W2.heap.size → ¬ F' k → ¬ grow F' (w9.alloc (.cells #[.int .i64 j] 3)) w12 k := fun k hk hn hg => hg.elim hn (fun hg => by have := hg.1; omega)
      exact ⟨hk _ h1 m3, hk _ (by omega) m2, hk _ (by omega) m1, _, by rw [e, put_snoc]; exact HRN12.out, by rw [HSA.out.2.2.2.1]; exact HX12.out, hg _ (by omega) m1, hg _ (by omega) m2, hg _ (by omega) m3⟩
  case done =>
    rintro W ⟨F', h1, -, -, h4, -⟩ hD
    have HEND := Lib.hid (fun o => HFIN.out _ ⟨F', by have := h1.putObj (o := o) HLW.out h4; exact this⟩)
    clear h1 h4
    go_wp2_with fail
    refine ⟨by simp, .inl ⟨_, _, rfl, run_takeDeferred hD, ?_⟩⟩
    exact ⟨_, results_tmp rfl _ _ _, rfl, HEND.out _⟩
end Go.Proofs.YtcdpnfchmpncjaaGreatDoor
namespace Go.Proofs.YtcdpnfchmpncjaaGreatDoor
open Go.RowKit Go.Tr Go.Shelf
variable {w w' : World} {F G : Nat → Prop} {A : Ad} {S S1 : HS}
theorem HeapF.color (h : HeapF w F A S) (hon : S.on = true) (x : Int) : Calls Tryz.prog 65 #[.pointer (some ⟨A.gl, 0, none⟩), .int .i64 x] w fun e w' => e = .returned (.int .i64 (S.gs.color x)) ∧ w = w' := by
  obtain ⟨G, hg⟩ := h.gray hon
  exact color_any x w hg
theorem HeapF.drop (h : HeapF w F A S) (c m : Nat) (hl : S.ps.length ≤ 100000) (hf : findPart S.ps c = some (c, m)) (hm : c + m ≤ S.C) (hown : ∀ i, c ≤ i → i < c + m → S.own.getD i 0 ≠ 0) :
    Calls Tryz.prog 70 #[.pointer (some ⟨A.u, 0, none⟩), .int .i64 c] w fun e w' => e = .returned (.int .i64 0) ∧ HeapF w' (grow F w w') A { S with ps := S.ps.erase (c, m), a := if m = 1 ∧ S.en = (c + 1) * S.Wd then 0 else S.a, en := if m = 1 ∧ S.en = (c + 1) * S.Wd then 0 else S.en, own := putAt S.own c (List.replicate m 0) } ∧ Only F w w' := by
  obtain ⟨G, H, hG, hH, hd, hp, hst, hb⟩ := h.1.part2 (pp_parts A S) 6 1 (by decide)
  refine (udrop_any c m w hp hst hd (fun k hk => h.lt k (hG k hk)) (fun k hk => h.lt k (hH k hk)) hl hf hm hown).mono ?_
  rintro e w' ⟨rfl, a3, a4, a5⟩
  refine ⟨rfl, HeapF.put h.2 (hb (PP A _) w' (pp_parts _ _) (fun j hj hj2 => ?_) a3 a4 a5)⟩
  unfold PP
  split <;> first | rfl | exact absurd rfl hj | exact absurd rfl hj2
theorem HeapF.join (h : HeapF w F A S) (hon : S.on = true) (hl : S.ps.length + S.ps2.length ≤ 100000) (hown : ∀ p ∈ S.ps2, p.1 + p.2 ≤ S.C ∧ ∀ i, p.1 ≤ i → i < p.1 + p.2 → S.own.getD i 0 = 1) :
    Calls Tryz.prog 72 #[.pointer (some ⟨A.u, 0, none⟩), .pointer (some ⟨A.u2, 0, none⟩)] w fun e w' => e = .returned (.int .i64 0) ∧ Only F w w' ∧ w'.heap[A.h]? = w.heap[A.h]? ∧
      ∀ w2, Only (fun k => k = A.h) w' w2 → w2.heap.size = w'.heap.size → w2.heap[A.h]? = some (.cells (EvOn A false) 31 (0, 0)) → HeapF w2 (grow F w w2) A { S with ps := S.ps ++ S.ps2, a := if 0 < S.en2 then S.a2 else S.a, en := if 0 < S.en2 then S.en2 else S.en, on := false } ∧ Only F w w2 := by
  obtain ⟨⟨hF, tau, ht⟩, htz⟩ := h
  have h6 : SpF 154 w (Fr F tau 6) A.u A.s 1 S.ps S.a S.en := ht 6
  have h1 : StF w (Fr F tau 1) A.s S.C S.Wd S.ws S.own := ht 1
  have h10 : SpF 154 w (Fr F tau 10) A.u2 A.s 1 S.ps2 S.a2 S.en2 := ht 10 hon
  have h9 : EvAt w (Fr F tau 9) A S.on := ht 9
  have ne : ∀ {i j k : Nat}, i ≠ j → Fr F tau i k → ¬ Fr F tau j k := fun hij a b => hij (by rw [← a.2, b.2])
  refine (ujoin_any w h6 h1 h10 (fun k a => ne (by decide) a) (fun k a => ⟨ne (by decide) a, ne (by decide) a⟩) (fun k a => hF k a.1) (fun k a => hF k a.1) (fun k a => hF k a.1) (Nat.le_refl _) (by decide) hl hown).mono ?_
  rintro e w' ⟨rfl, b1, b2, b3⟩
  have hoF : Only F w w' := b3.mono (fun k hk => hk.elim (·.1) (fun hk => hk.elim (·.1) (·.1)))
  have hah : A.h < w.heap.size := hF _ h9.1.1
  have hkeep : ∀ j k, j ≠ 6 → j ≠ 1 → j ≠ 10 → Fr F tau j k → w'.heap[k]? = w.heap[k]? := fun j k h6 h1 h10 hk => b3.block k (hF k hk.1) (fun hx => by
    rcases hx with hx | hx | hx
    · exact h6 (by rw [← hk.2, hx.2])
    · exact h1 (by rw [← hk.2, hx.2])
    · exact h10 (by rw [← hk.2, hx.2]))
  refine ⟨rfl, hoF, hkeep 9 _ (by decide) (by decide) (by decide) h9.1, fun w2 ho hs hh => ?_⟩
  have hoF2 : Only F w w2 := hoF.trans ho (fun k hk => Or.inl (by rw [show k = A.h from hk]; exact h9.1.1))
  refine ⟨⟨⟨grow_lt hF hoF2.size, fun k => if k < w.heap.size then tau k else 6, fun j => ?_⟩, htz.grow (U := F) hoF2⟩, hoF2⟩
  have old : ∀ k, F k → (if k < w.heap.size then tau k else 6) = tau k := fun k hk => if_pos (hF k hk)
  have up : ∀ k, Fr F tau j k → Fr (grow F w w2) (fun k => if k < w.heap.size then tau k else 6) j k := fun k hk => ⟨Or.inl hk.1, (old k hk.1).trans hk.2⟩
  have h2 : ∀ k, k ≠ A.h → k < w'.heap.size → w2.heap[k]? = w'.heap[k]? := fun k hk hl => ho.block k hl hk
  by_cases j6 : j = 6
  · subst j6
    have := SpF.stay (W' := w2) b1 (fun k hk => h2 k (fun e => ?_) ?_) A S
    · refine SpF.mono this (fun k hk => hk.elim (up k) (fun hk => ⟨Or.inr ⟨hk.1, by have := hk.2; omega⟩, ?_⟩))
      show (if k < w.heap.size then tau k else 6) = 6
      exact if_neg (by have := hk.1; omega)
    · rcases hk with hk | hk
      · rw [e] at hk; exact ne (by decide) hk h9.1
      · have := hk.1; omega
    · rcases hk with hk | hk
      · exact Nat.lt_of_lt_of_le (hF k hk.1) hoF.size
      · exact hk.2
  by_cases j1 : j = 1
  · subst j1
    exact StF.mono (StF.kept b2 (fun k hk hl => h2 k (fun e => by rw [e] at hk; exact ne (by decide) hk h9.1) hl)) up
  by_cases j9 : j = 9
  · subst j9
    exact ⟨up _ h9.1, hh⟩
  by_cases j10 : j = 10
  · subst j10; intro h; cases h
  by_cases j11 : j = 11
  · subst j11; intro h; cases h
  have e : PP A { S with ps := S.ps ++ S.ps2, a := if 0 < S.en2 then S.a2 else S.a, en := if 0 < S.en2 then S.en2 else S.en, on := false } j = PP A S j := by
    unfold PP
    split <;> first | rfl | exact absurd rfl j6 | exact absurd rfl j1 | exact absurd rfl j9 | exact absurd rfl j10 | exact absurd rfl j11
  rw [e]
  exact (pp_parts A S).mono j w2 _ _ ((pp_parts A S).kept j w w2 _ (ht j) (fun k hk hl => (h2 k (fun e => j9 (by rw [← hk.2, e, h9.1.2])) (Nat.lt_of_lt_of_le hl hoF.size)).trans (hkeep j k j6 j1 j10 hk))) up
end Go.Proofs.YtcdpnfchmpncjaaGreatDoor
