/-
  Parts of the proof, one behind the other: KEvac2, KEvac3.
-/
import Derived.Test.YtcdpnfchmpncjaaGreatDoorMa33
set_option linter.unusedSimpArgs false
set_option linter.unusedVariables false
namespace Go.Tr
open Go.RowKit
section
variable {P : Program} {ops : Array Oper} {md : Region.Mode} {Q : Exit → Act → World → Prop} {S : World → Prop}
theorem tku (i : Nat) {oi : Oper} {fuel : Nat} {listed : Array Bool} {a : Act} {w : World} (ho : (ops.toList.drop i).head? = some oi)
    (h : wpAnyH P md ops Q S fuel (listed.setIfInBounds i true) (a.put oi.dst undef) w) (hS : S w := by assumption)
    (hs : Region.noSelect ops = true := by kernel_rfl) (hf : Region.free md ops listed i = true := by kernel_rfl) (hr : (Region.ready md ops listed).contains i = true := by kernel_rfl)
    (hQ : ∀ c a w, Q (.panic c) (a.put oi.dst undef) w → Q (.panic c) a w := by exact fun _ _ _ h => h) (hw : Region.wanted oi (yielded ops a.tmps) = false := by rfl) : wpAnyH P md ops Q S (fuel + 1) listed a w :=
  wpAnyH_take (by have := at_drop ho; simpa using this) hs hf hr hQ (Or.inr ⟨hw, rfl⟩) hS h
end
end Go.Tr
namespace Go.Proofs.YtcdpnfchmpncjaaGreatDoor
open Go.RowKit Go.Tr Go.Shelf
variable {w w' : World} {F G : Nat → Prop} {A : Ad} {S S1 : HS}
theorem contains_any (a : Option Addr) (n c : Nat) (zs : List Int) (x : Int) (w : World) (h : SeqAt w a (ints zs)) (hl : zs.length = n) (hn : n ≤ 1000000) : Calls Tryz.prog 192 #[.slice a n c, .int .i64 x] w fun e w' => e = .returned (.bool (hasL zs x)) ∧ w' = w := by
  have hc : ∀ zs : List Int, zs.contains x = hasL zs x := fun zs => by rw [Bool.eq_iff_iff, hasL_iff, List.contains_iff_mem]
  by_cases h0 : n = 0
  · subst h0
    have hz : zs = [] := List.eq_nil_of_length_eq_zero hl
    subst hz
    exact (Any.slices_Contains_int_empty laysContains a c x w).mono fun e w' ⟨h1, h2⟩ => ⟨h1, h2⟩
  · obtain ⟨b, off, rfl, hcell⟩ := h (by rw [ints_length]; omega)
    refine (Any.slices_Contains_int laysContains b off n c zs x w (by omega) (by omega) (fun j hj => ?_)).mono fun e w' ⟨h1, h2⟩ => ⟨by rw [h1, List.take_of_length_le (by omega), hc], h2⟩
    rw [hcell j (by rw [ints_length]; exact hj)]
    simp [ints, List.getD, hj, iv]
structure SpOk (ps : List (Nat × Nat)) : Prop where
  n : ps.length ≤ 100000
  l : (chunksL ps).length ≤ 100000
  b : ∀ p ∈ ps, p.1 + p.2 ≤ 1048576
theorem HeapF.chunks (h : HeapF w F A S) (hs : SpOk S.ps) {W : World} (hb : Below w.heap.size w W) : Calls Tryz.prog 69 #[.pointer (some ⟨A.u, 0, none⟩)] W fun e w' => ∃ v, e = .returned v ∧ own3 w' 3 W.heap.size v (chunksL S.ps) ∧ Below W.heap.size W w' := by
  obtain ⟨G, hG, h1⟩ := (h.below hb).1.read 6
  have h2 : SpF 154 W G A.u A.s 1 S.ps S.a S.en := h1
  exact uchunks_any W h2 hs.n hs.l hs.b
theorem HeapF.big (h : HeapF w F A S) (hs : SpOk S.ps) (c : Nat) {W : World} (hb : Below w.heap.size w W) : Calls Tryz.prog 152 #[.pointer (some ⟨A.u, 0, none⟩), .int .i64 c] W fun e w' => e = .returned (.bool (bigPart S.ps c)) ∧ Below W.heap.size W w' := by
  obtain ⟨G, hG, h1⟩ := (h.below hb).1.read 6
  have h2 : SpF 154 W G A.u A.s 1 S.ps S.a S.en := h1
  exact ubig_any c W h2 (by have := hs.n; omega) hs.b
theorem HeapF.words (h : HeapF w F A S) {W : World} (hb : Below w.heap.size w W) : Calls Tryz.prog 68 #[.pointer (some ⟨A.s, 0, none⟩)] W fun e w' => e = .returned (.int .i64 S.Wd) ∧ W = w' := by
  obtain ⟨G, hG, h1⟩ := (h.below hb).1.read 1
  exact swords_any W h1
theorem HeapF.wd (h : HeapF w F A S) : 1 ≤ S.Wd ∧ S.Wd ≤ 1024 := by
  obtain ⟨G, hG, h1⟩ := h.1.read 1
  obtain ⟨wb, ob, m, Fm, h2, -⟩ : StF w G A.s S.C S.Wd S.ws S.own := h1
  exact h2.wd
set_option maxRecDepth 100000 in
set_option maxHeartbeats 2000000 in
theorem efirst_any (ad : Nat) (w : World) (h : HeapF w F A S) (hon : S.on = true) (hs : SpOk S.ps) (had : ad ≤ 1048576) : Calls Tryz.prog 153 #[.pointer (some ⟨A.h, 0, none⟩), .int .i64 ad] w fun e w' => e = .returned (.bool (hasL (chunksL S.ps) ((ad / S.Wd : Nat) : Int))) ∧ Below w.heap.size w w' := by
  have HE := Lib.hid (fun W (hb : Below w.heap.size w W) => h.evf hon hb)
  have HF := Lib.hid (fun W (hb : Below w.heap.size w W) => h.fields hb)
  have HLS := Lib.hid (fun W (hb : Below w.heap.size w W) => h.lookSpace hb)
  have HCH := Lib.hid (fun W (hb : Below w.heap.size w W) => h.chunks hs hb)
  have HWD := Lib.hid (fun W (hb : Below w.heap.size w W) => h.words hb)
  have hw0 : ¬ (S.Wd = 0) := by have := h.wd; omega
  have hwr : IntKind.i64.wrap ((ad / S.Wd : Nat) : Int) = ((ad / S.Wd : Nat) : Int) := by
    have h1 := Nat.div_le_self ad S.Wd
    obtain ⟨q, hq⟩ : ∃ q, q = ad / S.Wd := ⟨_, rfl⟩
    rw [← hq] at h1 ⊢
    rw [IntWalk.i64_in _ (by omega)]
  have hq : (ad : Int) / (S.Wd : Int) = ((ad / S.Wd : Nat) : Int) := by push_cast; rfl
  have HL : Hid ((chunksL S.ps).length ≤ 100000) := hs.l
  obtain ⟨wd, hwd⟩ : ∃ wd, wd = S.Wd := ⟨_, rfl⟩
  obtain ⟨q, hqd⟩ : ∃ q, q = ad / S.Wd := ⟨_, rfl⟩
  rw [← hqd] at hq hwr ⊢
  rw [← hwd] at hq hw0 HWD
  obtain ⟨zs, hzs⟩ : ∃ zs, zs = chunksL S.ps := ⟨_, rfl⟩
  rw [← hzs] at HCH HL ⊢
  obtain ⟨n, hn⟩ : ∃ n, n = w.heap.size := ⟨_, rfl⟩
  have HN : Hid (n = w.heap.size) := hn
  rw [← hn] at HE HF HLS HCH HWD ⊢
  clear h hon hs had hwd hqd hzs hn
  go_enter Tryz.func153, Tryz.ntmps153
  go_wp2_with fail
  refine wp_region_held_drew (S := Below n w) (by kernel_rfl) (Below.refl n w).drew (fun hH => ?_)
  refine tk 0 (v := ?_) rfl ?_ ?_; rotate_left; · intro W hW; obtain ⟨e0, e1, -⟩ := HE.out W hW; obtain ⟨c0, -, -, -, -, -, c6, -⟩ := HF.out W hW; go_simp; try with_reducible rfl
  try simp only [Act.put, List.setIfInBounds_toArray, List.set_cons_zero, List.set_cons_succ]
  refine tk 1 (v := ?_) rfl ?_ ?_; rotate_left; · intro W hW; obtain ⟨e0, e1, -⟩ := HE.out W hW; obtain ⟨c0, -, -, -, -, -, c6, -⟩ := HF.out W hW; go_simp; try with_reducible rfl
  try simp only [Act.put, List.setIfInBounds_toArray, List.set_cons_zero, List.set_cons_succ]
  refine tk 2 (v := ?_) rfl ?_ ?_; rotate_left; · intro W hW; obtain ⟨e0, e1, -⟩ := HE.out W hW; obtain ⟨c0, -, -, -, -, -, c6, -⟩ := HF.out W hW; go_simp; try with_reducible rfl
  try simp only [Act.put, List.setIfInBounds_toArray, List.set_cons_zero, List.set_cons_succ]
  refine tk 3 (v := ?_) rfl ?_ ?_; rotate_left; · intro W hW; obtain ⟨e0, e1, -⟩ := HE.out W hW; obtain ⟨c0, -, -, -, -, -, c6, -⟩ := HF.out W hW; go_simp; try with_reducible rfl
  try simp only [Act.put, List.setIfInBounds_toArray, List.set_cons_zero, List.set_cons_succ]
  refine tk 4 (v := ?_) rfl ?_ ?_; rotate_left; · intro W hW; obtain ⟨e0, e1, -⟩ := HE.out W hW; obtain ⟨c0, -, -, -, -, -, c6, -⟩ := HF.out W hW; go_simp; try with_reducible rfl
  try simp only [Act.put, List.setIfInBounds_toArray, List.set_cons_zero, List.set_cons_succ]
  refine tk 5 (v := ?_) rfl ?_ ?_; rotate_left; · intro W hW; obtain ⟨e0, e1, -⟩ := HE.out W hW; obtain ⟨c0, -, -, -, -, -, c6, -⟩ := HF.out W hW; go_simp; try with_reducible rfl
  try simp only [Act.put, List.setIfInBounds_toArray, List.set_cons_zero, List.set_cons_succ]
  refine tk 6 (v := ?_) rfl ?_ ?_; rotate_left; · intro W hW; obtain ⟨e0, e1, -⟩ := HE.out W hW; obtain ⟨c0, -, -, -, -, -, c6, -⟩ := HF.out W hW; go_simp; try with_reducible rfl
  try simp only [Act.put, List.setIfInBounds_toArray, List.set_cons_zero, List.set_cons_succ]
  refine tk 7 (v := ?_) rfl ?_ ?_; rotate_left; · intro W hW; obtain ⟨e0, e1, -⟩ := HE.out W hW; obtain ⟨c0, -, -, -, -, -, c6, -⟩ := HF.out W hW; go_simp; try with_reducible rfl
  try simp only [Act.put, List.setIfInBounds_toArray, List.set_cons_zero, List.set_cons_succ]
  refine tk 8 (v := ?_) rfl ?_ ?_; rotate_left; · intro W hW; obtain ⟨e0, e1, -⟩ := HE.out W hW; obtain ⟨c0, -, -, -, -, -, c6, -⟩ := HF.out W hW; go_simp; try with_reducible rfl
  try simp only [Act.put, List.setIfInBounds_toArray, List.set_cons_zero, List.set_cons_succ]
  refine tk 9 (v := ?_) rfl ?_ ?_; rotate_left; · intro W hW; obtain ⟨e0, e1, -⟩ := HE.out W hW; obtain ⟨c0, -, -, -, -, -, c6, -⟩ := HF.out W hW; go_simp; try with_reducible rfl
  try simp only [Act.put, List.setIfInBounds_toArray, List.set_cons_zero, List.set_cons_succ]
  refine tk 10 (v := ?_) rfl ?_ ?_; rotate_left; · intro W hW; obtain ⟨e0, e1, -⟩ := HE.out W hW; obtain ⟨c0, -, -, -, -, -, c6, -⟩ := HF.out W hW; go_simp; try with_reducible rfl
  try simp only [Act.put, List.setIfInBounds_toArray, List.set_cons_zero, List.set_cons_succ]
  refine tk 11 (v := .pointer (some ⟨A.u, 0, none⟩)) rfl (fun W hW => exec_look (.tmp 11) (.tmp 15) 53 rfl _ _ _ rfl rfl (HLS.out W hW)) ?_
  try simp only [Act.put, List.setIfInBounds_toArray, List.set_cons_zero, List.set_cons_succ]
  refine tk 13 (v := ?_) rfl ?_ ?_; rotate_left; · intro W hW; obtain ⟨e0, e1, -⟩ := HE.out W hW; obtain ⟨c0, -, -, -, -, -, c6, -⟩ := HF.out W hW; go_simp; try with_reducible rfl
  try simp only [Act.put, List.setIfInBounds_toArray, List.set_cons_zero, List.set_cons_succ]
  refine tk 14 (v := ?_) rfl ?_ ?_; rotate_left; · intro W hW; obtain ⟨e0, e1, -⟩ := HE.out W hW; obtain ⟨c0, -, -, -, -, -, c6, -⟩ := HF.out W hW; go_simp; try with_reducible rfl
  try simp only [Act.put, List.setIfInBounds_toArray, List.set_cons_zero, List.set_cons_succ]
  refine tk 15 (v := ?_) rfl ?_ ?_; rotate_left; · intro W hW; obtain ⟨e0, e1, -⟩ := HE.out W hW; obtain ⟨c0, -, -, -, -, -, c6, -⟩ := HF.out W hW; go_simp; try with_reducible rfl
  try simp only [Act.put, List.setIfInBounds_toArray, List.set_cons_zero, List.set_cons_succ]
  refine tk 16 (v := ?_) rfl ?_ ?_; rotate_left; · intro W hW; obtain ⟨e0, e1, -⟩ := HE.out W hW; obtain ⟨c0, -, -, -, -, -, c6, -⟩ := HF.out W hW; go_simp; try with_reducible rfl
  try simp only [Act.put, List.setIfInBounds_toArray, List.set_cons_zero, List.set_cons_succ]
  refine tk 17 (v := ?_) rfl ?_ ?_; rotate_left; · intro W hW; obtain ⟨e0, e1, -⟩ := HE.out W hW; obtain ⟨c0, -, -, -, -, -, c6, -⟩ := HF.out W hW; go_simp; try with_reducible rfl
  try simp only [Act.put, List.setIfInBounds_toArray, List.set_cons_zero, List.set_cons_succ]
  refine tk 18 (v := ?_) rfl ?_ ?_; rotate_left; · intro W hW; obtain ⟨e0, e1, -⟩ := HE.out W hW; obtain ⟨c0, -, -, -, -, -, c6, -⟩ := HF.out W hW; go_simp; try with_reducible rfl
  try simp only [Act.put, List.setIfInBounds_toArray, List.set_cons_zero, List.set_cons_succ]
  refine tk 19 (v := ?_) rfl ?_ ?_; rotate_left; · intro W hW; obtain ⟨e0, e1, -⟩ := HE.out W hW; obtain ⟨c0, -, -, -, -, -, c6, -⟩ := HF.out W hW; go_simp; try with_reducible rfl
  try simp only [Act.put, List.setIfInBounds_toArray, List.set_cons_zero, List.set_cons_succ]
  refine tk 20 (v := ?_) rfl ?_ ?_; rotate_left; · intro W hW; obtain ⟨e0, e1, -⟩ := HE.out W hW; obtain ⟨c0, -, -, -, -, -, c6, -⟩ := HF.out W hW; go_simp; try with_reducible rfl
  try simp only [Act.put, List.setIfInBounds_toArray, List.set_cons_zero, List.set_cons_succ]
  refine rd 12 rfl (fun K hK => ?_)
  go_simp
  refine (HCH.out _ hH).mono ?_
  rintro e w1 ⟨v, rfl, hv, hb⟩
  obtain ⟨a1, cp, rfl, hsq, -, -⟩ := ownsRow_seq hv
  have HSQ := Lib.hid hsq
  have HB1 : Hid (Below n w w1) := hH.trans (hb.mono (by rw [HN.out]; exact hH.size))
  refine hK.out _ _ HB1.out (fun hH => ?_)
  clear hK K hv hsq hb
  refine rd 21 rfl (fun K hK => ?_)
  go_simp
  refine (HWD.out _ hH).mono ?_
  rintro e w2 ⟨rfl, rfl⟩
  refine hK.out _ _ hH (fun hH => ?_)
  clear hK K
  refine tk 22 (v := ?_) rfl ?_ ?_; rotate_left; · intro W hW; go_simp; try with_reducible rfl
  try simp only [Act.put, List.setIfInBounds_toArray, List.set_cons_zero, List.set_cons_succ]
  refine rd 23 rfl (fun K hK => ?_)
  go_simp
  refine (contains_any a1 _ cp zs q w1 HSQ.out rfl (by have := HL.out; omega)).mono ?_
  rintro e w3 ⟨rfl, rfl⟩
  refine hK.out _ _ HB1.out (fun hH => ?_)
  clear hK K
  refine tk 24 (v := ?_) rfl ?_ ?_; rotate_left; · intro W hW; go_simp; try with_reducible rfl
  try simp only [Act.put, List.setIfInBounds_toArray, List.set_cons_zero, List.set_cons_succ]
  refine wpAnyH_done (by kernel_rfl) ?_ _
  go_wp2_with fail
  go_ret
  exact ⟨rfl, HB1.out⟩
set_option maxRecDepth 100000 in
set_option maxHeartbeats 4000000 in
theorem estays_any (ad rg : Nat) (hd : Bool) (w : World) (h : HeapF w F A S) (hon : S.on = true) (hs : SpOk S.ps) (had : ad ≤ 1048576) : Calls Tryz.prog 109 #[.pointer (some ⟨A.h, 0, none⟩), .agg #[.int .i64 ad, .int .i64 rg, .bool hd, .bool false]] w fun e w' => e = .returned (.bool (bigPart S.ps (ad / S.Wd) || !hasL (chunksL S.ps) ((ad / S.Wd : Nat) : Int))) ∧ Below w.heap.size w w' := by
  have hb1 : Below w.heap.size w (w.alloc (.cells #[.int .i64 ad, .int .i64 rg, .bool hd, .bool false] 93)) := (Below.refl _ w).alloc (Nat.le_refl _) _
  have h := h.below hb1
  have HB1 := Lib.hid hb1
  have HX1 : Hid ((w.alloc (.cells #[.int .i64 ad, .int .i64 rg, .bool hd, .bool false] 93)).heap[w.heap.size]? = some (.cells #[.int .i64 ad, .int .i64 rg, .bool hd, .bool false] 93 (0, 0))) := heap_alloc_new w _
  obtain ⟨xb, hxb⟩ : ∃ xb, xb = w.heap.size := ⟨_, rfl⟩
  rw [← hxb] at HX1
  have hw0 : ¬ (S.Wd = 0) := by have := h.wd; omega
  have hwr : IntKind.i64.wrap ((ad / S.Wd : Nat) : Int) = ((ad / S.Wd : Nat) : Int) := by
    have h1 := Nat.div_le_self ad S.Wd
    obtain ⟨q, hq⟩ : ∃ q, q = ad / S.Wd := ⟨_, rfl⟩
    rw [← hq] at h1 ⊢
    rw [IntWalk.i64_in _ (by omega)]
  have hq : (ad : Int) / (S.Wd : Int) = ((ad / S.Wd : Nat) : Int) := by push_cast; rfl
  have HH := Lib.hid h
  have HFI := Lib.hid (fun W (hb : Below (w.alloc (.cells #[.int .i64 ad, .int .i64 rg, .bool hd, .bool false] 93)).heap.size (w.alloc (.cells #[.int .i64 ad, .int .i64 rg, .bool hd, .bool false] 93)) W) => efirst_any ad W (h.below hb) hon hs had)
  have HBG := Lib.hid (fun W hb => h.big hs (ad / S.Wd) (W := W) hb)
  have HE := Lib.hid (fun W hb => h.evf hon (W := W) hb)
  have HF := Lib.hid (fun W hb => h.fields (W := W) hb)
  have HLS := Lib.hid (fun W hb => h.lookSpace (W := W) hb)
  have HWD := Lib.hid (fun W hb => h.words (W := W) hb)
  obtain ⟨wd, hwd⟩ : ∃ wd, wd = S.Wd := ⟨_, rfl⟩
  obtain ⟨q, hqd⟩ : ∃ q, q = ad / S.Wd := ⟨_, rfl⟩
  rw [← hqd] at hq hwr HFI HBG ⊢
  rw [← hwd] at hq hw0 HWD
  obtain ⟨bg, hbg⟩ : ∃ bg, bg = bigPart S.ps q := ⟨_, rfl⟩
  obtain ⟨bf, hbf⟩ : ∃ bf, bf = hasL (chunksL S.ps) (q : Int) := ⟨_, rfl⟩
  rw [← hbg] at HBG ⊢
  rw [← hbf] at HFI ⊢
  clear h hon hs had hwd hqd hbg hbf hb1
  go_enter Tryz.func109, Tryz.ntmps109
  go_wp2_with fail
  rw [← hxb]
  clear hxb
  generalize w.alloc (.cells #[.int .i64 ad, .int .i64 rg, .bool hd, .bool false] 93) = wa at *
  obtain ⟨n, hn⟩ : ∃ n, n = wa.heap.size := ⟨_, rfl⟩
  have HN : Hid (n = wa.heap.size) := hn
  rw [← hn] at HE HF HLS HBG HFI HWD
  clear hn
  have HX : Hid (∀ W, Below n wa W → W.cell? ⟨xb, 0, none⟩ = some (.int .i64 ad) ∧ W.cell? ⟨xb, 3, none⟩ = some (.bool false)) := fun W hb => by
    have ht := (hb.block xb (by rw [HN.out]; exact block_lt HX1.out)).trans HX1.out
    exact ⟨(cells_of_block ht 0).1, (cells_of_block ht 3).1⟩
  refine wp_region_held_drew (S := Below n wa) (by kernel_rfl) (Below.refl n wa).drew (fun hH => ?_)
  refine tk 0 (v := ?_) rfl ?_ ?_; rotate_left; · intro W hW; obtain ⟨e0, e1, -⟩ := HE.out W hW; obtain ⟨c0, -, -, -, -, -, c6, -⟩ := HF.out W hW; obtain ⟨x0, x3⟩ := HX.out W hW; go_simp; try with_reducible rfl
  try simp only [Act.put, List.setIfInBounds_toArray, List.set_cons_zero, List.set_cons_succ]
  refine tk 1 (v := ?_) rfl ?_ ?_; rotate_left; · intro W hW; obtain ⟨e0, e1, -⟩ := HE.out W hW; obtain ⟨c0, -, -, -, -, -, c6, -⟩ := HF.out W hW; obtain ⟨x0, x3⟩ := HX.out W hW; go_simp; try with_reducible rfl
  try simp only [Act.put, List.setIfInBounds_toArray, List.set_cons_zero, List.set_cons_succ]
  refine tk 2 (v := ?_) rfl ?_ ?_; rotate_left; · intro W hW; obtain ⟨e0, e1, -⟩ := HE.out W hW; obtain ⟨c0, -, -, -, -, -, c6, -⟩ := HF.out W hW; obtain ⟨x0, x3⟩ := HX.out W hW; go_simp; try with_reducible rfl
  try simp only [Act.put, List.setIfInBounds_toArray, List.set_cons_zero, List.set_cons_succ]
  refine tk 3 (v := ?_) rfl ?_ ?_; rotate_left; · intro W hW; obtain ⟨e0, e1, -⟩ := HE.out W hW; obtain ⟨c0, -, -, -, -, -, c6, -⟩ := HF.out W hW; obtain ⟨x0, x3⟩ := HX.out W hW; go_simp; try with_reducible rfl
  try simp only [Act.put, List.setIfInBounds_toArray, List.set_cons_zero, List.set_cons_succ]
  refine tk 4 (v := ?_) rfl ?_ ?_; rotate_left; · intro W hW; obtain ⟨e0, e1, -⟩ := HE.out W hW; obtain ⟨c0, -, -, -, -, -, c6, -⟩ := HF.out W hW; obtain ⟨x0, x3⟩ := HX.out W hW; go_simp; try with_reducible rfl
  try simp only [Act.put, List.setIfInBounds_toArray, List.set_cons_zero, List.set_cons_succ]
  refine tk 5 (v := ?_) rfl ?_ ?_; rotate_left; · intro W hW; obtain ⟨e0, e1, -⟩ := HE.out W hW; obtain ⟨c0, -, -, -, -, -, c6, -⟩ := HF.out W hW; obtain ⟨x0, x3⟩ := HX.out W hW; go_simp; try with_reducible rfl
  try simp only [Act.put, List.setIfInBounds_toArray, List.set_cons_zero, List.set_cons_succ]
  refine tk 6 (v := ?_) rfl ?_ ?_; rotate_left; · intro W hW; obtain ⟨e0, e1, -⟩ := HE.out W hW; obtain ⟨c0, -, -, -, -, -, c6, -⟩ := HF.out W hW; obtain ⟨x0, x3⟩ := HX.out W hW; go_simp; try with_reducible rfl
  try simp only [Act.put, List.setIfInBounds_toArray, List.set_cons_zero, List.set_cons_succ]
  refine tk 7 (v := ?_) rfl ?_ ?_; rotate_left; · intro W hW; obtain ⟨e0, e1, -⟩ := HE.out W hW; obtain ⟨c0, -, -, -, -, -, c6, -⟩ := HF.out W hW; obtain ⟨x0, x3⟩ := HX.out W hW; go_simp; try with_reducible rfl
  try simp only [Act.put, List.setIfInBounds_toArray, List.set_cons_zero, List.set_cons_succ]
  refine tk 8 (v := ?_) rfl ?_ ?_; rotate_left; · intro W hW; obtain ⟨e0, e1, -⟩ := HE.out W hW; obtain ⟨c0, -, -, -, -, -, c6, -⟩ := HF.out W hW; obtain ⟨x0, x3⟩ := HX.out W hW; go_simp; try with_reducible rfl
  try simp only [Act.put, List.setIfInBounds_toArray, List.set_cons_zero, List.set_cons_succ]
  refine tk 9 (v := ?_) rfl ?_ ?_; rotate_left; · intro W hW; obtain ⟨e0, e1, -⟩ := HE.out W hW; obtain ⟨c0, -, -, -, -, -, c6, -⟩ := HF.out W hW; obtain ⟨x0, x3⟩ := HX.out W hW; go_simp; try with_reducible rfl
  try simp only [Act.put, List.setIfInBounds_toArray, List.set_cons_zero, List.set_cons_succ]
  refine tk 10 (v := ?_) rfl ?_ ?_; rotate_left; · intro W hW; obtain ⟨e0, e1, -⟩ := HE.out W hW; obtain ⟨c0, -, -, -, -, -, c6, -⟩ := HF.out W hW; obtain ⟨x0, x3⟩ := HX.out W hW; go_simp; try with_reducible rfl
  try simp only [Act.put, List.setIfInBounds_toArray, List.set_cons_zero, List.set_cons_succ]
  refine tk 11 (v := ?_) rfl ?_ ?_; rotate_left; · intro W hW; obtain ⟨e0, e1, -⟩ := HE.out W hW; obtain ⟨c0, -, -, -, -, -, c6, -⟩ := HF.out W hW; obtain ⟨x0, x3⟩ := HX.out W hW; go_simp; try with_reducible rfl
  try simp only [Act.put, List.setIfInBounds_toArray, List.set_cons_zero, List.set_cons_succ]
  refine tk 12 (v := ?_) rfl ?_ ?_; rotate_left; · intro W hW; obtain ⟨e0, e1, -⟩ := HE.out W hW; obtain ⟨c0, -, -, -, -, -, c6, -⟩ := HF.out W hW; obtain ⟨x0, x3⟩ := HX.out W hW; go_simp; try with_reducible rfl
  try simp only [Act.put, List.setIfInBounds_toArray, List.set_cons_zero, List.set_cons_succ]
  refine tk 13 (v := ?_) rfl ?_ ?_; rotate_left; · intro W hW; obtain ⟨e0, e1, -⟩ := HE.out W hW; obtain ⟨c0, -, -, -, -, -, c6, -⟩ := HF.out W hW; obtain ⟨x0, x3⟩ := HX.out W hW; go_simp; try with_reducible rfl
  try simp only [Act.put, List.setIfInBounds_toArray, List.set_cons_zero, List.set_cons_succ]
  refine tk 14 (v := .pointer (some ⟨A.u, 0, none⟩)) rfl (fun W hW => exec_look (.tmp 14) (.tmp 18) 53 rfl _ _ _ rfl rfl (HLS.out W hW)) ?_
  try simp only [Act.put, List.setIfInBounds_toArray, List.set_cons_zero, List.set_cons_succ]
  refine tk 15 (v := ?_) rfl ?_ ?_; rotate_left; · intro W hW; obtain ⟨e0, e1, -⟩ := HE.out W hW; obtain ⟨c0, -, -, -, -, -, c6, -⟩ := HF.out W hW; obtain ⟨x0, x3⟩ := HX.out W hW; go_simp; try with_reducible rfl
  try simp only [Act.put, List.setIfInBounds_toArray, List.set_cons_zero, List.set_cons_succ]
  refine tk 16 (v := ?_) rfl ?_ ?_; rotate_left; · intro W hW; obtain ⟨e0, e1, -⟩ := HE.out W hW; obtain ⟨c0, -, -, -, -, -, c6, -⟩ := HF.out W hW; obtain ⟨x0, x3⟩ := HX.out W hW; go_simp; try with_reducible rfl
  try simp only [Act.put, List.setIfInBounds_toArray, List.set_cons_zero, List.set_cons_succ]
  refine tk 17 (v := ?_) rfl ?_ ?_; rotate_left; · intro W hW; obtain ⟨e0, e1, -⟩ := HE.out W hW; obtain ⟨c0, -, -, -, -, -, c6, -⟩ := HF.out W hW; obtain ⟨x0, x3⟩ := HX.out W hW; go_simp; try with_reducible rfl
  try simp only [Act.put, List.setIfInBounds_toArray, List.set_cons_zero, List.set_cons_succ]
  refine tk 18 (v := ?_) rfl ?_ ?_; rotate_left; · intro W hW; obtain ⟨e0, e1, -⟩ := HE.out W hW; obtain ⟨c0, -, -, -, -, -, c6, -⟩ := HF.out W hW; obtain ⟨x0, x3⟩ := HX.out W hW; go_simp; try with_reducible rfl
  try simp only [Act.put, List.setIfInBounds_toArray, List.set_cons_zero, List.set_cons_succ]
  refine tk 19 (v := ?_) rfl ?_ ?_; rotate_left; · intro W hW; obtain ⟨e0, e1, -⟩ := HE.out W hW; obtain ⟨c0, -, -, -, -, -, c6, -⟩ := HF.out W hW; obtain ⟨x0, x3⟩ := HX.out W hW; go_simp; try with_reducible rfl
  try simp only [Act.put, List.setIfInBounds_toArray, List.set_cons_zero, List.set_cons_succ]
  refine tk 20 (v := ?_) rfl ?_ ?_; rotate_left; · intro W hW; obtain ⟨e0, e1, -⟩ := HE.out W hW; obtain ⟨c0, -, -, -, -, -, c6, -⟩ := HF.out W hW; obtain ⟨x0, x3⟩ := HX.out W hW; go_simp; try with_reducible rfl
  try simp only [Act.put, List.setIfInBounds_toArray, List.set_cons_zero, List.set_cons_succ]
  refine tk 21 (v := ?_) rfl ?_ ?_; rotate_left; · intro W hW; obtain ⟨e0, e1, -⟩ := HE.out W hW; obtain ⟨c0, -, -, -, -, -, c6, -⟩ := HF.out W hW; obtain ⟨x0, x3⟩ := HX.out W hW; go_simp; try with_reducible rfl
  try simp only [Act.put, List.setIfInBounds_toArray, List.set_cons_zero, List.set_cons_succ]
  refine tk 22 (v := ?_) rfl ?_ ?_; rotate_left; · intro W hW; obtain ⟨e0, e1, -⟩ := HE.out W hW; obtain ⟨c0, -, -, -, -, -, c6, -⟩ := HF.out W hW; obtain ⟨x0, x3⟩ := HX.out W hW; go_simp; try with_reducible rfl
  try simp only [Act.put, List.setIfInBounds_toArray, List.set_cons_zero, List.set_cons_succ]
  refine tk 23 (v := ?_) rfl ?_ ?_; rotate_left; · intro W hW; obtain ⟨e0, e1, -⟩ := HE.out W hW; obtain ⟨c0, -, -, -, -, -, c6, -⟩ := HF.out W hW; obtain ⟨x0, x3⟩ := HX.out W hW; go_simp; try with_reducible rfl
  try simp only [Act.put, List.setIfInBounds_toArray, List.set_cons_zero, List.set_cons_succ]
  refine rd 24 rfl (fun K hK => ?_)
  go_simp
  refine (HWD.out _ hH).mono ?_
  rintro e w2 ⟨rfl, rfl⟩
  refine hK.out _ _ hH (fun hH => ?_)
  clear hK K
  refine tk 25 (v := ?_) rfl ?_ ?_; rotate_left; · intro W hW; go_simp; try with_reducible rfl
  try simp only [Act.put, List.setIfInBounds_toArray, List.set_cons_zero, List.set_cons_succ]
  refine rd 26 rfl (fun K hK => ?_)
  go_simp
  refine (HBG.out _ hH).mono ?_
  rintro e w1 ⟨rfl, hb⟩
  have HB2 : Hid (Below n wa w1) := hH.trans (hb.mono (by rw [HN.out]; exact hH.size))
  refine hK.out _ _ HB2.out (fun hH => ?_)
  clear hK K hb
  have HW : Hid (∀ W, Below n wa W → Below w.heap.size w W) := fun W hb => by rw [HN.out] at hb; exact HB1.out.trans (hb.mono HB1.out.size)
  cases bg
  · skip
    refine tk 27 (v := ?_) rfl ?_ ?_; rotate_left; · intro W hW; obtain ⟨x0, x3⟩ := HX.out W hW; go_simp; try with_reducible rfl
    try simp only [Act.put, List.setIfInBounds_toArray, List.set_cons_zero, List.set_cons_succ]
    refine tk 28 (v := ?_) rfl ?_ ?_; rotate_left; · intro W hW; obtain ⟨x0, x3⟩ := HX.out W hW; go_simp; try with_reducible rfl
    try simp only [Act.put, List.setIfInBounds_toArray, List.set_cons_zero, List.set_cons_succ]
    refine tk 29 (v := ?_) rfl ?_ ?_; rotate_left; · intro W hW; obtain ⟨x0, x3⟩ := HX.out W hW; go_simp; try with_reducible rfl
    try simp only [Act.put, List.setIfInBounds_toArray, List.set_cons_zero, List.set_cons_succ]
    refine tk 30 (v := ?_) rfl ?_ ?_; rotate_left; · intro W hW; obtain ⟨x0, x3⟩ := HX.out W hW; go_simp; try with_reducible rfl
    try simp only [Act.put, List.setIfInBounds_toArray, List.set_cons_zero, List.set_cons_succ]
    refine tk 31 (v := ?_) rfl ?_ ?_; rotate_left; · intro W hW; obtain ⟨x0, x3⟩ := HX.out W hW; go_simp; try with_reducible rfl
    try simp only [Act.put, List.setIfInBounds_toArray, List.set_cons_zero, List.set_cons_succ]
    refine rd 32 rfl (fun K hK => ?_)
    go_simp
    refine (HFI.out _ hH).mono ?_
    rintro e w3 ⟨rfl, hb⟩
    have HB3 : Hid (Below n wa w3) := hH.trans (hb.mono (by rw [HN.out]; exact hH.size))
    refine hK.out _ _ HB3.out (fun hH => ?_)
    clear hK K hb
    refine tk 33 (v := ?_) rfl ?_ ?_; rotate_left; · intro W hW; go_simp; try with_reducible rfl
    try simp only [Act.put, List.setIfInBounds_toArray, List.set_cons_zero, List.set_cons_succ]
    refine tk 34 (v := ?_) rfl ?_ ?_; rotate_left; · intro W hW; go_simp; try with_reducible rfl
    try simp only [Act.put, List.setIfInBounds_toArray, List.set_cons_zero, List.set_cons_succ]
    refine tk 35 (v := ?_) rfl ?_ ?_; rotate_left; · intro W hW; go_simp; try with_reducible rfl
    try simp only [Act.put, List.setIfInBounds_toArray, List.set_cons_zero, List.set_cons_succ]
    refine wpAnyH_done (by kernel_rfl) ?_ _
    go_wp2_with fail
    go_ret
    exact ⟨by simp, HW.out _ HB3.out⟩
  · skip
    refine tk 27 (v := ?_) rfl ?_ ?_; rotate_left; · intro W hW; go_simp; try with_reducible rfl
    try simp only [Act.put, List.setIfInBounds_toArray, List.set_cons_zero, List.set_cons_succ]
    refine tk 28 (v := ?_) rfl ?_ ?_; rotate_left; · intro W hW; go_simp; try with_reducible rfl
    try simp only [Act.put, List.setIfInBounds_toArray, List.set_cons_zero, List.set_cons_succ]
    refine tku 29 rfl ?_
    try simp only [Act.put, List.setIfInBounds_toArray, List.set_cons_zero, List.set_cons_succ]
    refine tku 30 rfl ?_
    try simp only [Act.put, List.setIfInBounds_toArray, List.set_cons_zero, List.set_cons_succ]
    refine tku 31 rfl ?_
    try simp only [Act.put, List.setIfInBounds_toArray, List.set_cons_zero, List.set_cons_succ]
    refine tku 32 rfl ?_
    try simp only [Act.put, List.setIfInBounds_toArray, List.set_cons_zero, List.set_cons_succ]
    refine tku 33 rfl ?_
    try simp only [Act.put, List.setIfInBounds_toArray, List.set_cons_zero, List.set_cons_succ]
    refine tk 34 (v := ?_) rfl ?_ ?_; rotate_left; · intro W hW; go_simp; try with_reducible rfl
    try simp only [Act.put, List.setIfInBounds_toArray, List.set_cons_zero, List.set_cons_succ]
    refine tk 35 (v := ?_) rfl ?_ ?_; rotate_left; · intro W hW; go_simp; try with_reducible rfl
    try simp only [Act.put, List.setIfInBounds_toArray, List.set_cons_zero, List.set_cons_succ]
    refine wpAnyH_done (by kernel_rfl) ?_ _
    go_wp2_with fail
    go_ret
    exact ⟨by simp, HW.out _ HB2.out⟩
end Go.Proofs.YtcdpnfchmpncjaaGreatDoor
namespace Go.Tr
theorem GS.Small.paint {S : GS} {N : Int} (h : S.Small N) (x : Int) : (S.paint x).Small (N + 1) := by
  obtain ⟨h1, h2, h3, h4, h5⟩ := h
  unfold GS.paint
  split
  · exact ⟨h1, by omega, by omega, by omega, by omega⟩
  · refine ⟨h1, ?_, ?_, ?_, ?_⟩ <;> simp only
    · omega
    · split <;> omega
    · split <;> omega
    · omega
end Go.Tr
namespace Go.Proofs.YtcdpnfchmpncjaaGreatDoor
open Go.RowKit Go.Tr Go.Shelf
variable {w w' : World} {F G : Nat → Prop} {A : Ad} {S S1 : HS}
theorem HeapF.setGray (h : HeapF w F A S) (hon : S.on = true) : ∃ G : Nat → Prop, GrayAt 165 w A.gl G S.gs ∧ (∀ k, G k → F k) ∧ ∀ gs w', GrayAt 165 w' A.gl (grow G w w') gs → Only G w w' → HeapF w' (grow F w w') A { S with gs := gs } ∧ Only F w w' := by
  obtain ⟨G, hG, h1, -, hb⟩ := h.1.part1 (pp_parts A S) 11
  refine ⟨G, h1 hon, hG, fun gs w' ht ho => HeapF.put h.2 (hb (PP A { S with gs := gs }) w' (pp_parts _ _) (fun j hj => ?_) (fun _ => ht) ho)⟩
  unfold PP
  split <;> first | rfl | exact absurd rfl hj
theorem HeapF.paint (h : HeapF w F A S) (hon : S.on = true) (hs : S.gs.Small 1000000) (x : Int) : Calls Tryz.prog 38 #[.pointer (some ⟨A.gl, 0, none⟩), .int .i64 x] w fun e w' => (∃ b, e = .returned (.bool b)) ∧ HeapF w' (grow F w w') A { S with gs := S.gs.paint x } ∧ Only F w w' := by
  obtain ⟨G, hg, hG, hput⟩ := h.setGray hon
  exact (paint_any x w hg hs).mono fun e w' ⟨e1, e2, e3⟩ => ⟨⟨_, e1⟩, hput _ w' e2 e3⟩
theorem HeapF.gput (h : HeapF w F A S) (hon : S.on = true) (hs : S.gs.Small 999999) (x : Int) (b : Nat) {W : World} (hb : Below w.heap.size w W) (hx : W.heap[b]? = some (.cells #[.int .i64 x] 3 (0, 0))) (hn : w.heap.size ≤ b) :
    Calls Tryz.prog 58 #[.pointer (some ⟨A.gl, 0, none⟩), .slice (some ⟨b, 0, none⟩) 1 1] W fun e w' => (∃ k, e = .returned (.int .i64 k)) ∧ HeapF w' (grow F W w') A { S with gs := S.gs.put1 x } ∧ Only F W w' := by
  obtain ⟨G, hg, hG, hput⟩ := (h.below hb).setGray hon
  have hsq : SeqAt W (some ⟨b, 0, none⟩) (ints [x]) := SeqAt.of_block (cs := [.int .i64 x]) hx
  exact (put_any (some ⟨b, 0, none⟩) 1 1 [x] W hg hsq rfl (fun _ b' o e => by cases e; exact ⟨fun hf => by have := h.lt b (hG b hf); omega, block_lt hx⟩) (by simpa using hs)).mono fun e w' ⟨e1, e2, e3⟩ => ⟨⟨_, e1⟩, hput _ w' e2 e3⟩
def AllocTo (S : HS) (n addr : Nat) (S' : HS) : Prop :=
  (S.a2 + n ≤ S.en2 ∧ addr = S.a2 ∧ S' = { S with a2 := S.a2 + n }) ∨
  (S.en2 < S.a2 + n ∧ ∃ c q, q = (n - 1) / S.Wd ∧ c + (q + 1) ≤ S.C ∧ (∀ i, c ≤ i → i < c + (q + 1) → S.own.getD i 0 = 0) ∧ addr = c * S.Wd ∧
    S' = { S with ps2 := S.ps2 ++ [(c, q + 1)], a2 := if q = 0 then c * S.Wd + n else S.a2, en2 := if q = 0 then (c + 1) * S.Wd else S.en2, ws := putAt S.ws (c * S.Wd) (List.replicate ((q + 1) * S.Wd) 0), own := putAt S.own c (List.replicate (q + 1) 1) })
def RoomTo (S : HS) (n : Nat) : Prop := S.a2 ≤ S.en2 ∧ S.en2 ≤ 1048576 ∧ S.ps2.length ≤ 100000 ∧ 1 ≤ n ∧ n ≤ 1048576 ∧ (S.a2 + n ≤ S.en2 ∨ ∃ c, c + ((n - 1) / S.Wd + 1) ≤ S.C ∧ ∀ i, c ≤ i → i < c + ((n - 1) / S.Wd + 1) → S.own.getD i 0 = 0)
theorem HeapF.allocTo (h : HeapF w F A S) (hon : S.on = true) {n : Nat} (hr : RoomTo S n) : Calls Tryz.prog 88 #[.pointer (some ⟨A.u2, 0, none⟩), .int .i64 n] w fun e w' => ∃ addr S', e = .returned (.tuple #[.int .i64 (addr : Nat), .int .i64 0]) ∧ AllocTo S n addr S' ∧ HeapF w' (grow F w w') A S' ∧ Only F w w' := by
  obtain ⟨h1, h2, h3, h4, h5, h6⟩ := hr
  by_cases hlt : S.a2 + n ≤ S.en2
  · obtain ⟨G, hG, hp, -, hb⟩ := h.1.part1 (pp_parts A S) 10
    refine (uallocR_any n w (hp hon) h4 hlt h2).mono ?_
    rintro e w' ⟨rfl, e2, e3, -⟩
    refine ⟨S.a2, { S with a2 := S.a2 + n }, rfl, Or.inl ⟨hlt, rfl, rfl⟩, HeapF.put h.2 (hb (PP A { S with a2 := S.a2 + n }) w' (pp_parts _ _) (fun j hj => ?_) (fun _ => SpF.mono e2 (fun k hk => Or.inl hk)) e3)⟩
    unfold PP
    split <;> first | rfl | exact absurd rfl hj
  · obtain ⟨G, H, hG, hH, hd, hp, hst, hb⟩ := h.1.part2 (pp_parts A S) 10 1 (by decide)
    have hfree := h6.resolve_left hlt
    refine (uallocN_any n _ w (hp hon) hst hd h.2.at rfl h4 h5 h1 (by omega) h2 (Nat.le_refl _) (by decide) h3 hfree).mono ?_
    rintro e w' ⟨c, rfl, a1, a2, a3, a4, a5⟩
    refine ⟨c * S.Wd, _, rfl, Or.inr ⟨by omega, c, _, rfl, a1, a2, rfl, rfl⟩, HeapF.put h.2 (hb (PP A _) w' (pp_parts _ _) (fun j hj hj2 => ?_) (fun _ => a3) a4 a5)⟩
    unfold PP
    split <;> first | rfl | exact absurd rfl hj | exact absurd rfl hj2
structure MvOk (S : HS) (ta fr count i : Nat) : Prop where
  obj : ObjAt S.C S.Wd S.L S.ws S.own fr count i
  f : fr + (S.L.size count + 1) ≤ S.C * S.Wd
  t : ta + (S.L.size count + 1) ≤ S.C * S.Wd
  fo : Owned S.own S.Wd fr (S.L.size count + 1)
  tow : Owned S.own S.Wd ta (S.L.size count + 1)
theorem HeapF.move (h : HeapF w F A S) {ta fr count i : Nat} (hm : MvOk S ta fr count i) : Calls Tryz.prog 110 #[.pointer (some ⟨A.m, 0, none⟩), .int .i64 ta, .int .i64 fr] w fun e w' => e = .returned (.tuple #[.int .i64 (S.L.size count + 1 : Nat), .int .i64 0]) ∧ HeapF w' (grow F w w') A { S with ws := putAt S.ws ta ((S.ws.drop fr).take (S.L.size count + 1)) } ∧ Only F w w' := by
  obtain ⟨G, H, hI, hG, hmm, hput⟩ := h.setStore
  exact (imove_any ta fr count i w hI hm.obj hm.f hm.t hm.fo hm.tow).mono fun e w' ⟨e1, e2, e3⟩ => ⟨e1, hput _ w' e2 e3⟩
theorem HeapF.iat (h : HeapF w F A S) {x : Sl} {i count : Nat} (ho : ObjOk S i x count) {W : World} (hb : Below w.heap.size w W) : Calls Tryz.prog 67 #[.pointer (some ⟨A.m, 0, none⟩), .int .i64 x.addr] W fun e w' => e = .returned (.tuple #[.agg #[.int .i64 1, .int .i64 count, .int .i64 i], .int .i64 (S.L.size count + 1 : Nat), .int .i64 0]) ∧ Below W.heap.size W w' := by
  obtain ⟨G, H, hi, -⟩ := (h.below hb).img
  exact iat_any x.addr count i W hi ho.obj
def MovedSt (S : HS) (i : Nat) (x : Sl) (n : Nat) (S2 : HS) : Prop :=
  ((bigPart S.ps (x.addr / S.Wd) || !hasL (chunksL S.ps) ((x.addr / S.Wd : Nat) : Int)) = true ∧ S2 = S) ∨
  ((bigPart S.ps (x.addr / S.Wd) || !hasL (chunksL S.ps) ((x.addr / S.Wd : Nat) : Int)) = false ∧ ∃ addr S1, AllocTo S n addr S1 ∧ S2 = { S1 with ws := putAt S1.ws addr ((S1.ws.drop x.addr).take n), sl := S1.sl.set i ⟨x.gen, x.used, addr, x.region, x.held, x.pinned⟩ })
theorem AllocTo.same {n addr : Nat} {S' : HS} (h : AllocTo S n addr S') : S'.C = S.C ∧ S'.Wd = S.Wd ∧ S'.K = S.K ∧ S'.L = S.L ∧ S'.sl = S.sl ∧ S'.mine = S.mine ∧ S'.ps = S.ps ∧ S'.on = S.on ∧ S'.gs = S.gs ∧ S'.a = S.a ∧ S'.en = S.en := by
  rcases h with ⟨_, _, e⟩ | ⟨_, c, q, _, _, _, _, e⟩ <;> rw [e] <;> exact ⟨rfl, rfl, rfl, rfl, rfl, rfl, rfl, rfl, rfl, rfl, rfl⟩
theorem MovedSt.same {i n : Nat} {x : Sl} {S2 : HS} (h : MovedSt S i x n S2) : S2.C = S.C ∧ S2.Wd = S.Wd ∧ S2.K = S.K ∧ S2.L = S.L ∧ S2.mine = S.mine ∧ S2.ps = S.ps ∧ S2.on = S.on ∧ S2.gs = S.gs := by
  rcases h with ⟨_, e⟩ | ⟨_, addr, S1, ha, e⟩
  · rw [e]; exact ⟨rfl, rfl, rfl, rfl, rfl, rfl, rfl, rfl⟩
  · obtain ⟨h1, h2, h3, h4, h5, h6, h7, h8, h9, -⟩ := ha.same
    rw [e]; exact ⟨h1, h2, h3, h4, h6, h7, h8, h9⟩
end Go.Proofs.YtcdpnfchmpncjaaGreatDoor
