/-
  Package tree's tree and the document's beside each other; an act done to both; what is told of a number.
-/
import Derived.Test.YtaljeadagiifnaaRef10B
import Derived.Test.YtaljeadagiifnaaTree7
set_option linter.unusedSimpArgs false
set_option linter.unusedVariables false
namespace Go.Proofs.Ytaljeadagiifnaa
open Go.RowKit Go.Tr

/-- Since w0: at g a tree that holds S, at m the document's, which holds R. -/
def Both (w0 : World) (g bm m : Nat) (w : World) (S R : TS) : Prop := ∃ F, TInv w0 w g bm S ∧ RefP 44 w m F (refP R) ∧ R.WF ∧ ∀ k, F k → w0.heap.size ≤ k ∧ k < w.heap.size ∧ k ≠ g ∧ k ≠ bm
variable {w0 w w' : World} {g bm m : Nat} {S S' R R' : TS}
theorem Both.read (h : Both w0 g bm m w S R) (hb : Below w.heap.size w w') : Both w0 g bm m w' S R := by
  obtain ⟨F, h1, h2, h3, h4⟩ := h
  exact ⟨F, h1.read hb, h2.below hb, h3, fun k hk => ⟨(h4 k hk).1, Nat.lt_of_lt_of_le (h4 k hk).2.1 hb.size, (h4 k hk).2.2⟩⟩
theorem Both.alloc (h : Both w0 g bm m w S R) (o : Obj) : Both w0 g bm m (w.alloc o) S R := h.read ((Below.refl _ w).alloc (Nat.le_refl _) o)
theorem Both.drawn (h : Both w0 g bm m w S R) (hd : Drawn w w') : Both w0 g bm m w' S R := h.read (hd.below _)
theorem Both.wf (h : Both w0 g bm m w S R) : S.WF := by obtain ⟨F, h1, _⟩ := h; exact h1.wf
theorem Both.below (h : Both w0 g bm m w S R) : Below w0.heap.size w0 w := by obtain ⟨F, h1, _⟩ := h; exact h1.below
theorem Both.tlt (h : Both w0 g bm m w S R) : g < w.heap.size ∧ bm < w.heap.size := by obtain ⟨F, h1, _⟩ := h; exact h1.tree.lt
/-- The tree has been written. -/
theorem both_tree {F : Nat → Prop} (h2 : RefP 44 w m F (refP R)) (h3 : R.WF) (h4 : ∀ k, F k → w0.heap.size ≤ k ∧ k < w.heap.size ∧ k ≠ g ∧ k ≠ bm) (k1 : TInv w0 w' g bm S') (k2 : Only (Fp g bm) w w') : Both w0 g bm m w' S' R :=
  ⟨F, k1, h2.only k2 (fun k hk hf => hf.elim (h4 k hk).2.2.1 (h4 k hk).2.2.2), h3, fun k hk => ⟨(h4 k hk).1, Nat.lt_of_lt_of_le (h4 k hk).2.1 k2.size, (h4 k hk).2.2⟩⟩
/-- The document's has been written. -/
theorem both_ref {F : Nat → Prop} (h1 : TInv w0 w g bm S) (h4 : ∀ k, F k → w0.heap.size ≤ k ∧ k < w.heap.size ∧ k ≠ g ∧ k ≠ bm) (k1 : RefP 44 w' m (grow F w w') (refP R')) (k2 : Only F w w') (h3 : R'.WF) : Both w0 g bm m w' S R' := by
  have hg := h1.tree.lt
  have hF : ∀ k, F k → w0.heap.size ≤ k := fun k hk => (h4 k hk).1
  refine ⟨grow F w w', ⟨h1.tree.only k2 (fun hf => (h4 _ hf).2.2.1 rfl) (fun hf => (h4 _ hf).2.2.2 rfl), h1.wf, h1.below.trans (k2.below h1.below.size hF), h1.newg, h1.newb⟩, k1, h3, fun k hk => ?_⟩
  rcases hk with hk | hk
  · exact ⟨(h4 k hk).1, Nat.lt_of_lt_of_le (h4 k hk).2.1 k2.size, (h4 k hk).2.2⟩
  · exact ⟨Nat.le_trans h1.below.size hk.1, hk.2, by omega, by omega⟩
theorem addB (p : Int) (w : World) (h : Both w0 g bm m w S R) (hl : S.last ≤ 1000000) : Calls Try.prog 16 #[.pointer (some ⟨g, 0, none⟩), .int .i64 p] w fun e w' => e = .returned (.tuple #[.int .i64 (S.addX p), .int .i64 (S.addE p)]) ∧ Both w0 g bm m w' (S.addS p) R ∧ Only (Fp g bm) w w' := by
  obtain ⟨F, h1, h2, h3, h4⟩ := h
  exact (addT p w h1 hl).mono fun e w' ⟨e1, e2, e3⟩ => ⟨e1, both_tree h2 h3 h4 e2 e3, e3⟩
theorem mergeB (id : Int) (w : World) (h : Both w0 g bm m w S R) (hl : S.last ≤ 1000000) : Calls Try.prog 14 #[.pointer (some ⟨g, 0, none⟩), .int .i64 id] w fun e w' => e = .returned (.tuple #[.int .i64 (S.par id), .int .i64 (S.mergeE id)]) ∧ Both w0 g bm m w' (S.mergeS id) R ∧ Only (Fp g bm) w w' := by
  obtain ⟨F, h1, h2, h3, h4⟩ := h
  exact (mergeT id w h1 hl).mono fun e w' ⟨e1, e2, e3⟩ => ⟨e1, both_tree h2 h3 h4 e2 e3, e3⟩
theorem freeB (id : Int) (w : World) (h : Both w0 g bm m w S R) : Calls Try.prog 17 #[.pointer (some ⟨g, 0, none⟩), .int .i64 id] w fun e w' => ∃ a n c zs, e = .returned (.tuple #[.slice a n c, .int .i64 (TS.needE S id)]) ∧ w'.ownsRow w.heap.size 3 1 (.slice a n c) n (ints zs) ∧ zs.length = n ∧ n ≤ 64 ∧ UnderOf S id zs ∧ Both w0 g bm m w' (S.free zs) R ∧ Only (Fp g bm) w w' ∧ ∃ F, RefP 44 w' m F (refP R) ∧ (∀ k, F k → k < w.heap.size) ∧ (∀ k, F k → w0.heap.size ≤ k ∧ k < w'.heap.size ∧ k ≠ g ∧ k ≠ bm) ∧ TInv w0 w' g bm (S.free zs) := by
  obtain ⟨F, h1, h2, h3, h4⟩ := h
  refine (tfree_any id w h1.tree h1.wf).mono ?_
  rintro e w' ⟨v, zs, rfl, ho, hr, hm, hl, ht, hb⟩
  obtain ⟨a, c, rfl, -, -, -⟩ := ownsRow_seq ho
  have hu : UnderOf S id zs := ⟨hr, hm⟩
  have ht' := h1.write ht (hu.wf h1.wf) hb
  refine ⟨a, _, c, zs, rfl, ho, rfl, hl, hu, both_tree h2 h3 h4 ht' hb, hb, F, h2.only hb (fun k hk hf => hf.elim (h4 k hk).2.2.1 (h4 k hk).2.2.2), fun k hk => (h4 k hk).2.1, fun k hk => ⟨(h4 k hk).1, Nat.lt_of_lt_of_le (h4 k hk).2.1 hb.size, (h4 k hk).2.2⟩, ht'⟩
theorem add10B (p : Int) (w : World) (h : Both w0 g bm m w S R) (hl : R.last ≤ 900000) : Calls Try.prog 29 #[.pointer (some ⟨m, 0, none⟩), .int .i64 p] w fun e w' => e = .returned (.tuple #[.int .i64 (R.addX p), .int .i64 (R.addE p)]) ∧ Both w0 g bm m w' S (R.addS p) := by
  obtain ⟨F, h1, h2, h3, h4⟩ := h
  exact (radd_any p w h2 h3 hl).mono fun e w' ⟨e1, e2, e3⟩ => ⟨e1, both_ref h1 h4 e2 e3 (h3.addS p)⟩
theorem merge10B (id : Int) (w : World) (h : Both w0 g bm m w S R) (hl : R.last ≤ 900000) : Calls Try.prog 32 #[.pointer (some ⟨m, 0, none⟩), .int .i64 id] w fun e w' => e = .returned (.tuple #[.int .i64 (R.par id), .int .i64 (R.mergeE id)]) ∧ Both w0 g bm m w' S (R.mergeS id) := by
  obtain ⟨F, h1, h2, h3, h4⟩ := h
  exact (rmerge_any id w h2 h3 hl).mono fun e w' ⟨e1, e2, e3⟩ => ⟨e1, both_ref h1 h4 (e2.mono (fun _ hk => Or.inl hk)) e3 (h3.mergeS id)⟩
theorem live10B (x : Int) (w : World) (h : Both w0 g bm m w S R) (hl : R.last ≤ 900000) : Calls Try.prog 30 #[.pointer (some ⟨m, 0, none⟩), .int .i64 x] w fun e w' => e = .returned (.bool (R.has x)) ∧ w = w' := by
  obtain ⟨F, h1, h2, h3, h4⟩ := h
  exact rlive_any x w h2 h3 (by omega)
theorem liveB (x : Int) (w : World) (h : Both w0 g bm m w S R) : Calls Try.prog 15 #[.pointer (some ⟨g, 0, none⟩), .int .i64 x] w fun e w' => e = .returned (.bool (S.has x)) ∧ w = w' := by
  obtain ⟨F, h1, _⟩ := h; exact liveT x w h1
theorem lenB (w : World) (h : Both w0 g bm m w S R) : Calls Try.prog 19 #[.pointer (some ⟨g, 0, none⟩)] w fun e w' => e = .returned (.int .i64 S.tab.length) ∧ w = w' := by
  obtain ⟨F, h1, _⟩ := h; exact lenT w h1
theorem parentB (x : Int) (w : World) (h : Both w0 g bm m w S R) : Calls Try.prog 11 #[.pointer (some ⟨g, 0, none⟩), .int .i64 x] w fun e w' => e = .returned (.tuple #[.int .i64 (S.par x), .int .i64 (TS.needE S x)]) ∧ w = w' := by
  obtain ⟨F, h1, _⟩ := h; exact parentT x w h1
theorem kidsB (id : Int) (w : World) (h : Both w0 g bm m w S R) : Calls Try.prog 12 #[.pointer (some ⟨g, 0, none⟩), .int .i64 id] w fun e w' => ∃ a n c zs, e = .returned (.tuple #[.slice a n c, .int .i64 (TS.kidsE S id)]) ∧ w'.ownsRow w.heap.size 3 1 (.slice a n c) n (ints zs) ∧ zs.length = n ∧ n ≤ 64 ∧ KidsOf S id zs ∧ Both w0 g bm m w' S R := by
  have h' := h
  obtain ⟨F, h1, _⟩ := h
  exact (kidsO id w h1).mono fun e w' ⟨a, n, c, zs, e1, e2, e3, e4, e5, e6, e7⟩ => ⟨a, n, c, zs, e1, e2, e3, e4, e5, h'.read e7⟩
theorem underB (id : Int) (w : World) (h : Both w0 g bm m w S R) : Calls Try.prog 13 #[.pointer (some ⟨g, 0, none⟩), .int .i64 id] w fun e w' => ∃ a n c zs, e = .returned (.tuple #[.slice a n c, .int .i64 (TS.needE S id)]) ∧ w'.ownsRow w.heap.size 3 1 (.slice a n c) n (ints zs) ∧ zs.length = n ∧ n ≤ 64 ∧ UnderOf S id zs ∧ Both w0 g bm m w' S R ∧ Below w.heap.size w w' := by
  have h' := h
  obtain ⟨F, h1, _⟩ := h
  exact (underO id w h1).mono fun e w' ⟨a, n, c, zs, e1, e2, e3, e4, e5, e6, e7⟩ => ⟨a, n, c, zs, e1, e2, e3, e4, e5, h'.read e7, e7⟩
theorem kids10B (id : Int) (w : World) (h : Both w0 g bm m w S R) (hl : R.last ≤ 900000) (hi : 0 ≤ id) : Calls Try.prog 33 #[.pointer (some ⟨m, 0, none⟩), .int .i64 id] w fun e w' => ∃ a c zs, e = .returned (.slice a zs.length c) ∧ SeqAt w' a (ints zs) ∧ KidsOf R id zs ∧ Both w0 g bm m w' S R ∧ Below w.heap.size w w' := by
  have h' := h
  obtain ⟨F, h1, h2, h3, h4⟩ := h
  refine (rkids_any id w h2 h3 (by omega) hi).mono ?_
  rintro e w' ⟨v, rfl, ho, hb⟩
  obtain ⟨a, c, rfl, hs, -, -⟩ := ownsRow_seq ho
  exact ⟨a, c, _, rfl, hs, kids_pick h3 hi, h'.read hb, hb⟩
theorem under10B (id : Int) (w : World) (h : Both w0 g bm m w S R) (hl : R.last ≤ 900000) (hi : R.has id = true) : Calls Try.prog 34 #[.pointer (some ⟨m, 0, none⟩), .int .i64 id] w fun e w' => ∃ a c zs, e = .returned (.slice a zs.length c) ∧ SeqAt w' a (ints zs) ∧ UnderOf R id zs ∧ Both w0 g bm m w' S R ∧ Below w.heap.size w w' := by
  have h' := h
  obtain ⟨F, h1, h2, h3, h4⟩ := h
  refine (runder_any id w h2 h3 (by omega) hi).mono ?_
  rintro e w' ⟨v, rfl, ho, hb⟩
  obtain ⟨a, c, rfl, hs, -, -⟩ := ownsRow_seq ho
  exact ⟨a, c, _, rfl, hs, under_pick h3 hi, h'.read hb, hb⟩
theorem all10B (w : World) (h : Both w0 g bm m w S R) (hl : R.last ≤ 900000) : Calls Try.prog 23 #[.pointer (some ⟨m, 0, none⟩)] w fun e w' => ∃ a c, e = .returned (.slice a R.tab.length c) ∧ Both w0 g bm m w' S R := by
  have h' := h
  obtain ⟨F, h1, h2, h3, h4⟩ := h
  refine (rall_any w h2 h3 (by omega)).mono ?_
  rintro e w' ⟨v, rfl, ho, hb⟩
  obtain ⟨a, c, rfl, hs, -, -⟩ := ownsRow_seq ho
  exact ⟨a, c, by rw [all_length h3], h'.read hb⟩
theorem arg_kept {a b : Int} (hl : g < w.heap.size ∧ bm < w.heap.size) (ho : Only (Fp g bm) (w.alloc (.cells #[.int .i64 a, .int .i64 b] 41)) w') : w'.cell? ⟨w.heap.size, 1, none⟩ = some (.int .i64 b) := by
  have h1 := ho.block w.heap.size (by simp) (fun hf => by rcases hf with h | h <;> omega)
  rw [World.cell?_of_block (a := ⟨w.heap.size, 1, none⟩) h1]
  exact cell_of_row _ _ 1 _ 41 (0, 0) (heap_alloc_new w _)
theorem same_self (a b : Option Addr) (ca cb n : Nat) (zs : List Int) (w : World) (ha : SeqAt w a (ints zs)) (hb : SeqAt w b (ints zs)) (hn : zs.length = n) (hm : n ≤ 9223372036854775807) :
    Calls Try.prog 24 #[.slice a n ca, .slice b n cb] w fun e w' => e = .returned (.bool true) ∧ Drawn w w' := by
  have := same_any a b n ca n cb zs zs w ha hb hn hn hm
  rw [show sameL zs zs = true from (sameL_iff _ _).2 rfl] at this
  exact this

set_option maxRecDepth 100000 in
set_option maxHeartbeats 1000000 in
theorem tdo_any (ak an : Int) (w : World) (h : Both w0 g bm m w S S) (hl : S.last ≤ 800000) :
    Calls Try.prog 21 #[.agg #[.int .i64 ak, .int .i64 an], .pointer (some ⟨g, 0, none⟩), .pointer (some ⟨m, 0, none⟩)] w fun e w' => e = .returned (.bool true) ∧ ∃ S', Both w0 g bm m w' S' S' ∧ S'.last ≤ S.last + 1 := by
  have HB := Lib.hid (h.alloc (.cells #[.int .i64 ak, .int .i64 an] 41))
  have HLT := Lib.hid h.tlt
  have HL := Lib.hid hl
  clear h hl
  by_cases e0 : ak = 0
  · subst e0
    have HLA := Lib.hid (last_addS S an).2
    go_enter Try.func21, Try.ntmps21
    go_wp2_with fail
    refine (addB an _ HB.out (by have := HL.out; omega)).mono ?_
    rintro e w2 ⟨rfl, hb, ho2⟩
    have hcn := arg_kept HLT.out ho2
    clear ho2
    have HB2 := Lib.hid hb
    obtain ⟨ax, hax⟩ : ∃ ax, ax = S.addX an := ⟨_, rfl⟩
    obtain ⟨ae, hae⟩ : ∃ ae, ae = S.addE an := ⟨_, rfl⟩
    rw [← hax, ← hae]
    have HX := Lib.hid hax.symm
    have HE := Lib.hid hae.symm
    clear hb hax hae HB
    go_wp2_with fail
    refine (add10B an _ HB2.out (by have := HL.out; omega)).mono ?_
    rintro e w3 ⟨rfl, hb⟩
    have HB3 := Lib.hid hb
    rw [HX.out, HE.out]
    clear hb HB2
    go_wp2_with fail
    go_ret
    exact ⟨rfl, _, HB3.out, HLA.out⟩
  · have d0 : (ak == 0) = false := by simpa using e0
    by_cases e1 : ak = 1
    · subst e1
      cases hlv : S.has an
      · have HLV := Lib.hid hlv
        have HE : Hid (TS.needE S an = 6) := by show _ = _; unfold TS.needE; rw [if_neg (by rw [hlv]; decide)]
        clear hlv
        go_enter Try.func21, Try.ntmps21
        go_wp2_with fail
        refine (freeB an _ HB.out).mono ?_
        rintro e w2 ⟨a, n, c, zs, rfl, ho, hn, hn64, hu, hb, ho2, -⟩
        have hcn := arg_kept HLT.out ho2
        clear ho2
        have hz := hu.dead HLV.out
        subst hz
        rw [free_nil] at hb
        rw [HE.out]
        obtain rfl : n = 0 := hn.symm
        have HB2 := Lib.hid hb
        clear ho hn hu hb HB
        go_wp2_with fail
        refine (live10B an _ HB2.out (by have := HL.out; omega)).mono ?_
        rintro e w3 ⟨rfl, rfl⟩
        rw [HLV.out]
        go_wp2_with fail
        go_ret
        exact ⟨rfl, _, HB2.out, by omega⟩
      · have HLV := Lib.hid hlv
        have HE : Hid (TS.needE S an = 0) := by show _ = _; unfold TS.needE; rw [if_pos hlv]
        clear hlv
        go_enter Try.func21, Try.ntmps21
        go_wp2_with fail
        refine (freeB an _ HB.out).mono ?_
        rintro e w2 ⟨a, n, c, zs, rfl, ho, hn, hn64, hu, hb, ho2, F, hr, hF, h4, hti⟩
        have hcn := arg_kept HLT.out ho2
        clear ho2
        rw [HE.out]
        have HO := Lib.hid ho
        have HN := Lib.hid hn
        have HU := Lib.hid hu
        have HB2 := Lib.hid hb
        have HRF := Lib.hid hr
        have HF := Lib.hid hF
        have H4 := Lib.hid h4
        have HT := Lib.hid hti
        have HWF := Lib.hid HB.out.wf
        clear ho hn hu hb hr hF h4 hti HB
        go_wp2_with fail
        refine (live10B an _ HB2.out (by have := HL.out; omega)).mono ?_
        rintro e w3 ⟨rfl, rfl⟩
        rw [HLV.out]
        go_wp2_with fail
        refine (rfree_any an _ HRF.out HWF.out (by have := HL.out; omega) HLV.out).mono ?_
        rintro e w4 ⟨a2, c2, zs2, rfl, hs2, hz2, hu2, hr2, ho2⟩
        have hzz := hu2.same HU.out
        subst hzz
        rw [HN.out]
        have HS2 := Lib.hid hs2
        have HS1 := Lib.hid (ownsRow_seq' (ownsRow_kept HO.out (fun k hk => ho2.block k (HO.out.lt k hk).2 (fun hf => by have := HF.out k hf; have := (HO.out.lt k hk).1; omega))))
        have HB4 := Lib.hid (both_ref HT.out H4.out (hr2.mono (fun _ hk => Or.inl hk)) ho2 HT.out.wf)
        have hm : n ≤ 9223372036854775807 := by omega
        clear hs2 hz2 hu2 hr2 ho2 HO HB2 HRF HF H4 HT
        go_wp2_with fail
        refine (same_self _ _ _ _ _ _ _ HS1.out HS2.out HN.out hm).mono ?_
        rintro e w5 ⟨rfl, hd⟩
        have HB5 := Lib.hid (HB4.out.drawn hd)
        clear hd
        go_wp2_with fail
        go_ret
        exact ⟨rfl, _, HB5.out, by rw [last_free]; omega⟩
    · have d1 : (ak == 1) = false := by simpa using e1
      by_cases e2 : ak = 2
      · subst e2
        have HLM := Lib.hid (last_mergeS S an)
        go_enter Try.func21, Try.ntmps21
        go_wp2_with fail
        refine (mergeB an _ HB.out (by have := HL.out; omega)).mono ?_
        rintro e w2 ⟨rfl, hb, ho2⟩
        have hcn := arg_kept HLT.out ho2
        clear ho2
        have HB2 := Lib.hid hb
        obtain ⟨ax, hax⟩ : ∃ ax, ax = S.par an := ⟨_, rfl⟩
        obtain ⟨ae, hae⟩ : ∃ ae, ae = S.mergeE an := ⟨_, rfl⟩
        rw [← hax, ← hae]
        have HX := Lib.hid hax.symm
        have HE := Lib.hid hae.symm
        clear hb hax hae HB
        go_wp2_with fail
        refine (merge10B an _ HB2.out (by have := HL.out; omega)).mono ?_
        rintro e w3 ⟨rfl, hb⟩
        have HB3 := Lib.hid hb
        rw [HX.out, HE.out]
        clear hb HB2
        go_wp2_with fail
        go_ret
        exact ⟨rfl, _, HB3.out, by rw [HLM.out]; omega⟩
      · have d2 : (ak == 2) = false := by simpa using e2
        go_enter Try.func21, Try.ntmps21
        go_wp2_with fail
        go_ret
        exact ⟨rfl, _, HB.out, by omega⟩
end Go.Proofs.Ytaljeadagiifnaa
