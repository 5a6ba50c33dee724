/-
  turnrowlaw10.alive, turnrowlaw10.grown: the walks.
-/
import Derived.Test.YtaljeadagiifnaaTree3
import Derived.Test.YtaljeadagiifnaaSame
set_option linter.unusedSimpArgs false
set_option linter.unusedVariables false
namespace Go.Proofs.Ytaljeadagiifnaa
open Go.RowKit Go.Tr

/-- Since w0 a tree has been made at g, and what there was stands. -/
structure TInv (w0 w : World) (g bm : Nat) (S : TS) : Prop where
  tree : TreeAt w g bm S
  wf : S.WF
  below : Below w0.heap.size w0 w
  newg : w0.heap.size ≤ g
  newb : w0.heap.size ≤ bm
variable {w0 w w' : World} {g bm : Nat} {S S' : TS}
theorem TInv.read (h : TInv w0 w g bm S) (hb : Below w.heap.size w w') : TInv w0 w' g bm S := ⟨h.tree.below hb, h.wf, h.below.trans (hb.mono h.below.size), h.newg, h.newb⟩
theorem TInv.write (h : TInv w0 w g bm S) (ht : TreeAt w' g bm S') (hw : S'.WF) (ho : Only (Fp g bm) w w') : TInv w0 w' g bm S' :=
  ⟨ht, hw, h.below.trans (ho.below h.below.size (fun k hk => by have := h.newg; have := h.newb; rcases hk with rfl | rfl <;> omega)), h.newg, h.newb⟩
theorem TInv.alloc (h : TInv w0 w g bm S) (o : Obj) : TInv w0 (w.alloc o) g bm S := h.read ((Below.refl _ w).alloc (Nat.le_refl _) o)
theorem TInv.drawn (h : TInv w0 w g bm S) (hd : Drawn w w') : TInv w0 w' g bm S := h.read (hd.below _)

theorem newT (w : World) : Calls Try.prog 18 #[] w fun e w' => ∃ g bm, e = .returned (.pointer (some ⟨g, 0, none⟩)) ∧ TInv w w' g bm TS.new :=
  (tnew_any w).mono fun e w' ⟨g, bm, h1, h2, h3, h4, h5⟩ => ⟨g, bm, h1, h2, TS.WF.new, h3, h4, h5⟩
theorem liveT (x : Int) (w : World) (h : TInv w0 w g bm S) : Calls Try.prog 15 #[.pointer (some ⟨g, 0, none⟩), .int .i64 x] w fun e w' => e = .returned (.bool (S.has x)) ∧ w = w' := tlive_any x w h.tree
theorem lenT (w : World) (h : TInv w0 w g bm S) : Calls Try.prog 19 #[.pointer (some ⟨g, 0, none⟩)] w fun e w' => e = .returned (.int .i64 S.tab.length) ∧ w = w' := tlen_any w h.tree
theorem parentT (x : Int) (w : World) (h : TInv w0 w g bm S) : Calls Try.prog 11 #[.pointer (some ⟨g, 0, none⟩), .int .i64 x] w fun e w' => e = .returned (.tuple #[.int .i64 (S.par x), .int .i64 (TS.needE S x)]) ∧ w = w' := tparent_any x w h.tree
/-- Those right below one, rising. -/
def KidsOf (S : TS) (id : Int) (zs : List Int) : Prop := zs.Pairwise (· < ·) ∧ ∀ x, x ∈ zs ↔ lookA S.tab x = some id
def UnderOf (S : TS) (id : Int) (zs : List Int) : Prop := zs.Pairwise (· < ·) ∧ ∀ x, x ∈ zs ↔ S.has id = true ∧ Desc S.tab id x
theorem kidsT (id : Int) (w : World) (h : TInv w0 w g bm S) : Calls Try.prog 12 #[.pointer (some ⟨g, 0, none⟩), .int .i64 id] w fun e w' => ∃ a n c zs, e = .returned (.tuple #[.slice a n c, .int .i64 (TS.kidsE S id)]) ∧ SeqAt w' a (ints zs) ∧ zs.length = n ∧ n ≤ 64 ∧ KidsOf S id zs ∧ TInv w0 w' g bm S ∧ Below w.heap.size w w' := by
  refine (tkids_any id w h.tree h.wf).mono ?_
  rintro e w' ⟨v, zs, rfl, ho, hr, hm, hl, hb⟩
  obtain ⟨a, c, rfl, hs, -, -⟩ := ownsRow_seq ho
  exact ⟨a, _, c, zs, rfl, hs, rfl, hl, ⟨hr, hm⟩, h.read hb, hb⟩
theorem underT (id : Int) (w : World) (h : TInv w0 w g bm S) : Calls Try.prog 13 #[.pointer (some ⟨g, 0, none⟩), .int .i64 id] w fun e w' => ∃ a n c zs, e = .returned (.tuple #[.slice a n c, .int .i64 (TS.needE S id)]) ∧ SeqAt w' a (ints zs) ∧ zs.length = n ∧ n ≤ 64 ∧ UnderOf S id zs ∧ TInv w0 w' g bm S ∧ Below w.heap.size w w' := by
  refine (tunder_any id w h.tree h.wf).mono ?_
  rintro e w' ⟨v, zs, rfl, ho, hr, hm, hl, hb⟩
  obtain ⟨a, c, rfl, hs, -, -⟩ := ownsRow_seq ho
  exact ⟨a, _, c, zs, rfl, hs, rfl, hl, ⟨hr, hm⟩, h.read hb, hb⟩
theorem UnderOf.wf {zs : List Int} {id : Int} (h : UnderOf S id zs) (hS : S.WF) : (S.free zs).WF := by
  by_cases hd : S.has id = true
  · exact hS.free (id := id) (fun x => (h.2 x).trans ⟨fun h => h.2, fun h => ⟨hd, h⟩⟩)
  · have : zs = [] := by
      cases zs with
      | nil => rfl
      | cons x t => exact absurd ((h.2 x).1 (by simp)).1 hd
    rw [this, free_nil]; exact hS
theorem freeT (id : Int) (w : World) (h : TInv w0 w g bm S) : Calls Try.prog 17 #[.pointer (some ⟨g, 0, none⟩), .int .i64 id] w fun e w' => ∃ a n c zs, e = .returned (.tuple #[.slice a n c, .int .i64 (TS.needE S id)]) ∧ SeqAt w' a (ints zs) ∧ zs.length = n ∧ n ≤ 64 ∧ UnderOf S id zs ∧ TInv w0 w' g bm (S.free zs) ∧ Only (Fp g bm) w w' := by
  refine (tfree_any id w h.tree h.wf).mono ?_
  rintro e w' ⟨v, zs, rfl, ho, hr, hm, hl, ht, hb⟩
  obtain ⟨a, c, rfl, hs, -, -⟩ := ownsRow_seq ho
  have hu : UnderOf S id zs := ⟨hr, hm⟩
  exact ⟨a, _, c, zs, rfl, hs, rfl, hl, hu, h.write ht (hu.wf h.wf) hb, hb⟩
theorem addT (p : Int) (w : World) (h : TInv w0 w g bm S) (hl : S.last ≤ 1000000) : Calls Try.prog 16 #[.pointer (some ⟨g, 0, none⟩), .int .i64 p] w fun e w' => e = .returned (.tuple #[.int .i64 (S.addX p), .int .i64 (S.addE p)]) ∧ TInv w0 w' g bm (S.addS p) ∧ Only (Fp g bm) w w' :=
  (tadd_any p w h.tree h.wf hl).mono fun e w' ⟨h1, h2, h3⟩ => ⟨h1, h.write h2 (h.wf.addS p) h3, h3⟩
theorem mergeT (id : Int) (w : World) (h : TInv w0 w g bm S) (hl : S.last ≤ 1000000) : Calls Try.prog 14 #[.pointer (some ⟨g, 0, none⟩), .int .i64 id] w fun e w' => e = .returned (.tuple #[.int .i64 (S.par id), .int .i64 (S.mergeE id)]) ∧ TInv w0 w' g bm (S.mergeS id) ∧ Only (Fp g bm) w w' :=
  (tmerge_any id w h.tree h.wf hl).mono fun e w' ⟨h1, h2, h3⟩ => ⟨h1, h.write h2 (h.wf.mergeS id) h3, h3⟩

/-! ### the document's example -/
def exS (k : Nat) : TS := ([0, 1, 1, 2].take k).foldl TS.addS TS.new
theorem ex_step (k : Nat) (hk : k < 4) : ∃ p, [(0 : Int), 1, 1, 2][k]? = some p ∧ (exS k).addX p = k + 1 ∧ (exS k).addE p = 0 ∧ (exS k).addS p = exS (k + 1) ∧ (exS k).last ≤ 1000000 := by
  match k, hk with
  | 0, _ => exact ⟨0, rfl, by decide, by decide, rfl, by decide⟩
  | 1, _ => exact ⟨1, rfl, by decide, by decide, rfl, by decide⟩
  | 2, _ => exact ⟨1, rfl, by decide, by decide, rfl, by decide⟩
  | 3, _ => exact ⟨2, rfl, by decide, by decide, rfl, by decide⟩
theorem ex_end : (exS 4).par 2 = 1 ∧ (exS 4).mergeE 2 = 0 ∧ (exS 4).last ≤ 1000000 ∧ TS.kidsE ((exS 4).mergeS 2) 1 = 0 := ⟨by decide, by decide, by decide, by decide⟩
theorem ex_kids {zs : List Int} (h : KidsOf ((exS 4).mergeS 2) 1 zs) : zs = [3, 4] := by
  refine rises_eq h.1 (by decide) (fun z => ?_)
  rw [h.2]
  have e : ((exS 4).mergeS 2).tab = [(1, 0), (3, 1), (4, 1)] := by decide
  rw [e]
  by_cases h1 : z = 1
  · subst h1; decide
  · by_cases h3 : z = 3
    · subst h3; decide
    · by_cases h4 : z = 4
      · subst h4; decide
      · have e1 : ((1 : Int) == z) = false := by simpa using fun e => h1 e.symm
        have e3 : ((3 : Int) == z) = false := by simpa using fun e => h3 e.symm
        have e4 : ((4 : Int) == z) = false := by simpa using fun e => h4 e.symm
        simp [lookA, e1, e3, e4, h3, h4]

set_option maxRecDepth 100000 in
set_option maxHeartbeats 1000000 in
theorem alive10_any (w : World) : Calls Try.prog 10 #[] w fun e w' => e = .returned (.bool true) ∧ Below w.heap.size w w' := by
  go_enter Try.func10, Try.ntmps10
  go_wp2_with fail
  refine (newT _).mono ?_
  rintro e w1 ⟨g, bm, rfl, hi⟩
  have HI := Lib.hid hi
  clear hi
  have HL0 : Hid (SeqAt (w1.alloc (.cells #[iv 0, iv 1, iv 1, iv 2] 3)) (some ⟨w1.heap.size, 0, none⟩) (ints [0, 1, 1, 2])) := seqAt_block (cs := #[iv 0, iv 1, iv 1, iv 2]) (heap_alloc_new w1 _)
  have HI1 := Lib.hid (HI.out.alloc (.cells #[iv 0, iv 1, iv 1, iv 2] 3))
  have hgl := HI.out.tree.lt
  obtain ⟨nb, hnb⟩ : ∃ nb, nb = w1.heap.size := ⟨_, rfl⟩
  rw [← hnb] at HL0 hgl
  go_wp2_with fail
  rw [← hnb]
  clear hnb HI
  go_loopw [15] (fun i wr => ∃ k : Nat, k ≤ 4 ∧ i = .int .i64 k ∧ Hid (TInv w wr g bm (exS k)) ∧ Hid (SeqAt wr (some ⟨nb, 0, none⟩) (ints [0, 1, 1, 2]))) (fun i _ => 4 - (intOf i).toNat)
  case atStart => exact ⟨0, by omega, rfl, HI1, HL0⟩
  case round =>
    clear HI1 HL0
    obtain ⟨k, hk, rfl, HI, HL⟩ := hrel
    by_cases hlt : k < 4
    · obtain ⟨p, hp, hx, he, hs, hla⟩ := ex_step k hlt
      have HX := Lib.hid hx
      have HE := Lib.hid he
      have HS := Lib.hid hs
      obtain ⟨b, off, x, hbo, hc, HXX⟩ := HL.out.ints (k := k) hlt
      cases hbo
      have hxp : x = p := by have := HXX.out; rw [hp] at this; simpa using this.symm
      subst hxp
      have HLA := Lib.hid hla
      clear hx he hs hp hla HXX
      have hlt' : (k : Int) < 4 := by omega
      simp only [Nat.zero_add] at hc
      go_wp2_with fail
      refine (addT x _ HI.out HLA.out).mono ?_
      rintro e w2 ⟨rfl, hi2, ho2⟩
      rw [HX.out, HE.out]
      rw [HS.out] at hi2
      have HI2 := Lib.hid hi2
      have HL2 : Hid (SeqAt w2 (some ⟨nb, 0, none⟩) (ints [0, 1, 1, 2])) := HL.out.only ho2 (fun _ b o e hf => by cases e; rcases hf with rfl | rfl <;> omega)
      clear hi2 ho2
      go_wp2
      go_roundw
      case rel => exact ⟨k + 1, by omega, by go_num, HI2, HL2⟩
      case measure => simp [intOf]; omega
    · have hk4 : k = 4 := by omega
      subst hk4
      have hlt' : ¬ (((4 : Nat) : Int) < 4) := by omega
      obtain ⟨e1, e2, e3, e4⟩ := ex_end
      have E1 := Lib.hid e1
      have E2 := Lib.hid e2
      have E3 := Lib.hid e3
      have E4 := Lib.hid e4
      clear e1 e2 e3 e4 HL
      go_wp2_with fail
      refine (mergeT 2 _ HI.out E3.out).mono ?_
      rintro e w2 ⟨rfl, hi2, ho2⟩
      rw [E1.out, E2.out]
      have HI2 := Lib.hid hi2
      clear hi2 ho2
      go_wp2_with fail
      refine (kidsT 1 _ HI2.out).mono ?_
      rintro e w3 ⟨a, n, c, zs, rfl, hs, hl, hn, hko, hi3, hb3⟩
      have hz := ex_kids hko
      subst hz
      rw [E4.out]
      have HS := Lib.hid hs
      have HI3 := Lib.hid hi3
      obtain rfl : n = 2 := hl.symm
      clear hs hl hko hi3 hb3
      go_wp2_with fail
      refine (same_any a _ 2 c 2 2 [3, 4] [3, 4] _ ?h3 ?h4 rfl rfl (by decide)).mono ?_
      case h3 => exact HS.out.below ((Below.refl _ _).alloc (Nat.le_refl _) _) (Nat.le_refl _)
      case h4 => exact seqAt_block (cs := #[iv 3, iv 4]) (heap_alloc_new w3 _)
      rintro e w4 ⟨rfl, hd⟩
      rw [show sameL [3, 4] [3, 4] = true from rfl]
      have HI4 := Lib.hid ((HI3.out.alloc (.cells #[.int .i64 3, .int .i64 4] 3)).drawn hd)
      clear hd
      go_wp2
      go_ret
      exact ⟨rfl, HI4.out.below⟩
end Go.Proofs.Ytaljeadagiifnaa
