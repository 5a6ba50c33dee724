/-
  Package bag at int: the walks of New, First, Has, Len.
-/
import Derived.Test.YthfdigjbmoconaaSortB
import Derived.Test.YthfdigjbmoconaaFoot
set_option linter.unusedSimpArgs false
set_option linter.unusedVariables false
namespace Go.Proofs.Ythfdigjbmoconaa
open Go.RowKit Go.Tr

/-- Since a world whose heap had the size n₀: at g a bag that has zs, whose slice v is its own. -/
structure BagAt (n₀ : Nat) (w : World) (g : Nat) (v : Value) (zs : List Int) : Prop where
  block : w.heap[g]? = some (.cells #[v] 59 (0, 0))
  own : own3 w 3 n₀ v zs
  ne : v.ownBlock ≠ some g
  newg : n₀ ≤ g
  rises : zs.Pairwise (· < ·)
variable {n₀ : Nat} {w w' : World} {g : Nat} {v : Value} {zs : List Int}
theorem BagAt.lt (h : BagAt n₀ w g v zs) : g < w.heap.size := (Array.getElem?_eq_some_iff.1 h.block).1
theorem ownsRow_kept {w w' : World} {base : Nat} {e : TypeId} {size n : Nat} {v : Value} {xs : List Value} (h : w.ownsRow base e size v n xs) (hk : ∀ k, v.ownBlock = some k → w'.heap[k]? = w.heap[k]?) : w'.ownsRow base e size v n xs := by
  obtain ⟨h1, h2⟩ := h
  refine ⟨h1, h2.imp id ?_⟩
  rintro ⟨k, cap, cur, rfl, h3, h4, h5⟩
  exact ⟨k, cap, cur, rfl, h3, (hk k rfl).trans h4, h5⟩
theorem BagAt.kept (h : BagAt n₀ w g v zs) (h1 : w'.heap[g]? = w.heap[g]?) (h2 : ∀ k, v.ownBlock = some k → w'.heap[k]? = w.heap[k]?) : BagAt n₀ w' g v zs :=
  ⟨h1.trans h.block, ownsRow_kept h.own h2, h.ne, h.newg, h.rises⟩
theorem BagAt.below (h : BagAt n₀ w g v zs) (hb : Below w.heap.size w w') : BagAt n₀ w' g v zs := h.kept (hb.block _ h.lt) (fun k hk => hb.block _ (h.own.lt k hk).2)
theorem BagAt.head (h : BagAt n₀ w g v zs) : w.cell? ⟨g, 0, none⟩ = some v ∧ w.frozen? ⟨g, 0, none⟩ = false := ⟨cell_of_row w g 0 _ _ (0, 0) h.block, by simp [World.frozen?, h.block]⟩
theorem BagAt.seq (h : BagAt n₀ w g v zs) : ∃ a c, v = .slice a zs.length c ∧ SeqAt w a (ints zs) := by
  obtain ⟨a, c, rfl, hs, -, -⟩ := ownsRow_seq h.own
  exact ⟨a, c, rfl, hs⟩

set_option maxRecDepth 100000 in
theorem bnew_any (a : Option Addr) (n c : Nat) (zs : List Int) (w : World) (h : SeqAt w a (ints zs)) (hl : zs.length = n) (hs : n ≤ 1000000) :
    Calls Try.prog 9 #[.slice a n c] w fun e w' => ∃ g v, e = .returned (.pointer (some ⟨g, 0, none⟩)) ∧ BagAt w.heap.size w' g v (setL zs) ∧ Below w.heap.size w w' := by
  have HC := Lib.hid (clone_any a n c zs w h hl hs)
  have hsl : zs.length ≤ 1000000 := by omega
  have HL := Lib.hid hsl
  clear h hl hsl
  go_enter Try.func9, Try.ntmps9
  go_wp2_with fail
  refine HC.out.mono ?_
  rintro e w1 ⟨v1, rfl, ho, hb⟩
  have HO := Lib.hid ho
  have HB := Lib.hid hb
  clear ho hb HC
  go_wp2_with fail
  refine (sort_own w.heap.size v1 zs _ HO.out (by have := HL.out; omega)).mono ?_
  rintro e w2 ⟨rfl, ho, hg⟩
  have HB2 := Lib.hid (HB.out.grown hg HB.out.size (fun k hk => (HO.out.lt k hk).1))
  have HO2 := Lib.hid ho
  clear ho hg HO HB
  go_wp2_with fail
  refine (compact_own w.heap.size v1 (sortL zs) _ HO2.out (by rw [sortL_length]; have := HL.out; omega) (compact_le _)).mono ?_
  rintro e w3 ⟨v3, rfl, ho, hg, -⟩
  have HB3 := Lib.hid (HB2.out.grown hg HB2.out.size (fun k hk => (HO2.out.lt k hk).1))
  have HO3 := Lib.hid ho
  clear ho hg HO2 HB2
  obtain ⟨va, vc, rfl, -, -, -⟩ := ownsRow_seq HO3.out
  go_wp2_with fail
  go_ret
  refine ⟨_, _, rfl, ⟨heap_alloc_new w3 _, ownsRow_kept HO3.out (fun k hk => Below.heap_alloc _ _ _ (HO3.out.lt k hk).2), fun e => ?_, HB3.out.size, setL_rises zs⟩, HB3.out.alloc HB3.out.size _⟩
  have := (HO3.out.lt _ e).2
  omega

theorem blen_any (w : World) (h : BagAt n₀ w g v zs) : Calls Try.prog 15 #[.pointer (some ⟨g, 0, none⟩)] w fun e w' => e = .returned (.int .i64 zs.length) ∧ w = w' := by
  obtain ⟨c0, f0⟩ := h.head
  obtain ⟨a, c, rfl, -⟩ := h.seq
  clear h
  go_enter Try.func15, Try.ntmps15
  go_wp2_with fail
  go_ret
  exact ⟨rfl, rfl⟩
theorem bhas_any (x : Int) (w : World) (h : BagAt n₀ w g v zs) (hl : zs.length ≤ 1000000) : Calls Try.prog 14 #[.pointer (some ⟨g, 0, none⟩), .int .i64 x] w fun e w' => e = .returned (.bool (hasL zs x)) ∧ Drawn w w' := by
  obtain ⟨c0, f0⟩ := h.head
  obtain ⟨a, c, rfl, hs⟩ := h.seq
  have HS := Lib.hid hs
  have HR : Hid (zs.Pairwise (· ≤ ·)) := rises_le h.rises
  obtain ⟨bb, hbb⟩ : ∃ bb, bb = hasL zs x := ⟨_, rfl⟩
  have HBB := Lib.hid hbb.symm
  rw [← hbb]
  clear h hs hbb
  go_enter Try.func14, Try.ntmps14
  go_wp2_with fail
  refine (search_any a _ c zs x _ HS.out rfl (by omega) HR.out).mono ?_
  rintro e w' ⟨rfl, hd⟩
  have HD := Lib.hid hd
  clear hd
  rw [HBB.out]
  generalize List.countP _ zs = cc
  go_wp2_with fail
  go_ret
  exact ⟨rfl, HD.out⟩
/-- Where x would stand. -/
def posL (zs : List Int) (x : Int) : Nat := zs.countP (· < x)
theorem posL_le (zs : List Int) (x : Int) : posL zs x ≤ zs.length := List.countP_le_length
theorem bfirst_any (x : Int) (w : World) (h : BagAt n₀ w g v zs) (hl : zs.length ≤ 1000000) : Calls Try.prog 12 #[.pointer (some ⟨g, 0, none⟩), .int .i64 x] w fun e w' => e = .returned (.tuple #[.int .i64 (zs[posL zs x]?.getD 0), .bool (decide (posL zs x < zs.length))]) ∧ Drawn w w' := by
  obtain ⟨c0, f0⟩ := h.head
  obtain ⟨a, c, rfl, hs⟩ := h.seq
  have HS := Lib.hid hs
  have HR : Hid (zs.Pairwise (· ≤ ·)) := rises_le h.rises
  have hple := posL_le zs x
  obtain ⟨n, hn⟩ : ∃ n, n = zs.length := ⟨_, rfl⟩
  obtain ⟨p, hp⟩ : ∃ p, p = posL zs x := ⟨_, rfl⟩
  have HP : Hid (zs.countP (· < x) = p) := hp.symm
  rw [← hp, ← hn] at hple
  rw [← hn] at c0 hl
  have HN := Lib.hid hn.symm
  rw [← hp, ← hn]
  clear h hs hp hn
  by_cases hlt : p < n
  · have hlt' : (p : Int) < (n : Int) := by omega
    have hne : ((p : Int) == (n : Int)) = false := by simp; omega
    obtain ⟨b, off, q, rfl, hc, HX⟩ := HS.out.ints (k := p) (by rw [HN.out]; exact hlt)
    have HQ : Hid (zs[p]?.getD 0 = q) := by show _ = _; rw [HX.out]; rfl
    clear HX
    rw [HQ.out]
    go_enter Try.func12, Try.ntmps12
    go_wp2_with fail
    refine (search_any _ _ c zs x _ HS.out HN.out (by omega) HR.out).mono ?_
    rintro e w' ⟨rfl, qd, rfl⟩
    rw [HP.out]
    generalize hasL zs x = bb
    go_wp2_with fail
    go_ret2
    exact ⟨by simp [hlt], ⟨qd, rfl⟩⟩
  · have hpn : p = n := by omega
    subst hpn
    have HQ : Hid (zs[p]?.getD 0 = 0) := by show _ = _; rw [List.getElem?_eq_none (by rw [HN.out]; omega)]; rfl
    rw [HQ.out]
    go_enter Try.func12, Try.ntmps12
    go_wp2_with fail
    refine (search_any _ _ c zs x _ HS.out HN.out (by omega) HR.out).mono ?_
    rintro e w' ⟨rfl, qd, rfl⟩
    rw [HP.out]
    generalize hasL zs x = bb
    go_wp2_with fail
    go_ret2
    exact ⟨by simp, ⟨qd, rfl⟩⟩
end Go.Proofs.Ythfdigjbmoconaa
