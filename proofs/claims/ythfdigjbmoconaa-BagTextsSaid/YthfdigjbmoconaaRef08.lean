/-
  turnrowref08.Bag: a list without order. The walks of Has, Put, Del, First.
-/
import Derived.Test.YthfdigjbmoconaaBag5
set_option linter.unusedSimpArgs false
set_option linter.unusedVariables false
namespace Go.Tr
open Go.RowKit

/-- The document's bag at m: its list's value v, in blocks of F alone. -/
structure Lst (T : TypeId) (w : World) (m : Nat) (F : Nat → Prop) (v : Value) (zs : List Int) : Prop where
  own : F m
  block : w.heap[m]? = some (.cells #[v] T (0, 0))
  sl : OwnO w 1 v zs.length (ints zs)
  fv : ∀ k, v.ownBlock = some k → F k ∧ k ≠ m
def LstP (T : TypeId) (w : World) (m : Nat) (F : Nat → Prop) (zs : List Int) : Prop := ∃ v, Lst T w m F v zs
variable {T : TypeId} {w w2 : World} {m : Nat} {F G : Nat → Prop} {zs : List Int} {v : Value}
theorem Lst.lt (h : Lst T w m F v zs) : m < w.heap.size := (Array.getElem?_eq_some_iff.1 h.block).1
theorem Lst.kept (h : Lst T w m F v zs) (h1 : w2.heap[m]? = w.heap[m]?) (h2 : ∀ k, v.ownBlock = some k → w2.heap[k]? = w.heap[k]?) : Lst T w2 m F v zs := ⟨h.own, h1.trans h.block, h.sl.kept h2, h.fv⟩
theorem Lst.below (h : Lst T w m F v zs) (hb : Below w.heap.size w w2) : Lst T w2 m F v zs := h.kept (hb.block _ h.lt) (fun k hk => hb.block _ (h.sl.lt k hk))
theorem Lst.only (h : Lst T w m F v zs) (ho : Only G w w2) (hd : ∀ k, F k → ¬ G k) : Lst T w2 m F v zs := h.kept (ho.block _ h.lt (hd _ h.own)) (fun k hk => ho.block _ (h.sl.lt k hk) (hd _ (h.fv k hk).1))
theorem Lst.mono (h : Lst T w m F v zs) (hs : ∀ k, F k → G k) : Lst T w m G v zs := ⟨hs _ h.own, h.block, h.sl, fun k hk => ⟨hs _ (h.fv k hk).1, (h.fv k hk).2⟩⟩
theorem LstP.below (h : LstP T w m F zs) (hb : Below w.heap.size w w2) : LstP T w2 m F zs := by obtain ⟨v, h⟩ := h; exact ⟨v, h.below hb⟩
theorem LstP.only (h : LstP T w m F zs) (ho : Only G w w2) (hd : ∀ k, F k → ¬ G k) : LstP T w2 m F zs := by obtain ⟨v, h⟩ := h; exact ⟨v, h.only ho hd⟩
theorem LstP.mono (h : LstP T w m F zs) (hs : ∀ k, F k → G k) : LstP T w m G zs := by obtain ⟨v, h⟩ := h; exact ⟨v, h.mono hs⟩
theorem Lst.head (h : Lst T w m F v zs) : w.cell? ⟨m, 0, none⟩ = some v ∧ w.frozen? ⟨m, 0, none⟩ = false := ⟨cell_of_row w m 0 _ T (0, 0) h.block, by simp [World.frozen?, h.block]⟩
/-- The field has been written. -/
theorem Lst.store {v' : Value} {zs' : List Int} (h : Lst T w m F v zs) (ho : Only F w w2) (hm : w2.heap[m]? = w.heap[m]?) (hv : OwnO w2 1 v' zs'.length (ints zs')) (hf : ∀ k, v'.ownBlock = some k → v.ownBlock = some k ∨ w.heap.size ≤ k) :
    LstP T (w2.setCell ⟨m, 0, none⟩ v') m (grow F w (w2.setCell ⟨m, 0, none⟩ v')) zs' ∧ Only F w (w2.setCell ⟨m, 0, none⟩ v') := by
  have hs : (w2.setCell ⟨m, 0, none⟩ v').heap.size = w2.heap.size := by simp [World.setCell]
  have hne : ∀ k, v'.ownBlock = some k → k ≠ m := fun k hk => (hf k hk).elim (fun h' => (h.fv k h').2) (fun h' => by have := h.lt; omega)
  refine ⟨⟨v', ⟨Or.inl h.own, by simp [World.setCell, Array.getElem?_modify, hm.trans h.block], hv.kept (fun k hk => Below.heap_setCell _ _ _ _ (by simpa using hne k hk)), fun k hk => ⟨?_, hne k hk⟩⟩⟩, ho.setCell (Or.inl h.own) _⟩
  exact (hf k hk).imp (fun h' => (h.fv k h').1) (fun h' => ⟨h', by rw [hs]; exact hv.lt k hk⟩)
end Go.Tr
namespace Go.Proofs.Ythfdigjbmoconaa
open Go.RowKit Go.Tr
variable {w : World} {m : Nat} {F : Nat → Prop} {zs : List Int}

set_option maxRecDepth 100000 in
theorem mhas_any (x : Int) (w : World) (h : LstP 53 w m F zs) (hs : zs.length ≤ 1000000) : Calls Try.prog 33 #[.pointer (some ⟨m, 0, none⟩), .int .i64 x] w fun e w' => e = .returned (.bool (hasL zs x)) ∧ w = w' := by
  obtain ⟨v, h⟩ := h
  obtain ⟨c0, f0⟩ := h.head
  obtain ⟨a, c, rfl, hq, -, -⟩ := h.sl.seq
  have HQ := Lib.hid hq
  obtain ⟨n, hn⟩ : ∃ n, n = zs.length := ⟨_, rfl⟩
  rw [← hn] at c0 hs
  have HN := Lib.hid hn.symm
  clear h hq hn
  go_enter Try.func33, Try.ntmps33
  go_wp2_with fail
  go_loopw [5] (fun i wr => wr = w ∧ ∃ k : Nat, k ≤ n ∧ i = .int .i64 k ∧ Hid (x ∉ zs.take k)) (fun i _ => n - (intOf i).toNat)
  case atStart => exact ⟨rfl, 0, Nat.zero_le _, rfl, by simp [Hid]⟩
  case round =>
    obtain ⟨rfl, k, hk, rfl, HP⟩ := hrel
    by_cases hlt : k < n
    · have hlt' : (k : Int) < (n : Int) := by omega
      obtain ⟨b, off, y, rfl, hcx, HX⟩ := HQ.out.ints (k := k) (by rw [HN.out]; exact hlt)
      by_cases hy : y = x
      · have HE : Hid (hasL zs x = true) := hasL_true (by rw [← hy]; exact List.mem_of_getElem? HX.out)
        subst hy
        clear HX
        go_wp2_with fail
        go_ret
        exact ⟨by rw [HE.out]; rfl, rfl⟩
      · have HP2 : Hid (x ∉ zs.take (k + 1)) := by
          rw [take_snoc HX.out]
          intro h
          rcases List.mem_append.1 h with h | h
          · exact HP.out h
          · simp at h; exact hy h.symm
        clear HX
        go_wp2_with fail
        go_roundw
        case rel => exact ⟨trivial, k + 1, by omega, by go_num, HP2⟩
        case measure => simp [intOf]; omega
    · have hlt' : ¬ ((k : Int) < (n : Int)) := by omega
      have HE : Hid (hasL zs x = false) := hasL_false (by have := HP.out; rw [List.take_of_length_le (by rw [HN.out]; omega)] at this; exact this)
      go_wp2_with fail
      go_ret
      exact ⟨by rw [HE.out]; rfl, rfl⟩

def addL (zs : List Int) (x : Int) : List Int := if hasL zs x = true then zs else zs ++ [x]
set_option maxRecDepth 100000 in
set_option maxHeartbeats 1000000 in
theorem mput_any (x : Int) (w : World) (h : LstP 53 w m F zs) (hs : zs.length ≤ 900000) : Calls Try.prog 29 #[.pointer (some ⟨m, 0, none⟩), .int .i64 x] w fun e w' => e = .returned (.bool (!hasL zs x)) ∧ LstP 53 w' m (grow F w w') (addL zs x) ∧ Only F w w' := by
  obtain ⟨i0, hi, hz0, hz1, hz2⟩ := info_parts infoIntB
  have HH := Lib.hid (mhas_any x w h (by omega))
  have HP0 := Lib.hid h
  cases hb : hasL zs x
  · have HX := Lib.hid hb
    have HE : Hid (addL zs x = zs ++ [x]) := by show _ = _; unfold addL; rw [hb]; rfl
    rw [HE.out]
    obtain ⟨v, h⟩ := h
    obtain ⟨c0, f0⟩ := h.head
    obtain ⟨a, c, rfl, -, -, -⟩ := h.sl.seq
    have HL := Lib.hid h
    obtain ⟨n, hn⟩ : ∃ n, n = zs.length := ⟨_, rfl⟩
    have HW : Hid (OwnO w 1 (.slice a n c) n (ints zs)) := by have := h.sl; rw [← hn] at this; exact this
    rw [← hn] at c0 hs
    have HN := Lib.hid hn.symm
    clear h hn hb
    go_enter Try.func29, Try.ntmps29
    go_wp2_with fail
    refine HH.out.mono ?_
    rintro e w' ⟨rfl, rfl⟩
    rw [HX.out]
    go_wp2_with (first
      | (at_builtin; refine wpList_appendO _ rfl (.tmp 15) (.tmp 17) 22 rfl 3 i0 _ 1 8 Try.underlying22 hi hz0 hz1 hz2 rfl (by decide) _ n (ints zs) rfl (HW.out.kept (fun k hk => Below.heap_alloc _ _ _ (HW.out.lt k hk))) ⟨w.heap.size, 0, none⟩ 1 1 (ints [x]) rfl rfl ?_ (ints_oneCell .i64 [x]) (by unfold maxLen; omega) (by omega) ?_)
      | fail)
    · intro j u hu
      exact news_block w (ints [x]) 3 j u hu
    · intro v' w2 r1 r2 r3
      have hm : w2.heap[m]? = w.heap[m]? := (r2.block m (by have := HL.out.lt; simp; omega) (fun e => (HL.out.fv m (by rw [HN.out]; exact e.symm)).2 rfl)).trans (Below.heap_alloc w _ _ HL.out.lt)
      have ho : Only F w w2 := ((Only.refl F w).alloc _).grown r2 (fun k hk => Or.inl (HL.out.fv k (by rw [HN.out]; exact hk)).1)
      have hv : OwnO w2 1 v' (zs ++ [x]).length (ints (zs ++ [x])) := by
        rw [List.length_append, HN.out]
        have : ints (zs ++ [x]) = ints zs ++ ints [x] := by simp [ints]
        rw [this]; exact r1
      have HST := Lib.hid (HL.out.store ho hm hv (fun k hk => (r3 k hk).imp (fun h => by rw [HN.out]; exact h) (fun h => by have := h.1; omega)))
      have c2 : w2.cell? ⟨m, 0, none⟩ = some (.slice a n c) := by rw [World.cell?_of_block (a := ⟨m, 0, none⟩) (w := w) hm]; exact c0
      have f2 : w2.frozen? ⟨m, 0, none⟩ = false := by rw [World.frozen?_of_block (a := ⟨m, 0, none⟩) (w := w) hm]; exact f0
      obtain ⟨va, vc, rfl, -, -, -⟩ := r1.seq
      clear r1 r2 r3 hm ho hv c0 f0
      go_wp2
      go_ret
      exact ⟨rfl, HST.out.1, HST.out.2⟩
  · have HX := Lib.hid hb
    have HE : Hid (addL zs x = zs) := by show _ = _; unfold addL; rw [if_pos hb]
    rw [HE.out]
    clear hb h
    go_enter Try.func29, Try.ntmps29
    go_wp2_with fail
    refine HH.out.mono ?_
    rintro e w' ⟨rfl, rfl⟩
    rw [HX.out]
    go_wp2_with fail
    go_ret
    exact ⟨rfl, HP0.out.mono (fun _ hk => Or.inl hk), Only.refl _ _⟩
theorem outL_snoc (l : List Int) (x y : Int) : outL (l ++ [y]) x = outL l x ++ if y = x then [] else [y] := by
  unfold outL
  by_cases h : y = x <;> simp [h]
theorem outL_length (l : List Int) (x : Int) : (outL l x).length ≤ l.length := List.length_filter_le _ _
theorem outL_lt {l : List Int} {x : Int} : (outL l x).length < l.length ↔ x ∈ l := by
  constructor
  · intro h
    exact Classical.byContradiction fun hx => by rw [outL_none hx] at h; omega
  · intro h
    unfold outL
    exact List.length_filter_lt_length_iff_exists.2 ⟨x, h, by simp⟩
set_option maxRecDepth 100000 in
set_option maxHeartbeats 1000000 in
theorem mdel_any (x : Int) (w : World) (h : LstP 53 w m F zs) (hs : zs.length ≤ 900000) : Calls Try.prog 30 #[.pointer (some ⟨m, 0, none⟩), .int .i64 x] w fun e w' => e = .returned (.bool (hasL zs x)) ∧ LstP 53 w' m (grow F w w') (outL zs x) ∧ Only F w w' := by
  obtain ⟨i0, hi, hz0, hz1, hz2⟩ := info_parts infoIntB
  obtain ⟨v, h⟩ := h
  obtain ⟨a, c, rfl, hq, -, -⟩ := h.sl.seq
  have HL := Lib.hid h
  have HQ := Lib.hid hq
  obtain ⟨n, hn⟩ : ∃ n, n = zs.length := ⟨_, rfl⟩
  rw [← hn] at hs
  have HN := Lib.hid hn.symm
  have HC : ∀ w', Hid (Below w.heap.size w w') → w'.cell? ⟨m, 0, none⟩ = some (.slice a n c) ∧ w'.frozen? ⟨m, 0, none⟩ = false := fun w' hb => by
    have := (HL.out.below hb.out).head
    rw [HN.out] at this; exact this
  have HHX : Hid (hasL zs x = decide ((outL zs x).length < n)) := by
    show _ = _
    rw [Bool.eq_iff_iff, decide_eq_true_iff, hn, outL_lt, hasL_iff]
  obtain ⟨ys, hys⟩ : ∃ ys, ys = outL zs x := ⟨_, rfl⟩
  have HYE := Lib.hid hys.symm
  rw [← hys] at HHX ⊢
  obtain ⟨yn, hyn⟩ : ∃ yn, yn = ys.length := ⟨_, rfl⟩
  have HYN := Lib.hid hyn.symm
  rw [← hyn] at HHX
  rw [HHX.out]
  clear h hq hn hys hyn
  obtain ⟨c0, f0⟩ := HC w (Below.refl _ _)
  go_enter Try.func30, Try.ntmps30
  go_wp2_with fail
  clear c0 f0
  go_loopw [5, 6] (fun v i wr => ∃ k : Nat, k ≤ n ∧ i = .int .i64 k ∧ Hid (own3 wr 3 w.heap.size v (outL (zs.take k) x)) ∧ Hid (Below w.heap.size w wr)) (fun _ i _ => n - (intOf i).toNat)
  case atStart => exact ⟨0, Nat.zero_le _, rfl, World.ownsRow_nil _ _ _ _, Below.refl _ _⟩
  case round =>
    obtain ⟨k, hk, rfl, HV, HB⟩ := hrel
    obtain ⟨c0, f0⟩ := HC _ HB
    by_cases hlt : k < n
    · have hlt' : (k : Int) < (n : Int) := by omega
      obtain ⟨b, off, y, rfl, hc, HX⟩ := (HQ.out.below HB.out (Nat.le_refl _)).ints (k := k) (by rw [HN.out]; exact hlt)
      have HT := Lib.hid (take_snoc HX.out)
      clear HX
      have hLl : (outL (zs.take k) x).length ≤ k := by
        have := outL_length (zs.take k) x
        simp at this; omega
      obtain ⟨M, hM⟩ : ∃ M, M = outL (zs.take k) x := ⟨_, rfl⟩
      rw [← hM] at HV hLl
      have HM := Lib.hid hM; clear hM
      obtain ⟨mn, hmn⟩ : ∃ mn, mn = M.length := ⟨_, rfl⟩
      have HV' : Hid (wr.ownsRow w.heap.size 3 1 u5 mn (ints M)) := by rw [hmn]; exact HV.out
      rw [← hmn] at hLl
      have HMN := Lib.hid hmn.symm; clear hmn
      obtain ⟨oa8, oc8, rfl, -, hoc8, -⟩ := ownsRow_seq HV'.out
      by_cases hf : y = x
      · have HV2 : Hid (own3 wr 3 w.heap.size (.slice oa8 mn oc8) (outL (zs.take (k + 1)) x)) := by
          rw [HT.out, outL_snoc, if_pos hf, List.append_nil, ← HM.out]; exact HV.out
        subst hf
        go_wp2_with fail
        go_roundw
        case rel => exact ⟨k + 1, by omega, by go_num, HV2, HB⟩
        case measure => simp [intOf]; omega
      · have HNE := Lib.hid hf
        have hf1 : (y == x) = false := by simpa using hf
        have hf2 : (y != x) = true := by simpa using hf
        go_wp2_with (first
          | (at_builtin; refine wpList_append_own _ rfl (.tmp 26) (.tmp 34) 22 rfl w.heap.size 3 i0 _ 1 8 Try.underlying22 hi hz0 hz1 hz2 rfl (by decide) _ _ _ rfl (HV'.out.alloc _) ⟨wr.heap.size, 0, none⟩ 1 1 (ints [y]) rfl rfl ?_ (ints_oneCell .i64 [y]) (by unfold maxLen; omega) (by omega) (by have := HB.out.size; simp; omega) ?_)
          | fail)
        · intro j u hu
          exact news_block wr (ints [y]) 3 j u hu
        · intro v' w4 hown hgrow _
          have HV4 : Hid (own3 w4 3 w.heap.size v' (outL (zs.take (k + 1)) x)) := by
            rw [HT.out, outL_snoc, if_neg HNE.out, ← HM.out]
            unfold own3
            have := hown
            rw [← HMN.out] at this
            show w4.ownsRow _ _ _ _ _ _
            simpa [ints] using this
          have HB4 : Hid (Below w.heap.size w w4) := (HB.out.alloc HB.out.size _).grown hgrow (by have := HB.out.size; simp; omega) (fun j hj => (HV'.out.lt j hj).1)
          clear hown hgrow
          go_wp2
          go_roundw
          case rel => exact ⟨k + 1, by omega, by go_num, HV4, HB4⟩
          case measure => simp [intOf]; omega
    · have hlt' : ¬ ((k : Int) < (n : Int)) := by omega
      have HV4 : Hid (own3 wr 3 w.heap.size u5 ys) := by
        have := HV.out; rw [List.take_of_length_le (by rw [HN.out]; omega), HYE.out] at this; exact this
      have hm : wr.heap[m]? = w.heap[m]? := HB.out.block m HL.out.lt
      have HST := Lib.hid (HL.out.store (Only.of_below HB.out F) hm (OwnO.of_row HV4.out) (fun k hk => Or.inr (HV4.out.lt k hk).1))
      have HV5 : Hid (wr.ownsRow w.heap.size 3 1 u5 yn (ints ys)) := by rw [← HYN.out]; exact HV4.out
      obtain ⟨va, vc, rfl, -, -, -⟩ := ownsRow_seq HV5.out
      clear HV HV4 hm
      by_cases hyn2 : yn < n
      · have hyn3 : (yn : Int) < (n : Int) := by omega
        go_wp2_with fail
        go_ret
        exact ⟨by simp [hyn2], HST.out.1, HST.out.2⟩
      · have hyn3 : ¬ ((yn : Int) < (n : Int)) := by omega
        go_wp2_with fail
        go_ret
        exact ⟨by simp [hyn2], HST.out.1, HST.out.2⟩
end Go.Proofs.Ythfdigjbmoconaa
