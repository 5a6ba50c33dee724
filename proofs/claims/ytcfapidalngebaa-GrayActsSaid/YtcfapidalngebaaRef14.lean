/-
  turnrowref14.List: the document's list of what waits and what is done. The walks.
-/
import Derived.Test.YtcfapidalngebaaFoot
import Derived.Test.YtcfapidalngebaaHas
import Derived.Test.YtcfapidalngebaaSorted13
set_option linter.unusedSimpArgs false
set_option linter.unusedVariables false
namespace Go.Tr
open Go.RowKit

/-- What waits; what is done. -/
structure RS where
  wl : List Int
  bl : List Int
def RS.color (R : RS) (x : Int) : Int := if hasL R.wl x = true then 1 else if hasL R.bl x = true then 2 else 0
def outL (l : List Int) (x : Int) : List Int := l.filter fun y => !(y == x)
def RS.put (R : RS) (x : Int) : RS := if R.color x = 0 then ⟨R.wl ++ [x], R.bl⟩ else R
def RS.again (R : RS) (x : Int) : RS := if R.color x = 2 then ⟨R.wl ++ [x], outL R.bl x⟩ else R
def RS.paint (R : RS) (x : Int) : RS := if R.color x = 2 then R else ⟨outL R.wl x, R.bl ++ [x]⟩
def RS.next (R : RS) : Option Int × RS := match R.wl with | [] => (none, R) | x :: _ => (some x, R.paint x)
theorem outL_snoc (l : List Int) (x y : Int) : outL (l ++ [y]) x = outL l x ++ if y = x then [] else [y] := by
  unfold outL
  by_cases h : y = x <;> simp [h]
theorem outL_length (l : List Int) (x : Int) : (outL l x).length ≤ l.length := List.length_filter_le _ _

/-- The list at m, with the values of its two fields, in blocks of F alone. -/
structure RefV (T : TypeId) (w : World) (m : Nat) (F : Nat → Prop) (wv bv : Value) (R : RS) : Prop where
  own : F m
  block : w.heap[m]? = some (.cells #[wv, bv] T (0, 0))
  wait : OwnO w 1 wv R.wl.length (ints R.wl)
  black : OwnO w 1 bv R.bl.length (ints R.bl)
  fw : ∀ k, wv.ownBlock = some k → F k ∧ k ≠ m
  fb : ∀ k, bv.ownBlock = some k → F k ∧ k ≠ m
  apart : ∀ k, wv.ownBlock = some k → bv.ownBlock = some k → False
def RefAt (T : TypeId) (w : World) (m : Nat) (F : Nat → Prop) (R : RS) : Prop := ∃ wv bv, RefV T w m F wv bv R

variable {T : TypeId} {w w2 : World} {m : Nat} {F G : Nat → Prop} {wv bv v : Value} {R : RS}
theorem RefV.lt (h : RefV T w m F wv bv R) : m < w.heap.size := (Array.getElem?_eq_some_iff.1 h.block).1
theorem RefV.only (h : RefV T w m F wv bv R) (ho : Only G w w2) (hd : ∀ k, F k → ¬ G k) : RefV T w2 m F wv bv R :=
  ⟨h.own, (ho.block m h.lt (hd m h.own)).trans h.block, h.wait.only ho (fun k hk => hd k (h.fw k hk).1), h.black.only ho (fun k hk => hd k (h.fb k hk).1), h.fw, h.fb, h.apart⟩
theorem RefAt.only (h : RefAt T w m F R) (ho : Only G w w2) (hd : ∀ k, F k → ¬ G k) : RefAt T w2 m F R := by
  obtain ⟨wv, bv, h⟩ := h; exact ⟨wv, bv, h.only ho hd⟩
theorem RefAt.mono (h : RefAt T w m F R) (hs : ∀ k, F k → G k) : RefAt T w m G R := by
  obtain ⟨wv, bv, h⟩ := h
  exact ⟨wv, bv, hs _ h.own, h.block, h.wait, h.black, fun k hk => ⟨hs _ (h.fw k hk).1, (h.fw k hk).2⟩, fun k hk => ⟨hs _ (h.fb k hk).1, (h.fb k hk).2⟩, h.apart⟩
theorem refBlock_setCell {cs : Array Value} (h : w.heap[m]? = some (.cells cs T (0, 0))) (j : Nat) (v : Value) : (w.setCell ⟨m, j, none⟩ v).heap[m]? = some (.cells (cs.setIfInBounds j v) T (0, 0)) := by
  simp [World.setCell, Array.getElem?_modify, h]
theorem RefV.put0 (h : RefV T w m F wv bv R) (ho : Only F w w2) (hm : w2.heap[m]? = w.heap[m]?) (hb : OwnO w2 1 bv R.bl.length (ints R.bl)) {l : List Int} (hv : OwnO w2 1 v l.length (ints l)) (hf : ∀ k, v.ownBlock = some k → wv.ownBlock = some k ∨ (w.heap.size ≤ k ∧ k < w2.heap.size)) :
    RefV T (w2.setCell ⟨m, 0, none⟩ v) m (grow F w (w2.setCell ⟨m, 0, none⟩ v)) v bv ⟨l, R.bl⟩ ∧ Only F w (w2.setCell ⟨m, 0, none⟩ v) := by
  have hs : (w2.setCell ⟨m, 0, none⟩ v).heap.size = w2.heap.size := by simp [World.setCell]
  have hne : ∀ k, v.ownBlock = some k → k ≠ m := fun k hk => (hf k hk).elim (fun h' => (h.fw k h').2) (fun h' => by have := h.lt; omega)
  have hk : ∀ k, k ≠ m → (w2.setCell ⟨m, 0, none⟩ v).heap[k]? = w2.heap[k]? := fun k hk => Below.heap_setCell _ _ _ _ hk
  refine ⟨⟨Or.inl h.own, refBlock_setCell (hm.trans h.block) 0 v, hv.kept (fun k hk' => hk k (hne k hk')), hb.kept (fun k hk' => hk k (h.fb k hk').2), fun k hk' => ⟨?_, hne k hk'⟩, fun k hk' => ⟨Or.inl (h.fb k hk').1, (h.fb k hk').2⟩, fun k h1 h2 => ?_⟩, ho.setCell (Or.inl h.own) _⟩
  · exact (hf k hk').imp (fun h' => (h.fw k h').1) (fun h' => ⟨h'.1, by rw [hs]; exact h'.2⟩)
  · rcases hf k h1 with h' | h'
    · exact h.apart k h' h2
    · have := h.black.lt k h2; omega
theorem RefV.put1 (h : RefV T w m F wv bv R) (ho : Only F w w2) (hm : w2.heap[m]? = w.heap[m]?) (hw : OwnO w2 1 wv R.wl.length (ints R.wl)) {l : List Int} (hv : OwnO w2 1 v l.length (ints l)) (hf : ∀ k, v.ownBlock = some k → bv.ownBlock = some k ∨ (w.heap.size ≤ k ∧ k < w2.heap.size)) :
    RefV T (w2.setCell ⟨m, 1, none⟩ v) m (grow F w (w2.setCell ⟨m, 1, none⟩ v)) wv v ⟨R.wl, l⟩ ∧ Only F w (w2.setCell ⟨m, 1, none⟩ v) := by
  have hs : (w2.setCell ⟨m, 1, none⟩ v).heap.size = w2.heap.size := by simp [World.setCell]
  have hne : ∀ k, v.ownBlock = some k → k ≠ m := fun k hk => (hf k hk).elim (fun h' => (h.fb k h').2) (fun h' => by have := h.lt; omega)
  have hk : ∀ k, k ≠ m → (w2.setCell ⟨m, 1, none⟩ v).heap[k]? = w2.heap[k]? := fun k hk => Below.heap_setCell _ _ _ _ hk
  refine ⟨⟨Or.inl h.own, refBlock_setCell (hm.trans h.block) 1 v, hw.kept (fun k hk' => hk k (h.fw k hk').2), hv.kept (fun k hk' => hk k (hne k hk')), fun k hk' => ⟨Or.inl (h.fw k hk').1, (h.fw k hk').2⟩, fun k hk' => ⟨?_, hne k hk'⟩, fun k h1 h2 => ?_⟩, ho.setCell (Or.inl h.own) _⟩
  · exact (hf k hk').imp (fun h' => (h.fb k h').1) (fun h' => ⟨h'.1, by rw [hs]; exact h'.2⟩)
  · rcases hf k h2 with h' | h'
    · exact h.apart k h1 h'
    · have := h.wait.lt k h1; omega
/-- What an append to the first field leaves. -/
theorem RefV.app0 (h : RefV T w m F wv bv R) {o : Obj} (hg : (w.alloc o).grownBy w2 wv.ownBlock) : Only F w w2 ∧ w2.heap[m]? = w.heap[m]? ∧ OwnO w2 1 bv R.bl.length (ints R.bl) := by
  have ha : ∀ k, k < w.heap.size → wv.ownBlock ≠ some k → w2.heap[k]? = w.heap[k]? := fun k hk hn => (hg.block k (by simp; omega) (fun e => hn e.symm)).trans (Below.heap_alloc w _ _ hk)
  exact ⟨((Only.refl F w).alloc _).grown hg (fun k hk => Or.inl (h.fw k hk).1), ha m h.lt (fun e => (h.fw m e).2 rfl), h.black.kept (fun k hk => ha k (h.black.lt k hk) (fun e => h.apart k e hk))⟩
theorem RefV.app1 (h : RefV T w m F wv bv R) {o : Obj} (hg : (w.alloc o).grownBy w2 bv.ownBlock) : Only F w w2 ∧ w2.heap[m]? = w.heap[m]? ∧ OwnO w2 1 wv R.wl.length (ints R.wl) := by
  have ha : ∀ k, k < w.heap.size → bv.ownBlock ≠ some k → w2.heap[k]? = w.heap[k]? := fun k hk hn => (hg.block k (by simp; omega) (fun e => hn e.symm)).trans (Below.heap_alloc w _ _ hk)
  exact ⟨((Only.refl F w).alloc _).grown hg (fun k hk => Or.inl (h.fb k hk).1), ha m h.lt (fun e => (h.fb m e).2 rfl), h.wait.kept (fun k hk => ha k (h.wait.lt k hk) (fun e => h.apart k hk e))⟩
theorem RefV.cells (h : RefV T w m F wv bv R) (hm : w2.heap[m]? = w.heap[m]?) : (w2.cell? ⟨m, 0, none⟩ = some wv ∧ w2.frozen? ⟨m, 0, none⟩ = false) ∧ w2.cell? ⟨m, 1, none⟩ = some bv ∧ w2.frozen? ⟨m, 1, none⟩ = false := by
  have hb := hm.trans h.block
  exact ⟨⟨cell_of_row w2 m 0 _ T (0, 0) hb, by simp [World.frozen?, hb]⟩, cell_of_row w2 m 1 _ T (0, 0) hb, by simp [World.frozen?, hb]⟩
end Go.Tr
namespace Go.Proofs.Ytcfapidalngebaa
open Go.RowKit Go.Tr

theorem infoInt14 : (Try.prog.info? 3).map (fun i => (i.zero, i.size, i.bytes)) = some (some (.int .i64 0), 1, 8) := by kernel_rfl

set_option maxRecDepth 100000 in
theorem rcolor_any {m : Nat} {F : Nat → Prop} {R : RS} (x : Int) (w : World) (h : RefAt 54 w m F R) (hs : R.wl.length + R.bl.length ≤ 1000000) :
    Calls Try.prog 35 #[.pointer (some ⟨m, 0, none⟩), .int .i64 x] w fun e w' => e = .returned (.int .i64 (R.color x)) ∧ w = w' := by
  obtain ⟨wv, bv, h⟩ := h
  obtain ⟨⟨c0, f0⟩, c1, f1⟩ := h.cells rfl
  obtain ⟨wa, wc, rfl, hws, -, -⟩ := h.wait.seq
  obtain ⟨ba, bc, rfl, hbs, -, -⟩ := h.black.seq
  have HW := Lib.hid hws
  have HB := Lib.hid hbs
  clear h hws hbs
  by_cases h1 : hasL R.wl x = true
  · have H1 := Lib.hid h1
    have HC : Hid (R.color x = 1) := by show _ = _; unfold RS.color; rw [if_pos h1]
    clear h1
    go_enter Try.func35, Try.ntmps35
    go_wp2_with fail
    refine (has_any wa _ wc R.wl x _ HW.out rfl (by omega)).mono ?_
    rintro e w' ⟨rfl, rfl⟩
    rw [H1.out]
    go_wp2
    go_ret
    exact ⟨by rw [HC.out]; rfl, rfl⟩
  · have H1 : Hid (hasL R.wl x = false) := by simpa [Hid] using h1
    clear h1
    by_cases h2 : hasL R.bl x = true
    · have H2 := Lib.hid h2
      have HC : Hid (R.color x = 2) := by show _ = _; unfold RS.color; rw [if_neg (by rw [H1.out]; decide), if_pos h2]
      clear h2
      go_enter Try.func35, Try.ntmps35
      go_wp2_with fail
      refine (has_any wa _ wc R.wl x _ HW.out rfl (by omega)).mono ?_
      rintro e w' ⟨rfl, rfl⟩
      rw [H1.out]
      go_wp2_with fail
      refine (has_any ba _ bc R.bl x _ HB.out rfl (by omega)).mono ?_
      rintro e w' ⟨rfl, rfl⟩
      rw [H2.out]
      go_wp2
      go_ret
      exact ⟨by rw [HC.out]; rfl, rfl⟩
    · have H2 : Hid (hasL R.bl x = false) := by simpa [Hid] using h2
      have HC : Hid (R.color x = 0) := by show _ = _; unfold RS.color; rw [if_neg (by rw [H1.out]; decide), if_neg h2]
      clear h2
      go_enter Try.func35, Try.ntmps35
      go_wp2_with fail
      refine (has_any wa _ wc R.wl x _ HW.out rfl (by omega)).mono ?_
      rintro e w' ⟨rfl, rfl⟩
      rw [H1.out]
      go_wp2_with fail
      refine (has_any ba _ bc R.bl x _ HB.out rfl (by omega)).mono ?_
      rintro e w' ⟨rfl, rfl⟩
      rw [H2.out]
      go_wp2
      go_ret
      exact ⟨by rw [HC.out]; rfl, rfl⟩

set_option maxRecDepth 100000 in
theorem rout_any (a : Option Addr) (n c : Nat) (l : List Int) (x : Int) (w : World) (h : SeqAt w a (ints l)) (hl : l.length = n) (hs : n ≤ 1000000) :
    Calls Try.prog 42 #[.slice a n c, .int .i64 x] w fun e w' => ∃ v, e = .returned v ∧ own3 w' 3 w.heap.size v (outL l x) ∧ Below w.heap.size w w' := by
  obtain ⟨i0, hi, hz0, hz1, hz2⟩ := info_parts infoInt14
  have H := Lib.hid h; clear h
  have HL := Lib.hid hl; clear hl
  go_enter Try.func42, Try.ntmps42
  go_wp2_with fail
  go_loopw [5, 6] (fun v i wr => ∃ k : Nat, k ≤ n ∧ i = .int .i64 k ∧ Hid (own3 wr 3 w.heap.size v (outL (l.take k) x)) ∧ Hid (Below w.heap.size w wr)) (fun _ i _ => n - (intOf i).toNat)
  case atStart => exact ⟨0, Nat.zero_le _, rfl, World.ownsRow_nil _ _ _ _, Below.refl _ _⟩
  case round =>
    obtain ⟨k, hk, rfl, HV, HB⟩ := hrel
    by_cases hlt : k < n
    · obtain ⟨b, off, y, rfl, hc, HX⟩ := (H.out.below HB.out (Nat.le_refl _)).ints (k := k) (by rw [HL.out]; exact hlt)
      have HT := Lib.hid (take_snoc HX.out)
      clear HX
      have hLl : (outL (l.take k) x).length ≤ k := by
        have := outL_length (l.take k) x
        simp at this; omega
      obtain ⟨M, hM⟩ : ∃ M, M = outL (l.take k) x := ⟨_, rfl⟩
      rw [← hM] at HV hLl
      have HM := Lib.hid hM; clear hM
      obtain ⟨mn, hmn⟩ : ∃ mn, mn = M.length := ⟨_, rfl⟩
      have HV' : Hid (wr.ownsRow w.heap.size 3 1 u5 mn (ints M)) := by rw [hmn]; exact HV.out
      rw [← hmn] at hLl
      have HMN := Lib.hid hmn.symm; clear hmn
      obtain ⟨oa8, oc8, rfl, -, hoc8, -⟩ := ownsRow_seq HV'.out
      by_cases hf : y = x
      · have HV2 : Hid (own3 wr 3 w.heap.size (.slice oa8 mn oc8) (outL (l.take (k + 1)) x)) := by
          rw [HT.out, outL_snoc, if_pos hf, List.append_nil, ← HM.out]; exact HV.out
        subst hf
        go_wp2_with fail
        go_roundw
        case rel => exact ⟨k + 1, by omega, by go_num, HV2, HB⟩
        case measure => simp [intOf]; omega
      · have HN := Lib.hid hf
        go_wp2_with (first
          | (at_builtin; refine wpList_append_own _ rfl (.tmp 19) (.tmp 24) 22 rfl w.heap.size 3 i0 _ 1 8 Try.underlying22 hi hz0 hz1 hz2 rfl (by decide) _ _ _ rfl (HV'.out.alloc _) ⟨wr.heap.size, 0, none⟩ 1 1 (ints [y]) rfl rfl ?_ (ints_oneCell .i64 [y]) (by unfold maxLen; omega) (by omega) (by have := HB.out.size; simp; omega) ?_)
          | fail)
        · intro j u hu
          exact news_block wr (ints [y]) 3 j u hu
        · intro v' w4 hown hgrow _
          have HV4 : Hid (own3 w4 3 w.heap.size v' (outL (l.take (k + 1)) x)) := by
            rw [HT.out, outL_snoc, if_neg HN.out, ← HM.out]
            unfold own3
            have := hown
            rw [← HMN.out] at this
            show w4.ownsRow _ _ _ _ _ _
            simpa [ints] using this
          have HB4 : Hid (Below w.heap.size w w4) := (HB.out.alloc HB.out.size _).grown hgrow (by have := HB.out.size; simp; omega) (fun j hj => (HV'.out.lt j hj).1)
          clear hown hgrow
          go_wp2
          go_roundw
          case rel => exact ⟨k + 1, by omega, by go_num, HV4, HB4⟩
          case measure => simp [intOf]; omega
    · have hke : k = n := by omega
      have HV4 : Hid (own3 wr 3 w.heap.size u5 (outL l x)) := by
        have := HV.out; rw [List.take_of_length_le (by rw [HL.out]; omega)] at this; exact this
      clear HV hke
      go_wp2
      go_ret
      exact ⟨_, rfl, HV4.out, HB.out⟩

set_option maxRecDepth 100000 in
theorem rput_any {m : Nat} {F : Nat → Prop} {R : RS} (x : Int) (w : World) (h : RefAt 54 w m F R) (hs : R.wl.length + R.bl.length ≤ 900000) :
    Calls Try.prog 31 #[.pointer (some ⟨m, 0, none⟩), .int .i64 x] w fun e w' => e = .returned (.bool (decide (R.color x = 0))) ∧ RefAt 54 w' m (grow F w w') (R.put x) ∧ Only F w w' := by
  obtain ⟨i0, hi, hz0, hz1, hz2⟩ := info_parts infoInt14
  have HC := Lib.hid (rcolor_any x w h (by omega))
  by_cases h0 : R.color x = 0
  · obtain ⟨wv, bv, h⟩ := h
    obtain ⟨⟨c0, f0⟩, c1, f1⟩ := h.cells rfl
    obtain ⟨wa, wc, rfl, -, -, -⟩ := h.wait.seq
    have H := Lib.hid h; clear h
    have HP : Hid (R.put x = ⟨R.wl ++ [x], R.bl⟩) := by show _ = _; unfold RS.put; rw [if_pos h0]
    have H0 := Lib.hid h0; clear h0
    obtain ⟨n, hn⟩ : ∃ n, n = R.wl.length := ⟨_, rfl⟩
    have HW : Hid (OwnO w 1 (.slice wa n wc) n (ints R.wl)) := by rw [hn]; exact H.out.wait
    rw [← hn] at hs c0
    have HN := Lib.hid hn; clear hn
    go_enter Try.func31, Try.ntmps31
    go_wp2_with fail
    refine HC.out.mono ?_
    rintro e w' ⟨rfl, rfl⟩
    rw [H0.out]
    go_wp2_with (first
      | (at_builtin; refine wpList_appendO _ rfl (.tmp 15) (.tmp 17) 22 rfl 3 i0 _ 1 8 Try.underlying22 hi hz0 hz1 hz2 rfl (by decide) _ n (ints R.wl) rfl (HW.out.kept (fun k hk => Below.heap_alloc _ _ _ (HW.out.lt k hk))) ⟨w.heap.size, 0, none⟩ 1 1 (ints [x]) rfl rfl ?_ (ints_oneCell .i64 [x]) (by unfold maxLen; omega) (by omega) ?_)
      | fail)
    · intro j u hu
      exact news_block w (ints [x]) 3 j u hu
    · intro v' w2 r1 r2 r3
      rw [HN.out] at r2 r3
      obtain ⟨k1, k2, k3⟩ := H.out.app0 r2
      obtain ⟨⟨c0, f0⟩, c1, f1⟩ := H.out.cells k2
      have HL : OwnO w2 1 v' (R.wl ++ [x]).length (ints (R.wl ++ [x])) := by
        rw [List.length_append, ← HN.out]
        have : ints (R.wl ++ [x]) = ints R.wl ++ ints [x] := by simp [ints]
        rw [this]; exact r1
      have HE := Lib.hid (H.out.put0 k1 k2 k3 HL (fun k hk => (r3 k hk).imp id (fun h => ⟨by have := h.1; simp [World.setCell] at this ⊢; omega, h.2⟩)))
      obtain ⟨va, vc, rfl, -, -, -⟩ := r1.seq
      clear r1 r2 r3 k1 k2 k3 HL
      go_wp2
      go_ret
      rw [HP.out]
      exact ⟨by rw [H0.out]; rfl, ⟨_, _, HE.out.1⟩, HE.out.2⟩
  · have HP : Hid (R.put x = R) := by show _ = _; unfold RS.put; rw [if_neg h0]
    have HD : Hid (decide (R.color x = 0) = false) := by show _ = _; simpa using h0
    have HR := Lib.hid h; clear h
    obtain ⟨c, hc⟩ : ∃ c, c = R.color x := ⟨_, rfl⟩
    rw [← hc] at h0 HC
    have HCC := Lib.hid hc; clear hc
    go_enter Try.func31, Try.ntmps31
    go_wp2_with fail
    refine HC.out.mono ?_
    rintro e w' ⟨rfl, rfl⟩
    go_wp2
    go_ret
    rw [HP.out, HD.out]
    exact ⟨rfl, HR.out.mono (fun _ hk => Or.inl hk), Only.refl _ _⟩
set_option maxRecDepth 100000 in
set_option maxHeartbeats 400000 in
theorem ragain_any {m : Nat} {F : Nat → Prop} {R : RS} (x : Int) (w : World) (h : RefAt 54 w m F R) (hs : R.wl.length + R.bl.length ≤ 900000) :
    Calls Try.prog 32 #[.pointer (some ⟨m, 0, none⟩), .int .i64 x] w fun e w' => e = .returned (.bool (decide (R.color x = 2))) ∧ RefAt 54 w' m (grow F w w') (R.again x) ∧ Only F w w' := by
  obtain ⟨i0, hi, hz0, hz1, hz2⟩ := info_parts infoInt14
  have HC := Lib.hid (rcolor_any x w h (by omega))
  by_cases h0 : R.color x = 2
  · obtain ⟨wv, bv, h⟩ := h
    obtain ⟨⟨c0, f0⟩, c1, f1⟩ := h.cells rfl
    obtain ⟨ba, bc, rfl, hbs, -, -⟩ := h.black.seq
    obtain ⟨wa, wc, rfl, -, -, -⟩ := h.wait.seq
    have HBS := Lib.hid hbs; clear hbs
    have H := Lib.hid h; clear h
    have HP : Hid (R.again x = ⟨R.wl ++ [x], outL R.bl x⟩) := by show _ = _; unfold RS.again; rw [if_pos h0]
    have H0 := Lib.hid h0; clear h0
    go_enter Try.func32, Try.ntmps32
    go_wp2_with fail
    refine HC.out.mono ?_
    rintro e w' ⟨rfl, rfl⟩
    rw [H0.out]
    go_wp2_with fail
    refine (rout_any ba _ bc R.bl x _ HBS.out rfl (by omega)).mono ?_
    rintro e w1 ⟨v1, rfl, ho1, hb1⟩
    have hm1 : w1.heap[m]? = w.heap[m]? := hb1.block m H.out.lt
    obtain ⟨⟨c0, f0⟩, c1, f1⟩ := H.out.cells hm1
    have HE1 := Lib.hid (H.out.put1 (Only.of_below hb1 F) hm1 (H.out.wait.kept (fun k hk => hb1.block k (H.out.wait.lt k hk))) (OwnO.of_row ho1) (fun k hk => Or.inr (ho1.lt k hk)))
    obtain ⟨va, vc, rfl, -, -, -⟩ := ownsRow_seq ho1
    have hs1 := outL_length R.bl x
    clear ho1 hb1 hm1 HBS
    obtain ⟨n, hn⟩ : ∃ n, n = R.wl.length := ⟨_, rfl⟩
    have HW : Hid (OwnO (w1.setCell ⟨m, 1, none⟩ (.slice va (outL R.bl x).length vc)) 1 (.slice wa n wc) n (ints R.wl)) := by rw [hn]; exact HE1.out.1.wait
    rw [← hn] at hs c0
    have HN := Lib.hid hn; clear hn
    have HZ1 : Hid ((w1.setCell ⟨m, 1, none⟩ (.slice va (outL R.bl x).length vc)).heap.size = w1.heap.size) := by show _ = _; simp [World.setCell]
    go_wp2_with (first
      | (at_builtin; refine wpList_appendO _ rfl (.tmp 24) (.tmp 26) 22 rfl 3 i0 _ 1 8 Try.underlying22 hi hz0 hz1 hz2 rfl (by decide) _ n (ints R.wl) rfl (HW.out.kept (fun k hk => Below.heap_alloc _ _ _ (HW.out.lt k hk))) ⟨w1.heap.size, 0, none⟩ 1 1 (ints [x]) rfl rfl ?_ (ints_oneCell .i64 [x]) (by unfold maxLen; omega) (by omega) ?_)
      | fail)
    · intro j u hu
      have := news_block (w1.setCell ⟨m, 1, none⟩ (.slice va (outL R.bl x).length vc)) (ints [x]) 3 j u hu
      rw [HZ1.out] at this
      exact this
    · intro v' w3 r1 r2 r3
      rw [HN.out] at r2 r3
      obtain ⟨k1, k2, k3⟩ := HE1.out.1.app0 r2
      obtain ⟨⟨c0, f0⟩, c1, f1⟩ := HE1.out.1.cells k2
      have HL : OwnO w3 1 v' (R.wl ++ [x]).length (ints (R.wl ++ [x])) := by
        rw [List.length_append, ← HN.out]
        have : ints (R.wl ++ [x]) = ints R.wl ++ ints [x] := by simp [ints]
        rw [this]; exact r1
      have HE := Lib.hid (HE1.out.1.put0 k1 k2 k3 HL (fun k hk => (r3 k hk).imp id (fun h => ⟨by have := h.1; simp [World.setCell] at this ⊢; omega, h.2⟩)))
      obtain ⟨va, vc, rfl, -, -, -⟩ := r1.seq
      clear r1 r2 r3 k1 k2 k3 HL
      go_wp2
      go_ret
      rw [HP.out]
      exact ⟨by rw [H0.out]; rfl, RefAt.mono ⟨_, _, HE.out.1⟩ (grow_trans HE1.out.2.size HE.out.2.size), HE1.out.2.grow HE.out.2⟩
  · have HP : Hid (R.again x = R) := by show _ = _; unfold RS.again; rw [if_neg h0]
    have HD : Hid (decide (R.color x = 2) = false) := by show _ = _; simpa using h0
    have HR := Lib.hid h; clear h
    obtain ⟨c, hc⟩ : ∃ c, c = R.color x := ⟨_, rfl⟩
    rw [← hc] at h0 HC
    have HCC := Lib.hid hc; clear hc
    go_enter Try.func32, Try.ntmps32
    go_wp2_with fail
    refine HC.out.mono ?_
    rintro e w' ⟨rfl, rfl⟩
    go_wp2
    go_ret
    rw [HP.out, HD.out]
    exact ⟨rfl, HR.out.mono (fun _ hk => Or.inl hk), Only.refl _ _⟩

set_option maxRecDepth 100000 in
set_option maxHeartbeats 400000 in
theorem rpaint_any {m : Nat} {F : Nat → Prop} {R : RS} (x : Int) (w : World) (h : RefAt 54 w m F R) (hs : R.wl.length + R.bl.length ≤ 900000) :
    Calls Try.prog 34 #[.pointer (some ⟨m, 0, none⟩), .int .i64 x] w fun e w' => e = .returned (.bool (decide (R.color x ≠ 2))) ∧ RefAt 54 w' m (grow F w w') (R.paint x) ∧ Only F w w' := by
  obtain ⟨i0, hi, hz0, hz1, hz2⟩ := info_parts infoInt14
  have HC := Lib.hid (rcolor_any x w h (by omega))
  by_cases h0 : R.color x ≠ 2
  · obtain ⟨wv, bv, h⟩ := h
    obtain ⟨⟨c0, f0⟩, c1, f1⟩ := h.cells rfl
    obtain ⟨ba, bc, rfl, hbs, -, -⟩ := h.wait.seq
    obtain ⟨wa, wc, rfl, -, -, -⟩ := h.black.seq
    have HBS := Lib.hid hbs; clear hbs
    have H := Lib.hid h; clear h
    have HP : Hid (R.paint x = ⟨outL R.wl x, R.bl ++ [x]⟩) := by show _ = _; unfold RS.paint; rw [if_neg h0]
    have HD : Hid (decide (R.color x = 2) = false) := by show _ = _; simpa using h0
    obtain ⟨c, hc⟩ : ∃ c, c = R.color x := ⟨_, rfl⟩
    rw [← hc] at h0 HC
    have HCC := Lib.hid hc; clear hc
    go_enter Try.func34, Try.ntmps34
    go_wp2_with fail
    refine HC.out.mono ?_
    rintro e w' ⟨rfl, rfl⟩
    go_wp2_with fail
    refine (rout_any ba _ bc R.wl x _ HBS.out rfl (by omega)).mono ?_
    rintro e w1 ⟨v1, rfl, ho1, hb1⟩
    have hm1 : w1.heap[m]? = w.heap[m]? := hb1.block m H.out.lt
    obtain ⟨⟨c0, f0⟩, c1, f1⟩ := H.out.cells hm1
    have HE1 := Lib.hid (H.out.put0 (Only.of_below hb1 F) hm1 (H.out.black.kept (fun k hk => hb1.block k (H.out.black.lt k hk))) (OwnO.of_row ho1) (fun k hk => Or.inr (ho1.lt k hk)))
    obtain ⟨va, vc, rfl, -, -, -⟩ := ownsRow_seq ho1
    have hs1 := outL_length R.wl x
    clear ho1 hb1 hm1 HBS
    obtain ⟨n, hn⟩ : ∃ n, n = R.bl.length := ⟨_, rfl⟩
    have HW : Hid (OwnO (w1.setCell ⟨m, 0, none⟩ (.slice va (outL R.wl x).length vc)) 1 (.slice wa n wc) n (ints R.bl)) := by rw [hn]; exact HE1.out.1.black
    rw [← hn] at hs c1
    have HN := Lib.hid hn; clear hn
    have HZ1 : Hid ((w1.setCell ⟨m, 0, none⟩ (.slice va (outL R.wl x).length vc)).heap.size = w1.heap.size) := by show _ = _; simp [World.setCell]
    go_wp2_with (first
      | (at_builtin; refine wpList_appendO _ rfl (.tmp 24) (.tmp 26) 22 rfl 3 i0 _ 1 8 Try.underlying22 hi hz0 hz1 hz2 rfl (by decide) _ n (ints R.bl) rfl (HW.out.kept (fun k hk => Below.heap_alloc _ _ _ (HW.out.lt k hk))) ⟨w1.heap.size, 0, none⟩ 1 1 (ints [x]) rfl rfl ?_ (ints_oneCell .i64 [x]) (by unfold maxLen; omega) (by omega) ?_)
      | fail)
    · intro j u hu
      have := news_block (w1.setCell ⟨m, 0, none⟩ (.slice va (outL R.wl x).length vc)) (ints [x]) 3 j u hu
      rw [HZ1.out] at this
      exact this
    · intro v' w3 r1 r2 r3
      rw [HN.out] at r2 r3
      obtain ⟨k1, k2, k3⟩ := HE1.out.1.app1 r2
      obtain ⟨⟨c0, f0⟩, c1, f1⟩ := HE1.out.1.cells k2
      have HL : OwnO w3 1 v' (R.bl ++ [x]).length (ints (R.bl ++ [x])) := by
        rw [List.length_append, ← HN.out]
        have : ints (R.bl ++ [x]) = ints R.bl ++ ints [x] := by simp [ints]
        rw [this]; exact r1
      have HE := Lib.hid (HE1.out.1.put1 k1 k2 k3 HL (fun k hk => (r3 k hk).imp id (fun h => ⟨by have := h.1; simp [World.setCell] at this ⊢; omega, h.2⟩)))
      obtain ⟨va, vc, rfl, -, -, -⟩ := r1.seq
      clear r1 r2 r3 k1 k2 k3 HL
      go_wp2
      go_ret
      rw [HP.out]
      exact ⟨by rw [HD.out]; rfl, RefAt.mono ⟨_, _, HE.out.1⟩ (grow_trans HE1.out.2.size HE.out.2.size), HE1.out.2.grow HE.out.2⟩
  · have HP : Hid (R.paint x = R) := by show _ = _; unfold RS.paint; rw [if_pos (by omega)]
    have HD : Hid (decide (R.color x ≠ 2) = false) := by show _ = _; simpa using h0
    have HR := Lib.hid h; clear h
    have H0 : Hid (R.color x = 2) := by show _ = _; omega
    clear h0
    go_enter Try.func34, Try.ntmps34
    go_wp2_with fail
    refine HC.out.mono ?_
    rintro e w' ⟨rfl, rfl⟩
    rw [H0.out]
    go_wp2
    go_ret
    rw [HP.out, HD.out]
    exact ⟨rfl, HR.out.mono (fun _ hk => Or.inl hk), Only.refl _ _⟩

/-- What Next returns. -/
def nextR (p : Option Int × RS) : Value := .tuple #[.int .i64 (p.1.getD 0), .bool p.1.isSome]
set_option maxRecDepth 100000 in
theorem rnext_any {m : Nat} {F : Nat → Prop} {R : RS} (w : World) (h : RefAt 54 w m F R) (hs : R.wl.length + R.bl.length ≤ 900000) :
    Calls Try.prog 33 #[.pointer (some ⟨m, 0, none⟩)] w fun e w' => e = .returned (nextR R.next) ∧ RefAt 54 w' m (grow F w w') R.next.2 ∧ Only F w w' := by
  have hp := fun x => rpaint_any (F := F) (R := R) x w h hs
  obtain ⟨wv, bv, h⟩ := h
  obtain ⟨⟨c0, f0⟩, c1, f1⟩ := h.cells rfl
  obtain ⟨wa, wc, rfl, hws, -, -⟩ := h.wait.seq
  cases hw : R.wl with
  | nil =>
    have HN : Hid (R.next = (none, R)) := by show _ = _; unfold RS.next; rw [hw]
    have HR : Hid (RefAt 54 w m F R) := ⟨_, _, h⟩
    rw [hw] at c0
    clear h hws hp hw
    go_enter Try.func33, Try.ntmps33
    go_wp2
    go_ret2
    rw [HN.out]
    exact ⟨rfl, HR.out.mono (fun _ hk => Or.inl hk), Only.refl _ _⟩
  | cons x t =>
    have HN : Hid (R.next = (some x, R.paint x)) := by show _ = _; unfold RS.next; rw [hw]
    have HP : Hid (decide (R.color x ≠ 2) = true) := by
      have : R.color x = 1 := by unfold RS.color; rw [if_pos (by rw [hw, hasL_iff]; simp)]
      show _ = _; rw [this]; decide
    obtain ⟨b, off, z, rfl, hc, HZ⟩ := hws.ints (k := 0) (by rw [hw]; simp)
    have hzx : z = x := by have := HZ.out; rw [hw] at this; simpa using this.symm
    subst hzx
    obtain ⟨n, hn⟩ : ∃ n, n = t.length := ⟨_, rfl⟩
    have hl : R.wl.length = n + 1 := by rw [hw, hn]; simp
    rw [hl] at c0
    simp only [Nat.add_zero] at hc
    have hnn : 0 < n + 1 := by omega
    have HPC := Lib.hid (hp z)
    clear h hws hp hw hn hl HZ hs
    go_enter Try.func33, Try.ntmps33
    go_wp2_with fail
    refine HPC.out.mono ?_
    rintro e w1 ⟨rfl, hr, ho⟩
    have HR := Lib.hid hr
    have HO := Lib.hid ho
    clear hr ho HPC
    go_wp2
    go_ret2
    rw [HN.out]
    exact ⟨rfl, HR.out, HO.out⟩
end Go.Proofs.Ytcfapidalngebaa
