/-
  Package tree: the walks of New, Live, Len, need, Parent, Kids.
-/
import Derived.Test.YtaljeadagiifnaaTreePlain
import Derived.Test.YtaljeadagiifnaaSortT
import Derived.Test.YtaljeadagiifnaaFoot
import Derived.StillTailTactics
set_option linter.unusedSimpArgs false
set_option linter.unusedVariables false
namespace Go.Proofs.Ytaljeadagiifnaa
open Go.RowKit Go.Tr

/-- The tree at g, its map at bm. -/
def TreeAt (w : World) (g bm : Nat) (S : TS) : Prop := w.heap[g]? = some (.cells #[.map (some bm), .int .i64 S.last] 52 (0, 0)) ∧ bm ≠ g ∧ MapI w bm (mapA iv S.tab)
/-- What a deed may turn. -/
def Fp (g bm : Nat) : Nat → Prop := fun k => k = g ∨ k = bm
theorem TreeAt.lt {w : World} {g bm : Nat} {S : TS} (h : TreeAt w g bm S) : g < w.heap.size ∧ bm < w.heap.size := ⟨(Array.getElem?_eq_some_iff.1 h.1).1, h.2.2.lt⟩
theorem TreeAt.kept {w w' : World} {g bm : Nat} {S : TS} (h : TreeAt w g bm S) (hg : w'.heap[g]? = w.heap[g]?) (hb : w'.heap[bm]? = w.heap[bm]?) : TreeAt w' g bm S := ⟨hg.trans h.1, h.2.1, h.2.2.kept hb⟩
theorem TreeAt.below {w w' : World} {g bm : Nat} {S : TS} (h : TreeAt w g bm S) (hb : Below w.heap.size w w') : TreeAt w' g bm S := h.kept (hb.block _ h.lt.1) (hb.block _ h.lt.2)
theorem TreeAt.only {G : Nat → Prop} {w w' : World} {g bm : Nat} {S : TS} (h : TreeAt w g bm S) (ho : Only G w w') (h1 : ¬ G g) (h2 : ¬ G bm) : TreeAt w' g bm S := h.kept (ho.block _ h.lt.1 h1) (ho.block _ h.lt.2 h2)
theorem TreeAt.cells {w : World} {g bm : Nat} {S : TS} (h : TreeAt w g bm S) : (w.cell? ⟨g, 0, none⟩ = some (.map (some bm)) ∧ w.frozen? ⟨g, 0, none⟩ = false) ∧ w.cell? ⟨g, 1, none⟩ = some (.int .i64 S.last) ∧ w.frozen? ⟨g, 1, none⟩ = false :=
  ⟨⟨cell_of_row w g 0 _ _ (0, 0) h.1, by simp [World.frozen?, h.1]⟩, cell_of_row w g 1 _ _ (0, 0) h.1, by simp [World.frozen?, h.1]⟩
theorem look_par (S : TS) (x : Int) : (lookA (mapA iv S.tab) x).getD (.int .i64 0) = .int .i64 (S.par x) := by rw [lookA_mapA]; unfold TS.par; cases lookA S.tab x <;> rfl
theorem has_map (S : TS) (x : Int) : hasA (mapA iv S.tab) x = S.has x := hasA_mapA _ _ _
/-- How many an iterator has still to come to: read off memory. -/
def leftCount (w : World) (b r : Nat) : Nat := match w.heap[b]?, w.heap[r]? with | some (.map es _), some (.mapIter _ _ seen _) => (leftOf es seen).size | _, _ => 0
theorem rangeI_count {w : World} {b r : Nat} {l left : List (Int × Value)} (h : RangeI w b r l left) : leftCount w b r = left.length := by
  obtain ⟨es, clock, since, seen, c0, h1, _, _, h4, _, _, _, h8⟩ := h
  have := congrArg List.length h8
  simp at this
  unfold leftCount
  rw [h1, h4]
  simpa using this
theorem ownsRow_kept {w w' : World} {base : Nat} {e : TypeId} {size n : Nat} {v : Value} {xs : List Value} (h : w.ownsRow base e size v n xs) (hk : ∀ k, v.ownBlock = some k → w'.heap[k]? = w.heap[k]?) : w'.ownsRow base e size v n xs := by
  obtain ⟨h1, h2⟩ := h
  refine ⟨h1, h2.imp id ?_⟩
  rintro ⟨k, cap, cur, rfl, h3, h4, h5⟩
  exact ⟨k, cap, cur, rfl, h3, (hk k rfl).trans h4, h5⟩
theorem own_nil {w : World} {base : Nat} {e : TypeId} {a : Option Addr} {n c : Nat} {xs : List Value} (h : w.ownsRow base e 1 (.slice a n c) n xs) : a = none → n = 0 ∧ c = 0 := by
  rintro rfl
  obtain ⟨_, ⟨h1, h2⟩ | ⟨g, cap, cur, h1, _⟩⟩ := h
  · cases h1; exact ⟨rfl, rfl⟩
  · cases h1
theorem own_mono {w : World} {base base' : Nat} {e : TypeId} {v : Value} {zs : List Int} (h : own3 w e base v zs) (hb : base' ≤ base) : own3 w e base' v zs := ownsRow_mono h hb

theorem tnew_any (w : World) : Calls Try.prog 18 #[] w fun e w' => ∃ g bm, e = .returned (.pointer (some ⟨g, 0, none⟩)) ∧ TreeAt w' g bm TS.new ∧ Below w.heap.size w w' ∧ w.heap.size ≤ g ∧ w.heap.size ≤ bm := by
  go_enter Try.func18, Try.ntmps18
  have hmm := @run_makeMap Try.prog
  go_wp2
  go_ret
  refine ⟨w.heap.size + 1, w.heap.size, rfl, ⟨?_, by omega, ?_⟩, ((Below.refl _ w).alloc (Nat.le_refl _) _).alloc (by simp) _, by omega, Nat.le_refl _⟩
  · have := heap_alloc_new (w.alloc (.map #[] 0)) (.cells #[.map (some w.heap.size), .int .i64 0] 52)
    simpa [TS.new] using this
  · exact (MapI.made w).kept (Below.heap_alloc _ _ _ (by simp))

variable {g bm : Nat} {S : TS}
set_option maxRecDepth 100000 in
theorem tlive_any (x : Int) (w : World) (h : TreeAt w g bm S) : Calls Try.prog 15 #[.pointer (some ⟨g, 0, none⟩), .int .i64 x] w fun e w' => e = .returned (.bool (S.has x)) ∧ w = w' := by
  obtain ⟨⟨c0, f0⟩, c1, f1⟩ := h.cells
  have HM := Lib.hid h.2.2
  have HL := Lib.hid (look_par S x)
  have HH := Lib.hid (has_map S x)
  clear h
  go_enter Try.func15, Try.ntmps15
  go_wp2_with (first
    | (refine wpList_lookI_ok _ rfl (.tmp 13) (.tmp 14) 50 rfl 3 3 Try.underlying50 Try.underlying3 _ Try.zeroValue3 bm _ rfl HM.out x rfl ?_; rw [HL.out, HH.out])
    | fail)
  go_wp2
  go_ret
  exact ⟨rfl, rfl⟩
set_option maxRecDepth 100000 in
theorem tlen_any (w : World) (h : TreeAt w g bm S) : Calls Try.prog 19 #[.pointer (some ⟨g, 0, none⟩)] w fun e w' => e = .returned (.int .i64 S.tab.length) ∧ w = w' := by
  obtain ⟨⟨c0, f0⟩, c1, f1⟩ := h.cells
  have HM := Lib.hid h.2.2
  have HL := Lib.hid (length_mapA iv S.tab)
  clear h
  go_enter Try.func19, Try.ntmps19
  go_wp2_with (first
    | (refine wpList_lenI _ rfl (.tmp 8) 50 rfl 3 3 Try.underlying50 bm _ rfl HM.out ?_; rw [HL.out])
    | fail)
  go_wp2
  go_ret
  exact ⟨rfl, rfl⟩
/-- What need answers. -/
def TS.needE (S : TS) (x : Int) : Int := if S.has x = true then 0 else 6
set_option maxRecDepth 100000 in
theorem tneed_any (x : Int) (w : World) (h : TreeAt w g bm S) : Calls Try.prog 25 #[.pointer (some ⟨g, 0, none⟩), .int .i64 x] w fun e w' => e = .returned (.int .i64 (TS.needE S x)) ∧ w = w' := by
  have HL := Lib.hid (tlive_any x w h)
  clear h
  by_cases hx : S.has x = true
  · have HX := Lib.hid hx
    have HE : Hid (TS.needE S x = 0) := by show _ = _; unfold TS.needE; rw [if_pos hx]
    clear hx
    go_enter Try.func25, Try.ntmps25
    go_wp2_with fail
    refine HL.out.mono ?_
    rintro e w' ⟨rfl, rfl⟩
    rw [HX.out]
    go_wp2
    go_ret
    exact ⟨by rw [HE.out]; rfl, rfl⟩
  · have HX : Hid (S.has x = false) := by simpa [Hid] using hx
    have HE : Hid (TS.needE S x = 6) := by show _ = _; unfold TS.needE; rw [if_neg hx]
    clear hx
    go_enter Try.func25, Try.ntmps25
    go_wp2_with fail
    refine HL.out.mono ?_
    rintro e w' ⟨rfl, rfl⟩
    rw [HX.out]
    go_wp2
    go_ret
    exact ⟨by rw [HE.out]; rfl, rfl⟩
theorem par_dead {S : TS} {x : Int} (h : S.has x = false) : S.par x = 0 := by unfold TS.par; rw [hasA_none.1 h]; rfl
set_option maxRecDepth 100000 in
theorem tparent_any (x : Int) (w : World) (h : TreeAt w g bm S) : Calls Try.prog 11 #[.pointer (some ⟨g, 0, none⟩), .int .i64 x] w fun e w' => e = .returned (.tuple #[.int .i64 (S.par x), .int .i64 (TS.needE S x)]) ∧ w = w' := by
  obtain ⟨⟨c0, f0⟩, c1, f1⟩ := h.cells
  have HM := Lib.hid h.2.2
  have HL := Lib.hid (look_par S x)
  have HN := Lib.hid (tneed_any x w h)
  clear h
  by_cases hx : S.has x = true
  · have HE : Hid (TS.needE S x = 0) := by show _ = _; unfold TS.needE; rw [if_pos hx]
    clear hx
    go_enter Try.func11, Try.ntmps11
    go_wp2_with fail
    refine HN.out.mono ?_
    rintro e w' ⟨rfl, rfl⟩
    rw [HE.out]
    go_wp2_with (first
      | (refine wpList_lookI _ rfl (.tmp 16) (.tmp 17) 50 rfl 3 3 Try.underlying50 Try.underlying3 _ Try.zeroValue3 bm _ rfl HM.out x rfl ?_; rw [HL.out])
      | fail)
    go_wp2
    go_ret2
    exact ⟨by rw [HE.out]; rfl, rfl⟩
  · have HE : Hid (TS.needE S x = 6) := by show _ = _; unfold TS.needE; rw [if_neg hx]
    have HP : Hid (S.par x = 0) := par_dead (by simpa using hx)
    clear hx
    go_enter Try.func11, Try.ntmps11
    go_wp2_with fail
    refine HN.out.mono ?_
    rintro e w' ⟨rfl, rfl⟩
    rw [HE.out]
    go_wp2
    go_ret2
    exact ⟨by rw [HE.out, HP.out]; rfl, rfl⟩

theorem infoIntT : (Try.prog.info? 3).map (fun i => (i.zero, i.size, i.bytes)) = some (some (.int .i64 0), 1, 8) := by kernel_rfl
/-- What Kids answers for an error. -/
def TS.kidsE (S : TS) (x : Int) : Int := if S.has x = true ∨ x = 0 then 0 else 6
set_option maxRecDepth 100000 in
set_option maxHeartbeats 1000000 in
theorem tkids_any (id : Int) (w : World) (h : TreeAt w g bm S) (hS : S.WF) :
    Calls Try.prog 12 #[.pointer (some ⟨g, 0, none⟩), .int .i64 id] w fun e w' => ∃ v zs, e = .returned (.tuple #[v, .int .i64 (TS.kidsE S id)]) ∧ own3 w' 3 w.heap.size v zs ∧ zs.Pairwise (· < ·) ∧ (∀ x, x ∈ zs ↔ lookA S.tab x = some id) ∧ zs.length ≤ 64 ∧ Below w.heap.size w w' := by
  obtain ⟨⟨c0, f0⟩, c1, f1⟩ := h.cells
  obtain ⟨i0, hi, hz0, hz1, hz2⟩ := info_parts infoIntT
  have HN := Lib.hid (tneed_any id w h)
  have HM := Lib.hid h.2.2
  have hbl := h.lt.2
  clear h
  by_cases hd : S.has id = true ∨ id = 0
  · have HK : Hid (TS.kidsE S id = 0) := by show _ = _; unfold TS.kidsE; rw [if_pos hd]
    have hsz := hS.size
    have HC0 := Lib.hid (KCame.start id hS.nodup)
    go_enter Try.func12, Try.ntmps12
    go_wp2_with fail
    refine HN.out.mono ?_
    rintro e w' ⟨rfl, rfl⟩
    have HZ : Hid (TS.needE S id = 0 ∨ (TS.needE S id = 6 ∧ id = 0)) := by
      unfold TS.needE
      rcases hd with hd | hd
      · rw [if_pos hd]; exact Or.inl rfl
      · by_cases hh : S.has id = true
        · rw [if_pos hh]; exact Or.inl rfl
        · rw [if_neg hh]; exact Or.inr ⟨rfl, hd⟩
    clear hd hS
    rcases HZ.out with hz | ⟨hz, hid0⟩
    all_goals
      rw [hz]
      clear hz HZ
      try (have hq1 : (id == 0) = true := by (rw [hid0]; rfl))
      try (have hq2 : (id != 0) = false := by (rw [hid0]; rfl))
      try clear hid0
      go_wp2_with (first
        | (refine wpList_rangeI _ rfl (.tmp 27) 50 rfl 3 3 Try.underlying50 bm _ rfl HM.out ?_
           intro w1 hr1 hg1 hs1
           have HR1 := Lib.hid hr1
           have HB1 : Hid (Below w.heap.size w w1) := ⟨hg1.os, hg1.tape, hg1.output, hg1.size, fun k hk => hg1.block k hk (by simp)⟩
           have HS1 := Lib.hid hs1
           clear hr1 hg1 hs1)
        | fail)
      have HV0 : Hid (own3 w1 3 (w.heap.size + 1) (.slice none 0 0) []) := World.ownsRow_nil _ _ _ _
      simp only [Act.put, List.setIfInBounds_toArray, List.set_cons_zero, List.set_cons_succ]
      obtain ⟨r, hr⟩ : ∃ r, r = w.heap.size := ⟨_, rfl⟩
      rw [← hr] at HR1 HS1 hbl HV0
      simp only [← hr]
      have HRR := Lib.hid hr; clear hr
      obtain ⟨l, hl⟩ : ∃ l, l = mapA iv S.tab := ⟨_, rfl⟩
      rw [← hl] at HR1 HC0 HM
      clear hl
      have HS1' : Hid (r + 1 ≤ w1.heap.size) := Nat.le_of_eq HS1.out.symm
      go_loopw [7] (fun v wr => ∃ left zs, Hid (RangeI wr bm r l left) ∧ Hid (KCame S.tab id left zs) ∧ Hid (own3 wr 3 (r + 1) v zs) ∧ Hid (Below r w wr) ∧ Hid (r + 1 ≤ wr.heap.size)) (fun _ wr => leftCount wr bm r)
      case atStart => exact ⟨l, [], HR1, HC0, HV0, by rw [HRR.out]; exact HB1, HS1'⟩
      case round =>
        clear HR1 HC0 HV0 HB1 HS1 HS1' HM
        obtain ⟨left, zs, HR, HC, HV, HB, HS⟩ := hrel
        have hzl := HC.out.le
        have hbr : r ≠ bm := by omega
        go_wp2_with (first
          | (refine wpList_nextI _ rfl (.tmp 28) rfl bm r l left rfl HR.out hbr ?_ ?_)
          | fail)
        · intro h0
          subst h0
          have HD := Lib.hid HC.out.done
          have HRI := Lib.hid (rises_sort HC.out.1)
          go_wp2_with fail
          refine (sort_own (r + 1) u7 zs _ HV.out (by omega)).mono ?_
          rintro e w3 ⟨rfl, ho, hg⟩
          have HV3 := Lib.hid ho
          have HB3 : Hid (Below r w w3) := HB.out.grown hg (by have := HS.out; omega) (fun j hj => by have := (HV.out.lt j hj).1; omega)
          clear ho hg
          go_wp2
          go_ret2
          rw [← HRR.out]
          exact ⟨_, _, by rw [HK.out]; rfl, ownsRow_mono HV3.out (by omega), HRI.out, fun x => mem_sortL.trans (HD.out x), by rw [sortL_length]; omega, HB3.out⟩
        · intro x v w2 hx hr2 hg2 hs2 hen
          obtain ⟨pv, rfl, hlk⟩ := HC.out.look hx
          have HLK := Lib.hid hlk
          have HR2 := Lib.hid hr2
          have hlt2 := delA_lt hx
          have HLT : Hid (leftCount w2 bm r < leftCount wr bm r) := by show _ < _; rw [rangeI_count hr2, rangeI_count HR.out]; exact hlt2
          have hvr : ∀ k, u7.ownBlock = some k → k ≠ r := fun k hk => by have := (HV.out.lt k hk).1; omega
          have HV2 : Hid (own3 w2 3 (r + 1) u7 zs) := ownsRow_kept HV.out (fun k hk => hg2.block k (HV.out.lt k hk).2 (by simp; exact fun e => hvr k hk e))
          have HB2 : Hid (Below r w w2) := HB.out.grown hg2 (by have := HS.out; omega) (fun j hj => by cases hj; exact Nat.le_refl _)
          have HS2 : Hid (r + 1 ≤ w2.heap.size) := by show _ ≤ _; rw [hs2]; exact HS.out
          have hrl := HR2.out.ltr
          by_cases hc : pv = id
          · subst hc
            have HC2 := Lib.hid (HC.out.take hx hlk)
            have hzl2 := HC2.out.le
            simp at hzl2
            obtain ⟨zn, hzn⟩ : ∃ zn, zn = zs.length := ⟨_, rfl⟩
            have HV2' : Hid (w2.ownsRow (r + 1) 3 1 u7 zn (ints zs)) := by rw [hzn]; exact HV2.out
            rw [← hzn] at hzl2
            have HZN := Lib.hid hzn.symm; clear hzn
            obtain ⟨oa, oc, rfl, -, -, -⟩ := ownsRow_seq HV2'.out
            clear hx hr2 hg2 hs2 hlt2 hvr HR HC HV HB HS HV2 hzl hlk
            go_wp2_with (first
              | (at_builtin; refine wpList_append_own_at _ rfl (.tmp 37) (.tmp 39) 31 rfl (r + 1) 3 i0 _ 1 8 Try.underlying31 hi hz0 hz1 hz2 rfl (by decide) _ _ _ rfl (HV2'.out.alloc _) ⟨w2.heap.size, 0, none⟩ 1 1 (ints [x]) rfl rfl ?_ (ints_oneCell .i64 [x]) (by unfold maxLen; omega) (by omega) (by have := HS2.out; simp; omega) ?_)
              | fail)
            · intro j u hu
              exact news_block w2 (ints [x]) 3 j u hu
            · intro v' w5 hown hgrow _ hat
              have HV5 : Hid (own3 w5 3 (r + 1) v' (zs ++ [x])) := by
                have := hown
                rw [← HZN.out] at this
                show w5.ownsRow _ _ _ _ _ _
                simpa [ints] using this
              have hub : ∀ k, (Value.slice oa zn oc).ownBlock = some k → r < k := fun k hk => by have := (HV2'.out.lt k hk).1; omega
              have HB5 : Hid (Below r w w5) := (HB2.out.alloc (by have := HS2.out; omega) _).grown hgrow (by have := HS2.out; simp; omega) (fun j hj => by have := hub j hj; omega)
              have HS5 : Hid (r + 1 ≤ w5.heap.size) := by have := hgrow.size; have h2 := HS2.out; simp at this; show _ ≤ _; omega
              have hkk : ∀ k, k ≤ r → w5.heap[k]? = w2.heap[k]? := fun k hk => by
                have h2 := HS2.out
                rw [hgrow.block k (by simp; omega) (fun e => by have := hub k e.symm; omega), Below.heap_alloc _ _ _ (by omega)]
              have HR5 : Hid (RangeI w5 bm r l (delA left x)) := HR2.out.kept (hkk bm (by omega)) (hkk r (Nat.le_refl _))
              have HLT5 : Hid (leftCount w5 bm r < leftCount wr bm r) := by
                have := HLT.out
                show _ < _
                rw [rangeI_count HR5.out, ← rangeI_count HR2.out]; exact this
              clear hown hgrow hat hub hkk
              go_wp2
              go_roundw
              case rel => exact ⟨_, _, HR5, HC2, HV5, HB5, HS5⟩
              case measure => exact HLT5.out
          · have hd : (pv == id) = false := by simpa using hc
            have HC2 := Lib.hid (HC.out.skip hlk hc)
            clear hx hr2 hg2 hs2 hlt2 hvr HR HC HV HB HS hzl hlk hc
            go_wp2_with fail
            go_roundw
            case rel => exact ⟨_, _, HR2, HC2, HV2, HB2, HS2⟩
            case measure => exact HLT.out
  · have HK : Hid (TS.kidsE S id = 6) := by show _ = _; unfold TS.kidsE; rw [if_neg hd]
    have HE : Hid (TS.needE S id = 6) := by show _ = _; unfold TS.needE; rw [if_neg (fun h => hd (Or.inl h))]
    have hid : id ≠ 0 := fun h => hd (Or.inr h)
    have HNO : Hid (∀ x, x ∈ ([] : List Int) ↔ lookA S.tab x = some id) := fun x => ⟨fun h => (by cases h), fun h => by
      have := (hS.low x id h).2.2.2
      exact absurd (this.symm) hd⟩
    have hid2 : (id == 0) = false := by simpa using hid
    clear hd hS hid
    go_enter Try.func12, Try.ntmps12
    go_wp2_with fail
    refine HN.out.mono ?_
    rintro e w' ⟨rfl, rfl⟩
    rw [HE.out]
    go_wp2
    go_ret2
    exact ⟨.slice none 0 0, [], by rw [HK.out]; rfl, World.ownsRow_nil _ _ _ _, List.Pairwise.nil, HNO.out, by simp, Below.refl _ _⟩
end Go.Proofs.Ytaljeadagiifnaa
