/-
  Package gray: the walk of Done.
-/
import Derived.Test.YtcfapidalngebaaGrayX
import Derived.Test.YtcfapidalngebaaSort
set_option linter.unusedSimpArgs false
set_option linter.unusedVariables false
namespace Go.Proofs.Ytcfapidalngebaa
open Go.RowKit Go.Tr

/-- How many an iterator has still to come to: read off memory. -/
def leftCount (w : World) (b r : Nat) : Nat := match w.heap[b]?, w.heap[r]? with | some (.map es _), some (.mapIter _ _ seen _) => (leftOf es seen).size | _, _ => 0
theorem rangeI_count {w : World} {b r : Nat} {l left : List (Int × Value)} (h : RangeI w b r l left) : leftCount w b r = left.length := by
  obtain ⟨es, clock, since, seen, c0, h1, _, _, h4, _, _, _, h8⟩ := h
  have := congrArg List.length h8
  simp at this
  unfold leftCount
  rw [h1, h4]
  simpa using this
theorem delA_lt {l : List (Int × Value)} {x : Int} {v : Value} (h : (x, v) ∈ l) : (delA l x).length < l.length := by
  induction l with
  | nil => cases h
  | cons p r ih =>
    unfold delA at ih ⊢
    have hle := List.length_filter_le (fun p : Int × Value => !(p.1 == x)) r
    rw [List.filter_cons]
    split
    · rename_i hp
      rcases List.mem_cons.1 h with h | h
      · subst h; simp at hp
      · have := ih h; simp only [List.length_cons]; omega
    · simp only [List.length_cons]; omega
theorem mem_delA {l : List (Int × Value)} {x : Int} {p : Int × Value} : p ∈ delA l x ↔ p ∈ l ∧ p.1 ≠ x := by simp [delA]

/-- Of the black ones those that have come. -/
def Came (S : GS) (left : List (Int × Value)) (zs : List Int) : Prop :=
  zs.Nodup ∧ (∀ x, x ∈ zs ↔ S.color x = 2 ∧ ∀ p ∈ left, p.1 ≠ x) ∧ (∀ p ∈ left, p ∈ mapA thingV S.tab) ∧ (keysA S.tab).Nodup ∧ ∀ x ∈ zs, x ∈ keysA S.tab
theorem Came.start {S : GS} (hn : (keysA (mapA thingV S.tab)).Nodup) : Came S (mapA thingV S.tab) [] := by
  rw [keysA_mapA] at hn
  refine ⟨List.nodup_nil, fun x => ⟨fun h => (by cases h), fun ⟨h1, h2⟩ => ?_⟩, fun p hp => hp, hn, by simp⟩
  exfalso
  have h3 : lookA (mapA thingV S.tab) x = none := lookA_none.2 h2
  rw [lookA_mapA] at h3
  simp at h3
  unfold GS.color GS.at at h1
  rw [h3] at h1
  simp at h1
theorem Came.look {S : GS} {left : List (Int × Value)} {zs : List Int} (h : Came S left zs) {x : Int} {v : Value} (hx : (x, v) ∈ left) : v = .agg #[.int .i64 (S.color x), .int .i64 (S.at x).2] := by
  obtain ⟨h1, h2, h3, h4, h5⟩ := h
  have h6 := h3 _ hx
  obtain ⟨⟨y, t⟩, ht, he⟩ := List.mem_map.1 h6
  simp at he
  obtain ⟨rfl, rfl⟩ := he
  have h7 : S.at y = t := by unfold GS.at; rw [lookA_of_mem h4 ht]; rfl
  unfold GS.color
  rw [h7]; rfl
theorem Came.skip {S : GS} {left : List (Int × Value)} {zs : List Int} (h : Came S left zs) {x : Int} {v : Value} (hx : (x, v) ∈ left) (hc : S.color x ≠ 2) : Came S (delA left x) zs := by
  obtain ⟨h1, h2, h3, h4, h5⟩ := h
  refine ⟨h1, fun y => (h2 y).trans ⟨fun ⟨a, b⟩ => ⟨a, fun p hp => b p (mem_delA.1 hp).1⟩, fun ⟨a, b⟩ => ⟨a, fun p hp e => ?_⟩⟩, fun p hp => h3 p (mem_delA.1 hp).1, h4, h5⟩
  by_cases hpx : p.1 = x
  · exact hc (by rw [← hpx, e]; exact a)
  · exact b p (mem_delA.2 ⟨hp, hpx⟩) e
theorem Came.take {S : GS} {left : List (Int × Value)} {zs : List Int} (h : Came S left zs) {x : Int} {v : Value} (hx : (x, v) ∈ left) (hc : S.color x = 2) : Came S (delA left x) (zs ++ [x]) := by
  obtain ⟨h1, h2, h3, h4, h5⟩ := h
  have hxz : x ∉ zs := fun hz => ((h2 x).1 hz).2 _ hx rfl
  refine ⟨List.nodup_append.2 ⟨h1, by simp, fun a ha b hb e => by simp at hb; subst hb; subst e; exact hxz ha⟩, fun y => ?_, fun p hp => h3 p (mem_delA.1 hp).1, h4, fun y hy => ?_⟩
  · rw [List.mem_append, h2, List.mem_singleton]
    constructor
    · rintro (⟨a, b⟩ | rfl)
      · exact ⟨a, fun p hp => b p (mem_delA.1 hp).1⟩
      · exact ⟨hc, fun p hp => (mem_delA.1 hp).2⟩
    · rintro ⟨a, b⟩
      by_cases e : y = x
      · exact Or.inr e
      · exact Or.inl ⟨a, fun p hp e2 => b p (mem_delA.2 ⟨hp, by rw [e2]; exact e⟩) e2⟩
  · rcases List.mem_append.1 hy with hy | hy
    · exact h5 y hy
    · simp at hy; subst hy
      have h6 := h3 _ hx
      rw [← keysA_mapA thingV]
      exact List.mem_map.2 ⟨_, h6, rfl⟩
theorem Came.le {S : GS} {left : List (Int × Value)} {zs : List Int} (h : Came S left zs) : zs.length ≤ S.tab.length := by
  have := length_of_sub h.1 h.2.2.2.2
  simpa [keysA] using this
theorem Came.done {S : GS} {zs : List Int} (h : Came S [] zs) : ∀ x, x ∈ zs ↔ S.color x = 2 := fun x => (h.2.1 x).trans (by simp)
theorem ownsRow_kept {w w' : World} {base : Nat} {e : TypeId} {size n : Nat} {v : Value} {xs : List Value} (h : w.ownsRow base e size v n xs) (hk : ∀ k, v.ownBlock = some k → w'.heap[k]? = w.heap[k]?) : w'.ownsRow base e size v n xs := by
  obtain ⟨h1, h2⟩ := h
  refine ⟨h1, h2.imp id ?_⟩
  rintro ⟨k, cap, cur, rfl, h3, h4, h5⟩
  exact ⟨k, cap, cur, rfl, h3, (hk k rfl).trans h4, h5⟩
theorem rises_sort {zs : List Int} (h : zs.Nodup) : (sortL zs).Pairwise (· < ·) := by
  have h1 := sortL_sorted zs
  have h2 : (sortL zs).Nodup := (sortL_perm _).nodup_iff.2 h
  exact (h1.and h2).imp (fun h => by have := h.1; have := h.2; omega)

theorem infoInt4 : (Try.prog.info? 3).map (fun i => (i.zero, i.size, i.bytes)) = some (some (.int .i64 0), 1, 8) := by kernel_rfl

set_option maxRecDepth 100000 in
set_option maxHeartbeats 1000000 in
theorem done_any {g : Nat} {F : Nat → Prop} {S : GS} (w : World) (h : GrayAt 68 w g F S) (hsm : S.tab.length ≤ 1000000) :
    Calls Try.prog 30 #[.pointer (some ⟨g, 0, none⟩)] w fun e w' => ∃ v zs, e = .returned v ∧ own3 w' 3 w.heap.size v zs ∧ zs.Pairwise (· < ·) ∧ (∀ x, x ∈ zs ↔ S.color x = 2) ∧ Below w.heap.size w w' := by
  obtain ⟨h1, bm, qv, h2, h3, h4, h5, h6, h7⟩ := h
  obtain ⟨i0, hi, hz0, hz1, hz2⟩ := info_parts infoInt4
  have hc0 := (cells_of_block h2 0).1
  simp at hc0
  have H5 := Lib.hid h5; clear h5
  have hbl : bm < w.heap.size := H5.out.lt
  clear h1 h2 h3 h6 h7
  go_enter Try.func30, Try.ntmps30
  go_wp2_with (first
    | (refine wpList_rangeI _ rfl (.tmp 12) 65 rfl 3 73 Try.underlying65 bm _ rfl H5.out ?_
       intro w1 hr1 hg1 hs1
       have HR1 := Lib.hid hr1
       have HB1 : Hid (Below w.heap.size w w1) := ⟨hg1.os, hg1.tape, hg1.output, hg1.size, fun k hk => hg1.block k hk (by simp)⟩
       have HS1 := Lib.hid hs1
       clear hr1 hg1 hs1)
    | fail)
  have HC0 := Lib.hid (Came.start H5.out.nodup)
  have HV0 : Hid (own3 w1 3 (w.heap.size + 1) (.slice none 0 0) []) := World.ownsRow_nil _ _ _ _
  simp only [Act.put, List.setIfInBounds_toArray, List.set_cons_zero, List.set_cons_succ]
  obtain ⟨r, hr⟩ : ∃ r, r = w.heap.size := ⟨_, rfl⟩
  rw [← hr] at HR1 HS1 hbl HV0
  simp only [← hr]
  have HRR := Lib.hid hr; clear hr
  obtain ⟨l, hl⟩ : ∃ l, l = mapA thingV S.tab := ⟨_, rfl⟩
  rw [← hl] at HR1 HC0 H5
  clear hl
  have HS1' : Hid (r + 1 ≤ w1.heap.size) := Nat.le_of_eq HS1.out.symm
  go_loopw [3] (fun v wr => ∃ left zs, Hid (RangeI wr bm r l left) ∧ Hid (Came S left zs) ∧ Hid (own3 wr 3 (r + 1) v zs) ∧ Hid (Below r w wr) ∧ Hid (r + 1 ≤ wr.heap.size)) (fun _ wr => leftCount wr bm r)
  case atStart => exact ⟨l, [], HR1, HC0, HV0, by rw [HRR.out]; exact HB1, HS1'⟩
  case round =>
    clear HR1 HC0 HV0 HB1 HS1 HS1' H5
    obtain ⟨left, zs, HR, HC, HV, HB, HS⟩ := hrel
    have hzl := HC.out.le
    have hbr : r ≠ bm := by omega
    go_wp2_with (first
      | (refine wpList_nextI _ rfl (.tmp 13) rfl bm r l left rfl HR.out hbr ?_ ?_)
      | fail)
    · intro h0
      subst h0
      have HD := Lib.hid HC.out.done
      have HRI := Lib.hid (rises_sort HC.out.1)
      go_wp2_with fail
      refine (sort_own (r + 1) u3 zs _ HV.out (by omega)).mono ?_
      rintro e w3 ⟨rfl, ho, hg⟩
      have HV3 := Lib.hid ho
      have HB3 : Hid (Below r w w3) := HB.out.grown hg (by have := HS.out; omega) (fun j hj => by have := (HV.out.lt j hj).1; omega)
      clear ho hg
      go_wp2
      go_ret
      rw [← HRR.out]
      exact ⟨_, _, rfl, ownsRow_mono HV3.out (by omega), HRI.out, fun x => mem_sortL.trans (HD.out x), HB3.out⟩
    · intro x v w2 hx hr2 hg2 hs2 hen
      obtain rfl := HC.out.look hx
      have HR2 := Lib.hid hr2
      have hlt2 := delA_lt hx
      have HLT : Hid (leftCount w2 bm r < leftCount wr bm r) := by show _ < _; rw [rangeI_count hr2, rangeI_count HR.out]; exact hlt2
      have hvr : ∀ k, u3.ownBlock = some k → k ≠ r := fun k hk => by have := (HV.out.lt k hk).1; omega
      have HV2 : Hid (own3 w2 3 (r + 1) u3 zs) := ownsRow_kept HV.out (fun k hk => hg2.block k (HV.out.lt k hk).2 (by simp; exact fun e => hvr k hk e))
      have HB2 : Hid (Below r w w2) := HB.out.grown hg2 (by have := HS.out; omega) (fun j hj => by cases hj; exact Nat.le_refl _)
      have HS2 : Hid (r + 1 ≤ w2.heap.size) := by show _ ≤ _; rw [hs2]; exact HS.out
      have hrl := HR2.out.ltr
      by_cases hc : S.color x = 2
      · have HC2 := Lib.hid (HC.out.take hx hc)
        have hzl2 := HC2.out.le
        simp at hzl2
        rw [hc] at hen
        obtain ⟨zn, hzn⟩ : ∃ zn, zn = zs.length := ⟨_, rfl⟩
        have HV2' : Hid (w2.ownsRow (r + 1) 3 1 u3 zn (ints zs)) := by rw [hzn]; exact HV2.out
        rw [← hzn] at hzl2
        have HZN := Lib.hid hzn.symm; clear hzn
        clear hx hr2 hg2 hs2 hlt2 hvr HR HC HV HB HS HV2 hzl hc
        go_wp2_with (first
          | (at_builtin; refine wpList_append_own_at _ rfl (.tmp 22) (.tmp 24) 22 rfl (r + 1) 3 i0 _ 1 8 Try.underlying22 hi hz0 hz1 hz2 rfl (by decide) _ _ _ rfl ((HV2'.out.alloc _).alloc _) ⟨w2.heap.size + 1, 0, none⟩ 1 1 (ints [x]) rfl rfl ?_ (ints_oneCell .i64 [x]) (by unfold maxLen; omega) (by omega) (by have := HS2.out; simp; omega) ?_)
          | fail)
        · intro j u hu
          have := news_block (w2.alloc (.cells #[.int .i64 2, .int .i64 (S.at x).2] 73)) (ints [x]) 3 j u hu
          rw [World.size_alloc] at this
          exact this
        · intro v' w5 hown hgrow _ hat
          have HV5 : Hid (own3 w5 3 (r + 1) v' (zs ++ [x])) := by
            have := hown
            rw [← HZN.out] at this
            show w5.ownsRow _ _ _ _ _ _
            simpa [ints] using this
          have hub : ∀ k, u3.ownBlock = some k → r < k := fun k hk => by have := (HV2'.out.lt k hk).1; omega
          have HB5 : Hid (Below r w w5) := ((HB2.out.alloc (by have := HS2.out; omega) _).alloc (by have := HS2.out; simp; omega) _).grown hgrow (by have := HS2.out; simp; omega) (fun j hj => by have := hub j hj; omega)
          have HS5 : Hid (r + 1 ≤ w5.heap.size) := by have := hgrow.size; have h2 := HS2.out; simp at this; show _ ≤ _; omega
          have hkk : ∀ k, k ≤ r → w5.heap[k]? = w2.heap[k]? := fun k hk => by
            have h2 := HS2.out
            rw [hgrow.block k (by simp; omega) (fun e => by have := hub k e.symm; omega), Below.heap_alloc _ _ _ (by simp; omega), Below.heap_alloc _ _ _ (by omega)]
          have HR5 : Hid (RangeI w5 bm r l (delA left x)) := HR2.out.kept (hkk bm (by omega)) (hkk r (Nat.le_refl _))
          have HLT5 : Hid (leftCount w5 bm r < leftCount wr bm r) := by
            have := HLT.out
            show _ < _
            rw [rangeI_count HR5.out, ← rangeI_count HR2.out]; exact this
          clear hown hgrow hat hub hkk
          go_wp2
          go_roundw
          case rel => exact ⟨_, _, HR5, HC2, HV5, HB5, HS5⟩
          case measure => exact HLT5.out
      · have hd : (S.color x == 2) = false := by simpa using hc
        have HC2 := Lib.hid (HC.out.skip hx hc)
        clear hx hr2 hg2 hs2 hlt2 hvr HR HC HV HB HS hzl hc
        have hkk : ∀ o k, k ≤ r → (w2.alloc o).heap[k]? = w2.heap[k]? := fun o k hk => by
          have h2 := HS2.out
          rw [Below.heap_alloc _ _ _ (by omega)]
        have HR5 : ∀ o, Hid (RangeI (w2.alloc o) bm r l (delA left x)) := fun o => HR2.out.kept (hkk o bm (by omega)) (hkk o r (Nat.le_refl _))
        have HLT5 : ∀ o, Hid (leftCount (w2.alloc o) bm r < leftCount wr bm r) := fun o => by
          have := HLT.out
          show _ < _
          rw [rangeI_count (HR5 o).out, ← rangeI_count HR2.out]; exact this
        have HV5 : ∀ o, Hid (own3 (w2.alloc o) 3 (r + 1) u3 zs) := fun o => HV2.out.alloc _
        have HB5 : ∀ o, Hid (Below r w (w2.alloc o)) := fun o => HB2.out.alloc (by have := HS2.out; omega) _
        have HS5 : ∀ o, Hid (r + 1 ≤ (w2.alloc o).heap.size) := fun o => by have := HS2.out; show _ ≤ _; simp; omega
        clear hkk
        go_wp2_with fail
        go_roundw
        case rel => exact ⟨_, _, HR5 _, HC2, HV5 _, HB5 _, HS5 _⟩
        case measure => exact (HLT5 _).out
end Go.Proofs.Ytcfapidalngebaa
