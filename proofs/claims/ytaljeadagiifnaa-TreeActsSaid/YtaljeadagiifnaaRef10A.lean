/-
  turnrowref10.Tree: the walks of New, Live, All, Kids, below, Under.
-/
import Derived.Test.YtaljeadagiifnaaRef10P
set_option linter.unusedSimpArgs false
set_option linter.unusedVariables false
namespace Go.Tr
open Go.RowKit

/-- The document's tree at m: a list of parents, in a block of its own; both blocks are of F. -/
structure RefT (T : TypeId) (w : World) (m : Nat) (F : Nat → Prop) (b off cap : Nat) (zs : List Int) : Prop where
  own : F m
  block : w.heap[m]? = some (.cells #[.slice (some ⟨b, off, none⟩) zs.length cap] T (0, 0))
  sl : OwnO w 1 (.slice (some ⟨b, off, none⟩) zs.length cap) zs.length (ints zs)
  fb : F b
  ne : b ≠ m
def RefP (T : TypeId) (w : World) (m : Nat) (F : Nat → Prop) (zs : List Int) : Prop := ∃ b off cap, RefT T w m F b off cap zs
variable {T : TypeId} {w w2 : World} {m b off cap : Nat} {F G : Nat → Prop} {zs : List Int}
theorem RefT.lt (h : RefT T w m F b off cap zs) : m < w.heap.size ∧ b < w.heap.size := ⟨(Array.getElem?_eq_some_iff.1 h.block).1, h.sl.lt b rfl⟩
theorem RefT.kept (h : RefT T w m F b off cap zs) (h1 : w2.heap[m]? = w.heap[m]?) (h2 : w2.heap[b]? = w.heap[b]?) : RefT T w2 m F b off cap zs :=
  ⟨h.own, h1.trans h.block, h.sl.kept (fun k hk => by cases hk; exact h2), h.fb, h.ne⟩
theorem RefT.below (h : RefT T w m F b off cap zs) (hb : Below w.heap.size w w2) : RefT T w2 m F b off cap zs := h.kept (hb.block _ h.lt.1) (hb.block _ h.lt.2)
theorem RefT.only (h : RefT T w m F b off cap zs) (ho : Only G w w2) (hd : ∀ k, F k → ¬ G k) : RefT T w2 m F b off cap zs := h.kept (ho.block _ h.lt.1 (hd _ h.own)) (ho.block _ h.lt.2 (hd _ h.fb))
theorem RefP.below (h : RefP T w m F zs) (hb : Below w.heap.size w w2) : RefP T w2 m F zs := by obtain ⟨b, off, cap, h⟩ := h; exact ⟨b, off, cap, h.below hb⟩
theorem RefP.only (h : RefP T w m F zs) (ho : Only G w w2) (hd : ∀ k, F k → ¬ G k) : RefP T w2 m F zs := by obtain ⟨b, off, cap, h⟩ := h; exact ⟨b, off, cap, h.only ho hd⟩
theorem RefT.head (h : RefT T w m F b off cap zs) : w.cell? ⟨m, 0, none⟩ = some (.slice (some ⟨b, off, none⟩) zs.length cap) ∧ w.frozen? ⟨m, 0, none⟩ = false :=
  ⟨cell_of_row w m 0 _ T (0, 0) h.block, by simp [World.frozen?, h.block]⟩
theorem RefT.at (h : RefT T w m F b off cap zs) {k : Nat} {q : Int} (hk : zs[k]? = some q) : w.cell? ⟨b, off + k, none⟩ = some (.int .i64 q) ∧ w.frozen? ⟨b, off + k, none⟩ = false := by
  have hl := (List.getElem?_eq_some_iff.1 hk).1
  refine ⟨?_, ?_⟩
  · rw [h.sl.cells k (by omega)]; simp [ints, hk]; rfl
  · rcases h.sl with ⟨e, _⟩ | ⟨g, o, c, e, h1, _, _, _, h5, _⟩
    · cases e
    · cases e; exact (h5 k (by omega)).2
theorem RefT.set (h : RefT T w m F b off cap zs) {k : Nat} (hk : k < zs.length) (y : Int) : RefT T (w.setCell ⟨b, off + k, none⟩ (.int .i64 y)) m F b off cap (zs.set k y) ∧ Only F w (w.setCell ⟨b, off + k, none⟩ (.int .i64 y)) := by
  refine ⟨⟨h.own, ?_, ?_, h.fb, h.ne⟩, (Only.refl F w).setCell (Or.inl h.fb) _⟩
  · rw [Below.heap_setCell _ _ _ _ (by exact h.ne.symm), List.length_set]; exact h.block
  · rw [List.length_set]
    rcases h.sl with ⟨e, _⟩ | ⟨g, o, c, e, h1, h2, h3, h4, h5, h6⟩
    · cases e
    · cases e
      have hs : (w.cell? ⟨b, off + k, none⟩).isSome = true := (h5 k (by omega)).1
      refine Or.inr ⟨b, off, cap, rfl, h1, h2, by simp [ints], by simpa [World.setCell] using h4, fun j hj => ?_, fun j hj => ?_⟩
      · have := h5 j hj
        by_cases hjk : j = k
        · subst hjk; rw [World.cell?_setCell_same' _ _ _ hs, World.frozen?_setCell]; exact ⟨rfl, this.2⟩
        · rw [World.cell?_setCell_other (a := ⟨b, off + k, none⟩) (b := ⟨b, off + j, none⟩) (h := fun e => hjk (by have := congrArg Addr.off e; simp at this; omega)), World.frozen?_setCell]; exact this
      · by_cases hjk : j = k
        · subst hjk; rw [World.cell?_setCell_same' _ _ _ hs]; simp [ints, hk]; rfl
        · rw [World.cell?_setCell_other (a := ⟨b, off + k, none⟩) (b := ⟨b, off + j, none⟩) (h := fun e => hjk (by have := congrArg Addr.off e; simp at this; omega)), h6 j (by omega)]
          simp [ints, List.getElem?_set_ne (show k ≠ j by omega)]
end Go.Tr
namespace Go.Proofs.Ytaljeadagiifnaa
open Go.RowKit Go.Tr
variable {m : Nat} {F : Nat → Prop} {S : TS}
theorem infoIntT10 : (Try.prog.info? 3).map (fun i => (i.zero, i.size, i.bytes)) = some (some (.int .i64 0), 1, 8) := by kernel_rfl

theorem rnew_any (w : World) : Calls Try.prog 20 #[] w fun e w' => ∃ m, e = .returned (.pointer (some ⟨m, 0, none⟩)) ∧ RefP 44 w' m (fun k => w.heap.size ≤ k ∧ k < w'.heap.size) (refP TS.new) ∧ Below w.heap.size w w' := by
  go_enter Try.func20, Try.ntmps20
  go_wp2
  go_ret
  have hb : Below w.heap.size w ((w.alloc (.cells #[.int .i64 (-1)] 3)).alloc (.cells #[.slice (some ⟨w.heap.size, 0, none⟩) 1 1] 44)) := ((Below.refl _ w).alloc (Nat.le_refl _) _).alloc (by simp) _
  refine ⟨w.heap.size + 1, rfl, ⟨w.heap.size, 0, 1, ⟨⟨by omega, by simp⟩, ?_, OwnO.of_row (base := w.heap.size) (e := 3) ⟨rfl, Or.inr ⟨w.heap.size, 1, #[.int .i64 (-1)], rfl, Nat.le_refl _, ?_, Nat.le_refl _, by decide, rfl, rfl⟩⟩, ⟨Nat.le_refl _, by simp; omega⟩, by omega⟩⟩, hb⟩
  · have := heap_alloc_new (w.alloc (.cells #[.int .i64 (-1)] 3)) (.cells #[.slice (some ⟨w.heap.size, 0, none⟩) 1 1] 44)
    simpa [refP, TS.new] using this
  · rw [Below.heap_alloc _ _ _ (by simp)]; exact heap_alloc_new w _

set_option maxRecDepth 100000 in
theorem rlive_any (x : Int) (w : World) (h : RefP 44 w m F (refP S)) (hS : S.WF) (hl : S.last ≤ 1000000) : Calls Try.prog 30 #[.pointer (some ⟨m, 0, none⟩), .int .i64 x] w fun e w' => e = .returned (.bool (S.has x)) ∧ w = w' := by
  obtain ⟨b, off, cap, h⟩ := h
  obtain ⟨c0, f0⟩ := h.head
  have h0 := hS.last0
  obtain ⟨ln, hln⟩ : ∃ ln : Nat, S.last = ln := ⟨S.last.toNat, by omega⟩
  rw [refP_length, hln, Int.toNat_natCast] at c0
  by_cases h1 : 0 < x
  · by_cases h2 : x < ((ln + 1 : Nat) : Int)
    · obtain ⟨xn, rfl⟩ : ∃ xn : Nat, x = xn := ⟨x.toNat, by omega⟩
      obtain ⟨hc, hf⟩ := h.at (refP_at S (k := xn) (by omega))
      obtain ⟨q, hq⟩ : ∃ q, q = S.up xn := ⟨_, rfl⟩
      have HB : Hid (S.has xn = decide (0 ≤ q)) := by
        have := up_nonneg hS (xn : Int)
        rw [← hq] at this
        show _ = _
        rw [Bool.eq_iff_iff, decide_eq_true_iff]; exact this.symm
      rw [← hq] at hc
      have h2' : xn < ln + 1 := by omega
      clear hq h h0 hln hS
      by_cases h3 : 0 ≤ q
      · have H3 : decide (0 ≤ q) = true := decide_eq_true h3
        go_enter Try.func30, Try.ntmps30
        go_wp2_with fail
        go_ret
        exact ⟨by rw [HB.out]; simp [h3], rfl⟩
      · have H3 : decide (0 ≤ q) = false := decide_eq_false h3
        go_enter Try.func30, Try.ntmps30
        go_wp2_with fail
        go_ret
        exact ⟨by rw [HB.out]; simp [h3], rfl⟩
    · have HB : Hid (S.has x = false) := has_out hS (by omega)
      clear h h0 hln hS
      go_enter Try.func30, Try.ntmps30
      go_wp2_with fail
      go_ret
      exact ⟨by rw [HB.out]; rfl, rfl⟩
  · have HB : Hid (S.has x = false) := has_out hS (by omega)
    clear h h0 hln hS
    go_enter Try.func30, Try.ntmps30
    go_wp2_with fail
    go_ret
    exact ⟨by rw [HB.out]; rfl, rfl⟩

set_option maxRecDepth 100000 in
set_option maxHeartbeats 1000000 in
theorem rall_any (w : World) (h : RefP 44 w m F (refP S)) (hS : S.WF) (hl : S.last ≤ 1000000) : Calls Try.prog 23 #[.pointer (some ⟨m, 0, none⟩)] w fun e w' => ∃ v, e = .returned v ∧ own3 w' 3 w.heap.size v (pick (S.has) (S.last.toNat + 1)) ∧ Below w.heap.size w w' := by
  obtain ⟨i0, hi0, hz0, hz1, hz2⟩ := info_parts infoIntT10
  obtain ⟨b, off, cap, h⟩ := h
  have h0 := hS.last0
  obtain ⟨ln, hln⟩ : ∃ ln : Nat, S.last = ln := ⟨S.last.toNat, by omega⟩
  obtain ⟨c0, f0⟩ := h.head
  rw [refP_length, hln, Int.toNat_natCast] at c0
  rw [hln, Int.toNat_natCast]
  have hln6 : ln ≤ 1000000 := by omega
  have HLN := Lib.hid hln
  have HS := Lib.hid hS
  have HR := Lib.hid h
  have HAT : Hid (∀ k : Nat, k ≤ ln → (refP S)[k]? = some (S.up k)) := fun k hk => refP_at S (by omega)
  have HP0 : Hid ((S.has) 0 = false) := has_out HS.out (by omega)
  clear h0 hln hS h hl
  go_enter Try.func23, Try.ntmps23
  go_wp2_with fail
  go_loopw [3, 4] (fun v i wr => ∃ k : Nat, 1 ≤ k ∧ k ≤ ln + 1 ∧ i = .int .i64 k ∧ Hid (own3 wr 3 w.heap.size v (pick (S.has) k)) ∧ Hid (Below w.heap.size w wr)) (fun _ i _ => ln + 1 - (intOf i).toNat)
  case atStart => exact ⟨1, Nat.le_refl _, by omega, rfl, by show own3 _ _ _ _ _; rw [pick_one HP0.out]; exact World.ownsRow_nil _ _ _ _, Below.refl _ _⟩
  case round =>
    obtain ⟨k, hk1, hk, rfl, HV, HB⟩ := hrel
    have HR2 := Lib.hid (HR.out.below HB.out)
    obtain ⟨c2, f2⟩ := HR2.out.head
    rw [refP_length, HLN.out, Int.toNat_natCast] at c2
    by_cases hlt : k < ln + 1
    · have hlt' : (k : Int) < ((ln + 1 : Nat) : Int) := by omega
      obtain ⟨hc, hf⟩ := HR2.out.at (HAT.out k (by omega))
      have HPS := Lib.hid (pick_succ (S.has) k)
      have hle := pick_le (S.has) k
      obtain ⟨M, hM⟩ : ∃ M, M = pick (S.has) k := ⟨_, rfl⟩
      rw [← hM] at HV hle HPS
      have HM := Lib.hid hM; clear hM
      obtain ⟨mn, hmn⟩ : ∃ mn, mn = M.length := ⟨_, rfl⟩
      have HV' : Hid (wr.ownsRow w.heap.size 3 1 u3 mn (ints M)) := by rw [hmn]; exact HV.out
      rw [← hmn] at hle
      have HMN := Lib.hid hmn.symm; clear hmn
      obtain ⟨oa8, oc8, rfl, -, hoc8, -⟩ := ownsRow_seq HV'.out
      obtain ⟨q, hq⟩ : ∃ q, q = S.up k := ⟨_, rfl⟩
      rw [← hq] at hc
      have HQ := Lib.hid hq
      clear hq
      by_cases h3 : 0 ≤ q
      · have HT : Hid (S.has k = true) := (up_nonneg HS.out (k : Int)).1 (by rw [← HQ.out]; exact h3)
        have H3 : decide (0 ≤ q) = true := decide_eq_true h3
        go_wp2_with (first
          | (at_builtin; refine wpList_append_own _ rfl (.tmp 22) (.tmp 24) 31 rfl w.heap.size 3 i0 _ 1 8 Try.underlying31 hi0 hz0 hz1 hz2 rfl (by decide) _ _ _ rfl (HV'.out.alloc _) ⟨wr.heap.size, 0, none⟩ 1 1 (ints [(k : Int)]) rfl rfl ?_ (ints_oneCell .i64 [(k : Int)]) (by unfold maxLen; omega) (by omega) (by have := HB.out.size; simp; omega) ?_)
          | fail)
        · intro j u hu
          exact news_block wr (ints [(k : Int)]) 3 j u hu
        · intro v' w4 hown hgrow _
          have HV4 : Hid (own3 w4 3 w.heap.size v' (pick (S.has) (k + 1))) := by
            rw [HPS.out, if_pos HT.out]
            unfold own3
            have := hown
            rw [← HMN.out] at this
            show w4.ownsRow _ _ _ _ _ _
            simpa [ints] using this
          have HB4 : Hid (Below w.heap.size w w4) := (HB.out.alloc HB.out.size _).grown hgrow (by have := HB.out.size; simp; omega) (fun j hj => (HV'.out.lt j hj).1)
          clear hown hgrow
          go_wp2
          go_roundw
          case rel => exact ⟨k + 1, by omega, by omega, by go_num, HV4, HB4⟩
          case measure => simp [intOf]; omega
      · have HT : Hid (S.has k = false) := by
          have := up_nonneg HS.out (k : Int)
          rw [← HQ.out] at this
          show _ = _
          cases hh : S.has k
          · rfl
          · exact absurd (this.2 hh) h3
        have H3 : decide (0 ≤ q) = false := decide_eq_false h3
        have HV2 : Hid (own3 wr 3 w.heap.size (.slice oa8 mn oc8) (pick (S.has) (k + 1))) := by rw [HPS.out, if_neg (by rw [HT.out]; decide), List.append_nil]; exact HV.out
        go_wp2_with fail
        go_roundw
        case rel => exact ⟨k + 1, by omega, by omega, by go_num, HV2, HB⟩
        case measure => simp [intOf]; omega

    · have hke : k = ln + 1 := by omega
      have hlt' : ¬ ((k : Int) < ((ln + 1 : Nat) : Int)) := by omega
      have HV4 : Hid (own3 wr 3 w.heap.size u3 (pick (S.has) (ln + 1))) := by
        have := HV.out; rw [hke] at this; exact this
      clear HV hke
      go_wp2_with fail
      go_ret
      exact ⟨_, rfl, HV4.out, HB.out⟩

set_option maxRecDepth 100000 in
set_option maxHeartbeats 1000000 in
theorem rkids_any (id : Int) (w : World) (h : RefP 44 w m F (refP S)) (hS : S.WF) (hl : S.last ≤ 1000000) (hid : 0 ≤ id) : Calls Try.prog 33 #[.pointer (some ⟨m, 0, none⟩), .int .i64 id] w fun e w' => ∃ v, e = .returned v ∧ own3 w' 3 w.heap.size v (pick (S.kidB id) (S.last.toNat + 1)) ∧ Below w.heap.size w w' := by
  obtain ⟨i0, hi0, hz0, hz1, hz2⟩ := info_parts infoIntT10
  obtain ⟨b, off, cap, h⟩ := h
  have h0 := hS.last0
  obtain ⟨ln, hln⟩ : ∃ ln : Nat, S.last = ln := ⟨S.last.toNat, by omega⟩
  obtain ⟨c0, f0⟩ := h.head
  rw [refP_length, hln, Int.toNat_natCast] at c0
  rw [hln, Int.toNat_natCast]
  have hln6 : ln ≤ 1000000 := by omega
  have HLN := Lib.hid hln
  have HS := Lib.hid hS
  have HR := Lib.hid h
  have HAT : Hid (∀ k : Nat, k ≤ ln → (refP S)[k]? = some (S.up k)) := fun k hk => refP_at S (by omega)
  have HP0 : Hid ((S.kidB id) 0 = false) := decide_eq_false (fun e => by have h1 := (up_eq hid _).1 e; have := HS.out.low _ _ h1; omega)
  clear h0 hln hS h hl
  go_enter Try.func33, Try.ntmps33
  go_wp2_with fail
  go_loopw [5, 6] (fun v i wr => ∃ k : Nat, 1 ≤ k ∧ k ≤ ln + 1 ∧ i = .int .i64 k ∧ Hid (own3 wr 3 w.heap.size v (pick (S.kidB id) k)) ∧ Hid (Below w.heap.size w wr)) (fun _ i _ => ln + 1 - (intOf i).toNat)
  case atStart => exact ⟨1, Nat.le_refl _, by omega, rfl, by show own3 _ _ _ _ _; rw [pick_one HP0.out]; exact World.ownsRow_nil _ _ _ _, Below.refl _ _⟩
  case round =>
    obtain ⟨k, hk1, hk, rfl, HV, HB⟩ := hrel
    have HR2 := Lib.hid (HR.out.below HB.out)
    obtain ⟨c2, f2⟩ := HR2.out.head
    rw [refP_length, HLN.out, Int.toNat_natCast] at c2
    by_cases hlt : k < ln + 1
    · have hlt' : (k : Int) < ((ln + 1 : Nat) : Int) := by omega
      obtain ⟨hc, hf⟩ := HR2.out.at (HAT.out k (by omega))
      have HPS := Lib.hid (pick_succ (S.kidB id) k)
      have hle := pick_le (S.kidB id) k
      obtain ⟨M, hM⟩ : ∃ M, M = pick (S.kidB id) k := ⟨_, rfl⟩
      rw [← hM] at HV hle HPS
      have HM := Lib.hid hM; clear hM
      obtain ⟨mn, hmn⟩ : ∃ mn, mn = M.length := ⟨_, rfl⟩
      have HV' : Hid (wr.ownsRow w.heap.size 3 1 u5 mn (ints M)) := by rw [hmn]; exact HV.out
      rw [← hmn] at hle
      have HMN := Lib.hid hmn.symm; clear hmn
      obtain ⟨oa8, oc8, rfl, -, hoc8, -⟩ := ownsRow_seq HV'.out
      obtain ⟨q, hq⟩ : ∃ q, q = S.up k := ⟨_, rfl⟩
      rw [← hq] at hc
      have HQ := Lib.hid hq
      clear hq
      by_cases h3 : q = id
      · have HT : Hid (S.kidB id k = true) := decide_eq_true (by rw [← HQ.out]; exact h3)
        subst h3
        go_wp2_with (first
          | (at_builtin; refine wpList_append_own _ rfl (.tmp 25) (.tmp 27) 31 rfl w.heap.size 3 i0 _ 1 8 Try.underlying31 hi0 hz0 hz1 hz2 rfl (by decide) _ _ _ rfl (HV'.out.alloc _) ⟨wr.heap.size, 0, none⟩ 1 1 (ints [(k : Int)]) rfl rfl ?_ (ints_oneCell .i64 [(k : Int)]) (by unfold maxLen; omega) (by omega) (by have := HB.out.size; simp; omega) ?_)
          | fail)
        · intro j u hu
          exact news_block wr (ints [(k : Int)]) 3 j u hu
        · intro v' w4 hown hgrow _
          have HV4 : Hid (own3 w4 3 w.heap.size v' (pick (S.kidB q) (k + 1))) := by
            rw [HPS.out, if_pos HT.out]
            unfold own3
            have := hown
            rw [← HMN.out] at this
            show w4.ownsRow _ _ _ _ _ _
            simpa [ints] using this
          have HB4 : Hid (Below w.heap.size w w4) := (HB.out.alloc HB.out.size _).grown hgrow (by have := HB.out.size; simp; omega) (fun j hj => (HV'.out.lt j hj).1)
          clear hown hgrow
          go_wp2
          go_roundw
          case rel => exact ⟨k + 1, by omega, by omega, by go_num, HV4, HB4⟩
          case measure => simp [intOf]; omega
      · have HT : Hid (S.kidB id k = false) := decide_eq_false (by rw [← HQ.out]; exact h3)
        have HV2 : Hid (own3 wr 3 w.heap.size (.slice oa8 mn oc8) (pick (S.kidB id) (k + 1))) := by rw [HPS.out, if_neg (by rw [HT.out]; decide), List.append_nil]; exact HV.out
        go_wp2_with fail
        go_roundw
        case rel => exact ⟨k + 1, by omega, by omega, by go_num, HV2, HB⟩
        case measure => simp [intOf]; omega

    · have hke : k = ln + 1 := by omega
      have hlt' : ¬ ((k : Int) < ((ln + 1 : Nat) : Int)) := by omega
      have HV4 : Hid (own3 wr 3 w.heap.size u5 (pick (S.kidB id) (ln + 1))) := by
        have := HV.out; rw [hke] at this; exact this
      clear HV hke
      go_wp2_with fail
      go_ret
      exact ⟨_, rfl, HV4.out, HB.out⟩

set_option maxRecDepth 100000 in
set_option maxHeartbeats 1000000 in
theorem rbelow_any (i : Nat) (id : Int) (w : World) (h : RefP 44 w m F (refP S)) (hS : S.WF) (hl : S.last ≤ 1000000) (hi : S.has i = true) (hid : S.has id = true) : Calls Try.prog 39 #[.pointer (some ⟨m, 0, none⟩), .int .i64 i, .int .i64 id] w fun e w' => e = .returned (.bool (S.underB id i)) ∧ w = w' := by
  obtain ⟨b, off, cap, h⟩ := h
  have h0 := hS.last0
  obtain ⟨ln, hln⟩ : ∃ ln : Nat, S.last = ln := ⟨S.last.toNat, by omega⟩
  obtain ⟨c0, f0⟩ := h.head
  rw [refP_length, hln, Int.toNat_natCast] at c0
  have hln6 : ln ≤ 1000000 := by omega
  have HI : Hid (S.has i = true ∧ S.has id = true) := ⟨hi, hid⟩
  have HLN := Lib.hid hln
  have HS := Lib.hid hS
  have HR := Lib.hid h
  clear h0 hln hS h hl hi hid
  go_enter Try.func39, Try.ntmps39
  go_wp2_with fail
  go_loopw [1] (fun v wr => wr = w ∧ ∃ k : Nat, v = .int .i64 k ∧ Hid (k = 0 ∨ S.has k = true) ∧ Hid (Desc S.tab id i ↔ Desc S.tab id k)) (fun v _ => (intOf v).toNat)
  case atStart => exact ⟨rfl, i, rfl, Or.inr HI.out.1, Iff.rfl⟩
  case round =>
    obtain ⟨rfl, k, rfl, HK, HD⟩ := hrel
    by_cases hk0 : 0 < k
    · have hk0' : (0 : Int) < (k : Int) := by omega
      have HL : Hid (S.has k = true) := HK.out.resolve_left (by omega)
      by_cases he : (k : Int) = id
      · have HT : Hid (S.underB id i = true) := underB_iff.2 ⟨HI.out.1, HD.out.2 (by rw [he]; exact .self)⟩
        go_wp2_with fail
        go_ret
        exact ⟨by rw [HT.out]; rfl, rfl⟩
      · have hkl : k ≤ ln := by have := HS.out.pos HL.out; have := HLN.out; omega
        obtain ⟨hc, hf⟩ := HR.out.at (refP_at S (k := k) (by have := HLN.out; omega))
        obtain ⟨p, hp⟩ := hasA_some.1 HL.out
        rw [up_some hp] at hc
        have hlow := HS.out.low _ _ hp
        obtain ⟨pn, rfl⟩ : ∃ pn : Nat, p = pn := ⟨p.toNat, by omega⟩
        have hpk : pn < k := by omega
        have HK2 : Hid (pn = 0 ∨ S.has pn = true) := hlow.2.2.2.imp (fun e => by omega) (fun e => e)
        have HD2 : Hid (Desc S.tab id i ↔ Desc S.tab id pn) := HD.out.trans ⟨fun hd => by
          cases hd with
          | self => exact absurd rfl he
          | kid hx hd => rw [hp] at hx; cases hx; exact hd, fun hd => .kid hp hd⟩
        have hkn : k < ln + 1 := by omega
        clear hp hlow
        go_wp2_with fail
        go_roundw
        case rel => exact ⟨trivial, pn, rfl, HK2, HD2⟩
        case measure => simp [intOf]; omega
    · have hk : k = 0 := by omega
      subst hk
      have HT : Hid (S.underB id i = false) := by
        show _ = _
        cases hh : S.underB id i
        · rfl
        · have h1 := HD.out.1 (underB_iff.1 hh).2
          have h2 := h1.ge HS.out
          have h3 := HS.out.pos HI.out.2
          omega
      have hk0' : ¬ ((0 : Int) < ((0 : Nat) : Int)) := by omega
      go_wp2_with fail
      go_ret
      exact ⟨by rw [HT.out]; rfl, rfl⟩

set_option maxRecDepth 100000 in
set_option maxHeartbeats 1000000 in
theorem runder_any (id : Int) (w : World) (h : RefP 44 w m F (refP S)) (hS : S.WF) (hl : S.last ≤ 1000000) (hid : S.has id = true) : Calls Try.prog 34 #[.pointer (some ⟨m, 0, none⟩), .int .i64 id] w fun e w' => ∃ v, e = .returned v ∧ own3 w' 3 w.heap.size v (pick (S.underB id) (S.last.toNat + 1)) ∧ Below w.heap.size w w' := by
  obtain ⟨i0, hi0, hz0, hz1, hz2⟩ := info_parts infoIntT10
  obtain ⟨b, off, cap, h⟩ := h
  have h0 := hS.last0
  obtain ⟨ln, hln⟩ : ∃ ln : Nat, S.last = ln := ⟨S.last.toNat, by omega⟩
  obtain ⟨c0, f0⟩ := h.head
  rw [refP_length, hln, Int.toNat_natCast] at c0
  rw [hln, Int.toNat_natCast]
  have hln6 : ln ≤ 1000000 := by omega
  have HLN := Lib.hid hln
  have HS := Lib.hid hS
  have HR := Lib.hid h
  have HAT : Hid (∀ k : Nat, k ≤ ln → (refP S)[k]? = some (S.up k)) := fun k hk => refP_at S (by omega)
  have HP0 : Hid ((S.underB id) 0 = false) := by
    show _ = _
    cases hh : S.underB id 0
    · rfl
    · have := HS.out.pos (underB_iff.1 hh).1; omega
  have HID := Lib.hid hid
  clear hid
  clear h0 hln hS h hl
  go_enter Try.func34, Try.ntmps34
  go_wp2_with fail
  go_loopw [5, 6] (fun v i wr => ∃ k : Nat, 1 ≤ k ∧ k ≤ ln + 1 ∧ i = .int .i64 k ∧ Hid (own3 wr 3 w.heap.size v (pick (S.underB id) k)) ∧ Hid (Below w.heap.size w wr)) (fun _ i _ => ln + 1 - (intOf i).toNat)
  case atStart => exact ⟨1, Nat.le_refl _, by omega, rfl, by show own3 _ _ _ _ _; rw [pick_one HP0.out]; exact World.ownsRow_nil _ _ _ _, Below.refl _ _⟩
  case round =>
    obtain ⟨k, hk1, hk, rfl, HV, HB⟩ := hrel
    have HR2 := Lib.hid (HR.out.below HB.out)
    obtain ⟨c2, f2⟩ := HR2.out.head
    rw [refP_length, HLN.out, Int.toNat_natCast] at c2
    by_cases hlt : k < ln + 1
    · have hlt' : (k : Int) < ((ln + 1 : Nat) : Int) := by omega
      obtain ⟨hc, hf⟩ := HR2.out.at (HAT.out k (by omega))
      have HPS := Lib.hid (pick_succ (S.underB id) k)
      have hle := pick_le (S.underB id) k
      obtain ⟨M, hM⟩ : ∃ M, M = pick (S.underB id) k := ⟨_, rfl⟩
      rw [← hM] at HV hle HPS
      have HM := Lib.hid hM; clear hM
      obtain ⟨mn, hmn⟩ : ∃ mn, mn = M.length := ⟨_, rfl⟩
      have HV' : Hid (wr.ownsRow w.heap.size 3 1 u5 mn (ints M)) := by rw [hmn]; exact HV.out
      rw [← hmn] at hle
      have HMN := Lib.hid hmn.symm; clear hmn
      obtain ⟨oa8, oc8, rfl, -, hoc8, -⟩ := ownsRow_seq HV'.out
      obtain ⟨q, hq⟩ : ∃ q, q = S.up k := ⟨_, rfl⟩
      rw [← hq] at hc
      have HQ := Lib.hid hq
      clear hq
      by_cases h3 : 0 ≤ q
      · have HL : Hid (S.has k = true) := (up_nonneg HS.out (k : Int)).1 (by rw [← HQ.out]; exact h3)
        have H3 : decide (0 ≤ q) = true := decide_eq_true h3
        obtain ⟨bb, hbb⟩ : ∃ bb, bb = S.underB id k := ⟨_, rfl⟩
        have HT := Lib.hid hbb.symm
        clear hbb
        cases bb
        · have HV2 : Hid (own3 wr 3 w.heap.size (.slice oa8 mn oc8) (pick (S.underB id) (k + 1))) := by rw [HPS.out, if_neg (by rw [HT.out]; decide), List.append_nil]; exact HV.out
          go_wp2_with fail
          refine (rbelow_any k id _ ⟨_, _, _, HR2.out⟩ HS.out (by have := HLN.out; omega) HL.out HID.out).mono ?_
          rintro e w4 ⟨rfl, rfl⟩
          rw [HT.out]
          go_wp2_with fail
          go_roundw
          case rel => exact ⟨k + 1, by omega, by omega, by go_num, HV2, HB⟩
          case measure => simp [intOf]; omega
        · go_wp2_with fail
          refine (rbelow_any k id _ ⟨_, _, _, HR2.out⟩ HS.out (by have := HLN.out; omega) HL.out HID.out).mono ?_
          rintro e w4 ⟨rfl, rfl⟩
          rw [HT.out]
          go_wp2_with (first
            | (at_builtin; refine wpList_append_own _ rfl (.tmp 30) (.tmp 32) 31 rfl w.heap.size 3 i0 _ 1 8 Try.underlying31 hi0 hz0 hz1 hz2 rfl (by decide) _ _ _ rfl (HV'.out.alloc _) ⟨wr.heap.size, 0, none⟩ 1 1 (ints [(k : Int)]) rfl rfl ?_ (ints_oneCell .i64 [(k : Int)]) (by unfold maxLen; omega) (by omega) (by have := HB.out.size; simp; omega) ?_)
            | fail)
          · intro j u hu
            exact news_block wr (ints [(k : Int)]) 3 j u hu
          · intro v' w4 hown hgrow _
            have HV4 : Hid (own3 w4 3 w.heap.size v' (pick (S.underB id) (k + 1))) := by
              rw [HPS.out, if_pos HT.out]
              unfold own3
              have := hown
              rw [← HMN.out] at this
              show w4.ownsRow _ _ _ _ _ _
              simpa [ints] using this
            have HB4 : Hid (Below w.heap.size w w4) := (HB.out.alloc HB.out.size _).grown hgrow (by have := HB.out.size; simp; omega) (fun j hj => (HV'.out.lt j hj).1)
            clear hown hgrow
            go_wp2
            go_roundw
            case rel => exact ⟨k + 1, by omega, by omega, by go_num, HV4, HB4⟩
            case measure => simp [intOf]; omega
      · have HT : Hid (S.underB id k = false) := by
          have := up_nonneg HS.out (k : Int)
          rw [← HQ.out] at this
          show _ = _
          cases hh : S.underB id k
          · rfl
          · exact absurd (this.2 (underB_iff.1 hh).1) h3
        have H3 : decide (0 ≤ q) = false := decide_eq_false h3
        have HV2 : Hid (own3 wr 3 w.heap.size (.slice oa8 mn oc8) (pick (S.underB id) (k + 1))) := by rw [HPS.out, if_neg (by rw [HT.out]; decide), List.append_nil]; exact HV.out
        go_wp2_with fail
        go_roundw
        case rel => exact ⟨k + 1, by omega, by omega, by go_num, HV2, HB⟩
        case measure => simp [intOf]; omega

    · have hke : k = ln + 1 := by omega
      have hlt' : ¬ ((k : Int) < ((ln + 1 : Nat) : Int)) := by omega
      have HV4 : Hid (own3 wr 3 w.heap.size u5 (pick (S.underB id) (ln + 1))) := by
        have := HV.out; rw [hke] at this; exact this
      clear HV hke
      go_wp2_with fail
      go_ret
      exact ⟨_, rfl, HV4.out, HB.out⟩
end Go.Proofs.Ytaljeadagiifnaa
