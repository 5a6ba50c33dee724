/-
  turnrowref08.Bag: the walk of All: the least one, the least of the others, and so on.
-/
import Derived.Test.YthfdigjbmoconaaRef08B
import Derived.Test.YthfdigjbmoconaaAppSeq
set_option linter.unusedSimpArgs false
set_option linter.unusedVariables false
namespace Go.Proofs.Ythfdigjbmoconaa
open Go.RowKit Go.Tr
variable {w : World} {m : Nat} {F : Nat → Prop} {zs : List Int}
/-- How long the list in the struct at r is: read off memory. -/
def lenAt (w : World) (r : Nat) : Nat := match w.cell? ⟨r, 0, none⟩ with | some (.slice _ n _) => n | _ => 0
theorem lenAt_of {w : World} {r n c : Nat} {a : Option Addr} (h : w.cell? ⟨r, 0, none⟩ = some (.slice a n c)) : lenAt w r = n := by unfold lenAt; rw [h]
/-- What has come of zs, R being left. -/
structure Came (zs M R : List Int) : Prop where
  rises : M.Pairwise (· < ·)
  mem : ∀ y, y ∈ zs ↔ y ∈ M ∨ y ∈ R
  less : ∀ y ∈ M, ∀ z ∈ R, y < z
theorem Came.start (zs : List Int) : Came zs [] zs := ⟨List.Pairwise.nil, by simp, by simp⟩
theorem Came.step {zs M R : List Int} (h : Came zs M R) {x : Int} (hx : x ∈ R) (hl : ∀ y ∈ R, x ≤ y) : Came zs (M ++ [x]) (outL R x) := by
  refine ⟨List.pairwise_append.2 ⟨h.rises, by simp, fun a ha b hb => by simp at hb; subst hb; exact h.less a ha b hx⟩, fun y => ?_, fun y hy z hz => ?_⟩
  · rw [h.mem, List.mem_append, List.mem_singleton, mem_outL]
    by_cases e : y = x
    · subst e; exact ⟨fun _ => Or.inl (Or.inr rfl), fun _ => Or.inr hx⟩
    · exact ⟨fun h' => h'.elim (fun h => Or.inl (Or.inl h)) (fun h => Or.inr ⟨h, e⟩), fun h' => h'.elim (fun h => h.elim Or.inl (fun h => absurd h e)) (fun h => Or.inr h.1)⟩
  · have hz' := mem_outL.1 hz
    rcases List.mem_append.1 hy with hy | hy
    · exact h.less y hy z hz'.1
    · simp at hy; subst hy; have := hl z hz'.1; have := hz'.2; omega
theorem Came.done {zs M : List Int} (h : Came zs M []) : M = setL zs := rises_eq h.rises (setL_rises zs) (fun y => by rw [mem_setL, h.mem]; simp)
theorem Came.length {zs M R : List Int} (h : Came zs M R) : M.length ≤ zs.length := by
  have hn : M.Nodup := h.rises.imp (fun h => by omega)
  exact List.Nodup.length_le_of_subset hn (fun y hy => (h.mem y).2 (Or.inl hy))

set_option maxRecDepth 100000 in
set_option maxHeartbeats 4000000 in
theorem mall_any (w : World) (h : LstP 53 w m F zs) (hs : zs.length ≤ 900000) : Calls Try.prog 32 #[.pointer (some ⟨m, 0, none⟩)] w fun e w' => ∃ v, e = .returned v ∧ own3 w' 3 w.heap.size v (setL zs) ∧ Below w.heap.size w w' := by
  obtain ⟨i0, hi, hz0, hz1, hz2⟩ := info_parts infoIntB
  obtain ⟨v, h⟩ := h
  obtain ⟨a, c, rfl, hq, -, -⟩ := h.sl.seq
  have HNIL : Hid (a = none → zs.length = 0 ∧ c = 0) := fun ha => by
    rcases h.sl with ⟨e, h1, h2⟩ | ⟨g', o', c', e, _⟩
    · injection e with e1 e2 e3; exact ⟨h1, e3⟩
    · injection e with e1 e2 e3; rw [ha] at e1; cases e1
  have HL := Lib.hid h
  have HQ := Lib.hid hq
  obtain ⟨n, hn⟩ : ∃ n, n = zs.length := ⟨_, rfl⟩
  rw [← hn] at hs HNIL
  have HN := Lib.hid hn.symm
  have hown0 : Hid ((w.alloc (.cells #[] 3)).ownsRow w.heap.size 3 1 (.slice (some ⟨w.heap.size, 0, none⟩) 0 0) 0 []) :=
    ⟨rfl, Or.inr ⟨w.heap.size, 0, #[], rfl, Nat.le_refl _, heap_alloc_new w _, Nat.le_refl _, Nat.zero_le _, rfl, rfl⟩⟩
  have HBe : Hid (Below w.heap.size w (w.alloc (.cells #[] 3))) := (Below.refl _ w).alloc (Nat.le_refl _) _
  have HS1 := Lib.hid (HQ.out.below HBe.out (Nat.le_refl _))
  obtain ⟨c0, f0⟩ := (HL.out.below HBe.out).head
  rw [HN.out] at c0
  clear h hq hn
  go_enter Try.func32, Try.ntmps32
  go_wp2_with (first
    | (at_builtin; refine wpList_append_seq rfl (.tmp 7) (.tmp 11) 22 rfl w.heap.size 3 i0 _ 1 8 Try.underlying22 hi hz0 hz1 hz2 rfl (by decide) (.slice (some ⟨w.heap.size, 0, none⟩) 0 0) 0 [] rfl hown0.out a n c (ints zs) rfl HNIL.out (by rw [ints_length, HN.out]; omega) HS1.out (ints_oneCell .i64 zs) (by unfold maxLen; omega) (by omega) (by simp) ?_
       intro v8 w8 hown8 hgrow8 hat8
       simp only [List.nil_append, Nat.zero_add] at hown8
       obtain ⟨a8, c8, rfl, hso8, hc8, hm8⟩ := ownsRow_seq hown8
       have HV8 := Lib.hid hown8
       have HB8 : Hid (Below w.heap.size w w8) := ((Below.refl _ w).alloc (Nat.le_refl _) _).grown hgrow8 (by simp) (fun j hj => by cases hj; exact Nat.le_refl _)
       clear hown8 hgrow8 hat8 hso8 hc8 hm8 hown0 HS1 HBe)
    | fail)
  have HB9 : Hid (Below w.heap.size w (w8.alloc (.cells #[.slice a8 n c8] 53))) := HB8.out.alloc HB8.out.size _
  have HR9 : Hid (LstP 53 (w8.alloc (.cells #[.slice a8 n c8] 53)) w8.heap.size (fun k => w.heap.size ≤ k ∧ k < w8.heap.size + 1) zs) := by
    refine ⟨_, ⟨⟨HB8.out.size, by omega⟩, heap_alloc_new w8 _, ?_, fun k hk => ?_⟩⟩
    · have := OwnO.of_row (HV8.out.alloc (.cells #[.slice a8 n c8] 53))
      rw [HN.out]; exact this
    · have := HV8.out.lt k hk; exact ⟨⟨this.1, by omega⟩, by omega⟩
  obtain ⟨r, hr⟩ : ∃ r, r = w8.heap.size := ⟨_, rfl⟩
  have HSZ : Hid ((w8.alloc (.cells #[.slice a8 n c8] 53)).heap.size = r + 1) := by show _ = _; rw [hr]; simp
  rw [← hr] at HR9 ⊢
  generalize w8.alloc (.cells #[.slice a8 n c8] 53) = w9 at *
  have HF9 : Hid (∀ k, (w.heap.size ≤ k ∧ k < r + 1) → w.heap.size ≤ k ∧ k < w9.heap.size) := fun k hk => by rw [HSZ.out]; exact hk
  clear c0 f0 HV8 HB8 hr HSZ
  go_wp2_with fail
  go_loopw [4] (fun v wr => ∃ (F : Nat → Prop) (M R : List Int), Hid (Came zs M R) ∧ Hid (R.length ≤ n) ∧ Hid (own3 wr 3 w.heap.size v M) ∧ Hid (LstP 53 wr r F R) ∧ Hid (∀ k, F k → w.heap.size ≤ k ∧ k < wr.heap.size) ∧ Hid (∀ k, v.ownBlock = some k → ¬ F k) ∧ Hid (Below w.heap.size w wr)) (fun _ wr => lenAt wr r)
  case atStart => exact ⟨_, [], zs, Came.start zs, Nat.le_of_eq HN.out, World.ownsRow_nil _ _ _ _, HR9, HF9, fun k hk => by simp [Value.ownBlock] at hk, HB9⟩
  case round =>
    clear HR9 HF9 HB9
    obtain ⟨F2, M, R, HC, HRL, HV, HR, HF, HVF, HB⟩ := hrel
    have HR0 := Lib.hid HR.out
    obtain ⟨vr, hr⟩ := HR.out
    obtain ⟨c0, f0⟩ := hr.head
    obtain ⟨ra, rc, rfl, hrq, -, -⟩ := hr.sl.seq
    have HRQ := Lib.hid hrq
    obtain ⟨rn, hrn⟩ : ∃ rn, rn = R.length := ⟨_, rfl⟩
    rw [← hrn] at c0
    have HRN := Lib.hid hrn.symm
    have hrnn : rn ≤ n := by rw [hrn]; exact HRL.out
    have HLA := Lib.hid (lenAt_of c0)
    clear hr hrq hrn HR
    by_cases hlt : 0 < rn
    · have hlt' : (0 : Int) < (rn : Int) := by omega
      obtain ⟨b, off, x0, rfl, hcx, HX⟩ := HRQ.out.ints (k := 0) (by rw [HRN.out]; exact hlt)
      simp only [Nat.add_zero] at hcx
      have HS0 : Hid (x0 ∈ R.take 1 ∧ ∀ y ∈ R.take 1, x0 ≤ y) := by
        have : R.take (0 + 1) = R.take 0 ++ [x0] := take_snoc HX.out
        simp at this
        show _ ∧ _
        rw [this]; simp
      clear HX
      go_wp2_with fail
      go_loopw [5, 6] (fun lv i wx => wx = wr ∧ ∃ (j : Nat) (ls : Int), 1 ≤ j ∧ j ≤ rn ∧ i = .int .i64 j ∧ lv = .int .i64 ls ∧ Hid (ls ∈ R.take j ∧ ∀ y ∈ R.take j, ls ≤ y)) (fun _ i _ => rn - (intOf i).toNat)
      case atStart => exact ⟨rfl, 1, x0, Nat.le_refl _, hlt, rfl, rfl, HS0⟩
      case round =>
        clear HS0
        obtain ⟨rfl, j, ls, hj1, hj, rfl, rfl, HLS⟩ := hrel
        by_cases hlt2 : j < rn
        · have hlt2' : (j : Int) < (rn : Int) := by omega
          obtain ⟨b', off', y, e', hcy, HY⟩ := HRQ.out.ints (k := j) (by rw [HRN.out]; exact hlt2)
          cases e'
          have HT := Lib.hid (take_snoc HY.out)
          clear HY
          by_cases hyl : y < ls
          · have hd : decide (y < ls) = true := decide_eq_true hyl
            have HLS2 : Hid (y ∈ R.take (j + 1) ∧ ∀ z ∈ R.take (j + 1), y ≤ z) := by
              show _ ∧ _
              rw [HT.out]
              exact ⟨by simp, fun z hz => by rcases List.mem_append.1 hz with hz | hz; have := HLS.out.2 z hz; omega; simp at hz; omega⟩
            go_wp2_with fail
            go_roundw
            case rel => exact ⟨trivial, j + 1, y, by omega, by omega, by go_num, rfl, HLS2⟩
            case measure => simp [intOf]; omega
          · have hd : decide (y < ls) = false := decide_eq_false hyl
            have HLS2 : Hid (ls ∈ R.take (j + 1) ∧ ∀ z ∈ R.take (j + 1), ls ≤ z) := by
              show _ ∧ _
              rw [HT.out]
              exact ⟨List.mem_append_left _ HLS.out.1, fun z hz => by rcases List.mem_append.1 hz with hz | hz; exact HLS.out.2 z hz; simp at hz; omega⟩
            go_wp2_with fail
            go_roundw
            case rel => exact ⟨trivial, j + 1, ls, by omega, by omega, by go_num, rfl, HLS2⟩
            case measure => simp [intOf]; omega
        · have hlt2' : ¬ ((j : Int) < (rn : Int)) := by omega
          have HLS2 : Hid (ls ∈ R ∧ ∀ z ∈ R, ls ≤ z) := by have := HLS.out; rw [List.take_of_length_le (by rw [HRN.out]; omega)] at this; exact this
          have HC2 := Lib.hid (HC.out.step HLS2.out.1 HLS2.out.2)
          have HML := HC.out.length
          rw [HN.out] at HML
          obtain ⟨mn, hmn⟩ : ∃ mn, mn = M.length := ⟨_, rfl⟩
          have HV' : Hid (wr.ownsRow w.heap.size 3 1 u4 mn (ints M)) := by rw [hmn]; exact HV.out
          rw [← hmn] at HML
          have HMN := Lib.hid hmn.symm
          clear hmn HLS
          obtain ⟨oa, oc, rfl, -, -, -⟩ := ownsRow_seq HV'.out
          go_wp2_with (first
            | (at_builtin; refine wpList_append_seq rfl (.tmp 52) (.tmp 54) 22 rfl w.heap.size 3 i0 _ 1 8 Try.underlying22 hi hz0 hz1 hz2 rfl (by decide) (.slice oa mn oc) mn (ints M) rfl (HV'.out.alloc _) (some ⟨wr.heap.size, 0, none⟩) 1 1 (ints [ls]) rfl (fun e => by cases e) rfl (seqAt_block (cs := #[iv ls]) (heap_alloc_new wr _)) (ints_oneCell .i64 [ls]) (by unfold maxLen; omega) (by omega) (by have := HB.out.size; simp; omega) ?_
               intro v4 w4 hown4 hgrow4 hob4
               have HV4 : Hid (own3 w4 3 w.heap.size v4 (M ++ [ls])) := by
                 show w4.ownsRow _ _ _ _ _ _
                 rw [List.length_append, HMN.out]
                 have e : ints (M ++ [ls]) = ints M ++ ints [ls] := by simp [ints]
                 rw [e]; exact hown4
               have HB4 : Hid (Below w.heap.size w w4) := (HB.out.alloc HB.out.size _).grown hgrow4 (by have := HB.out.size; simp; omega) (fun j hj => (HV'.out.lt j hj).1)
               have HOn : Hid (Only (fun k => (Value.slice oa mn oc).ownBlock = some k) wr w4) := ((Only.refl _ wr).alloc _).grown hgrow4 (fun k hk => Or.inl hk)
               have HVF4 : Hid (∀ k, v4.ownBlock = some k → ¬ F2 k) := fun k hk hf => by
                 rcases hob4 with e | e
                 · exact HVF.out k (by rw [← hk]; exact e.symm) hf
                 · have h1 := (HF.out k hf).2
                   have h2 : some k = some (wr.heap.size + 1) := by rw [← hk, e]; simp
                   cases h2; omega
               clear hown4 hgrow4 hob4)
            | fail)
          have HR4 := Lib.hid (HR0.out.only HOn.out (fun k hk e => HVF.out k e hk))
          refine (mdel_any ls _ HR4.out (by rw [HRN.out]; omega)).mono ?_
          rintro e w5 ⟨rfl, hl5, ho5⟩
          have HV5 : Hid (own3 w5 3 w.heap.size v4 (M ++ [ls])) := ownsRow_kept HV4.out (fun k hk => ho5.block k (HV4.out.lt k hk).2 (HVF4.out k hk))
          have HB5 : Hid (Below w.heap.size w w5) := HB4.out.trans (ho5.below HB4.out.size (fun k hk => (HF.out k hk).1))
          have HF5 : Hid (∀ k, grow F2 w4 w5 k → w.heap.size ≤ k ∧ k < w5.heap.size) := fun k hk => by
            rcases hk with hk | hk
            · exact ⟨(HF.out k hk).1, Nat.lt_of_lt_of_le (HF.out k hk).2 (Nat.le_trans HOn.out.size ho5.size)⟩
            · exact ⟨Nat.le_trans HB4.out.size hk.1, hk.2⟩
          have HVF5 : Hid (∀ k, v4.ownBlock = some k → ¬ grow F2 w4 w5 k) := fun k hk hg => by
            rcases hg with hg | hg
            · exact HVF4.out k hk hg
            · have := (HV4.out.lt k hk).2; omega
          have HLEN : Hid (lenAt w5 r < rn) := by
            obtain ⟨v6, h6⟩ := hl5
            obtain ⟨a6, c6, rfl, -, -, -⟩ := h6.sl.seq
            show _ < _
            rw [lenAt_of h6.head.1, ← HRN.out]
            exact outL_lt.2 HLS2.out.1
          have HRL5 : Hid ((outL R ls).length ≤ n) := by have := outL_length R ls; rw [HRN.out] at this; show _ ≤ _; omega
          have HR5 := Lib.hid hl5
          clear hl5 ho5 HV4 HB4 HOn HVF4 HR4
          generalize hasL R ls = bb
          go_wp2_with fail
          go_roundw
          case rel => exact ⟨_, _, _, HC2, HRL5, HV5, HR5, HF5, HVF5, HB5⟩
          case measure => rw [HLA.out]; exact HLEN.out
    · have hlt' : ¬ ((0 : Int) < (rn : Int)) := by omega
      have hR0 : R = [] := List.eq_nil_of_length_eq_zero (by rw [HRN.out]; omega)
      have HE := Lib.hid HC.out
      rw [hR0] at HE
      have HV2 : Hid (own3 wr 3 w.heap.size u4 (setL zs)) := by rw [← HE.out.done]; exact HV.out
      go_wp2_with fail
      go_ret
      exact ⟨_, rfl, HV2.out, HB.out⟩
end Go.Proofs.Ythfdigjbmoconaa
