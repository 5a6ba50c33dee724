/-
  graph.Lost: what isn't reached, rising. The walk.
-/
import Derived.Test.YtcfapidalngebaaReach
import Derived.Maps.AppendAt
import Derived.Test.YtcfapidalngebaaOncePlain
set_option linter.unusedSimpArgs false
set_option linter.unusedVariables false
namespace Go.Proofs.Ytcfapidalngebaa
open Go.RowKit Go.Tr

theorem compact_rises {zs : List Int} (h : zs.Pairwise (· ≤ ·)) : (Lib.compact zs).Pairwise (· < ·) ∧ ∀ x, x ∈ Lib.compact zs ↔ x ∈ zs := by
  have hle : ∀ i j, i ≤ j → j < zs.length → zs.toArray[i]! ≤ zs.toArray[j]! := fun i j hij hj => by
    rw [List.pairwise_iff_getElem] at h
    rw [getElem!_pos zs.toArray i (by simp; omega), getElem!_pos zs.toArray j (by simpa using hj)]
    rcases Nat.lt_or_ge i j with h1 | h1
    · simpa using h i j (by omega) hj h1
    · have : i = j := by omega
      subst this; exact Int.le_refl _
  have key : ∀ m, m ≤ zs.length → (Lib.compactUpTo zs.toArray m).Pairwise (· < ·) ∧ ∀ x, x ∈ Lib.compactUpTo zs.toArray m ↔ ∃ j, j < m ∧ zs.toArray[j]! = x := by
    intro m
    induction m with
    | zero => intro _; simp [Lib.compactUpTo]
    | succ m ih =>
      intro hm
      obtain ⟨p1, p2⟩ := ih (by omega)
      rw [Lib.compactUpTo_succ]
      by_cases hk : Lib.keeps zs.toArray m = true
      · rw [if_pos hk]
        have hk' : m = 0 ∨ zs.toArray[m]! ≠ zs.toArray[m - 1]! := by simpa [Lib.keeps] using hk
        refine ⟨List.pairwise_append.2 ⟨p1, by simp, fun a ha b hb => ?_⟩, fun x => ?_⟩
        · simp only [List.mem_singleton] at hb
          obtain ⟨j, hj, rfl⟩ := (p2 a).1 ha
          rcases hk' with h0 | h0
          · omega
          · have h1 := hle j (m - 1) (by omega) (by omega)
            have h2 := hle (m - 1) m (by omega) (by omega)
            omega
        · rw [List.mem_append, p2, List.mem_singleton]
          constructor
          · rintro (⟨j, hj, rfl⟩ | rfl)
            · exact ⟨j, by omega, rfl⟩
            · exact ⟨m, by omega, rfl⟩
          · rintro ⟨j, hj, rfl⟩
            rcases Nat.lt_or_ge j m with h1 | h1
            · exact Or.inl ⟨j, h1, rfl⟩
            · have : j = m := by omega
              subst this; exact Or.inr rfl
      · rw [if_neg hk, List.append_nil]
        have hk' : m ≠ 0 ∧ zs.toArray[m]! = zs.toArray[m - 1]! := by
          simp only [Lib.keeps, decide_eq_true_eq, not_or, Classical.not_not] at hk
          exact ⟨hk.1, hk.2⟩
        refine ⟨p1, fun x => (p2 x).trans ⟨fun ⟨j, hj, e⟩ => ⟨j, by omega, e⟩, fun ⟨j, hj, e⟩ => ?_⟩⟩
        rcases Nat.lt_or_ge j m with h1 | h1
        · exact ⟨j, h1, e⟩
        · have : j = m := by omega
          subst this
          exact ⟨j - 1, by omega, by rw [← hk'.2]; exact e⟩
  obtain ⟨k1, k2⟩ := key zs.length (Nat.le_refl _)
  refine ⟨k1, fun x => (k2 x).trans ?_⟩
  rw [List.mem_iff_getElem]
  constructor
  · rintro ⟨j, hj, rfl⟩; exact ⟨j, hj, by rw [getElem!_pos zs.toArray j (by simpa using hj)]; simp⟩
  · rintro ⟨j, hj, rfl⟩; exact ⟨j, hj, by rw [getElem!_pos zs.toArray j (by simpa using hj)]; simp⟩
theorem compact_le (zs : List Int) : (Lib.compact zs).length ≤ zs.length := by
  unfold Lib.compact Lib.compactUpTo
  rw [List.length_map]
  have := List.length_filter_le (Lib.keeps zs.toArray) (List.range zs.length)
  simpa using this

theorem infoIntL : (Try.prog.info? 3).map (fun i => (i.zero, i.size, i.bytes)) = some (some (.int .i64 0), 1, 8) := by kernel_rfl
/-- Those of some that aren't reached, as they stand. -/
def missL (R nodes : List Int) : List Int := nodes.filter fun x => !hasL R x
theorem missL_snoc (R l : List Int) (x : Int) : missL R (l ++ [x]) = missL R l ++ if hasL R x = true then [] else [x] := by
  unfold missL
  by_cases h : hasL R x = true <;> simp [h]
theorem missL_length (R l : List Int) : (missL R l).length ≤ l.length := List.length_filter_le _ _
theorem mem_missL {R l : List Int} {x : Int} : x ∈ missL R l ↔ x ∈ l ∧ x ∉ R := by simp [missL, hasL]

theorem own_mono {w : World} {base base' : Nat} {e : TypeId} {v : Value} {zs : List Int} (h : own3 w e base v zs) (hb : base' ≤ base) : own3 w e base' v zs := by
  obtain ⟨h1, h2⟩ := h
  refine ⟨h1, h2.imp id ?_⟩
  rintro ⟨g, cap, cur, e1, e2, e3⟩
  exact ⟨g, cap, cur, e1, Nat.le_trans hb e2, e3⟩

set_option maxRecDepth 100000 in
set_option maxHeartbeats 1000000 in
theorem lost_any (na ra ea : Option Addr) (nn nc rn rc en ec : Nat) (nodes roots : List Int) (E : Edges) (w : World) (hn : SeqAt w na (ints nodes)) (hr : SeqAt w ra (ints roots)) (he : SeqAt w ea (ecells E)) (hnn : nodes.length = nn) (hrn : roots.length = rn) (hen : E.length = en) (hs : rn + en ≤ 1000000) (hs2 : nn ≤ 1000000) :
    Calls Try.prog 38 #[.slice na nn nc, .slice ra rn rc, .slice ea en ec] w fun e w' => ∃ v zs, e = .returned v ∧ own3 w' 3 w.heap.size v zs ∧ zs.Pairwise (· < ·) ∧ (∀ x, x ∈ zs ↔ x ∈ nodes ∧ x ∉ orderL roots E) ∧ zs.length ≤ nn ∧ Below w.heap.size w w' := by
  obtain ⟨i0, hi, hz0, hz1, hz2⟩ := info_parts infoIntL
  have HN := Lib.hid hn
  have HNN := Lib.hid hnn
  have HRE := Lib.hid (reach_any ra ea rn rc en ec roots E w hr he hrn hen hs)
  have hrl := reachL_length roots E
  rw [hrn, hen] at hrl
  clear hn hr he hnn hrn hen
  go_enter Try.func38, Try.ntmps38
  go_wp2_with fail
  refine HRE.out.mono ?_
  rintro e w1 ⟨v, rfl, ho, hb⟩
  obtain ⟨oa, oc, rfl, hso, -, -⟩ := ownsRow_seq ho
  have HR1 := Lib.hid hso
  have HB1 := Lib.hid hb
  have HRS : Hid ((reachL roots E).Pairwise (· ≤ ·)) := sortL_sorted _
  have HMR : Hid (∀ x, x ∈ reachL roots E ↔ x ∈ orderL roots E) := fun x => mem_reachL
  generalize reachL roots E = R at *
  generalize hrr : R.length = rl at *
  have HRL := Lib.hid hrr
  clear ho hb hso HRE hrr
  go_wp2_with fail
  have HN1 := Lib.hid (HN.out.below HB1.out (Nat.le_refl _))
  go_loopw [8, 18] (fun v i wr => ∃ k : Nat, k ≤ nn ∧ i = .int .i64 k ∧ Hid (own3 wr 3 w1.heap.size v (missL R (nodes.take k))) ∧ Hid (Below w1.heap.size w1 wr)) (fun _ i _ => nn - (intOf i).toNat)
  case atStart => exact ⟨0, Nat.zero_le _, rfl, World.ownsRow_nil _ _ _ _, Below.refl _ _⟩
  case round =>
    obtain ⟨k, hk, rfl, HV, HB⟩ := hrel
    by_cases hlt : k < nn
    · obtain ⟨b, off, x, rfl, hc, HX⟩ := (HN1.out.below HB.out (Nat.le_refl _)).ints (k := k) (by rw [HNN.out]; exact hlt)
      have HT := Lib.hid (take_snoc HX.out)
      clear HX
      have hLl : (missL R (nodes.take k)).length ≤ k := by
        have := missL_length R (nodes.take k)
        simp at this; omega
      obtain ⟨M, hM⟩ : ∃ M, M = missL R (nodes.take k) := ⟨_, rfl⟩
      rw [← hM] at HV hLl
      have HM := Lib.hid hM; clear hM
      obtain ⟨mn, hmn⟩ : ∃ mn, mn = M.length := ⟨_, rfl⟩
      have HV' : Hid (wr.ownsRow w1.heap.size 3 1 u8 mn (ints M)) := by rw [hmn]; exact HV.out
      rw [← hmn] at hLl
      have HMN := Lib.hid hmn.symm; clear hmn
      by_cases hf : hasL R x = true
      · have HF := Lib.hid hf; clear hf
        have HV2 : Hid (own3 wr 3 w1.heap.size u8 (missL R (nodes.take (k + 1)))) := by
          rw [HT.out, missL_snoc, if_pos HF.out, List.append_nil, ← HM.out]; exact HV.out
        go_wp2_with fail
        refine (search_any oa rl oc R x _ (HR1.out.below HB.out (Nat.le_refl _)) HRL.out (by omega) HRS.out).mono ?_
        rintro e w' ⟨rfl, q, rfl⟩
        rw [HF.out]
        go_wp2_with fail
        go_roundw
        case rel => exact ⟨k + 1, by omega, by go_num, HV2, HB.out.trans (Drawn.below ⟨_, rfl⟩ _)⟩
        case measure => simp [intOf]; omega
      · have HF : Hid (hasL R x = false) := by simpa [Hid] using hf
        clear hf
        go_wp2_with fail
        refine (search_any oa rl oc R x _ (HR1.out.below HB.out (Nat.le_refl _)) HRL.out (by omega) HRS.out).mono ?_
        rintro e w' ⟨rfl, q, rfl⟩
        rw [HF.out]
        have HVD : Hid ((wr.drewN q).ownsRow w1.heap.size 3 1 u8 mn (ints M)) := HV'.out
        have HBD : Hid (Below w1.heap.size w1 (wr.drewN q)) := HB.out.trans (Drawn.below ⟨_, rfl⟩ _)
        obtain ⟨oa8, oc8, rfl, -, hoc8, -⟩ := ownsRow_seq HV'.out
        go_wp2_with (first
          | (at_builtin; refine wpList_append_own _ rfl (.tmp 30) (.tmp 32) 22 rfl w1.heap.size 3 i0 _ 1 8 Try.underlying22 hi hz0 hz1 hz2 rfl (by decide) _ _ _ rfl (HVD.out.alloc _) ⟨wr.heap.size, 0, none⟩ 1 1 (ints [x]) rfl rfl ?_ (ints_oneCell .i64 [x]) (by unfold maxLen; omega) (by omega) (by have := HB.out.size; simp; omega) ?_)
          | fail)
        · intro j u hu
          exact news_block (wr.drewN q) (ints [x]) 3 j u hu
        · intro v' w4 hown hgrow _
          have HV4 : Hid (own3 w4 3 w1.heap.size v' (missL R (nodes.take (k + 1)))) := by
            rw [HT.out, missL_snoc, if_neg (by rw [HF.out]; decide), ← HM.out]
            unfold own3
            have := hown
            rw [← HMN.out] at this
            show w4.ownsRow _ _ _ _ _ _
            simpa [ints] using this
          have HB4 : Hid (Below w1.heap.size w1 w4) := (HBD.out.alloc HBD.out.size _).grown hgrow (by have := HB.out.size; simp; omega) (fun j hj => (HV'.out.lt j hj).1)
          clear hown hgrow
          go_wp2
          go_roundw
          case rel => exact ⟨k + 1, by omega, by go_num, HV4, HB4⟩
          case measure => simp [intOf]; omega
    · have HKN : Hid (nodes.take k = nodes) := List.take_of_length_le (by rw [HNN.out]; omega)
      have HV' : Hid (own3 wr 3 w1.heap.size u8 (missL R nodes)) := by have := HV.out; rw [HKN.out] at this; exact this
      have hml : (missL R nodes).length ≤ nn := by have := missL_length R nodes; rw [HNN.out] at this; exact this
      have HML := Lib.hid hml
      clear hml HV HKN
      go_wp2_with fail
      refine (sort_own w1.heap.size u8 (missL R nodes) _ HV'.out (by have := HML.out; omega)).mono ?_
      rintro e w2 ⟨rfl, ho, hg⟩
      have HV2 := Lib.hid ho
      have HB2 : Hid (Below w1.heap.size w1 w2) := HB.out.grown hg HB.out.size (fun j hj => (HV'.out.lt j hj).1)
      clear ho hg HV' HB
      go_wp2_with fail
      refine (compact_own w1.heap.size u8 (sortL (missL R nodes)) _ HV2.out (by have := HML.out; rw [sortL_length]; omega) (compact_le _)).mono ?_
      rintro e w3 ⟨v3, rfl, ho, hg, hv⟩
      have HV3 := Lib.hid ho
      have HB3 : Hid (Below w1.heap.size w1 w3) := HB2.out.grown hg HB2.out.size (fun j hj => (HV2.out.lt j hj).1)
      clear ho hg hv
      go_wp2
      go_ret
      have hc := compact_rises (sortL_sorted (missL R nodes))
      have hle := compact_le (sortL (missL R nodes))
      rw [sortL_length] at hle
      have hml := HML.out
      exact ⟨_, _, rfl, own_mono HV3.out HB1.out.size, hc.1, fun x => by rw [hc.2 x, mem_sortL, mem_missL, HMR.out x], by omega, HB1.out.trans (HB3.out.mono HB1.out.size)⟩
end Go.Proofs.Ytcfapidalngebaa
