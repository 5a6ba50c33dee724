/-
  turnrowref13.Sorted: each number once, rising. The walk.
-/
import Derived.Test.YtcfapidalngebaaSort
import Derived.Test.YtcfapidalngebaaHas
import Derived.Maps.AppendAt
import Derived.Deep.QuietTactic
import Derived.BigQuiet
set_option linter.unusedSimpArgs false
set_option linter.unusedVariables false
namespace Go.Proofs.Ytcfapidalngebaa
open Go.RowKit Go.Tr

theorem infoIntS : (Try.prog.info? 3).map (fun i => (i.zero, i.size, i.bytes)) = some (some (.int .i64 0), 1, 8) := by kernel_rfl

/-- x put in behind k of L. -/
def ins (L : List Int) (x : Int) (k : Nat) : List Int := L.take k ++ x :: L.drop k
theorem ins_length {L : List Int} {x : Int} {k : Nat} (hk : k ≤ L.length) : (ins L x k).length = L.length + 1 := by simp [ins]; omega
theorem ins_end (L : List Int) (x : Int) : ins L x L.length = L ++ [x] := by simp [ins]
theorem mem_ins {L : List Int} {x y : Int} {k : Nat} : y ∈ ins L x k ↔ y ∈ L ∨ y = x := by
  have : y ∈ L ↔ y ∈ L.take k ∨ y ∈ L.drop k := by rw [← List.mem_append, List.take_append_drop]
  simp [ins, this]
  constructor
  · rintro (h | h | h) <;> simp [h]
  · rintro ((h | h) | h) <;> simp [h]
theorem ins_at {L : List Int} {x : Int} {k : Nat} (hk : k ≤ L.length) : (ins L x k)[k]? = some x := by
  unfold ins; rw [List.getElem?_append_right (by simp; omega)]; simp [Nat.min_eq_left hk]
theorem ints_at {L : List Int} {k : Nat} {x : Int} (h : L[k]? = some x) : (ints L)[k]? = some (.int .i64 x) := by simp [ints, h, iv]
theorem ins_before {L : List Int} {x p : Int} {k : Nat} (hp : L[k]? = some p) : (ins L x (k + 1))[k]? = some p := by
  have := (List.getElem?_eq_some_iff.1 hp).1
  unfold ins; rw [List.getElem?_append_left (by simp; omega), List.getElem?_take_of_lt (by omega), hp]
theorem ins_swap {L : List Int} {x p : Int} {k : Nat} (hp : L[k]? = some p) : ((ints (ins L x (k + 1))).set (k + 1) (.int .i64 p)).set k (.int .i64 x) = ints (ins L x k) := by
  have hk := (List.getElem?_eq_some_iff.1 hp).1
  have h1 : L.take (k + 1) = L.take k ++ [p] := take_snoc hp
  have h2 : L.drop k = p :: L.drop (k + 1) := by
    rw [List.drop_eq_getElem_cons hk]; congr 1
    exact (List.getElem?_eq_some_iff.1 hp).2
  unfold ins
  rw [h1, h2]
  have hl : (ints (L.take k)).length = k := by rw [ints_length]; simp; omega
  have e1 : ints (L.take k ++ [p] ++ x :: L.drop (k + 1)) = ints (L.take k) ++ (.int .i64 p :: .int .i64 x :: ints (L.drop (k + 1))) := by simp [ints, iv]
  have e2 : ints (L.take k ++ x :: p :: L.drop (k + 1)) = ints (L.take k) ++ (.int .i64 x :: .int .i64 p :: ints (L.drop (k + 1))) := by simp [ints, iv]
  rw [e1, e2, List.set_append_right _ _ (by omega), hl, List.set_append_right _ _ (by omega), hl]
  simp
theorem ins_rises {L : List Int} {x : Int} {k : Nat} (hL : L.Pairwise (· < ·)) (hq : ∀ q ∈ L.drop k, x < q) (hp : ∀ q ∈ L.take k, q < x) : (ins L x k).Pairwise (· < ·) := by
  unfold ins
  rw [List.pairwise_append]
  refine ⟨hL.sublist (List.take_sublist _ _), List.pairwise_cons.2 ⟨hq, hL.sublist (List.drop_sublist _ _)⟩, fun a ha b hb => ?_⟩
  rcases List.mem_cons.1 hb with rfl | hb
  · exact hp a ha
  · have := hp a ha; have := hq b hb; omega
theorem take_below {L : List Int} {x p : Int} {k : Nat} (hL : L.Pairwise (· < ·)) (hp : L[k]? = some p) (hx : p < x) : ∀ q ∈ L.take (k + 1), q < x := by
  intro q hq
  rw [take_snoc hp] at hq
  rcases List.mem_append.1 hq with hq | hq
  · have h2 : L = L.take k ++ L.drop k := (List.take_append_drop k L).symm
    rw [h2, List.pairwise_append] at hL
    have hk := (List.getElem?_eq_some_iff.1 hp).1
    have hpd : p ∈ L.drop k := by
      have h3 := List.drop_eq_getElem_cons hk
      rw [(List.getElem?_eq_some_iff.1 hp).2] at h3
      rw [h3]; simp
    have := hL.2.2 q hq p hpd
    omega
  · simp at hq; omega
theorem own_block {w : World} {base : Nat} {e : TypeId} {v : Value} {n : Nat} {xs : List Value} (h : w.ownsRow base e 1 v n xs) (h0 : 0 < n) : ∃ g cap cur, v = .slice (some ⟨g, 0, none⟩) n cap ∧ base ≤ g ∧ w.heap[g]? = some (.cells cur e (0, 0)) ∧ n ≤ cap ∧ cap ≤ maxLen ∧ cur.size = cap ∧ ∀ j, j < n → cur[j]? = xs[j]? := by
  obtain ⟨hx, hr⟩ := h
  rcases hr with ⟨_, hn⟩ | ⟨g, cap, cur, rfl, hb, hg, h1, h2, h3, h4⟩
  · omega
  · refine ⟨g, cap, cur, rfl, hb, hg, h1, h2, by omega, fun j hj => ?_⟩
    rw [Nat.mul_one] at h4
    rw [← h4, List.getElem?_take_of_lt hj, Array.getElem?_toList]

set_option maxRecDepth 100000 in
set_option maxHeartbeats 1000000 in
theorem sorted13_any (a : Option Addr) (n c : Nat) (l : List Int) (w : World) (h : SeqAt w a (ints l)) (hl : l.length = n) (hs : n ≤ 1000000) :
    Calls Try.prog 36 #[.slice a n c] w fun e w' => ∃ v zs, e = .returned v ∧ own3 w' 3 w.heap.size v zs ∧ zs.Pairwise (· < ·) ∧ (∀ x, x ∈ zs ↔ x ∈ l) ∧ Below w.heap.size w w' := by
  obtain ⟨i0, hi, hz0, hz1, hz2⟩ := info_parts infoIntS
  have H := Lib.hid h; clear h
  have HL := Lib.hid hl; clear hl
  go_enter Try.func36, Try.ntmps36
  go_wp2_with fail
  go_loopw [3, 4] (fun v i wr => ∃ (k : Nat) (zs : List Int), k ≤ n ∧ i = .int .i64 k ∧ zs.length ≤ k ∧ Hid (own3 wr 3 w.heap.size v zs) ∧ Hid (zs.Pairwise (· < ·)) ∧ Hid (∀ x, x ∈ zs ↔ x ∈ l.take k) ∧ Hid (Below w.heap.size w wr)) (fun _ i _ => n - (intOf i).toNat)
  case atStart => exact ⟨0, [], Nat.zero_le _, rfl, Nat.le_refl _, World.ownsRow_nil _ _ _ _, List.Pairwise.nil, by simp [Hid], Below.refl _ _⟩
  case round =>
    obtain ⟨k, zs, hk, rfl, hzk, HV, HP, HS, HB⟩ := hrel
    by_cases hlt : k < n
    · obtain ⟨b, off, x, rfl, hc, HX⟩ := (H.out.below HB.out (Nat.le_refl _)).ints (k := k) (by rw [HL.out]; exact hlt)
      have HT := Lib.hid (take_snoc HX.out)
      obtain ⟨ln, hln⟩ : ∃ ln, ln = zs.length := ⟨_, rfl⟩
      have HV' : Hid (wr.ownsRow w.heap.size 3 1 u3 ln (ints zs)) := by rw [hln]; exact HV.out
      rw [← hln] at hzk
      have HLN := Lib.hid hln.symm; clear hln
      obtain ⟨oa, oc, rfl, hso, hoc, -⟩ := ownsRow_seq HV'.out
      have HO := Lib.hid hso; clear hso
      by_cases hf : hasL zs x = true
      · have HF := Lib.hid hf
        have HS2 : Hid (∀ y, y ∈ zs ↔ y ∈ l.take (k + 1)) := by
          intro y
          rw [HT.out, List.mem_append, HS.out y, List.mem_singleton]
          exact ⟨Or.inl, fun h => h.elim id (fun e => by rw [e, ← HS.out]; exact (hasL_iff _ _).1 hf)⟩
        clear hf
        go_wp2_with fail
        refine (has_any oa ln oc zs x _ HO.out HLN.out (by omega)).mono ?_
        rintro e w' ⟨rfl, rfl⟩
        rw [HF.out]
        go_wp2_with fail
        go_roundw
        case rel => exact ⟨k + 1, zs, by omega, by go_num, by rw [HLN.out]; omega, HV, HP, HS2, HB⟩
        case measure => simp [intOf]; omega
      · have HF : Hid (hasL zs x = false) := by simpa [Hid] using hf
        clear hf
        go_wp2_with fail
        refine (has_any oa ln oc zs x _ HO.out HLN.out (by omega)).mono ?_
        rintro e w' ⟨rfl, rfl⟩
        rw [HF.out]
        go_wp2_with (first
          | (at_builtin; refine wpList_append_own _ rfl (.tmp 23) (.tmp 28) 22 rfl w.heap.size 3 i0 _ 1 8 Try.underlying22 hi hz0 hz1 hz2 rfl (by decide) _ _ _ rfl (HV'.out.alloc _) ⟨wr.heap.size, 0, none⟩ 1 1 (ints [x]) rfl rfl ?_ (ints_oneCell .i64 [x]) (by unfold maxLen; omega) (by omega) (by have := HB.out.size; simp; omega) ?_)
          | fail)
        · intro j u hu
          exact news_block wr (ints [x]) 3 j u hu
        · intro v' w4 hown hgrow _
          have HV4 : Hid (w4.ownsRow w.heap.size 3 1 v' (ln + 1) (ints (ins zs x ln))) := by
            rw [← HLN.out, ins_end]
            show w4.ownsRow _ _ _ _ _ _
            have := hown
            rw [← HLN.out] at this
            simpa [ints] using this
          have HB4 : Hid (Below w.heap.size w w4) := (HB.out.alloc HB.out.size _).grown hgrow (by have := HB.out.size; simp; omega) (fun j hj => (HV'.out.lt j hj).1)
          have HQ4 : Hid (∀ q ∈ zs.drop ln, x < q) := by rw [← HLN.out]; intro q hq; simp at hq
          clear hown hgrow
          obtain ⟨g, cap, cur0, rfl, hbg, -, -, -, -, -⟩ := own_block HV4.out (by omega)
          clear HV HV' HO HB
          go_wp2_with fail
          go_loopw [6] (fun i wr => ∃ m : Nat, m ≤ ln ∧ i = .int .i64 m ∧ Hid (wr.ownsRow w.heap.size 3 1 (.slice (some ⟨g, 0, none⟩) (ln + 1) cap) (ln + 1) (ints (ins zs x m))) ∧ Hid (∀ q ∈ zs.drop m, x < q) ∧ Hid (Below w.heap.size w wr)) (fun i _ => (intOf i).toNat)
          case atStart => exact ⟨ln, Nat.le_refl _, rfl, HV4, HQ4, HB4⟩
          case round =>
            clear HV4 HQ4 HB4
            obtain ⟨m, hm, rfl, HV, HQ, HB⟩ := hrel
            have hend : ∀ q, (∀ y ∈ zs.take m, y < x) → Hid (own3 (wr.drewN q) 3 w.heap.size (.slice (some ⟨g, 0, none⟩) (ln + 1) cap) (ins zs x m)) ∧ Hid ((ins zs x m).Pairwise (· < ·)) ∧ Hid (∀ y, y ∈ ins zs x m ↔ y ∈ l.take (k + 1)) ∧ (ins zs x m).length = ln + 1 ∧ Hid (Below w.heap.size w (wr.drewN q)) := fun q hb => by
              have hl1 : (ins zs x m).length = ln + 1 := by rw [ins_length (by rw [HLN.out]; exact hm), HLN.out]
              refine ⟨?_, ins_rises HP.out HQ.out hb, fun y => ?_, hl1, HB.out.trans (Drawn.below ⟨_, rfl⟩ _)⟩
              · show World.ownsRow _ _ _ _ _ _ _
                rw [hl1]; exact HV.out
              · rw [mem_ins, HT.out, List.mem_append, HS.out y, List.mem_singleton]
            have HEND := Lib.hid hend; clear hend
            cases m with
            | zero =>
              simp only [Int.natCast_zero, Int.ofNat_zero] at *
              go_wp2
              go_quiet (fail)
              go_wp2
              obtain ⟨q1, q2, q3, q4, q5⟩ := HEND.out nq (by simp)
              go_roundw
              case rel => exact ⟨k + 1, ins zs x 0, by omega, by go_num, by omega, q1, q2, q3, q5⟩
              case measure => simp [intOf]; omega
            | succ m =>
              rw [show ((m + 1 : Nat) : Int) = (m : Int) + 1 by omega]
              obtain ⟨p, hp⟩ : ∃ p, zs[m]? = some p := ⟨zs[m]'(by rw [HLN.out]; omega), List.getElem?_eq_getElem _⟩
              have hcx : wr.cell? ⟨g, m + 1, none⟩ = some (.int .i64 x) := by rw [HV.out.cellAt (m + 1) (by omega)]; exact ints_at (ins_at (by rw [HLN.out]; exact hm))
              have hcp : wr.cell? ⟨g, m, none⟩ = some (.int .i64 p) := by rw [HV.out.cellAt m (by omega)]; exact ints_at (ins_before hp)
              have hf1 := HV.out.frozenAt (m + 1)
              have hf2 := HV.out.frozenAt m
              have HPP := Lib.hid hp
              clear hp
              by_cases hxp : x < p
              · go_wp2
                go_quiet (fail)
                go_wp2
                have st1 := World.ownsRow.stored (show (wr.drewN nq).ownsRow w.heap.size 3 1 (.slice (some ⟨g, 0, none⟩) (ln + 1) cap) (ln + 1) (ints (ins zs x (m + 1))) from HV.out) (m + 1) (.int .i64 p)
                have st2 := World.ownsRow.stored st1.1 m (.int .i64 x)
                have hV2 := st2.1
                rw [ins_swap HPP.out] at hV2
                have HB0 : Hid (Below w.heap.size w (wr.drewN nq)) := HB.out.trans (Drawn.below ⟨_, rfl⟩ _)
                have HB2 := (HB0.out.grown st1.2 HB0.out.size (fun j hj => by cases hj; exact hbg)).grown st2.2 (by have := HB0.out.size; have := st1.2.size; omega) (fun j hj => by cases hj; exact hbg)
                have hQ2 : ∀ q ∈ zs.drop m, x < q := by
                  intro q hq
                  have h3 := List.drop_eq_getElem_cons (List.getElem?_eq_some_iff.1 HPP.out).1
                  rw [(List.getElem?_eq_some_iff.1 HPP.out).2] at h3
                  rw [h3] at hq
                  rcases List.mem_cons.1 hq with rfl | hq
                  · exact hxp
                  · exact HQ.out q hq
                go_roundw
                case rel => exact ⟨m, by omega, rfl, hV2, hQ2, HB2⟩
                case measure => simp [intOf]
              · have hd : decide (x < p) = false := by simpa using hxp
                go_wp2
                go_quiet (fail)
                go_wp2
                have hpx : p < x := by
                  have : p ≠ x := fun e => by
                    have h1 := (hasL_iff' _ _).1 HF.out
                    exact h1 (e ▸ List.mem_of_getElem? HPP.out)
                  omega
                obtain ⟨q1, q2, q3, q4, q5⟩ := HEND.out nq (take_below HP.out HPP.out hpx)
                go_roundw
                case rel => exact ⟨k + 1, ins zs x (m + 1), by omega, by go_num, by omega, q1, q2, q3, q5⟩
                case measure => simp [intOf]; omega
    · go_wp2_with fail
      go_ret
      have ht : l.take k = l := List.take_of_length_le (by rw [HL.out]; omega)
      have := HS.out
      rw [ht] at this
      exact ⟨_, _, rfl, HV.out, HP.out, this, HB.out⟩
end Go.Proofs.Ytcfapidalngebaa
