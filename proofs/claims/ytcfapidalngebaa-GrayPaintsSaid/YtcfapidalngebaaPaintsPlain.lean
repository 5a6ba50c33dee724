/-
  turnrowlaw14.GrayPaints: the plain law.
-/
import Derived.Test.YtcfapidalngebaaOncePlain
set_option linter.unusedSimpArgs false
set_option linter.unusedVariables false
namespace Go.Tr

/-- x has been painted; j have been told. -/
def PaintN (S : GS) (L : List Int) (x : Int) (j : Nat) : Prop := (∃ bl, Rep S ((wantL L [x]).drop j) bl ∧ x ∈ bl) ∧ S.Small (300 + 3 * j) ∧ S.tab.length ≤ 300 + 3 * j
theorem paints0 (L : List Int) (x : Int) (h : L.length ≤ 100) : (GS.new.put L).color x ≠ 2 ∧ (GS.new.put L).Small 1000000 ∧ ((GS.new.put L).paint x).color x = 2 ∧
    ((GS.new.put L).paint x).wait = (if hasL L x = true then (GS.new.put L).wait - 1 else (GS.new.put L).wait) ∧ PaintN ((GS.new.put L).paint x) L x 0 := by
  have h0 := once0 L [x] h
  have h1 := h0.step (x := x) rfl
  obtain ⟨⟨bl0, r0, m0⟩, s0, t0⟩ := h0
  obtain ⟨⟨bl1, r1, m1⟩, s1, t1⟩ := h1
  have hx : (GS.new.put L).color x ≠ 2 := fun e => by
    have := (m0 x).1 ((r0.black x).1 e)
    simp at this
  refine ⟨hx, s0.mono (by omega), (r1.black x).2 ((m1 x).2 (by simp)), ?_, ⟨bl1, ?_, (m1 x).2 (by simp)⟩, s1.mono (by omega), by omega⟩
  · have hg : (GS.new.put L).color x = 1 ↔ hasL L x = true := by
      rw [r0.gray_iff, mem_wantL, hasL_iff]; simp
    have hp : ((GS.new.put L).paint x).wait = if (GS.new.put L).color x = 1 then (GS.new.put L).wait - 1 else (GS.new.put L).wait := by
      unfold GS.paint; rw [if_neg hx]
    rw [hp]
    by_cases hh : hasL L x = true
    · rw [if_pos hh, if_pos (hg.2 hh)]
    · rw [if_neg hh, if_neg (fun e => hh (hg.1 e))]
  · simpa using r1
theorem PaintN.step {S : GS} {L : List Int} {x y : Int} {j : Nat} (h : PaintN S L x j) (hy : (wantL L [x])[j]? = some y) : S.next.1 = some y ∧ PaintN S.next.2 L x (j + 1) := by
  obtain ⟨⟨bl, h1, h2⟩, h3, h4⟩ := h
  have hj := (List.getElem?_eq_some_iff.1 hy).1
  have hd := List.drop_eq_getElem_cons hj
  rw [(List.getElem?_eq_some_iff.1 hy).2] at hd
  rw [hd] at h1
  obtain ⟨e1, e2⟩ := h1.next_some
  exact ⟨e1, ⟨_, e2, by simp [h2]⟩, (Small_next h3).mono (by omega), by have := tab_next S; omega⟩
theorem PaintN.fin {S : GS} {L : List Int} {x : Int} (h : PaintN S L x (wantL L [x]).length) (hL : L.length ≤ 100) : S.next.1 = Option.none ∧ S.next.2.color x = 2 ∧ S.next.2.tab.length ≤ 1000000 := by
  obtain ⟨⟨bl, h1, h2⟩, h3, h4⟩ := h
  rw [List.drop_length] at h1
  have hl := wantL_length L [x]
  exact ⟨h1.next_none.1, (h1.next_none.2.black x).2 h2, by have := tab_next S; omega⟩
theorem PaintN.small {S : GS} {L : List Int} {x : Int} {j : Nat} (h : PaintN S L x j) (hj : j ≤ 1000) : S.Small 1000000 := h.2.1.mono (by omega)
end Go.Tr
