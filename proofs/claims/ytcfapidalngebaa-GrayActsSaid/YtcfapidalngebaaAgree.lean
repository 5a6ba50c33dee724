/-
  gray's list and the document's answer alike: plain, no program in sight.
-/
import Derived.Test.YtcfapidalngebaaOncePlain
import Derived.Test.YtcfapidalngebaaAgainPlain
import Derived.Test.YtcfapidalngebaaRef14
set_option linter.unusedSimpArgs false
set_option linter.unusedVariables false
namespace Go.Tr

theorem outL_ne (l : List Int) (x : Int) : outL l x = l.filter (· != x) := rfl
def RS.puts (R : RS) (xs : List Int) : RS := xs.foldl RS.put R
def RS.putsN (R : RS) : List Int → Int
  | [] => 0
  | x :: xs => (if R.color x = 0 then 1 else 0) + (R.put x).putsN xs
theorem puts_snoc (x : Int) (xs : List Int) (R : RS) : R.puts (xs ++ [x]) = (R.puts xs).put x := by simp [RS.puts]
theorem putsN_snoc (x : Int) : ∀ (xs : List Int) (R : RS), R.putsN (xs ++ [x]) = R.putsN xs + if (R.puts xs).color x = 0 then 1 else 0
  | [], R => by by_cases h : R.color x = 0 <;> simp [RS.putsN, RS.puts, h]
  | y :: r, R => by
    simp only [List.cons_append, RS.putsN]
    rw [putsN_snoc x r (R.put y)]
    simp only [RS.puts, List.foldl_cons]
    omega
theorem putsN_le : ∀ (xs : List Int) (R : RS), 0 ≤ R.putsN xs ∧ R.putsN xs ≤ xs.length
  | [], R => by simp [RS.putsN]
  | x :: r, R => by have := putsN_le r (R.put x); simp only [RS.putsN, List.length_cons]; split <;> omega
def RS.size (R : RS) : Nat := R.wl.length + R.bl.length
theorem size_put (R : RS) (x : Int) : (R.put x).size ≤ R.size + 1 := by unfold RS.put RS.size; split <;> simp <;> omega
theorem size_puts : ∀ (xs : List Int) (R : RS), (R.puts xs).size ≤ R.size + xs.length
  | [], R => by simp [RS.puts]
  | x :: r, R => by
    have h1 := size_puts r (R.put x)
    have h2 := size_put R x
    simp only [RS.puts, List.foldl_cons, List.length_cons] at h1 ⊢
    omega
theorem size_again (R : RS) (x : Int) : (R.again x).size ≤ R.size + 1 := by
  have := outL_length R.bl x
  unfold RS.again RS.size; split <;> simp <;> omega
theorem size_paint (R : RS) (x : Int) : (R.paint x).size ≤ R.size + 1 := by
  have := outL_length R.wl x
  unfold RS.paint RS.size; split <;> simp <;> omega
theorem size_next (R : RS) : R.next.2.size ≤ R.size + 1 := by
  unfold RS.next; split
  · show R.size ≤ _; omega
  · exact size_paint R _

theorem Rep.same {S : GS} {R : RS} (h : Rep S R.wl R.bl) (x : Int) : S.color x = R.color x := by
  unfold RS.color
  by_cases h1 : hasL R.wl x = true
  · rw [if_pos h1]; exact (h.gray_iff x).2 ((hasL_iff _ _).1 h1)
  · rw [if_neg h1]
    by_cases h2 : hasL R.bl x = true
    · rw [if_pos h2]; exact (h.black x).2 ((hasL_iff _ _).1 h2)
    · rw [if_neg h2]; exact (h.white_iff x).2 ⟨fun h' => h1 ((hasL_iff _ _).2 h'), fun h' => h2 ((hasL_iff _ _).2 h')⟩
theorem same_put {S : GS} {R : RS} (h : Rep S R.wl R.bl) (x : Int) : Rep (S.put1 x) (R.put x).wl (R.put x).bl := by
  have h1 := h.put1 x
  unfold RS.put
  by_cases h0 : R.color x = 0
  · rw [if_pos h0]
    have hw := (h.white_iff x).1 (by rw [h.same]; exact h0)
    rw [if_neg (by rintro (h' | h'); exact hw.1 h'; exact hw.2 h')] at h1
    exact h1
  · rw [if_neg h0]
    have : x ∈ R.wl ∨ x ∈ R.bl := by
      apply Classical.byContradiction; intro hn
      exact h0 (by rw [← h.same]; exact (h.white_iff x).2 ⟨fun h' => hn (Or.inl h'), fun h' => hn (Or.inr h')⟩)
    rw [if_pos this] at h1
    exact h1
theorem same_puts : ∀ (xs : List Int) {S : GS} {R : RS}, Rep S R.wl R.bl → Rep (S.put xs) (R.puts xs).wl (R.puts xs).bl ∧ S.putN xs = R.putsN xs
  | [], S, R, h => ⟨h, rfl⟩
  | x :: r, S, R, h => by
    have := same_puts r (same_put h x)
    refine ⟨this.1, ?_⟩
    simp only [GS.putN, RS.putsN]
    rw [this.2, h.same]
theorem same_again {S : GS} {R : RS} (h : Rep S R.wl R.bl) (x : Int) : Rep (S.again x) (R.again x).wl (R.again x).bl := by
  have h1 := h.again x
  unfold RS.again
  by_cases h2 : R.color x = 2
  · have hb := (h.black x).1 (by rw [h.same]; exact h2)
    rw [if_pos hb, if_pos hb] at h1
    rw [if_pos h2]; exact h1
  · have hb : x ∉ R.bl := fun h' => h2 (by rw [← h.same]; exact (h.black x).2 h')
    rw [if_neg hb, if_neg hb] at h1
    rw [if_neg h2]; exact h1
theorem same_paint {S : GS} {R : RS} (h : Rep S R.wl R.bl) (x : Int) : Rep (S.paint x) (R.paint x).wl (R.paint x).bl := by
  unfold RS.paint
  by_cases h2 : R.color x = 2
  · rw [if_pos h2]
    have hb := (h.black x).1 (by rw [h.same]; exact h2)
    rw [h.paint_old hb]; exact h
  · rw [if_neg h2]
    exact h.paint (fun h' => h2 (by rw [← h.same]; exact (h.black x).2 h'))
theorem same_next {S : GS} {R : RS} (h : Rep S R.wl R.bl) : Rep S.next.2 R.next.2.wl R.next.2.bl ∧ S.next.1 = R.next.1 := by
  unfold RS.next
  cases hw : R.wl with
  | nil =>
    rw [hw] at h
    have := h.next_none
    simp only []
    exact ⟨by rw [hw]; exact this.2, this.1⟩
  | cons x t =>
    have hc : R.color x = 1 := by unfold RS.color; rw [if_pos (by rw [hw, hasL_iff]; simp)]
    have hn : x ∉ t := by have := h.nodup; rw [hw] at this; exact (List.nodup_cons.1 this).1
    rw [hw] at h
    have := h.next_some
    simp only []
    refine ⟨?_, this.1⟩
    have e : outL (x :: t) x = t := by
      unfold outL
      rw [List.filter_cons]
      simp
      exact fun a ha e => hn (e ▸ ha)
    unfold RS.paint
    rw [if_neg (by omega), hw, e]
    exact this.2

/-- Behind k acts they are alike. -/
def Ag (S : GS) (R : RS) (k : Nat) : Prop := Rep S R.wl R.bl ∧ S.Small (50 * k) ∧ S.tab.length ≤ 50 * k ∧ R.size ≤ 50 * k
theorem Ag.zero : Ag GS.new ⟨[], []⟩ 0 := ⟨Rep.new, ⟨by decide, by decide, by decide, by decide, by decide⟩, by decide, by decide⟩
theorem Ag.none {S : GS} {R : RS} {k : Nat} (h : Ag S R k) : Ag S R (k + 1) := ⟨h.1, h.2.1.mono (by omega), by have := h.2.2.1; omega, by have := h.2.2.2; omega⟩
theorem Ag.put {S : GS} {R : RS} {k : Nat} (h : Ag S R k) {l : List Int} (hl : l.length ≤ 40) : Ag (S.put l) (R.puts l) (k + 1) :=
  ⟨(same_puts l h.1).1, (h.2.1.put l).mono (by omega), by have := tab_put l S; have := h.2.2.1; omega, by have := size_puts l R; have := h.2.2.2; omega⟩
theorem Ag.again {S : GS} {R : RS} {k : Nat} (h : Ag S R k) (x : Int) : Ag (S.again x) (R.again x) (k + 1) :=
  ⟨same_again h.1 x, (Small_again h.2.1 x).mono (by omega), by have := tab_again S x; have := h.2.2.1; omega, by have := size_again R x; have := h.2.2.2; omega⟩
theorem Ag.paint {S : GS} {R : RS} {k : Nat} (h : Ag S R k) (x : Int) : Ag (S.paint x) (R.paint x) (k + 1) :=
  ⟨same_paint h.1 x, (Small_paint h.2.1 x).mono (by omega), by have := tab_paint S x; have := h.2.2.1; omega, by have := size_paint R x; have := h.2.2.2; omega⟩
theorem Ag.next {S : GS} {R : RS} {k : Nat} (h : Ag S R k) : Ag S.next.2 R.next.2 (k + 1) :=
  ⟨(same_next h.1).1, (Small_next h.2.1).mono (by omega), by have := tab_next S; have := h.2.2.1; omega, by have := size_next R; have := h.2.2.2; omega⟩
/-- In the midst of a Put. -/
theorem Ag.part {S : GS} {R : RS} {k : Nat} (h : Ag S R k) (l : List Int) (hl : l.length ≤ 40) (hk : k ≤ 80) : (R.puts l).wl.length + (R.puts l).bl.length ≤ 900000 := by
  have := size_puts l R; have := h.2.2.2; unfold RS.size at *; omega
/-- What is asked in the end. -/
def askL (x : Int) (L : List (Int × List Int)) : List Int := x :: L.flatMap fun p => p.1 :: p.2
theorem askL_snoc (x : Int) (L : List (Int × List Int)) (p : Int × List Int) : askL x (L ++ [p]) = askL x L ++ [p.1] ++ p.2 := by simp [askL]
end Go.Tr
