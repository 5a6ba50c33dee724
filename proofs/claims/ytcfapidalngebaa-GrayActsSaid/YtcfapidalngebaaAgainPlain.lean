/-
  turnrowlaw14.GrayAgain: the plain law.
-/
import Derived.Test.YtcfapidalngebaaGrayPlain
set_option linter.unusedSimpArgs false
set_option linter.unusedVariables false
namespace Go.Tr

/-- What k acts may have left. -/
def AgAt (S : GS) (k : Nat) : Prop := (∃ wl bl, Rep S wl bl) ∧ S.Small (41 * k)
theorem AgAt.zero : AgAt GS.new 0 := ⟨⟨_, _, Rep.new⟩, by decide, by decide, by decide, by decide, by decide⟩
theorem AgAt.none {S : GS} {k : Nat} (h : AgAt S k) : AgAt S (k + 1) := ⟨h.1, h.2.mono (by omega)⟩
theorem AgAt.put {S : GS} {k : Nat} (h : AgAt S k) {l : List Int} (hl : l.length ≤ 40) : AgAt (S.put l) (k + 1) := by
  obtain ⟨⟨wl, bl, h1⟩, h2⟩ := h
  exact ⟨⟨_, _, h1.put l⟩, (h2.put l).mono (by omega)⟩
theorem AgAt.again {S : GS} {k : Nat} (h : AgAt S k) (x : Int) : AgAt (S.again x) (k + 1) := by
  obtain ⟨⟨wl, bl, h1⟩, h2⟩ := h
  exact ⟨⟨_, _, h1.again x⟩, (Small_again h2 x).mono (by omega)⟩
theorem Rep.next_any {S : GS} {wl bl : List Int} (h : Rep S wl bl) : ∃ wl' bl', Rep S.next.2 wl' bl' := by
  cases wl with
  | nil => exact ⟨_, _, h.next_none.2⟩
  | cons x t => exact ⟨_, _, h.next_some.2⟩
theorem AgAt.next {S : GS} {k : Nat} (h : AgAt S k) : AgAt S.next.2 (k + 1) := by
  obtain ⟨⟨wl, bl, h1⟩, h2⟩ := h
  exact ⟨h1.next_any, (Small_next h2).mono (by omega)⟩
theorem Rep.paint_any {S : GS} {wl bl : List Int} (h : Rep S wl bl) (x : Int) : ∃ wl' bl', Rep (S.paint x) wl' bl' ∧ x ∈ bl' := by
  by_cases hx : x ∈ bl
  · rw [h.paint_old hx]; exact ⟨wl, bl, h, hx⟩
  · exact ⟨_, _, h.paint hx, by simp⟩
theorem AgAt.paint {S : GS} {k : Nat} (h : AgAt S k) (x : Int) : AgAt (S.paint x) (k + 1) := by
  obtain ⟨⟨wl, bl, h1⟩, h2⟩ := h
  obtain ⟨a, b, h3, _⟩ := h1.paint_any x
  exact ⟨⟨a, b, h3⟩, (Small_paint h2 x).mono (by omega)⟩
theorem AgAt.small {S : GS} {k : Nat} (h : AgAt S k) (hk : k ≤ 80) {n : Int} (hn : n ≤ 900000) : S.Small (1000000 - n) := h.2.mono (by omega)

/-- x has been painted and put again; k have been told since, of n. -/
def AgIn (S : GS) (x : Int) (n k : Nat) : Prop := ∃ wl bl, Rep S (wl ++ [x]) bl ∧ wl.length + k = n ∧ x ∉ wl ∧ S.Small (4000 + k)
theorem AgAt.painted {S : GS} {k : Nat} (h : AgAt S k) (hk : k ≤ 80) (x : Int) : ∃ n : Nat, n ≤ 4000 ∧ (S.paint x).wait = n ∧ (S.paint x).color x = 2 ∧ ((S.paint x).again x).color x = 1 ∧ ((S.paint x).again x).wait = n + 1 ∧ AgIn ((S.paint x).again x) x n 0 ∧
    (S.paint x).Small 1000000 ∧ ((S.paint x).again x).Small 1000000 := by
  have hp := h.paint x
  have hs : (S.paint x).Small (41 * (81 : Nat)) := hp.2.mono (by omega)
  obtain ⟨⟨wl, bl, h1⟩, h2⟩ := h
  obtain ⟨a, b, h3, h4⟩ := h1.paint_any x
  have h5 := h3.again x
  rw [if_pos h4, if_pos h4] at h5
  have hs2 := Small_again hs x
  refine ⟨a.length, ?_, h3.cnt, (h3.black x).2 h4, (h5.gray_iff x).2 (by simp), ?_, ⟨a, _, h5, rfl, fun ha => h3.apart ha h4, hs2.mono (by omega)⟩, hs.mono (by omega), hs2.mono (by omega)⟩
  · have := hs.2.2.2.1; rw [h3.cnt] at this; omega
  · have := h5.cnt; simpa using this
theorem again_gray {S : GS} {x : Int} (h : S.color x = 1) : S.again x = S := by unfold GS.again; rw [if_neg (by omega)]
theorem AgIn.step {S : GS} {x : Int} {n k : Nat} (h : AgIn S x n k) (hk : k < n) : ∃ y, S.next.1 = some y ∧ y ≠ x ∧ AgIn S.next.2 x n (k + 1) := by
  obtain ⟨wl, bl, h1, h2, h3, h4⟩ := h
  cases wl with
  | nil => simp at h2; omega
  | cons y t =>
    obtain ⟨e1, e2⟩ := Rep.next_some (x := y) (t := t ++ [x]) h1
    exact ⟨y, e1, fun e => h3 (by simp [e]), t, _, e2, by simp at h2; omega, fun hx => h3 (List.mem_cons_of_mem _ hx), (Small_next h4).mono (by omega)⟩
theorem AgIn.last {S : GS} {x : Int} {n : Nat} (h : AgIn S x n n) : S.next.1 = some x ∧ S.next.2.wait = 0 ∧ S.next.2.color x = 2 := by
  obtain ⟨wl, bl, h1, h2, h3, h4⟩ := h
  have : wl = [] := List.eq_nil_of_length_eq_zero (by omega)
  subst this
  obtain ⟨e1, e2⟩ := Rep.next_some (x := x) (t := []) h1
  exact ⟨e1, e2.cnt, (e2.black x).2 (by simp)⟩
theorem AgIn.small {S : GS} {x : Int} {n k : Nat} (h : AgIn S x n k) (hn : n ≤ 4000) : S.Small 1000000 := by
  obtain ⟨wl, bl, h1, h2, h3, h4⟩ := h
  exact h4.mono (by omega)
end Go.Tr
