/-
  turnrowlaw14.GrayOnce: the plain law.
-/
import Derived.Test.YtcfapidalngebaaWalksPlain
set_option linter.unusedSimpArgs false
set_option linter.unusedVariables false
namespace Go.Tr

/-- A rising list is told by its members. -/
theorem rises_eq : ∀ {xs ys : List Int}, xs.Pairwise (· < ·) → ys.Pairwise (· < ·) → (∀ z, z ∈ xs ↔ z ∈ ys) → xs = ys
  | [], [], _, _, _ => rfl
  | [], y :: ys, _, _, h => by have := (h y).2 (by simp); cases this
  | x :: xs, [], _, _, h => by have := (h x).1 (by simp); cases this
  | x :: xs, y :: ys, h1, h2, h => by
    obtain ⟨a1, a2⟩ := List.pairwise_cons.1 h1
    obtain ⟨b1, b2⟩ := List.pairwise_cons.1 h2
    have e : x = y := by
      rcases List.mem_cons.1 ((h x).1 (by simp)) with e | e
      · exact e
      · rcases List.mem_cons.1 ((h y).2 (by simp)) with e2 | e2
        · exact e2.symm
        · have := a1 y e2; have := b1 x e; omega
    subst e
    congr 1
    refine rises_eq a2 b2 (fun z => ⟨fun hz => ?_, fun hz => ?_⟩)
    · rcases List.mem_cons.1 ((h z).1 (List.mem_cons_of_mem _ hz)) with e | e
      · have := a1 z hz; omega
      · exact e
    · rcases List.mem_cons.1 ((h z).2 (List.mem_cons_of_mem _ hz)) with e | e
      · have := b1 z hz; omega
      · exact e

/-- Those of L, each once, that aren't of P. -/
def wantL (L P : List Int) : List Int := (addAll [] L).filter fun x => !hasL P x
theorem mem_wantL {L P : List Int} {x : Int} : x ∈ wantL L P ↔ x ∈ L ∧ x ∉ P := by
  unfold wantL
  rw [List.mem_filter, mem_addAll]
  simp [hasL]
theorem wantL_length (L P : List Int) : (wantL L P).length ≤ L.length := by
  have h1 := List.length_filter_le (fun x => !hasL P x) (addAll [] L)
  have h2 := addAll_length [] L
  simp at h2
  unfold wantL; omega
theorem wantL_take {L P : List Int} {k : Nat} {x : Int} (h : L[k]? = some x) : wantL (L.take (k + 1)) P = if hasL (L.take k) x = true ∨ hasL P x = true then wantL (L.take k) P else wantL (L.take k) P ++ [x] := by
  unfold wantL
  rw [take_snoc h, addAll_snoc]
  have hm : hasL (addAll [] (L.take k)) x = hasL (L.take k) x := by
    rw [Bool.eq_iff_iff, hasL_iff, hasL_iff, mem_addAll]; simp
  by_cases h1 : hasL (L.take k) x = true
  · rw [add1_old (by rw [hm]; exact h1), if_pos (Or.inl h1)]
  · have h1' : hasL (L.take k) x = false := by simpa using h1
    rw [add1_new (by rw [hm]; exact h1'), List.filter_append]
    by_cases h2 : hasL P x = true
    · rw [if_pos (Or.inr h2)]; simp [h2]
    · rw [if_neg (by simp [h1', h2])]; simp [h2]

/-- All of L have been put, k of P painted. -/
def OnceP (S : GS) (L P : List Int) (k : Nat) : Prop := (∃ bl, Rep S (wantL L (P.take k)) bl ∧ ∀ y, y ∈ bl ↔ y ∈ P.take k) ∧ S.Small (200 + k) ∧ S.tab.length ≤ 200 + k
theorem length_putA {α : Type} (l : List (Int × α)) (x : Int) (v : α) : (putA l x v).length ≤ l.length + 1 := by unfold putA; split <;> simp
theorem tab_put1 (S : GS) (x : Int) : (S.put1 x).tab.length ≤ S.tab.length + 1 := by
  unfold GS.put1; split
  · exact length_putA _ _ _
  · omega
theorem tab_put : ∀ (xs : List Int) (S : GS), (S.put xs).tab.length ≤ S.tab.length + xs.length
  | [], S => by simp [GS.put]
  | x :: r, S => by
    have h1 := tab_put r (S.put1 x)
    have h2 := tab_put1 S x
    simp only [GS.put, List.foldl_cons, List.length_cons] at h1 ⊢
    omega
theorem tab_paint (S : GS) (x : Int) : (S.paint x).tab.length ≤ S.tab.length + 1 := by
  unfold GS.paint; split
  · omega
  · exact length_putA _ _ _
theorem tab_again (S : GS) (x : Int) : (S.again x).tab.length ≤ S.tab.length + 1 := by
  unfold GS.again; split
  · exact length_putA _ _ _
  · omega
theorem tab_next (S : GS) : S.next.2.tab.length ≤ S.tab.length + 1 := by
  have : ∀ q, (nextQ S q).2.tab.length ≤ S.tab.length + 1 := by
    intro q
    induction q with
    | nil => simp [nextQ]
    | cons p r ih =>
      obtain ⟨x, n⟩ := p
      rw [nextQ]; split
      · exact tab_paint { S with q := r } x
      · exact ih
  exact this S.q
theorem once0 (L P : List Int) (h : L.length ≤ 100) : OnceP (GS.new.put L) L P 0 := by
  have h1 := Rep.new.put L
  have h2 := addAll_putW [] L []
  simp at h2
  have h3 : GS.new.Small 0 := ⟨by decide, by decide, by decide, by decide, by decide⟩
  refine ⟨⟨[], ?_, by simp⟩, (h3.put L).mono (by omega), ?_⟩
  · rw [h2] at h1
    have : wantL L (P.take 0) = addAll [] L := by simp [wantL, hasL]
    rw [this]; exact h1
  · have := tab_put L GS.new; simp [GS.new] at this ⊢; omega
theorem OnceP.step {S : GS} {L P : List Int} {k : Nat} (h : OnceP S L P k) {x : Int} (hx : P[k]? = some x) : OnceP (S.paint x) L P (k + 1) := by
  obtain ⟨⟨bl, h1, h2⟩, h3, h4⟩ := h
  have ht := take_snoc hx
  refine ⟨?_, (Small_paint h3 x).mono (by omega), by have := tab_paint S x; omega⟩
  by_cases hb : x ∈ bl
  · have hp : x ∈ P.take k := (h2 x).1 hb
    rw [h1.paint_old hb]
    refine ⟨bl, ?_, fun y => ?_⟩
    · have : wantL L (P.take (k + 1)) = wantL L (P.take k) := by
        unfold wantL
        refine List.filter_congr (fun y _ => ?_)
        congr 1
        rw [Bool.eq_iff_iff, hasL_iff, hasL_iff, ht, List.mem_append, List.mem_singleton]
        exact ⟨fun h => h.elim id (fun e => e ▸ hp), Or.inl⟩
      rw [this]; exact h1
    · rw [h2, ht, List.mem_append, List.mem_singleton]
      exact ⟨Or.inl, fun h => h.elim id (fun e => e ▸ hp)⟩
  · refine ⟨bl ++ [x], ?_, fun y => ?_⟩
    · have := h1.paint hb
      have e : (wantL L (P.take k)).filter (· != x) = wantL L (P.take (k + 1)) := by
        unfold wantL
        rw [List.filter_filter]
        refine List.filter_congr (fun y _ => ?_)
        rw [Bool.eq_iff_iff]
        simp [hasL, ht]
        exact ⟨fun ⟨a, b⟩ => ⟨b, a⟩, fun ⟨a, b⟩ => ⟨b, a⟩⟩
      rw [← e]; exact this
    · rw [List.mem_append, h2, ht, List.mem_append]
/-- All are painted; k have been asked for. -/
def OnceN (S : GS) (L P got : List Int) (k : Nat) : Prop := ∃ wl bl, Rep S wl bl ∧ got ++ wl = wantL L P ∧ (∀ y, y ∈ bl ↔ y ∈ P ∨ y ∈ got) ∧ wl.length + k ≤ L.length ∧ S.Small (300 + 3 * k) ∧ S.tab.length ≤ 300 + 3 * k
theorem OnceP.turn {S : GS} {L P : List Int} (h : OnceP S L P P.length) (hp : P.length ≤ 50) : OnceN S L P [] 0 ∧ S.wait = (wantL L P).length := by
  obtain ⟨⟨bl, h1, h2⟩, h3, h4⟩ := h
  rw [List.take_of_length_le (Nat.le_refl _)] at h1 h2
  exact ⟨⟨_, bl, h1, rfl, fun y => by rw [h2]; simp, by have := wantL_length L P; omega, h3.mono (by omega), by omega⟩, h1.cnt⟩
theorem OnceN.none {S : GS} {L P got : List Int} {k : Nat} (h : OnceN S L P got k) (hk : k < L.length) (hn : S.next.1 = none) : OnceN S.next.2 L P got (k + 1) := by
  obtain ⟨wl, bl, h1, h2, h3, h4, h5, h6⟩ := h
  cases wl with
  | nil => exact ⟨[], bl, h1.next_none.2, h2, h3, by simp; omega, (Small_next h5).mono (by omega), by have := tab_next S; omega⟩
  | cons x t => have := h1.next_some.1; rw [hn] at this; cases this
theorem OnceN.some {S : GS} {L P got : List Int} {k : Nat} (h : OnceN S L P got k) (hL : L.length ≤ 100) {x : Int} (hn : S.next.1 = some x) :
    S.next.2.putN [x] = 0 ∧ OnceN (S.next.2.put [x]) L P (got ++ [x]) (k + 1) ∧ k < L.length ∧ S.next.2.Small (999999) := by
  obtain ⟨wl, bl, h1, h2, h3, h4, h5, h6⟩ := h
  cases wl with
  | nil => have := h1.next_none.1; rw [hn] at this; cases this
  | cons y t =>
    have hy := h1.next_some
    rw [hn] at hy
    obtain ⟨e, h7⟩ := hy
    cases e
    have hc : S.next.2.color x = 2 := (h7.black x).2 (by simp)
    have hp : S.next.2.put1 x = S.next.2 := by unfold GS.put1; rw [if_neg (by omega)]
    have hl := wantL_length L P
    rw [← h2] at hl
    have hS : (S.next.2.put [x]) = S.next.2 := by simp [GS.put, hp]
    simp at h4 hl
    refine ⟨by simp [GS.putN, hc], ?_, by omega, ?_⟩
    · rw [hS]
      exact ⟨t, _, h7, by rw [← h2]; simp, fun z => by rw [List.mem_append, List.mem_append, h3, or_assoc], by omega, (Small_next h5).mono (by omega), by have := tab_next S; omega⟩
    · exact (Small_next h5).mono (by omega)
theorem OnceN.fin {S : GS} {L P got : List Int} (h : OnceN S L P got L.length) (hL : L.length ≤ 100) : S.next.1 = Option.none ∧ S.next.2.wait = 0 ∧ got = wantL L P ∧ (∀ y, S.next.2.color y = 2 ↔ y ∈ L ++ P) ∧ S.next.2.tab.length ≤ 1000000 := by
  obtain ⟨wl, bl, h1, h2, h3, h4, h5, h6⟩ := h
  have hw : wl = [] := List.eq_nil_of_length_eq_zero (by omega)
  subst hw
  obtain ⟨e1, e2⟩ := h1.next_none
  rw [List.append_nil] at h2
  refine ⟨e1, e2.cnt, h2, fun y => ?_, by have := tab_next S; omega⟩
  rw [e2.black, h3, h2, mem_wantL, List.mem_append]
  by_cases hp : y ∈ P <;> simp [hp]
end Go.Tr
