/-
  Package gray: what waits and what is done, as two lists. No program in sight.
-/
import Derived.Test.YtcfapidalngebaaGrayDef
set_option linter.unusedSimpArgs false
set_option linter.unusedVariables false
namespace Go.Tr

/-- Those of q that wait yet, by their turns. -/
def lv (S : GS) (q : List (Int × Int)) : List Int := (q.filter fun p => decide (S.at p.1 = (1, p.2))).map (·.1)

/-- S is where wl waits, in this order, and bl is done. -/
structure Rep (S : GS) (wl bl : List Int) : Prop where
  turn : ∀ p ∈ S.q, p.2 ≤ S.last
  once : S.q.Pairwise (fun p p' => p.2 ≠ p'.2)
  gray : ∀ x n, S.at x = (1, n) → (x, n) ∈ S.q
  live : lv S S.q = wl
  cnt : S.wait = wl.length
  black : ∀ y, S.color y = 2 ↔ y ∈ bl
  three : ∀ y, S.color y = 0 ∨ S.color y = 1 ∨ S.color y = 2

theorem mem_lv {S : GS} {q : List (Int × Int)} {y : Int} : y ∈ lv S q ↔ ∃ n, (y, n) ∈ q ∧ S.at y = (1, n) := by
  unfold lv
  simp only [List.mem_map, List.mem_filter, decide_eq_true_eq]
  constructor
  · rintro ⟨⟨a, n⟩, ⟨h1, h2⟩, rfl⟩; exact ⟨n, h1, h2⟩
  · rintro ⟨n, h1, h2⟩; exact ⟨(y, n), ⟨h1, h2⟩, rfl⟩
theorem Rep.gray_iff {S : GS} {wl bl : List Int} (h : Rep S wl bl) (y : Int) : S.color y = 1 ↔ y ∈ wl := by
  rw [← h.live, mem_lv]
  constructor
  · intro hc
    have : S.at y = (1, (S.at y).2) := by rw [← hc]; rfl
    exact ⟨_, h.gray y _ this, this⟩
  · rintro ⟨n, _, h2⟩; unfold GS.color; rw [h2]
theorem Rep.white_iff {S : GS} {wl bl : List Int} (h : Rep S wl bl) (y : Int) : S.color y = 0 ↔ y ∉ wl ∧ y ∉ bl := by
  rw [← h.gray_iff, ← h.black]
  rcases h.three y with h' | h' | h' <;> simp [h']
theorem lv_nodup {S : GS} {q : List (Int × Int)} (h : q.Pairwise (fun p p' => p.2 ≠ p'.2)) : (lv S q).Nodup := by
  unfold lv List.Nodup
  rw [List.pairwise_map]
  refine (h.filter _).imp_of_mem ?_
  intro p p' hp hp' hne e
  simp only [List.mem_filter, decide_eq_true_eq] at hp hp'
  have h1 := hp.2
  rw [e, hp'.2] at h1
  exact hne (by simpa using congrArg Prod.snd h1.symm)
theorem Rep.nodup {S : GS} {wl bl : List Int} (h : Rep S wl bl) : wl.Nodup := by rw [← h.live]; exact lv_nodup h.once
theorem Rep.apart {S : GS} {wl bl : List Int} (h : Rep S wl bl) {y : Int} (h1 : y ∈ wl) (h2 : y ∈ bl) : False := by
  have a := (h.gray_iff y).2 h1
  have b := (h.black y).2 h2
  omega
theorem Rep.mono {S : GS} {wl bl bl' : List Int} (h : Rep S wl bl) (hb : ∀ y, y ∈ bl ↔ y ∈ bl') : Rep S wl bl' := ⟨h.turn, h.once, h.gray, h.live, h.cnt, fun y => (h.black y).trans (hb y), h.three⟩
theorem Rep.new : Rep GS.new [] [] := by
  refine ⟨by simp [GS.new], by simp [GS.new], ?_, rfl, rfl, ?_, ?_⟩ <;> simp [GS.at, GS.new, lookA, GS.color]

theorem at_put (tab : List (Int × (Int × Int))) (q : List (Int × Int)) (l w : Int) (x y : Int) (v : Int × Int) : (GS.mk (putA tab x v) q l w).at y = if y = x then v else (lookA tab y).getD (0, 0) := by
  unfold GS.at
  by_cases h : y = x
  · subst h; rw [if_pos rfl, lookA_put_same]; rfl
  · rw [if_neg h, lookA_put_other _ _ h]
theorem at_enter (S : GS) (x y : Int) : (S.enter x).at y = if y = x then (1, S.last + 1) else S.at y := at_put _ _ _ _ _ _ _
theorem color_enter (S : GS) (x y : Int) : (S.enter x).color y = if y = x then 1 else S.color y := by unfold GS.color; rw [at_enter]; split <;> rfl
theorem at_paint {S : GS} {x : Int} (h : S.color x ≠ 2) (y : Int) : (S.paint x).at y = if y = x then (2, 0) else S.at y := by
  unfold GS.paint; rw [if_neg h]; exact at_put _ _ _ _ _ _ _
theorem color_paint {S : GS} {x : Int} (h : S.color x ≠ 2) (y : Int) : (S.paint x).color y = if y = x then 2 else S.color y := by unfold GS.color; rw [at_paint h]; split <;> rfl

theorem lv_append (S : GS) (q q' : List (Int × Int)) : lv S (q ++ q') = lv S q ++ lv S q' := by simp [lv]
theorem lv_congr {S S' : GS} {q : List (Int × Int)} (h : ∀ p ∈ q, S.at p.1 = (1, p.2) ↔ S'.at p.1 = (1, p.2)) : lv S q = lv S' q := by
  unfold lv
  congr 1
  exact List.filter_congr (fun p hp => by simp only [decide_eq_decide]; exact h p hp)

theorem Rep.enter {S : GS} {wl bl : List Int} (h : Rep S wl bl) {x : Int} (hx : x ∉ wl) : Rep (S.enter x) (wl ++ [x]) (bl.filter (· != x)) := by
  have hc : S.color x ≠ 1 := fun e => hx ((h.gray_iff x).1 e)
  refine ⟨?_, ?_, ?_, ?_, ?_, ?_, ?_⟩
  · intro p hp
    rcases List.mem_append.1 hp with hp | hp
    · have := h.turn p hp; show p.2 ≤ S.last + 1; omega
    · simp at hp; subst hp; exact Int.le_refl _
  · show (S.q ++ [(x, S.last + 1)]).Pairwise _
    rw [List.pairwise_append]
    refine ⟨h.once, by simp, fun p hp p' hp' e => ?_⟩
    simp at hp'; subst hp'
    have := h.turn p hp
    simp at e; omega
  · intro y n hy
    rw [at_enter] at hy
    show (y, n) ∈ S.q ++ [(x, S.last + 1)]
    split at hy
    · rename_i e; subst e; cases hy; simp
    · exact List.mem_append_left _ (h.gray y n hy)
  · show lv (S.enter x) (S.q ++ [(x, S.last + 1)]) = wl ++ [x]
    rw [lv_append]
    congr 1
    · rw [← h.live]
      refine lv_congr (fun p hp => ?_)
      rw [at_enter]
      split
      · rename_i e
        have := h.turn p hp
        constructor
        · intro e2; have := congrArg Prod.snd e2; simp at this; omega
        · intro e2; exfalso; apply hc; rw [← e]; unfold GS.color; rw [e2]
      · exact Iff.rfl
    · simp [lv, at_enter]
  · show S.wait + 1 = _
    rw [h.cnt]; simp
  · intro y
    rw [color_enter]
    split
    · rename_i e; subst e; simp
    · rename_i e; rw [h.black]; simp [e]
  · intro y
    rw [color_enter]
    split
    · simp
    · exact h.three y
theorem Rep.put1 {S : GS} {wl bl : List Int} (h : Rep S wl bl) (x : Int) : Rep (S.put1 x) (if x ∈ wl ∨ x ∈ bl then wl else wl ++ [x]) bl := by
  unfold GS.put1
  by_cases hc : S.color x = 0
  · obtain ⟨h1, h2⟩ := (h.white_iff x).1 hc
    rw [if_pos hc, if_neg (by simp [h1, h2])]
    exact (h.enter h1).mono (fun y => by simp; exact fun hy e => h2 (e ▸ hy))
  · rw [if_neg hc, if_pos (by rw [h.white_iff] at hc; by_cases h1 : x ∈ wl <;> simp_all)]
    exact h
theorem Rep.again {S : GS} {wl bl : List Int} (h : Rep S wl bl) (x : Int) : Rep (S.again x) (if x ∈ bl then wl ++ [x] else wl) (if x ∈ bl then bl.filter (· != x) else bl) := by
  unfold GS.again
  by_cases hb : x ∈ bl
  · rw [if_pos ((h.black x).2 hb), if_pos hb, if_pos hb]
    exact h.enter (fun hw => h.apart hw hb)
  · rw [if_neg (fun e => hb ((h.black x).1 e)), if_neg hb, if_neg hb]
    exact h
theorem filter_ne_length {l : List Int} (h : l.Nodup) {x : Int} (hx : x ∈ l) : ((l.filter (· != x)).length : Int) = l.length - 1 := by
  rw [← h.erase_eq_filter, List.length_erase_of_mem hx]
  have := List.length_pos_of_mem hx
  omega
theorem lv_paint {S : GS} {x : Int} (h : S.color x ≠ 2) (q : List (Int × Int)) : lv (S.paint x) q = (lv S q).filter (· != x) := by
  unfold lv
  rw [List.filter_map, List.filter_filter]
  congr 1
  refine List.filter_congr (fun p hp => ?_)
  rw [at_paint h]
  by_cases e : p.1 = x <;> simp [e, Function.comp_def]
theorem Rep.paint {S : GS} {wl bl : List Int} (h : Rep S wl bl) {x : Int} (hx : x ∉ bl) : Rep (S.paint x) (wl.filter (· != x)) (bl ++ [x]) := by
  have hc : S.color x ≠ 2 := fun e => hx ((h.black x).1 e)
  have hq : (S.paint x).q = S.q := by unfold GS.paint; rw [if_neg hc]
  have hl : (S.paint x).last = S.last := by unfold GS.paint; rw [if_neg hc]
  refine ⟨by rw [hq, hl]; exact h.turn, by rw [hq]; exact h.once, ?_, ?_, ?_, ?_, ?_⟩
  · intro y n hy
    rw [at_paint hc] at hy
    rw [hq]
    split at hy
    · cases hy
    · exact h.gray y n hy
  · rw [hq, lv_paint hc, h.live]
  · have hw : (S.paint x).wait = if S.color x = 1 then S.wait - 1 else S.wait := by unfold GS.paint; rw [if_neg hc]
    rw [hw, h.cnt]
    by_cases h1 : x ∈ wl
    · rw [if_pos ((h.gray_iff x).2 h1), filter_ne_length h.nodup h1]
    · rw [if_neg (fun e => h1 ((h.gray_iff x).1 e)), List.filter_eq_self.2 (fun y hy => by simp; exact fun e => h1 (e ▸ hy))]
  · intro y
    rw [color_paint hc]
    split
    · rename_i e; simp [e]
    · rename_i e; rw [h.black]; simp [e]
  · intro y
    rw [color_paint hc]
    split
    · simp
    · exact h.three y
theorem Rep.paint_old {S : GS} {wl bl : List Int} (h : Rep S wl bl) {x : Int} (hx : x ∈ bl) : S.paint x = S := by unfold GS.paint; rw [if_pos ((h.black x).2 hx)]

theorem nextQ_none {S : GS} : ∀ {q : List (Int × Int)}, lv S q = [] → nextQ S q = (none, { S with q := [] })
  | [], _ => rfl
  | (x, n) :: r, h => by
    have hn : S.at x ≠ (1, n) := fun e => by simp [lv, e] at h
    rw [nextQ, if_neg hn]
    exact nextQ_none (by simpa [lv, hn] using h)
theorem nextQ_some {S : GS} {x : Int} {t : List Int} : ∀ {q : List (Int × Int)}, lv S q = x :: t → ∃ n r p, nextQ S q = (some x, ({ S with q := r } : GS).paint x) ∧ S.at x = (1, n) ∧ lv S r = t ∧ q = p ++ (x, n) :: r ∧ lv S p = []
  | [], h => by simp [lv] at h
  | (y, n) :: r, h => by
    by_cases hn : S.at y = (1, n)
    · have h2 : y = x ∧ lv S r = t := by simpa [lv, hn] using h
      obtain ⟨rfl, h2⟩ := h2
      exact ⟨n, r, [], by rw [nextQ, if_pos hn], hn, h2, rfl, rfl⟩
    · obtain ⟨m, r', p, h1, h2, h3, h4, h5⟩ := nextQ_some (q := r) (by simpa [lv, hn] using h)
      refine ⟨m, r', (y, n) :: p, by rw [nextQ, if_neg hn, h1], h2, h3, by rw [h4]; rfl, by simpa [lv, hn] using h5⟩
theorem Rep.next_none {S : GS} {bl : List Int} (h : Rep S [] bl) : S.next.1 = none ∧ Rep S.next.2 [] bl := by
  have he : S.next = (none, { S with q := [] }) := nextQ_none h.live
  rw [he]
  refine ⟨rfl, ⟨by simp, by simp, ?_, by simp [lv], h.cnt, h.black, h.three⟩⟩
  intro x n hx
  have : S.color x = 1 := by have : S.at x = (1, n) := hx; unfold GS.color; rw [this]
  rw [h.gray_iff] at this
  cases this
theorem Rep.next_some {S : GS} {x : Int} {t bl : List Int} (h : Rep S (x :: t) bl) : S.next.1 = some x ∧ Rep S.next.2 t (bl ++ [x]) := by
  obtain ⟨n, r, p, h1, h2, h3, h4, h5⟩ := nextQ_some h.live
  have he : S.next = (some x, ({ S with q := r } : GS).paint x) := h1
  have hnd := h.nodup
  have hc1 : S.color x = 1 := by unfold GS.color; rw [h2]
  rw [he]
  refine ⟨rfl, ?_⟩
  have hc : ({ S with q := r } : GS).color x ≠ 2 := by show S.color x ≠ 2; omega
  have hp : (({ S with q := r } : GS).paint x) = { S with q := r, tab := putA S.tab x (2, 0), wait := S.wait - 1 } := by
    have : ({ S with q := r } : GS).color x = 1 := hc1
    unfold GS.paint; rw [if_neg hc, if_pos this]
  have hat : ∀ y, (({ S with q := r } : GS).paint x).at y = if y = x then (2, 0) else S.at y := fun y => at_paint hc y
  have hco : ∀ y, (({ S with q := r } : GS).paint x).color y = if y = x then 2 else S.color y := fun y => color_paint hc y
  have hxt : x ∉ t := (List.nodup_cons.1 hnd).1
  refine ⟨?_, ?_, ?_, ?_, ?_, ?_, ?_⟩
  · rw [hp]; intro p' hp'; exact h.turn p' (by rw [h4]; simp; exact Or.inr (Or.inr hp'))
  · rw [hp]
    have := h.once
    rw [h4, List.pairwise_append] at this
    exact (List.pairwise_cons.1 this.2.1).2
  · intro y m hy
    rw [hat] at hy
    rw [hp]
    split at hy
    · cases hy
    · rename_i hne
      have h6 := h.gray y m hy
      rw [h4] at h6
      rcases List.mem_append.1 h6 with h6 | h6
      · have : y ∈ lv S p := mem_lv.2 ⟨m, h6, hy⟩
        rw [h5] at this; cases this
      · rcases List.mem_cons.1 h6 with h6 | h6
        · cases h6; exact absurd rfl hne
        · exact h6
  · rw [show (({ S with q := r } : GS).paint x).q = r by rw [hp], lv_paint hc]
    show (lv S r).filter _ = t
    rw [h3]
    exact List.filter_eq_self.2 (fun y hy => by simp; exact fun e => hxt (e ▸ hy))
  · rw [hp]
    have := h.cnt
    simp at this ⊢
    omega
  · intro y
    rw [hco]
    split
    · rename_i e; simp [e]
    · rename_i e; rw [h.black]; simp [e]
  · intro y
    rw [hco]
    split
    · simp
    · exact h.three y
theorem Small_paint {S : GS} {N : Int} (h : S.Small N) (x : Int) : (S.paint x).Small (N + 1) := by
  obtain ⟨h1, h2, h3, h4, h5⟩ := h
  unfold GS.paint
  split
  · exact ⟨h1, by omega, by omega, by omega, by omega⟩
  · refine ⟨h1, ?_, ?_, ?_, ?_⟩ <;> simp only [] <;> (try split) <;> omega
theorem Small_next {S : GS} {N : Int} (h : S.Small N) : S.next.2.Small (N + 1) := by
  have : ∀ q : List (Int × Int), (q.length : Int) ≤ N → (nextQ S q).2.Small (N + 1) := by
    intro q
    induction q with
    | nil => intro _; obtain ⟨h1, h2, h3, h4, h5⟩ := h; exact ⟨h1, by show S.last ≤ _; omega, by show _ ≤ S.wait; omega, by show S.wait ≤ _; omega, by show ((0 : Nat) : Int) ≤ N + 1; omega⟩
    | cons p r ih =>
      obtain ⟨x, n⟩ := p
      intro hq
      simp at hq
      rw [nextQ]
      split
      · exact Small_paint (S := { S with q := r }) ⟨h.1, h.2.1, h.2.2.1, h.2.2.2.1, by show (r.length : Int) ≤ N; omega⟩ x
      · exact ih (by omega)
  exact this S.q h.2.2.2.2
theorem Small_again {S : GS} {N : Int} (h : S.Small N) (x : Int) : (S.again x).Small (N + 1) := by
  unfold GS.again; split
  · exact h.enter x
  · exact h.mono (by omega)
/-- All that is put. -/
def putW (bl : List Int) (wl : List Int) (xs : List Int) : List Int := xs.foldl (fun l x => if x ∈ l ∨ x ∈ bl then l else l ++ [x]) wl
theorem Rep.put : ∀ (xs : List Int) {S : GS} {wl bl : List Int}, Rep S wl bl → Rep (S.put xs) (putW bl wl xs) bl
  | [], _, _, _, h => h
  | x :: r, S, wl, bl, h => by
    have := Rep.put r (h.put1 x)
    simpa [GS.put, putW] using this
theorem putN_length : ∀ (xs : List Int) {S : GS} {wl bl : List Int}, Rep S wl bl → S.putN xs = (putW bl wl xs).length - wl.length
  | [], _, _, _, h => by simp [GS.putN, putW]
  | x :: r, S, wl, bl, h => by
    have := putN_length r (h.put1 x)
    rw [GS.putN, this]
    simp only [putW, List.foldl_cons]
    by_cases hc : S.color x = 0
    · obtain ⟨h1, h2⟩ := (h.white_iff x).1 hc
      rw [if_pos hc, if_neg (by simp [h1, h2])]
      simp; omega
    · rw [if_neg hc, if_pos (by rw [h.white_iff] at hc; by_cases h1 : x ∈ wl <;> simp_all)]
      simp
end Go.Tr
