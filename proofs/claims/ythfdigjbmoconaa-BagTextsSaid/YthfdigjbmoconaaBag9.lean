/-
  Bags and the document's bag beside each other.
-/
import Derived.Test.YthfdigjbmoconaaBag8
import Derived.Test.YthfdigjbmoconaaRef08C
set_option linter.unusedSimpArgs false
set_option linter.unusedVariables false
namespace Go.Proofs.Ythfdigjbmoconaa
open Go.RowKit Go.Tr
variable {w w' w0 : World} {g g2 m : Nat} {F G Y : Nat → Prop} {zs zo zm : List Int} {l : List (Nat × List Int)}
/-- Since w0: these bags, and at m the document's with zm. -/
def BL (w0 w : World) (l : List (Nat × List Int)) (m : Nat) (zm : List Int) : Prop := ∃ Y, BagsY w0 w l Y ∧ LstP 53 w m Y zm
theorem BL.bags (h : BL w0 w l m zm) : Bags w0 w l := by obtain ⟨Y, h, _⟩ := h; exact h.bags
theorem BL.below (h : BL w0 w l m zm) : Below w0.heap.size w0 w := h.bags.below
theorem BL.read (h : BL w0 w l m zm) (hb : Below w.heap.size w w') : BL w0 w' l m zm := by obtain ⟨Y, h1, h2⟩ := h; exact ⟨Y, h1.read hb, h2.below hb⟩
theorem lstP_keptY {T : TypeId} (h : LstP T w m F zs) (hk : ∀ k, F k → w'.heap[k]? = w.heap[k]?) : LstP T w' m F zs := by
  obtain ⟨v, h⟩ := h
  exact ⟨v, h.kept (hk _ h.own) (fun k hk' => hk _ (h.fv k hk').1)⟩
theorem BagsY.ref {w' : World} (h : BagsY w0 w l Y) (hll : l.length ≤ 1000) (ho : Only Y w w') : BagsY w0 w' l (grow Y w w') := by
  obtain ⟨Fs, ⟨h1, h2, h3, h4⟩, rfl⟩ := h
  have hs : ∀ k, Fs 1000 k → w0.heap.size ≤ k := fun k hk => (h2 1000 k hk).1
  refine ⟨fun j => if j = 1000 then grow (Fs 1000) w w' else Fs j, ⟨fun j p hp => ?_, fun j k hk => ?_, fun j j' k hne hk hk' => ?_, h4.trans (ho.below h4.size hs)⟩, by simp⟩
  · have hj := (List.getElem?_eq_some_iff.1 hp).1
    simp only [if_neg (show ¬ j = 1000 by omega)]
    exact (h1 j p hp).only ho (fun k hk hk' => h3 j 1000 k (by omega) hk hk')
  · by_cases e : j = 1000
    · simp only [if_pos e] at hk
      rcases hk with hk | hk
      · exact ⟨hs k hk, Nat.lt_of_lt_of_le (h2 1000 k hk).2 ho.size⟩
      · exact ⟨Nat.le_trans h4.size hk.1, hk.2⟩
    · simp only [if_neg e] at hk
      exact ⟨(h2 j k hk).1, Nat.lt_of_lt_of_le (h2 j k hk).2 ho.size⟩
  · by_cases e : j = 1000
    · simp only [if_pos e] at hk
      simp only [if_neg (fun e' : j' = 1000 => hne (e.trans e'.symm))] at hk'
      rcases hk with hk | hk
      · exact h3 1000 j' k (fun e' => hne (e.trans e')) hk hk'
      · have := (h2 j' k hk').2; omega
    · simp only [if_neg e] at hk
      by_cases e' : j' = 1000
      · simp only [if_pos e'] at hk'
        rcases hk' with hk' | hk'
        · exact h3 j 1000 k e hk hk'
        · have := (h2 j k hk).2; omega
      · simp only [if_neg e'] at hk'
        exact h3 j j' k hne hk hk'
theorem BagsY.drop {p : Nat × List Int} (h : BagsY w0 w (l ++ [p]) Y) : BagsY w0 w l Y := by
  obtain ⟨Fs, ⟨h1, h2, h3, h4⟩, h5⟩ := h
  exact ⟨Fs, ⟨fun i q hq => h1 i q (by rw [List.getElem?_append_left (List.getElem?_eq_some_iff.1 hq).1]; exact hq), h2, h3, h4⟩, h5⟩
theorem BL.drop {p : Nat × List Int} (h : BL w0 w (l ++ [p]) m zm) : BL w0 w l m zm := by obtain ⟨Y, h1, h2⟩ := h; exact ⟨Y, h1.drop, h2⟩
theorem newL (a : Option Addr) (n c : Nat) (zs : List Int) (w : World) (h : SeqAt w a (ints zs)) (hl : zs.length = n) (hs : n ≤ 900000) (hB : BL w0 w l m zm) (hll : l.length < 1000) :
    Calls Try.prog 9 #[.slice a n c] w fun e w' => ∃ g, e = .returned (.pointer (some ⟨g, 0, none⟩)) ∧ BL w0 w' (l ++ [(g, setL zs)]) m zm ∧ Below w.heap.size w w' := by
  refine (bnew_any a n c zs w h hl (by omega)).mono ?_
  rintro e w' ⟨g, v, rfl, hb, hbl⟩
  obtain ⟨Y, ⟨Fs, ⟨h1, h2, h3, h4⟩, rfl⟩, hlst⟩ := hB
  refine ⟨g, rfl, ⟨Fs 1000, ⟨fun j => if j = l.length then (fun k => w.heap.size ≤ k ∧ k < w'.heap.size) else Fs j, ⟨fun j p hp => ?_, fun j k hk => ?_, fun j j' k hne hk hk' => ?_, h4.trans (hbl.mono h4.size)⟩, by simp only [if_neg (show ¬ 1000 = l.length by omega)]⟩, hlst.below hbl⟩, hbl⟩
  · have hlt := (List.getElem?_eq_some_iff.1 hp).1
    simp at hlt
    by_cases e : j = l.length
    · subst e
      rw [List.getElem?_append_right (Nat.le_refl _)] at hp
      simp at hp
      subst hp
      simp only [if_true]
      exact ⟨v, ⟨hb.block, ownsRow_mono hb.own (Nat.zero_le _), hb.ne, Nat.zero_le _, hb.rises⟩, ⟨hb.newg, hb.lt⟩, fun k hk => hb.own.lt k hk⟩
    · simp only [if_neg e]
      rw [List.getElem?_append_left (by omega)] at hp
      exact (h1 j p hp).below hbl
  · by_cases e : j = l.length
    · simp only [if_pos e] at hk
      exact ⟨Nat.le_trans h4.size hk.1, hk.2⟩
    · simp only [if_neg e] at hk
      exact ⟨(h2 j k hk).1, Nat.lt_of_lt_of_le (h2 j k hk).2 hbl.size⟩
  · by_cases e : j = l.length
    · simp only [if_pos e] at hk
      simp only [if_neg (fun e' : j' = l.length => hne (e.trans e'.symm))] at hk'
      have := (h2 j' k hk').2; omega
    · simp only [if_neg e] at hk
      by_cases e' : j' = l.length
      · simp only [if_pos e'] at hk'
        have := (h2 j k hk).2; omega
      · simp only [if_neg e'] at hk'
        exact h3 j j' k hne hk hk'
theorem BL.write {Fs : Nat → Nat → Prop} {i : Nat} {zs' : List Int} (h : BagsF Fs w0 w l) (hi : i ≠ 1000) (hl : LstP 53 w m (Fs 1000) zm) (k1 : Bag w' g (grow (Fs i) w w') zs') (k2 : Only (Fs i) w w') : BL w0 w' (l.set i (g, zs')) m zm := by
  obtain ⟨a, b⟩ := BagsY.write h hi k1 k2
  exact ⟨_, a, lstP_keptY hl b⟩
theorem putLB (i : Nat) (x : Int) (w : World) (h : BL w0 w l m zm) (hi : l[i]? = some (g, zs)) (hl : zs.length ≤ 900000) (hne : i ≠ 1000) : Calls Try.prog 19 #[.pointer (some ⟨g, 0, none⟩), .int .i64 x] w fun e w' => e = .returned (.bool (!hasL zs x)) ∧ BL w0 w' (l.set i (g, putL zs x)) m zm := by
  obtain ⟨Y, ⟨Fs, h, rfl⟩, hlst⟩ := h
  exact (bputF_any x w (h.1 i _ hi) hl).mono fun e w' ⟨e1, e2, e3⟩ => ⟨e1, BL.write h hne hlst e2 e3⟩
theorem delLB (i : Nat) (x : Int) (w : World) (h : BL w0 w l m zm) (hi : l[i]? = some (g, zs)) (hl : zs.length ≤ 900000) (hne : i ≠ 1000) : Calls Try.prog 13 #[.pointer (some ⟨g, 0, none⟩), .int .i64 x] w fun e w' => e = .returned (.bool (hasL zs x)) ∧ BL w0 w' (l.set i (g, outL zs x)) m zm := by
  obtain ⟨Y, ⟨Fs, h, rfl⟩, hlst⟩ := h
  exact (bdelF_any x w (h.1 i _ hi) (show zs.length ≤ 1000000 by omega)).mono fun e w' ⟨e1, e2, e3⟩ => ⟨e1, BL.write h hne hlst e2 e3⟩
theorem joinLB (i j : Nat) (w : World) (h : BL w0 w l m zm) (hi : l[i]? = some (g, zs)) (hj : l[j]? = some (g2, zo)) (hl : zs.length ≤ 400000) (hl2 : zo.length ≤ 400000) (hne : i ≠ 1000) : Calls Try.prog 16 #[.pointer (some ⟨g, 0, none⟩), .pointer (some ⟨g2, 0, none⟩)] w fun e w' => e = .returned (.tuple #[]) ∧ BL w0 w' (l.set i (g, setL (zs ++ zo))) m zm := by
  obtain ⟨Y, ⟨Fs, h, rfl⟩, hlst⟩ := h
  obtain ⟨vo, hb, _⟩ := h.1 j _ hj
  exact (bjoinF_any w (h.1 i _ hi) hb (show zs.length ≤ 400000 from hl) hl2).mono fun e w' ⟨e1, e2, e3⟩ => ⟨e1, BL.write h hne hlst e2 e3⟩
theorem lessLB (i j : Nat) (w : World) (h : BL w0 w l m zm) (hi : l[i]? = some (g, zs)) (hj : l[j]? = some (g2, zo)) (hl : zs.length ≤ 1000000) (hl2 : zo.length ≤ 1000000) (hne : i ≠ 1000) : Calls Try.prog 17 #[.pointer (some ⟨g, 0, none⟩), .pointer (some ⟨g2, 0, none⟩)] w fun e w' => e = .returned (.tuple #[]) ∧ BL w0 w' (l.set i (g, lessL zs zo)) m zm := by
  obtain ⟨Y, ⟨Fs, h, rfl⟩, hlst⟩ := h
  obtain ⟨vo, hb, _⟩ := h.1 j _ hj
  exact (blessF_any w (h.1 i _ hi) hb (show zs.length ≤ 1000000 from hl) hl2).mono fun e w' ⟨e1, e2, e3⟩ => ⟨e1, BL.write h hne hlst e2 e3⟩
theorem mputL (x : Int) (w : World) (h : BL w0 w l m zm) (hll : l.length ≤ 1000) (hs : zm.length ≤ 900000) : Calls Try.prog 29 #[.pointer (some ⟨m, 0, none⟩), .int .i64 x] w fun e w' => e = .returned (.bool (!hasL zm x)) ∧ BL w0 w' l m (addL zm x) := by
  obtain ⟨Y, h1, h2⟩ := h
  exact (mput_any x w h2 hs).mono fun e w' ⟨e1, e2, e3⟩ => ⟨e1, _, h1.ref hll e3, e2⟩
theorem mdelL (x : Int) (w : World) (h : BL w0 w l m zm) (hll : l.length ≤ 1000) (hs : zm.length ≤ 900000) : Calls Try.prog 30 #[.pointer (some ⟨m, 0, none⟩), .int .i64 x] w fun e w' => e = .returned (.bool (hasL zm x)) ∧ BL w0 w' l m (outL zm x) := by
  obtain ⟨Y, h1, h2⟩ := h
  exact (mdel_any x w h2 hs).mono fun e w' ⟨e1, e2, e3⟩ => ⟨e1, _, h1.ref hll e3, e2⟩
end Go.Proofs.Ythfdigjbmoconaa
