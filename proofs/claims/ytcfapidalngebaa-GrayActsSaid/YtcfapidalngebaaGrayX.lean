/-
  Package gray: a list that a call has made for itself, beside other things of its own (X) that no function of gray turns.
-/
import Derived.Test.YtcfapidalngebaaGrayS
set_option linter.unusedSimpArgs false
set_option linter.unusedVariables false
namespace Go.Proofs.Ytcfapidalngebaa
open Go.RowKit Go.Tr

/-- Since w0 the list at g has come to hold S, in blocks that are newer than w0 and not of X. -/
def GX (w0 : World) (g : Nat) (X : Nat → Prop) (w : World) (S : GS) : Prop := ∃ F, GrayAt 68 w g F S ∧ ∀ k, F k → w0.heap.size ≤ k ∧ k < w.heap.size ∧ ¬ X k
/-- What a function of gray may turn. -/
def may (w0 : World) (X : Nat → Prop) : Nat → Prop := fun k => w0.heap.size ≤ k ∧ ¬ X k

theorem GInv.toX {w0 w : World} {g : Nat} {S : GS} (h : GInv w0 g w S) {X : Nat → Prop} (hX : ∀ k, ¬ X k) : GX w0 g X w S := ⟨_, h.1, fun k hk => hk.elim (fun hf => hf.elim) (fun h' => ⟨h'.1, h'.2, hX k⟩)⟩
theorem GX.turn {w0 w w' : World} {g : Nat} {S : GS} {X X' : Nat → Prop} (h : GX w0 g X w S) (ho : Only X w w') (hX : ∀ k, X' k → X k ∨ w.heap.size ≤ k) : GX w0 g X' w' S := by
  obtain ⟨F, h1, h2⟩ := h
  exact ⟨F, h1.only ho (fun k hk => (h2 k hk).2.2), fun k hk => ⟨(h2 k hk).1, Nat.lt_of_lt_of_le (h2 k hk).2.1 ho.size, fun hx => (hX k hx).elim (h2 k hk).2.2 (fun h' => by have := (h2 k hk).2.1; omega)⟩⟩
theorem GX.below {w0 w w' : World} {g : Nat} {S : GS} {X : Nat → Prop} (h : GX w0 g X w S) (hb : Below w.heap.size w w') : GX w0 g X w' S := h.turn (Only.of_below hb X) (fun k hk => Or.inl hk)
theorem GX.alloc {w0 w : World} {g : Nat} {S : GS} {X : Nat → Prop} (h : GX w0 g X w S) (o : Obj) : GX w0 g X (w.alloc o) S := h.below ((Below.refl _ w).alloc (Nat.le_refl _) o)
theorem GX.drawn {w0 w w' : World} {g : Nat} {S : GS} {X : Nat → Prop} (h : GX w0 g X w S) (hd : Drawn w w') : GX w0 g X w' S := h.below (hd.below _)
theorem GX.step {w0 w w' : World} {g : Nat} {S' : GS} {X F : Nat → Prop} (h2 : ∀ k, F k → w0.heap.size ≤ k ∧ k < w.heap.size ∧ ¬ X k) (hw : w0.heap.size ≤ w.heap.size) (hX : ∀ k, X k → k < w.heap.size) (h3 : GrayAt 68 w' g (grow F w w') S') (h4 : Only F w w') : GX w0 g X w' S' ∧ Only (may w0 X) w w' := by
  refine ⟨⟨_, h3, fun k hk => ?_⟩, h4.mono (fun k hk => ⟨(h2 k hk).1, (h2 k hk).2.2⟩)⟩
  rcases hk with hk | hk
  · exact ⟨(h2 k hk).1, Nat.lt_of_lt_of_le (h2 k hk).2.1 h4.size, (h2 k hk).2.2⟩
  · exact ⟨by omega, hk.2, fun hx => by have := hX k hx; omega⟩
theorem may_below {w0 w w' : World} {X : Nat → Prop} (h : Only (may w0 X) w w') {a : World} (hb : Below w0.heap.size a w) (ha : w0.heap.size ≤ w.heap.size) : Below w0.heap.size a w' := hb.trans (h.below ha (fun k hk => hk.1))
theorem may_row {w0 w w' : World} {X : Nat → Prop} (h : Only (may w0 X) w w') {base : Nat} {e : TypeId} {size n : Nat} {v : Value} {xs : List Value} (hr : w.ownsRow base e size v n xs) (hX : ∀ k, v.ownBlock = some k → X k) : w'.ownsRow base e size v n xs := by
  obtain ⟨h1, h2⟩ := hr
  refine ⟨h1, h2.imp id ?_⟩
  rintro ⟨k, cap, cur, rfl, h3, h4, h5⟩
  have hk : w'.heap[k]? = w.heap[k]? := h.block k (Array.getElem?_eq_some_iff.1 h4).1 (fun hm => hm.2 (hX k rfl))
  exact ⟨k, cap, cur, rfl, h3, hk.trans h4, h5⟩

theorem colorX {w0 : World} {g : Nat} {S : GS} {X : Nat → Prop} (x : Int) (w : World) (h : GX w0 g X w S) : Calls Try.prog 28 #[.pointer (some ⟨g, 0, none⟩), .int .i64 x] w fun e w' => e = .returned (.int .i64 (S.color x)) ∧ w = w' := by
  obtain ⟨F, h1, h2⟩ := h; exact color_any x w h1
theorem lenX {w0 : World} {g : Nat} {S : GS} {X : Nat → Prop} (w : World) (h : GX w0 g X w S) : Calls Try.prog 27 #[.pointer (some ⟨g, 0, none⟩)] w fun e w' => e = .returned (.int .i64 S.wait) ∧ w = w' := by
  obtain ⟨F, h1, h2⟩ := h; exact glen_any w h1
theorem paintX {w0 : World} {g : Nat} {S : GS} {X : Nat → Prop} (x : Int) (w : World) (h : GX w0 g X w S) (hs : S.Small 1000000) (hw : w0.heap.size ≤ w.heap.size) (hX : ∀ k, X k → k < w.heap.size) :
    Calls Try.prog 26 #[.pointer (some ⟨g, 0, none⟩), .int .i64 x] w fun e w' => e = .returned (.bool (decide (S.color x ≠ 2))) ∧ GX w0 g X w' (S.paint x) ∧ Only (may w0 X) w w' := by
  obtain ⟨F, h1, h2⟩ := h; exact (paint_any x w h1 hs).mono (fun _ _ ⟨e1, e2, e3⟩ => ⟨e1, GX.step h2 hw hX e2 e3⟩)
theorem againX {w0 : World} {g : Nat} {S : GS} {X : Nat → Prop} (x : Int) (w : World) (h : GX w0 g X w S) (hs : S.Small 1000000) (hw : w0.heap.size ≤ w.heap.size) (hX : ∀ k, X k → k < w.heap.size) :
    Calls Try.prog 25 #[.pointer (some ⟨g, 0, none⟩), .int .i64 x] w fun e w' => e = .returned (.bool (decide (S.color x = 2))) ∧ GX w0 g X w' (S.again x) ∧ Only (may w0 X) w w' := by
  obtain ⟨F, h1, h2⟩ := h; exact (again_any x w h1 hs).mono (fun _ _ ⟨e1, e2, e3⟩ => ⟨e1, GX.step h2 hw hX e2 e3⟩)
theorem nextX {w0 : World} {g : Nat} {S : GS} {X : Nat → Prop} (w : World) (h : GX w0 g X w S) (hs : S.Small 1000000) (hw : w0.heap.size ≤ w.heap.size) (hX : ∀ k, X k → k < w.heap.size) :
    Calls Try.prog 22 #[.pointer (some ⟨g, 0, none⟩)] w fun e w' => e = .returned (nextV S.next) ∧ GX w0 g X w' S.next.2 ∧ Only (may w0 X) w w' := by
  obtain ⟨F, h1, h2⟩ := h; exact (next_any w h1 hs).mono (fun _ _ ⟨e1, e2, e3⟩ => ⟨e1, GX.step h2 hw hX e2 e3⟩)
/-- What is put lies outside of the list's blocks: in one of w0, or in one of X. -/
theorem putX {w0 : World} {g : Nat} {S : GS} {X : Nat → Prop} (a : Option Addr) (n c : Nat) (xs : List Int) (w : World) (h : GX w0 g X w S) (ha : SeqAt w a (ints xs)) (hl : xs.length = n) (hn : 0 < n → ∀ b o, a = some ⟨b, o, none⟩ → (b < w0.heap.size ∨ X b) ∧ b < w.heap.size) (hs : S.Small (1000000 - n)) (hw : w0.heap.size ≤ w.heap.size) (hX : ∀ k, X k → k < w.heap.size) :
    Calls Try.prog 21 #[.pointer (some ⟨g, 0, none⟩), .slice a n c] w fun e w' => e = .returned (.int .i64 (S.putN xs)) ∧ GX w0 g X w' (S.put xs) ∧ Only (may w0 X) w w' := by
  obtain ⟨F, h1, h2⟩ := h
  exact (put_any a n c xs w h1 ha hl (fun h0 b o e => ⟨fun hF => (hn h0 b o e).1.elim (fun h' => by have := (h2 b hF).1; omega) (h2 b hF).2.2, (hn h0 b o e).2⟩) hs).mono (fun _ _ ⟨e1, e2, e3⟩ => ⟨e1, GX.step h2 hw hX e2 e3⟩)
/-- What is put is a new block. -/
theorem putXA {w0 : World} {g : Nat} {S : GS} {X : Nat → Prop} (n : Nat) (xs : List Int) (T : TypeId) (w : World) (cs : Array Value) (hcs : cs.toList = ints xs) (h : GX w0 g X w S) (hl : xs.length = n) (hs : S.Small (1000000 - n)) (hw : w0.heap.size ≤ w.heap.size) (hX : ∀ k, X k → k < w.heap.size) :
    Calls Try.prog 21 #[.pointer (some ⟨g, 0, none⟩), .slice (some ⟨w.heap.size, 0, none⟩) n n] (w.alloc (.cells cs T)) fun e w' => e = .returned (.int .i64 (S.putN xs)) ∧ GX w0 g X w' (S.put xs) ∧ Only (may w0 X) w w' := by
  obtain ⟨F, h1, h2⟩ := h
  have hbw : Below w.heap.size w (w.alloc (.cells cs T)) := (Below.refl _ w).alloc (Nat.le_refl _) _
  have hb : GrayAt 68 (w.alloc (.cells cs T)) g F S := h1.only (G := fun k => ¬ k < w.heap.size) ⟨rfl, rfl, rfl, by simp, fun k hk _ => Below.heap_alloc _ _ _ hk⟩ (fun k hk hn => hn (h2 k hk).2.1)
  refine (put_any (some ⟨w.heap.size, 0, none⟩) n n xs (w.alloc (.cells cs T)) hb ?_ hl (fun _ b o e => ?_) hs).mono (fun _ _ ⟨e1, e2, e3⟩ => ⟨e1, ?_⟩)
  · rw [← hcs]; exact seqAt_block (cs := cs) (heap_alloc_new w _)
  · cases e
    exact ⟨fun hg => Nat.lt_irrefl _ (h2 _ hg).2.1, by simp⟩
  · obtain ⟨r1, r2⟩ := GX.step (w0 := w0) (X := X) (F := F) (w := w.alloc (.cells cs T)) (fun k hk => ⟨(h2 k hk).1, by have := (h2 k hk).2.1; simp; omega, (h2 k hk).2.2⟩) (by simp; omega) (fun k hk => by have := hX k hk; simp; omega) e2 e3
    exact ⟨r1, (Only.of_below hbw (may w0 X)).trans r2 (fun k hk => Or.inl hk)⟩
end Go.Proofs.Ytcfapidalngebaa
