/-
  Package gray's list and the document's list beside each other, and a slice of the call's own (what will be asked).
-/
import Derived.Test.YtcfapidalngebaaGrayX
import Derived.Test.YtcfapidalngebaaRef14
import Derived.Test.YtcfapidalngebaaAppSeq
set_option linter.unusedSimpArgs false
set_option linter.unusedVariables false
namespace Go.Proofs.Ytcfapidalngebaa
open Go.RowKit Go.Tr

/-- Since w0: at g a list of gray that holds S, at m the document's that holds R, and v owns the numbers of ask; the blocks of Y are none of theirs. -/
def Two (w0 : World) (Y : Nat → Prop) (g m : Nat) (w : World) (S : GS) (R : RS) (v : Value) (ask : List Int) : Prop :=
  ∃ F, GX w0 g (fun b => F b ∨ v.ownBlock = some b ∨ Y b) w S ∧ RefAt 54 w m F R ∧ own3 w 3 w0.heap.size v ask ∧ (∀ k, F k → w0.heap.size ≤ k ∧ k < w.heap.size ∧ v.ownBlock ≠ some k ∧ ¬ Y k) ∧ (∀ k, Y k → k < w.heap.size ∧ v.ownBlock ≠ some k) ∧ Below w0.heap.size w0 w
/-- Y's blocks read as they did. -/
def Keeps (Y : Nat → Prop) (w w' : World) : Prop := ∀ k, Y k → w'.heap[k]? = w.heap[k]?

variable {w0 w w' : World} {Y : Nat → Prop} {g m : Nat} {S : GS} {R : RS} {v : Value} {ask : List Int}
theorem Two.toBelow (h : Two w0 Y g m w S R v ask) : Below w0.heap.size w0 w := by obtain ⟨F, _, _, _, _, _, h⟩ := h; exact h
theorem Two.own (h : Two w0 Y g m w S R v ask) : own3 w 3 w0.heap.size v ask := by obtain ⟨F, _, _, h, _⟩ := h; exact h
theorem own_below {w w' : World} {e : TypeId} {base : Nat} {v : Value} {zs : List Int} (h : own3 w e base v zs) (hb : Below w.heap.size w w') : own3 w' e base v zs :=
  World.ownsRow.kept (row := none) h ⟨hb.os, hb.tape, hb.output, hb.size, fun k hk _ => hb.block k hk⟩ (by
    cases hv : v.ownBlock
    · exact Or.inl rfl
    · exact Or.inr (by simp))
theorem Two.below (h : Two w0 Y g m w S R v ask) (hb : Below w.heap.size w w') : Two w0 Y g m w' S R v ask := by
  obtain ⟨F, h1, h2, h3, h4, hY, h5⟩ := h
  exact ⟨F, h1.below hb, h2.only (Only.of_below hb (fun k => w.heap.size ≤ k)) (fun k hk hle => by have := (h4 k hk).2.1; omega), own_below h3 hb, fun k hk => ⟨(h4 k hk).1, Nat.lt_of_lt_of_le (h4 k hk).2.1 hb.size, (h4 k hk).2.2⟩, fun k hk => ⟨Nat.lt_of_lt_of_le (hY k hk).1 hb.size, (hY k hk).2⟩, h5.trans (hb.mono h5.size)⟩
theorem Two.alloc (h : Two w0 Y g m w S R v ask) (o : Obj) : Two w0 Y g m (w.alloc o) S R v ask := h.below ((Below.refl _ w).alloc (Nat.le_refl _) o)
theorem Two.drawn (h : Two w0 Y g m w S R v ask) (hd : Drawn w w') : Two w0 Y g m w' S R v ask := h.below (hd.below _)
/-- What has come since is none of theirs. -/
theorem Two.fresh (h : Two w0 Y g m w S R v ask) (hb : Below w.heap.size w w') : Two w0 (fun k => w.heap.size ≤ k ∧ k < w'.heap.size) g m w' S R v ask := by
  obtain ⟨F, h1, h2, h3, h4, hY, h5⟩ := h
  refine ⟨F, h1.turn (Only.of_below hb _) (fun k hk => ?_), h2.only (Only.of_below hb (fun k => w.heap.size ≤ k)) (fun k hk hle => by have := (h4 k hk).2.1; omega), own_below h3 hb, fun k hk => ⟨(h4 k hk).1, Nat.lt_of_lt_of_le (h4 k hk).2.1 hb.size, (h4 k hk).2.2.1, fun hy => by have := (h4 k hk).2.1; omega⟩, fun k hk => ⟨hk.2, fun e => by have := (h3.lt k e).2; omega⟩, h5.trans (hb.mono h5.size)⟩
  rcases hk with hk | hk | hk
  · exact Or.inl (Or.inl hk)
  · exact Or.inl (Or.inr (Or.inl hk))
  · exact Or.inr hk.1
theorem Two.drop (h : Two w0 Y g m w S R v ask) : Two w0 (fun _ => False) g m w S R v ask := by
  obtain ⟨F, ⟨G, h1, h1'⟩, h2, h3, h4, hY, h5⟩ := h
  exact ⟨F, ⟨G, h1, fun k hk => ⟨(h1' k hk).1, (h1' k hk).2.1, fun hx => (h1' k hk).2.2 (hx.imp id (fun h => h.imp id False.elim))⟩⟩, h2, h3, fun k hk => ⟨(h4 k hk).1, (h4 k hk).2.1, (h4 k hk).2.2.1, id⟩, fun _ h => h.elim, h5⟩
/-- A function of gray has been called. -/
theorem Two.gray {F : Nat → Prop} (h2 : RefAt 54 w m F R) (h3 : own3 w 3 w0.heap.size v ask) (h4 : ∀ k, F k → w0.heap.size ≤ k ∧ k < w.heap.size ∧ v.ownBlock ≠ some k ∧ ¬ Y k) (hY : ∀ k, Y k → k < w.heap.size ∧ v.ownBlock ≠ some k) (h5 : Below w0.heap.size w0 w) {S' : GS}
    (k1 : GX w0 g (fun b => F b ∨ v.ownBlock = some b ∨ Y b) w' S') (k2 : Only (may w0 (fun b => F b ∨ v.ownBlock = some b ∨ Y b)) w w') : Two w0 Y g m w' S' R v ask ∧ Keeps Y w w' :=
  ⟨⟨F, k1, h2.only k2 (fun k hk hm => hm.2 (Or.inl hk)), may_row k2 h3 (fun k hk => Or.inr (Or.inl hk)), fun k hk => ⟨(h4 k hk).1, Nat.lt_of_lt_of_le (h4 k hk).2.1 k2.size, (h4 k hk).2.2⟩, fun k hk => ⟨Nat.lt_of_lt_of_le (hY k hk).1 k2.size, (hY k hk).2⟩, may_below k2 h5 h5.size⟩, fun k hk => k2.block k (hY k hk).1 (fun hm => hm.2 (Or.inr (Or.inr hk)))⟩
/-- A function of the document's list has been called. -/
theorem Two.ref {F : Nat → Prop} (h1 : GX w0 g (fun b => F b ∨ v.ownBlock = some b ∨ Y b) w S) (h3 : own3 w 3 w0.heap.size v ask) (h4 : ∀ k, F k → w0.heap.size ≤ k ∧ k < w.heap.size ∧ v.ownBlock ≠ some k ∧ ¬ Y k) (hY : ∀ k, Y k → k < w.heap.size ∧ v.ownBlock ≠ some k) (h5 : Below w0.heap.size w0 w) {R' : RS}
    (k1 : RefAt 54 w' m (grow F w w') R') (k2 : Only F w w') : Two w0 Y g m w' S R' v ask ∧ Keeps Y w w' := by
  refine ⟨⟨grow F w w', (h1.turn (k2.mono (fun k hk => Or.inl hk)) (fun k hk => ?_)), k1, ?_, fun k hk => ?_, fun k hk => ⟨Nat.lt_of_lt_of_le (hY k hk).1 k2.size, (hY k hk).2⟩, h5.trans (k2.below h5.size (fun k hk => (h4 k hk).1))⟩, fun k hk => k2.block k (hY k hk).1 (fun hf => (h4 k hf).2.2.2 hk)⟩
  · rcases hk with (hk | hk) | hk
    · exact Or.inl (Or.inl hk)
    · exact Or.inr hk.1
    · exact Or.inl (Or.inr hk)
  · refine ⟨h3.1, h3.2.imp id ?_⟩
    rintro ⟨k, cap, cur, rfl, e1, e2, e3⟩
    exact ⟨k, cap, cur, rfl, e1, (k2.block k (Array.getElem?_eq_some_iff.1 e2).1 (fun hf => (h4 k hf).2.2.1 rfl)).trans e2, e3⟩
  · rcases hk with hk | hk
    · exact ⟨(h4 k hk).1, Nat.lt_of_lt_of_le (h4 k hk).2.1 k2.size, (h4 k hk).2.2⟩
    · exact ⟨Nat.le_trans h5.size hk.1, hk.2, fun e => by have := (h3.lt k e).2; omega, fun hy => by have := (hY k hy).1; omega⟩
/-- The slice has been appended to. -/
theorem Two.asked (h : Two w0 Y g m w S R v ask) {v' : Value} {ask' : List Int} (ho : own3 w' 3 w0.heap.size v' ask') (hg : w.grownBy w' v.ownBlock) (hv : v'.ownBlock = v.ownBlock ∨ ∀ k, v'.ownBlock = some k → w.heap.size ≤ k) : Two w0 Y g m w' S R v' ask' ∧ Keeps Y w w' := by
  obtain ⟨F, h1, h2, h3, h4, hY, h5⟩ := h
  have hX : ∀ k, v'.ownBlock = some k → v.ownBlock = some k ∨ w.heap.size ≤ k := fun k hk => hv.imp (fun e => by rw [← e]; exact hk) (fun h => h k hk)
  have hb : ∀ k, v.ownBlock = some k → w0.heap.size ≤ k := fun k hk => (h3.lt k hk).1
  have hO : Only (fun k => v.ownBlock = some k) w w' := ⟨hg.os, hg.tape, hg.output, hg.size, fun k hk hn => hg.block k hk (fun e => hn e.symm)⟩
  refine ⟨⟨F, h1.turn (hO.mono (fun k hk => Or.inr (Or.inl hk))) (fun k hk => ?_), h2.only hO (fun k hk e => (h4 k hk).2.2.1 e), ho, fun k hk => ⟨(h4 k hk).1, Nat.lt_of_lt_of_le (h4 k hk).2.1 hg.size, fun e => ?_, (h4 k hk).2.2.2⟩, fun k hk => ⟨Nat.lt_of_lt_of_le (hY k hk).1 hg.size, fun e => ?_⟩, h5.grown hg h5.size hb⟩, fun k hk => hg.block k (hY k hk).1 (fun e => (hY k hk).2 e.symm)⟩
  · rcases hk with hk | hk | hk
    · exact Or.inl (Or.inl hk)
    · exact (hX k hk).imp (fun h => Or.inr (Or.inl h)) id
    · exact Or.inl (Or.inr (Or.inr hk))
  · rcases hX k e with h | h
    · exact (h4 k hk).2.2.1 h
    · have := (h4 k hk).2.1; omega
  · rcases hX k e with h | h
    · exact (hY k hk).2 h
    · have := (hY k hk).1; omega
theorem Two.lt (h : Two w0 Y g m w S R v ask) : w0.heap.size ≤ w.heap.size := h.toBelow.size
theorem Two.xlt (h3 : own3 w 3 w0.heap.size v ask) {F : Nat → Prop} (h4 : ∀ k, F k → w0.heap.size ≤ k ∧ k < w.heap.size ∧ v.ownBlock ≠ some k ∧ ¬ Y k) (hY : ∀ k, Y k → k < w.heap.size ∧ v.ownBlock ≠ some k) : ∀ k, (F k ∨ v.ownBlock = some k ∨ Y k) → k < w.heap.size := fun k hk => by
  rcases hk with hk | hk | hk
  · exact (h4 k hk).2.1
  · exact (h3.lt k hk).2
  · exact (hY k hk).1

theorem putT (a : Option Addr) (n c : Nat) (xs : List Int) (w : World) (h : Two w0 Y g m w S R v ask) (ha : SeqAt w0 a (ints xs)) (hl : xs.length = n) (hs : S.Small (1000000 - n)) :
    Calls Try.prog 21 #[.pointer (some ⟨g, 0, none⟩), .slice a n c] w fun e w' => e = .returned (.int .i64 (S.putN xs)) ∧ Two w0 Y g m w' (S.put xs) R v ask ∧ Keeps Y w w' := by
  obtain ⟨F, h1, h2, h3, h4, hY, h5⟩ := h
  refine (putX a n c xs w h1 (ha.below h5 (Nat.le_refl _)) hl (fun h0 b o e => ?_) hs h5.size (Two.xlt h3 h4 hY)).mono fun _ _ ⟨e1, e2, e3⟩ => ⟨e1, Two.gray h2 h3 h4 hY h5 e2 e3⟩
  obtain ⟨b', o', e', hc⟩ := ha (by rw [ints_length, hl]; exact h0)
  rw [e] at e'
  cases e'
  have := World.block_lt_of_cell? w0 _ (hc 0 (by rw [ints_length, hl]; exact h0))
  exact ⟨Or.inl this, Nat.lt_of_lt_of_le this h5.size⟩
theorem againT (x : Int) (w : World) (h : Two w0 Y g m w S R v ask) (hs : S.Small 1000000) :
    Calls Try.prog 25 #[.pointer (some ⟨g, 0, none⟩), .int .i64 x] w fun e w' => e = .returned (.bool (decide (S.color x = 2))) ∧ Two w0 Y g m w' (S.again x) R v ask ∧ Keeps Y w w' := by
  obtain ⟨F, h1, h2, h3, h4, hY, h5⟩ := h
  exact (againX x w h1 hs h5.size (Two.xlt h3 h4 hY)).mono fun _ _ ⟨e1, e2, e3⟩ => ⟨e1, Two.gray h2 h3 h4 hY h5 e2 e3⟩
theorem paintT (x : Int) (w : World) (h : Two w0 Y g m w S R v ask) (hs : S.Small 1000000) :
    Calls Try.prog 26 #[.pointer (some ⟨g, 0, none⟩), .int .i64 x] w fun e w' => e = .returned (.bool (decide (S.color x ≠ 2))) ∧ Two w0 Y g m w' (S.paint x) R v ask ∧ Keeps Y w w' := by
  obtain ⟨F, h1, h2, h3, h4, hY, h5⟩ := h
  exact (paintX x w h1 hs h5.size (Two.xlt h3 h4 hY)).mono fun _ _ ⟨e1, e2, e3⟩ => ⟨e1, Two.gray h2 h3 h4 hY h5 e2 e3⟩
theorem nextT (w : World) (h : Two w0 Y g m w S R v ask) (hs : S.Small 1000000) :
    Calls Try.prog 22 #[.pointer (some ⟨g, 0, none⟩)] w fun e w' => e = .returned (nextV S.next) ∧ Two w0 Y g m w' S.next.2 R v ask ∧ Keeps Y w w' := by
  obtain ⟨F, h1, h2, h3, h4, hY, h5⟩ := h
  exact (nextX w h1 hs h5.size (Two.xlt h3 h4 hY)).mono fun _ _ ⟨e1, e2, e3⟩ => ⟨e1, Two.gray h2 h3 h4 hY h5 e2 e3⟩
theorem colorT (x : Int) (w : World) (h : Two w0 Y g m w S R v ask) : Calls Try.prog 28 #[.pointer (some ⟨g, 0, none⟩), .int .i64 x] w fun e w' => e = .returned (.int .i64 (S.color x)) ∧ w = w' := by
  obtain ⟨F, h1, _⟩ := h; exact colorX x w h1
theorem lenT (w : World) (h : Two w0 Y g m w S R v ask) : Calls Try.prog 27 #[.pointer (some ⟨g, 0, none⟩)] w fun e w' => e = .returned (.int .i64 S.wait) ∧ w = w' := by
  obtain ⟨F, h1, _⟩ := h; exact lenX w h1
theorem put14T (x : Int) (w : World) (h : Two w0 Y g m w S R v ask) (hs : R.wl.length + R.bl.length ≤ 900000) :
    Calls Try.prog 31 #[.pointer (some ⟨m, 0, none⟩), .int .i64 x] w fun e w' => e = .returned (.bool (decide (R.color x = 0))) ∧ Two w0 Y g m w' S (R.put x) v ask ∧ Keeps Y w w' := by
  obtain ⟨F, h1, h2, h3, h4, hY, h5⟩ := h
  exact (rput_any x w h2 hs).mono fun _ _ ⟨e1, e2, e3⟩ => ⟨e1, Two.ref h1 h3 h4 hY h5 e2 e3⟩
theorem again14T (x : Int) (w : World) (h : Two w0 Y g m w S R v ask) (hs : R.wl.length + R.bl.length ≤ 900000) :
    Calls Try.prog 32 #[.pointer (some ⟨m, 0, none⟩), .int .i64 x] w fun e w' => e = .returned (.bool (decide (R.color x = 2))) ∧ Two w0 Y g m w' S (R.again x) v ask ∧ Keeps Y w w' := by
  obtain ⟨F, h1, h2, h3, h4, hY, h5⟩ := h
  exact (ragain_any x w h2 hs).mono fun _ _ ⟨e1, e2, e3⟩ => ⟨e1, Two.ref h1 h3 h4 hY h5 e2 e3⟩
theorem paint14T (x : Int) (w : World) (h : Two w0 Y g m w S R v ask) (hs : R.wl.length + R.bl.length ≤ 900000) :
    Calls Try.prog 34 #[.pointer (some ⟨m, 0, none⟩), .int .i64 x] w fun e w' => e = .returned (.bool (decide (R.color x ≠ 2))) ∧ Two w0 Y g m w' S (R.paint x) v ask ∧ Keeps Y w w' := by
  obtain ⟨F, h1, h2, h3, h4, hY, h5⟩ := h
  exact (rpaint_any x w h2 hs).mono fun _ _ ⟨e1, e2, e3⟩ => ⟨e1, Two.ref h1 h3 h4 hY h5 e2 e3⟩
theorem next14T (w : World) (h : Two w0 Y g m w S R v ask) (hs : R.wl.length + R.bl.length ≤ 900000) :
    Calls Try.prog 33 #[.pointer (some ⟨m, 0, none⟩)] w fun e w' => e = .returned (nextR R.next) ∧ Two w0 Y g m w' S R.next.2 v ask ∧ Keeps Y w w' := by
  obtain ⟨F, h1, h2, h3, h4, hY, h5⟩ := h
  exact (rnext_any w h2 hs).mono fun _ _ ⟨e1, e2, e3⟩ => ⟨e1, Two.ref h1 h3 h4 hY h5 e2 e3⟩
theorem color14T (x : Int) (w : World) (h : Two w0 Y g m w S R v ask) (hs : R.wl.length + R.bl.length ≤ 900000) :
    Calls Try.prog 35 #[.pointer (some ⟨m, 0, none⟩), .int .i64 x] w fun e w' => e = .returned (.int .i64 (R.color x)) ∧ w = w' := by
  obtain ⟨F, h1, h2, h3, h4, hY, h5⟩ := h
  exact rcolor_any x w h2 (by omega)
theorem Two.start {w0 w3 : World} {g : Nat} {S : GS} (h : GInv w0 g w3 S) (x : Int) : Two w0 (fun _ => False) g w3.heap.size ((w3.alloc (.cells #[.slice none 0 0, .slice none 0 0] 54)).alloc (.cells #[.int .i64 x] 3)) S ⟨[], []⟩ (.slice (some ⟨w3.heap.size + 1, 0, none⟩) 1 1) [x] := by
  have hb : Below w3.heap.size w3 ((w3.alloc (.cells #[.slice none 0 0, .slice none 0 0] 54)).alloc (.cells #[.int .i64 x] 3)) := ((Below.refl _ w3).alloc (Nat.le_refl _) _).alloc (by simp) _
  have h0 := h.toBelow.size
  refine ⟨fun k => k = w3.heap.size, ?_, ⟨.slice none 0 0, .slice none 0 0, { own := rfl, block := ?_, wait := OwnO.nil _ _, black := OwnO.nil _ _, fw := fun k hk => (by simp [Value.ownBlock] at hk), fb := fun k hk => (by simp [Value.ownBlock] at hk), apart := fun k hk => (by simp [Value.ownBlock] at hk) }⟩, ?_, fun k hk => ?_, fun k hk => hk.elim, h.toBelow.trans (hb.mono h0)⟩
  · refine ((h.toX (X := fun _ => False) (fun _ h => h)).turn (Only.of_below hb _) (fun k hk => Or.inr ?_))
    rcases hk with hk | hk | hk
    · exact Nat.le_of_eq hk.symm
    · simp [Value.ownBlock] at hk; omega
    · exact hk.elim
  · rw [Below.heap_alloc _ _ _ (by simp)]; exact heap_alloc_new w3 _
  · refine ⟨rfl, Or.inr ⟨w3.heap.size + 1, 1, #[.int .i64 x], rfl, by omega, ?_, Nat.le_refl _, by decide, rfl, rfl⟩⟩
    have := heap_alloc_new (w3.alloc (.cells #[.slice none 0 0, .slice none 0 0] 54)) (.cells #[.int .i64 x] 3)
    simpa using this
  · refine ⟨by omega, by simp; omega, fun e => ?_, id⟩
    simp [Value.ownBlock] at e; omega
theorem Two.cells (h : Two w0 Y g m w S R v ask) : ∃ wa wc ba bc, w.cell? ⟨m, 0, none⟩ = some (.slice wa R.wl.length wc) ∧ w.cell? ⟨m, 1, none⟩ = some (.slice ba R.bl.length bc) ∧ SeqAt w ba (ints R.bl) := by
  obtain ⟨F, h1, ⟨wv, bv, h2⟩, h3, h4, hY, h5⟩ := h
  obtain ⟨⟨c0, f0⟩, c1, f1⟩ := h2.cells rfl
  obtain ⟨wa, wc, rfl, -, -, -⟩ := h2.wait.seq
  obtain ⟨ba, bc, rfl, hbs, -, -⟩ := h2.black.seq
  exact ⟨wa, wc, ba, bc, c0, c1, hbs⟩
end Go.Proofs.Ytcfapidalngebaa
