/-
  Package gray: a list that a call has made for itself: each function's law in one line.
-/
import Derived.Test.YtcfapidalngebaaGray3
set_option linter.unusedSimpArgs false
set_option linter.unusedVariables false
namespace Go.Proofs.Ytcfapidalngebaa
open Go.RowKit Go.Tr

/-- Since w0 the list at g has come to hold S; no block of w0 has turned. -/
def GInv (w0 : World) (g : Nat) (w : World) (S : GS) : Prop := GrayAt 68 w g (grow (fun _ => False) w0 w) S ∧ Only (fun _ => False) w0 w

theorem GInv.drawn {w0 w w' : World} {g : Nat} {S : GS} (h : GInv w0 g w S) (hd : Drawn w w') : GInv w0 g w' S := by obtain ⟨n, rfl⟩ := hd; exact ⟨h.1, ⟨h.2.os, h.2.tape, h.2.output, h.2.size, h.2.block⟩⟩
theorem GInv.below {w0 w w' : World} {g : Nat} {S : GS} (h : GInv w0 g w S) (hb : Below w.heap.size w w') : GInv w0 g w' S :=
  ⟨(h.1.only (G := fun k => ¬ k < w.heap.size) ⟨hb.os, hb.tape, hb.output, hb.size, fun k hk _ => hb.block k hk⟩ (fun k hk hn => hk.elim id (fun h' => hn h'.2))).mono (fun k hk => hk.imp id (fun h' => ⟨h'.1, Nat.lt_of_lt_of_le h'.2 hb.size⟩)),
    h.2.trans (Only.of_below hb (fun _ => False)) (fun _ hf => hf.elim)⟩
theorem GInv.alloc {w0 w : World} {g : Nat} {S : GS} (h : GInv w0 g w S) (o : Obj) : GInv w0 g (w.alloc o) S := h.below ((Below.refl _ w).alloc (Nat.le_refl _) o)
theorem GInv.toBelow {w0 w : World} {g : Nat} {S : GS} (h : GInv w0 g w S) : Below w0.heap.size w0 w := h.2.below (Nat.le_refl _) (fun _ hf => hf.elim)
theorem GInv.step {w0 w w' : World} {g : Nat} {S S' : GS} (h : GInv w0 g w S) (h1 : GrayAt 68 w' g (grow (grow (fun _ => False) w0 w) w w') S') (h2 : Only (grow (fun _ => False) w0 w) w w') : GInv w0 g w' S' :=
  ⟨h1.mono (grow_trans h.2.size h2.size), h.2.grow h2⟩

theorem newS (w : World) : Calls Try.prog 19 #[] w fun e w' => ∃ g, e = .returned (.pointer (some ⟨g, 0, none⟩)) ∧ GInv w g w' GS.new :=
  (gnew_any w).mono (fun e w' ⟨g, h1, h2, h3, _⟩ => ⟨g, h1, h2, h3⟩)
theorem colorS {w0 : World} {g : Nat} {S : GS} (x : Int) (w : World) (h : GInv w0 g w S) : Calls Try.prog 28 #[.pointer (some ⟨g, 0, none⟩), .int .i64 x] w fun e w' => e = .returned (.int .i64 (S.color x)) ∧ w = w' := color_any x w h.1
theorem lenS {w0 : World} {g : Nat} {S : GS} (w : World) (h : GInv w0 g w S) : Calls Try.prog 27 #[.pointer (some ⟨g, 0, none⟩)] w fun e w' => e = .returned (.int .i64 S.wait) ∧ w = w' := glen_any w h.1
theorem paintS {w0 : World} {g : Nat} {S : GS} (x : Int) (w : World) (h : GInv w0 g w S) (hs : S.Small 1000000) : Calls Try.prog 26 #[.pointer (some ⟨g, 0, none⟩), .int .i64 x] w fun e w' => e = .returned (.bool (decide (S.color x ≠ 2))) ∧ GInv w0 g w' (S.paint x) :=
  (paint_any x w h.1 hs).mono (fun _ _ ⟨h1, h2, h3⟩ => ⟨h1, h.step h2 h3⟩)
theorem againS {w0 : World} {g : Nat} {S : GS} (x : Int) (w : World) (h : GInv w0 g w S) (hs : S.Small 1000000) : Calls Try.prog 25 #[.pointer (some ⟨g, 0, none⟩), .int .i64 x] w fun e w' => e = .returned (.bool (decide (S.color x = 2))) ∧ GInv w0 g w' (S.again x) :=
  (again_any x w h.1 hs).mono (fun _ _ ⟨h1, h2, h3⟩ => ⟨h1, h.step h2 h3⟩)
theorem nextS {w0 : World} {g : Nat} {S : GS} (w : World) (h : GInv w0 g w S) (hs : S.Small 1000000) : Calls Try.prog 22 #[.pointer (some ⟨g, 0, none⟩)] w fun e w' => e = .returned (nextV S.next) ∧ GInv w0 g w' S.next.2 :=
  (next_any w h.1 hs).mono (fun _ _ ⟨h1, h2, h3⟩ => ⟨h1, h.step h2 h3⟩)
/-- What is put is older than w0. -/
theorem putS {w0 : World} {g : Nat} {S : GS} (a : Option Addr) (n c : Nat) (xs : List Int) (w : World) (h : GInv w0 g w S) (ha : SeqAt w a (ints xs)) (hl : xs.length = n) (hn : 0 < n → ∀ b o, a = some ⟨b, o, none⟩ → b < w0.heap.size) (hs : S.Small (1000000 - n)) :
    Calls Try.prog 21 #[.pointer (some ⟨g, 0, none⟩), .slice a n c] w fun e w' => e = .returned (.int .i64 (S.putN xs)) ∧ GInv w0 g w' (S.put xs) :=
  (put_any a n c xs w h.1 ha hl (fun h0 b o e => ⟨fun hg => hg.elim id (fun h' => by have := hn h0 b o e; omega), Nat.lt_of_lt_of_le (hn h0 b o e) h.2.size⟩) hs).mono (fun _ _ ⟨h1, h2, h3⟩ => ⟨h1, h.step h2 h3⟩)
/-- What is put is a new block. -/
theorem putA {w0 : World} {g : Nat} {S : GS} (n : Nat) (xs : List Int) (T : TypeId) (w : World) (cs : Array Value) (hcs : cs.toList = ints xs) (h : GInv w0 g w S) (hl : xs.length = n) (hs : S.Small (1000000 - n)) :
    Calls Try.prog 21 #[.pointer (some ⟨g, 0, none⟩), .slice (some ⟨w.heap.size, 0, none⟩) n n] (w.alloc (.cells cs T)) fun e w' => e = .returned (.int .i64 (S.putN xs)) ∧ GInv w0 g w' (S.put xs) := by
  have hb : GrayAt 68 (w.alloc (.cells cs T)) g (grow (fun _ => False) w0 w) S := h.1.only (G := fun k => ¬ k < w.heap.size) ⟨rfl, rfl, rfl, by simp, fun k hk _ => Below.heap_alloc _ _ _ hk⟩ (fun k hk hn => hk.elim id (fun h' => hn h'.2))
  refine (put_any (some ⟨w.heap.size, 0, none⟩) n n xs (w.alloc (.cells cs T)) hb ?_ hl (fun _ b o e => ?_) hs).mono (fun _ _ ⟨h1, h2, h3⟩ => ⟨h1, ?_⟩)
  · rw [← hcs]; exact seqAt_block (cs := cs) (heap_alloc_new w _)
  · cases e
    exact ⟨fun hg => hg.elim id (fun h' => Nat.lt_irrefl _ h'.2), by simp⟩
  · have h4 := h.alloc (.cells cs T)
    have hs' : w.heap.size ≤ (w.alloc (.cells cs T)).heap.size := by simp
    have hm : ∀ k, grow (fun _ => False) w0 w k → grow (fun _ => False) w0 (w.alloc (.cells cs T)) k := fun k hk => hk.imp id (fun h' => ⟨h'.1, Nat.lt_of_lt_of_le h'.2 hs'⟩)
    exact h4.step (h2.mono (grow_mono hm)) (h3.mono hm)
end Go.Proofs.Ytcfapidalngebaa
