/-
  A bag of texts and a bag of the numbers that they stand for, beside each other, and one block more; a range over a function with one loop variable.
-/
import Derived.Test.YthfdigjbmoconaaBagS3
import Derived.Test.YthfdigjbmoconaaTxt2
import Derived.Test.YthfdigjbmoconaaBag2
set_option linter.unusedSimpArgs false
set_option linter.unusedVariables false
namespace Go.Proofs.Ythfdigjbmoconaa
open Go.RowKit Go.Tr
variable {w w' w0 : World} {ga gb nb : Nat} {za zb : List Int} {o : Obj}

def BT (w0 w : World) (ga : Nat) (za : List Int) (gb : Nat) (zb : List Int) (nb : Nat) (o : Obj) : Prop := ∃ F G : Nat → Prop, BagS w ga F za ∧ Bag w gb G zb ∧ (∀ k, F k → w0.heap.size ≤ k ∧ k < w.heap.size) ∧ (∀ k, G k → w0.heap.size ≤ k ∧ k < w.heap.size) ∧ (∀ k, F k → ¬ G k) ∧ Below w0.heap.size w0 w ∧ ¬ F nb ∧ ¬ G nb ∧ w.heap[nb]? = some o
theorem BT.below (h : BT w0 w ga za gb zb nb o) : Below w0.heap.size w0 w := by obtain ⟨_, _, _, _, _, _, _, h, _⟩ := h; exact h
theorem BT.block (h : BT w0 w ga za gb zb nb o) : w.heap[nb]? = some o := by obtain ⟨_, _, _, _, _, _, _, _, _, _, h⟩ := h; exact h
theorem BT.read (h : BT w0 w ga za gb zb nb o) (hb : Below w.heap.size w w') : BT w0 w' ga za gb zb nb o := by
  obtain ⟨F, G, h1, h2, h3, h4, h5, h6, h7, h8, h9⟩ := h
  exact ⟨F, G, h1.below hb, h2.below hb, fun k hk => ⟨(h3 k hk).1, Nat.lt_of_lt_of_le (h3 k hk).2 hb.size⟩, fun k hk => ⟨(h4 k hk).1, Nat.lt_of_lt_of_le (h4 k hk).2 hb.size⟩, h5, h6.trans (hb.mono h6.size), h7, h8, (hb.block nb (Array.getElem?_eq_some_iff.1 h9).1).trans h9⟩
theorem BT.box (h : BT w0 w ga za gb zb nb o) (cs : Array Value) (T : TypeId) : BT w0 (w.alloc (.cells cs T)) ga za gb zb w.heap.size (.cells cs T (0, 0)) := by
  obtain ⟨F, G, h1, h2, h3, h4, h5, h6, h7, h8, h9⟩ := h.read ((Below.refl _ w).alloc (Nat.le_refl _) (.cells cs T))
  obtain ⟨F', G', k1, k2, k3, k4, k5, k6, k7, k8, k9⟩ := h
  have hb := (Below.refl _ w).alloc (Nat.le_refl _) (.cells cs T)
  exact ⟨F', G', k1.below hb, k2.below hb, fun k hk => ⟨(k3 k hk).1, Nat.lt_of_lt_of_le (k3 k hk).2 hb.size⟩, fun k hk => ⟨(k4 k hk).1, Nat.lt_of_lt_of_le (k4 k hk).2 hb.size⟩, k5, k6.trans (hb.mono k6.size), fun hf => Nat.lt_irrefl _ (k3 _ hf).2, fun hf => Nat.lt_irrefl _ (k4 _ hf).2, heap_alloc_new w _⟩
theorem BT.start {w1 w2 : World} {va vb : Value} (h0 : nb < w0.heap.size) (ho : w0.heap[nb]? = some o) (ha : BagSAt w0.heap.size w1 ga va za) (hb1 : Below w0.heap.size w0 w1) (hb : BagAt w1.heap.size w2 gb vb zb) (hb2 : Below w1.heap.size w1 w2) : BT w0 w2 ga za gb zb nb o := by
  have hbb := hb1.trans (hb2.mono hb1.size)
  refine ⟨fun k => k = ga ∨ va.ownBlock = some k, fun k => w1.heap.size ≤ k ∧ k < w2.heap.size, ⟨va, ⟨(ha.below hb2).block, ownsRow_mono (ha.below hb2).own (Nat.zero_le _), ha.ne, Nat.zero_le _, ha.rises, ha.in7⟩, Or.inl rfl, fun k hk => Or.inr hk⟩, ⟨vb, ⟨hb.block, ownsRow_mono hb.own (Nat.zero_le _), hb.ne, Nat.zero_le _, hb.rises⟩, ⟨hb.newg, hb.lt⟩, fun k hk => hb.own.lt k hk⟩, fun k hk => ?_, fun k hk => ⟨Nat.le_trans hb1.size hk.1, hk.2⟩, fun k hk hk' => ?_, hbb, fun hk => ?_, fun hk => ?_, (hbb.block nb h0).trans ho⟩
  · rcases hk with rfl | hk
    · exact ⟨ha.newg, Nat.lt_of_lt_of_le ha.lt hb2.size⟩
    · exact ⟨(ha.own.lt k hk).1, Nat.lt_of_lt_of_le (ha.own.lt k hk).2 hb2.size⟩
  · rcases hk with rfl | hk
    · have := ha.lt; omega
    · have := (ha.own.lt k hk).2; omega
  · rcases hk with rfl | hk
    · have := ha.newg; omega
    · have := (ha.own.lt _ hk).1; omega
  · have := hb1.size; omega
theorem BT.writeA {F G : Nat → Prop} {za' : List Int} (h2 : Bag w gb G zb) (h3 : ∀ k, F k → w0.heap.size ≤ k ∧ k < w.heap.size) (h4 : ∀ k, G k → w0.heap.size ≤ k ∧ k < w.heap.size) (h5 : ∀ k, F k → ¬ G k) (h6 : Below w0.heap.size w0 w) (h7 : ¬ F nb) (h8 : ¬ G nb) (h9 : w.heap[nb]? = some o)
    (k1 : BagS w' ga (grow F w w') za') (k2 : Only F w w') : BT w0 w' ga za' gb zb nb o := by
  have hn := (Array.getElem?_eq_some_iff.1 h9).1
  refine ⟨_, G, k1, h2.only k2 (fun k hg hf => h5 k hf hg), fun k hk => ?_, fun k hk => ⟨(h4 k hk).1, Nat.lt_of_lt_of_le (h4 k hk).2 k2.size⟩, fun k hk hg => ?_, h6.trans (k2.below h6.size (fun k hk => (h3 k hk).1)), fun hk => ?_, h8, (k2.block nb hn h7).trans h9⟩
  · rcases hk with hk | hk
    · exact ⟨(h3 k hk).1, Nat.lt_of_lt_of_le (h3 k hk).2 k2.size⟩
    · exact ⟨Nat.le_trans h6.size hk.1, hk.2⟩
  · rcases hk with hk | hk
    · exact h5 k hk hg
    · have := (h4 k hg).2; omega
  · rcases hk with hk | hk
    · exact h7 hk
    · omega
theorem BT.writeB {F G : Nat → Prop} {zb' : List Int} (h2 : BagS w ga F za) (h3 : ∀ k, F k → w0.heap.size ≤ k ∧ k < w.heap.size) (h4 : ∀ k, G k → w0.heap.size ≤ k ∧ k < w.heap.size) (h5 : ∀ k, F k → ¬ G k) (h6 : Below w0.heap.size w0 w) (h7 : ¬ F nb) (h8 : ¬ G nb) (h9 : w.heap[nb]? = some o)
    (k1 : Bag w' gb (grow G w w') zb') (k2 : Only G w w') : BT w0 w' ga za gb zb' nb o := by
  have hn := (Array.getElem?_eq_some_iff.1 h9).1
  refine ⟨F, _, h2.only k2 h5, k1, fun k hk => ⟨(h3 k hk).1, Nat.lt_of_lt_of_le (h3 k hk).2 k2.size⟩, fun k hk => ?_, fun k hk hg => ?_, h6.trans (k2.below h6.size (fun k hk => (h4 k hk).1)), h7, fun hk => ?_, (k2.block nb hn h8).trans h9⟩
  · rcases hk with hk | hk
    · exact ⟨(h4 k hk).1, Nat.lt_of_lt_of_le (h4 k hk).2 k2.size⟩
    · exact ⟨Nat.le_trans h6.size hk.1, hk.2⟩
  · rcases hg with hg | hg
    · exact h5 k hk hg
    · have := (h3 k hk).2; omega
  · rcases hk with hk | hk
    · exact h8 hk
    · omega
theorem putTA (x : Int) (w : World) (hx : 0 ≤ x ∧ x ≤ 127) (h : BT w0 w ga za gb zb nb o) (hl : za.length ≤ 900000) : Calls Try.prog 24 #[.pointer (some ⟨ga, 0, none⟩), .string (tx x)] w fun e w' => e = .returned (.bool (!hasL za x)) ∧ BT w0 w' ga (putL za x) gb zb nb o := by
  obtain ⟨F, G, h1, h2, h3, h4, h5, h6, h7, h8, h9⟩ := h
  exact (bputS_any x w hx h1 hl).mono fun e w' ⟨e1, e2, e3⟩ => ⟨e1, BT.writeA h2 h3 h4 h5 h6 h7 h8 h9 e2 e3⟩
theorem delTA (x : Int) (w : World) (hx : 0 ≤ x ∧ x ≤ 127) (h : BT w0 w ga za gb zb nb o) (hl : za.length ≤ 900000) : Calls Try.prog 25 #[.pointer (some ⟨ga, 0, none⟩), .string (tx x)] w fun e w' => e = .returned (.bool (hasL za x)) ∧ BT w0 w' ga (outL za x) gb zb nb o := by
  obtain ⟨F, G, h1, h2, h3, h4, h5, h6, h7, h8, h9⟩ := h
  exact (bdelS_any x w hx h1 (show za.length ≤ 1000000 by omega)).mono fun e w' ⟨e1, e2, e3⟩ => ⟨e1, BT.writeA h2 h3 h4 h5 h6 h7 h8 h9 e2 e3⟩
theorem putTB (x : Int) (w : World) (h : BT w0 w ga za gb zb nb o) (hl : zb.length ≤ 900000) : Calls Try.prog 19 #[.pointer (some ⟨gb, 0, none⟩), .int .i64 x] w fun e w' => e = .returned (.bool (!hasL zb x)) ∧ BT w0 w' ga za gb (putL zb x) nb o := by
  obtain ⟨F, G, h1, h2, h3, h4, h5, h6, h7, h8, h9⟩ := h
  exact (bputF_any x w h2 hl).mono fun e w' ⟨e1, e2, e3⟩ => ⟨e1, BT.writeB h1 h3 h4 h5 h6 h7 h8 h9 e2 e3⟩
theorem delTB (x : Int) (w : World) (h : BT w0 w ga za gb zb nb o) (hl : zb.length ≤ 900000) : Calls Try.prog 13 #[.pointer (some ⟨gb, 0, none⟩), .int .i64 x] w fun e w' => e = .returned (.bool (hasL zb x)) ∧ BT w0 w' ga za gb (outL zb x) nb o := by
  obtain ⟨F, G, h1, h2, h3, h4, h5, h6, h7, h8, h9⟩ := h
  exact (bdelF_any x w h2 (show zb.length ≤ 1000000 by omega)).mono fun e w' ⟨e1, e2, e3⟩ => ⟨e1, BT.writeB h1 h3 h4 h5 h6 h7 h8 h9 e2 e3⟩

theorem BT.bagA (h : BT w0 w ga za gb zb nb o) : ∃ v, BagSAt 0 w ga v za := by obtain ⟨F, G, ⟨v, h, _⟩, _⟩ := h; exact ⟨v, h⟩
theorem BT.bagB (h : BT w0 w ga za gb zb nb o) : ∃ v, BagAt 0 w gb v zb := by obtain ⟨F, G, _, ⟨v, h, _⟩, _⟩ := h; exact ⟨v, h⟩
/-- The same post, and no panic. -/
def noPanic (Q : Exit → Act → World → Prop) : Exit → Act → World → Prop
  | .panic _, _, _ => False
  | .normal, a, w => Q .normal a w
  | .ret, a, w => Q .ret a w
  | .exit i, a, w => Q (.exit i) a w
  | .goto l, a, w => Q (.goto l) a w
  | .outgrown, a, w => Q .outgrown a w
theorem wp_noPanic {P : Program} {c : Code} {Q : Exit → Act → World → Prop} {a : Act} {w : World} (h : c.wp P (noPanic Q) a w) : c.wp P Q a w :=
  wp_mono h (fun e a w h => by cases e <;> first | exact h | exact h.elim)
/-- A range over a function with one loop variable: the code ahead of a round moves it from slot p into slot q. -/
theorem range_one {α : Type} {F : Fence} {n : Nat} {P : Program} {g : Operand} {p q : Tmp} {assign body : Code} {Q : Exit → Act → World → Prop} {a : Act} {w : World}
    (hro : F.round = none) (h1 : 1 ≤ n) {gf : Nat} {lb : Array Value} (hg : a.eval g = .func (.func gf) #[] lb) (hFg : F.fn gf) (eg : ∀ args w, (callFunc gf args).run P w = .ok (.enter gf args) w)
    {enc : α → Value} {Kp : World → World → Prop} {S Sp : List α → Prop} {N : Nat} {w0 : World} (hseq : SeqStopsK F (n - 1) P gf lb (fun x => #[enc x]) Kp S Sp N w0)
    (hKt : ∀ {A B C : World}, Kp A B → Kp B C → Kp A C) (hKb : ∀ (W : World) (l : Nat) (o o' : Obj), w.heap.size ≤ l → W.heap[l]? = some o → o.isCells = false → o.isWalk = false → Kp W (W.putObj l o')) (hb0 : Below w0.heap.size w0 w)
    (I : List α → World → Prop) (Ix : Code → List α → World → Prop) (hI : OwnFrom w.heap.size I) (hIx : ∀ c, OwnFrom w.heap.size (Ix c)) (h0 : I [] w)
    (hassign : ∀ (l : Nat) (x : α) (W : World) (K : Act → World → Prop), K { tmps := (a.tmps.setIfInBounds p (enc x)).setIfInBounds q (enc x), defers := [] } W →
      assign.wpIn (F.inRound l) (n - 1 - 1) P (Exit.then K (fun _ _ _ => False)) { tmps := a.tmps.setIfInBounds p (enc x), defers := [] } W)
    (hbody : ∀ (l : Nat) (pre : List α) (x : α) (W : World), I pre W → pre.length < N → body.wpIn (F.inRound l) (n - 1 - 1) P (ownPostG w.heap.size Kp I Ix (pre ++ [x]) W) { tmps := (a.tmps.setIfInBounds p (enc x)).setIfInBounds q (enc x), defers := [] } W)
    (hdone : ∀ (D : Nat) (xs : List α) (W : World), w.heap.size ≤ D → S xs → I xs W → W.heap[D]? = some (.deferred (some [])) → Q .normal { a with defers := { target := .collected D, args := #[] } :: a.defers } W)
    (hstop : ∀ (D : Nat) (c : Code) (pre : List α) (W : World), w.heap.size ≤ D → Sp pre → Ix c pre W → W.heap[D]? = some (.deferred (some [])) → c.wpIn F n P Q { a with defers := { target := .collected D, args := #[] } :: a.defers } W) :
    (Code.rangeFunc g #[p] assign body).wpIn F n P Q a w :=
  wpIn_rangeFunc_ownG hro h1 hg hFg eg hseq hKt hKb hb0 (fun _ => rfl) I Ix hI hIx h0 (fun x => { tmps := (a.tmps.setIfInBounds p (enc x)).setIfInBounds q (enc x), defers := [] }) (fun l x W K hK => by have := hassign l x W K hK; simpa using this) hbody hdone hstop
end Go.Proofs.Ythfdigjbmoconaa
