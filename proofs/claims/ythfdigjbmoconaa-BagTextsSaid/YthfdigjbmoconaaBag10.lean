/-
  Bags, the document's bag, and one block more that none of them holds (an act's box).
-/
import Derived.Test.YthfdigjbmoconaaBag9
set_option linter.unusedSimpArgs false
set_option linter.unusedVariables false
namespace Go.Proofs.Ythfdigjbmoconaa
open Go.RowKit Go.Tr
variable {w w' w0 : World} {g g2 m nb : Nat} {F G : Nat → Prop} {zs zo zm : List Int} {l : List (Nat × List Int)} {o : Obj}
theorem bagsF_ref {Fs : Nat → Nat → Prop} (h : BagsF Fs w0 w l) (j0 : Nat) (hj0 : l.length ≤ j0) (ho : Only (Fs j0) w w') : BagsF (fun j => if j = j0 then grow (Fs j0) w w' else Fs j) w0 w' l := by
  obtain ⟨h1, h2, h3, h4⟩ := h
  have hs : ∀ k, Fs j0 k → w0.heap.size ≤ k := fun k hk => (h2 j0 k hk).1
  refine ⟨fun j p hp => ?_, fun j k hk => ?_, fun j j' k hne hk hk' => ?_, h4.trans (ho.below h4.size hs)⟩
  · have hj := (List.getElem?_eq_some_iff.1 hp).1
    simp only [if_neg (show ¬ j = j0 by omega)]
    exact (h1 j p hp).only ho (fun k hk hk' => h3 j j0 k (by omega) hk hk')
  · by_cases e : j = j0
    · simp only [if_pos e] at hk
      rcases hk with hk | hk
      · exact ⟨hs k hk, Nat.lt_of_lt_of_le (h2 j0 k hk).2 ho.size⟩
      · exact ⟨Nat.le_trans h4.size hk.1, hk.2⟩
    · simp only [if_neg e] at hk
      exact ⟨(h2 j k hk).1, Nat.lt_of_lt_of_le (h2 j k hk).2 ho.size⟩
  · by_cases e : j = j0
    · simp only [if_pos e] at hk
      simp only [if_neg (fun e' : j' = j0 => hne (e.trans e'.symm))] at hk'
      rcases hk with hk | hk
      · exact h3 j0 j' k (fun e' => hne (e.trans e')) hk hk'
      · have := (h2 j' k hk').2; omega
    · simp only [if_neg e] at hk
      by_cases e' : j' = j0
      · simp only [if_pos e'] at hk'
        rcases hk' with hk' | hk'
        · exact h3 j j0 k e hk hk'
        · have := (h2 j k hk).2; omega
      · simp only [if_neg e'] at hk'
        exact h3 j j' k hne hk hk'
theorem bagsF_new {Fs : Nat → Nat → Prop} (h : BagsF Fs w0 w l) (j0 : Nat) (hj0 : l.length ≤ j0) (hb : Below w.heap.size w w') : BagsF (fun j => if j = j0 then (fun k => w.heap.size ≤ k ∧ k < w'.heap.size) else Fs j) w0 w' l := by
  obtain ⟨h1, h2, h3, h4⟩ := h
  refine ⟨fun j p hp => ?_, fun j k hk => ?_, fun j j' k hne hk hk' => ?_, h4.trans (hb.mono h4.size)⟩
  · have hj := (List.getElem?_eq_some_iff.1 hp).1
    simp only [if_neg (show ¬ j = j0 by omega)]
    exact (h1 j p hp).below hb
  · by_cases e : j = j0
    · simp only [if_pos e] at hk
      exact ⟨Nat.le_trans h4.size hk.1, hk.2⟩
    · simp only [if_neg e] at hk
      exact ⟨(h2 j k hk).1, Nat.lt_of_lt_of_le (h2 j k hk).2 hb.size⟩
  · by_cases e : j = j0
    · simp only [if_pos e] at hk
      simp only [if_neg (fun e' : j' = j0 => hne (e.trans e'.symm))] at hk'
      have := (h2 j' k hk').2; omega
    · simp only [if_neg e] at hk
      by_cases e' : j' = j0
      · simp only [if_pos e'] at hk'
        have := (h2 j k hk).2; omega
      · simp only [if_neg e'] at hk'
        exact h3 j j' k hne hk hk'
theorem BL.start (h : Bags w0 w l) (hll : l.length ≤ 1000) : BL w0 (w.alloc (.cells #[.slice none 0 0] 53)) l w.heap.size [] := by
  obtain ⟨Fs, h⟩ := h
  have hb : Below w.heap.size w (w.alloc (.cells #[.slice none 0 0] 53)) := (Below.refl _ w).alloc (Nat.le_refl _) _
  refine ⟨_, ⟨_, bagsF_new (Fs := Fs) h 1000 hll hb, rfl⟩, .slice none 0 0, ?_, heap_alloc_new w _, OwnO.nil _ _, fun k hk => by simp [Value.ownBlock] at hk⟩
  simp

/-- .. and at nb the block o, which none of them holds. -/
def BX (w0 w : World) (l : List (Nat × List Int)) (m : Nat) (zm : List Int) (nb : Nat) (o : Obj) : Prop := ∃ Fs, BagsF Fs w0 w l ∧ LstP 53 w m (Fs 1000) zm ∧ Fs 2000 nb ∧ w.heap[nb]? = some o
theorem BX.bl (h : BX w0 w l m zm nb o) : BL w0 w l m zm := by obtain ⟨Fs, h1, h2, _⟩ := h; exact ⟨_, ⟨Fs, h1, rfl⟩, h2⟩
theorem BX.below (h : BX w0 w l m zm nb o) : Below w0.heap.size w0 w := h.bl.below
theorem BX.block (h : BX w0 w l m zm nb o) : w.heap[nb]? = some o := by obtain ⟨_, _, _, _, h⟩ := h; exact h
theorem BX.read (h : BX w0 w l m zm nb o) (hb : Below w.heap.size w w') : BX w0 w' l m zm nb o := by
  obtain ⟨Fs, ⟨h1, h2, h3, h4⟩, h5, h6, h7⟩ := h
  exact ⟨Fs, ⟨fun i p hp => (h1 i p hp).below hb, fun i k hk => ⟨(h2 i k hk).1, Nat.lt_of_lt_of_le (h2 i k hk).2 hb.size⟩, h3, h4.trans (hb.mono h4.size)⟩, h5.below hb, h6, (hb.block nb (Array.getElem?_eq_some_iff.1 h7).1).trans h7⟩
theorem BX.drop {p : Nat × List Int} (h : BX w0 w (l ++ [p]) m zm nb o) : BX w0 w l m zm nb o := by
  obtain ⟨Fs, ⟨h1, h2, h3, h4⟩, h5⟩ := h
  exact ⟨Fs, ⟨fun i q hq => h1 i q (by rw [List.getElem?_append_left (List.getElem?_eq_some_iff.1 hq).1]; exact hq), h2, h3, h4⟩, h5⟩
theorem BL.box (h : BL w0 w l m zm) (hll : l.length ≤ 1000) (cs : Array Value) (T : TypeId) : BX w0 (w.alloc (.cells cs T)) l m zm w.heap.size (.cells cs T (0, 0)) := by
  obtain ⟨Y, ⟨Fs, h1, rfl⟩, h2⟩ := h
  have hb : Below w.heap.size w (w.alloc (.cells cs T)) := (Below.refl _ w).alloc (Nat.le_refl _) _
  exact ⟨_, bagsF_new h1 2000 (by omega) hb, by simpa using h2.below hb, by simp, heap_alloc_new w _⟩
theorem BX.write {Fs : Nat → Nat → Prop} {i : Nat} {zs' : List Int} (h : BagsF Fs w0 w l) (hi : i ≠ 1000) (hi2 : i ≠ 2000) (hl : LstP 53 w m (Fs 1000) zm) (h6 : Fs 2000 nb) (h7 : w.heap[nb]? = some o) (k1 : Bag w' g (grow (Fs i) w w') zs') (k2 : Only (Fs i) w w') : BX w0 w' (l.set i (g, zs')) m zm nb o := by
  refine ⟨_, bagsF_write h k1 k2, ?_, ?_, ?_⟩
  · simp only [if_neg (fun e : (1000 : Nat) = i => hi e.symm)]
    exact lstP_keptY hl (fun k hk => k2.block k (h.2.1 1000 k hk).2 (fun hf => h.2.2.1 i 1000 k hi hf hk))
  · simp only [if_neg (fun e : (2000 : Nat) = i => hi2 e.symm)]; exact h6
  · exact (k2.block nb (h.2.1 2000 nb h6).2 (fun hf => h.2.2.1 i 2000 nb hi2 hf h6)).trans h7
theorem newX (a : Option Addr) (n c : Nat) (zs : List Int) (w : World) (h : SeqAt w a (ints zs)) (hl : zs.length = n) (hs : n ≤ 900000) (hB : BX w0 w l m zm nb o) (hll : l.length < 1000) :
    Calls Try.prog 9 #[.slice a n c] w fun e w' => ∃ g, e = .returned (.pointer (some ⟨g, 0, none⟩)) ∧ BX w0 w' (l ++ [(g, setL zs)]) m zm nb o := by
  refine (bnew_any a n c zs w h hl (by omega)).mono ?_
  rintro e w' ⟨g, v, rfl, hb, hbl⟩
  obtain ⟨Fs, hF, hlst, h6, h7⟩ := hB
  obtain ⟨h1, h2, h3, h4⟩ := bagsF_new hF l.length (Nat.le_refl _) hbl
  refine ⟨g, rfl, _, ⟨fun j p hp => ?_, h2, h3, h4⟩, ?_, ?_, (hbl.block nb (Array.getElem?_eq_some_iff.1 h7).1).trans h7⟩
  · have hlt := (List.getElem?_eq_some_iff.1 hp).1
    simp at hlt
    by_cases e : j = l.length
    · subst e
      rw [List.getElem?_append_right (Nat.le_refl _)] at hp
      simp at hp
      subst hp
      simp only [if_true]
      exact ⟨v, ⟨hb.block, ownsRow_mono hb.own (Nat.zero_le _), hb.ne, Nat.zero_le _, hb.rises⟩, ⟨hb.newg, hb.lt⟩, fun k hk => hb.own.lt k hk⟩
    · rw [List.getElem?_append_left (by omega)] at hp
      exact h1 j p hp
  · simp only [if_neg (show ¬ 1000 = l.length by omega)]; exact hlst.below hbl
  · simp only [if_neg (show ¬ 2000 = l.length by omega)]; exact h6
theorem putX (i : Nat) (x : Int) (w : World) (h : BX w0 w l m zm nb o) (hi : l[i]? = some (g, zs)) (hl : zs.length ≤ 900000) (hne : i ≠ 1000) (hne2 : i ≠ 2000) : Calls Try.prog 19 #[.pointer (some ⟨g, 0, none⟩), .int .i64 x] w fun e w' => e = .returned (.bool (!hasL zs x)) ∧ BX w0 w' (l.set i (g, putL zs x)) m zm nb o := by
  obtain ⟨Fs, h, hlst, h6, h7⟩ := h
  exact (bputF_any x w (h.1 i _ hi) hl).mono fun e w' ⟨e1, e2, e3⟩ => ⟨e1, BX.write h hne hne2 hlst h6 h7 e2 e3⟩
theorem delX (i : Nat) (x : Int) (w : World) (h : BX w0 w l m zm nb o) (hi : l[i]? = some (g, zs)) (hl : zs.length ≤ 900000) (hne : i ≠ 1000) (hne2 : i ≠ 2000) : Calls Try.prog 13 #[.pointer (some ⟨g, 0, none⟩), .int .i64 x] w fun e w' => e = .returned (.bool (hasL zs x)) ∧ BX w0 w' (l.set i (g, outL zs x)) m zm nb o := by
  obtain ⟨Fs, h, hlst, h6, h7⟩ := h
  exact (bdelF_any x w (h.1 i _ hi) (show zs.length ≤ 1000000 by omega)).mono fun e w' ⟨e1, e2, e3⟩ => ⟨e1, BX.write h hne hne2 hlst h6 h7 e2 e3⟩
theorem joinX (i j : Nat) (w : World) (h : BX w0 w l m zm nb o) (hi : l[i]? = some (g, zs)) (hj : l[j]? = some (g2, zo)) (hl : zs.length ≤ 400000) (hl2 : zo.length ≤ 400000) (hne : i ≠ 1000) (hne2 : i ≠ 2000) : Calls Try.prog 16 #[.pointer (some ⟨g, 0, none⟩), .pointer (some ⟨g2, 0, none⟩)] w fun e w' => e = .returned (.tuple #[]) ∧ BX w0 w' (l.set i (g, setL (zs ++ zo))) m zm nb o := by
  obtain ⟨Fs, h, hlst, h6, h7⟩ := h
  obtain ⟨vo, hb, _⟩ := h.1 j _ hj
  exact (bjoinF_any w (h.1 i _ hi) hb (show zs.length ≤ 400000 from hl) hl2).mono fun e w' ⟨e1, e2, e3⟩ => ⟨e1, BX.write h hne hne2 hlst h6 h7 e2 e3⟩
theorem lessX (i j : Nat) (w : World) (h : BX w0 w l m zm nb o) (hi : l[i]? = some (g, zs)) (hj : l[j]? = some (g2, zo)) (hl : zs.length ≤ 1000000) (hl2 : zo.length ≤ 1000000) (hne : i ≠ 1000) (hne2 : i ≠ 2000) : Calls Try.prog 17 #[.pointer (some ⟨g, 0, none⟩), .pointer (some ⟨g2, 0, none⟩)] w fun e w' => e = .returned (.tuple #[]) ∧ BX w0 w' (l.set i (g, lessL zs zo)) m zm nb o := by
  obtain ⟨Fs, h, hlst, h6, h7⟩ := h
  obtain ⟨vo, hb, _⟩ := h.1 j _ hj
  exact (blessF_any w (h.1 i _ hi) hb (show zs.length ≤ 1000000 from hl) hl2).mono fun e w' ⟨e1, e2, e3⟩ => ⟨e1, BX.write h hne hne2 hlst h6 h7 e2 e3⟩
theorem BX.ref {Fs : Nat → Nat → Prop} {zm' : List Int} (h : BagsF Fs w0 w l) (hll : l.length ≤ 1000) (h6 : Fs 2000 nb) (h7 : w.heap[nb]? = some o) (k1 : LstP 53 w' m (grow (Fs 1000) w w') zm') (k2 : Only (Fs 1000) w w') : BX w0 w' l m zm' nb o :=
  ⟨_, bagsF_ref h 1000 hll k2, by simpa using k1, by simpa using h6, (k2.block nb (h.2.1 2000 nb h6).2 (fun hf => h.2.2.1 1000 2000 nb (by decide) hf h6)).trans h7⟩
theorem mputX (x : Int) (w : World) (h : BX w0 w l m zm nb o) (hll : l.length ≤ 1000) (hs : zm.length ≤ 900000) : Calls Try.prog 29 #[.pointer (some ⟨m, 0, none⟩), .int .i64 x] w fun e w' => e = .returned (.bool (!hasL zm x)) ∧ BX w0 w' l m (addL zm x) nb o := by
  obtain ⟨Fs, h1, h2, h6, h7⟩ := h
  exact (mput_any x w h2 hs).mono fun e w' ⟨e1, e2, e3⟩ => ⟨e1, BX.ref h1 hll h6 h7 e2 e3⟩
theorem mdelX (x : Int) (w : World) (h : BX w0 w l m zm nb o) (hll : l.length ≤ 1000) (hs : zm.length ≤ 900000) : Calls Try.prog 30 #[.pointer (some ⟨m, 0, none⟩), .int .i64 x] w fun e w' => e = .returned (.bool (hasL zm x)) ∧ BX w0 w' l m (outL zm x) nb o := by
  obtain ⟨Fs, h1, h2, h6, h7⟩ := h
  exact (mdel_any x w h2 hs).mono fun e w' ⟨e1, e2, e3⟩ => ⟨e1, BX.ref h1 hll h6 h7 e2 e3⟩

/-! What is in both: the plain part. -/
def addsL (zm L : List Int) : List Int := L.foldl addL zm
def outsL (zm L : List Int) : List Int := L.foldl outL zm
theorem addsL_snoc (zm L : List Int) (x : Int) : addsL zm (L ++ [x]) = addL (addsL zm L) x := by simp [addsL]
theorem outsL_snoc (zm L : List Int) (x : Int) : outsL zm (L ++ [x]) = outL (outsL zm L) x := by simp [outsL]
theorem mem_addL {zm : List Int} {x y : Int} : y ∈ addL zm x ↔ y ∈ zm ∨ y = x := by
  unfold addL
  by_cases h : hasL zm x = true
  · rw [if_pos h]; exact ⟨Or.inl, fun h' => h'.elim id (fun e => by rw [e]; exact (hasL_iff _ _).1 h)⟩
  · rw [if_neg h]; simp
theorem addL_nodup {zm : List Int} (h : zm.Nodup) (x : Int) : (addL zm x).Nodup := by
  unfold addL
  by_cases hx : hasL zm x = true
  · rw [if_pos hx]; exact h
  · rw [if_neg hx]
    refine List.nodup_append.2 ⟨h, by simp, fun a ha b hb e => ?_⟩
    simp at hb
    subst e; subst hb
    exact hx (hasL_true ha)
theorem addL_length (zm : List Int) (x : Int) : (addL zm x).length ≤ zm.length + 1 := by unfold addL; split <;> simp
theorem mem_addsL {zm : List Int} {y : Int} : ∀ {L : List Int}, y ∈ addsL zm L ↔ y ∈ zm ∨ y ∈ L := by
  intro L
  induction L generalizing zm with
  | nil => simp [addsL]
  | cons x L ih =>
    show y ∈ addsL (addL zm x) L ↔ _
    rw [ih, mem_addL, List.mem_cons]
    exact or_assoc
theorem addsL_nodup : ∀ {L zm : List Int}, zm.Nodup → (addsL zm L).Nodup
  | [], _, h => h
  | x :: L, zm, h => addsL_nodup (L := L) (zm := addL zm x) (addL_nodup h x)
theorem addsL_length : ∀ (L zm : List Int), (addsL zm L).length ≤ zm.length + L.length
  | [], _ => by simp [addsL]
  | x :: L, zm => by
    have h1 := addsL_length L (addL zm x)
    have h2 := addL_length zm x
    show (addsL (addL zm x) L).length ≤ _
    simp; omega
theorem mem_outsL {zm : List Int} {y : Int} : ∀ {L : List Int}, y ∈ outsL zm L ↔ y ∈ zm ∧ y ∉ L := by
  intro L
  induction L generalizing zm with
  | nil => simp [outsL]
  | cons x L ih =>
    show y ∈ outsL (outL zm x) L ↔ _
    rw [ih, mem_outL, List.mem_cons, not_or]
    exact and_assoc
theorem outsL_nodup : ∀ {L zm : List Int}, zm.Nodup → (outsL zm L).Nodup
  | [], _, h => h
  | x :: L, zm, h => outsL_nodup (L := L) (zm := outL zm x) (h.filter _)
theorem outsL_length : ∀ (L zm : List Int), (outsL zm L).length ≤ zm.length
  | [], _ => by simp [outsL]
  | x :: L, zm => by
    have h1 := outsL_length L (outL zm x)
    have h2 : (outL zm x).length ≤ zm.length := List.length_filter_le _ _
    show (outsL (outL zm x) L).length ≤ _
    omega
/-- The bag's list and the document's. -/
structure AgB (zb zm : List Int) (N : Nat) : Prop where
  rises : zb.Pairwise (· < ·)
  mem : ∀ y, y ∈ zb ↔ y ∈ zm
  nodup : zm.Nodup
  le : zm.length ≤ N
variable {zb : List Int} {N : Nat}
theorem AgB.len (h : AgB zb zm N) : zb.length = zm.length := by
  have h1 := length_of_sub (h.rises.imp (fun {a b} (h : a < b) => (by omega : a ≠ b))) (fun y hy => (h.mem y).1 hy)
  have h2 := length_of_sub h.nodup (fun y hy => (h.mem y).2 hy)
  omega
theorem AgB.has (h : AgB zb zm N) (x : Int) : hasL zb x = hasL zm x := by
  rw [Bool.eq_iff_iff, hasL_iff, hasL_iff]; exact h.mem x
theorem AgB.mono {N' : Nat} (h : AgB zb zm N) (hn : N ≤ N') : AgB zb zm N' := ⟨h.rises, h.mem, h.nodup, Nat.le_trans h.le hn⟩
theorem AgB.start (L : List Int) : AgB (setL L) (addsL [] L) L.length :=
  ⟨setL_rises L, fun y => by rw [mem_setL, mem_addsL]; simp, addsL_nodup List.nodup_nil, by have := addsL_length L []; simpa using this⟩
theorem AgB.put (h : AgB zb zm N) (x : Int) : AgB (putL zb x) (addL zm x) (N + 1) :=
  ⟨putL_rises h.rises x, fun y => by rw [mem_putL, mem_addL, h.mem], addL_nodup h.nodup x, by have := addL_length zm x; have := h.le; omega⟩
theorem AgB.del (h : AgB zb zm N) (x : Int) : AgB (outL zb x) (outL zm x) N :=
  ⟨outL_rises h.rises x, fun y => by rw [mem_outL, mem_outL, h.mem], h.nodup.filter _, Nat.le_trans (List.length_filter_le _ _) h.le⟩
theorem AgB.join (h : AgB zb zm N) (L : List Int) : AgB (setL (zb ++ setL L)) (addsL zm L) (N + L.length) :=
  ⟨setL_rises _, fun y => by rw [mem_setL, List.mem_append, mem_setL, mem_addsL, h.mem], addsL_nodup h.nodup, by have := addsL_length L zm; have := h.le; omega⟩
theorem AgB.less (h : AgB zb zm N) (L : List Int) : AgB (lessL zb (setL L)) (outsL zm L) N :=
  ⟨h.rises.filter _, fun y => by rw [mem_lessL, mem_setL, mem_outsL, h.mem], outsL_nodup h.nodup, Nat.le_trans (outsL_length L zm) h.le⟩
theorem AgB.set (h : AgB zb zm N) : zb = setL zm := rises_eq h.rises (setL_rises zm) (fun y => by rw [mem_setL]; exact h.mem y)
end Go.Proofs.Ythfdigjbmoconaa
