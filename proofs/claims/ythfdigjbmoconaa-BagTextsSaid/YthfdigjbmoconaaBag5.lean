/-
  Package bag at int: Put; some bags beside each other.
-/
import Derived.Test.YthfdigjbmoconaaBag4
set_option linter.unusedSimpArgs false
set_option linter.unusedVariables false
namespace Go.Proofs.Ythfdigjbmoconaa
open Go.RowKit Go.Tr

/-- What a bag has when x has been put. -/
def putL (zs : List Int) (x : Int) : List Int := if hasL zs x = true then zs else insL zs (posL zs x) x
theorem posL_low {zs : List Int} (hr : zs.Pairwise (· < ·)) (x : Int) : (∀ z ∈ zs.take (posL zs x), z < x) ∧ ∀ z ∈ zs.drop (posL zs x), x ≤ z := by
  induction zs with
  | nil => simp
  | cons y t ih =>
    obtain ⟨h1, h2⟩ := List.pairwise_cons.1 hr
    obtain ⟨i1, i2⟩ := ih h2
    by_cases hy : y < x
    · have e : posL (y :: t) x = posL t x + 1 := by unfold posL; rw [List.countP_cons]; simp [hy]
      rw [e]
      refine ⟨fun z hz => ?_, fun z hz => i2 z (by simpa using hz)⟩
      rw [List.take_succ_cons] at hz
      rcases List.mem_cons.1 hz with rfl | hz
      · exact hy
      · exact i1 z hz
    · have e0 : posL t x = 0 := List.countP_eq_zero.2 (fun z hz => by have := h1 z hz; simp; omega)
      have e : posL (y :: t) x = 0 := by
        have : posL (y :: t) x = posL t x + 0 := by unfold posL; rw [List.countP_cons]; simp; omega
        rw [this, e0]
      rw [e]
      refine ⟨fun z hz => by simp at hz, fun z hz => ?_⟩
      simp at hz
      rcases hz with rfl | hz
      · omega
      · have := h1 z hz; omega
theorem putL_rises {zs : List Int} (hr : zs.Pairwise (· < ·)) (x : Int) : (putL zs x).Pairwise (· < ·) := by
  unfold putL
  by_cases h : hasL zs x = true
  · rw [if_pos h]; exact hr
  · rw [if_neg h]
    have hn : x ∉ zs := fun hx => h (hasL_true hx)
    obtain ⟨h1, h2⟩ := posL_low hr x
    unfold insL
    have ht := List.take_append_drop (posL zs x) zs
    rw [← ht] at hr
    obtain ⟨a, b, c⟩ := List.pairwise_append.1 hr
    refine List.pairwise_append.2 ⟨by simpa using a, List.pairwise_cons.2 ⟨fun z hz => ?_, by simpa using b⟩, fun y hy z hz => ?_⟩
    · have := h2 z hz
      have hne : z ≠ x := fun e => hn (by rw [← e]; exact List.mem_of_mem_drop hz)
      omega
    · rcases List.mem_cons.1 hz with rfl | hz
      · exact h1 y hy
      · have := h1 y hy; have := h2 z hz; omega
theorem mem_putL {zs : List Int} {x y : Int} : y ∈ putL zs x ↔ y ∈ zs ∨ y = x := by
  unfold putL
  by_cases h : hasL zs x = true
  · rw [if_pos h]
    exact ⟨Or.inl, fun h' => h'.elim id (fun e => by subst e; exact (hasL_iff _ _).1 h)⟩
  · rw [if_neg h]
    unfold insL
    rw [List.mem_append, List.mem_cons]
    have ht := List.take_append_drop (posL zs x) zs
    have : y ∈ zs ↔ y ∈ zs.take (posL zs x) ∨ y ∈ zs.drop (posL zs x) := by rw [← List.mem_append, ht]
    rw [this]
    constructor
    · rintro (h | rfl | h)
      · exact Or.inl (Or.inl h)
      · exact Or.inr rfl
      · exact Or.inl (Or.inr h)
    · rintro ((h | h) | rfl)
      · exact Or.inl h
      · exact Or.inr (Or.inr h)
      · exact Or.inr (Or.inl rfl)
theorem putL_length (zs : List Int) (x : Int) : (putL zs x).length ≤ zs.length + 1 := by
  unfold putL
  split
  · omega
  · rw [insL_length x (posL_le zs x)]; omega
variable {w w' w0 : World} {g : Nat} {F G : Nat → Prop} {zs : List Int}
set_option maxRecDepth 100000 in
set_option maxHeartbeats 2000000 in
theorem bputF_any (x : Int) (w : World) (h : Bag w g F zs) (hl : zs.length ≤ 900000) : Calls Try.prog 19 #[.pointer (some ⟨g, 0, none⟩), .int .i64 x] w fun e w' => e = .returned (.bool (!hasL zs x)) ∧ Bag w' g (grow F w w') (putL zs x) ∧ Only F w w' := by
  have HB0 := Lib.hid h
  obtain ⟨v, hb, hF, hFv⟩ := h
  obtain ⟨c0, f0⟩ := hb.head
  obtain ⟨a, c, rfl, hs⟩ := hb.seq
  have HS := Lib.hid hs
  have HR : Hid (zs.Pairwise (· ≤ ·)) := rises_le hb.rises
  have HBG := Lib.hid hb
  by_cases hx : hasL zs x = true
  · have HX := Lib.hid hx
    have HE : Hid (putL zs x = zs) := by show _ = _; unfold putL; rw [if_pos hx]
    rw [HX.out, HE.out]
    clear hb hs hx HE
    go_enter Try.func19, Try.ntmps19
    go_wp2_with fail
    refine (search_any a _ c zs x _ HS.out rfl (by omega) HR.out).mono ?_
    rintro e w1 ⟨rfl, hd⟩
    rw [HX.out]
    have HD := Lib.hid (hd.below w.heap.size)
    generalize List.countP _ zs = cc
    clear hd
    go_wp2_with fail
    go_ret
    exact ⟨rfl, (HB0.out.below HD.out).mono (fun k hk => Or.inl hk), Only.of_below HD.out F⟩
  · have HX : Hid (hasL zs x = false) := by show _ = _; simpa using hx
    have HYR : Hid ((putL zs x).Pairwise (· < ·)) := putL_rises hb.rises x
    have HE : Hid (putL zs x = insL zs (posL zs x) x) := by show _ = _; unfold putL; rw [if_neg hx]
    have hple := posL_le zs x
    obtain ⟨p, hp⟩ : ∃ p, p = posL zs x := ⟨_, rfl⟩
    have HPP : Hid (zs.countP (· < x) = p) := hp.symm
    rw [← hp] at HE hple
    obtain ⟨ys, hys⟩ : ∃ ys, ys = putL zs x := ⟨_, rfl⟩
    rw [← hys] at HE HYR ⊢
    rw [HX.out]
    clear hb hs hx hp hys
    go_enter Try.func19, Try.ntmps19
    go_wp2_with fail
    refine (search_any a _ c zs x _ HS.out rfl (by omega) HR.out).mono ?_
    rintro e w1 ⟨rfl, hd⟩
    rw [HPP.out, HX.out]
    have HB1 := Lib.hid (HBG.out.below (hd.below _))
    have HD := Lib.hid (hd.below w.heap.size)
    obtain ⟨c1, f1⟩ := HB1.out.head
    clear hd c0 f0
    go_wp2_with fail
    have HB2 := Lib.hid (HB1.out.below ((Below.refl _ w1).alloc (Nat.le_refl _) (.cells #[.int .i64 x] 3)))
    refine (insert_own 0 (.slice a zs.length c) zs p x w1.heap.size _ HB2.out.own hple (heap_alloc_new w1 _) (fun e => by have := (HB1.out.own.lt _ e).2; omega) (by omega) (Nat.zero_le _)).mono ?_
    rintro e w2 ⟨v', rfl, ho, hon, hf⟩
    rw [← HE.out] at ho
    have hgl := HB1.out.lt
    have hgg : w2.heap[g]? = w1.heap[g]? := (hon.block g (by simp; omega) (fun e => HB1.out.ne e)).trans (Below.heap_alloc w1 _ _ hgl)
    have c2 : w2.cell? ⟨g, 0, none⟩ = some (.slice a zs.length c) := by rw [World.cell?_of_block (a := ⟨g, 0, none⟩) (w := w1) hgg]; exact c1
    have f2 : w2.frozen? ⟨g, 0, none⟩ = false := by rw [World.frozen?_of_block (a := ⟨g, 0, none⟩) (w := w1) hgg]; exact f1
    have HO2 : Hid (Only F w1 w2) := ((Only.refl F w1).alloc _).trans (hon.mono (fun k hk => hFv k hk)) (fun k hk => Or.inl hk)
    have HST := Lib.hid (HB1.out.store hF hFv HO2.out hgg ho HYR.out (fun k hk => (hf k hk).imp id (fun h => by simp at h; omega)))
    obtain ⟨va, vc, rfl, -, -, -⟩ := ownsRow_seq ho
    clear ho hon hf hgg c1 f1 hgl
    go_wp2_with fail
    go_ret
    exact ⟨rfl, HST.out.1.mono (fun k hk => hk.imp id (fun h => ⟨Nat.le_trans HD.out.size h.1, h.2⟩)), (Only.of_below HD.out F).trans HST.out.2 (fun k hk => Or.inl hk)⟩

/-- Since w0 the call has made these bags, each in blocks of its own. -/
def Bags (w0 w : World) (l : List (Nat × List Int)) : Prop := ∃ Fs : Nat → Nat → Prop, (∀ i p, l[i]? = some p → Bag w p.1 (Fs i) p.2) ∧ (∀ i k, Fs i k → w0.heap.size ≤ k ∧ k < w.heap.size) ∧ (∀ i j k, i ≠ j → Fs i k → ¬ Fs j k) ∧ Below w0.heap.size w0 w
variable {l : List (Nat × List Int)}
theorem Bags.below (h : Bags w0 w l) : Below w0.heap.size w0 w := by obtain ⟨_, _, _, _, h⟩ := h; exact h
theorem Bags.read (h : Bags w0 w l) (hb : Below w.heap.size w w') : Bags w0 w' l := by
  obtain ⟨Fs, h1, h2, h3, h4⟩ := h
  exact ⟨Fs, fun i p hp => (h1 i p hp).below hb, fun i k hk => ⟨(h2 i k hk).1, Nat.lt_of_lt_of_le (h2 i k hk).2 hb.size⟩, h3, h4.trans (hb.mono h4.size)⟩
theorem Bags.drawn (h : Bags w0 w l) (hd : Drawn w w') : Bags w0 w' l := h.read (hd.below _)
theorem Bags.none (h : Below w0.heap.size w0 w) : Bags w0 w [] := ⟨fun _ _ => False, fun i p hp => by simp at hp, fun _ _ h => h.elim, fun _ _ _ _ h => h.elim, h⟩
theorem Bags.rises (h : Bags w0 w l) {i : Nat} (hi : l[i]? = some (g, zs)) : zs.Pairwise (· < ·) := by obtain ⟨Fs, h1, _⟩ := h; exact (h1 i _ hi).rises
theorem Bags.write {Fs : Nat → Nat → Prop} {i : Nat} {zs' : List Int} (h1 : ∀ i p, l[i]? = some p → Bag w p.1 (Fs i) p.2) (h2 : ∀ i k, Fs i k → w0.heap.size ≤ k ∧ k < w.heap.size) (h3 : ∀ i j k, i ≠ j → Fs i k → ¬ Fs j k) (h4 : Below w0.heap.size w0 w)
    (k1 : Bag w' g (grow (Fs i) w w') zs') (k2 : Only (Fs i) w w') : Bags w0 w' (l.set i (g, zs')) := by
  have hs : ∀ k, Fs i k → w0.heap.size ≤ k := fun k hk => (h2 i k hk).1
  refine ⟨fun j => if j = i then grow (Fs i) w w' else Fs j, fun j p hp => ?_, fun j k hk => ?_, fun j j' k hne hk hk' => ?_, h4.trans (k2.below h4.size hs)⟩
  · by_cases e : j = i
    · subst e
      have hlt := (List.getElem?_eq_some_iff.1 hp).1
      rw [List.getElem?_set_self (by simpa using hlt)] at hp
      cases hp
      simpa using k1
    · rw [List.getElem?_set_ne (fun e' => e e'.symm)] at hp
      simp only [if_neg e]
      exact (h1 j p hp).only k2 (fun k hk hk' => h3 j i k e hk hk')
  · by_cases e : j = i
    · simp only [if_pos e] at hk
      rcases hk with hk | hk
      · exact ⟨hs k hk, Nat.lt_of_lt_of_le (h2 i k hk).2 k2.size⟩
      · exact ⟨Nat.le_trans h4.size hk.1, hk.2⟩
    · simp only [if_neg e] at hk
      exact ⟨(h2 j k hk).1, Nat.lt_of_lt_of_le (h2 j k hk).2 k2.size⟩
  · by_cases e : j = i
    · simp only [if_pos e] at hk
      simp only [if_neg (fun e' : j' = i => hne (e.trans e'.symm))] at hk'
      rcases hk with hk | hk
      · exact h3 i j' k (fun e' => hne (e.trans e')) hk hk'
      · have := (h2 j' k hk').2; omega
    · simp only [if_neg e] at hk
      by_cases e' : j' = i
      · simp only [if_pos e'] at hk'
        rcases hk' with hk' | hk'
        · exact h3 i j k (fun e2 => e e2.symm) hk' hk
        · have := (h2 j k hk).2; omega
      · simp only [if_neg e'] at hk'
        exact h3 j j' k hne hk hk'
theorem newB (a : Option Addr) (n c : Nat) (zs : List Int) (w : World) (h : SeqAt w a (ints zs)) (hl : zs.length = n) (hs : n ≤ 900000) (hB : Bags w0 w l) :
    Calls Try.prog 9 #[.slice a n c] w fun e w' => ∃ g, e = .returned (.pointer (some ⟨g, 0, none⟩)) ∧ Bags w0 w' (l ++ [(g, setL zs)]) ∧ Below w.heap.size w w' := by
  refine (bnew_any a n c zs w h hl (by omega)).mono ?_
  rintro e w' ⟨g, v, rfl, hb, hbl⟩
  obtain ⟨Fs, h1, h2, h3, h4⟩ := hB
  refine ⟨g, rfl, ⟨fun j => if j < l.length then Fs j else if j = l.length then fun k => w.heap.size ≤ k ∧ k < w'.heap.size else fun _ => False, fun j p hp => ?_, fun j k hk => ?_, fun j j' k hne hk hk' => ?_, h4.trans (hbl.mono h4.size)⟩, hbl⟩
  · by_cases e : j < l.length
    · simp only [if_pos e]
      rw [List.getElem?_append_left e] at hp
      exact (h1 j p hp).below hbl
    · have hlt := (List.getElem?_eq_some_iff.1 hp).1
      simp at hlt
      have e2 : j = l.length := by omega
      subst e2
      rw [List.getElem?_append_right (Nat.le_refl _)] at hp
      simp at hp
      subst hp
      simp only [if_neg (Nat.lt_irrefl _), if_true]
      exact ⟨v, ⟨hb.block, ownsRow_mono hb.own (Nat.zero_le _), hb.ne, Nat.zero_le _, hb.rises⟩, ⟨hb.newg, hb.lt⟩, fun k hk => hb.own.lt k hk⟩
  · by_cases e : j < l.length
    · simp only [if_pos e] at hk
      exact ⟨(h2 j k hk).1, Nat.lt_of_lt_of_le (h2 j k hk).2 hbl.size⟩
    · simp only [if_neg e] at hk
      by_cases e2 : j = l.length
      · simp only [if_pos e2] at hk
        exact ⟨Nat.le_trans h4.size hk.1, hk.2⟩
      · simp only [if_neg e2] at hk
  · by_cases e : j < l.length
    · simp only [if_pos e] at hk
      by_cases e' : j' < l.length
      · simp only [if_pos e'] at hk'
        exact h3 j j' k hne hk hk'
      · simp only [if_neg e'] at hk'
        by_cases e2 : j' = l.length
        · simp only [if_pos e2] at hk'
          have := (h2 j k hk).2; omega
        · simp only [if_neg e2] at hk'
    · simp only [if_neg e] at hk
      by_cases e1 : j = l.length
      · simp only [if_pos e1] at hk
        by_cases e' : j' < l.length
        · simp only [if_pos e'] at hk'
          have := (h2 j' k hk').2; omega
        · simp only [if_neg e'] at hk'
          by_cases e2 : j' = l.length
          · omega
          · simp only [if_neg e2] at hk'
      · simp only [if_neg e1] at hk
theorem lenB (i : Nat) (w : World) (h : Bags w0 w l) (hi : l[i]? = some (g, zs)) : Calls Try.prog 15 #[.pointer (some ⟨g, 0, none⟩)] w fun e w' => e = .returned (.int .i64 zs.length) ∧ w = w' := by
  obtain ⟨Fs, h1, _⟩ := h
  obtain ⟨v, hb, _⟩ := h1 i _ hi
  exact blen_any w hb
theorem hasB (i : Nat) (x : Int) (w : World) (h : Bags w0 w l) (hi : l[i]? = some (g, zs)) (hl : zs.length ≤ 1000000) : Calls Try.prog 14 #[.pointer (some ⟨g, 0, none⟩), .int .i64 x] w fun e w' => e = .returned (.bool (hasL zs x)) ∧ Bags w0 w' l ∧ Drawn w w' := by
  have h' := h
  obtain ⟨Fs, h1, _⟩ := h
  obtain ⟨v, hb, _⟩ := h1 i _ hi
  exact (bhas_any x w hb hl).mono fun e w' ⟨e1, e2⟩ => ⟨e1, h'.drawn e2, e2⟩
theorem allB (i : Nat) (w : World) (h : Bags w0 w l) (hi : l[i]? = some (g, zs)) (hl : zs.length ≤ 1000000) : Calls Try.prog 11 #[.pointer (some ⟨g, 0, none⟩)] w fun e w' => ∃ a c, e = .returned (.slice a zs.length c) ∧ w'.ownsRow w.heap.size 3 1 (.slice a zs.length c) zs.length (ints zs) ∧ Bags w0 w' l ∧ Below w.heap.size w w' := by
  have h' := h
  obtain ⟨Fs, h1, _⟩ := h
  obtain ⟨v, hb, _⟩ := h1 i _ hi
  refine (all_any w hb hl).mono ?_
  rintro e w' ⟨v, rfl, ho, hb⟩
  obtain ⟨a, c, rfl, -, -, -⟩ := ownsRow_seq ho
  exact ⟨a, c, rfl, ho, h'.read hb, hb⟩
theorem putB (i : Nat) (x : Int) (w : World) (h : Bags w0 w l) (hi : l[i]? = some (g, zs)) (hl : zs.length ≤ 900000) : Calls Try.prog 19 #[.pointer (some ⟨g, 0, none⟩), .int .i64 x] w fun e w' => e = .returned (.bool (!hasL zs x)) ∧ Bags w0 w' (l.set i (g, putL zs x)) := by
  obtain ⟨Fs, h1, h2, h3, h4⟩ := h
  exact (bputF_any x w (h1 i _ hi) hl).mono fun e w' ⟨e1, e2, e3⟩ => ⟨e1, Bags.write h1 h2 h3 h4 e2 e3⟩
theorem delB (i : Nat) (x : Int) (w : World) (h : Bags w0 w l) (hi : l[i]? = some (g, zs)) (hl : zs.length ≤ 900000) : Calls Try.prog 13 #[.pointer (some ⟨g, 0, none⟩), .int .i64 x] w fun e w' => e = .returned (.bool (hasL zs x)) ∧ Bags w0 w' (l.set i (g, outL zs x)) := by
  obtain ⟨Fs, h1, h2, h3, h4⟩ := h
  exact (bdelF_any x w (h1 i _ hi) (show zs.length ≤ 1000000 by omega)).mono fun e w' ⟨e1, e2, e3⟩ => ⟨e1, Bags.write h1 h2 h3 h4 e2 e3⟩
theorem same_self (a b : Option Addr) (ca cb n : Nat) (zs : List Int) (w : World) (ha : SeqAt w a (ints zs)) (hb : SeqAt w b (ints zs)) (hn : zs.length = n) (hm : n ≤ 9223372036854775807) :
    Calls Try.prog 18 #[.slice a n ca, .slice b n cb] w fun e w' => e = .returned (.bool true) ∧ Drawn w w' := by
  have := same_any a b n ca n cb zs zs w ha hb hn hn hm
  rw [show sameL zs zs = true from (sameL_iff _ _).2 rfl] at this
  exact this
end Go.Proofs.Ythfdigjbmoconaa
