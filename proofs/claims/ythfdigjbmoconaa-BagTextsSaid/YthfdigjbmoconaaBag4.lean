/-
  Package bag at int: slices.Insert of one into a slice of the call's own; Put.
-/
import Derived.Test.YthfdigjbmoconaaBagR
set_option linter.unusedSimpArgs false
set_option linter.unusedVariables false
namespace Go.Proofs.Ythfdigjbmoconaa
open Go.RowKit Go.Tr

theorem block_setCells (b : Nat) (T : TypeId) : ∀ (vs : List Value) (o : Nat) (w : World) (cs : Array Value), w.heap[b]? = some (.cells cs T (0, 0)) → o + vs.length ≤ cs.size →
    ∃ cs', (w.setCells b o vs).heap[b]? = some (.cells cs' T (0, 0)) ∧ cs'.size = cs.size ∧ (∀ j, j < vs.length → cs'[o + j]? = vs[j]?) ∧ ∀ k, k < o ∨ o + vs.length ≤ k → cs'[k]? = cs[k]?
  | [], o, w, cs, h, _ => ⟨cs, h, rfl, by simp, fun _ _ => rfl⟩
  | v :: r, o, w, cs, h, hs => by
    have hs' : o + 1 + r.length ≤ cs.size := by simp at hs; omega
    have hb : (w.setCell ⟨b, o, none⟩ v).heap[b]? = some (.cells (cs.setIfInBounds o v) T (0, 0)) := by simp [World.setCell, Array.getElem?_modify, h]
    obtain ⟨cs', h1, h2, h3, h4⟩ := block_setCells b T r (o + 1) _ _ hb (by simpa using hs')
    refine ⟨cs', h1, by simpa using h2, fun j hj => ?_, fun k hk => ?_⟩
    · cases j with
      | zero =>
        rw [Nat.add_zero, h4 o (Or.inl (by omega))]
        have : o < cs.size := by omega
        simp [this]
      | succ j =>
        have := h3 j (by simp at hj; omega)
        rw [show o + (j + 1) = o + 1 + j by omega, this]; simp
    · have hk' : k < o + 1 ∨ o + 1 + r.length ≤ k := by simp at hk; omega
      rw [h4 k hk', Array.getElem?_setIfInBounds, if_neg (by simp at hk; omega)]
/-- v put in at p. -/
def insV (cs : List Value) (p : Nat) (v : Value) : List Value := cs.take p ++ v :: cs.drop p
theorem insV_get {cs : List Value} {p : Nat} {v : Value} (hp : p ≤ cs.length) (k : Nat) : (insV cs p v)[k]? = if k < p then cs[k]? else if k = p then some v else cs[k - 1]? := by
  unfold insV
  by_cases h1 : k < p
  · rw [if_pos h1, List.getElem?_append_left (by simp; omega), List.getElem?_take_of_lt h1]
  · rw [if_neg h1, List.getElem?_append_right (by simp; omega)]
    have hl : (cs.take p).length = p := by simp; omega
    rw [hl]
    by_cases h2 : k = p
    · subst h2; simp
    · rw [if_neg h2]
      obtain ⟨j, rfl⟩ : ∃ j, k = p + 1 + j := ⟨k - p - 1, by omega⟩
      rw [show p + 1 + j - p = j + 1 by omega, List.getElem?_cons_succ, List.getElem?_drop]
      congr 1; omega
theorem insV_length {cs : List Value} {p : Nat} (v : Value) (hp : p ≤ cs.length) : (insV cs p v).length = cs.length + 1 := by unfold insV; simp; omega
def insL (zs : List Int) (p : Nat) (x : Int) : List Int := zs.take p ++ x :: zs.drop p
theorem insL_length {zs : List Int} {p : Nat} (x : Int) (hp : p ≤ zs.length) : (insL zs p x).length = zs.length + 1 := by unfold insL; simp; omega
theorem ints_insL (zs : List Int) (p : Nat) (x : Int) : ints (insL zs p x) = insV (ints zs) p (iv x) := by simp [ints, insL, insV, List.map_take, List.map_drop]
theorem own_of_block {w : World} {base b cap : Nat} {cs : Array Value} {ys : List Int} (hb : w.heap[b]? = some (.cells cs 3 (0, 0))) (hbase : base ≤ b) (hn : ys.length ≤ cap) (hc : cap ≤ maxLen) (hs : cs.size = cap) (h : ∀ k, k < ys.length → cs[k]? = (ints ys)[k]?) : own3 w 3 base (.slice (some ⟨b, 0, none⟩) ys.length cap) ys := by
  refine ⟨by simp [ints_length], Or.inr ⟨b, cap, cs, rfl, hbase, hb, hn, hc, by omega, ?_⟩⟩
  apply List.ext_getElem?
  intro k
  by_cases hk : k < ys.length
  · rw [Nat.mul_one, List.getElem?_take_of_lt hk, Array.getElem?_toList, h k hk]
  · rw [List.getElem?_eq_none (by simp; omega), List.getElem?_eq_none (by rw [ints_length]; omega)]
theorem insert_own (base : Nat) (v : Value) (zs : List Int) (p : Nat) (x : Int) (vb : Nat) (w : World) (h : own3 w 3 base v zs) (hp : p ≤ zs.length) (hvb : w.heap[vb]? = some (.cells #[iv x] 3 (0, 0))) (hne : v.ownBlock ≠ some vb) (hs : zs.length ≤ 1000000) (hbase : base ≤ w.heap.size) :
    Calls Try.prog 40 #[v, .int .i64 p, .slice (some ⟨vb, 0, none⟩) 1 1] w fun e w' => ∃ v', e = .returned v' ∧ own3 w' 3 base v' (insL zs p x) ∧ Only (fun k => v.ownBlock = some k) w w' ∧ ∀ k, v'.ownBlock = some k → v.ownBlock = some k ∨ w.heap.size ≤ k := by
  have hvs : ∀ (j : Nat) (u : Value), [iv x][j]? = some u → w.cell? ⟨vb, 0 + j, none⟩ = some u := fun j u hu => by
    cases j with
    | zero => simp at hu; subst hu; exact cell_of_row w vb 0 _ _ (0, 0) hvb
    | succ j => simp at hu
  have h1v : ∀ u ∈ [iv x], u.oneCell' = true := fun u hu => by simp at hu; subst hu; rfl
  have hil := ints_length zs
  have hIL := insL_length x hp
  have hget := insV_get (cs := ints zs) (v := iv x) (p := p) (by rw [hil]; exact hp)
  have zsz : ∀ n, (Builtin.zeroCells (Value.int .i64 0).cells n).size = n := fun n => by rw [size_zeroCells]; simp [Value.cells]
  have h1c : ∀ u ∈ ints zs, u.oneCell' = true := ints_oneCell .i64 zs
  rcases h.2 with ⟨rfl, hn0⟩ | ⟨b, cap, cur, rfl, hbb, hb, h1, h2, h3, h4⟩
  · have hz : zs = [] := List.eq_nil_of_length_eq_zero hn0
    subst hz
    obtain rfl : p = 0 := by simpa using hp
    refine (Any2.slices_Insert_int_end_grow laysInsert none 0 0 vb 0 1 1 [] [iv x] w (by decide) (by decide) (by decide) (by decide) rfl rfl (fun _ => rfl) (fun a e => by cases e) hvs h1v).mono ?_
    rintro e w' ⟨rfl, rfl⟩
    have hg := grownCap_ge w 1 0 3
    have hm := grownCap_le_maxLen w 1 0 3 (by decide)
    refine ⟨_, rfl, own_of_block (ys := insL [] 0 x) (heap_alloc_new w.drew _) hbase hg hm ?_ ?_, (Only.refl _ w).drew.alloc _, fun k hk => Or.inr ?_⟩
    · rw [show laysInsert_ren.t 3 = 3 from rfl]
      have := zsz (grownCap w 1 0 3 - 1)
      simp [this]; omega
    · intro k hk
      have : k = 0 := by simp [insL] at hk; omega
      subst this
      rw [Array.getElem?_append_left (by simp)]
      simp [insL, ints]
    · simp [Value.ownBlock] at hk; omega
  · have hcur : ∀ k, k < zs.length → cur[k]? = (ints zs)[k]? := fun k hk => by
      rw [← h4, Nat.mul_one, List.getElem?_take_of_lt hk, Array.getElem?_toList]
    have hsz : cur.size = cap := by omega
    have hcs : ∀ (j : Nat) (u : Value), (ints zs)[j]? = some u → w.cell? ⟨b, 0 + j, none⟩ = some u := fun j u hu => by
      have hj : j < zs.length := by have := (List.getElem?_eq_some_iff.1 hu).1; rw [hil] at this; exact this
      rw [Nat.zero_add, cell_of_row w b j cur _ (0, 0) hb, hcur j hj]; exact hu
    have hfz : ∀ j, w.frozen? ⟨b, 0 + j, none⟩ = false := fun j => by simp [World.frozen?, hb]
    have hsp : ∀ j, j < cap → (w.cell? ⟨b, 0 + j, none⟩).isSome = true := fun j hj => by
      rw [Nat.zero_add, cell_of_row w b j cur _ (0, 0) hb]; simp; omega
    have hOwn : (Value.slice (some ⟨b, 0, none⟩) zs.length cap).ownBlock = some b := rfl
    have hvbb : vb ≠ b := fun e => hne (by rw [e]; rfl)
    by_cases hr : zs.length + 1 ≤ cap
    · by_cases hpn : p < zs.length
      · refine (Any2.slices_Insert_int_shift laysInsert b 0 zs.length cap p vb 0 1 1 (ints zs) [iv x] w hpn (by decide) hr (by simpa [maxLen] using h2) hvbb hil rfl hcs (fun j hj => hsp j (by omega)) (fun j _ => hfz j) hvs h1c h1v 3 3 1 cap (by simp [World.shape?, hvb]) (by simp [World.shape?, hb, hsz]) (by omega) (by simp [World.frozen?, hvb]) (by simp [World.frozen?, hvb])).mono ?_
        rintro e w' ⟨rfl, rfl⟩
        obtain ⟨c1, d1, d2, d3, d4⟩ := block_setCells b 3 ((ints zs).drop p) (0 + (p + 1)) w.drew cur hb (by rw [List.length_drop, hil]; omega)
        obtain ⟨c2, e1, e2, e3, e4⟩ := block_setCells b 3 [iv x] (0 + p) _ c1 d1 (by simp; omega)
        refine ⟨_, rfl, by
          have := own_of_block (ys := insL zs p x) e1 hbb (by rw [hIL]; exact hr) h2 (by omega) (fun k hk => ?_)
          · rw [hIL] at this; exact this
          · rw [hIL] at hk
            rw [ints_insL, hget]
            by_cases k1 : k < p
            · rw [if_pos k1, e4 k (Or.inl (by omega)), d4 k (Or.inl (by omega)), hcur k (by omega)]
            · rw [if_neg k1]
              by_cases k2 : k = p
              · subst k2; rw [if_pos rfl]; have := e3 0 (by simp); simpa using this
              · rw [if_neg k2, e4 k (Or.inr (by simp; omega))]
                have := d3 (k - (p + 1)) (by rw [List.length_drop, hil]; omega)
                rw [show 0 + (p + 1) + (k - (p + 1)) = k by omega, List.getElem?_drop, show p + (k - (p + 1)) = k - 1 by omega] at this
                exact this, ?_, fun k hk => Or.inl hk⟩
        exact (((Only.refl _ w).drew.grown (grown_setCells b _ _ w.drew) (fun k hk => Or.inl hk)).grown (grown_setCells b _ _ _) (fun k hk => Or.inl hk))
      · have hpe : p = zs.length := by omega
        subst hpe
        refine (Any2.slices_Insert_int_end_room laysInsert b 0 zs.length cap vb 0 1 1 [iv x] w (by decide) hr (by simpa [maxLen] using h2) rfl (fun j hj => by have := hsp (zs.length + j) (by omega); rw [Nat.add_assoc]; exact this) (fun j _ => by rw [Nat.add_assoc]; exact hfz _) hvs h1v).mono ?_
        rintro e w' ⟨rfl, rfl⟩
        obtain ⟨c1, d1, d2, d3, d4⟩ := block_setCells b 3 [iv x] (0 + zs.length) w cur hb (by simp; omega)
        refine ⟨_, rfl, by
          have := own_of_block (ys := insL zs zs.length x) d1 hbb (by rw [hIL]; exact hr) h2 (by omega) (fun k hk => ?_)
          · rw [hIL] at this; exact this
          · rw [hIL] at hk
            rw [ints_insL, hget]
            by_cases k1 : k < zs.length
            · rw [if_pos k1, d4 k (Or.inl (by omega)), hcur k k1]
            · have k2 : k = zs.length := by omega
              subst k2
              rw [if_neg k1, if_pos rfl]
              have := d3 0 (by simp); simpa using this, ?_, fun k hk => Or.inl hk⟩
        exact (Only.refl _ w).grown (grown_setCells b _ _ w) (fun k hk => Or.inl hk)
    · have hg := grownCap_ge w (zs.length + 1) cap 3
      have hm := grownCap_le_maxLen w (zs.length + 1) cap 3 (by unfold maxLen; omega)
      by_cases hpn : p < zs.length
      · refine (Any2.slices_Insert_int_grow laysInsert b 0 zs.length cap p vb 0 1 1 (ints zs) [iv x] w hpn (by decide) h1 (by omega) (by omega) hil rfl hcs hvs h1c h1v).mono ?_
        rintro e w' ⟨rfl, rfl⟩
        have hz1 := zsz (zs.length + 1 - p)
        have hz2 := zsz (grownCap w (zs.length + 1) cap 3 - (zs.length + 1))
        obtain ⟨c1, d1, d2, d3, d4⟩ := block_setCells w.heap.size 3 [iv x] p (w.alloc (.cells (((ints zs).take p).toArray ++ Builtin.zeroCells (Value.int .i64 0).cells (zs.length + 1 - p) ++ Builtin.zeroCells (Value.int .i64 0).cells (grownCap w (zs.length + 1) cap 3 - (zs.length + 1))) 3)).drew _ (heap_alloc_new w _) (by simp [hz1, hz2, hil]; omega)
        have hd2 : c1.size = grownCap w (zs.length + 1) cap 3 := by rw [d2]; simp [hz1, hz2, hil]; omega
        obtain ⟨c2, e1, e2, e3, e4⟩ := block_setCells w.heap.size 3 ((ints zs).drop p) (p + 1) (((w.alloc (.cells (((ints zs).take p).toArray ++ Builtin.zeroCells (Value.int .i64 0).cells (zs.length + 1 - p) ++ Builtin.zeroCells (Value.int .i64 0).cells (grownCap w (zs.length + 1) cap 3 - (zs.length + 1))) 3)).drew.setCells w.heap.size p [iv x]).drew) c1 d1 (by rw [List.length_drop, hil]; omega)
        refine ⟨_, rfl, by
          have := own_of_block (ys := insL zs p x) (cap := grownCap w (zs.length + 1) cap 3) e1 hbase (by rw [hIL]; exact hg) hm (by omega) (fun k hk => ?_)
          · rw [hIL] at this; exact this
          · rw [hIL] at hk
            rw [ints_insL, hget]
            by_cases k1 : k < p
            · rw [if_pos k1, e4 k (Or.inl (by omega)), d4 k (Or.inl (by omega))]
              rw [Array.getElem?_append_left (by simp [hz1, hil]; omega), Array.getElem?_append_left (by simp [hil]; omega)]
              simp [List.getElem?_take_of_lt k1]
            · rw [if_neg k1]
              by_cases k2 : k = p
              · subst k2; rw [if_pos rfl, e4 k (Or.inl (by omega))]; have := d3 0 (by simp); simpa using this
              · rw [if_neg k2]
                have := e3 (k - (p + 1)) (by rw [List.length_drop, hil]; omega)
                rw [show p + 1 + (k - (p + 1)) = k by omega, List.getElem?_drop, show p + (k - (p + 1)) = k - 1 by omega] at this
                exact this, ?_, fun k hk => Or.inr (by simp [Value.ownBlock] at hk; omega)⟩
        exact (((((Only.refl _ w).alloc _).drew.grown (grown_setCells w.heap.size _ _ _) (fun k hk => by cases hk; exact Or.inr (Nat.le_refl _))).drew).grown (grown_setCells w.heap.size _ _ _) (fun k hk => by cases hk; exact Or.inr (Nat.le_refl _)))
      · have hpe : p = zs.length := by omega
        subst hpe
        refine (Any2.slices_Insert_int_end_grow laysInsert (some ⟨b, 0, none⟩) zs.length cap vb 0 1 1 (ints zs) [iv x] w (by decide) h1 (by omega) (by omega) hil rfl (fun e => by cases e) (fun a e j u hu => by cases e; have := hcs j u hu; unfold Addr.add; split <;> simp_all) hvs h1v).mono ?_
        rintro e w' ⟨rfl, rfl⟩
        have hz2 := zsz (grownCap w (zs.length + 1) cap 3 - (zs.length + 1))
        refine ⟨_, rfl, by
          have := own_of_block (ys := insL zs zs.length x) (cap := grownCap w (zs.length + 1) cap 3) (heap_alloc_new w.drew (.cells ((ints zs ++ [iv x]).toArray ++ Builtin.zeroCells (Value.int .i64 0).cells (grownCap w (zs.length + 1) cap 3 - (zs.length + 1))) 3)) hbase (by rw [hIL]; exact hg) hm (by simp [hz2, hil]; omega) (fun k hk => ?_)
          · rw [hIL] at this; exact this
          · rw [hIL] at hk
            rw [Array.getElem?_append_left (by simp [hil]; omega)]
            simp [ints_insL, insV, ← hil], (Only.refl _ w).drew.alloc _, fun k hk => Or.inr (by simp [Value.ownBlock] at hk; omega)⟩
end Go.Proofs.Ythfdigjbmoconaa
