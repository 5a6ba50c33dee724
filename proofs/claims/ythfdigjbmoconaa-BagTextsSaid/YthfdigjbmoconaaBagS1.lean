/-
  Package bag at string, of texts that stand for numbers: what the library does with slices of such texts.
-/
import Derived.Test.YthfdigjbmoconaaShelfS
import Derived.Test.YthfdigjbmoconaaTxt
set_option linter.unusedSimpArgs false
set_option linter.unusedVariables false
namespace Go.Proofs.Ythfdigjbmoconaa
open Go.RowKit Go.Shelf Go.Tr
/-- A slice of the call's own with the texts of zs. -/
def ownS (w : World) (base : Nat) (v : Value) (zs : List Int) : Prop := w.ownsRow base 9 1 v zs.length (strs zs)

theorem searchS_any (a : Option Addr) (n c : Nat) (zs : List Int) (x : Int) (w : World) (h : SeqAt w a (strs zs)) (hl : zs.length = n) (hbig : n < 4611686018427387904) (hs : zs.Pairwise (· < ·)) (h7 : In7 zs) (hx : 0 ≤ x ∧ x ≤ 127) :
    Calls Try.prog 44 #[.slice a n c, .string (tx x)] w fun e w' => e = .returned (.tuple #[.int .i64 (zs.countP (· < x) : Nat), .bool (hasL zs x)]) ∧ Drawn w w' := by
  by_cases h0 : n = 0
  · subst h0
    have hz : zs = [] := List.eq_nil_of_length_eq_zero hl
    subst hz
    refine (Any2.slices_BinarySearch_string_empty laysSearchS a c (tx x) w).mono ?_
    rintro e w' ⟨rfl, rfl⟩
    exact ⟨rfl, Drawn.refl _⟩
  · obtain ⟨b, off, rfl, hcell⟩ := h (by rw [strs_length]; omega)
    refine (Any2.slices_BinarySearch_string laysSearchS b off n c (fun t => tx (zs[t]?.getD 127)) (tx x) w hbig (fun j hj => ?_)).mono ?_
    · rw [hcell j (by rw [strs_length]; omega)]
      simp [strs, List.getD, show j < zs.length by omega, sv]
    · rintro e w' ⟨rfl, q, rfl⟩
      obtain ⟨p1, p2⟩ := posL_low hs x
      have hple := posL_le zs x
      have hin : ∀ t : Nat, 0 ≤ zs[t]?.getD 127 ∧ zs[t]?.getD 127 ≤ 127 := fun t => by
        cases ht : zs[t]? with
        | none => simp
        | some z => exact h7 z (List.mem_of_getElem? ht)
      have hk : Lib.bsGo (fun t => Op.bytesLess (tx (zs[t]?.getD 127)).toList (tx x).toList) n 0 n = posL zs x := by
        refine Lib.bsGo_spec _ _ (fun t ht => ?_) (fun t ht => ?_) _ _ _ (Nat.le_refl _) (Nat.zero_le _) (by omega)
        · rw [tx_less (hin t) hx]
          have hlt : t < zs.length := by omega
          have := p1 zs[t] (List.mem_iff_getElem.2 ⟨t, by simp; omega, by simp⟩)
          simpa [hlt] using this
        · rw [tx_less (hin t) hx]
          by_cases hlt : t < zs.length
          · have := p2 zs[t] (List.mem_iff_getElem.2 ⟨t - posL zs x, by simp; omega, by rw [List.getElem_drop]; congr 1; omega⟩)
            simp [hlt]; omega
          · simp [List.getElem?_eq_none (show zs.length ≤ t by omega)]; omega
      rw [hk]
      refine ⟨?_, ⟨q, rfl⟩⟩
      have hd : decide (posL zs x < n ∧ tx (zs[posL zs x]?.getD 127) = tx x) = hasL zs x := by
        rw [Bool.eq_iff_iff, hasL_iff, decide_eq_true_eq]
        constructor
        · rintro ⟨h1, h2⟩
          have e := tx_inj (hin _) hx h2
          have hlt : posL zs x < zs.length := by omega
          rw [List.getElem?_eq_getElem hlt] at e
          exact List.mem_iff_getElem.2 ⟨_, hlt, e⟩
        · intro hm
          have h1 := posL_mem hs hm
          have hlt := (List.getElem?_eq_some_iff.1 h1).1
          exact ⟨by omega, by rw [h1]; rfl⟩
      rw [hd]
      rfl

theorem strs_insL (zs : List Int) (p : Nat) (x : Int) : strs (insL zs p x) = insV (strs zs) p (sv x) := by simp [strs, insL, insV, List.map_take, List.map_drop]
theorem own_of_blockS {w : World} {base b cap : Nat} {cs : Array Value} {ys : List Int} (hb : w.heap[b]? = some (.cells cs 9 (0, 0))) (hbase : base ≤ b) (hn : ys.length ≤ cap) (hc : cap ≤ maxLen) (hs : cs.size = cap) (h : ∀ k, k < ys.length → cs[k]? = (strs ys)[k]?) : ownS w base (.slice (some ⟨b, 0, none⟩) ys.length cap) ys := by
  refine ⟨by simp [strs_length], Or.inr ⟨b, cap, cs, rfl, hbase, hb, hn, hc, by omega, ?_⟩⟩
  apply List.ext_getElem?
  intro k
  by_cases hk : k < ys.length
  · rw [Nat.mul_one, List.getElem?_take_of_lt hk, Array.getElem?_toList, h k hk]
  · rw [List.getElem?_eq_none (by simp; omega), List.getElem?_eq_none (by rw [strs_length]; omega)]
theorem insert_ownS (base : Nat) (v : Value) (zs : List Int) (p : Nat) (x : Int) (vb : Nat) (w : World) (h : ownS w base v zs) (hp : p ≤ zs.length) (hvb : w.heap[vb]? = some (.cells #[sv x] 9 (0, 0))) (hne : v.ownBlock ≠ some vb) (hs : zs.length ≤ 1000000) (hbase : base ≤ w.heap.size) :
    Calls Try.prog 45 #[v, .int .i64 p, .slice (some ⟨vb, 0, none⟩) 1 1] w fun e w' => ∃ v', e = .returned v' ∧ ownS w' base v' (insL zs p x) ∧ Only (fun k => v.ownBlock = some k) w w' ∧ ∀ k, v'.ownBlock = some k → v.ownBlock = some k ∨ w.heap.size ≤ k := by
  have hvs : ∀ (j : Nat) (u : Value), [sv x][j]? = some u → w.cell? ⟨vb, 0 + j, none⟩ = some u := fun j u hu => by
    cases j with
    | zero => simp at hu; subst hu; exact cell_of_row w vb 0 _ _ (0, 0) hvb
    | succ j => simp at hu
  have h1v : ∀ u ∈ [sv x], u.oneCell' = true := fun u hu => by simp at hu; subst hu; rfl
  have hil := strs_length zs
  have hIL := insL_length x hp
  have hget := insV_get (cs := strs zs) (v := sv x) (p := p) (by rw [hil]; exact hp)
  have zsz : ∀ n, (Builtin.zeroCells (Value.string ⟨#[]⟩).cells n).size = n := fun n => by rw [size_zeroCells]; simp [Value.cells]
  have h1c : ∀ u ∈ strs zs, u.oneCell' = true := strs_oneCell zs
  rcases h.2 with ⟨rfl, hn0⟩ | ⟨b, cap, cur, rfl, hbb, hb, h1, h2, h3, h4⟩
  · have hz : zs = [] := List.eq_nil_of_length_eq_zero hn0
    subst hz
    obtain rfl : p = 0 := by simpa using hp
    refine (Any2.slices_Insert_string_end_grow laysInsertS none 0 0 vb 0 1 1 [] [sv x] w (by decide) (by decide) (by decide) (by decide) rfl rfl (fun _ => rfl) (fun a e => by cases e) hvs h1v).mono ?_
    rintro e w' ⟨rfl, rfl⟩
    have hg := grownCap_ge w 1 0 9
    have hm := grownCap_le_maxLen w 1 0 9 (by decide)
    refine ⟨_, rfl, own_of_blockS (ys := insL [] 0 x) (heap_alloc_new w.drew _) hbase hg hm ?_ ?_, (Only.refl _ w).drew.alloc _, fun k hk => Or.inr ?_⟩
    · rw [show laysInsertS_ren.t 9 = 9 from rfl]
      have := zsz (grownCap w 1 0 9 - 1)
      simp [this]; omega
    · intro k hk
      have : k = 0 := by simp [insL] at hk; omega
      subst this
      rw [Array.getElem?_append_left (by simp)]
      simp [insL, strs]
    · simp [Value.ownBlock] at hk; omega
  · have hcur : ∀ k, k < zs.length → cur[k]? = (strs zs)[k]? := fun k hk => by
      rw [← h4, Nat.mul_one, List.getElem?_take_of_lt hk, Array.getElem?_toList]
    have hsz : cur.size = cap := by omega
    have hcs : ∀ (j : Nat) (u : Value), (strs zs)[j]? = some u → w.cell? ⟨b, 0 + j, none⟩ = some u := fun j u hu => by
      have hj : j < zs.length := by have := (List.getElem?_eq_some_iff.1 hu).1; rw [hil] at this; exact this
      rw [Nat.zero_add, cell_of_row w b j cur _ (0, 0) hb, hcur j hj]; exact hu
    have hfz : ∀ j, w.frozen? ⟨b, 0 + j, none⟩ = false := fun j => by simp [World.frozen?, hb]
    have hsp : ∀ j, j < cap → (w.cell? ⟨b, 0 + j, none⟩).isSome = true := fun j hj => by
      rw [Nat.zero_add, cell_of_row w b j cur _ (0, 0) hb]; simp; omega
    have hOwn : (Value.slice (some ⟨b, 0, none⟩) zs.length cap).ownBlock = some b := rfl
    have hvbb : vb ≠ b := fun e => hne (by rw [e]; rfl)
    by_cases hr : zs.length + 1 ≤ cap
    · by_cases hpn : p < zs.length
      · refine (Any2.slices_Insert_string_shift laysInsertS b 0 zs.length cap p vb 0 1 1 (strs zs) [sv x] w hpn (by decide) hr (by simpa [maxLen] using h2) hvbb hil rfl hcs (fun j hj => hsp j (by omega)) (fun j _ => hfz j) hvs h1c h1v 9 9 1 cap (by simp [World.shape?, hvb]) (by simp [World.shape?, hb, hsz]) (by omega) (by simp [World.frozen?, hvb]) (by simp [World.frozen?, hvb])).mono ?_
        rintro e w' ⟨rfl, rfl⟩
        obtain ⟨c1, d1, d2, d3, d4⟩ := block_setCells b 9 ((strs zs).drop p) (0 + (p + 1)) w.drew cur hb (by rw [List.length_drop, hil]; omega)
        obtain ⟨c2, e1, e2, e3, e4⟩ := block_setCells b 9 [sv x] (0 + p) _ c1 d1 (by simp; omega)
        refine ⟨_, rfl, by
          have := own_of_blockS (ys := insL zs p x) e1 hbb (by rw [hIL]; exact hr) h2 (by omega) (fun k hk => ?_)
          · rw [hIL] at this; exact this
          · rw [hIL] at hk
            rw [strs_insL, hget]
            by_cases k1 : k < p
            · rw [if_pos k1, e4 k (Or.inl (by omega)), d4 k (Or.inl (by omega)), hcur k (by omega)]
            · rw [if_neg k1]
              by_cases k2 : k = p
              · subst k2; rw [if_pos rfl]; have := e3 0 (by simp); simpa using this
              · rw [if_neg k2, e4 k (Or.inr (by simp; omega))]
                have := d3 (k - (p + 1)) (by rw [List.length_drop, hil]; omega)
                rw [show 0 + (p + 1) + (k - (p + 1)) = k by omega, List.getElem?_drop, show p + (k - (p + 1)) = k - 1 by omega] at this
                exact this, ?_, fun k hk => Or.inl hk⟩
        exact (((Only.refl _ w).drew.grown (grown_setCells b _ _ w.drew) (fun k hk => Or.inl hk)).grown (grown_setCells b _ _ _) (fun k hk => Or.inl hk))
      · have hpe : p = zs.length := by omega
        subst hpe
        refine (Any2.slices_Insert_string_end_room laysInsertS b 0 zs.length cap vb 0 1 1 [sv x] w (by decide) hr (by simpa [maxLen] using h2) rfl (fun j hj => by have := hsp (zs.length + j) (by omega); rw [Nat.add_assoc]; exact this) (fun j _ => by rw [Nat.add_assoc]; exact hfz _) hvs h1v).mono ?_
        rintro e w' ⟨rfl, rfl⟩
        obtain ⟨c1, d1, d2, d3, d4⟩ := block_setCells b 9 [sv x] (0 + zs.length) w cur hb (by simp; omega)
        refine ⟨_, rfl, by
          have := own_of_blockS (ys := insL zs zs.length x) d1 hbb (by rw [hIL]; exact hr) h2 (by omega) (fun k hk => ?_)
          · rw [hIL] at this; exact this
          · rw [hIL] at hk
            rw [strs_insL, hget]
            by_cases k1 : k < zs.length
            · rw [if_pos k1, d4 k (Or.inl (by omega)), hcur k k1]
            · have k2 : k = zs.length := by omega
              subst k2
              rw [if_neg k1, if_pos rfl]
              have := d3 0 (by simp); simpa using this, ?_, fun k hk => Or.inl hk⟩
        exact (Only.refl _ w).grown (grown_setCells b _ _ w) (fun k hk => Or.inl hk)
    · have hg := grownCap_ge w (zs.length + 1) cap 9
      have hm := grownCap_le_maxLen w (zs.length + 1) cap 9 (by unfold maxLen; omega)
      by_cases hpn : p < zs.length
      · refine (Any2.slices_Insert_string_grow laysInsertS b 0 zs.length cap p vb 0 1 1 (strs zs) [sv x] w hpn (by decide) h1 (by omega) (by omega) hil rfl hcs hvs h1c h1v).mono ?_
        rintro e w' ⟨rfl, rfl⟩
        have hz1 := zsz (zs.length + 1 - p)
        have hz2 := zsz (grownCap w (zs.length + 1) cap 9 - (zs.length + 1))
        obtain ⟨c1, d1, d2, d3, d4⟩ := block_setCells w.heap.size 9 [sv x] p (w.alloc (.cells (((strs zs).take p).toArray ++ Builtin.zeroCells (Value.string ⟨#[]⟩).cells (zs.length + 1 - p) ++ Builtin.zeroCells (Value.string ⟨#[]⟩).cells (grownCap w (zs.length + 1) cap 9 - (zs.length + 1))) 9)).drew _ (heap_alloc_new w _) (by simp [hz1, hz2, hil]; omega)
        have hd2 : c1.size = grownCap w (zs.length + 1) cap 9 := by rw [d2]; simp [hz1, hz2, hil]; omega
        obtain ⟨c2, e1, e2, e3, e4⟩ := block_setCells w.heap.size 9 ((strs zs).drop p) (p + 1) (((w.alloc (.cells (((strs zs).take p).toArray ++ Builtin.zeroCells (Value.string ⟨#[]⟩).cells (zs.length + 1 - p) ++ Builtin.zeroCells (Value.string ⟨#[]⟩).cells (grownCap w (zs.length + 1) cap 9 - (zs.length + 1))) 9)).drew.setCells w.heap.size p [sv x]).drew) c1 d1 (by rw [List.length_drop, hil]; omega)
        refine ⟨_, rfl, by
          have := own_of_blockS (ys := insL zs p x) (cap := grownCap w (zs.length + 1) cap 9) e1 hbase (by rw [hIL]; exact hg) hm (by omega) (fun k hk => ?_)
          · rw [hIL] at this; exact this
          · rw [hIL] at hk
            rw [strs_insL, hget]
            by_cases k1 : k < p
            · rw [if_pos k1, e4 k (Or.inl (by omega)), d4 k (Or.inl (by omega))]
              rw [Array.getElem?_append_left (by simp [hz1, hil]; omega), Array.getElem?_append_left (by simp [hil]; omega)]
              simp [List.getElem?_take_of_lt k1]
            · rw [if_neg k1]
              by_cases k2 : k = p
              · subst k2; rw [if_pos rfl, e4 k (Or.inl (by omega))]; have := d3 0 (by simp); simpa using this
              · rw [if_neg k2]
                have := e3 (k - (p + 1)) (by rw [List.length_drop, hil]; omega)
                rw [show p + 1 + (k - (p + 1)) = k by omega, List.getElem?_drop, show p + (k - (p + 1)) = k - 1 by omega] at this
                exact this, ?_, fun k hk => Or.inr (by simp [Value.ownBlock] at hk; omega)⟩
        exact (((((Only.refl _ w).alloc _).drew.grown (grown_setCells w.heap.size _ _ _) (fun k hk => by cases hk; exact Or.inr (Nat.le_refl _))).drew).grown (grown_setCells w.heap.size _ _ _) (fun k hk => by cases hk; exact Or.inr (Nat.le_refl _)))
      · have hpe : p = zs.length := by omega
        subst hpe
        refine (Any2.slices_Insert_string_end_grow laysInsertS (some ⟨b, 0, none⟩) zs.length cap vb 0 1 1 (strs zs) [sv x] w (by decide) h1 (by omega) (by omega) hil rfl (fun e => by cases e) (fun a e j u hu => by cases e; have := hcs j u hu; unfold Addr.add; split <;> simp_all) hvs h1v).mono ?_
        rintro e w' ⟨rfl, rfl⟩
        have hz2 := zsz (grownCap w (zs.length + 1) cap 9 - (zs.length + 1))
        refine ⟨_, rfl, by
          have := own_of_blockS (ys := insL zs zs.length x) (cap := grownCap w (zs.length + 1) cap 9) (heap_alloc_new w.drew (.cells ((strs zs ++ [sv x]).toArray ++ Builtin.zeroCells (Value.string ⟨#[]⟩).cells (grownCap w (zs.length + 1) cap 9 - (zs.length + 1))) 9)) hbase (by rw [hIL]; exact hg) hm (by simp [hz2, hil]; omega) (fun k hk => ?_)
          · rw [hIL] at this; exact this
          · rw [hIL] at hk
            rw [Array.getElem?_append_left (by simp [hil]; omega)]
            simp [strs_insL, insV, ← hil], (Only.refl _ w).drew.alloc _, fun k hk => Or.inr (by simp [Value.ownBlock] at hk; omega)⟩

/-- What the library has written into the slice that it was handed: fewer, and empty texts behind them. -/
theorem delete_ownS (base : Nat) (g cap : Nat) (zs : List Int) (p : Nat) (w : World) (h : ownS w base (.slice (some ⟨g, 0, none⟩) zs.length cap) zs) (hp : p < zs.length) :
    Calls Try.prog 46 #[.slice (some ⟨g, 0, none⟩) zs.length cap, .int .i64 p, .int .i64 ((p + 1 : Nat) : Int)] w fun e w' => e = .returned (.slice (some ⟨g, 0, none⟩) (zs.take p ++ zs.drop (p + 1)).length cap) ∧ ownS w' base (.slice (some ⟨g, 0, none⟩) (zs.take p ++ zs.drop (p + 1)).length cap) (zs.take p ++ zs.drop (p + 1)) ∧ w.grownBy w' (some g) := by
  have hlen : (zs.take p ++ zs.drop (p + 1)).length = zs.length - 1 := by simp; omega
  obtain ⟨hx, hr⟩ := h
  rcases hr with ⟨e, _⟩ | ⟨g', cap', cur, e, hbase, hb, h1, h2, h3, h4⟩
  · cases e
  · cases e
    have hml : (zs.map tb).length = zs.length := by simp
    have hH := holds_of_block (ss := zs.map tb) hb (by rw [hml, ← strs_enc]; rw [Nat.mul_one] at h4; exact h4)
    have hc := Any.slices_Delete_string laysDeleteS g 0 cap p (p + 1) (zs.map tb) w hH (by rw [hml]; exact h1) (by simpa [maxLen] using h2) (by omega) (by rw [hml]; omega)
    rw [hml] at hc
    refine hc.mono ?_
    rintro e w' ⟨rfl, q, rfl⟩
    have e1 : p + 1 - p = 1 := by omega
    rw [e1]
    have hd : (List.take p (zs.map tb) ++ List.drop (p + 1) (zs.map tb) ++ List.replicate 1 []) = (zs.take p ++ zs.drop (p + 1)).map tb ++ List.replicate 1 [] := by simp [List.map_take, List.map_drop]
    rw [hd]
    generalize hys : zs.take p ++ zs.drop (p + 1) = ys at *
    have hb' := heap_sorted (n := q) (os := #[]) (ys.map tb ++ List.replicate 1 []).toArray hb
    rw [Go.Sort.grow_empty] at hb'
    have hg := grownBy_sorted (w := w) (g := g) (n := q) (os := #[]) (ys.map tb ++ List.replicate 1 []).toArray
    rw [Go.Sort.grow_empty] at hg
    refine ⟨by rw [hlen], ⟨by simp [strs_length], Or.inr ⟨g, cap, _, rfl, hbase, hb', by omega, h2, by simp [Go.Sort.putCells, h3], ?_⟩⟩, hg⟩
    have := take_putCells cur (ys.map tb ++ List.replicate 1 []) (by simp; omega)
    have h5 := congrArg (List.take ys.length) this
    rw [List.take_take, Nat.min_eq_left (by simp)] at h5
    rw [Nat.mul_one, h5, List.map_append, List.take_append_of_le_length (by simp), List.take_of_length_le (by simp), strs_enc]
theorem cloneS_any (a : Option Addr) (n c : Nat) (zs : List Int) (w : World) (h : SeqAt w a (strs zs)) (hl : zs.length = n) (hs : n ≤ 1000000) :
    Calls Try.prog 41 #[.slice a n c] w fun e w' => ∃ v, e = .returned v ∧ ownS w' w.heap.size v zs ∧ Below w.heap.size w w' := by
  by_cases h0 : n = 0
  · subst h0
    have hz : zs = [] := List.eq_nil_of_length_eq_zero hl
    subst hz
    cases a with
    | none =>
      refine (Any.slices_Clone_string_nil laysCloneS 0 c w).mono ?_
      rintro e w' ⟨rfl, rfl⟩
      exact ⟨_, rfl, World.ownsRow_nil _ _ _ _, Below.refl _ _⟩
    | some a =>
      refine (Any.slices_Clone_string_zero laysCloneS a c w).mono ?_
      rintro e w' ⟨v, rfl, ho, -, hb⟩
      exact ⟨v, rfl, ho, hb⟩
  · obtain ⟨b, off, rfl, hcell⟩ := h (by rw [strs_length]; omega)
    refine (Any.slices_Clone_string laysCloneS b off n c (zs.map tx) w (by simp; omega) (by omega) (fun j hj => ?_)).mono ?_
    · have hj' : j < zs.length := by simpa using hj
      rw [hcell j (by rw [strs_length]; exact hj')]
      simp [strs, List.getD, hj', sv]
    · rintro e w' ⟨v, rfl, ho, -, hb⟩
      refine ⟨v, rfl, ?_, hb⟩
      rw [List.take_of_length_le (by simp; omega), List.map_map] at ho
      show World.ownsRow _ _ _ _ _ _ _
      rw [hl]; exact ho
end Go.Proofs.Ythfdigjbmoconaa
