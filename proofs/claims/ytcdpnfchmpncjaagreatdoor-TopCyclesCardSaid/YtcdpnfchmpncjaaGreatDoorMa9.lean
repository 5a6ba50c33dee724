/-
  Parts of the proof, one behind the other: KBump3.
-/
import Derived.LaidEqlPtr
import Derived.Test.YtcdpnfchmpncjaaGreatDoorMa8
set_option linter.unusedSimpArgs false
set_option linter.unusedVariables false
namespace Go.Tr
open Go.RowKit
variable {T : TypeId} {w w1 : World} {F G : Nat → Prop} {g s o a en : Nat} {ps : List (Nat × Nat)}
theorem SpF.put {pv v : Value} (hF : F g) (ho : Only F w w1) (hb : w1.heap[g]? = some (.cells #[.pointer (some ⟨s, 0, none⟩), .int .i64 (o : Nat), pv, .int .i64 (a : Nat), .int .i64 (en : Nat)] T (0, 0))) (hv : OwnO w1 2 v ps.length (pcells ps)) (hn : ∀ k, v.ownBlock = some k → grow F w w1 k ∧ k ≠ g) :
    SpF T (w1.setCell ⟨g, 2, none⟩ v) (grow F w (w1.setCell ⟨g, 2, none⟩ v)) g s o ps a en ∧ Only F w (w1.setCell ⟨g, 2, none⟩ v) := by
  refine ⟨⟨Or.inl hF, v, ?_, hv.kept (fun k hk => Below.heap_setCell _ _ _ _ (hn k hk).2), fun k hk => ⟨?_, (hn k hk).2⟩⟩, ho.setCell (p := ⟨g, 2, none⟩) (Or.inl hF) _⟩
  · simpa using block_setCell hb 2 v
  · have := (hn k hk).1
    unfold grow at this ⊢
    simpa [World.setCell] using this
theorem pcells_cut {ps : List (Nat × Nat)} {k : Nat} {p : Nat × Nat} (h : ps[k]? = some p) (hn : p ∉ ps.take k) : ps.erase p = ps.take k ++ ps.drop (k + 1) := by
  have h2 : ps.drop k = p :: ps.drop (k + 1) := by
    rw [List.drop_eq_getElem_cons (List.getElem?_eq_some_iff.1 h).1, (List.getElem?_eq_some_iff.1 h).2]
  conv => lhs; rw [← List.take_append_drop k ps, h2]
  rw [List.erase_append_right _ hn, List.erase_cons_head]
theorem pcells_drop : ∀ (ps : List (Nat × Nat)) (k : Nat), pcells (ps.drop k) = (pcells ps).drop (k * 2)
  | [], k => by cases k <;> rfl
  | p :: r, 0 => rfl
  | p :: r, k + 1 => by
    rw [List.drop_succ_cons, pcells_drop r k, show (k + 1) * 2 = k * 2 + 1 + 1 by omega]; rfl
theorem pcells_take : ∀ (ps : List (Nat × Nat)) (k : Nat), pcells (ps.take k) = (pcells ps).take (k * 2)
  | [], k => by cases k <;> rfl
  | p :: r, 0 => rfl
  | p :: r, k + 1 => by
    rw [List.take_succ_cons, show (k + 1) * 2 = k * 2 + 1 + 1 by omega]
    show _ :: _ :: pcells (r.take k) = _ :: _ :: (pcells r).take (k * 2)
    rw [pcells_take r k]
theorem pcells_one (ps : List (Nat × Nat)) : ∀ u ∈ pcells ps, u.oneCell' = true := fun u hu => by
  simp only [pcells, ecells, List.mem_flatMap] at hu
  obtain ⟨e, -, hu⟩ := hu
  simp at hu
  rcases hu with rfl | rfl <;> rfl
theorem OwnO.cut2 {b off n pc k : Nat} {xs : List Value} (h : OwnO w 2 (.slice (some ⟨b, off, none⟩) n pc) n xs) (hk : k < n) : OwnO w 2 (.slice (some ⟨b, off, none⟩) k k) k (xs.take (k * 2)) := by
  rcases h with ⟨h0, _⟩ | ⟨g', off', cap', e, g1, g2, g3, g4, g5, g6⟩
  · cases h0
  · cases e
    refine Or.inr ⟨b, off, k, rfl, Nat.le_refl _, by omega, by rw [List.length_take, g3]; omega, g4, fun j hj => g5 j (by omega), fun j hj => ?_⟩
    rw [g6 j (by omega), List.getElem?_take, if_pos hj]
theorem cells_drop2 {b off n pc k : Nat} (h : OwnO w 2 (.slice (some ⟨b, off, none⟩) n pc) n (pcells ps)) : ∀ j u, (pcells (ps.drop (k + 1)))[j]? = some u → w.cell? ⟨b, off + (k + 1) * 2 + j, none⟩ = some u := fun j u hj => by
  have e := pcells_drop ps (k + 1)
  rw [e, List.getElem?_drop] at hj
  have hl := (List.getElem?_eq_some_iff.1 hj).1
  have := h.cells ((k + 1) * 2 + j) (by have := h.length; omega)
  rw [hj] at this
  rw [Nat.add_assoc]; exact this
end Go.Tr
namespace Go.Proofs.YtcdpnfchmpncjaaGreatDoor
open Go.RowKit Go.Tr Go.Shelf
variable {w w' : World} {F G : Nat → Prop} {g s o a en : Nat} {ps : List (Nat × Nat)}
theorem infoSpace : (Tryz.prog.info? 154).map (·.size) = some 5 := by kernel_rfl
theorem infoStore : (Tryz.prog.info? 98).map (·.size) = some 4 := by kernel_rfl
theorem neq_same {P : Program} {tp te : TypeId} {j : TypeInfo} (w : World) (a : Addr) (hp : P.underlying tp = some (.pointer te)) (hte : P.info? te = some j) :
    (binOp .neq tp (.pointer (some a)) (.pointer (some a))).run P w = .ok (.bool false) w := by
  have h : ∀ d : Nat, (Op.equalIn (d + 1) tp (.pointer (some a)) (.pointer (some a))).run P w = .ok true w := fun d => by
    simp [Op.equalIn, run_underlying hp, sizeOf, typeInfo, hte, run_sameAddr_same]
  simp only [binOp]
  simp [Op.equal, Op.maxDepth, h 9999]
set_option maxRecDepth 100000 in
theorem uother_any {g2 o2 a2 en2 : Nat} {ps2 : List (Nat × Nat)} (w : World) (h : SpF 154 w F g s o ps a en) (h2 : SpF 154 w G g2 s o2 ps2 a2 en2) (hne : g2 ≠ g) : Calls Tryz.prog 122 #[.pointer (some ⟨g, 0, none⟩), .pointer (some ⟨g2, 0, none⟩)] w fun e w' => e = .returned (.int .i64 0) ∧ Drawn w w' := by
  obtain ⟨pa, pc, c0, -, -, -, -, -⟩ := h.head
  obtain ⟨qa, qc, d0, -, -, -, -, -⟩ := h2.head
  obtain ⟨-, pv, hb, -⟩ := h
  obtain ⟨-, pv2, hb2, -⟩ := h2
  obtain ⟨j1, hj1, hs1⟩ := Option.map_eq_some_iff.1 infoSpace
  obtain ⟨j2, hj2, hs2⟩ := Option.map_eq_some_iff.1 infoStore
  have e1 : ∀ W : World, W.heap = w.heap → (binOp .eql 28 (.pointer (some ⟨g2, 0, none⟩)) (.pointer (some ⟨g, 0, none⟩))).run Tryz.prog W = .ok (.bool false) W := fun W e => run_eql_ptr_other W Tryz.underlying28 hj1 (by rw [hs1]; decide) (by simp [hne]) (by rw [e]; exact hb2) (by rw [e]; exact hb)
  have e2 : ∀ W : World, (binOp .neq 47 (.pointer (some ⟨s, 0, none⟩)) (.pointer (some ⟨s, 0, none⟩))).run Tryz.prog W = .ok (.bool false) W := fun W => neq_same W _ Tryz.underlying47 hj2
  have e3 := e1 w rfl
  have e4 := e1 w.drew rfl
  clear hb hb2
  go_enter Tryz.func122, Tryz.ntmps122
  go_wp2_with fail
  refine wp_region_held_drew (S := fun W => W.cell? ⟨g, 0, none⟩ = some (.pointer (some ⟨s, 0, none⟩)) ∧ W.cell? ⟨g2, 0, none⟩ = some (.pointer (some ⟨s, 0, none⟩)) ∧ (binOp .eql 28 (.pointer (some ⟨g2, 0, none⟩)) (.pointer (some ⟨g, 0, none⟩))).run Tryz.prog W = .ok (.bool false) W) (by kernel_rfl) ⟨c0, d0, by first | exact e3 | exact e4⟩ (fun hH => ?_)
  refine takeH 0 (v := ?_) rfl (by kernel_rfl) (by kernel_rfl) (by kernel_rfl) (fun _ _ _ h => h) (by rfl) ?_ (by assumption) ?_
  rotate_left
  · intro W hW
    go_simp
    try with_reducible rfl
  try simp only [Act.put, List.setIfInBounds_toArray, List.set_cons_zero, List.set_cons_succ]
  refine takeH 1 (v := ?_) rfl (by kernel_rfl) (by kernel_rfl) (by kernel_rfl) (fun _ _ _ h => h) (by rfl) ?_ (by assumption) ?_
  rotate_left
  · intro W hW
    go_simp
    try with_reducible rfl
  try simp only [Act.put, List.setIfInBounds_toArray, List.set_cons_zero, List.set_cons_succ]
  refine takeH 2 (v := ?_) rfl (by kernel_rfl) (by kernel_rfl) (by kernel_rfl) (fun _ _ _ h => h) (by rfl) ?_ (by assumption) ?_
  rotate_left
  · intro W hW
    go_simp
    try with_reducible rfl
  try simp only [Act.put, List.setIfInBounds_toArray, List.set_cons_zero, List.set_cons_succ]
  refine takeH 3 (v := ?_) rfl (by kernel_rfl) (by kernel_rfl) (by kernel_rfl) (fun _ _ _ h => h) (by rfl) ?_ (by assumption) ?_
  rotate_left
  · intro W hW
    go_simp
    try with_reducible rfl
  try simp only [Act.put, List.setIfInBounds_toArray, List.set_cons_zero, List.set_cons_succ]
  refine takeH 4 (v := ?_) rfl (by kernel_rfl) (by kernel_rfl) (by kernel_rfl) (fun _ _ _ h => h) (by rfl) ?_ (by assumption) ?_
  rotate_left
  · intro W hW
    go_simp
    try with_reducible rfl
  try simp only [Act.put, List.setIfInBounds_toArray, List.set_cons_zero, List.set_cons_succ]
  refine takeH 5 (v := ?_) rfl (by kernel_rfl) (by kernel_rfl) (by kernel_rfl) (fun _ _ _ h => h) (by rfl) ?_ (by assumption) ?_
  rotate_left
  · intro W hW
    go_simp
    try with_reducible rfl
  try simp only [Act.put, List.setIfInBounds_toArray, List.set_cons_zero, List.set_cons_succ]
  refine takeH 6 (v := ?_) rfl (by kernel_rfl) (by kernel_rfl) (by kernel_rfl) (fun _ _ _ h => h) (by rfl) ?_ (by assumption) ?_
  rotate_left
  · intro W hW
    go_simp
    try with_reducible rfl
  try simp only [Act.put, List.setIfInBounds_toArray, List.set_cons_zero, List.set_cons_succ]
  refine takeH 7 (v := ?_) rfl (by kernel_rfl) (by kernel_rfl) (by kernel_rfl) (fun _ _ _ h => h) (by rfl) ?_ (by assumption) ?_
  rotate_left
  · intro W hW
    go_simp
    try with_reducible rfl
  try simp only [Act.put, List.setIfInBounds_toArray, List.set_cons_zero, List.set_cons_succ]
  refine takeH 8 (v := ?_) rfl (by kernel_rfl) (by kernel_rfl) (by kernel_rfl) (fun _ _ _ h => h) (by rfl) ?_ (by assumption) ?_
  rotate_left
  · intro W hW
    go_simp
    try with_reducible rfl
  try simp only [Act.put, List.setIfInBounds_toArray, List.set_cons_zero, List.set_cons_succ]
  refine takeH 9 (v := ?_) rfl (by kernel_rfl) (by kernel_rfl) (by kernel_rfl) (fun _ _ _ h => h) (by rfl) ?_ (by assumption) ?_
  rotate_left
  · intro W hW
    go_simp
    try with_reducible rfl
  try simp only [Act.put, List.setIfInBounds_toArray, List.set_cons_zero, List.set_cons_succ]
  refine takeH 10 (v := ?_) rfl (by kernel_rfl) (by kernel_rfl) (by kernel_rfl) (fun _ _ _ h => h) (by rfl) ?_ (by assumption) ?_
  rotate_left
  · intro W hW
    go_simp
    try with_reducible rfl
  try simp only [Act.put, List.setIfInBounds_toArray, List.set_cons_zero, List.set_cons_succ]
  refine takeH 11 (v := ?_) rfl (by kernel_rfl) (by kernel_rfl) (by kernel_rfl) (fun _ _ _ h => h) (by rfl) ?_ (by assumption) ?_
  rotate_left
  · intro W hW
    go_simp
    try with_reducible rfl
  try simp only [Act.put, List.setIfInBounds_toArray, List.set_cons_zero, List.set_cons_succ]
  refine takeH 12 (v := ?_) rfl (by kernel_rfl) (by kernel_rfl) (by kernel_rfl) (fun _ _ _ h => h) (by rfl) ?_ (by assumption) ?_
  rotate_left
  · intro W hW
    go_simp
    try with_reducible rfl
  try simp only [Act.put, List.setIfInBounds_toArray, List.set_cons_zero, List.set_cons_succ]
  refine takeH 13 (v := ?_) rfl (by kernel_rfl) (by kernel_rfl) (by kernel_rfl) (fun _ _ _ h => h) (by rfl) ?_ (by assumption) ?_
  rotate_left
  · intro W hW
    go_simp
    try with_reducible rfl
  try simp only [Act.put, List.setIfInBounds_toArray, List.set_cons_zero, List.set_cons_succ]
  refine takeH 14 (v := ?_) rfl (by kernel_rfl) (by kernel_rfl) (by kernel_rfl) (fun _ _ _ h => h) (by rfl) ?_ (by assumption) ?_
  rotate_left
  · intro W hW
    go_simp
    try with_reducible rfl
  try simp only [Act.put, List.setIfInBounds_toArray, List.set_cons_zero, List.set_cons_succ]
  refine takeH 15 (v := ?_) rfl (by kernel_rfl) (by kernel_rfl) (by kernel_rfl) (fun _ _ _ h => h) (by rfl) ?_ (by assumption) ?_
  rotate_left
  · intro W hW
    go_simp
    try with_reducible rfl
  try simp only [Act.put, List.setIfInBounds_toArray, List.set_cons_zero, List.set_cons_succ]
  refine takeH 16 (v := ?_) rfl (by kernel_rfl) (by kernel_rfl) (by kernel_rfl) (fun _ _ _ h => h) (by rfl) ?_ (by assumption) ?_
  rotate_left
  · intro W hW
    go_simp
    try with_reducible rfl
  try simp only [Act.put, List.setIfInBounds_toArray, List.set_cons_zero, List.set_cons_succ]
  refine takeH 17 (v := ?_) rfl (by kernel_rfl) (by kernel_rfl) (by kernel_rfl) (fun _ _ _ h => h) (by rfl) ?_ (by assumption) ?_
  rotate_left
  · intro W hW
    go_simp
    try with_reducible rfl
  try simp only [Act.put, List.setIfInBounds_toArray, List.set_cons_zero, List.set_cons_succ]
  refine takeH 18 (v := ?_) rfl (by kernel_rfl) (by kernel_rfl) (by kernel_rfl) (fun _ _ _ h => h) (by rfl) ?_ (by assumption) ?_
  rotate_left
  · intro W hW
    go_simp
    try with_reducible rfl
  try simp only [Act.put, List.setIfInBounds_toArray, List.set_cons_zero, List.set_cons_succ]
  refine wpAnyH_done (by kernel_rfl) ?_ _
  go_wp2
  go_ret
  exact ⟨rfl, ⟨_, rfl⟩⟩
set_option maxRecDepth 100000 in
theorem ucut_any (c x : Nat) (w : World) (h : SpF 154 w F g s o ps a en) (hn : ps.length ≤ 100000) : Calls Tryz.prog 118 #[.pointer (some ⟨g, 0, none⟩), .agg #[.int .i64 c, .int .i64 x]] w fun e w' => e = .returned (.tuple #[]) ∧ SpF 154 w' (grow F w w') g s o (ps.erase (c, x)) a en ∧ Only F w w' := by
  obtain ⟨i0, hi, hz0, hz1, hz2⟩ := info_parts infoPart
  obtain ⟨h1, pv, h2, h3, h4⟩ := h
  obtain ⟨pa, pc, rfl, hs, hpc1, hpc2⟩ := h3.seq
  have HOW := Lib.hid h3
  have HOB := Lib.hid h4
  have HBK := Lib.hid h2
  have HFG := Lib.hid h1
  have HS := Lib.hid hs
  have hgl : g < w.heap.size := (Array.getElem?_eq_some_iff.1 h2).1
  have c0 := (cells_of_block h2 2).1
  simp at c0
  obtain ⟨n, hpn⟩ : ∃ n, n = ps.length := ⟨_, rfl⟩
  rw [← hpn] at c0 hn hpc1
  have HPN := Lib.hid hpn
  have hng : ∀ u, (w.alloc u).cell? ⟨g, 2, none⟩ = some (.slice pa n pc) := fun u => (World.cell?_of_block (a := ⟨g, 2, none⟩) (Below.heap_alloc w u g hgl)).trans c0
  clear h1 h2 h3 h4 hs hpn
  go_enter Tryz.func118, Tryz.ntmps118
  go_wp2_with fail
  clear c0 hng
  obtain ⟨ab, hab⟩ : ∃ ab, ab = w.heap.size := ⟨_, rfl⟩
  rw [← hab]
  have HAB := Lib.hid hab
  go_loopw [11] (fun i wr => ∃ k : Nat, k ≤ n ∧ i = .int .i64 (k : Int) ∧ Hid ((c, x) ∉ ps.take k) ∧ Hid (Below w.heap.size w wr) ∧ Hid (wr.heap[ab]? = some (.cells #[.int .i64 c, .int .i64 x] 199 (0, 0)))) (fun i _ => n - (intOf i).toNat)
  case atStart => exact ⟨0, Nat.zero_le _, rfl, by show _ ∉ _; simp, (Below.refl _ w).alloc (Nat.le_refl _) _, by rw [hab]; exact heap_alloc_new _ _⟩
  case round =>
    clear hab
    obtain ⟨k, hk, rfl, HK, HB, HA⟩ := hrel
    by_cases hlt : k < n
    · have hlt' : (k : Int) < (n : Int) := by omega
      obtain ⟨b, off, d, m, rfl, hc1, hc2, HP⟩ := (HS.out.below HB.out (Nat.le_refl _)).part (k := k) (by rw [← HPN.out]; exact hlt)
      have hal := (Array.getElem?_eq_some_iff.1 HA.out).1
      have hak := fun u => (Below.heap_alloc wr u ab hal).trans HA.out
      have a0 := fun u => (cells_of_block (hak u) 0).1
      have a1 := fun u => (cells_of_block (hak u) 1).1
      simp at a0 a1
      clear hal hak
      have HBA : Hid (Below w.heap.size w (wr.alloc (.cells #[.int .i64 d, .int .i64 m] 199))) := HB.out.alloc HB.out.size _
      have HAA : Hid ((wr.alloc (.cells #[.int .i64 d, .int .i64 m] 199)).heap[ab]? = some (.cells #[.int .i64 c, .int .i64 x] 199 (0, 0))) := (Below.heap_alloc wr _ ab (Array.getElem?_eq_some_iff.1 HA.out).1).trans HA.out
      by_cases he : (d, m) = (c, x)
      · have he1 : d = c := congrArg Prod.fst he
        have he2 : m = x := congrArg Prod.snd he
        subst he1 he2
        have ERS := Lib.hid (pcells_cut HP.out HK.out)
        go_wp2_with fail
        generalize hwa : wr.alloc (.cells #[.int .i64 d, .int .i64 m] 199) = wa at *
        have hgb : wa.heap[g]? = w.heap[g]? := HBA.out.block g hgl
        have HBG := Lib.hid (hgb.trans HBK.out)
        have c2 := (cells_of_block HBG.out 2).1
        simp at c2
        rw [← HPN.out] at c2
        have HOW2 : Hid (OwnO wa 2 (.slice (some ⟨b, off, none⟩) n pc) n (pcells ps)) := by
          have := HOW.out.kept (w' := wa) (fun q hq => HBA.out.block q (HOW.out.lt q hq))
          rw [← HPN.out] at this; exact this
        have HCUT := Lib.hid (HOW2.out.cut2 hlt)
        have HLN : Hid ((pcells (ps.drop (k + 1))).length = (n - (k + 1)) * 2) := by show _ = _; rw [pcells_length, List.length_drop, ← HPN.out]
        have HNW : Hid (∀ j u, (pcells (ps.drop (k + 1)))[j]? = some u → wa.cell? ⟨b, off + (k + 1) * 2 + j, none⟩ = some u) := cells_drop2 HOW2.out
        clear hwa hgb a0 a1 hc1 hc2
        have k1 : (0 : Int) ≤ (k : Int) := by omega
        have k2 : (k : Int) ≤ (pc : Int) := by omega
        have k3 : (k : Int) + 1 ≤ (n : Int) := by omega
        have k4 : (n : Int) ≤ (pc : Int) := by omega
        have k5 : ((k : Int) + 1).toNat = k + 1 := by omega
        have k6 : IntKind.i64.wrap ((k : Int) + 1) = (k : Int) + 1 := by rw [IntWalk.i64_in _ (by omega)]
        have k7 : (0 : Int) ≤ (k : Int) + 1 := by omega
        refine wp_region_lastH (S := fun W => W.cell? ⟨g, 2, none⟩ = some (.slice (some ⟨b, off, none⟩) n pc)) 18 (by kernel_rfl) (by kernel_rfl) c2 (fun hH => ?_)
        simp only [lastOps, nop, List.modify_toArray, List.modify_succ_cons, List.modify_zero_cons]
        refine takeH 0 (v := ?_) rfl (by kernel_rfl) (by kernel_rfl) (by kernel_rfl) (fun _ _ _ h => h) (by rfl) ?_ (by assumption) ?_
        rotate_left
        · intro W hW
          go_simp
          try with_reducible rfl
        try simp only [Act.put, List.setIfInBounds_toArray, List.set_cons_zero, List.set_cons_succ]
        refine takeH 1 (v := ?_) rfl (by kernel_rfl) (by kernel_rfl) (by kernel_rfl) (fun _ _ _ h => h) (by rfl) ?_ (by assumption) ?_
        rotate_left
        · intro W hW
          go_simp
          try with_reducible rfl
        try simp only [Act.put, List.setIfInBounds_toArray, List.set_cons_zero, List.set_cons_succ]
        refine takeH 2 (v := ?_) rfl (by kernel_rfl) (by kernel_rfl) (by kernel_rfl) (fun _ _ _ h => h) (by rfl) ?_ (by assumption) ?_
        rotate_left
        · intro W hW
          go_simp
          try with_reducible rfl
        try simp only [Act.put, List.setIfInBounds_toArray, List.set_cons_zero, List.set_cons_succ]
        refine takeH 3 (v := ?_) rfl (by kernel_rfl) (by kernel_rfl) (by kernel_rfl) (fun _ _ _ h => h) (by rfl) ?_ (by assumption) ?_
        rotate_left
        · intro W hW
          go_simp
          try with_reducible rfl
        try simp only [Act.put, List.setIfInBounds_toArray, List.set_cons_zero, List.set_cons_succ]
        refine takeH 4 (v := ?_) rfl (by kernel_rfl) (by kernel_rfl) (by kernel_rfl) (fun _ _ _ h => h) (by rfl) ?_ (by assumption) ?_
        rotate_left
        · intro W hW
          go_simp
          try with_reducible rfl
        try simp only [Act.put, List.setIfInBounds_toArray, List.set_cons_zero, List.set_cons_succ]
        refine takeH 5 (v := ?_) rfl (by kernel_rfl) (by kernel_rfl) (by kernel_rfl) (fun _ _ _ h => h) (by rfl) ?_ (by assumption) ?_
        rotate_left
        · intro W hW
          go_simp
          try with_reducible rfl
        try simp only [Act.put, List.setIfInBounds_toArray, List.set_cons_zero, List.set_cons_succ]
        refine takeH 6 (v := ?_) rfl (by kernel_rfl) (by kernel_rfl) (by kernel_rfl) (fun _ _ _ h => h) (by rfl) ?_ (by assumption) ?_
        rotate_left
        · intro W hW
          go_simp
          try with_reducible rfl
        try simp only [Act.put, List.setIfInBounds_toArray, List.set_cons_zero, List.set_cons_succ]
        refine takeH 7 (v := ?_) rfl (by kernel_rfl) (by kernel_rfl) (by kernel_rfl) (fun _ _ _ h => h) (by rfl) ?_ (by assumption) ?_
        rotate_left
        · intro W hW
          go_simp
          try with_reducible rfl
        try simp only [Act.put, List.setIfInBounds_toArray, List.set_cons_zero, List.set_cons_succ]
        refine takeH 8 (v := ?_) rfl (by kernel_rfl) (by kernel_rfl) (by kernel_rfl) (fun _ _ _ h => h) (by rfl) ?_ (by assumption) ?_
        rotate_left
        · intro W hW
          go_simp
          try with_reducible rfl
        try simp only [Act.put, List.setIfInBounds_toArray, List.set_cons_zero, List.set_cons_succ]
        refine takeH 9 (v := ?_) rfl (by kernel_rfl) (by kernel_rfl) (by kernel_rfl) (fun _ _ _ h => h) (by rfl) ?_ (by assumption) ?_
        rotate_left
        · intro W hW
          go_simp
          try with_reducible rfl
        try simp only [Act.put, List.setIfInBounds_toArray, List.set_cons_zero, List.set_cons_succ]
        refine takeH 10 (v := ?_) rfl (by kernel_rfl) (by kernel_rfl) (by kernel_rfl) (fun _ _ _ h => h) (by rfl) ?_ (by assumption) ?_
        rotate_left
        · intro W hW
          go_simp
          try with_reducible rfl
        try simp only [Act.put, List.setIfInBounds_toArray, List.set_cons_zero, List.set_cons_succ]
        refine takeH 11 (v := ?_) rfl (by kernel_rfl) (by kernel_rfl) (by kernel_rfl) (fun _ _ _ h => h) (by rfl) ?_ (by assumption) ?_
        rotate_left
        · intro W hW
          go_simp
          try with_reducible rfl
        try simp only [Act.put, List.setIfInBounds_toArray, List.set_cons_zero, List.set_cons_succ]
        refine takeH 12 (v := ?_) rfl (by kernel_rfl) (by kernel_rfl) (by kernel_rfl) (fun _ _ _ h => h) (by rfl) ?_ (by assumption) ?_
        rotate_left
        · intro W hW
          go_simp
          try with_reducible rfl
        try simp only [Act.put, List.setIfInBounds_toArray, List.set_cons_zero, List.set_cons_succ]
        refine takeH 13 (v := ?_) rfl (by kernel_rfl) (by kernel_rfl) (by kernel_rfl) (fun _ _ _ h => h) (by rfl) ?_ (by assumption) ?_
        rotate_left
        · intro W hW
          go_simp
          try with_reducible rfl
        try simp only [Act.put, List.setIfInBounds_toArray, List.set_cons_zero, List.set_cons_succ]
        refine takeH 14 (v := ?_) rfl (by kernel_rfl) (by kernel_rfl) (by kernel_rfl) (fun _ _ _ h => h) (by rfl) ?_ (by assumption) ?_
        rotate_left
        · intro W hW
          go_simp
          try with_reducible rfl
        try simp only [Act.put, List.setIfInBounds_toArray, List.set_cons_zero, List.set_cons_succ]
        obtain ⟨ad, had, hnw⟩ : ∃ ad, (if pc = k + 1 then some (⟨b, off, none⟩ : Addr) else some ⟨b, off + (k + 1) * 2, none⟩) = some ad ∧ ∀ j u, (pcells (ps.drop (k + 1)))[j]? = some u → wa.cell? (ad.add j) = some u := by
          by_cases hpc : pc = k + 1
          · refine ⟨_, if_pos hpc, fun j u hj => ?_⟩
            have h1 := (List.getElem?_eq_some_iff.1 hj).1
            have h2 := HLN.out
            omega
          · refine ⟨_, if_neg hpc, fun j u hj => ?_⟩
            rw [Addr.add_lit]
            exact HNW.out j u hj
        rw [had]
        clear had
        refine wpAnyH_ready (rs := [15]) (by kernel_rfl) (by simp) (readyH rfl (fun K hK => ?_) AllReadyH.nil)
        rw [if_pos (by rfl)]
        refine wpO_appendO _ (.tmp 26) (.tmp 33) 152 rfl 199 i0 _ 2 16 Tryz.underlying152 hi hz0 hz1 hz2 rfl (by decide) (.slice (some ⟨b, off, none⟩) k k) k ((pcells ps).take (k * 2)) rfl (HCUT.out.kept (fun _ _ => rfl)) ad (n - (k + 1)) (pc - (k + 1)) (pcells (ps.drop (k + 1))) rfl HLN.out ?hn ?h1 ?h63 ?hby ?_
        case hn => exact hnw
        case h1 => exact pcells_one _
        case h63 => unfold maxLen; omega
        case hby => omega
        intro v3 w3 r1 r2 r3
        have hlen : k + (n - (k + 1)) = (ps.erase (d, m)).length := by
          rw [ERS.out, List.length_append, List.length_take, List.length_drop, ← HPN.out]; omega
        have hcells : (pcells ps).take (k * 2) ++ pcells (ps.drop (k + 1)) = pcells (ps.erase (d, m)) := by
          rw [ERS.out, pcells_append, pcells_take]
        rw [hlen, hcells] at r1
        have hgl2 : g < wa.heap.size := (Array.getElem?_eq_some_iff.1 HBG.out).1
        have hgb3 : w3.heap[g]? = wa.heap[g]? := r2.block g hgl2 (fun e => (HOB.out g e.symm).2 rfl)
        have HO3 : Hid (Only F w w3) := (Only.of_below HBA.out F).drew.grown r2 (fun q hq => Or.inl (HOB.out q hq).1)
        have HN3 : Hid (∀ q, v3.ownBlock = some q → grow F w w3 q ∧ q ≠ g) := fun q hq => by
          rcases r3 q hq with h' | h'
          · exact ⟨Or.inl (HOB.out q h').1, (HOB.out q h').2⟩
          · have h1 := h'.1
            have h2 : w.heap.size ≤ wa.heap.size := HBA.out.size
            simp at h1
            exact ⟨Or.inr ⟨by omega, h'.2⟩, by omega⟩
        have HV3 := Lib.hid r1
        have HP3 := Lib.hid (SpF.put HFG.out HO3.out (hgb3.trans HBG.out) HV3.out HN3.out)
        obtain ⟨a3, cap3, rfl, -, -, -⟩ := r1.seq
        have d2 := (cells_of_block (hgb3.trans HBG.out) 2)
        simp at d2
        obtain ⟨d2, d2f⟩ := d2
        rw [← HPN.out] at d2
        clear r1 r2 r3 hlen hcells hgb3 hnw
        refine hK.out _ _ d2 (fun hH => ?_)
        clear hK K
        try simp only [Act.put, List.setIfInBounds_toArray, List.set_cons_zero, List.set_cons_succ]
        refine takeH 16 (v := ?_) rfl (by kernel_rfl) (by kernel_rfl) (by kernel_rfl) (fun _ _ _ h => h) (by rfl) ?_ (by assumption) ?_
        rotate_left
        · intro W hW
          go_simp
          try with_reducible rfl
        try simp only [Act.put, List.setIfInBounds_toArray, List.set_cons_zero, List.set_cons_succ]
        refine takeH 17 (v := ?_) rfl (by kernel_rfl) (by kernel_rfl) (by kernel_rfl) (fun _ _ _ h => h) (by rfl) ?_ (by assumption) ?_
        rotate_left
        · intro W hW
          go_simp
          try with_reducible rfl
        try simp only [Act.put, List.setIfInBounds_toArray, List.set_cons_zero, List.set_cons_succ]
        refine takeH 18 (v := ?_) rfl (by kernel_rfl) (by kernel_rfl) (by kernel_rfl) (fun _ _ _ h => h) (by rfl) ?_ (by assumption) ?_
        rotate_left
        · intro W hW
          go_simp
          try with_reducible rfl
        try simp only [Act.put, List.setIfInBounds_toArray, List.set_cons_zero, List.set_cons_succ]
        refine lastH_done (by kernel_rfl) rfl (by rfl) ?_
        go_simp
        go_wp2
        try simp only [Exit.inBlock, Exit.then]
        exact bodyPost_ret (results_none rfl _ _ _) rfl ⟨rfl, HP3.out.1, HP3.out.2⟩
      · have HK2 : Hid ((c, x) ∉ ps.take (k + 1)) := by
          show _ ∉ _
          rw [take_next HP.out, List.mem_append, List.mem_singleton]
          exact fun h' => h'.elim HK.out (fun e => he e.symm)
        by_cases h1 : d = c
        · have h2 : ((m : Int) == (x : Int)) = false := by
            have : m ≠ x := fun e => he (by rw [h1, e])
            simp; omega
          clear he
          subst h1
          go_wp2_with fail
          go_roundw
          case rel => exact ⟨k + 1, by omega, by go_num, HK2, HBA, HAA⟩
          case measure => simp [intOf]; omega
        · have h2 : ((d : Int) == (c : Int)) = false := by simp; omega
          clear he h1
          go_wp2_with fail
          go_roundw
          case rel => exact ⟨k + 1, by omega, by go_num, HK2, HBA, HAA⟩
          case measure => simp [intOf]; omega
    · have hlt' : ¬ (k : Int) < (n : Int) := by omega
      go_wp2_with fail
      go_end0
      have hne : ps.erase (c, x) = ps := by
        have := HK.out
        rw [List.take_of_length_le (by rw [← HPN.out]; omega)] at this
        exact List.erase_of_not_mem this
      rw [hne]
      refine ⟨rfl, ⟨Or.inl HFG.out, _, (HB.out.block g hgl).trans HBK.out, HOW.out.kept (fun k hk => HB.out.block k (HOW.out.lt k hk)), fun k hk => ⟨Or.inl (HOB.out k hk).1, (HOB.out k hk).2⟩⟩, Only.of_below HB.out F⟩
end Go.Proofs.YtcdpnfchmpncjaaGreatDoor
