/-
  Parts of the proof, one behind the other: KRem, Gray1.
-/
import Derived.StillTailTactics
import Derived.Test.YtcdpnfchmpncjaaGreatDoorMa26
set_option linter.unusedSimpArgs false
set_option linter.unusedVariables false
namespace Go.Tr
open Go.RowKit
variable {P : Program} {w : World}
theorem run_range_none {t k e : TypeId} (ht : P.underlying t = some (.map k e)) (w : World) : (Instr.range t (.map none)).run P w = .ok (.pointer (some ⟨w.heap.size, 0, none⟩)) (w.alloc (.mapIter none 0 #[] 0)) := by
  simp [Instr.range, run_underlying ht, Result.andThen]
theorem run_next_none {r a c : Nat} {sn : Array Nat} (h : w.heap[r]? = some (.mapIter none a sn c)) (ty : TypeId) : (Instr.next (.pointer (some ⟨r, 0, none⟩)) false ty).run P w = .ok (.tuple #[.bool false]) w := by
  have hg : (getObj r).run P w = .ok (.mapIter none a sn c) w := by simp [getObj, Sem.run, h]
  simp [Instr.next, hg, Result.andThen]
theorem run_look_empty {t k e : TypeId} {b c : Nat} {key z : Value} (ht : P.underlying t = some (.map k e)) (hb : w.heap[b]? = some (.map #[] c)) (hk : ∀ em, (Instr.checkKey em 10000 k key).run P w = .ok () w) (hz : ∀ w, (zeroValue e).run P w = .ok z w)
    (hf : (Instr.findKey k key []).run P w = .ok none w) (co : Bool) : (Instr.lookup t (.map (some b)) key co).run P w = .ok (if co then .tuple #[z, .bool false] else z) w := by
  cases co <;> simp [Instr.lookup, run_underlying ht, MapKept.run_getObj_map hb, hk, hf, hz, Result.andThen]
end Go.Tr
namespace Go.Proofs.YtcdpnfchmpncjaaGreatDoor
open Go.RowKit Go.Tr Go.Shelf
variable {w w' : World} {F G : Nat → Prop} {r : Nat}
theorem refKey (em : Bool) (a b : Int) (w : World) : (Instr.checkKey em 10000 227 (.agg #[.int .i64 a, .int .i64 b])).run Tryz.prog w = .ok () w := by kernel_rfl
theorem refFind (a b : Int) (w : World) : (Instr.findKey 227 (.agg #[.int .i64 a, .int .i64 b]) []).run Tryz.prog w = .ok none w := by kernel_rfl
theorem look_ref {b c : Nat} (h : w.heap[b]? = some (.map #[] c)) (x y : Int) : (Instr.lookup 185 (.map (some b)) (.agg #[.int .i64 x, .int .i64 y]) true).run Tryz.prog w = .ok (.tuple #[.int .i64 0, .bool false]) w :=
  run_look_empty Tryz.underlying185 h (fun em => refKey em x y w) Tryz.zeroValue3 (refFind x y w) true
def RemF (w : World) (F : Nat → Prop) (r : Nat) : Prop := F r ∧ ∃ m1 m2 m3 c, w.heap[r]? = some (.cells #[.map (some m1), .map (some m2), .map (some m3)] 188 (0, 0)) ∧ F m1 ∧ F m2 ∧ F m3 ∧ w.heap[m1]? = some (.map #[] c) ∧ MapI w m2 [] ∧ MapI w m3 []
theorem RemF.kept (h : RemF w F r) (hk : ∀ k, F k → k < w.heap.size → w'.heap[k]? = w.heap[k]?) : RemF w' F r := by
  obtain ⟨h0, m1, m2, m3, c, h1, f1, f2, f3, h2, h3, h4⟩ := h
  exact ⟨h0, m1, m2, m3, c, (hk r h0 (Array.getElem?_eq_some_iff.1 h1).1).trans h1, f1, f2, f3, (hk m1 f1 (Array.getElem?_eq_some_iff.1 h2).1).trans h2, h3.kept (hk m2 f2 h3.lt), h4.kept (hk m3 f3 h4.lt)⟩
set_option maxRecDepth 100000 in
theorem rnew_any (w : World) : Calls Tryz.prog 78 #[] w fun e w' => ∃ r, e = .returned (.pointer (some ⟨r, 0, none⟩)) ∧ RemF w' (fun k => w.heap.size ≤ k ∧ k < w'.heap.size) r ∧ Below w.heap.size w w' := by
  go_enter Tryz.func78, Tryz.ntmps78
  have hmm := @run_makeMap Tryz.prog
  go_wp2
  go_ret
  have h2 := MapI.made (w.alloc (.map #[] 0))
  have h3 := MapI.made ((w.alloc (.map #[] 0)).alloc (.map #[] 0))
  have h4 := heap_alloc_new (((w.alloc (.map #[] 0)).alloc (.map #[] 0)).alloc (.map #[] 0)) (.cells #[.map (some w.heap.size), .map (some (w.heap.size + 1)), .map (some (w.heap.size + 1 + 1))] 188)
  simp only [World.size_alloc] at h2 h3 h4
  have hb := ((((Below.refl _ w).alloc (Nat.le_refl _) (.map #[] 0)).alloc (by simp) (.map #[] 0)).alloc (by simp <;> omega) (.map #[] 0)).alloc (by simp <;> omega) (.cells #[.map (some w.heap.size), .map (some (w.heap.size + 1)), .map (some (w.heap.size + 1 + 1))] 188)
  refine ⟨w.heap.size + 1 + 1 + 1, rfl, ⟨⟨by omega, by simp⟩, w.heap.size, w.heap.size + 1, w.heap.size + 1 + 1, 0, h4, ⟨by omega, by simp <;> omega⟩, ⟨by omega, by simp <;> omega⟩, ⟨by omega, by simp <;> omega⟩, ?_, ?_, ?_⟩, hb⟩
  · exact (Below.heap_alloc _ _ _ (by simp <;> omega)).trans ((Below.heap_alloc _ _ _ (by simp <;> omega)).trans ((Below.heap_alloc _ _ _ (by simp)).trans (heap_alloc_new w _)))
  · exact (h2.kept (Below.heap_alloc _ _ _ (by simp))).kept (Below.heap_alloc _ _ _ (by simp <;> omega))
  · exact h3.kept (Below.heap_alloc _ _ _ (by simp))
set_option maxRecDepth 100000 in
theorem rto_any (x y : Nat) (w : World) (h : RemF w F r) : Calls Tryz.prog 185 #[.pointer (some ⟨r, 0, none⟩), .agg #[.int .i64 x, .int .i64 y]] w fun e w' => e = .returned (.tuple #[.int .i64 0, .bool false]) ∧ Below w.heap.size w w' := by
  obtain ⟨h0, m1, m2, m3, c, h1, f1, f2, f3, h2, h3, h4⟩ := h
  have hb : Below w.heap.size w (w.alloc (.cells #[.int .i64 x, .int .i64 y] 227)) := (Below.refl _ w).alloc (Nat.le_refl _) _
  have HB := Lib.hid hb
  have HM := Lib.hid ((hb.block m1 (Array.getElem?_eq_some_iff.1 h2).1).trans h2)
  have c0 := (cells_of_block ((hb.block r (Array.getElem?_eq_some_iff.1 h1).1).trans h1) 0).1
  have HX : Hid ((w.alloc (.cells #[.int .i64 x, .int .i64 y] 227)).heap[w.heap.size]? = some (.cells #[.int .i64 x, .int .i64 y] 227 (0, 0))) := heap_alloc_new w _
  obtain ⟨xb, hxb⟩ : ∃ xb, xb = w.heap.size := ⟨_, rfl⟩
  rw [← hxb] at HX
  simp at c0
  clear h1 h2 h3 h4 hb
  go_enter Tryz.func185, Tryz.ntmps185
  go_wp2_with fail
  rw [← hxb]
  have HXB := Lib.hid hxb
  clear hxb
  generalize w.alloc (.cells #[.int .i64 x, .int .i64 y] 227) = wa at *
  have d0 := (cells_of_block HX.out 0).1
  have d1 := (cells_of_block HX.out 1).1
  simp at d0 d1
  refine wp_region_held_drew (S := fun W => W.cell? ⟨r, 0, none⟩ = some (.map (some m1)) ∧ W.cell? ⟨xb, 0, none⟩ = some (.int .i64 x) ∧ W.cell? ⟨xb, 1, none⟩ = some (.int .i64 y) ∧ W.heap[m1]? = some (.map #[] c)) (by kernel_rfl) ⟨c0, d0, d1, HM.out⟩ (fun hH => ?_)
  refine takeH 0 (v := ?_) rfl (by kernel_rfl) (by kernel_rfl) (by kernel_rfl) (fun _ _ _ h => h) (by rfl) ?_ (by assumption) ?_
  rotate_left
  · intro W hW
    go_simp
    try with_reducible rfl
  try simp only [Act.put, List.setIfInBounds_toArray, List.set_cons_zero, List.set_cons_succ]
  refine takeH 1 (v := ?_) rfl (by kernel_rfl) (by kernel_rfl) (by kernel_rfl) (fun _ _ _ h => h) (by rfl) ?_ (by assumption) ?_
  rotate_left
  · intro W hW
    go_simp
    try with_reducible rfl
  try simp only [Act.put, List.setIfInBounds_toArray, List.set_cons_zero, List.set_cons_succ]
  refine takeH 2 (v := ?_) rfl (by kernel_rfl) (by kernel_rfl) (by kernel_rfl) (fun _ _ _ h => h) (by rfl) ?_ (by assumption) ?_
  rotate_left
  · intro W hW
    go_simp
    try with_reducible rfl
  try simp only [Act.put, List.setIfInBounds_toArray, List.set_cons_zero, List.set_cons_succ]
  refine takeH 3 (v := ?_) rfl (by kernel_rfl) (by kernel_rfl) (by kernel_rfl) (fun _ _ _ h => h) (by rfl) ?_ (by assumption) ?_
  rotate_left
  · intro W hW
    go_simp
    try with_reducible rfl
  try simp only [Act.put, List.setIfInBounds_toArray, List.set_cons_zero, List.set_cons_succ]
  refine takeH 4 (v := ?_) rfl (by kernel_rfl) (by kernel_rfl) (by kernel_rfl) (fun _ _ _ h => h) (by rfl) ?_ (by assumption) ?_
  rotate_left
  · intro W hW
    go_simp
    try with_reducible rfl
  try simp only [Act.put, List.setIfInBounds_toArray, List.set_cons_zero, List.set_cons_succ]
  refine takeH 5 (v := .tuple #[.int .i64 0, .bool false]) rfl (by kernel_rfl) (by kernel_rfl) (by kernel_rfl) (fun _ _ _ h => h) (by rfl) ?_ hH ?_
  · intro W hW
    go_simp
    rw [look_ref hW.2.2.2]
    rfl
  try simp only [Act.put, List.setIfInBounds_toArray, List.set_cons_zero, List.set_cons_succ]
  refine takeH 6 (v := ?_) rfl (by kernel_rfl) (by kernel_rfl) (by kernel_rfl) (fun _ _ _ h => h) (by rfl) ?_ (by assumption) ?_
  rotate_left
  · intro W hW
    go_simp
    try with_reducible rfl
  try simp only [Act.put, List.setIfInBounds_toArray, List.set_cons_zero, List.set_cons_succ]
  refine takeH 7 (v := ?_) rfl (by kernel_rfl) (by kernel_rfl) (by kernel_rfl) (fun _ _ _ h => h) (by rfl) ?_ (by assumption) ?_
  rotate_left
  · intro W hW
    go_simp
    try with_reducible rfl
  try simp only [Act.put, List.setIfInBounds_toArray, List.set_cons_zero, List.set_cons_succ]
  refine takeH 8 (v := ?_) rfl (by kernel_rfl) (by kernel_rfl) (by kernel_rfl) (fun _ _ _ h => h) (by rfl) ?_ (by assumption) ?_
  rotate_left
  · intro W hW
    go_simp
    try with_reducible rfl
  try simp only [Act.put, List.setIfInBounds_toArray, List.set_cons_zero, List.set_cons_succ]
  refine takeH 9 (v := ?_) rfl (by kernel_rfl) (by kernel_rfl) (by kernel_rfl) (fun _ _ _ h => h) (by rfl) ?_ (by assumption) ?_
  rotate_left
  · intro W hW
    go_simp
    try with_reducible rfl
  try simp only [Act.put, List.setIfInBounds_toArray, List.set_cons_zero, List.set_cons_succ]
  refine takeH 10 (v := ?_) rfl (by kernel_rfl) (by kernel_rfl) (by kernel_rfl) (fun _ _ _ h => h) (by rfl) ?_ (by assumption) ?_
  rotate_left
  · intro W hW
    go_simp
    try with_reducible rfl
  try simp only [Act.put, List.setIfInBounds_toArray, List.set_cons_zero, List.set_cons_succ]
  refine wpAnyH_done (by kernel_rfl) ?_ _
  go_wp2_with fail
  go_ret2
  exact ⟨rfl, HB.out.drew⟩
set_option maxRecDepth 100000 in
theorem rcut_any (x y : Nat) (w : World) (h : RemF w F r) : Calls Tryz.prog 141 #[.pointer (some ⟨r, 0, none⟩), .agg #[.int .i64 x, .int .i64 y]] w fun e w' => e = .returned (.bool false) ∧ Below w.heap.size w w' := by
  have hb : Below w.heap.size w (w.alloc (.cells #[.int .i64 x, .int .i64 y] 227)) := (Below.refl _ w).alloc (Nat.le_refl _) _
  have HB := Lib.hid hb
  have HT := Lib.hid (rto_any x y _ (h.kept (fun k _ hl => hb.block k hl)))
  clear h hb
  go_enter Tryz.func141, Tryz.ntmps141
  go_wp2_with fail
  refine HT.out.mono ?_
  rintro e w1 ⟨rfl, hb1⟩
  have HB1 : Hid (Below w.heap.size w w1) := HB.out.trans (hb1.mono HB.out.size)
  clear hb1
  go_wp2_with fail
  go_ret
  exact ⟨rfl, HB1.out⟩
theorem keys_seq (bx : Nat) (w : World) (h : w.heap[bx]? = some (.cells #[.map none] 185 (0, 0))) : SeqAll (fun _ A B => Below A.heap.size A B) (fun _ _ => True) Tryz.prog 190 #[.pointer (some ⟨bx, 0, none⟩)] (fun _ : Unit => #[undef]) [] w := fun l J W hW hSt hY h0 => by
  have hb := (hW.block bx (Array.getElem?_eq_some_iff.1 h).1).trans h
  have c0 := (cells_of_block hb 0).1
  simp at c0
  have HJ : Hid (∀ A B, J [] A → Below A.heap.size A B → J [] B) := fun A B => hSt [] A B
  have H0 := Lib.hid h0
  have HI : Hid ((W.alloc (.mapIter none 0 #[] 0)).heap[W.heap.size]? = some (.mapIter none 0 #[] 0)) := heap_alloc_new W _
  clear hb h hW hSt hY h0
  refine callsIn_wide.2 ?_
  have hra := run_range_none (P := Tryz.prog) Tryz.underlying185
  have hnx := run_next_none (P := Tryz.prog) HI.out
  go_enter Tryz.func190, Tryz.ntmps190
  go_wp2_with fail
  go_loopw [7] (fun _ wr => wr = W.alloc (.mapIter none 0 #[] 0)) (fun _ _ => 0)
  case atStart => rfl
  case round =>
    subst hrel
    go_wp2_with fail
    go_end0
    exact ⟨⟨_, rfl⟩, HJ.out _ _ H0.out ((Below.refl _ W).alloc (Nat.le_refl _) _)⟩
set_option maxRecDepth 100000 in
theorem keys_any (w : World) : Calls Tryz.prog 148 #[.map none] w fun e w' => e = .returned (.func (.func 190) #[] #[.pointer (some ⟨w.heap.size, 0, none⟩)]) ∧ w' = w.alloc (.cells #[.map none] 185) := by
  go_enter Tryz.func148, Tryz.ntmps148
  go_wp2
  go_ret
  exact ⟨rfl, rfl⟩
set_option maxRecDepth 100000 in
set_option maxHeartbeats 1000000 in
theorem appseq_any (bx : Nat) (w : World) (h : w.heap[bx]? = some (.cells #[.map none] 185 (0, 0))) : Calls Tryz.prog 204 #[.slice none 0 0, .func (.func 190) #[] #[.pointer (some ⟨bx, 0, none⟩)]] w fun e w' => e = .returned (.slice none 0 0) ∧ Below w.heap.size w w' := by
  have hb1 : Below w.heap.size w (w.alloc (.cells #[.slice none 0 0] 119)) := (Below.refl _ w).alloc (Nat.le_refl _) _
  have HB1 := Lib.hid hb1
  have HSEQ := Lib.hid (keys_seq bx (w.alloc (.cells #[.slice none 0 0] 119)) ((hb1.block bx (Array.getElem?_eq_some_iff.1 h).1).trans h))
  have HX : Hid ((w.alloc (.cells #[.slice none 0 0] 119)).heap[w.heap.size]? = some (.cells #[.slice none 0 0] 119 (0, 0))) := heap_alloc_new w _
  obtain ⟨xb, hxb⟩ : ∃ xb, xb = w.heap.size := ⟨_, rfl⟩
  rw [← hxb] at HX
  clear hb1 h
  refine (callsIn_wide (n := 2)).1 ?_
  refine callsIn_of_wp_marks Tryz.func204 rfl trivial ?_ rfl
  simp only [Tryz.ntmps204, List.size_toArray, List.length_cons, List.length_nil, Nat.reduceAdd, Nat.reduceSub, Array.replicate_succ, Array.replicate_zero, List.push_toArray, List.append_toArray, List.nil_append, List.cons_append]
  gi_wp2_with fail
  rw [← hxb]
  have HXB := Lib.hid hxb
  clear hxb
  generalize w.alloc (.cells #[.slice none 0 0] 119) = wa at *
  refine range_all (m := 0) (gf := 190) (lb := #[.pointer (some ⟨bx, 0, none⟩)]) rfl (enters_of Tryz.func190 (by kernel_rfl) rfl) HSEQ.out (Below.refl _ _) (fun _ => rfl) (fun _ _ => trivial) (fun _ _ _ _ => trivial)
    (fun pre W' => Below wa.heap.size wa W') ?hib ?hst ?hsk ?h0 ?round ?done
  case hib => exact fun pre W' r r' hI _ => ⟨hI.os, hI.tape, hI.output, by have := hI.size; simpa using this, fun k hk => (World.putObj_heap_other (by omega)).trans (hI.block k hk)⟩
  case hst => exact fun pre A B hI hb => hI.trans (hb.mono hI.size)
  case hsk => exact fun A B k hb _ hk => hb.block k hk
  case h0 => exact fun r => ((Below.refl _ wa).alloc (Nat.le_refl _) _).alloc (by simp) _
  case round =>
    intro pre x W1 _ hpre
    have := hpre.length_le
    simp at this
  case done =>
    intro W1 hI hD
    have hI2 := Lib.hid hI
    have c0 := (cells_of_block ((hI.block xb (Array.getElem?_eq_some_iff.1 HX.out).1).trans HX.out) 0).1
    simp at c0
    clear hI
    gi_wp2_with fail
    refine ⟨by simp, .inl ⟨_, _, rfl, run_takeDeferred hD, ?_⟩⟩
    exact ⟨_, results_tmp rfl _ _ _, rfl, HB1.out.trans (⟨hI2.out.os, hI2.out.tape, hI2.out.output, by have := hI2.out.size; simpa using this, fun k hk => (World.putObj_heap_other (by have := HB1.out.size; omega)).trans (hI2.out.block k (by have := HB1.out.size; omega))⟩)⟩
set_option maxRecDepth 100000 in
theorem collect_any (bx : Nat) (w : World) (h : w.heap[bx]? = some (.cells #[.map none] 185 (0, 0))) : Calls Tryz.prog 188 #[.func (.func 190) #[] #[.pointer (some ⟨bx, 0, none⟩)]] w fun e w' => e = .returned (.slice none 0 0) ∧ Below w.heap.size w w' := by
  have HA := Lib.hid (appseq_any bx w h)
  go_enter Tryz.func188, Tryz.ntmps188
  go_wp2_with fail
  refine HA.out.mono ?_
  rintro e w1 ⟨rfl, hb⟩
  have HB := Lib.hid hb
  clear hb
  go_wp2
  go_ret
  exact ⟨rfl, HB.out⟩
set_option maxRecDepth 100000 in
theorem insort_none (cf : Value) (w : World) : Calls Tryz.prog 211 #[.slice none 0 0, .int .i64 0, .int .i64 0, cf] w fun e w' => e = .returned (.tuple #[]) ∧ w = w' := by
  go_enter Tryz.func211, Tryz.ntmps211
  go_wp2_with fail
  go_loopw [8] (fun i wr => i = .int .i64 1 ∧ wr = w) (fun _ _ => 0)
  case atStart => exact ⟨rfl, rfl⟩
  case round =>
    obtain ⟨rfl, rfl⟩ := hrel
    go_wp2_with fail
    go_end0
    exact ⟨rfl, rfl⟩
set_option maxRecDepth 100000 in
set_option maxHeartbeats 1000000 in
theorem pdq_none (k : Int) (cf : Value) (w : World) : Calls Tryz.prog 205 #[.slice none 0 0, .int .i64 0, .int .i64 0, .int .i64 k, cf] w fun e w' => e = .returned (.tuple #[]) ∧ w = w' := by
  have HI := Lib.hid (insort_none cf w)
  go_enter Tryz.func205, Tryz.ntmps205
  go_wp2_with fail
  refine wp_loop_rounds 1 ?_
  rw [rounds_succ]
  go_wp2_with fail
  refine HI.out.mono ?_
  rintro e w1 ⟨rfl, rfl⟩
  go_wp2_with fail
  try simp only [Exit.inBlock, Exit.then]
  exact bodyPost_ret (results_none rfl _ _ _) rfl ⟨rfl, rfl⟩
theorem len0_any (w : World) : Calls Tryz.prog 121 #[.int .u64 0] w fun e w' => e = .returned (.int .i64 0) ∧ w = w' := by
  have HL := Lib.hid (len64_any 0 (by omega) w)
  go_enter Tryz.func121, Tryz.ntmps121
  go_wp2_with fail
  refine HL.out.mono ?_
  rintro e w1 ⟨rfl, rfl⟩
  go_wp2
  go_ret
  exact ⟨rfl, rfl⟩
set_option maxRecDepth 100000 in
theorem sortfunc_none (cf : Value) (w : World) : Calls Tryz.prog 189 #[.slice none 0 0, cf] w fun e w' => e = .returned (.tuple #[]) ∧ w = w' := by
  go_enter Tryz.func189, Tryz.ntmps189
  go_wp2_with fail
  refine (len0_any w).mono ?_
  rintro e w1 ⟨rfl, rfl⟩
  go_wp2_with fail
  refine (pdq_none 0 cf w).mono ?_
  rintro e w1 ⟨rfl, rfl⟩
  go_wp2
  go_end0
  exact ⟨rfl, rfl⟩
set_option maxRecDepth 100000 in
theorem sortedfunc_any (bx : Nat) (cf : Value) (w : World) (h : w.heap[bx]? = some (.cells #[.map none] 185 (0, 0))) : Calls Tryz.prog 147 #[.func (.func 190) #[] #[.pointer (some ⟨bx, 0, none⟩)], cf] w fun e w' => e = .returned (.slice none 0 0) ∧ Below w.heap.size w w' := by
  have HA := Lib.hid (collect_any bx w h)
  go_enter Tryz.func147, Tryz.ntmps147
  go_wp2_with fail
  refine HA.out.mono ?_
  rintro e w1 ⟨rfl, hb⟩
  have HB := Lib.hid hb
  clear hb
  go_wp2_with fail
  refine (sortfunc_none cf w1).mono ?_
  rintro e w2 ⟨rfl, rfl⟩
  go_wp2
  go_ret
  exact ⟨rfl, HB.out⟩
set_option maxRecDepth 100000 in
theorem rsorted_any (w : World) : Calls Tryz.prog 107 #[.map none] w fun e w' => e = .returned (.slice none 0 0) ∧ Below w.heap.size w w' := by
  have hb : Below w.heap.size w (w.alloc (.cells #[.map none] 185)) := (Below.refl _ w).alloc (Nat.le_refl _) _
  have HB := Lib.hid hb
  have HX : Hid ((w.alloc (.cells #[.map none] 185)).heap[w.heap.size]? = some (.cells #[.map none] 185 (0, 0))) := heap_alloc_new w _
  clear hb
  go_enter Tryz.func107, Tryz.ntmps107
  go_wp2_with fail
  refine (keys_any w).mono ?_
  rintro e w1 ⟨rfl, rfl⟩
  go_wp2_with fail
  refine (sortedfunc_any _ _ _ HX.out).mono ?_
  rintro e w2 ⟨rfl, hb2⟩
  have HB2 : Hid (Below w.heap.size w w2) := HB.out.trans (hb2.mono HB.out.size)
  clear hb2
  go_wp2
  go_ret
  exact ⟨rfl, HB2.out⟩
set_option maxRecDepth 100000 in
theorem rof_any (x : Int) (w : World) (h : RemF w F r) : Calls Tryz.prog 57 #[.pointer (some ⟨r, 0, none⟩), .int .i64 x] w fun e w' => e = .returned (.slice none 0 0) ∧ Below w.heap.size w w' := by
  obtain ⟨h0, m1, m2, m3, c, h1, f1, f2, f3, h2, h3, h4⟩ := h
  have c1 := (cells_of_block h1 1).1
  simp at c1
  have HM := Lib.hid h3
  clear h1 h2 h3 h4
  go_enter Tryz.func57, Tryz.ntmps57
  go_wp2_with (first
    | (refine wpList_lookI _ rfl (.tmp 10) (.tmp 11) 186 rfl 3 185 Tryz.underlying186 Tryz.underlying3 _ Tryz.zeroValue185 m2 _ rfl HM.out x rfl ?_)
    | fail)
  refine (rsorted_any w).mono ?_
  rintro e w1 ⟨rfl, hb⟩
  have HB := Lib.hid hb
  clear hb
  go_wp2
  go_ret
  exact ⟨rfl, HB.out⟩
set_option maxRecDepth 100000 in
theorem rfrom_any (x : Int) (w : World) (h : RemF w F r) : Calls Tryz.prog 155 #[.pointer (some ⟨r, 0, none⟩), .int .i64 x] w fun e w' => e = .returned (.slice none 0 0) ∧ Below w.heap.size w w' := by
  obtain ⟨h0, m1, m2, m3, c, h1, f1, f2, f3, h2, h3, h4⟩ := h
  have c1 := (cells_of_block h1 2).1
  simp at c1
  have HM := Lib.hid h4
  clear h1 h2 h3 h4
  go_enter Tryz.func155, Tryz.ntmps155
  go_wp2_with (first
    | (refine wpList_lookI _ rfl (.tmp 10) (.tmp 11) 186 rfl 3 185 Tryz.underlying186 Tryz.underlying3 _ Tryz.zeroValue185 m3 _ rfl HM.out x rfl ?_)
    | fail)
  refine (rsorted_any w).mono ?_
  rintro e w1 ⟨rfl, hb⟩
  have HB := Lib.hid hb
  clear hb
  go_wp2
  go_ret
  exact ⟨rfl, HB.out⟩
set_option maxRecDepth 100000 in
theorem rforget_any (x : Int) (w : World) (h : RemF w F r) : Calls Tryz.prog 113 #[.pointer (some ⟨r, 0, none⟩), .int .i64 x] w fun e w' => e = .returned (.int .i64 0) ∧ Below w.heap.size w w' := by
  have HF := Lib.hid (rfrom_any x w h)
  clear h
  go_enter Tryz.func113, Tryz.ntmps113
  go_wp2_with fail
  refine HF.out.mono ?_
  rintro e w1 ⟨rfl, hb⟩
  have HB := Lib.hid hb
  clear hb
  go_wp2_with fail
  go_loopw [13] (fun i wr => i = .int .i64 0 ∧ wr = w1) (fun _ _ => 0)
  case atStart => exact ⟨rfl, rfl⟩
  case round =>
    obtain ⟨rfl, rfl⟩ := hrel
    go_wp2
    go_ret
    exact ⟨rfl, HB.out⟩
end Go.Proofs.YtcdpnfchmpncjaaGreatDoor
namespace Go.Proofs.YtcdpnfchmpncjaaGreatDoor
open Go.RowKit Go.Tr
theorem zeroThing (w : World) : (zeroValue 167).run Tryz.prog w = .ok (.agg #[.int .i64 0, .int .i64 0]) w := by kernel_rfl
theorem infoTurn : (Tryz.prog.info? 190).map (fun i => (i.zero, i.size, i.bytes)) = some (some (.agg #[.int .i64 0, .int .i64 0]), 2, 16) := by kernel_rfl
theorem fieldThing0 (a b : Int) (w : World) : (Instr.field 167 (.agg #[.int .i64 a, .int .i64 b]) 0).run Tryz.prog w = .ok (.int .i64 a) w := by kernel_rfl
set_option maxRecDepth 100000 in
theorem gnew_any (w : World) : Calls Tryz.prog 54 #[] w fun e w' => ∃ g, e = .returned (.pointer (some ⟨g, 0, none⟩)) ∧ GrayAt 165 w' g (grow (fun _ => False) w w') GS.new ∧ Only (fun _ => False) w w' ∧ w.heap.size ≤ g := by
  have hmm := @run_makeMap Tryz.prog
  go_enter Tryz.func54, Tryz.ntmps54
  go_wp2
  go_ret
  refine ⟨w.heap.size + 1, rfl, ⟨Or.inr (by simp), w.heap.size, .slice none 0 0, ?_, Or.inr (by simp; omega), by omega, (MapI.made w).kept (Below.heap_alloc _ _ _ (by simp)), OwnO.nil _ _, by simp [Value.ownBlock]⟩, ((Only.refl _ w).alloc _).alloc _, by omega⟩
  have := heap_alloc_new (w.alloc (.map #[] 0)) (.cells #[.map (some w.heap.size), .slice none 0 0, .int .i64 0, .int .i64 0] 165)
  rw [World.size_alloc] at this
  exact this
set_option maxRecDepth 100000 in
theorem color_any {g : Nat} {F : Nat → Prop} {S : GS} (x : Int) (w : World) (h : GrayAt 165 w g F S) : Calls Tryz.prog 65 #[.pointer (some ⟨g, 0, none⟩), .int .i64 x] w fun e w' => e = .returned (.int .i64 (S.color x)) ∧ w = w' := by
  obtain ⟨h1, bm, qv, h2, h3, h4, h5, h6, h7⟩ := h
  have hc0 := (cells_of_block h2 0).1
  simp at hc0
  have hl := look_thing S x
  have HL := Lib.hid hl; clear hl
  have H2 := Lib.hid h2; clear h2
  have H5 := Lib.hid h5; clear h5
  clear h1 h3 h4 h6 h7
  have hf0 := fieldThing0
  go_enter Tryz.func65, Tryz.ntmps65
  go_wp2_with (first | (at_lookup; refine wpList_lookI _ rfl _ _ 162 rfl 3 167 Tryz.underlying162 Tryz.underlying3 _ zeroThing bm _ rfl H5.out x rfl ?_; rw [HL.out]))
  go_ret
  exact ⟨rfl, rfl⟩
set_option maxRecDepth 100000 in
theorem glen_any {g : Nat} {F : Nat → Prop} {S : GS} (w : World) (h : GrayAt 165 w g F S) : Calls Tryz.prog 64 #[.pointer (some ⟨g, 0, none⟩)] w fun e w' => e = .returned (.int .i64 S.wait) ∧ w = w' := by
  obtain ⟨h1, bm, qv, h2, h3, h4, h5, h6, h7⟩ := h
  have hc3 := (cells_of_block h2 3).1
  simp at hc3
  clear h1 h2 h3 h4 h5 h6 h7
  go_enter Tryz.func64, Tryz.ntmps64
  go_wp2
  go_ret
  exact ⟨rfl, rfl⟩
set_option maxRecDepth 100000 in
theorem enter_any {g : Nat} {F : Nat → Prop} {S : GS} (x : Int) (w : World) (h : GrayAt 165 w g F S) (hs : S.Small 1000000) : Calls Tryz.prog 108 #[.pointer (some ⟨g, 0, none⟩), .int .i64 x] w fun e w' => e = .returned (.tuple #[]) ∧ GrayAt 165 w' g (grow F w w') (S.enter x) ∧ Only F w w' := by
  obtain ⟨h1, bm, qv, h2, h3, h4, h5, h6, h7⟩ := h
  obtain ⟨s1, s2, s3, s4, s5⟩ := hs
  obtain ⟨i0, hi, hz0, hz1, hz2⟩ := info_parts infoTurn
  have hc0 := cells_of_block h2 0
  have hc1 := cells_of_block h2 1
  have hc2 := cells_of_block h2 2
  have hc3 := cells_of_block h2 3
  simp at hc0 hc1 hc2 hc3
  obtain ⟨c0, f0⟩ := hc0
  obtain ⟨c1, f1⟩ := hc1
  obtain ⟨c2, f2⟩ := hc2
  obtain ⟨c3, f3⟩ := hc3
  have H2 := Lib.hid h2; clear h2
  go_enter Tryz.func108, Tryz.ntmps108
  go_wp2
  generalize hw1 : (w.setCell ⟨g, 2, none⟩ (.int .i64 (S.last + 1))).setCell ⟨g, 3, none⟩ (.int .i64 (S.wait + 1)) = w1
  have hb1 : w1.heap[g]? = some (.cells #[.map (some bm), qv, .int .i64 (S.last + 1), .int .i64 (S.wait + 1)] 165 (0, 0)) := by
    rw [← hw1]; exact block_setCell (block_setCell H2.out 2 _) 3 _
  have ho1 : Only F w w1 := by rw [← hw1]; exact ((Only.refl F w).setCell (Or.inl h1) _).setCell (Or.inl h1) _
  have hk1 : ∀ k, k ≠ g → w1.heap[k]? = w.heap[k]? := fun k hk => by rw [← hw1, Below.heap_setCell _ _ _ _ hk, Below.heap_setCell _ _ _ _ hk]
  have hs1 : w1.heap.size = w.heap.size := by rw [← hw1]; simp [World.setCell]
  clear hw1 c0 c1 c2 c3 f0 f1 f2 f3
  have hc0 := cells_of_block hb1 0
  have hc1 := cells_of_block hb1 1
  have hc2 := cells_of_block hb1 2
  simp at hc0 hc1 hc2
  obtain ⟨c0, f0⟩ := hc0
  obtain ⟨c1, f1⟩ := hc1
  obtain ⟨c2, f2⟩ := hc2
  have HB1 := Lib.hid hb1; clear hb1
  have HO1 := Lib.hid ho1; clear ho1
  have HS1 := Lib.hid hs1; clear hs1
  have HM1 : Hid (MapI w1 bm (mapA thingV S.tab)) := h5.kept (hk1 bm h4)
  have HQ1 : Hid (OwnO w1 2 qv S.q.length (ecells S.q)) := h6.kept (fun k hk => hk1 k (h7 k hk).2.1)
  clear hk1
  go_still_tail 10, (by kernel_rfl)
  refine wpList_putI _ rfl (.tmp 21) (.tmp 22) (.tmp 27) 162 rfl 3 167 Tryz.underlying162 Tryz.underlying3 bm _ rfl HM1.out x rfl (thingV (1, S.last + 1)) rfl ?_
  intro w2 hm2 hg2 hs2
  have hk2 : ∀ k, k ≠ bm → k < w1.heap.size → w2.heap[k]? = w1.heap[k]? := fun k hk hl => hg2.block k hl (by simpa using hk)
  have hgl : g < w1.heap.size := (Array.getElem?_eq_some_iff.1 HB1.out).1
  have hb2 : w2.heap[g]? = some (.cells #[.map (some bm), qv, .int .i64 (S.last + 1), .int .i64 (S.wait + 1)] 165 (0, 0)) := (hk2 g (Ne.symm h4) hgl).trans HB1.out
  have HQ2 : Hid (OwnO w2 2 qv S.q.length (ecells S.q)) := HQ1.out.kept (fun k hk => hk2 k (h7 k hk).2.2 (HQ1.out.lt k hk))
  have HM2 : Hid (MapI w2 bm (mapA thingV (putA S.tab x (1, S.last + 1)))) := by
    have := hm2; rw [putA_mapA] at this; exact this
  have HO2 : Hid (Only F w w2) := HO1.out.drew.grown hg2 (fun k hk => by cases hk; exact Or.inl h3)
  have HS2 : Hid (w2.heap.size = w.heap.size) := hs2.trans HS1.out
  clear hk2 hgl hm2 hg2 hs2 c0 c1 c2 f0 f1 f2 HM1 HQ1 HO1 HB1 HS1
  have hc1 := cells_of_block hb2 1
  have hc2 := cells_of_block hb2 2
  simp at hc1 hc2
  obtain ⟨c1, f1⟩ := hc1
  obtain ⟨c2, f2⟩ := hc2
  have HB2 := Lib.hid hb2; clear hb2
  go_wp2
  refine wp_region_lastH (S := fun W => W.cell? ⟨g, 1, none⟩ = some qv ∧ W.cell? ⟨g, 2, none⟩ = some (.int .i64 (S.last + 1))) 15 (by kernel_rfl) (by kernel_rfl) ⟨c1, c2⟩ (fun hH => ?_)
  simp only [lastOps, nop, List.modify_toArray, List.modify_succ_cons, List.modify_zero_cons]
  refine takeH 0 (v := ?_) rfl (by kernel_rfl) (by kernel_rfl) (by kernel_rfl) (fun _ _ _ h => h) (by rfl) ?_ (by assumption) ?_
  rotate_left
  · intro W hW
    go_simp
    try with_reducible rfl
  try simp only [Act.put, List.setIfInBounds_toArray, List.set_cons_zero, List.set_cons_succ]
  refine takeH 1 (v := ?_) rfl (by kernel_rfl) (by kernel_rfl) (by kernel_rfl) (fun _ _ _ h => h) (by rfl) ?_ (by assumption) ?_
  rotate_left
  · intro W hW
    go_simp
    try with_reducible rfl
  try simp only [Act.put, List.setIfInBounds_toArray, List.set_cons_zero, List.set_cons_succ]
  refine takeH 2 (v := ?_) rfl (by kernel_rfl) (by kernel_rfl) (by kernel_rfl) (fun _ _ _ h => h) (by rfl) ?_ (by assumption) ?_
  rotate_left
  · intro W hW
    go_simp
    try with_reducible rfl
  try simp only [Act.put, List.setIfInBounds_toArray, List.set_cons_zero, List.set_cons_succ]
  refine takeH 3 (v := ?_) rfl (by kernel_rfl) (by kernel_rfl) (by kernel_rfl) (fun _ _ _ h => h) (by rfl) ?_ (by assumption) ?_
  rotate_left
  · intro W hW
    go_simp
    try with_reducible rfl
  try simp only [Act.put, List.setIfInBounds_toArray, List.set_cons_zero, List.set_cons_succ]
  refine takeH 4 (v := ?_) rfl (by kernel_rfl) (by kernel_rfl) (by kernel_rfl) (fun _ _ _ h => h) (by rfl) ?_ (by assumption) ?_
  rotate_left
  · intro W hW
    go_simp
    try with_reducible rfl
  try simp only [Act.put, List.setIfInBounds_toArray, List.set_cons_zero, List.set_cons_succ]
  refine takeH 5 (v := ?_) rfl (by kernel_rfl) (by kernel_rfl) (by kernel_rfl) (fun _ _ _ h => h) (by rfl) ?_ (by assumption) ?_
  rotate_left
  · intro W hW
    go_simp
    try with_reducible rfl
  try simp only [Act.put, List.setIfInBounds_toArray, List.set_cons_zero, List.set_cons_succ]
  refine takeH 6 (v := ?_) rfl (by kernel_rfl) (by kernel_rfl) (by kernel_rfl) (fun _ _ _ h => h) (by rfl) ?_ (by assumption) ?_
  rotate_left
  · intro W hW
    go_simp
    try with_reducible rfl
  try simp only [Act.put, List.setIfInBounds_toArray, List.set_cons_zero, List.set_cons_succ]
  refine takeH 7 (v := ?_) rfl (by kernel_rfl) (by kernel_rfl) (by kernel_rfl) (fun _ _ _ h => h) (by rfl) ?_ (by assumption) ?_
  rotate_left
  · intro W hW
    go_simp
    try with_reducible rfl
  try simp only [Act.put, List.setIfInBounds_toArray, List.set_cons_zero, List.set_cons_succ]
  refine takeH 8 (v := ?_) rfl (by kernel_rfl) (by kernel_rfl) (by kernel_rfl) (fun _ _ _ h => h) (by rfl) ?_ (by assumption) ?_
  rotate_left
  · intro W hW
    go_simp
    try with_reducible rfl
  try simp only [Act.put, List.setIfInBounds_toArray, List.set_cons_zero, List.set_cons_succ]
  refine takeH 9 (v := ?_) rfl (by kernel_rfl) (by kernel_rfl) (by kernel_rfl) (fun _ _ _ h => h) (by rfl) ?_ (by assumption) ?_
  rotate_left
  · intro W hW
    go_simp
    try with_reducible rfl
  try simp only [Act.put, List.setIfInBounds_toArray, List.set_cons_zero, List.set_cons_succ]
  refine takeH 10 (v := ?_) rfl (by kernel_rfl) (by kernel_rfl) (by kernel_rfl) (fun _ _ _ h => h) (by rfl) ?_ (by assumption) ?_
  rotate_left
  · intro W hW
    go_simp
    try with_reducible rfl
  try simp only [Act.put, List.setIfInBounds_toArray, List.set_cons_zero, List.set_cons_succ]
  refine wpAnyH_ready (rs := [11]) (by kernel_rfl) (by simp) (readyH rfl (fun K hK => ?_) AllReadyH.nil)
  rw [if_pos (by rfl)]
  go_simp
  have hgl2 : g < w2.heap.size := (Array.getElem?_eq_some_iff.1 HB2.out).1
  refine hK.out _ _ ⟨(World.cell?_alloc_lt _ _ _ hgl2).trans hH.1, (World.cell?_alloc_lt _ _ _ hgl2).trans hH.2⟩ (fun hH => ?_)
  clear hK K
  try simp only [Act.put, List.setIfInBounds_toArray, List.set_cons_zero, List.set_cons_succ]
  refine wpAnyH_ready (rs := [12]) (by kernel_rfl) (by simp) (readyH rfl (fun K hK => ?_) AllReadyH.nil)
  rw [if_pos (by rfl)]
  refine wpO_appendO _ (.tmp 32) (.tmp 39) 163 rfl 190 i0 _ 2 16 Tryz.underlying163 hi hz0 hz1 hz2 rfl (by decide) qv S.q.length (ecells S.q) rfl (HQ2.out.kept ?hkept) ⟨w2.heap.size, 0, none⟩ 1 1 [.int .i64 x, .int .i64 (S.last + 1)] rfl rfl ?hn ?h1 ?h63 ?hby ?_
  case hkept => exact fun k hk => Below.heap_alloc _ _ _ (HQ2.out.lt k hk)
  case hn =>
    intro j u hj
    rcases j with _ | _ | j
    · simp at hj; subst hj; simp [Addr.add]
    · simp at hj; subst hj; simp [Addr.add]
    · simp at hj
  case h1 => intro u hu; simp at hu; rcases hu with rfl | rfl <;> rfl
  case h63 => unfold maxLen; omega
  case hby => omega
  intro v3 w3 r1 r2 r3
  obtain ⟨a3, cap3, rfl, -, -, -⟩ := r1.seq
  have hg3 : w3.heap[g]? = w2.heap[g]? := (r2.block g (by simp; omega) (fun e => (h7 g e.symm).2.1 rfl)).trans (Below.heap_alloc _ _ _ hgl2)
  have hb3 := hg3.trans HB2.out
  have hm3 : w3.heap[bm]? = w2.heap[bm]? := (r2.block bm (by have := HM2.out.lt; simp; omega) (fun e => (h7 bm e.symm).2.2 rfl)).trans (Below.heap_alloc _ _ _ HM2.out.lt)
  have HM3 : Hid (MapI w3 bm (mapA thingV (putA S.tab x (1, S.last + 1)))) := HM2.out.kept hm3
  have HO3 : Hid (Only F w w3) := (HO2.out.drew.alloc _).grown r2 (fun k hk => Or.inl (h7 k hk).1)
  have HR3 := Lib.hid r1
  have r4 : ∀ k, (Value.slice a3 (S.q.length + 1) cap3).ownBlock = some k → grow F w w3 k ∧ k ≠ g ∧ k ≠ bm := by
    intro k hk
    rcases r3 k hk with h | h
    · exact ⟨Or.inl (h7 k h).1, (h7 k h).2⟩
    · have h8 := h.1
      have h9 := HM2.out.lt
      have h10 := HS2.out
      simp at h8
      exact ⟨Or.inr ⟨by omega, h.2⟩, by omega, by omega⟩
  have HR4 := Lib.hid r4
  have hc1 := cells_of_block hb3 1
  have hc2 := cells_of_block hb3 2
  simp at hc1 hc2
  obtain ⟨d1, e1⟩ := hc1
  obtain ⟨d2, e2⟩ := hc2
  have HB3 := Lib.hid hb3
  clear hb3 hm3 r1 r2 r3 r4 c1 c2 f1 f2 hg3
  refine hK.out _ _ ⟨d1, d2⟩ (fun hH => ?_)
  clear hK K
  try simp only [Act.put, List.setIfInBounds_toArray, List.set_cons_zero, List.set_cons_succ]
  refine takeH 13 (v := ?_) rfl (by kernel_rfl) (by kernel_rfl) (by kernel_rfl) (fun _ _ _ h => h) (by rfl) ?_ (by assumption) ?_
  rotate_left
  · intro W hW
    go_simp
    try with_reducible rfl
  try simp only [Act.put, List.setIfInBounds_toArray, List.set_cons_zero, List.set_cons_succ]
  refine takeH 14 (v := ?_) rfl (by kernel_rfl) (by kernel_rfl) (by kernel_rfl) (fun _ _ _ h => h) (by rfl) ?_ (by assumption) ?_
  rotate_left
  · intro W hW
    go_simp
    try with_reducible rfl
  try simp only [Act.put, List.setIfInBounds_toArray, List.set_cons_zero, List.set_cons_succ]
  refine takeH 15 (v := ?_) rfl (by kernel_rfl) (by kernel_rfl) (by kernel_rfl) (fun _ _ _ h => h) (by rfl) ?_ (by assumption) ?_
  rotate_left
  · intro W hW
    go_simp
    try with_reducible rfl
  try simp only [Act.put, List.setIfInBounds_toArray, List.set_cons_zero, List.set_cons_succ]
  refine lastH_done (by kernel_rfl) rfl (by rfl) ?_
  go_simp
  go_wp2
  go_end0
  have hsz : (w3.setCell ⟨g, 1, none⟩ (.slice a3 (S.q.length + 1) cap3)).heap.size = w3.heap.size := by simp [World.setCell]
  have hkk : ∀ k, k ≠ g → (w3.setCell ⟨g, 1, none⟩ (.slice a3 (S.q.length + 1) cap3)).heap[k]? = w3.heap[k]? := fun k hk => Below.heap_setCell _ _ _ _ hk
  refine ⟨rfl, ⟨Or.inl h1, bm, .slice a3 (S.q.length + 1) cap3, block_setCell HB3.out 1 _, Or.inl h3, h4, HM3.out.kept (hkk bm h4), ?_, fun k hk => ?_⟩, HO3.out.setCell (Or.inl h1) _⟩
  · have := HR3.out.kept (fun k hk => hkk k (HR4.out k hk).2.1)
    have e : ecells [(x, S.last + 1)] = [.int .i64 x, .int .i64 (S.last + 1)] := rfl
    simpa [GS.enter, ecells_append, e] using this
  · obtain ⟨h8, h9⟩ := HR4.out k hk
    exact ⟨by unfold grow at h8 ⊢; rw [hsz]; exact h8, h9⟩
end Go.Proofs.YtcdpnfchmpncjaaGreatDoor
