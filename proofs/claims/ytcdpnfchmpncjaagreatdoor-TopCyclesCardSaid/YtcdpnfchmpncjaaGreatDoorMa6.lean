/-
  Parts of the proof, one behind the other: KStore, KStore2, KStore3.
-/
import Derived.Deep.QuietTactic
import Derived.BigQuiet
import Derived.Lib.SliceRun
import Derived.Shelf.Spec.SlicesInsert
import Derived.Test.YtcdpnfchmpncjaaGreatDoorMa5
set_option linter.unusedSimpArgs false
set_option linter.unusedVariables false
namespace Go.Tr
open Go.RowKit
def nv (x : Nat) : Value := .int .i64 (x : Int)
def ns (xs : List Nat) : List Value := xs.map nv
def onB (own : List Nat) : Nat → Bool := fun i => decide (own.getD i 0 ≠ 0)
theorem us_cell {w : World} {b : Nat} {ws : List Nat} {U : TypeId} (h : w.heap[b]? = some (.cells (us ws).toArray U (0, 0))) {j x : Nat} (hx : ws[j]? = some x) : w.cell? ⟨b, j, none⟩ = some (.int .u64 x) ∧ w.frozen? ⟨b, j, none⟩ = false := by
  refine ⟨?_, by simp [World.frozen?, h]⟩
  rw [cell_of_row w b j _ _ (0, 0) h]
  simp [us, hx, uv]
theorem ns_cell {w : World} {b : Nat} {ws : List Nat} {U : TypeId} (h : w.heap[b]? = some (.cells (ns ws).toArray U (0, 0))) {j x : Nat} (hx : ws[j]? = some x) : w.cell? ⟨b, j, none⟩ = some (.int .i64 x) ∧ w.frozen? ⟨b, j, none⟩ = false := by
  refine ⟨?_, by simp [World.frozen?, h]⟩
  rw [cell_of_row w b j _ _ (0, 0) h]
  simp [ns, hx, nv]
theorem setCell_ns {w : World} {b : Nat} {ws : List Nat} {U : TypeId} (h : w.heap[b]? = some (.cells (ns ws).toArray U (0, 0))) (j y : Nat) : (w.setCell ⟨b, j, none⟩ (.int .i64 (y : Int))).heap[b]? = some (.cells (ns (ws.set j y)).toArray U (0, 0)) := by
  simp [World.setCell, Array.getElem?_modify, h, ns, List.map_set, nv]
def Owned (own : List Nat) (Wd addr n : Nat) : Prop := ∀ c, addr / Wd ≤ c → c ≤ (addr + n - 1) / Wd → own.getD c 0 ≠ 0
theorem World.cell_kept {w w' : World} {b o : Nat} (h : w'.heap[b]? = w.heap[b]?) : w'.cell? ⟨b, o, none⟩ = w.cell? ⟨b, o, none⟩ := World.cell?_of_block (a := ⟨b, o, none⟩) h
theorem World.frozen_kept {w w' : World} {b o : Nat} (h : w'.heap[b]? = w.heap[b]?) : w'.frozen? ⟨b, o, none⟩ = w.frozen? ⟨b, o, none⟩ := World.frozen?_of_block (a := ⟨b, o, none⟩) h
end Go.Tr
namespace Go.Proofs.YtcdpnfchmpncjaaGreatDoor
open Go.RowKit Go.Tr Go.Shelf
variable {w w' : World} {g wb ob m C Wd : Nat} {ws own : List Nat} {F Fm : Nat → Prop}
structure StAt (w : World) (g wb ob m : Nat) (Fm : Nat → Prop) (C Wd : Nat) (ws own : List Nat) : Prop where
  block : w.heap[g]? = some (.cells #[.slice (some ⟨wb, 0, none⟩) (C * Wd) (C * Wd), .int .i64 Wd, .slice (some ⟨ob, 0, none⟩) C C, .pointer (some ⟨m, 0, none⟩)] 98 (0, 0))
  words : w.heap[wb]? = some (.cells (us ws).toArray 34 (0, 0))
  owners : w.heap[ob]? = some (.cells (ns own).toArray 3 (0, 0))
  map : BMF w Fm m C (onB own)
  ne : g ≠ wb ∧ g ≠ ob ∧ wb ≠ ob
  nf : ¬ Fm g ∧ ¬ Fm wb ∧ ¬ Fm ob
  len : ws.length = C * Wd
  olen : own.length = C
  small : ∀ x ∈ ws, x < 18446744073709551616
  cb : 1 ≤ C ∧ C ≤ 1024
  wd : 1 ≤ Wd ∧ Wd ≤ 1024
def StF (w : World) (F : Nat → Prop) (g C Wd : Nat) (ws own : List Nat) : Prop := ∃ wb ob m Fm, StAt w g wb ob m Fm C Wd ws own ∧ F g ∧ F wb ∧ F ob ∧ ∀ k, Fm k → F k
theorem StAt.lt (h : StAt w g wb ob m Fm C Wd ws own) : g < w.heap.size ∧ wb < w.heap.size ∧ ob < w.heap.size := ⟨(Array.getElem?_eq_some_iff.1 h.block).1, (Array.getElem?_eq_some_iff.1 h.words).1, (Array.getElem?_eq_some_iff.1 h.owners).1⟩
theorem StF.kept (h : StF w F g C Wd ws own) (hk : ∀ k, F k → k < w.heap.size → w'.heap[k]? = w.heap[k]?) : StF w' F g C Wd ws own := by
  obtain ⟨wb, ob, m, Fm, h, h1, h2, h3, h4⟩ := h
  obtain ⟨l1, l2, l3⟩ := h.lt
  exact ⟨wb, ob, m, Fm, ⟨(hk _ h1 l1).trans h.block, (hk _ h2 l2).trans h.words, (hk _ h3 l3).trans h.owners, h.map.kept (fun k hf hl => hk k (h4 k hf) hl), h.ne, h.nf, h.len, h.olen, h.small, h.cb, h.wd⟩, h1, h2, h3, h4⟩
theorem StAt.head (h : StAt w g wb ob m Fm C Wd ws own) : w.cell? ⟨g, 0, none⟩ = some (.slice (some ⟨wb, 0, none⟩) (C * Wd) (C * Wd)) ∧ w.cell? ⟨g, 1, none⟩ = some (.int .i64 Wd) ∧ w.cell? ⟨g, 2, none⟩ = some (.slice (some ⟨ob, 0, none⟩) C C) ∧ w.cell? ⟨g, 3, none⟩ = some (.pointer (some ⟨m, 0, none⟩)) := by
  refine ⟨?_, ?_, ?_, ?_⟩
  · have := cell_of_row w g 0 _ _ (0, 0) h.block; simpa using this
  · have := cell_of_row w g 1 _ _ (0, 0) h.block; simpa using this
  · have := cell_of_row w g 2 _ _ (0, 0) h.block; simpa using this
  · have := cell_of_row w g 3 _ _ (0, 0) h.block; simpa using this
theorem swords_any (w : World) (h : StF w F g C Wd ws own) : Calls Tryz.prog 68 #[.pointer (some ⟨g, 0, none⟩)] w fun e w' => e = .returned (.int .i64 Wd) ∧ w = w' := by
  obtain ⟨wb, ob, m, Fm, h, -⟩ := h
  obtain ⟨c0, c1, c2, c3⟩ := h.head
  clear h
  go_enter Tryz.func68, Tryz.ntmps68
  go_wp2
  go_ret
  exact ⟨rfl, rfl⟩
set_option maxRecDepth 100000 in
theorem sfree_any (w : World) (h : StF w F g C Wd ws own) : Calls Tryz.prog 13 #[.pointer (some ⟨g, 0, none⟩)] w fun e w' => e = .returned (.int .i64 ((C : Int) - (cntB (onB own) C : Nat))) ∧ Drawn w w' := by
  obtain ⟨wb, ob, m, Fm, h, -⟩ := h
  obtain ⟨c0, c1, c2, c3⟩ := h.head
  have HC : Hid (∀ W : World, W.heap = w.heap → Calls Tryz.prog 42 #[.pointer (some ⟨m, 0, none⟩)] W fun e w' => e = .returned (.int .i64 (cntB (onB own) C)) ∧ W = w') := fun W e => mcountF W (h.map.kept (fun k _ _ => by rw [e]))
  have hcb := h.cb
  have hcl := cntB_le (onB own) C
  obtain ⟨cn, hcn⟩ : ∃ cn, cn = cntB (onB own) C := ⟨_, rfl⟩
  rw [← hcn] at HC hcl ⊢
  clear h hcn
  go_enter Tryz.func13, Tryz.ntmps13
  go_wp2_with fail
  go_quiet ((go_at_call 42; exact quiet_same (HC.out _ rfl)))
  go_wp2
  go_ret
  exact ⟨rfl, ⟨_, rfl⟩⟩
set_option maxRecDepth 100000 in
theorem sat_any (addr n : Nat) (w : World) (h : StF w F g C Wd ws own) (hn : 1 ≤ n) (hr : addr + n ≤ C * Wd) (ho : Owned own Wd addr n) : Calls Tryz.prog 178 #[.pointer (some ⟨g, 0, none⟩), .int .i64 addr, .int .i64 n] w fun e w' => e = .returned (.int .i64 0) ∧ w = w' := by
  obtain ⟨wb, ob, m, Fm, h, -⟩ := h
  obtain ⟨c0, c1, c2, c3⟩ := h.head
  have HA := Lib.hid h
  have HO := Lib.hid ho
  obtain ⟨hw1, hw2⟩ := h.wd
  obtain ⟨hc1, hc2⟩ := h.cb
  have hbig : C * Wd ≤ 1048576 := Nat.le_trans (Nat.mul_le_mul hc2 hw2) (by decide)
  obtain ⟨sz, hsz⟩ : ∃ sz, sz = C * Wd := ⟨_, rfl⟩
  rw [← hsz] at c0 hr hbig
  have HSZ := Lib.hid hsz
  clear h ho hsz
  obtain ⟨q0, hq0⟩ : ∃ q0, q0 = addr / Wd := ⟨_, rfl⟩
  obtain ⟨q1, hq1⟩ : ∃ q1, q1 = (addr + n - 1) / Wd := ⟨_, rfl⟩
  have h01 : q0 ≤ q1 := by rw [hq0, hq1]; exact Nat.div_le_div_right (by omega)
  have h1c : q1 < C := by rw [hq1, Nat.div_lt_iff_lt_mul (by omega)]; have := HSZ.out; omega
  have HOW : Hid (∀ c, q0 ≤ c → c ≤ q1 → own.getD c 0 ≠ 0) := by rw [hq0, hq1]; exact HO.out
  have e0 : (addr : Int) / (Wd : Int) = (q0 : Int) := by rw [hq0]; push_cast; rfl
  have e1 : ((addr : Int) + (n : Int) - 1) / (Wd : Int) = (q1 : Int) := by
    rw [hq1]
    have : (addr : Int) + (n : Int) - 1 = ((addr + n - 1 : Nat) : Int) := by omega
    rw [this]; push_cast; rfl
  clear hq0 hq1 HO
  have hwz : ¬ ((Wd : Int) = 0) := by omega
  go_enter Tryz.func178, Tryz.ntmps178
  go_wp2_with fail
  go_loopw [7] (fun i wr => wr = w ∧ ∃ c : Nat, i = .int .i64 (c : Int) ∧ q0 ≤ c ∧ c ≤ q1 + 1) (fun i _ => q1 + 1 - (intOf i).toNat)
  case atStart => exact ⟨rfl, q0, rfl, Nat.le_refl _, by omega⟩
  case round =>
    obtain ⟨rfl, c, rfl, hc1', hc2'⟩ := hrel
    by_cases hlt : c ≤ q1
    · have hlt' : (c : Int) ≤ (q1 : Int) := by omega
      have hox := HOW.out c hc1' hlt
      obtain ⟨o, hoo⟩ : ∃ o, own[c]? = some o := ⟨_, List.getElem?_eq_getElem (by rw [HA.out.olen]; omega)⟩
      obtain ⟨cc, fc⟩ := ns_cell HA.out.owners hoo
      have ho0 : ((o : Int) == 0) = false := by simp [List.getD, hoo] at hox; simp; omega
      have hcC : c < C := by omega
      clear hox hoo
      go_wp2
      go_roundw
      case rel => exact ⟨trivial, c + 1, by go_num, by omega, by omega⟩
      case measure => simp [intOf]; omega
    · have hlt' : ¬ (c : Int) ≤ (q1 : Int) := by omega
      go_wp2
      go_ret
      exact ⟨rfl, rfl⟩
theorem owned_one {own : List Nat} {Wd addr : Nat} (h : own.getD (addr / Wd) 0 ≠ 0) : Owned own Wd addr 1 := fun c h1 h2 => by
  have e : c = addr / Wd := by simp at h2; omega
  rw [e]; exact h
theorem sat1_any (addr : Nat) (w : World) (h : StF w F g C Wd ws own) (hr : addr < C * Wd) (ho : own.getD (addr / Wd) 0 ≠ 0) : Calls Tryz.prog 178 #[.pointer (some ⟨g, 0, none⟩), .int .i64 addr, .int .i64 1] w fun e w' => e = .returned (.int .i64 0) ∧ w = w' :=
  sat_any addr 1 w h (Nat.le_refl _) (by omega) (owned_one ho)
set_option maxRecDepth 100000 in
theorem sread_any (addr : Nat) (w : World) (h : StF w F g C Wd ws own) (hr : addr < C * Wd) (ho : own.getD (addr / Wd) 0 ≠ 0) : Calls Tryz.prog 143 #[.pointer (some ⟨g, 0, none⟩), .int .i64 addr] w fun e w' => e = .returned (.tuple #[.int .u64 (ws.getD addr 0 : Nat), .int .i64 0]) ∧ w = w' := by
  have HAT := Lib.hid (sat1_any addr w h hr ho)
  obtain ⟨wb, ob, m, Fm, h, -⟩ := h
  obtain ⟨c0, c1, c2, c3⟩ := h.head
  have hbig : C * Wd ≤ 1048576 := Nat.le_trans (Nat.mul_le_mul h.cb.2 h.wd.2) (by decide)
  obtain ⟨x, hx⟩ : ∃ x, ws[addr]? = some x := ⟨_, List.getElem?_eq_getElem (by rw [h.len]; exact hr)⟩
  obtain ⟨cx, fx⟩ := us_cell h.words hx
  have HX : Hid (ws.getD addr 0 = x) := by show _ = _; simp [List.getD, hx]
  obtain ⟨sz, hsz⟩ : ∃ sz, sz = C * Wd := ⟨_, rfl⟩
  rw [← hsz] at c0 hr hbig
  rw [HX.out]
  clear h ho hx hsz
  go_enter Tryz.func143, Tryz.ntmps143
  go_wp2_with fail
  refine HAT.out.mono ?_
  rintro e w' ⟨rfl, rfl⟩
  go_wp2_with fail
  go_ret2
  exact ⟨rfl, rfl⟩
end Go.Proofs.YtcdpnfchmpncjaaGreatDoor
namespace Go.Proofs.YtcdpnfchmpncjaaGreatDoor
open Go.RowKit Go.Tr Go.Shelf
variable {w w' : World} {g wb ob m C Wd : Nat} {ws own : List Nat} {F Fm : Nat → Prop}
theorem StAt.word (h : StAt w g wb ob m Fm C Wd ws own) (j y : Nat) (hy : y < 18446744073709551616) : StAt (w.setCell ⟨wb, j, none⟩ (.int .u64 (y : Int))) g wb ob m Fm C Wd (ws.set j y) own := by
  obtain ⟨n1, n2, n3⟩ := h.ne
  obtain ⟨f1, f2, f3⟩ := h.nf
  refine ⟨(Below.heap_setCell _ _ _ _ n1).trans h.block, setCell_us h.words j y, (Below.heap_setCell _ _ _ _ (Ne.symm n3)).trans h.owners, h.map.kept (fun k hk _ => Below.heap_setCell _ _ _ _ (fun e => f2 (by have e' : _ = wb := e; rw [← e']; exact hk))), h.ne, h.nf, by rw [List.length_set]; exact h.len, h.olen, fun x hx => ?_, h.cb, h.wd⟩
  rcases List.mem_or_eq_of_mem_set hx with hx | rfl
  · exact h.small x hx
  · exact hy
theorem setCell_size (w : World) (p : Addr) (v : Value) : (w.setCell p v).heap.size = w.heap.size := by simp [World.setCell]
set_option maxRecDepth 100000 in
theorem swrite_any (addr x : Nat) (w : World) (h : StF w F g C Wd ws own) (hx : x < 18446744073709551616) (hr : addr < C * Wd) (ho : own.getD (addr / Wd) 0 ≠ 0) : Calls Tryz.prog 136 #[.pointer (some ⟨g, 0, none⟩), .int .i64 addr, .int .u64 x] w fun e w' => e = .returned (.int .i64 0) ∧ StF w' F g C Wd (ws.set addr x) own ∧ Only F w w' ∧ w'.heap.size = w.heap.size := by
  have HAT := Lib.hid (sat1_any addr w h hr ho)
  obtain ⟨wb, ob, m, Fm, h, h1, h2, h3, h4⟩ := h
  obtain ⟨c0, c1, c2, c3⟩ := h.head
  have hbig : C * Wd ≤ 1048576 := Nat.le_trans (Nat.mul_le_mul h.cb.2 h.wd.2) (by decide)
  obtain ⟨x0, hx0⟩ : ∃ x, ws[addr]? = some x := ⟨_, List.getElem?_eq_getElem (by rw [h.len]; exact hr)⟩
  obtain ⟨cx, fx⟩ := us_cell h.words hx0
  have HW := Lib.hid (h.word addr x hx)
  obtain ⟨sz, hsz⟩ : ∃ sz, sz = C * Wd := ⟨_, rfl⟩
  rw [← hsz] at c0 hr hbig
  clear h ho hx0 hsz
  go_enter Tryz.func136, Tryz.ntmps136
  go_wp2_with fail
  refine HAT.out.mono ?_
  rintro e w' ⟨rfl, rfl⟩
  go_wp2_with fail
  go_ret
  exact ⟨rfl, ⟨wb, ob, m, Fm, HW.out, h1, h2, h3, h4⟩, (Only.refl _ _).setCell (Or.inl h2) _, setCell_size _ _ _⟩
theorem scheck_any (c : Nat) (w : World) (h : StF w F g C Wd ws own) (hc : c < C) (ho : own.getD c 0 ≠ 0) : Calls Tryz.prog 158 #[.pointer (some ⟨g, 0, none⟩), .int .i64 c] w fun e w' => e = .returned (.int .i64 0) ∧ w = w' := by
  obtain ⟨wb, ob, m, Fm, h, -⟩ := h
  obtain ⟨c0, c1, c2, c3⟩ := h.head
  have hcb := h.cb
  obtain ⟨o, hoo⟩ : ∃ o, own[c]? = some o := ⟨_, List.getElem?_eq_getElem (by rw [h.olen]; exact hc)⟩
  obtain ⟨cc, fc⟩ := ns_cell h.owners hoo
  have ho0 : ((o : Int) == 0) = false := by simp [List.getD, hoo] at ho; simp; omega
  clear h ho hoo
  go_enter Tryz.func158, Tryz.ntmps158
  go_wp2_with fail
  go_ret
  exact ⟨rfl, rfl⟩
theorem onB_set_on {own : List Nat} {c o : Nat} (hc : c < own.length) (ho : o ≠ 0) : onB (own.set c o) = setB (onB own) c true := by
  funext i
  unfold onB setB
  by_cases e : i = c
  · subst e; simp [List.getD, hc, ho]
  · rw [if_neg e]
    have : (own.set c o).getD i 0 = own.getD i 0 := by simp [List.getD, List.getElem?_set_ne (Ne.symm e)]
    rw [this]
theorem onB_set_off {own : List Nat} {c : Nat} : onB (own.set c 0) = setB (onB own) c false := by
  funext i
  unfold onB setB
  by_cases e : i = c
  · subst e
    by_cases hc : i < own.length <;> simp [List.getD, hc]
  · rw [if_neg e]
    have : (own.set c 0).getD i 0 = own.getD i 0 := by simp [List.getD, List.getElem?_set_ne (Ne.symm e)]
    rw [this]
theorem StAt.owner (h : StAt w g wb ob m Fm C Wd ws own) {own' : List Nat} (hl : own'.length = own.length) (h1 : w'.heap[g]? = w.heap[g]?) (h2 : w'.heap[wb]? = w.heap[wb]?) (h3 : w'.heap[ob]? = some (.cells (ns own').toArray 3 (0, 0))) (hm : BMF w' Fm m C (onB own')) : StAt w' g wb ob m Fm C Wd ws own' :=
  ⟨h1.trans h.block, h2.trans h.words, h3, hm, h.ne, h.nf, h.len, hl.trans h.olen, h.small, h.cb, h.wd⟩
set_option maxRecDepth 100000 in
theorem srelease_any (c : Nat) (w : World) (h : StF w F g C Wd ws own) (hc : c < C) (ho : own.getD c 0 ≠ 0) : Calls Tryz.prog 119 #[.pointer (some ⟨g, 0, none⟩), .int .i64 c] w fun e w' => e = .returned (.int .i64 0) ∧ StF w' F g C Wd ws (own.set c 0) ∧ Only F w w' ∧ w'.heap.size = w.heap.size := by
  have HCK := Lib.hid (scheck_any c w h hc ho)
  obtain ⟨wb, ob, m, Fm, h, h1, h2, h3, h4⟩ := h
  obtain ⟨c0, c1, c2, c3⟩ := h.head
  have hcb := h.cb
  obtain ⟨o, hoo⟩ : ∃ o, own[c]? = some o := ⟨_, List.getElem?_eq_getElem (by rw [h.olen]; exact hc)⟩
  obtain ⟨cc, fc⟩ := ns_cell h.owners hoo
  have HA := Lib.hid h
  have d3 := (World.cell_kept (o := 3) (Below.heap_setCell w ⟨ob, c, none⟩ (.int .i64 0) g h.ne.2.1)).trans c3
  have HK : Hid (BMF (w.setCell ⟨ob, c, none⟩ (.int .i64 0)) Fm m C (onB own)) := h.map.kept (fun k hk _ => Below.heap_setCell _ _ _ _ (fun e => h.nf.2.2 (by have e' : _ = ob := e; rw [← e']; exact hk)))
  have HST := Lib.hid (msetF c false _ HK.out (by omega) hc)
  clear h ho hoo HK
  go_enter Tryz.func119, Tryz.ntmps119
  go_wp2_with fail
  refine HCK.out.mono ?_
  rintro e w' ⟨rfl, rfl⟩
  go_wp2_with fail
  refine HST.out.mono ?_
  rintro e w1 ⟨rfl, hb, hon, hsz⟩
  have hkg : w1.heap[g]? = w.heap[g]? := (hon.block g (by rw [setCell_size]; exact HA.out.lt.1) HA.out.nf.1).trans (Below.heap_setCell _ _ _ _ HA.out.ne.2.1)
  have hkw : w1.heap[wb]? = w.heap[wb]? := (hon.block wb (by rw [setCell_size]; exact HA.out.lt.2.1) HA.out.nf.2.1).trans (Below.heap_setCell _ _ _ _ HA.out.ne.2.2)
  have hko : w1.heap[ob]? = some (.cells (ns (own.set c 0)).toArray 3 (0, 0)) := (hon.block ob (by rw [setCell_size]; exact HA.out.lt.2.2) HA.out.nf.2.2).trans (setCell_ns HA.out.owners c 0)
  have HF := Lib.hid (HA.out.owner (own' := own.set c 0) (by simp) hkg hkw hko (by rw [onB_set_off]; exact hb))
  have HO : Hid (Only F w w1) := ((Only.refl F w).setCell (p := ⟨ob, c, none⟩) (Or.inl h3) _).trans hon (fun k hk => Or.inl (h4 k hk))
  have HS : Hid (w1.heap.size = w.heap.size) := hsz.trans (setCell_size _ _ _)
  clear hb hon hsz hkg hkw hko
  go_wp2
  go_ret
  exact ⟨rfl, ⟨wb, ob, m, Fm, HF.out, h1, h2, h3, h4⟩, HO.out, HS.out⟩
set_option maxRecDepth 100000 in
theorem sgive_any (c o : Nat) (w : World) (h : StF w F g C Wd ws own) (hc : c < C) (ho : own.getD c 0 ≠ 0) (ho1 : 1 ≤ o) (ho2 : o ≤ 9223372036854775807) : Calls Tryz.prog 170 #[.pointer (some ⟨g, 0, none⟩), .int .i64 c, .int .i64 o] w fun e w' => e = .returned (.int .i64 0) ∧ StF w' F g C Wd ws (own.set c o) ∧ Only F w w' ∧ w'.heap.size = w.heap.size := by
  have HCK := Lib.hid (scheck_any c w h hc ho)
  obtain ⟨wb, ob, m, Fm, h, h1, h2, h3, h4⟩ := h
  obtain ⟨c0, c1, c2, c3⟩ := h.head
  have hcb := h.cb
  obtain ⟨o0, hoo⟩ : ∃ o, own[c]? = some o := ⟨_, List.getElem?_eq_getElem (by rw [h.olen]; exact hc)⟩
  obtain ⟨cc, fc⟩ := ns_cell h.owners hoo
  have HA := Lib.hid h
  have HOB : Hid (onB (own.set c o) = onB own) := by
    show _ = _
    rw [onB_set_on (by rw [h.olen]; exact hc) (by omega)]
    funext i
    unfold setB
    by_cases e : i = c
    · rw [if_pos e, e]; unfold onB; simpa using ho
    · rw [if_neg e]
  clear h ho hoo
  go_enter Tryz.func170, Tryz.ntmps170
  go_wp2_with fail
  refine HCK.out.mono ?_
  rintro e w' ⟨rfl, rfl⟩
  go_wp2
  go_ret
  refine ⟨rfl, ⟨wb, ob, m, Fm, HA.out.owner (own' := own.set c o) (by simp) (Below.heap_setCell _ _ _ _ HA.out.ne.2.1) (Below.heap_setCell _ _ _ _ HA.out.ne.2.2) (setCell_ns HA.out.owners c o) ?_, h1, h2, h3, h4⟩, (Only.refl F _).setCell (p := ⟨ob, c, none⟩) (Or.inl h3) _, setCell_size _ _ _⟩
  rw [HOB.out]
  exact HA.out.map.kept (fun k hk _ => Below.heap_setCell _ _ _ _ (fun e => HA.out.nf.2.2 (by have e' : _ = ob := e; rw [← e']; exact hk)))
end Go.Proofs.YtcdpnfchmpncjaaGreatDoor
namespace Go.Tr
open Go.RowKit
def putAt : List Nat → Nat → List Nat → List Nat
  | ws, _, [] => ws
  | ws, o, y :: r => putAt (ws.set o y) (o + 1) r
theorem putAt_length : ∀ (ys ws : List Nat) (o : Nat), (putAt ws o ys).length = ws.length
  | [], _, _ => rfl
  | y :: r, ws, o => by unfold putAt; rw [putAt_length]; simp
theorem putAt_snoc : ∀ (ys ws : List Nat) (o y : Nat), putAt ws o (ys ++ [y]) = (putAt ws o ys).set (o + ys.length) y
  | [], ws, o, y => by simp [putAt]
  | z :: r, ws, o, y => by
    show putAt (ws.set o z) (o + 1) (r ++ [y]) = (putAt (ws.set o z) (o + 1) r).set _ _
    rw [putAt_snoc r]
    congr 1
    simp; omega
theorem putAt_get : ∀ (ys ws : List Nat) (o i : Nat), (putAt ws o ys).getD i 0 = if o ≤ i ∧ i < o + ys.length ∧ i < ws.length then ys.getD (i - o) 0 else ws.getD i 0
  | [], ws, o, i => by
    unfold putAt
    rw [if_neg (by simp; omega)]
  | y :: r, ws, o, i => by
    show (putAt (ws.set o y) (o + 1) r).getD i 0 = _
    rw [putAt_get r]
    by_cases h1 : o + 1 ≤ i ∧ i < o + 1 + r.length ∧ i < (ws.set o y).length
    · rw [if_pos h1, if_pos (by simp at h1 ⊢; omega)]
      obtain ⟨j, rfl⟩ : ∃ j, i = o + 1 + j := ⟨i - (o + 1), by omega⟩
      rw [show o + 1 + j - (o + 1) = j by omega, show o + 1 + j - o = j + 1 by omega]
      rfl
    · rw [if_neg h1]
      by_cases h2 : i = o ∧ i < ws.length
      · obtain ⟨rfl, h3⟩ := h2
        rw [if_pos (by simp; omega)]
        simp [List.getD, h3]
      · rw [if_neg (by simp at h1 ⊢; omega)]
        by_cases h3 : i = o
        · subst h3
          have : ws.length ≤ i := by omega
          simp [List.getD, List.getElem?_eq_none this, List.getElem?_eq_none (show (ws.set i y).length ≤ i by simpa using this)]
        · simp [List.getD, List.getElem?_set_ne (Ne.symm h3)]
theorem putAt_small {ws ys : List Nat} {o : Nat} {B : Nat} (h1 : ∀ x ∈ ws, x < B) (h2 : ∀ x ∈ ys, x < B) : ∀ x ∈ putAt ws o ys, x < B := by
  induction ys generalizing ws o with
  | nil => exact h1
  | cons y r ih =>
    refine ih (fun x hx => ?_) (fun x hx => h2 x (List.mem_cons_of_mem _ hx))
    rcases List.mem_or_eq_of_mem_set hx with hx | rfl
    · exact h1 x hx
    · exact h2 x (by simp)
theorem setCells_us {U : TypeId} {b : Nat} : ∀ (ys ws : List Nat) (o : Nat) (w : World), w.heap[b]? = some (.cells (us ws).toArray U (0, 0)) → (w.setCells b o (us ys)).heap[b]? = some (.cells (us (putAt ws o ys)).toArray U (0, 0))
  | [], _, _, _, h => h
  | y :: r, ws, o, w, h => setCells_us r (ws.set o y) (o + 1) _ (setCell_us h o y)
theorem setCells_other {b k : Nat} (hk : k ≠ b) : ∀ (ys : List Value) (o : Nat) (w : World), (w.setCells b o ys).heap[k]? = w.heap[k]?
  | [], _, _ => rfl
  | y :: r, o, w => (setCells_other hk r (o + 1) _).trans (Below.heap_setCell _ _ _ _ hk)
theorem setCells_size {b : Nat} : ∀ (ys : List Value) (o : Nat) (w : World), (w.setCells b o ys).heap.size = w.heap.size
  | [], _, _ => rfl
  | y :: r, o, w => (setCells_size r (o + 1) _).trans (by simp [World.setCell])
theorem Only.setCells {F : Nat → Prop} {a w : World} (h : Only F a w) {b : Nat} (hb : F b ∨ a.heap.size ≤ b) : ∀ (ys : List Value) (o : Nat), Only F a (w.setCells b o ys) := fun ys => by
  induction ys generalizing w with
  | nil => exact fun _ => h
  | cons y r ih => exact fun o => ih (h.setCell (p := ⟨b, o, none⟩) hb y) (o + 1)
theorem wp_clear_run {P : Program} (w : World) {o : Oper} {a : Act} {K : Act → World → Prop} {Q : Exit → Act → World → Prop} (d : Operand) (t : TypeId)
    (ho : o.op = .call { callee := .builtin .clear, args := #[d], argTypes := #[t] }) (v : Value) (hd : a.eval d = v) {v' : Value} {w' : World}
    (hr : (Builtin.clear_ #[t] o.type #[v]).run P w = .ok v' w') (h : K (a.put o.dst v') w') : o.wp P a w K Q := by
  unfold Oper.wp execOp
  simp only [ho, resolve, invoke, builtin, Sem.run_bind, Sem.run_pure, Result.andThen_ok, List.map_toArray, List.map_cons, List.map_nil, hd, hr]
  exact h
end Go.Tr
namespace Go.Proofs.YtcdpnfchmpncjaaGreatDoor
open Go.RowKit Go.Tr Go.Shelf
variable {w w' : World} {g wb ob m C Wd : Nat} {ws own : List Nat} {F Fm : Nat → Prop}
theorem onB_fill {own : List Nat} {a o : Nat} (ho : o ≠ 0) : ∀ {n}, a + n ≤ own.length → onB (putAt own a (List.replicate n o)) = fillB (onB own) a n true
  | 0, _ => by rw [fillB_zero]; rfl
  | n + 1, h => by
    rw [List.replicate_succ', putAt_snoc, fillB_succ, ← onB_fill (n := n) ho (by omega), List.length_replicate]
    exact onB_set_on (by rw [putAt_length]; omega) ho
def TakeP (F : Nat → Prop) (g C Wd : Nat) (ws own : List Nat) (o n : Nat) (e : Ending) (w' : World) : Prop :=
  (∃ a, e = .returned (.tuple #[.int .i64 (a : Nat), .int .i64 0]) ∧ a + n ≤ C ∧ (∀ i, a ≤ i → i < a + n → own.getD i 0 = 0) ∧ StF w' F g C Wd (putAt ws (a * Wd) (List.replicate (n * Wd) 0)) (putAt own a (List.replicate n o))) ∨
  (e = .returned (.tuple #[.int .i64 0, .int .i64 11]) ∧ StF w' F g C Wd ws own ∧ ∀ a, a + n ≤ C → ∃ i, a ≤ i ∧ i < a + n ∧ own.getD i 0 ≠ 0)
set_option maxRecDepth 100000 in
theorem stake_any (o n : Nat) (w : World) (h : StF w F g C Wd ws own) (hT : Tz w) (ho : 1 ≤ o) (ho2 : o ≤ 9223372036854775807) (hn : 1 ≤ n) (hn2 : n ≤ 1048576) : Calls Tryz.prog 130 #[.pointer (some ⟨g, 0, none⟩), .int .i64 o, .int .i64 n] w fun e w' => TakeP F g C Wd ws own o n e w' ∧ Only F w w' ∧ w'.heap.size = w.heap.size := by
  obtain ⟨wb, ob, m, Fm, h, h1, h2, h3, h4⟩ := h
  obtain ⟨c0, c1, c2, c3⟩ := h.head
  obtain ⟨hcb1, hcb2⟩ := h.cb
  have HR := Lib.hid (mrunb_any n w h.map hT (by omega) hn hn2)
  have HA := Lib.hid h
  clear h hT
  go_enter Tryz.func130, Tryz.ntmps130
  go_wp2_with fail
  refine HR.out.mono ?_
  rintro e w' ⟨hp, rfl⟩
  rcases hp with ⟨a, rfl, ha, hoff, -⟩ | ⟨rfl, hno⟩
  · have HOFF := Lib.hid hoff
    clear hoff
    go_wp2_with fail
    refine (mfillF a n true _ HA.out.map (by omega) ha).mono ?_
    rintro e w1 ⟨rfl, hb, hon, hsz⟩
    have hkg : w1.heap[g]? = w.heap[g]? := hon.block g HA.out.lt.1 HA.out.nf.1
    have hkw : w1.heap[wb]? = w.heap[wb]? := hon.block wb HA.out.lt.2.1 HA.out.nf.2.1
    have hko : w1.heap[ob]? = w.heap[ob]? := hon.block ob HA.out.lt.2.2 HA.out.nf.2.2
    have HB := Lib.hid hb
    have HO : Hid (Only F w w1) := hon.mono h4
    have HS := Lib.hid hsz
    have HKG := Lib.hid (hkg.trans HA.out.block)
    have HKW := Lib.hid (hkw.trans HA.out.words)
    have HKO : Hid (w1.heap[ob]? = some (.cells (ns (putAt own a (List.replicate 0 o))).toArray 3 (0, 0))) := hko.trans HA.out.owners
    clear hb hon hsz hkg hkw hko c0 c1 c2 c3
    go_wp2_with fail
    go_loopw [10] (fun i wr => ∃ j : Nat, j ≤ n ∧ i = .int .i64 ((a + j : Nat) : Int) ∧ Hid (wr.heap[g]? = w1.heap[g]?) ∧ Hid (wr.heap[wb]? = w1.heap[wb]?) ∧ Hid (wr.heap[ob]? = some (.cells (ns (putAt own a (List.replicate j o))).toArray 3 (0, 0))) ∧ Hid (BMF wr Fm m C (fillB (onB own) a n true)) ∧ Hid (Only F w wr) ∧ Hid (wr.heap.size = w.heap.size)) (fun i _ => a + n - (intOf i).toNat)
    case atStart => exact ⟨0, Nat.zero_le _, by simp, rfl, rfl, HKO, HB, HO, HS⟩
    case round =>
      clear HKO HB HO HS
      obtain ⟨j, hj, rfl, HG, HW, HOB, HBM, HO, HS⟩ := hrel
      have c0 := cell_of_row wr g 0 _ _ (0, 0) (HG.out.trans HKG.out)
      have c1 := cell_of_row wr g 1 _ _ (0, 0) (HG.out.trans HKG.out)
      have c2 := cell_of_row wr g 2 _ _ (0, 0) (HG.out.trans HKG.out)
      simp at c0 c1 c2
      by_cases hlt : j < n
      · obtain ⟨x, hx⟩ : ∃ x, (putAt own a (List.replicate j o))[a + j]? = some x := ⟨_, List.getElem?_eq_getElem (by rw [putAt_length, HA.out.olen]; omega)⟩
        obtain ⟨cx, fx⟩ := ns_cell HOB.out hx
        have hjC : (a : Int) + (j : Int) < (C : Int) := by omega
        have hgl : ob ≠ g := Ne.symm HA.out.ne.2.1
        have H1 : Hid ((wr.setCell ⟨ob, a + j, none⟩ (.int .i64 (o : Int))).heap[g]? = w1.heap[g]?) := (Below.heap_setCell _ _ _ _ HA.out.ne.2.1).trans HG.out
        have H2 : Hid ((wr.setCell ⟨ob, a + j, none⟩ (.int .i64 (o : Int))).heap[wb]? = w1.heap[wb]?) := (Below.heap_setCell _ _ _ _ HA.out.ne.2.2).trans HW.out
        have H3 : Hid ((wr.setCell ⟨ob, a + j, none⟩ (.int .i64 (o : Int))).heap[ob]? = some (.cells (ns (putAt own a (List.replicate (j + 1) o))).toArray 3 (0, 0))) := by
          have := setCell_ns HOB.out (a + j) o
          rw [List.replicate_succ', putAt_snoc, List.length_replicate]
          exact this
        have H4 : Hid (BMF (wr.setCell ⟨ob, a + j, none⟩ (.int .i64 (o : Int))) Fm m C (fillB (onB own) a n true)) := HBM.out.kept (fun k hk _ => Below.heap_setCell _ _ _ _ (fun e => HA.out.nf.2.2 (by have e' : _ = ob := e; rw [← e']; exact hk)))
        have H5 : Hid (Only F w (wr.setCell ⟨ob, a + j, none⟩ (.int .i64 (o : Int)))) := HO.out.setCell (p := ⟨ob, a + j, none⟩) (Or.inl h3) _
        have H6 : Hid ((wr.setCell ⟨ob, a + j, none⟩ (.int .i64 (o : Int))).heap.size = w.heap.size) := (setCell_size _ _ _).trans HS.out
        clear HG HW HOB HBM HO HS hx hgl
        go_wp2
        go_roundw
        case rel => exact ⟨j + 1, by omega, by go_num, H1, H2, H3, H4, H5, H6⟩
        case measure => simp [intOf]; omega
      · have e : j = n := by omega
        subst e
        have hbig : C * Wd ≤ 1048576 := Nat.le_trans (Nat.mul_le_mul hcb2 HA.out.wd.2) (by decide)
        obtain ⟨sz, hsz⟩ : ∃ sz, sz = C * Wd := ⟨_, rfl⟩
        obtain ⟨p, hp⟩ : ∃ p, p = a * Wd := ⟨_, rfl⟩
        obtain ⟨q, hq⟩ : ∃ q, q = (a + j) * Wd := ⟨_, rfl⟩
        have hwd := HA.out.wd
        have hpq : p < q := by rw [hp, hq]; exact Nat.mul_lt_mul_of_pos_right (by omega) (by omega)
        have hqs : q ≤ sz := by rw [hq, hsz]; exact Nat.mul_le_mul_right _ ha
        rw [← hsz] at c0 hbig
        have hqp : q - p = j * Wd := by rw [hp, hq, Nat.add_mul]; omega
        have HQP := Lib.hid hqp
        have HP := Lib.hid hp
        have HSZ := Lib.hid hsz
        have hr1 : IntKind.i64.wrap ((a : Int) * (Wd : Int)) = (p : Int) := by
          rw [show (a : Int) * (Wd : Int) = (p : Int) by rw [hp]; push_cast; rfl, IntWalk.i64_in _ (by omega)]
        have hr2 : IntKind.i64.wrap ((a : Int) + (j : Int)) = (a : Int) + (j : Int) := by rw [IntWalk.i64_in _ (by omega)]
        have hr3 : IntKind.i64.wrap (((a : Int) + (j : Int)) * (Wd : Int)) = (q : Int) := by
          rw [show ((a : Int) + (j : Int)) * (Wd : Int) = (q : Int) by rw [hq]; push_cast; rfl, IntWalk.i64_in _ (by omega)]
        have hk1 : (0 : Int) ≤ (p : Int) := by omega
        have hk2 : (p : Int) ≤ (q : Int) := by omega
        have hk3 : (q : Int) ≤ (sz : Int) := by omega
        have hk4 : ¬ sz = p := by omega
        clear hp hq hsz hqp hwd
        go_wp2_with fail
        refine wp_region_held_drew (S := fun W => W.cell? ⟨g, 0, none⟩ = some (.slice (some ⟨wb, 0, none⟩) sz sz) ∧ W.cell? ⟨g, 1, none⟩ = some (.int .i64 Wd)) (by kernel_rfl) ⟨c0, c1⟩ (fun hH => ?_)
        refine takeH 0 (v := ?_) rfl (by kernel_rfl) (by kernel_rfl) (by kernel_rfl) (fun _ _ _ h => h) (by rfl) ?_ (by assumption) ?_
        rotate_left
        · intro W hW
          go_simp
          try with_reducible rfl
        try simp only [Act.put, List.setIfInBounds_toArray, List.set_cons_zero, List.set_cons_succ]
        refine takeH 1 (v := ?_) rfl (by kernel_rfl) (by kernel_rfl) (by kernel_rfl) (fun _ _ _ h => h) (by rfl) ?_ (by assumption) ?_
        rotate_left
        · intro W hW
          go_simp
          try with_reducible rfl
        try simp only [Act.put, List.setIfInBounds_toArray, List.set_cons_zero, List.set_cons_succ]
        refine takeH 2 (v := ?_) rfl (by kernel_rfl) (by kernel_rfl) (by kernel_rfl) (fun _ _ _ h => h) (by rfl) ?_ (by assumption) ?_
        rotate_left
        · intro W hW
          go_simp
          try with_reducible rfl
        try simp only [Act.put, List.setIfInBounds_toArray, List.set_cons_zero, List.set_cons_succ]
        refine takeH 3 (v := ?_) rfl (by kernel_rfl) (by kernel_rfl) (by kernel_rfl) (fun _ _ _ h => h) (by rfl) ?_ (by assumption) ?_
        rotate_left
        · intro W hW
          go_simp
          try with_reducible rfl
        try simp only [Act.put, List.setIfInBounds_toArray, List.set_cons_zero, List.set_cons_succ]
        refine takeH 4 (v := ?_) rfl (by kernel_rfl) (by kernel_rfl) (by kernel_rfl) (fun _ _ _ h => h) (by rfl) ?_ (by assumption) ?_
        rotate_left
        · intro W hW
          go_simp
          try with_reducible rfl
        try simp only [Act.put, List.setIfInBounds_toArray, List.set_cons_zero, List.set_cons_succ]
        refine takeH 5 (v := ?_) rfl (by kernel_rfl) (by kernel_rfl) (by kernel_rfl) (fun _ _ _ h => h) (by rfl) ?_ (by assumption) ?_
        rotate_left
        · intro W hW
          go_simp
          try with_reducible rfl
        try simp only [Act.put, List.setIfInBounds_toArray, List.set_cons_zero, List.set_cons_succ]
        refine takeH 6 (v := ?_) rfl (by kernel_rfl) (by kernel_rfl) (by kernel_rfl) (fun _ _ _ h => h) (by rfl) ?_ (by assumption) ?_
        rotate_left
        · intro W hW
          go_simp
          try with_reducible rfl
        try simp only [Act.put, List.setIfInBounds_toArray, List.set_cons_zero, List.set_cons_succ]
        refine takeH 7 (v := ?_) rfl (by kernel_rfl) (by kernel_rfl) (by kernel_rfl) (fun _ _ _ h => h) (by rfl) ?_ (by assumption) ?_
        rotate_left
        · intro W hW
          go_simp
          try with_reducible rfl
        try simp only [Act.put, List.setIfInBounds_toArray, List.set_cons_zero, List.set_cons_succ]
        refine takeH 8 (v := ?_) rfl (by kernel_rfl) (by kernel_rfl) (by kernel_rfl) (fun _ _ _ h => h) (by rfl) ?_ (by assumption) ?_
        rotate_left
        · intro W hW
          go_simp
          try with_reducible rfl
        try simp only [Act.put, List.setIfInBounds_toArray, List.set_cons_zero, List.set_cons_succ]
        refine takeH 9 (v := ?_) rfl (by kernel_rfl) (by kernel_rfl) (by kernel_rfl) (fun _ _ _ h => h) (by rfl) ?_ (by assumption) ?_
        rotate_left
        · intro W hW
          go_simp
          try with_reducible rfl
        try simp only [Act.put, List.setIfInBounds_toArray, List.set_cons_zero, List.set_cons_succ]
        refine takeH 10 (v := ?_) rfl (by kernel_rfl) (by kernel_rfl) (by kernel_rfl) (fun _ _ _ h => h) (by rfl) ?_ (by assumption) ?_
        rotate_left
        · intro W hW
          go_simp
          try with_reducible rfl
        try simp only [Act.put, List.setIfInBounds_toArray, List.set_cons_zero, List.set_cons_succ]
        refine takeH 11 (v := ?_) rfl (by kernel_rfl) (by kernel_rfl) (by kernel_rfl) (fun _ _ _ h => h) (by rfl) ?_ (by assumption) ?_
        rotate_left
        · intro W hW
          go_simp
          try with_reducible rfl
        try simp only [Act.put, List.setIfInBounds_toArray, List.set_cons_zero, List.set_cons_succ]
        refine takeH 12 (v := ?_) rfl (by kernel_rfl) (by kernel_rfl) (by kernel_rfl) (fun _ _ _ h => h) (by rfl) ?_ (by assumption) ?_
        rotate_left
        · intro W hW
          go_simp
          try with_reducible rfl
        try simp only [Act.put, List.setIfInBounds_toArray, List.set_cons_zero, List.set_cons_succ]
        refine takeH 13 (v := ?_) rfl (by kernel_rfl) (by kernel_rfl) (by kernel_rfl) (fun _ _ _ h => h) (by rfl) ?_ (by assumption) ?_
        rotate_left
        · intro W hW
          go_simp
          try with_reducible rfl
        try simp only [Act.put, List.setIfInBounds_toArray, List.set_cons_zero, List.set_cons_succ]
        refine takeH 14 (v := ?_) rfl (by kernel_rfl) (by kernel_rfl) (by kernel_rfl) (fun _ _ _ h => h) (by rfl) ?_ (by assumption) ?_
        rotate_left
        · intro W hW
          go_simp
          try with_reducible rfl
        try simp only [Act.put, List.setIfInBounds_toArray, List.set_cons_zero, List.set_cons_succ]
        refine takeH 15 (v := ?_) rfl (by kernel_rfl) (by kernel_rfl) (by kernel_rfl) (fun _ _ _ h => h) (by rfl) ?_ (by assumption) ?_
        rotate_left
        · intro W hW
          go_simp
          try with_reducible rfl
        try simp only [Act.put, List.setIfInBounds_toArray, List.set_cons_zero, List.set_cons_succ]
        refine takeH 16 (v := ?_) rfl (by kernel_rfl) (by kernel_rfl) (by kernel_rfl) (fun _ _ _ h => h) (by rfl) ?_ (by assumption) ?_
        rotate_left
        · intro W hW
          go_simp
          try with_reducible rfl
        try simp only [Act.put, List.setIfInBounds_toArray, List.set_cons_zero, List.set_cons_succ]
        refine takeH 17 (v := ?_) rfl (by kernel_rfl) (by kernel_rfl) (by kernel_rfl) (fun _ _ _ h => h) (by rfl) ?_ (by assumption) ?_
        rotate_left
        · intro W hW
          go_simp
          try with_reducible rfl
        try simp only [Act.put, List.setIfInBounds_toArray, List.set_cons_zero, List.set_cons_succ]
        refine takeH 18 (v := ?_) rfl (by kernel_rfl) (by kernel_rfl) (by kernel_rfl) (fun _ _ _ h => h) (by rfl) ?_ (by assumption) ?_
        rotate_left
        · intro W hW
          go_simp
          try with_reducible rfl
        try simp only [Act.put, List.setIfInBounds_toArray, List.set_cons_zero, List.set_cons_succ]
        refine wpAnyH_ready (rs := [19]) (by kernel_rfl) (by simp) (readyH rfl (fun K hK => ?_) AllReadyH.nil)
        rw [if_pos (by rfl)]
        have hws : wr.drew.heap[wb]? = some (.cells (us ws).toArray 34 (0, 0)) := HW.out.trans HKW.out
        have hcs : ∀ i, i < q - p → (wr.drew.cell? ⟨wb, p + i, none⟩).isSome = true := fun i hi => by
          obtain ⟨x, hx⟩ : ∃ x, ws[p + i]? = some x := ⟨_, List.getElem?_eq_getElem (by rw [HA.out.len, ← HSZ.out]; omega)⟩
          rw [(us_cell hws hx).1]; rfl
        have hfs : ∀ i, i < q - p → wr.drew.frozen? ⟨wb, p + i, none⟩ = false := fun i hi => by simp [World.frozen?, hws]
        refine wp_clear_run _ (.tmp 72) 35 rfl (.slice (some ⟨wb, p, none⟩) (q - p) (sz - p)) (by rfl) (Lib.run_clear_slice _ 35 34 _ (.int .u64 0) Tryz.underlying35 (fun w => by kernel_rfl) rfl rfl wb p (q - p) (sz - p) (by omega) hcs hfs) ?_
        have hH2 : (wr.drew.setCells wb p (List.replicate (q - p) (.int .u64 0))).cell? ⟨g, 0, none⟩ = some (.slice (some ⟨wb, 0, none⟩) sz sz) ∧ (wr.drew.setCells wb p (List.replicate (q - p) (.int .u64 0))).cell? ⟨g, 1, none⟩ = some (.int .i64 Wd) :=
          ⟨(World.cell_kept (setCells_other HA.out.ne.1 _ _ _)).trans c0, (World.cell_kept (setCells_other HA.out.ne.1 _ _ _)).trans c1⟩
        refine hK.out _ _ hH2 (fun hH => ?_)
        clear hK K hcs hfs
        try simp only [Act.put, List.setIfInBounds_toArray, List.set_cons_zero, List.set_cons_succ]
        refine wpAnyH_done (by kernel_rfl) ?_ _
        have hus : List.replicate (q - p) (Value.int .u64 0) = us (List.replicate (q - p) 0) := by simp [us, uv]
        have hfin : StAt (wr.drew.setCells wb p (List.replicate (q - p) (.int .u64 0))) g wb ob m Fm C Wd (putAt ws p (List.replicate (q - p) 0)) (putAt own a (List.replicate j o)) := by
          refine ⟨(setCells_other HA.out.ne.1 _ _ _).trans (HG.out.trans HKG.out), by rw [hus]; exact setCells_us _ _ _ _ hws, (setCells_other (Ne.symm HA.out.ne.2.2) _ _ _).trans HOB.out, ?_, HA.out.ne, HA.out.nf, by rw [putAt_length]; exact HA.out.len, by rw [putAt_length]; exact HA.out.olen, putAt_small HA.out.small (fun x hx => by rw [List.eq_of_mem_replicate hx]; decide), HA.out.cb, HA.out.wd⟩
          rw [onB_fill (by omega) (by rw [HA.out.olen]; exact ha)]
          exact HBM.out.kept (fun k hk _ => setCells_other (fun e => HA.out.nf.2.1 (by rw [← e]; exact hk)) _ _ _)
        rw [HQP.out, HP.out] at hfin
        have HFIN := Lib.hid hfin
        have HOF : Hid (Only F w (wr.drew.setCells wb p (List.replicate (q - p) (.int .u64 0)))) := Only.setCells HO.out.drew (Or.inl h2) _ _
        have HSF : Hid ((wr.drew.setCells wb p (List.replicate (q - p) (.int .u64 0))).heap.size = w.heap.size) := (setCells_size _ _ _).trans HS.out
        rw [HQP.out, HP.out] at HOF HSF
        rw [HQP.out, HP.out]
        generalize wr.drew.setCells wb (a * Wd) (List.replicate (j * Wd) (.int .u64 0)) = wf at *
        clear hfin hH2 hws hus c0 c1 c2 hr1 hr2 hr3 hk1 hk2 hk3 hk4
        go_wp2
        go_ret2
        exact ⟨Or.inl ⟨a, rfl, ha, fun i h1 h2 => by have := HOFF.out i h1 h2; unfold onB at this; simpa using this, ⟨wb, ob, m, Fm, HFIN.out, h1, h2, h3, h4⟩⟩, HOF.out, HSF.out⟩
  · have HNO := Lib.hid hno
    clear hno
    go_wp2
    go_ret2
    exact ⟨Or.inr ⟨rfl, ⟨wb, ob, m, Fm, HA.out, h1, h2, h3, h4⟩, fun a ha => by
      obtain ⟨i, i1, i2, i3⟩ := HNO.out a (by omega) ha
      exact ⟨i, i1, i2, by unfold onB at i3; simpa using i3⟩⟩, Only.refl _ _, rfl⟩
end Go.Proofs.YtcdpnfchmpncjaaGreatDoor
