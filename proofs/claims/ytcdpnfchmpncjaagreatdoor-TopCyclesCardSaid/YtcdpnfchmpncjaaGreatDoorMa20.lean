/-
  Parts of the proof, one behind the other: KLay2, KLay3.
-/
import Derived.Test.YtcdpnfchmpncjaaGreatDoorMa19
set_option linter.unusedSimpArgs false
set_option linter.unusedVariables false
namespace Go.Tr
open Go.RowKit
theorem ns_ints (xs : List Nat) : ns xs = ints (xs.map fun x : Nat => (x : Int)) := by simp [ns, nv, ints]; intro a _; rfl
def LayF (w : World) (v : Value) (L : Lay) (F : Nat → Prop) : Prop := ∃ ra rc sa sc, v = .agg #[.int .i64 (L.fixed : Nat), .slice ra L.refs.length rc, .int .i64 (L.record : Nat), .slice sa L.recs.length sc] ∧ SeqAt w ra (ns L.refs) ∧ SeqAt w sa (ns L.recs) ∧ (∀ b o, ra = some ⟨b, o, none⟩ → F b) ∧ ∀ b o, sa = some ⟨b, o, none⟩ → F b
theorem LayF.at {w : World} {v : Value} {L : Lay} {F : Nat → Prop} (h : LayF w v L F) : LayAt w v L := by
  obtain ⟨ra, rc, sa, sc, e, h1, h2, -⟩ := h
  exact ⟨ra, rc, sa, sc, e, h1, h2⟩
end Go.Tr
namespace Go.Proofs.YtcdpnfchmpncjaaGreatDoor
open Go.RowKit Go.Tr Go.Shelf
variable {w w' : World}
theorem nclone_any (a : Option Addr) (n c : Nat) (xs : List Nat) (w : World) (h : SeqAt w a (ns xs)) (hl : xs.length = n) (hs : n ≤ 1000000) :
    Calls Tryz.prog 84 #[.slice a n c] w fun e w' => ∃ a' c', e = .returned (.slice a' n c') ∧ SeqAt w' a' (ns xs) ∧ (∀ b o, a' = some ⟨b, o, none⟩ → w.heap.size ≤ b ∧ b < w'.heap.size) ∧ Below w.heap.size w w' := by
  have := clone_any a n c (xs.map fun x : Nat => (x : Int)) w (by rw [← ns_ints]; exact h) (by simpa using hl) hs
  refine this.mono ?_
  rintro e w' ⟨v, rfl, ho, hb⟩
  have ho' : w'.ownsRow w.heap.size 3 1 v n (ints (xs.map fun x : Nat => (x : Int))) := by
    have := ho; unfold own3 at this; simpa [hl] using this
  obtain ⟨a', c', rfl, hsq, -, -⟩ := ownsRow_seq ho'
  exact ⟨a', c', rfl, by rw [ns_ints]; exact hsq, fun b o e => ho'.lt b (by subst e; rfl), hb⟩
theorem own_end {L : Lay} {fx rx n1 n2 xb rb : Nat} {w wa w1 w2 w3 : World} {a1 a2 : Option Addr} {c1 c2 : Nat} (hfx : fx = L.fixed ∧ rx = L.record ∧ n1 = L.refs.length ∧ n2 = L.recs.length) (hxe : xb = w.heap.size) (hxr : xb ≤ xb ∧ xb ≤ rb ∧ xb ≠ rb) (hxl : xb < wa.heap.size) (hrl : rb < wa.heap.size) (hz1 : wa.heap.size ≤ w1.heap.size) (hz2 : w1.heap.size ≤ w2.heap.size) (hz3 : w3.heap.size = w2.heap.size)
    (hs2 : SeqAt w2 a2 (ns L.recs)) (hsa : SeqAt w2 a1 (ns L.refs)) (hf1 : ∀ b o, a1 = some ⟨b, o, none⟩ → wa.heap.size ≤ b ∧ b < w1.heap.size) (hf2 : ∀ b o, a2 = some ⟨b, o, none⟩ → w1.heap.size ≤ b ∧ b < w2.heap.size) (hk : ∀ k, k ≠ xb → w3.heap[k]? = w2.heap[k]?) (hb : Below xb w w3) :
    LayF ((((w3.setCell ⟨rb, 0, none⟩ (.int .i64 (fx : Nat))).setCell ⟨rb, 1, none⟩ (.slice a1 n1 c1)).setCell ⟨rb, 2, none⟩ (.int .i64 (rx : Nat))).setCell ⟨rb, 3, none⟩ (.slice a2 n2 c2)) (.agg #[.int .i64 (fx : Nat), .slice a1 n1 c1, .int .i64 (rx : Nat), .slice a2 n2 c2]) L (fun k => w.heap.size ≤ k ∧ k < ((((w3.setCell ⟨rb, 0, none⟩ (.int .i64 (fx : Nat))).setCell ⟨rb, 1, none⟩ (.slice a1 n1 c1)).setCell ⟨rb, 2, none⟩ (.int .i64 (rx : Nat))).setCell ⟨rb, 3, none⟩ (.slice a2 n2 c2)).heap.size) ∧
    Below w.heap.size w ((((w3.setCell ⟨rb, 0, none⟩ (.int .i64 (fx : Nat))).setCell ⟨rb, 1, none⟩ (.slice a1 n1 c1)).setCell ⟨rb, 2, none⟩ (.int .i64 (rx : Nat))).setCell ⟨rb, 3, none⟩ (.slice a2 n2 c2)) := by
  obtain ⟨W, hW⟩ : ∃ W, W = ((((w3.setCell ⟨rb, 0, none⟩ (.int .i64 (fx : Nat))).setCell ⟨rb, 1, none⟩ (.slice a1 n1 c1)).setCell ⟨rb, 2, none⟩ (.int .i64 (rx : Nat))).setCell ⟨rb, 3, none⟩ (.slice a2 n2 c2)) := ⟨_, rfl⟩
  have hkW : ∀ k, k ≠ rb → W.heap[k]? = w3.heap[k]? := fun k hn => by rw [hW, Below.heap_setCell _ _ _ _ hn, Below.heap_setCell _ _ _ _ hn, Below.heap_setCell _ _ _ _ hn, Below.heap_setCell _ _ _ _ hn]
  have hbW : Below w.heap.size w W := by
    rw [hW]
    rw [hxe] at hb
    have e : w.heap.size ≤ rb := by omega
    exact (((hb.setCell e _).setCell e _).setCell e _).setCell e _
  have hzW : W.heap.size = w2.heap.size := by rw [hW, ← hz3]; simp [World.setCell]
  rw [← hW]
  have hkeep : ∀ {a : Option Addr} {xs : List Value}, SeqAt w2 a xs → (∀ b o, a = some ⟨b, o, none⟩ → wa.heap.size ≤ b) → SeqAt W a xs := fun h hf h0 => by
    obtain ⟨b, off, e, hc⟩ := h h0
    have hwb := hf b off e
    refine ⟨b, off, e, fun j hj => ?_⟩
    rw [World.cell?_of_block (a := ⟨b, off + j, none⟩) ((hkW b (by omega)).trans (hk b (by omega)))]
    exact hc j hj
  obtain ⟨rfl, rfl, rfl, rfl⟩ := hfx
  refine ⟨⟨a1, c1, a2, c2, rfl, hkeep hsa (fun b o e => (hf1 b o e).1), hkeep hs2 (fun b o e => by have := (hf2 b o e).1; omega), fun b o e => ?_, fun b o e => ?_⟩, hbW⟩
  · have := hf1 b o e; omega
  · have := hf2 b o e; omega
set_option maxRecDepth 100000 in
theorem lown_any {v : Value} {L : Lay} (w : World) (h : LayAt w v L) (hl1 : L.refs.length ≤ 1000) (hl2 : L.recs.length ≤ 1000) : Calls Tryz.prog 83 #[v] w fun e w' => ∃ v', e = .returned v' ∧ LayF w' v' L (fun k => w.heap.size ≤ k ∧ k < w'.heap.size) ∧ Below w.heap.size w w' := by
  obtain ⟨ra, rc, sa, sc, rfl, h1, h2⟩ := h
  obtain ⟨fx, hfx⟩ : ∃ fx, fx = L.fixed := ⟨_, rfl⟩
  obtain ⟨rx, hrx⟩ : ∃ rx, rx = L.record := ⟨_, rfl⟩
  obtain ⟨n1, hn1⟩ : ∃ n1, n1 = L.refs.length := ⟨_, rfl⟩
  obtain ⟨n2, hn2⟩ : ∃ n2, n2 = L.recs.length := ⟨_, rfl⟩
  rw [← hfx, ← hrx, ← hn1, ← hn2]
  have HA : Hid (∀ W : World, Below w.heap.size w W → Calls Tryz.prog 84 #[.slice ra n1 rc] W fun e w' => ∃ a' c', e = .returned (.slice a' n1 c') ∧ SeqAt w' a' (ns L.refs) ∧ (∀ b o, a' = some ⟨b, o, none⟩ → W.heap.size ≤ b ∧ b < w'.heap.size) ∧ Below W.heap.size W w') := fun W hb => nclone_any ra n1 rc L.refs W (h1.below hb (Nat.le_refl _)) hn1.symm (by omega)
  have HB : Hid (∀ W : World, Below w.heap.size w W → Calls Tryz.prog 84 #[.slice sa n2 sc] W fun e w' => ∃ a' c', e = .returned (.slice a' n2 c') ∧ SeqAt w' a' (ns L.recs) ∧ (∀ b o, a' = some ⟨b, o, none⟩ → W.heap.size ≤ b ∧ b < w'.heap.size) ∧ Below W.heap.size W w') := fun W hb => nclone_any sa n2 sc L.recs W (h2.below hb (Nat.le_refl _)) hn2.symm (by omega)
  have HBA : Hid (Below w.heap.size w ((w.alloc (.cells #[.int .i64 fx, .slice ra n1 rc, .int .i64 rx, .slice sa n2 sc] 60)).alloc (.cells #[.int .i64 0, .slice none 0 0, .int .i64 0, .slice none 0 0] 60))) := ((Below.refl _ w).alloc (Nat.le_refl _) _).alloc (by simp) _
  obtain ⟨xb, hxb⟩ : ∃ xb, xb = w.heap.size := ⟨_, rfl⟩
  obtain ⟨rb, hrb⟩ : ∃ rb, rb = w.heap.size + 1 := ⟨_, rfl⟩
  have HXB : Hid (((w.alloc (.cells #[.int .i64 fx, .slice ra n1 rc, .int .i64 rx, .slice sa n2 sc] 60)).alloc (.cells #[.int .i64 0, .slice none 0 0, .int .i64 0, .slice none 0 0] 60)).heap[xb]? = some (.cells #[.int .i64 fx, .slice ra n1 rc, .int .i64 rx, .slice sa n2 sc] 60 (0, 0))) := by rw [hxb]; exact (Below.heap_alloc _ _ _ (by simp)).trans (heap_alloc_new w _)
  have HRB : Hid (((w.alloc (.cells #[.int .i64 fx, .slice ra n1 rc, .int .i64 rx, .slice sa n2 sc] 60)).alloc (.cells #[.int .i64 0, .slice none 0 0, .int .i64 0, .slice none 0 0] 60)).heap[rb]? = some (.cells #[.int .i64 0, .slice none 0 0, .int .i64 0, .slice none 0 0] 60 (0, 0))) := by rw [hrb]; exact heap_alloc2_new w _ _
  have HXR : Hid (w.heap.size ≤ xb ∧ w.heap.size ≤ rb ∧ xb ≠ rb) := ⟨by omega, by omega, by omega⟩
  have HFX : Hid (fx = L.fixed ∧ rx = L.record ∧ n1 = L.refs.length ∧ n2 = L.recs.length) := ⟨hfx, hrx, hn1, hn2⟩
  clear h1 h2 hfx hrx hn1 hn2 hl1 hl2
  go_enter Tryz.func83, Tryz.ntmps83
  go_wp2_with fail
  rw [← hrb, ← hxb]
  rw [← hxb] at HBA HA HB HXR
  generalize (w.alloc (.cells #[.int .i64 fx, .slice ra n1 rc, .int .i64 rx, .slice sa n2 sc] 60)).alloc (.cells #[.int .i64 0, .slice none 0 0, .int .i64 0, .slice none 0 0] 60) = wa at *
  have HXE : Hid (xb = w.heap.size) := hxb
  clear hxb hrb
  have x0 := (cells_of_block HXB.out 0)
  have x1 := (cells_of_block HXB.out 1)
  have x2 := (cells_of_block HXB.out 2)
  have x3 := (cells_of_block HXB.out 3)
  simp at x0 x1 x2 x3
  have hxl := (Array.getElem?_eq_some_iff.1 HXB.out).1
  have hrl := (Array.getElem?_eq_some_iff.1 HRB.out).1
  obtain ⟨x1, -⟩ := x1
  obtain ⟨x3, -⟩ := x3
  refine wp_region_held_drew (S := fun _ => True) (by kernel_rfl) trivial (fun hH => ?_)
  refine takeH 0 (v := ?_) rfl (by kernel_rfl) (by kernel_rfl) (by kernel_rfl) (fun _ _ _ h => h) (by rfl) ?_ (by assumption) ?_
  rotate_left
  · intro W hW
    go_simp
    try with_reducible rfl
  try simp only [Act.put, List.setIfInBounds_toArray, List.set_cons_zero, List.set_cons_succ]
  refine takeH 3 (v := ?_) rfl (by kernel_rfl) (by kernel_rfl) (by kernel_rfl) (fun _ _ _ h => h) (by rfl) ?_ (by assumption) ?_
  rotate_left
  · intro W hW
    go_simp
    try with_reducible rfl
  try simp only [Act.put, List.setIfInBounds_toArray, List.set_cons_zero, List.set_cons_succ]
  refine wpAnyH_ready (rs := [1, 4]) (by kernel_rfl) (by simp) (readyH rfl (fun K hK => ?_) (readyH rfl (fun K hK => ?_) AllReadyH.nil))
  · rw [if_pos (by rfl)]
    go_simp
    refine hK.out _ _ trivial (fun hH => ?_)
    clear hK K
    try simp only [Act.put, List.setIfInBounds_toArray, List.set_cons_zero, List.set_cons_succ]
    refine wpAnyH_ready (rs := [2, 4]) (by kernel_rfl) (by simp) (readyH rfl (fun K hK => ?_) (readyH rfl (fun K hK => ?_) AllReadyH.nil))
    · rw [if_pos (by rfl)]
      go_simp
      refine (HA.out _ HBA.out.drew).mono ?_
      rintro e w1 ⟨a1, c1, rfl, hs1, hf1, hb1⟩
      have HS1 := Lib.hid hs1
      have HF1 := Lib.hid hf1
      have HB1 : Hid (Below xb w w1) := HBA.out.drew.trans (hb1.mono (Nat.le_of_lt hxl))
      have HX1 := Lib.hid ((hb1.block xb hxl).trans HXB.out)
      have HR1 := Lib.hid ((hb1.block rb hrl).trans HRB.out)
      have HZ1 : Hid (wa.heap.size ≤ w1.heap.size) := hb1.size
      have y3 := (cells_of_block HX1.out 3).1
      simp at y3
      clear hs1 hf1 hb1
      refine hK.out _ _ trivial (fun hH => ?_)
      clear hK K
      try simp only [Act.put, List.setIfInBounds_toArray, List.set_cons_zero, List.set_cons_succ]
      refine wpAnyH_ready (rs := [4]) (by kernel_rfl) (by simp) (readyH rfl (fun K hK => ?_) AllReadyH.nil)
      rw [if_pos (by rfl)]
      go_simp
      refine hK.out _ _ trivial (fun hH => ?_)
      clear hK K
      try simp only [Act.put, List.setIfInBounds_toArray, List.set_cons_zero, List.set_cons_succ]
      refine takeH 6 (v := ?_) rfl (by kernel_rfl) (by kernel_rfl) (by kernel_rfl) (fun _ _ _ h => h) (by rfl) ?_ (by assumption) ?_
      rotate_left
      · intro W hW
        go_simp
        try with_reducible rfl
      try simp only [Act.put, List.setIfInBounds_toArray, List.set_cons_zero, List.set_cons_succ]
      refine wpAnyH_ready (rs := [5]) (by kernel_rfl) (by simp) (readyH rfl (fun K hK => ?_) AllReadyH.nil)
      rw [if_pos (by rfl)]
      go_simp
      refine (HB.out _ HB1.out).mono ?_
      rintro e w2 ⟨a2, c2, rfl, hs2, hf2, hb2⟩
      have HS2 := Lib.hid hs2
      have HF2 := Lib.hid hf2
      have HB2 : Hid (Below xb w w2) := HB1.out.trans (hb2.mono (by have := HZ1.out; omega))
      have HSA : Hid (SeqAt w2 a1 (ns L.refs)) := HS1.out.below hb2 (Nat.le_refl _)
      have HX2 := Lib.hid ((hb2.block xb (Nat.lt_of_lt_of_le hxl HZ1.out)).trans HX1.out)
      have HR2 := Lib.hid ((hb2.block rb (Nat.lt_of_lt_of_le hrl HZ1.out)).trans HR1.out)
      have HZ2 : Hid (w1.heap.size ≤ w2.heap.size) := hb2.size
      have z0 := cells_of_block HX2.out 0
      have z1 := cells_of_block HX2.out 1
      have z2 := cells_of_block HX2.out 2
      have z3 := cells_of_block HX2.out 3
      simp at z0 z1 z2 z3
      obtain ⟨z0, -⟩ := z0
      obtain ⟨z1, g1⟩ := z1
      obtain ⟨z2, -⟩ := z2
      obtain ⟨z3, g3⟩ := z3
      clear hs2 hf2 hb2
      refine hK.out _ _ trivial (fun hH => ?_)
      clear hK K
      try simp only [Act.put, List.setIfInBounds_toArray, List.set_cons_zero, List.set_cons_succ]
      refine wpAnyH_ready (rs := [7]) (by kernel_rfl) (by simp) (readyH rfl (fun K hK => ?_) AllReadyH.nil)
      rw [if_pos (by rfl)]
      go_simp
      refine hK.out _ _ trivial (fun hH => ?_)
      clear hK K
      try simp only [Act.put, List.setIfInBounds_toArray, List.set_cons_zero, List.set_cons_succ]
      refine takeH 8 (v := ?_) rfl (by kernel_rfl) (by kernel_rfl) (by kernel_rfl) (fun _ _ _ h => h) (by rfl) ?_ (by assumption) ?_
      rotate_left
      · intro W hW
        go_simp
        try with_reducible rfl
      try simp only [Act.put, List.setIfInBounds_toArray, List.set_cons_zero, List.set_cons_succ]
      refine wpAnyH_ready (rs := [9]) (by kernel_rfl) (by simp) (readyH rfl (fun K hK => ?_) AllReadyH.nil)
      rw [if_pos (by rfl)]
      go_simp
      refine hK.out _ _ trivial (fun hH => ?_)
      clear hK K
      try simp only [Act.put, List.setIfInBounds_toArray, List.set_cons_zero, List.set_cons_succ]
      refine wpAnyH_done (by kernel_rfl) ?_ _
      have HXC : Hid (((w2.setCell ⟨xb, 1, none⟩ (.slice a1 n1 c1)).setCell ⟨xb, 3, none⟩ (.slice a2 n2 c2)).heap[xb]? = some (.cells #[.int .i64 fx, .slice a1 n1 c1, .int .i64 rx, .slice a2 n2 c2] 60 (0, 0))) := by
        show _ = _
        simpa using block_setCell (block_setCell HX2.out 1 (.slice a1 n1 c1)) 3 (.slice a2 n2 c2)
      have hkc : ∀ k, k ≠ xb → ((w2.setCell ⟨xb, 1, none⟩ (.slice a1 n1 c1)).setCell ⟨xb, 3, none⟩ (.slice a2 n2 c2)).heap[k]? = w2.heap[k]? := fun k hk => by rw [Below.heap_setCell _ _ _ _ hk, Below.heap_setCell _ _ _ _ hk]
      have HBC : Hid (Below xb w ((w2.setCell ⟨xb, 1, none⟩ (.slice a1 n1 c1)).setCell ⟨xb, 3, none⟩ (.slice a2 n2 c2))) := (HB2.out.setCell (Nat.le_refl _) _).setCell (Nat.le_refl _) _
      have HZ3 : Hid (((w2.setCell ⟨xb, 1, none⟩ (.slice a1 n1 c1)).setCell ⟨xb, 3, none⟩ (.slice a2 n2 c2)).heap.size = w2.heap.size) := by show _ = _; simp [World.setCell]
      clear z0 z1 z2 z3 g1 g3
      generalize (w2.setCell ⟨xb, 1, none⟩ (.slice a1 n1 c1)).setCell ⟨xb, 3, none⟩ (.slice a2 n2 c2) = w3 at *
      have HRC := Lib.hid ((hkc rb HXR.out.2.2.symm).trans HR2.out)
      have HKC := Lib.hid hkc
      have z0 := (cells_of_block HXC.out 0).1
      have z1 := (cells_of_block HXC.out 1).1
      have z2 := (cells_of_block HXC.out 2).1
      have z3 := (cells_of_block HXC.out 3).1
      simp at z0 z1 z2 z3
      have r0 := cells_of_block HRC.out 0
      have r1 := cells_of_block HRC.out 1
      have r2 := cells_of_block HRC.out 2
      have r3 := cells_of_block HRC.out 3
      simp at r0 r1 r2 r3
      obtain ⟨r0, q0⟩ := r0
      obtain ⟨r1, q1⟩ := r1
      obtain ⟨r2, q2⟩ := r2
      obtain ⟨r3, q3⟩ := r3
      clear hkc
      go_wp2_with fail
      try simp only [Exit.inBlock, Exit.then]
      have hbk : ((((w3.setCell ⟨rb, 0, none⟩ (.int .i64 fx)).setCell ⟨rb, 1, none⟩ (.slice a1 n1 c1)).setCell ⟨rb, 2, none⟩ (.int .i64 rx)).setCell ⟨rb, 3, none⟩ (.slice a2 n2 c2)).heap[rb]? = some (.cells #[.int .i64 fx, .slice a1 n1 c1, .int .i64 rx, .slice a2 n2 c2] 60 (0, 0)) := by
        simpa using block_setCell (block_setCell (block_setCell (block_setCell HRC.out 0 (.int .i64 fx)) 1 (.slice a1 n1 c1)) 2 (.int .i64 rx)) 3 (.slice a2 n2 c2)
      have hend := own_end (c1 := c1) (c2 := c2) HFX.out HXE.out HXR.out hxl hrl HZ1.out HZ2.out HZ3.out HS2.out HSA.out HF1.out HF2.out HKC.out HBC.out
      exact bodyPost_ret (results_cell_row rfl _ _ rb _ _ _ _ rfl hbk Tryz.underlying60 rfl rfl) rfl ⟨_, rfl, hend.1, hend.2⟩
    · rw [if_pos (by rfl)]
      go_simp
      refine hK.out _ _ trivial (fun hH => ?_)
      clear hK K
      try simp only [Act.put, List.setIfInBounds_toArray, List.set_cons_zero, List.set_cons_succ]
      refine wpAnyH_ready (rs := [2]) (by kernel_rfl) (by simp) (readyH rfl (fun K hK => ?_) AllReadyH.nil)
      rw [if_pos (by rfl)]
      go_simp
      refine (HA.out _ HBA.out.drew).mono ?_
      rintro e w1 ⟨a1, c1, rfl, hs1, hf1, hb1⟩
      have HS1 := Lib.hid hs1
      have HF1 := Lib.hid hf1
      have HB1 : Hid (Below xb w w1) := HBA.out.drew.trans (hb1.mono (Nat.le_of_lt hxl))
      have HX1 := Lib.hid ((hb1.block xb hxl).trans HXB.out)
      have HR1 := Lib.hid ((hb1.block rb hrl).trans HRB.out)
      have HZ1 : Hid (wa.heap.size ≤ w1.heap.size) := hb1.size
      have y3 := (cells_of_block HX1.out 3).1
      simp at y3
      clear hs1 hf1 hb1
      refine hK.out _ _ trivial (fun hH => ?_)
      clear hK K
      try simp only [Act.put, List.setIfInBounds_toArray, List.set_cons_zero, List.set_cons_succ]
      refine takeH 6 (v := ?_) rfl (by kernel_rfl) (by kernel_rfl) (by kernel_rfl) (fun _ _ _ h => h) (by rfl) ?_ (by assumption) ?_
      rotate_left
      · intro W hW
        go_simp
        try with_reducible rfl
      try simp only [Act.put, List.setIfInBounds_toArray, List.set_cons_zero, List.set_cons_succ]
      refine wpAnyH_ready (rs := [5]) (by kernel_rfl) (by simp) (readyH rfl (fun K hK => ?_) AllReadyH.nil)
      rw [if_pos (by rfl)]
      go_simp
      refine (HB.out _ HB1.out).mono ?_
      rintro e w2 ⟨a2, c2, rfl, hs2, hf2, hb2⟩
      have HS2 := Lib.hid hs2
      have HF2 := Lib.hid hf2
      have HB2 : Hid (Below xb w w2) := HB1.out.trans (hb2.mono (by have := HZ1.out; omega))
      have HSA : Hid (SeqAt w2 a1 (ns L.refs)) := HS1.out.below hb2 (Nat.le_refl _)
      have HX2 := Lib.hid ((hb2.block xb (Nat.lt_of_lt_of_le hxl HZ1.out)).trans HX1.out)
      have HR2 := Lib.hid ((hb2.block rb (Nat.lt_of_lt_of_le hrl HZ1.out)).trans HR1.out)
      have HZ2 : Hid (w1.heap.size ≤ w2.heap.size) := hb2.size
      have z0 := cells_of_block HX2.out 0
      have z1 := cells_of_block HX2.out 1
      have z2 := cells_of_block HX2.out 2
      have z3 := cells_of_block HX2.out 3
      simp at z0 z1 z2 z3
      obtain ⟨z0, -⟩ := z0
      obtain ⟨z1, g1⟩ := z1
      obtain ⟨z2, -⟩ := z2
      obtain ⟨z3, g3⟩ := z3
      clear hs2 hf2 hb2
      refine hK.out _ _ trivial (fun hH => ?_)
      clear hK K
      try simp only [Act.put, List.setIfInBounds_toArray, List.set_cons_zero, List.set_cons_succ]
      refine wpAnyH_ready (rs := [7]) (by kernel_rfl) (by simp) (readyH rfl (fun K hK => ?_) AllReadyH.nil)
      rw [if_pos (by rfl)]
      go_simp
      refine hK.out _ _ trivial (fun hH => ?_)
      clear hK K
      try simp only [Act.put, List.setIfInBounds_toArray, List.set_cons_zero, List.set_cons_succ]
      refine takeH 8 (v := ?_) rfl (by kernel_rfl) (by kernel_rfl) (by kernel_rfl) (fun _ _ _ h => h) (by rfl) ?_ (by assumption) ?_
      rotate_left
      · intro W hW
        go_simp
        try with_reducible rfl
      try simp only [Act.put, List.setIfInBounds_toArray, List.set_cons_zero, List.set_cons_succ]
      refine wpAnyH_ready (rs := [9]) (by kernel_rfl) (by simp) (readyH rfl (fun K hK => ?_) AllReadyH.nil)
      rw [if_pos (by rfl)]
      go_simp
      refine hK.out _ _ trivial (fun hH => ?_)
      clear hK K
      try simp only [Act.put, List.setIfInBounds_toArray, List.set_cons_zero, List.set_cons_succ]
      refine wpAnyH_done (by kernel_rfl) ?_ _
      have HXC : Hid (((w2.setCell ⟨xb, 1, none⟩ (.slice a1 n1 c1)).setCell ⟨xb, 3, none⟩ (.slice a2 n2 c2)).heap[xb]? = some (.cells #[.int .i64 fx, .slice a1 n1 c1, .int .i64 rx, .slice a2 n2 c2] 60 (0, 0))) := by
        show _ = _
        simpa using block_setCell (block_setCell HX2.out 1 (.slice a1 n1 c1)) 3 (.slice a2 n2 c2)
      have hkc : ∀ k, k ≠ xb → ((w2.setCell ⟨xb, 1, none⟩ (.slice a1 n1 c1)).setCell ⟨xb, 3, none⟩ (.slice a2 n2 c2)).heap[k]? = w2.heap[k]? := fun k hk => by rw [Below.heap_setCell _ _ _ _ hk, Below.heap_setCell _ _ _ _ hk]
      have HBC : Hid (Below xb w ((w2.setCell ⟨xb, 1, none⟩ (.slice a1 n1 c1)).setCell ⟨xb, 3, none⟩ (.slice a2 n2 c2))) := (HB2.out.setCell (Nat.le_refl _) _).setCell (Nat.le_refl _) _
      have HZ3 : Hid (((w2.setCell ⟨xb, 1, none⟩ (.slice a1 n1 c1)).setCell ⟨xb, 3, none⟩ (.slice a2 n2 c2)).heap.size = w2.heap.size) := by show _ = _; simp [World.setCell]
      clear z0 z1 z2 z3 g1 g3
      generalize (w2.setCell ⟨xb, 1, none⟩ (.slice a1 n1 c1)).setCell ⟨xb, 3, none⟩ (.slice a2 n2 c2) = w3 at *
      have HRC := Lib.hid ((hkc rb HXR.out.2.2.symm).trans HR2.out)
      have HKC := Lib.hid hkc
      have z0 := (cells_of_block HXC.out 0).1
      have z1 := (cells_of_block HXC.out 1).1
      have z2 := (cells_of_block HXC.out 2).1
      have z3 := (cells_of_block HXC.out 3).1
      simp at z0 z1 z2 z3
      have r0 := cells_of_block HRC.out 0
      have r1 := cells_of_block HRC.out 1
      have r2 := cells_of_block HRC.out 2
      have r3 := cells_of_block HRC.out 3
      simp at r0 r1 r2 r3
      obtain ⟨r0, q0⟩ := r0
      obtain ⟨r1, q1⟩ := r1
      obtain ⟨r2, q2⟩ := r2
      obtain ⟨r3, q3⟩ := r3
      clear hkc
      go_wp2_with fail
      try simp only [Exit.inBlock, Exit.then]
      have hbk : ((((w3.setCell ⟨rb, 0, none⟩ (.int .i64 fx)).setCell ⟨rb, 1, none⟩ (.slice a1 n1 c1)).setCell ⟨rb, 2, none⟩ (.int .i64 rx)).setCell ⟨rb, 3, none⟩ (.slice a2 n2 c2)).heap[rb]? = some (.cells #[.int .i64 fx, .slice a1 n1 c1, .int .i64 rx, .slice a2 n2 c2] 60 (0, 0)) := by
        simpa using block_setCell (block_setCell (block_setCell (block_setCell HRC.out 0 (.int .i64 fx)) 1 (.slice a1 n1 c1)) 2 (.int .i64 rx)) 3 (.slice a2 n2 c2)
      have hend := own_end (c1 := c1) (c2 := c2) HFX.out HXE.out HXR.out hxl hrl HZ1.out HZ2.out HZ3.out HS2.out HSA.out HF1.out HF2.out HKC.out HBC.out
      exact bodyPost_ret (results_cell_row rfl _ _ rb _ _ _ _ rfl hbk Tryz.underlying60 rfl rfl) rfl ⟨_, rfl, hend.1, hend.2⟩
  · rw [if_pos (by rfl)]
    go_simp
    refine hK.out _ _ trivial (fun hH => ?_)
    clear hK K
    try simp only [Act.put, List.setIfInBounds_toArray, List.set_cons_zero, List.set_cons_succ]
    refine wpAnyH_ready (rs := [1]) (by kernel_rfl) (by simp) (readyH rfl (fun K hK => ?_) AllReadyH.nil)
    rw [if_pos (by rfl)]
    go_simp
    refine hK.out _ _ trivial (fun hH => ?_)
    clear hK K
    try simp only [Act.put, List.setIfInBounds_toArray, List.set_cons_zero, List.set_cons_succ]
    refine wpAnyH_ready (rs := [2]) (by kernel_rfl) (by simp) (readyH rfl (fun K hK => ?_) AllReadyH.nil)
    rw [if_pos (by rfl)]
    go_simp
    refine (HA.out _ HBA.out.drew).mono ?_
    rintro e w1 ⟨a1, c1, rfl, hs1, hf1, hb1⟩
    have HS1 := Lib.hid hs1
    have HF1 := Lib.hid hf1
    have HB1 : Hid (Below xb w w1) := HBA.out.drew.trans (hb1.mono (Nat.le_of_lt hxl))
    have HX1 := Lib.hid ((hb1.block xb hxl).trans HXB.out)
    have HR1 := Lib.hid ((hb1.block rb hrl).trans HRB.out)
    have HZ1 : Hid (wa.heap.size ≤ w1.heap.size) := hb1.size
    have y3 := (cells_of_block HX1.out 3).1
    simp at y3
    clear hs1 hf1 hb1
    refine hK.out _ _ trivial (fun hH => ?_)
    clear hK K
    try simp only [Act.put, List.setIfInBounds_toArray, List.set_cons_zero, List.set_cons_succ]
    refine takeH 6 (v := ?_) rfl (by kernel_rfl) (by kernel_rfl) (by kernel_rfl) (fun _ _ _ h => h) (by rfl) ?_ (by assumption) ?_
    rotate_left
    · intro W hW
      go_simp
      try with_reducible rfl
    try simp only [Act.put, List.setIfInBounds_toArray, List.set_cons_zero, List.set_cons_succ]
    refine wpAnyH_ready (rs := [5]) (by kernel_rfl) (by simp) (readyH rfl (fun K hK => ?_) AllReadyH.nil)
    rw [if_pos (by rfl)]
    go_simp
    refine (HB.out _ HB1.out).mono ?_
    rintro e w2 ⟨a2, c2, rfl, hs2, hf2, hb2⟩
    have HS2 := Lib.hid hs2
    have HF2 := Lib.hid hf2
    have HB2 : Hid (Below xb w w2) := HB1.out.trans (hb2.mono (by have := HZ1.out; omega))
    have HSA : Hid (SeqAt w2 a1 (ns L.refs)) := HS1.out.below hb2 (Nat.le_refl _)
    have HX2 := Lib.hid ((hb2.block xb (Nat.lt_of_lt_of_le hxl HZ1.out)).trans HX1.out)
    have HR2 := Lib.hid ((hb2.block rb (Nat.lt_of_lt_of_le hrl HZ1.out)).trans HR1.out)
    have HZ2 : Hid (w1.heap.size ≤ w2.heap.size) := hb2.size
    have z0 := cells_of_block HX2.out 0
    have z1 := cells_of_block HX2.out 1
    have z2 := cells_of_block HX2.out 2
    have z3 := cells_of_block HX2.out 3
    simp at z0 z1 z2 z3
    obtain ⟨z0, -⟩ := z0
    obtain ⟨z1, g1⟩ := z1
    obtain ⟨z2, -⟩ := z2
    obtain ⟨z3, g3⟩ := z3
    clear hs2 hf2 hb2
    refine hK.out _ _ trivial (fun hH => ?_)
    clear hK K
    try simp only [Act.put, List.setIfInBounds_toArray, List.set_cons_zero, List.set_cons_succ]
    refine wpAnyH_ready (rs := [7]) (by kernel_rfl) (by simp) (readyH rfl (fun K hK => ?_) AllReadyH.nil)
    rw [if_pos (by rfl)]
    go_simp
    refine hK.out _ _ trivial (fun hH => ?_)
    clear hK K
    try simp only [Act.put, List.setIfInBounds_toArray, List.set_cons_zero, List.set_cons_succ]
    refine takeH 8 (v := ?_) rfl (by kernel_rfl) (by kernel_rfl) (by kernel_rfl) (fun _ _ _ h => h) (by rfl) ?_ (by assumption) ?_
    rotate_left
    · intro W hW
      go_simp
      try with_reducible rfl
    try simp only [Act.put, List.setIfInBounds_toArray, List.set_cons_zero, List.set_cons_succ]
    refine wpAnyH_ready (rs := [9]) (by kernel_rfl) (by simp) (readyH rfl (fun K hK => ?_) AllReadyH.nil)
    rw [if_pos (by rfl)]
    go_simp
    refine hK.out _ _ trivial (fun hH => ?_)
    clear hK K
    try simp only [Act.put, List.setIfInBounds_toArray, List.set_cons_zero, List.set_cons_succ]
    refine wpAnyH_done (by kernel_rfl) ?_ _
    have HXC : Hid (((w2.setCell ⟨xb, 1, none⟩ (.slice a1 n1 c1)).setCell ⟨xb, 3, none⟩ (.slice a2 n2 c2)).heap[xb]? = some (.cells #[.int .i64 fx, .slice a1 n1 c1, .int .i64 rx, .slice a2 n2 c2] 60 (0, 0))) := by
      show _ = _
      simpa using block_setCell (block_setCell HX2.out 1 (.slice a1 n1 c1)) 3 (.slice a2 n2 c2)
    have hkc : ∀ k, k ≠ xb → ((w2.setCell ⟨xb, 1, none⟩ (.slice a1 n1 c1)).setCell ⟨xb, 3, none⟩ (.slice a2 n2 c2)).heap[k]? = w2.heap[k]? := fun k hk => by rw [Below.heap_setCell _ _ _ _ hk, Below.heap_setCell _ _ _ _ hk]
    have HBC : Hid (Below xb w ((w2.setCell ⟨xb, 1, none⟩ (.slice a1 n1 c1)).setCell ⟨xb, 3, none⟩ (.slice a2 n2 c2))) := (HB2.out.setCell (Nat.le_refl _) _).setCell (Nat.le_refl _) _
    have HZ3 : Hid (((w2.setCell ⟨xb, 1, none⟩ (.slice a1 n1 c1)).setCell ⟨xb, 3, none⟩ (.slice a2 n2 c2)).heap.size = w2.heap.size) := by show _ = _; simp [World.setCell]
    clear z0 z1 z2 z3 g1 g3
    generalize (w2.setCell ⟨xb, 1, none⟩ (.slice a1 n1 c1)).setCell ⟨xb, 3, none⟩ (.slice a2 n2 c2) = w3 at *
    have HRC := Lib.hid ((hkc rb HXR.out.2.2.symm).trans HR2.out)
    have HKC := Lib.hid hkc
    have z0 := (cells_of_block HXC.out 0).1
    have z1 := (cells_of_block HXC.out 1).1
    have z2 := (cells_of_block HXC.out 2).1
    have z3 := (cells_of_block HXC.out 3).1
    simp at z0 z1 z2 z3
    have r0 := cells_of_block HRC.out 0
    have r1 := cells_of_block HRC.out 1
    have r2 := cells_of_block HRC.out 2
    have r3 := cells_of_block HRC.out 3
    simp at r0 r1 r2 r3
    obtain ⟨r0, q0⟩ := r0
    obtain ⟨r1, q1⟩ := r1
    obtain ⟨r2, q2⟩ := r2
    obtain ⟨r3, q3⟩ := r3
    clear hkc
    go_wp2_with fail
    try simp only [Exit.inBlock, Exit.then]
    have hbk : ((((w3.setCell ⟨rb, 0, none⟩ (.int .i64 fx)).setCell ⟨rb, 1, none⟩ (.slice a1 n1 c1)).setCell ⟨rb, 2, none⟩ (.int .i64 rx)).setCell ⟨rb, 3, none⟩ (.slice a2 n2 c2)).heap[rb]? = some (.cells #[.int .i64 fx, .slice a1 n1 c1, .int .i64 rx, .slice a2 n2 c2] 60 (0, 0)) := by
      simpa using block_setCell (block_setCell (block_setCell (block_setCell HRC.out 0 (.int .i64 fx)) 1 (.slice a1 n1 c1)) 2 (.int .i64 rx)) 3 (.slice a2 n2 c2)
    have hend := own_end (c1 := c1) (c2 := c2) HFX.out HXE.out HXR.out hxl hrl HZ1.out HZ2.out HZ3.out HS2.out HSA.out HF1.out HF2.out HKC.out HBC.out
    exact bodyPost_ret (results_cell_row rfl _ _ rb _ _ _ _ rfl hbk Tryz.underlying60 rfl rfl) rfl ⟨_, rfl, hend.1, hend.2⟩
end Go.Proofs.YtcdpnfchmpncjaaGreatDoor
namespace Go.Proofs.YtcdpnfchmpncjaaGreatDoor
open Go.RowKit Go.Tr Go.Shelf
variable {w w' : World} {F G : Nat → Prop} {b : Nat} {L : Lay}
def Bk0 (w : World) (F : Nat → Prop) (b : Nat) : Prop := F b ∧ w.heap[b]? = some (.cells #[.slice none 0 0] 150 (0, 0))
def Bk1 (w : World) (F : Nat → Prop) (b : Nat) (L : Lay) : Prop := F b ∧ ∃ lb lo cap ra rc sa sc, w.heap[b]? = some (.cells #[.slice (some ⟨lb, lo, none⟩) 1 cap] 150 (0, 0)) ∧ F lb ∧ lb ≠ b ∧ LayF w (.agg #[.int .i64 (L.fixed : Nat), .slice ra L.refs.length rc, .int .i64 (L.record : Nat), .slice sa L.recs.length sc]) L F ∧
  w.cell? ⟨lb, lo, none⟩ = some (.int .i64 (L.fixed : Nat)) ∧ w.cell? ⟨lb, lo + 1, none⟩ = some (.slice ra L.refs.length rc) ∧ w.cell? ⟨lb, lo + 2, none⟩ = some (.int .i64 (L.record : Nat)) ∧ w.cell? ⟨lb, lo + 3, none⟩ = some (.slice sa L.recs.length sc)
theorem _root_.Go.Tr.LayF.kept {v : Value} (h : LayF w v L F) (hk : ∀ k, F k → k < w.heap.size → w'.heap[k]? = w.heap[k]?) : LayF w' v L F := by
  obtain ⟨ra, rc, sa, sc, e, h1, h2, h3, h4⟩ := h
  have hkeep : ∀ {a : Option Addr} {xs : List Value}, SeqAt w a xs → (∀ b o, a = some ⟨b, o, none⟩ → F b) → SeqAt w' a xs := fun h hf h0 => by
    obtain ⟨b, off, e, hc⟩ := h h0
    refine ⟨b, off, e, fun j hj => ?_⟩
    have h5 := hc j hj
    rw [World.cell?_of_block (a := ⟨b, off + j, none⟩) (hk b (hf b off e) (World.block_lt_of_cell? w _ h5))]
    exact h5
  exact ⟨ra, rc, sa, sc, e, hkeep h1 h3, hkeep h2 h4, h3, h4⟩
theorem _root_.Go.Tr.LayF.mono {v : Value} (h : LayF w v L F) (hs : ∀ k, F k → G k) : LayF w v L G := by
  obtain ⟨ra, rc, sa, sc, e, h1, h2, h3, h4⟩ := h
  exact ⟨ra, rc, sa, sc, e, h1, h2, fun b o e => hs _ (h3 b o e), fun b o e => hs _ (h4 b o e)⟩
theorem Bk1.kept (h : Bk1 w F b L) (hk : ∀ k, F k → k < w.heap.size → w'.heap[k]? = w.heap[k]?) : Bk1 w' F b L := by
  obtain ⟨h1, lb, lo, cap, ra, rc, sa, sc, h2, h3, h4, h5, c0, c1, c2, c3⟩ := h
  have hb := hk lb h3 (World.block_lt_of_cell? w _ c0)
  exact ⟨h1, lb, lo, cap, ra, rc, sa, sc, (hk b h1 (Array.getElem?_eq_some_iff.1 h2).1).trans h2, h3, h4, h5.kept hk, (World.cell?_of_block (a := ⟨lb, lo, none⟩) hb).trans c0, (World.cell?_of_block (a := ⟨lb, lo + 1, none⟩) hb).trans c1, (World.cell?_of_block (a := ⟨lb, lo + 2, none⟩) hb).trans c2, (World.cell?_of_block (a := ⟨lb, lo + 3, none⟩) hb).trans c3⟩
theorem Bk0.kept (h : Bk0 w F b) (hk : ∀ k, F k → k < w.heap.size → w'.heap[k]? = w.heap[k]?) : Bk0 w' F b := ⟨h.1, (hk b h.1 (Array.getElem?_eq_some_iff.1 h.2).1).trans h.2⟩
theorem _root_.Go.Tr.SeqAt.off {a : Option Addr} {xs : List Value} (h : SeqAt w a xs) (rb : Nat) (hf : ∀ b o, a = some ⟨b, o, none⟩ → b ≠ rb) : ∀ W : World, (∀ k, k ≠ rb → W.heap[k]? = w.heap[k]?) → SeqAt W a xs := fun W hk h0 => by
  obtain ⟨b, off, e, hc⟩ := h h0
  refine ⟨b, off, e, fun j hj => ?_⟩
  rw [World.cell?_of_block (a := ⟨b, off + j, none⟩) (hk b (hf b off e))]
  exact hc j hj
theorem infoLay : (Tryz.prog.info? 60).map (fun i => (i.zero, i.size, i.bytes)) = some (some (.agg #[.int .i64 0, .slice none 0 0, .int .i64 0, .slice none 0 0]), 4, 64) := by kernel_rfl
set_option maxRecDepth 100000 in
theorem lbook_any (w : World) : Calls Tryz.prog 75 #[] w fun e w' => e = .returned (.pointer (some ⟨w.heap.size, 0, none⟩)) ∧ Bk0 w' (fun k => w.heap.size ≤ k ∧ k < w'.heap.size) w.heap.size ∧ Below w.heap.size w w' := by
  go_enter Tryz.func75, Tryz.ntmps75
  go_wp2
  go_ret
  exact ⟨rfl, ⟨⟨Nat.le_refl _, by simp⟩, heap_alloc_new w _⟩, (Below.refl _ w).alloc (Nat.le_refl _) _⟩
set_option maxRecDepth 100000 in
theorem lget_any (w : World) (h : Bk1 w F b L) (hl1 : L.refs.length ≤ 1000) (hl2 : L.recs.length ≤ 1000) : Calls Tryz.prog 86 #[.pointer (some ⟨b, 0, none⟩), .int .i64 1] w fun e w' => ∃ v, e = .returned (.tuple #[v, .int .i64 0]) ∧ LayF w' v L (fun k => w.heap.size ≤ k ∧ k < w'.heap.size) ∧ Below w.heap.size w w' := by
  obtain ⟨hF, lb, lo, cap, ra, rc, sa, sc, hb, hlb, hne, hlay, c0, c1, c2, c3⟩ := h
  obtain ⟨fx, hfx⟩ : ∃ fx, fx = L.fixed := ⟨_, rfl⟩
  obtain ⟨rx, hrx⟩ : ∃ rx, rx = L.record := ⟨_, rfl⟩
  obtain ⟨n1, hn1⟩ : ∃ n1, n1 = L.refs.length := ⟨_, rfl⟩
  obtain ⟨n2, hn2⟩ : ∃ n2, n2 = L.recs.length := ⟨_, rfl⟩
  rw [← hfx, ← hrx, ← hn1, ← hn2] at hlay
  rw [← hfx] at c0
  rw [← hn1] at c1
  rw [← hrx] at c2
  rw [← hn2] at c3
  have HOWN : Hid (∀ W : World, Below w.heap.size w W → Calls Tryz.prog 83 #[.agg #[.int .i64 fx, .slice ra n1 rc, .int .i64 rx, .slice sa n2 sc]] W fun e w' => ∃ v', e = .returned v' ∧ LayF w' v' L (fun k => W.heap.size ≤ k ∧ k < w'.heap.size) ∧ Below W.heap.size W w') := fun W hb => lown_any W (hlay.at.kept hb) hl1 hl2
  have HBA : Hid (Below w.heap.size w (w.alloc (.cells #[.int .i64 0, .slice none 0 0, .int .i64 0, .slice none 0 0] 60))) := (Below.refl _ w).alloc (Nat.le_refl _) _
  obtain ⟨rb, hrb⟩ : ∃ rb, rb = w.heap.size := ⟨_, rfl⟩
  have HRB : Hid ((w.alloc (.cells #[.int .i64 0, .slice none 0 0, .int .i64 0, .slice none 0 0] 60)).heap[rb]? = some (.cells #[.int .i64 0, .slice none 0 0, .int .i64 0, .slice none 0 0] 60 (0, 0))) := by rw [hrb]; exact heap_alloc_new w _
  have b0 := (cells_of_block hb 0).1
  simp at b0
  have hbl := (Array.getElem?_eq_some_iff.1 hb).1
  have hll := World.block_lt_of_cell? w _ c0
  have d0 := fun u => (World.cell?_of_block (a := ⟨b, 0, none⟩) (Below.heap_alloc w u b hbl)).trans b0
  have d1 := fun u => (World.cell?_of_block (a := ⟨lb, lo, none⟩) (Below.heap_alloc w u lb hll)).trans c0
  have d2 := fun u => (World.cell?_of_block (a := ⟨lb, lo + 1, none⟩) (Below.heap_alloc w u lb hll)).trans c1
  have d3 := fun u => (World.cell?_of_block (a := ⟨lb, lo + 2, none⟩) (Below.heap_alloc w u lb hll)).trans c2
  have d4 := fun u => (World.cell?_of_block (a := ⟨lb, lo + 3, none⟩) (Below.heap_alloc w u lb hll)).trans c3
  clear hlay c0 c1 c2 c3 hb b0 hfx hrx hn1 hn2 hl1 hl2 hbl hll hne
  go_enter Tryz.func86, Tryz.ntmps86
  go_wp2_with fail
  have HRE : Hid (rb = w.heap.size) := hrb
  rw [← hrb]
  clear hrb d0 d1 d2 d3 d4
  generalize w.alloc (.cells #[.int .i64 0, .slice none 0 0, .int .i64 0, .slice none 0 0] 60) = wa at *
  refine (HOWN.out wa HBA.out).mono ?_
  rintro e w1 ⟨v', rfl, hlf, hb1⟩
  obtain ⟨ra', rc', sa', sc', rfl, hsA, hsB, hgA, hgB⟩ := hlf
  have HB1 : Hid (Below w.heap.size w w1) := HBA.out.trans (hb1.mono HBA.out.size)
  have HR1 := Lib.hid ((hb1.block rb (Array.getElem?_eq_some_iff.1 HRB.out).1).trans HRB.out)
  have hrl := (Array.getElem?_eq_some_iff.1 HRB.out).1
  have HSA := Lib.hid (hsA.off rb (fun q o e => by have := (hgA q o e).1; omega))
  have HSB := Lib.hid (hsB.off rb (fun q o e => by have := (hgB q o e).1; omega))
  have r0 := cells_of_block HR1.out 0
  have r1 := cells_of_block HR1.out 1
  have r2 := cells_of_block HR1.out 2
  have r3 := cells_of_block HR1.out 3
  simp at r0 r1 r2 r3
  obtain ⟨r0, q0⟩ := r0
  obtain ⟨r1, q1⟩ := r1
  obtain ⟨r2, q2⟩ := r2
  obtain ⟨r3, q3⟩ := r3
  have HGA : Hid (∀ q o, ra' = some ⟨q, o, none⟩ → w.heap.size ≤ q ∧ q < w1.heap.size) := fun q o e => by have := hgA q o e; have := HBA.out.size; omega
  have HGB : Hid (∀ q o, sa' = some ⟨q, o, none⟩ → w.heap.size ≤ q ∧ q < w1.heap.size) := fun q o e => by have := hgB q o e; have := HBA.out.size; omega
  clear hsA hsB hgA hgB hb1 hrl
  go_wp2_with fail
  try simp only [Exit.inBlock, Exit.then]
  have hbk : ((((w1.setCell ⟨rb, 0, none⟩ (.int .i64 L.fixed)).setCell ⟨rb, 1, none⟩ (.slice ra' L.refs.length rc')).setCell ⟨rb, 2, none⟩ (.int .i64 L.record)).setCell ⟨rb, 3, none⟩ (.slice sa' L.recs.length sc')).heap[rb]? = some (.cells #[.int .i64 L.fixed, .slice ra' L.refs.length rc', .int .i64 L.record, .slice sa' L.recs.length sc'] 60 (0, 0)) := by
    simpa using block_setCell (block_setCell (block_setCell (block_setCell HR1.out 0 (.int .i64 L.fixed)) 1 (.slice ra' L.refs.length rc')) 2 (.int .i64 L.record)) 3 (.slice sa' L.recs.length sc')
  have hk : ∀ k, k ≠ rb → ((((w1.setCell ⟨rb, 0, none⟩ (.int .i64 L.fixed)).setCell ⟨rb, 1, none⟩ (.slice ra' L.refs.length rc')).setCell ⟨rb, 2, none⟩ (.int .i64 L.record)).setCell ⟨rb, 3, none⟩ (.slice sa' L.recs.length sc')).heap[k]? = w1.heap[k]? := fun k hn => by rw [Below.heap_setCell _ _ _ _ hn, Below.heap_setCell _ _ _ _ hn, Below.heap_setCell _ _ _ _ hn, Below.heap_setCell _ _ _ _ hn]
  have e : w.heap.size ≤ rb := Nat.le_of_eq HRE.out.symm
  exact bodyPost_ret (results_blk rfl _ _ rb _ _ _ _ rfl hbk Tryz.underlying60 rfl rfl) rfl ⟨_, rfl, ⟨ra', rc', sa', sc', rfl, HSA.out _ hk, HSB.out _ hk, fun q o e => by have := HGA.out q o e; simpa [World.setCell] using this, fun q o e => by have := HGB.out q o e; simpa [World.setCell] using this⟩, (((HB1.out.setCell e _).setCell e _).setCell e _).setCell e _⟩
end Go.Proofs.YtcdpnfchmpncjaaGreatDoor
