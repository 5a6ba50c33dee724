/-
  Parts of the proof, one behind the other: KField3, KHead.
-/
import Derived.Test.YtcdpnfchmpncjaaGreatDoorMa16
set_option linter.unusedSimpArgs false
set_option linter.unusedVariables false
namespace Go.Tr
open Go.RowKit
theorem SeqAt.u {w : World} {a : Option Addr} {xs : List Nat} (h : SeqAt w a (us xs)) {k : Nat} (hk : k < xs.length) : ∃ b off x, a = some ⟨b, off, none⟩ ∧ w.cell? ⟨b, off + k, none⟩ = some (.int .u64 (x : Nat)) ∧ Hid (xs[k]? = some x) := by
  obtain ⟨b, off, e, hc⟩ := h (by simp [us]; omega)
  refine ⟨b, off, xs[k], e, ?_, List.getElem?_eq_getElem hk⟩
  rw [hc k (by simp [us]; exact hk)]
  simp [us, uv, List.getD, List.getElem?_eq_getElem hk]
theorem packN_drop {v k : Nat} {fs : List (Nat × Nat)} {xs : List Nat} {f : Nat × Nat} {x : Nat} (hf : fs[k]? = some f) (hx : xs[k]? = some x) : packN v (fs.drop k) (xs.drop k) = packN (putN v f x) (fs.drop (k + 1)) (xs.drop (k + 1)) := by
  rw [List.drop_eq_getElem_cons (List.getElem?_eq_some_iff.1 hf).1, (List.getElem?_eq_some_iff.1 hf).2, List.drop_eq_getElem_cons (List.getElem?_eq_some_iff.1 hx).1, (List.getElem?_eq_some_iff.1 hx).2]
  rfl
end Go.Tr
namespace Go.Proofs.YtcdpnfchmpncjaaGreatDoor
open Go.RowKit Go.Tr Go.Shelf
variable {w w' : World}
theorem okL_right : ∀ {all : Nat} {fs : List (Nat × Nat)}, okL all fs → ∀ f ∈ fs, RightF f
  | _, [], _, f, hf => by simp at hf
  | _, g :: r, h, f, hf => by
    rcases List.mem_cons.1 hf with rfl | hf
    · exact h.1
    · exact okL_right h.2.2 f hf
set_option maxRecDepth 100000 in
theorem fpack_any (fs : List (Nat × Nat)) (xs : List Nat) (la xa : Option Addr) (n c xc : Nat) (w : World) (h : SeqAt w la (pcells fs)) (h2 : SeqAt w xa (us xs)) (hl : fs.length = n) (hx : xs.length = n) (hn : n ≤ 1000) (ho : okL 0 fs) (hfit : ∀ (k : Nat) f x, fs[k]? = some f → xs[k]? = some x → x < 2 ^ f.2) : Calls Tryz.prog 176 #[.slice la n c, .slice xa n xc] w fun e w' => e = .returned (.tuple #[.int .u64 (packN 0 fs xs : Nat), .int .i64 0]) ∧ Below w.heap.size w w' := by
  have HAP := Lib.hid (fapart_any fs la n c w h hl hn ho)
  have HS := Lib.hid h
  have HS2 := Lib.hid h2
  have HO := Lib.hid (okL_right ho)
  have HL := Lib.hid hl
  have HXL := Lib.hid hx
  have HFIT := Lib.hid hfit
  clear h h2 ho hl hx hfit
  go_enter Tryz.func176, Tryz.ntmps176
  go_wp2_with fail
  refine HAP.out.mono ?_
  rintro e w1 ⟨rfl, hb1⟩
  have HB1 := Lib.hid hb1
  clear hb1
  go_wp2_with fail
  go_loopw [6, 22] (fun v i wr => ∃ k z : Nat, k ≤ n ∧ i = .int .i64 (k : Int) ∧ v = .int .u64 (z : Int) ∧ z < 18446744073709551616 ∧ Hid (packN z (fs.drop k) (xs.drop k) = packN 0 fs xs) ∧ Hid (Below w.heap.size w wr)) (fun _ i _ => n - (intOf i).toNat)
  case atStart => exact ⟨0, 0, Nat.zero_le _, rfl, rfl, by decide, rfl, HB1⟩
  case round =>
    obtain ⟨k, z, hk, rfl, rfl, hz, HK, HB⟩ := hrel
    by_cases hlt : k < n
    · have hlt' : (k : Int) < (n : Int) := by omega
      obtain ⟨b, off, a, d, rfl, hc1, hc2, HP⟩ := (HS.out.below HB.out (Nat.le_refl _)).part (k := k) (by rw [HL.out]; exact hlt)
      obtain ⟨b2, off2, x, rfl, hc3, HX⟩ := (HS2.out.below HB.out (Nat.le_refl _)).u (k := k) (by rw [HXL.out]; exact hlt)
      have hr := HO.out _ (List.mem_of_getElem? HP.out)
      have hxd := HFIT.out k _ _ HP.out HX.out
      have HPUT := Lib.hid (fput_any z a d x · hr hz hxd)
      have hzl := putN_lt hr hz hxd
      obtain ⟨z', hz'⟩ : ∃ z', z' = putN z (a, d) x := ⟨_, rfl⟩
      have HK' : Hid (packN z' (fs.drop (k + 1)) (xs.drop (k + 1)) = packN 0 fs xs) := by show _ = _; rw [← HK.out, packN_drop HP.out HX.out, hz']
      rw [← hz'] at HPUT hzl
      have HBA : Hid (Below w.heap.size w (wr.alloc (.cells #[.int .i64 a, .int .i64 d] 212))) := HB.out.alloc HB.out.size _
      obtain ⟨xb, hxb⟩ : ∃ xb, xb = wr.heap.size := ⟨_, rfl⟩
      have HXB : Hid ((wr.alloc (.cells #[.int .i64 a, .int .i64 d] 212)).heap[xb]? = some (.cells #[.int .i64 a, .int .i64 d] 212 (0, 0))) := by rw [hxb]; exact heap_alloc_new _ _
      have hc4 := fun u => (World.cell?_of_block (a := ⟨b2, off2 + k, none⟩) (Below.heap_alloc wr u b2 (World.block_lt_of_cell? wr _ hc3))).trans hc3
      clear hr hxd hz' HK
      go_wp2_with fail
      have hc5 := hc4 (.cells #[.int .i64 a, .int .i64 d] 212)
      rw [← hxb]
      generalize wr.alloc (.cells #[.int .i64 a, .int .i64 d] 212) = wa at *
      clear hxb hc4 hc3 hc1 hc2
      have x0 := (cells_of_block HXB.out 0).1
      have x1 := (cells_of_block HXB.out 1).1
      simp at x0 x1
      refine wp_region_held_drew (S := fun W => W.cell? ⟨xb, 0, none⟩ = some (.int .i64 a) ∧ W.cell? ⟨xb, 1, none⟩ = some (.int .i64 d) ∧ W.cell? ⟨b2, off2 + k, none⟩ = some (.int .u64 x)) (by kernel_rfl) ⟨x0, x1, hc5⟩ (fun hH => ?_)
      refine takeH 0 (v := ?_) rfl (by kernel_rfl) (by kernel_rfl) (by kernel_rfl) (fun _ _ _ h => h) (by rfl) ?_ (by assumption) ?_
      rotate_left
      · intro W hW
        go_simp
        try with_reducible rfl
      try simp only [Act.put, List.setIfInBounds_toArray, List.set_cons_zero, List.set_cons_succ]
      refine takeH 1 (v := ?_) rfl (by kernel_rfl) (by kernel_rfl) (by kernel_rfl) (fun _ _ _ h => h) (by rfl) ?_ (by assumption) ?_
      rotate_left
      · intro W hW
        go_simp
        try with_reducible rfl
      try simp only [Act.put, List.setIfInBounds_toArray, List.set_cons_zero, List.set_cons_succ]
      refine takeH 2 (v := ?_) rfl (by kernel_rfl) (by kernel_rfl) (by kernel_rfl) (fun _ _ _ h => h) (by rfl) ?_ (by assumption) ?_
      rotate_left
      · intro W hW
        go_simp
        try with_reducible rfl
      try simp only [Act.put, List.setIfInBounds_toArray, List.set_cons_zero, List.set_cons_succ]
      refine takeH 3 (v := ?_) rfl (by kernel_rfl) (by kernel_rfl) (by kernel_rfl) (fun _ _ _ h => h) (by rfl) ?_ (by assumption) ?_
      rotate_left
      · intro W hW
        go_simp
        try with_reducible rfl
      try simp only [Act.put, List.setIfInBounds_toArray, List.set_cons_zero, List.set_cons_succ]
      refine takeH 4 (v := ?_) rfl (by kernel_rfl) (by kernel_rfl) (by kernel_rfl) (fun _ _ _ h => h) (by rfl) ?_ (by assumption) ?_
      rotate_left
      · intro W hW
        go_simp
        try with_reducible rfl
      try simp only [Act.put, List.setIfInBounds_toArray, List.set_cons_zero, List.set_cons_succ]
      refine takeH 5 (v := ?_) rfl (by kernel_rfl) (by kernel_rfl) (by kernel_rfl) (fun _ _ _ h => h) (by rfl) ?_ (by assumption) ?_
      rotate_left
      · intro W hW
        go_simp
        try with_reducible rfl
      try simp only [Act.put, List.setIfInBounds_toArray, List.set_cons_zero, List.set_cons_succ]
      refine wpAnyH_ready (rs := [6]) (by kernel_rfl) (by simp) (readyH rfl (fun K hK => ?_) AllReadyH.nil)
      rw [if_pos (by rfl)]
      go_simp
      refine (HPUT.out _).mono ?_
      rintro e w2 ⟨rfl, hb2⟩
      have hk2 : w2.heap[xb]? = wa.heap[xb]? := hb2.block xb (Array.getElem?_eq_some_iff.1 HXB.out).1
      have y0 := (World.cell?_of_block (a := ⟨xb, 0, none⟩) hk2).trans x0
      have y1 := (World.cell?_of_block (a := ⟨xb, 1, none⟩) hk2).trans x1
      have hk3 : w2.heap[b2]? = wa.heap[b2]? := hb2.block b2 (World.block_lt_of_cell? wa _ hc5)
      have y2 := (World.cell?_of_block (a := ⟨b2, off2 + k, none⟩) hk3).trans hc5
      have HB2 : Hid (Below w.heap.size w w2) := by
        have h1 := HBA.out.size
        have h2 : Below wa.heap.size wa w2 := ⟨hb2.os, hb2.tape, hb2.output, hb2.size, hb2.block⟩
        exact HBA.out.trans (h2.mono h1)
      clear hb2 hk2 hk3
      refine hK.out _ _ ⟨y0, y1, y2⟩ (fun hH => ?_)
      clear hK K
      try simp only [Act.put, List.setIfInBounds_toArray, List.set_cons_zero, List.set_cons_succ]
      refine takeH 7 (v := ?_) rfl (by kernel_rfl) (by kernel_rfl) (by kernel_rfl) (fun _ _ _ h => h) (by rfl) ?_ (by assumption) ?_
      rotate_left
      · intro W hW
        go_simp
        try with_reducible rfl
      try simp only [Act.put, List.setIfInBounds_toArray, List.set_cons_zero, List.set_cons_succ]
      refine takeH 8 (v := ?_) rfl (by kernel_rfl) (by kernel_rfl) (by kernel_rfl) (fun _ _ _ h => h) (by rfl) ?_ (by assumption) ?_
      rotate_left
      · intro W hW
        go_simp
        try with_reducible rfl
      try simp only [Act.put, List.setIfInBounds_toArray, List.set_cons_zero, List.set_cons_succ]
      refine takeH 9 (v := ?_) rfl (by kernel_rfl) (by kernel_rfl) (by kernel_rfl) (fun _ _ _ h => h) (by rfl) ?_ (by assumption) ?_
      rotate_left
      · intro W hW
        go_simp
        try with_reducible rfl
      try simp only [Act.put, List.setIfInBounds_toArray, List.set_cons_zero, List.set_cons_succ]
      refine takeH 10 (v := ?_) rfl (by kernel_rfl) (by kernel_rfl) (by kernel_rfl) (fun _ _ _ h => h) (by rfl) ?_ (by assumption) ?_
      rotate_left
      · intro W hW
        go_simp
        try with_reducible rfl
      try simp only [Act.put, List.setIfInBounds_toArray, List.set_cons_zero, List.set_cons_succ]
      refine takeH 11 (v := ?_) rfl (by kernel_rfl) (by kernel_rfl) (by kernel_rfl) (fun _ _ _ h => h) (by rfl) ?_ (by assumption) ?_
      rotate_left
      · intro W hW
        go_simp
        try with_reducible rfl
      try simp only [Act.put, List.setIfInBounds_toArray, List.set_cons_zero, List.set_cons_succ]
      refine wpAnyH_done (by kernel_rfl) ?_ _
      go_wp2_with fail
      go_roundw
      case rel => exact ⟨k + 1, z', by omega, by go_num, rfl, hzl, HK', HB2⟩
      case measure => simp [intOf]; omega
    · have hlt' : ¬ (k : Int) < (n : Int) := by omega
      have HZ : Hid (packN 0 fs xs = z) := by
        have h1 : fs.drop k = [] := by have := HL.out; apply List.drop_eq_nil_of_le; omega
        show _ = _
        rw [← HK.out, h1]; rfl
      go_wp2
      go_ret2
      exact ⟨by rw [HZ.out]; rfl, HB.out⟩
def _root_.Go.Tr.unpackL (W : Nat) (fs : List (Nat × Nat)) : List Nat := fs.map fun f => W / 2 ^ f.1 % 2 ^ f.2
theorem and_mask {W : Nat} {f : Nat × Nat} (hr : RightF f) : (W &&& maskN f) / 2 ^ f.1 = W / 2 ^ f.1 % 2 ^ f.2 := by
  apply Nat.eq_of_testBit_eq
  intro i
  rw [Nat.testBit_div_two_pow, Nat.testBit_and, Nat.testBit_mod_two_pow, Nat.testBit_div_two_pow, maskN, Nat.testBit_mul_two_pow, Nat.testBit_two_pow_sub_one]
  by_cases hi : i < f.2
  · simp [hi, Nat.add_comm]
  · simp [hi, Nat.add_comm]
theorem infoU64f : (Tryz.prog.info? 34).map (fun i => (i.zero, i.size, i.bytes)) = some (some (.int .u64 0), 1, 8) := by kernel_rfl
set_option maxRecDepth 100000 in
theorem funpack_any (W : Nat) (fs : List (Nat × Nat)) (la : Option Addr) (n c : Nat) (w : World) (hW : W < 18446744073709551616) (h : SeqAt w la (pcells fs)) (hl : fs.length = n) (hn : n ≤ 1000) (ho : okL 0 fs) : Calls Tryz.prog 79 #[.int .u64 W, .slice la n c] w fun e w' => ∃ v, e = .returned (.tuple #[v, .int .i64 0]) ∧ OwnO w' 1 v n (us (unpackL W fs)) ∧ Below w.heap.size w w' := by
  obtain ⟨i0, hi, hz0, hz1, hz2⟩ := info_parts infoU64f
  have HAP := Lib.hid (fapart_any fs la n c w h hl hn ho)
  have HS := Lib.hid h
  have HO := Lib.hid (okL_right ho)
  have HL := Lib.hid hl
  clear h ho hl
  go_enter Tryz.func79, Tryz.ntmps79
  go_wp2_with fail
  refine HAP.out.mono ?_
  rintro e w1 ⟨rfl, hb1⟩
  have HB1 := Lib.hid hb1
  clear hb1
  go_wp2_with fail
  go_loopw [6, 14] (fun v i wr => ∃ k : Nat, k ≤ n ∧ i = .int .i64 (k : Int) ∧ Hid (OwnO wr 1 v k (us (unpackL W (fs.take k)))) ∧ Hid (∀ q, v.ownBlock = some q → w.heap.size ≤ q) ∧ Hid (Below w.heap.size w wr)) (fun _ i _ => n - (intOf i).toNat)
  case atStart => exact ⟨0, Nat.zero_le _, rfl, OwnO.nil _ _, fun q hq => by simp [Value.ownBlock] at hq, HB1⟩
  case round =>
    obtain ⟨k, hk, rfl, HV, HN, HB⟩ := hrel
    by_cases hlt : k < n
    · have hlt' : (k : Int) < (n : Int) := by omega
      obtain ⟨b, off, a, d, rfl, hc1, hc2, HP⟩ := (HS.out.below HB.out (Nat.le_refl _)).part (k := k) (by rw [HL.out]; exact hlt)
      have hr := HO.out _ (List.mem_of_getElem? HP.out)
      have hml := maskN_lt hr
      obtain ⟨m, hm⟩ : ∃ m, m = maskN (a, d) := ⟨_, rfl⟩
      have HMK : Hid (∀ W, Calls Tryz.prog 126 #[.agg #[.int .i64 a, .int .i64 d]] W fun e w' => e = .returned (.int .u64 (m : Nat)) ∧ Below W.heap.size W w') := fun W => by rw [hm]; exact fmask_any a d W hr
      rw [← hm] at hml
      have hand : bits .and .u64 (W : Int) (m : Int) = ((W &&& m : Nat) : Int) := u64_and_nat _ _ hW hml
      obtain ⟨z, hz⟩ : ∃ z, z = W &&& m := ⟨_, rfl⟩
      have hzd : ((z : Int) / 2 ^ a) = ((z / 2 ^ a : Nat) : Int) := div_val z a
      obtain ⟨y, hy⟩ : ∃ y, y = z / 2 ^ a := ⟨_, rfl⟩
      have hyv : y = W / 2 ^ a % 2 ^ d := by rw [hy, hz, hm]; exact and_mask hr
      rw [← hz] at hand
      rw [← hy] at hzd
      have HNX : Hid (us (unpackL W (fs.take k)) ++ [.int .u64 (y : Int)] = us (unpackL W (fs.take (k + 1)))) := by
        show _ = _
        rw [take_next HP.out, unpackL, unpackL, List.map_append, hyv]
        simp [us, uv]
      have ha : a < 64 := hr.1
      have k2 : (0 : Int) ≤ (a : Int) := by omega
      have hvlt := HV.out.lt
      have HBA : Hid (Below w.heap.size w (wr.alloc (.cells #[.int .i64 a, .int .i64 d] 212))) := HB.out.alloc HB.out.size _
      have HVA : Hid (OwnO (wr.alloc (.cells #[.int .i64 a, .int .i64 d] 212)) 1 u6 k (us (unpackL W (fs.take k)))) := HV.out.kept (fun q hq => Below.heap_alloc _ _ _ (hvlt q hq))
      obtain ⟨xb, hxb⟩ : ∃ xb, xb = wr.heap.size := ⟨_, rfl⟩
      have HXB : Hid ((wr.alloc (.cells #[.int .i64 a, .int .i64 d] 212)).heap[xb]? = some (.cells #[.int .i64 a, .int .i64 d] 212 (0, 0))) := by rw [hxb]; exact heap_alloc_new _ _
      have HXN : Hid (∀ q, u6.ownBlock = some q → q ≠ xb) := fun q hq e => by have := hvlt q hq; omega
      clear hr hm hml hz hy hyv HV
      go_wp2_with fail
      rw [← hxb]
      generalize wr.alloc (.cells #[.int .i64 a, .int .i64 d] 212) = wa at *
      clear hxb hvlt hc1 hc2
      have x0 := (cells_of_block HXB.out 0).1
      have x1 := (cells_of_block HXB.out 1).1
      simp at x0 x1
      obtain ⟨va, vc, rfl, -, -, -⟩ := HVA.out.seq
      refine wp_region_held_drew (S := fun W => W.cell? ⟨xb, 0, none⟩ = some (.int .i64 a) ∧ W.cell? ⟨xb, 1, none⟩ = some (.int .i64 d)) (by kernel_rfl) ⟨x0, x1⟩ (fun hH => ?_)
      refine takeH 0 (v := ?_) rfl (by kernel_rfl) (by kernel_rfl) (by kernel_rfl) (fun _ _ _ h => h) (by rfl) ?_ (by assumption) ?_
      rotate_left
      · intro W hW
        go_simp
        try with_reducible rfl
      try simp only [Act.put, List.setIfInBounds_toArray, List.set_cons_zero, List.set_cons_succ]
      refine takeH 1 (v := ?_) rfl (by kernel_rfl) (by kernel_rfl) (by kernel_rfl) (fun _ _ _ h => h) (by rfl) ?_ (by assumption) ?_
      rotate_left
      · intro W hW
        go_simp
        try with_reducible rfl
      try simp only [Act.put, List.setIfInBounds_toArray, List.set_cons_zero, List.set_cons_succ]
      refine takeH 2 (v := ?_) rfl (by kernel_rfl) (by kernel_rfl) (by kernel_rfl) (fun _ _ _ h => h) (by rfl) ?_ (by assumption) ?_
      rotate_left
      · intro W hW
        go_simp
        try with_reducible rfl
      try simp only [Act.put, List.setIfInBounds_toArray, List.set_cons_zero, List.set_cons_succ]
      refine takeH 5 (v := ?_) rfl (by kernel_rfl) (by kernel_rfl) (by kernel_rfl) (fun _ _ _ h => h) (by rfl) ?_ (by assumption) ?_
      rotate_left
      · intro W hW
        go_simp
        try with_reducible rfl
      try simp only [Act.put, List.setIfInBounds_toArray, List.set_cons_zero, List.set_cons_succ]
      refine takeH 6 (v := ?_) rfl (by kernel_rfl) (by kernel_rfl) (by kernel_rfl) (fun _ _ _ h => h) (by rfl) ?_ (by assumption) ?_
      rotate_left
      · intro W hW
        go_simp
        try with_reducible rfl
      try simp only [Act.put, List.setIfInBounds_toArray, List.set_cons_zero, List.set_cons_succ]
      refine wpAnyH_ready (rs := [3]) (by kernel_rfl) (by simp) (readyH rfl (fun K hK => ?_) AllReadyH.nil)
      rw [if_pos (by rfl)]
      go_simp
      refine (HMK.out _).mono ?_
      rintro e w2 ⟨rfl, hb2⟩
      have hk2 : w2.heap[xb]? = wa.heap[xb]? := hb2.block xb (Array.getElem?_eq_some_iff.1 HXB.out).1
      have y0 := (World.cell?_of_block (a := ⟨xb, 0, none⟩) hk2).trans x0
      have y1 := (World.cell?_of_block (a := ⟨xb, 1, none⟩) hk2).trans x1
      have HB2 : Hid (Below w.heap.size w w2) := by
        have h1 := HBA.out.size
        have h2 : Below wa.heap.size wa w2 := ⟨hb2.os, hb2.tape, hb2.output, hb2.size, hb2.block⟩
        exact HBA.out.trans (h2.mono h1)
      have HV2 : Hid (OwnO w2 1 (.slice va k vc) k (us (unpackL W (fs.take k)))) := HVA.out.kept (fun q hq => hb2.block q (HVA.out.lt q hq))
      clear hb2 hk2
      refine hK.out _ _ ⟨y0, y1⟩ (fun hH => ?_)
      clear hK K
      try simp only [Act.put, List.setIfInBounds_toArray, List.set_cons_zero, List.set_cons_succ]
      refine takeH 4 (v := ?_) rfl (by kernel_rfl) (by kernel_rfl) (by kernel_rfl) (fun _ _ _ h => h) (by rfl) ?_ (by assumption) ?_
      rotate_left
      · intro W hW
        go_simp
        try with_reducible rfl
      try simp only [Act.put, List.setIfInBounds_toArray, List.set_cons_zero, List.set_cons_succ]
      refine takeH 7 (v := ?_) rfl (by kernel_rfl) (by kernel_rfl) (by kernel_rfl) (fun _ _ _ h => h) (by rfl) ?_ (by assumption) ?_
      rotate_left
      · intro W hW
        go_simp
        try with_reducible rfl
      try simp only [Act.put, List.setIfInBounds_toArray, List.set_cons_zero, List.set_cons_succ]
      refine wpAnyH_ready (rs := [8]) (by kernel_rfl) (by simp) (readyH rfl (fun K hK => ?_) AllReadyH.nil)
      rw [if_pos (by rfl)]
      go_simp
      have hxl2 : xb < w2.heap.size := World.block_lt_of_cell? w2 _ y0
      refine hK.out _ _ ⟨(World.cell?_alloc_lt _ _ _ hxl2).trans hH.1, (World.cell?_alloc_lt _ _ _ hxl2).trans hH.2⟩ (fun hH => ?_)
      clear hK K
      try simp only [Act.put, List.setIfInBounds_toArray, List.set_cons_zero, List.set_cons_succ]
      refine wpAnyH_ready (rs := [9]) (by kernel_rfl) (by simp) (readyH rfl (fun K hK => ?_) AllReadyH.nil)
      rw [if_pos (by rfl)]
      refine wpO_appendO _ (.tmp 18) (.tmp 26) 35 rfl 34 i0 _ 1 8 Tryz.underlying35 hi hz0 hz1 hz2 rfl (by decide) (.slice va k vc) k (us (unpackL W (fs.take k))) rfl (HV2.out.kept ?hkept) ⟨w2.heap.size, 0, none⟩ 1 1 [.int .u64 (y : Int)] rfl rfl ?hn ?h1 ?h63 ?hby ?_
      case hkept => exact fun k hk => Below.heap_alloc _ _ _ (HV2.out.lt k hk)
      case hn =>
        intro j u hj
        rcases j with _ | j
        · simp at hj; subst hj; simp [Addr.add]
        · simp at hj
      case h1 => intro u hu; simp at hu; subst hu; rfl
      case h63 => unfold maxLen; omega
      case hby => omega
      intro v4 w4 r1 r2 r3
      rw [HNX.out] at r1
      have HV4 := Lib.hid r1
      have HB4 : Hid (Below w.heap.size w w4) := (HB2.out.alloc HB2.out.size _).grown r2 (by have := HB2.out.size; simp; omega) (fun q hq => HN.out q hq)
      have HN4 : Hid (∀ q, v4.ownBlock = some q → w.heap.size ≤ q) := fun q hq => by
        rcases r3 q hq with h' | h'
        · exact HN.out q h'
        · have h1 := h'.1
          have h2 := HB2.out.size
          simp at h1
          omega
      have hk4 : w4.heap[xb]? = w2.heap[xb]? := (r2.block xb (by simp; omega) (fun e => HXN.out xb e.symm rfl)).trans (Below.heap_alloc _ _ _ hxl2)
      have z0 := (World.cell?_of_block (a := ⟨xb, 0, none⟩) hk4).trans y0
      have z1 := (World.cell?_of_block (a := ⟨xb, 1, none⟩) hk4).trans y1
      clear r1 r2 r3 hk4
      refine hK.out _ _ ⟨z0, z1⟩ (fun hH => ?_)
      clear hK K
      try simp only [Act.put, List.setIfInBounds_toArray, List.set_cons_zero, List.set_cons_succ]
      refine takeH 10 (v := ?_) rfl (by kernel_rfl) (by kernel_rfl) (by kernel_rfl) (fun _ _ _ h => h) (by rfl) ?_ (by assumption) ?_
      rotate_left
      · intro W hW
        go_simp
        try with_reducible rfl
      try simp only [Act.put, List.setIfInBounds_toArray, List.set_cons_zero, List.set_cons_succ]
      refine wpAnyH_done (by kernel_rfl) ?_ _
      go_wp2_with fail
      go_roundw
      case rel => exact ⟨k + 1, by omega, by go_num, HV4, HN4, HB4⟩
      case measure => simp [intOf]; omega
    · have hlt' : ¬ (k : Int) < (n : Int) := by omega
      have HV5 : Hid (OwnO wr 1 u6 n (us (unpackL W fs))) := by
        have hkn : k = n := by omega
        have := HV.out
        rw [List.take_of_length_le (by rw [HL.out]; omega), hkn] at this
        exact this
      go_wp2
      go_ret2
      exact ⟨_, rfl, HV5.out, HB.out⟩
end Go.Proofs.YtcdpnfchmpncjaaGreatDoor
namespace Go.Tr
open Go.RowKit
def hfs : List (Nat × Nat) := [(0, 16), (16, 16), (32, 8), (40, 16), (56, 8)]
def lfs : List (Nat × Nat) := [(0, 32), (32, 32)]
def hdrN (slot count layout : Nat) : Nat := slot + count * 2 ^ 16 + layout * 2 ^ 32 + 165 * 2 ^ 56
def linkN (idx gen : Nat) : Nat := (idx + 2) + gen * 2 ^ 32
theorem putN_add {v a d x : Nat} (h : RightF (a, d)) (hv : v < 2 ^ a) : putN v (a, d) x = v + x * 2 ^ a := by
  have ha : a < 64 := h.1
  have hml := maskN_lt h
  have h1 : v &&& (18446744073709551615 - maskN (a, d)) = v := by
    apply Nat.eq_of_testBit_eq
    intro i
    rw [Nat.testBit_and]
    by_cases hi : i < a
    · have h2 : (18446744073709551615 - maskN (a, d)).testBit i = true := by
        rw [show 18446744073709551615 - maskN (a, d) = 2 ^ 64 - (maskN (a, d) + 1) by omega, Nat.testBit_two_pow_sub_succ (by simpa using hml)]
        rw [maskN, Nat.testBit_mul_two_pow]
        simp; omega
      rw [h2, Bool.and_true]
    · have h2 : v.testBit i = false := Nat.testBit_lt_two_pow (Nat.lt_of_lt_of_le hv (Nat.pow_le_pow_right (by decide) (by omega)))
      rw [h2, Bool.false_and]
  rw [putN, h1, Nat.or_comm]
  show x * 2 ^ a ||| v = _
  rw [Nat.mul_comm, ← Nat.two_pow_add_eq_or_of_lt hv, Nat.add_comm]
theorem hdr_pack {slot count layout : Nat} (h1 : slot < 65536) (h2 : count < 65536) (h3 : layout < 256) : packN 0 hfs [slot, count, layout, 0, 165] = hdrN slot count layout := by
  show putN (putN (putN (putN (putN 0 (0, 16) slot) (16, 16) count) (32, 8) layout) (40, 16) 0) (56, 8) 165 = _
  have r : ∀ a d, a < 64 → 0 < d → d ≤ 64 - a → RightF (a, d) := fun a d h1 h2 h3 => ⟨h1, h2, h3⟩
  rw [putN_add (r 0 16 (by decide) (by decide) (by decide)) (by decide), putN_add (r 16 16 (by decide) (by decide) (by decide)) (by omega), putN_add (r 32 8 (by decide) (by decide) (by decide)) (by omega), putN_add (r 40 16 (by decide) (by decide) (by decide)) (by omega), putN_add (r 56 8 (by decide) (by decide) (by decide)) (by omega)]
  unfold hdrN
  omega
theorem hdr_unpack {slot count layout : Nat} (h1 : slot < 65536) (h2 : count < 65536) (h3 : layout < 256) : unpackL (hdrN slot count layout) hfs = [slot, count, layout, 0, 165] := by
  unfold hdrN
  simp only [unpackL, hfs, List.map_cons, List.map_nil]
  congr 1
  · omega
  congr 1
  · omega
  congr 1
  · omega
  congr 1
  · omega
  congr 1
  omega
theorem hdr_lt {slot count layout : Nat} (h1 : slot < 65536) (h2 : count < 65536) (h3 : layout < 256) : hdrN slot count layout < 18446744073709551616 := by unfold hdrN; omega
theorem link_pack {i g : Nat} (h1 : i < 4096) (h2 : g < 256) : packN 0 lfs [i + 2, g] = linkN i g := by
  show putN (putN 0 (0, 32) (i + 2)) (32, 32) g = _
  have r : ∀ a d, a < 64 → 0 < d → d ≤ 64 - a → RightF (a, d) := fun a d h1 h2 h3 => ⟨h1, h2, h3⟩
  rw [putN_add (r 0 32 (by decide) (by decide) (by decide)) (by decide), putN_add (r 32 32 (by decide) (by decide) (by decide)) (by omega)]
  unfold linkN
  omega
theorem link_unpack {i g : Nat} (h1 : i < 4096) (h2 : g < 256) : unpackL (linkN i g) lfs = [i + 2, g] := by
  unfold linkN
  simp only [unpackL, lfs, List.map_cons, List.map_nil]
  congr 1
  · omega
  congr 1
  omega
end Go.Tr
namespace Go.Proofs.YtcdpnfchmpncjaaGreatDoor
open Go.RowKit Go.Tr Go.Shelf
variable {w w' : World}
theorem hfs_ok : okL 0 hfs := by
  refine ⟨⟨by decide, by decide, by decide⟩, by decide, ⟨by decide, by decide, by decide⟩, by decide, ⟨by decide, by decide, by decide⟩, by decide, ⟨by decide, by decide, by decide⟩, by decide, ⟨by decide, by decide, by decide⟩, by decide, trivial⟩
theorem lfs_ok : okL 0 lfs := by
  refine ⟨⟨by decide, by decide, by decide⟩, by decide, ⟨by decide, by decide, by decide⟩, by decide, trivial⟩
set_option maxRecDepth 100000 in
theorem hfields_any (w : World) : Calls Tryz.prog 177 #[] w fun e w' => e = .returned (.slice (some ⟨w.heap.size, 0, none⟩) 5 5) ∧ w' = w.alloc (.cells (pcells hfs).toArray 212) := by
  go_enter Tryz.func177, Tryz.ntmps177
  go_wp2
  go_ret
  exact ⟨rfl, rfl⟩
set_option maxRecDepth 100000 in
theorem hlinks_any (w : World) : Calls Tryz.prog 184 #[] w fun e w' => e = .returned (.slice (some ⟨w.heap.size, 0, none⟩) 2 2) ∧ w' = w.alloc (.cells (pcells lfs).toArray 212) := by
  go_enter Tryz.func184, Tryz.ntmps184
  go_wp2
  go_ret
  exact ⟨rfl, rfl⟩
set_option maxRecDepth 100000 in
theorem hmay_any (layout count slot : Nat) (w : World) (h1 : 1 ≤ layout) (h2 : layout ≤ 64) (h3 : count ≤ 1024) (h4 : slot < 4096) : Calls Tryz.prog 175 #[.agg #[.int .i64 layout, .int .i64 count, .int .i64 slot]] w fun e w' => e = .returned (.bool true) ∧ Below w.heap.size w w' := by
  have k1 : (1 : Int) ≤ (layout : Int) := by omega
  have k2 : (layout : Int) ≤ 64 := by omega
  have k3 : (0 : Int) ≤ (count : Int) := by omega
  have k4 : (count : Int) ≤ 1024 := by omega
  have k5 : (0 : Int) ≤ (slot : Int) := by omega
  have k6 : (slot : Int) < 4096 := by omega
  go_enter Tryz.func175, Tryz.ntmps175
  go_wp2
  go_ret
  exact ⟨rfl, (Below.refl _ w).alloc (Nat.le_refl _) _⟩
set_option maxRecDepth 100000 in
theorem halive_any (idx gen : Nat) (w : World) (h1 : idx < 4096) (h2 : 1 ≤ gen) (h3 : gen ≤ 255) : Calls Tryz.prog 183 #[.agg #[.int .i64 idx, .int .i64 gen]] w fun e w' => e = .returned (.bool true) ∧ Below w.heap.size w w' := by
  have k1 : (0 : Int) ≤ (idx : Int) := by omega
  have k2 : (idx : Int) < 4096 := by omega
  have k3 : (1 : Int) ≤ (gen : Int) := by omega
  have k4 : (gen : Int) ≤ 255 := by omega
  go_enter Tryz.func183, Tryz.ntmps183
  go_wp2
  go_ret
  exact ⟨rfl, (Below.refl _ w).alloc (Nat.le_refl _) _⟩
end Go.Proofs.YtcdpnfchmpncjaaGreatDoor
