/-
  Parts of the proof, one behind the other: KEvac4, KEvac5.
-/
import Derived.Test.YtcdpnfchmpncjaaGreatDoorMa34
set_option linter.unusedSimpArgs false
set_option linter.unusedVariables false
namespace Go.Proofs.YtcdpnfchmpncjaaGreatDoor
open Go.RowKit Go.Tr Go.Shelf
variable {w w' : World} {F G : Nat → Prop} {A : Ad} {S S1 : HS}
theorem SeqAt.lt0 {b off k : Nat} {zs : List Int} {x : Int} (h : SeqAt w (some ⟨b, off, none⟩) (ints zs)) (hx : zs[k]? = some x) : b < w.heap.size := by
  obtain ⟨b2, o2, z, e, hc, -⟩ := h.ints (k := k) (List.getElem?_eq_some_iff.1 hx).1
  cases e
  exact World.block_lt_of_cell? w _ hc
def LkSt (w : World) (F : Nat → Prop) (A : Ad) (S3 : HS) (g0 : GS) (zs : List Int) (a1 : Option Addr) (k : Nat) (wr : World) : Prop := ∃ F', Run w F wr F' A { S3 with gs := g0.put (zs.take k) } ∧ SeqAt wr a1 (ints zs) ∧ ∀ b o, a1 = some ⟨b, o, none⟩ → ¬ F' b
set_option maxRecDepth 100000 in
set_option maxHeartbeats 8000000 in
theorem elook_any {x : Sl} {i count : Nat} (o : Nat → Option (Nat × Nat)) (w : World) (h : HeapF w F A S) (hon : S.on = true) (hs : SpOk S.ps) (ho : ObjOk S i x count) (hpn : x.pinned = false) (hsm : S.gs.Small 500000)
    (hroom : (bigPart S.ps (x.addr / S.Wd) || !hasL (chunksL S.ps) ((x.addr / S.Wd : Nat) : Int)) = false → RoomTo S (S.L.size count + 1))
    (hmv : ∀ addr S1, AllocTo S (S.L.size count + 1) addr S1 → MvOk S1 addr x.addr count i)
    (haf : ∀ S2, MovedSt S i x (S.L.size count + 1) S2 → ∃ x2, ObjOk S2 i x2 count ∧ (∀ p ∈ slotsL S.L count, LkOk (o p) ∧ S2.ws.getD (x2.addr + 1 + p) 0 = lkN (o p)) ∧ ∀ z ∈ tgt (refsL S.L count o), ∃ (j : Nat) (y : Sl), z = (j : Int) ∧ S2.sl[j]? = some y ∧ y.used = true ∧ y.region = 1) :
    Calls Tryz.prog 60 #[.pointer (some ⟨A.h, 0, none⟩), .int .i64 i] w fun e w' => e = .returned (.tuple #[.int .i64 (S.L.size count + 1 : Nat), .int .i64 0]) ∧ ∃ S2, MovedSt S i x (S.L.size count + 1) S2 ∧ HeapF w' (grow F w w') A { S2 with gs := (S2.gs.paint i).put (tgt (refsL S.L count o)) } ∧ Only F w w' := by
  have HRUN := Lib.hid (Run.start h)
  have HLT := Lib.hid h.lt
  have HEN := Lib.hid (eentry_any w h ho.sl ho.used)
  have HE := Lib.hid (fun W (hb : Below w.heap.size w W) => h.evf hon hb)
  have HF := Lib.hid (fun W (hb : Below w.heap.size w W) => h.fields hb)
  have HAT := Lib.hid (fun W (hb : Below w.heap.size w W) => h.iat ho hb)
  obtain ⟨xg, xu, xa, xr, xh, xp⟩ := x
  simp only at hpn hroom hmv haf ⊢
  subst hpn
  have HST := Lib.hid (fun W (hb : Below w.heap.size w W) => estays_any xa xr xh W (h.below hb) hon hs ho.big)
  obtain ⟨sb, hsb⟩ : ∃ sb, sb = (bigPart S.ps (xa / S.Wd) || !hasL (chunksL S.ps) ((xa / S.Wd : Nat) : Int)) := ⟨_, rfl⟩
  rw [← hsb] at hroom HST
  obtain ⟨z, hz⟩ : ∃ z, z = S.L.size count := ⟨_, rfl⟩
  rw [← hz] at hroom hmv haf ⊢
  have HAL : Hid (sb = false → ∀ W, HeapF W F A S → _) := fun hb W hr => hr.allocTo hon (hroom hb)
  have HMS : Hid (∀ S2, (sb = true ∧ S2 = S) ∨ (sb = false ∧ ∃ addr S1, AllocTo S (z + 1) addr S1 ∧ S2 = { S1 with ws := putAt S1.ws addr ((S1.ws.drop xa).take (z + 1)), sl := S1.sl.set i ⟨xg, xu, addr, xr, xh, false⟩ }) → MovedSt S i ⟨xg, xu, xa, xr, xh, false⟩ (z + 1) S2) := fun S2 h2 => by
    unfold MovedSt
    simp only
    rw [← hsb]
    exact h2
  simp only [← hz] at HAT
  simp only [entryV] at HEN
  have HE1 := Lib.hid (fun W F1 (S1 : HS) (ho : S1.on = true) (hr : HeapF W F1 A S1) => hr.evf ho (Below.refl _ _))
  have HF1 := Lib.hid (fun W F1 S1 (hr : HeapF W F1 A S1) => hr.fields (Below.refl _ _))
  have HON : Hid (S.on = true) := hon
  have HMV : Hid (∀ W F1 addr S1, AllocTo S (z + 1) addr S1 → HeapF W F1 A S1 → Calls Tryz.prog 110 #[.pointer (some ⟨A.m, 0, none⟩), .int .i64 addr, .int .i64 xa] W fun e w' => e = .returned (.tuple #[.int .i64 (z + 1 : Nat), .int .i64 0]) ∧ HeapF w' (grow F1 W w') A { S1 with ws := putAt S1.ws addr ((S1.ws.drop xa).take (z + 1)) } ∧ Only F1 W w') := fun W F1 addr S1 ha hr => by
    have e : S1.L.size count = S.L.size count := by rw [ha.same.2.2.2.1]
    have := hr.move (hmv addr S1 ha)
    rw [e, ← hz] at this
    exact this
  have HSET : Hid (∀ W F1 addr S1, AllocTo S (z + 1) addr S1 → sb = false → HeapF W F1 A { S1 with ws := putAt S1.ws addr ((S1.ws.drop xa).take (z + 1)) } → Calls Tryz.prog 41 #[.pointer (some ⟨A.t, 0, none⟩), .agg #[.int .i64 i, .int .i64 xg], .agg #[.int .i64 addr, .int .i64 xr, .bool xh, .bool false]] W fun e w' => e = .returned (.int .i64 0) ∧ ∃ S2, MovedSt S i ⟨xg, xu, xa, xr, xh, false⟩ (z + 1) S2 ∧ HeapF w' (grow F1 W w') A S2 ∧ Only F1 W w') := fun W F1 addr S1 ha hs hr => by
    have e : S1.sl = S.sl := ha.same.2.2.2.2.1
    have hx := ho.sl
    rw [← e] at hx
    exact (hr.set (S := { S1 with ws := putAt S1.ws addr ((S1.ws.drop xa).take (z + 1)) }) hx ho.used addr xr xh false).mono fun e w' ⟨e1, e2⟩ => ⟨e1, _, HMS.out _ (Or.inr ⟨hs, addr, S1, ha, rfl⟩), e2⟩
  have HPT : Hid (∀ W F1 S2, MovedSt S i ⟨xg, xu, xa, xr, xh, false⟩ (z + 1) S2 → HeapF W F1 A S2 → Calls Tryz.prog 38 #[.pointer (some ⟨A.gl, 0, none⟩), .int .i64 i] W fun e w' => (∃ b, e = .returned (.bool b)) ∧ HeapF w' (grow F1 W w') A { S2 with gs := S2.gs.paint i } ∧ Only F1 W w') := fun W F1 S2 hm hr => by
    obtain ⟨-, -, -, -, -, -, h7, h8⟩ := hm.same
    exact hr.paint (by rw [h7]; exact hon) (by rw [h8]; exact hsm.mono (by omega)) i
  obtain ⟨zs, hzs⟩ : ∃ zs, zs = tgt (refsL S.L count o) := ⟨_, rfl⟩
  have HZL : Hid (zs.length ≤ 100000) := by
    obtain ⟨G, H, hi, -⟩ := h.img
    show _ ≤ _
    rw [hzs]
    refine Nat.le_trans (tgt_length _) ?_
    unfold refsL
    rw [List.length_map]
    exact slotsL_length hi.right ho.obj.cnt
  have HTG : Hid (∀ W F1 S2, MovedSt S i ⟨xg, xu, xa, xr, xh, false⟩ (z + 1) S2 → HeapF W F1 A { S2 with gs := S2.gs.paint i } → Calls Tryz.prog 111 #[.pointer (some ⟨A.c, 0, none⟩), .int .i64 i] W fun e w' => ∃ v, e = .returned v ∧ own3 w' 3 W.heap.size v zs ∧ Below W.heap.size W w') := fun W F1 S2 hm hr => by
    obtain ⟨x2, h1, h2, -⟩ := haf S2 hm
    have e : S2.L = S.L := hm.same.2.2.2.1
    rw [← e] at h2
    rw [hzs, ← e]
    exact ctargets_any (S := { S2 with gs := S2.gs.paint i }) o W hr ⟨h1.sl, h1.used, h1.obj, h1.big, h1.fit, h1.own⟩ h2
  have HEL : Hid (∀ S2, MovedSt S i ⟨xg, xu, xa, xr, xh, false⟩ (z + 1) S2 → ∀ z ∈ zs, ∃ (j : Nat) (y : Sl), z = (j : Int) ∧ S2.sl[j]? = some y ∧ y.used = true ∧ y.region = 1) := fun S2 hm => by
    obtain ⟨x2, h1, h2, h3⟩ := haf S2 hm
    rw [hzs]
    exact h3
  have HGP : Hid (∀ W F1 S2 k, MovedSt S i ⟨xg, xu, xa, xr, xh, false⟩ (z + 1) S2 → k < zs.length → HeapF W F1 A { S2 with gs := (S2.gs.paint i).put (zs.take k) } → ∀ (x : Int), zs[k]? = some x → ∀ b W1, Below W.heap.size W W1 → W1.heap[b]? = some (.cells #[.int .i64 x] 3 (0, 0)) → W.heap.size ≤ b → Calls Tryz.prog 58 #[.pointer (some ⟨A.gl, 0, none⟩), .slice (some ⟨b, 0, none⟩) 1 1] W1 fun e w' => (∃ k, e = .returned (.int .i64 k)) ∧ HeapF w' (grow F1 W1 w') A { S2 with gs := (S2.gs.paint i).put (zs.take (k + 1)) } ∧ Only F1 W1 w') := fun W F1 S2 k hm hk hr x hx b W1 hb hbk hn => by
    obtain ⟨-, -, -, -, -, -, h7, h8⟩ := hm.same
    rw [take_snoc hx, put_snoc]
    have hl := HZL.out
    have hs : ((S2.gs.paint i).put (zs.take k)).Small 999999 := by
      rw [h8]
      refine (GS.Small.put (zs.take k) (hsm.paint i)).mono ?_
      rw [List.length_take]
      omega
    exact hr.gput (by simp only; rw [h7]; exact hon) hs x b hb hbk hn
  have HEN2 := Lib.hid (fun W F1 S1 (j : Nat) (y : Sl) (hr : HeapF W F1 A S1) (hj : S1.sl[j]? = some y) (hu : y.used = true) => eentry_any W hr hj hu)
  rw [← hzs]
  clear h hon hs ho hz hsb hzs hroom hmv haf hsm
  go_enter Tryz.func60, Tryz.ntmps60
  go_wp2_with fail
  refine HEN.out.mono ?_
  rintro e w1 ⟨rfl, hb1⟩
  have h2 := al2 w1 (.cells #[.int .i64 i, .int .i64 xg] 38) (.cells #[.int .i64 xa, .int .i64 xr, .bool xh, .bool false] 93)
  have HB2 : Hid (Below w.heap.size w ((w1.alloc (.cells #[.int .i64 i, .int .i64 xg] 38)).alloc (.cells #[.int .i64 xa, .int .i64 xr, .bool xh, .bool false] 93))) := hb1.trans (h2.1.mono hb1.size)
  have HT2 := Lib.hid h2.2.1
  have HX2 := Lib.hid h2.2.2
  obtain ⟨tb, htb⟩ : ∃ tb, tb = w1.heap.size := ⟨_, rfl⟩
  obtain ⟨xb, hxb⟩ : ∃ xb, xb = w1.heap.size + 1 := ⟨_, rfl⟩
  have HNE : Hid (w.heap.size ≤ tb ∧ w.heap.size ≤ xb ∧ tb ≠ xb) := by have := hb1.size; exact ⟨by omega, by omega, by omega⟩
  rw [← htb] at HT2
  rw [← hxb] at HX2
  clear hb1 h2
  go_wp2_with fail
  rw [← hxb, ← htb]
  clear htb hxb
  generalize (w1.alloc (.cells #[.int .i64 i, .int .i64 xg] 38)).alloc (.cells #[.int .i64 xa, .int .i64 xr, .bool xh, .bool false] 93) = w2 at *
  obtain ⟨n2, hn2⟩ : ∃ n, n = w2.heap.size := ⟨_, rfl⟩
  have HN2 : Hid (n2 = w2.heap.size) := hn2
  have HW2 : Hid (∀ W, Below n2 w2 W → Below w.heap.size w W) := fun W hb => by rw [hn2] at hb; exact HB2.out.trans (hb.mono HB2.out.size)
  clear hn2
  have HD : Hid (∀ W, Below n2 w2 W → W.cell? ⟨A.h, 0, none⟩ = some (.pointer (some ⟨A.c, 0, none⟩)) ∧ W.cell? ⟨A.c, 2, none⟩ = some (.pointer (some ⟨A.m, 0, none⟩)) ∧ W.cell? ⟨xb, 0, none⟩ = some (.int .i64 xa)) := fun W hb => by
    have ht := (hb.block xb (by rw [HN2.out]; exact block_lt HX2.out)).trans HX2.out
    exact ⟨(HE.out W (HW2.out W hb)).1, (HF.out W (HW2.out W hb)).2.2.1, (cells_of_block ht 0).1⟩
  refine wp_region_held_drew (S := Below n2 w2) (by kernel_rfl) (Below.refl n2 w2).drew (fun hH => ?_)
  refine tk 0 (v := ?_) rfl ?_ ?_; rotate_left; · intro W hW; obtain ⟨d0, d1, d2⟩ := HD.out W hW; go_simp; try with_reducible rfl
  try simp only [Act.put, List.setIfInBounds_toArray, List.set_cons_zero, List.set_cons_succ]
  refine tk 1 (v := ?_) rfl ?_ ?_; rotate_left; · intro W hW; obtain ⟨d0, d1, d2⟩ := HD.out W hW; go_simp; try with_reducible rfl
  try simp only [Act.put, List.setIfInBounds_toArray, List.set_cons_zero, List.set_cons_succ]
  refine tk 2 (v := ?_) rfl ?_ ?_; rotate_left; · intro W hW; obtain ⟨d0, d1, d2⟩ := HD.out W hW; go_simp; try with_reducible rfl
  try simp only [Act.put, List.setIfInBounds_toArray, List.set_cons_zero, List.set_cons_succ]
  refine tk 3 (v := ?_) rfl ?_ ?_; rotate_left; · intro W hW; obtain ⟨d0, d1, d2⟩ := HD.out W hW; go_simp; try with_reducible rfl
  try simp only [Act.put, List.setIfInBounds_toArray, List.set_cons_zero, List.set_cons_succ]
  refine tk 4 (v := ?_) rfl ?_ ?_; rotate_left; · intro W hW; obtain ⟨d0, d1, d2⟩ := HD.out W hW; go_simp; try with_reducible rfl
  try simp only [Act.put, List.setIfInBounds_toArray, List.set_cons_zero, List.set_cons_succ]
  refine tk 5 (v := ?_) rfl ?_ ?_; rotate_left; · intro W hW; obtain ⟨d0, d1, d2⟩ := HD.out W hW; go_simp; try with_reducible rfl
  try simp only [Act.put, List.setIfInBounds_toArray, List.set_cons_zero, List.set_cons_succ]
  refine tk 6 (v := ?_) rfl ?_ ?_; rotate_left; · intro W hW; obtain ⟨d0, d1, d2⟩ := HD.out W hW; go_simp; try with_reducible rfl
  try simp only [Act.put, List.setIfInBounds_toArray, List.set_cons_zero, List.set_cons_succ]
  refine tk 7 (v := ?_) rfl ?_ ?_; rotate_left; · intro W hW; obtain ⟨d0, d1, d2⟩ := HD.out W hW; go_simp; try with_reducible rfl
  try simp only [Act.put, List.setIfInBounds_toArray, List.set_cons_zero, List.set_cons_succ]
  refine tk 8 (v := ?_) rfl ?_ ?_; rotate_left; · intro W hW; obtain ⟨d0, d1, d2⟩ := HD.out W hW; go_simp; try with_reducible rfl
  try simp only [Act.put, List.setIfInBounds_toArray, List.set_cons_zero, List.set_cons_succ]
  refine rd2 9 14 rfl rfl (fun K hK => ?_) (fun K hK => ?_)
  focus
    go_simp
    refine (HAT.out _ (HW2.out _ hH)).mono ?_
    rintro e w3 ⟨rfl, hb3⟩
    have HB3 : Hid (Below n2 w2 w3) := hH.trans (hb3.mono (by rw [HN2.out]; exact hH.size))
    refine hK.out _ _ HB3.out (fun hH => ?_)
    clear hK K hb3
    refine tk 10 (v := ?_) rfl ?_ ?_; rotate_left; · intro W hW; go_simp; try with_reducible rfl
    try simp only [Act.put, List.setIfInBounds_toArray, List.set_cons_zero, List.set_cons_succ]
    refine tk 11 (v := ?_) rfl ?_ ?_; rotate_left; · intro W hW; go_simp; try with_reducible rfl
    try simp only [Act.put, List.setIfInBounds_toArray, List.set_cons_zero, List.set_cons_succ]
    refine tk 12 (v := ?_) rfl ?_ ?_; rotate_left; · intro W hW; go_simp; try with_reducible rfl
    try simp only [Act.put, List.setIfInBounds_toArray, List.set_cons_zero, List.set_cons_succ]
    refine tk 13 (v := ?_) rfl ?_ ?_; rotate_left; · intro W hW; go_simp; try with_reducible rfl
    try simp only [Act.put, List.setIfInBounds_toArray, List.set_cons_zero, List.set_cons_succ]
    refine rd 14 rfl (fun K hK => ?_)
    go_simp
    have HB4 : Hid (Below n2 w2 (w3.alloc (.cells #[.int .i64 1, .int .i64 count, .int .i64 i] 128))) := HB3.out.alloc (by rw [HN2.out]; exact HB3.out.size) _
    refine hK.out _ _ (HB3.out.alloc (by rw [HN2.out]; exact HB3.out.size) _) (fun hH => ?_)
    clear hK K
    refine rd 15 rfl (fun K hK => ?_)
    go_simp
    refine hK.out _ _ HB4.out (fun hH => ?_)
    clear hK K
    obtain ⟨hb, hxb⟩ : ∃ xb, xb = w3.heap.size := ⟨_, rfl⟩
    have HX4 : Hid ((w3.alloc (.cells #[.int .i64 1, .int .i64 count, .int .i64 i] 128)).heap[hb]? = some (.cells #[.int .i64 1, .int .i64 count, .int .i64 i] 128 (0, 0))) := by rw [hxb]; exact heap_alloc_new w3 _
    have HXE : Hid (n2 ≤ hb) := by show _ ≤ _; rw [hxb, HN2.out]; exact HB3.out.size
    rw [← hxb]
    clear hxb
    generalize w3.alloc (.cells #[.int .i64 1, .int .i64 count, .int .i64 i] 128) = w4 at *
  rotate_left
  focus
    go_simp
    have hb3 : Below n2 w2 (w2.alloc (.cells #[.int .i64 0, .int .i64 0, .int .i64 0] 128)).drew := ((Below.refl n2 w2).alloc (Nat.le_of_eq HN2.out) _).drew
    refine hK.out _ _ hb3 (fun hH => ?_)
    clear hK K
    refine rd 9 rfl (fun K hK => ?_)
    go_simp
    refine (HAT.out _ (HW2.out _ hH)).mono ?_
    rintro e w3 ⟨rfl, hbc⟩
    have HB3 : Hid (Below n2 w2 w3) := hb3.trans (hbc.mono (by rw [HN2.out]; exact hb3.size))
    obtain ⟨hb, hxb⟩ : ∃ xb, xb = w2.heap.size := ⟨_, rfl⟩
    have HX3 : Hid (w3.heap[hb]? = some (.cells #[.int .i64 0, .int .i64 0, .int .i64 0] 128 (0, 0))) := by rw [hxb]; exact (hbc.block _ (by simp)).trans (heap_alloc_new w2 _)
    refine hK.out _ _ HB3.out (fun hH => ?_)
    rw [← hxb]
    have hxw : n2 ≤ hb := by rw [HN2.out]; exact Nat.le_of_eq hxb.symm
    have HXE : Hid (n2 ≤ hb) := hxw
    clear hK K hb3 hbc hxb
    refine tk 10 (v := ?_) rfl ?_ ?_; rotate_left; · intro W hW; go_simp; try with_reducible rfl
    try simp only [Act.put, List.setIfInBounds_toArray, List.set_cons_zero, List.set_cons_succ]
    refine tk 11 (v := ?_) rfl ?_ ?_; rotate_left; · intro W hW; go_simp; try with_reducible rfl
    try simp only [Act.put, List.setIfInBounds_toArray, List.set_cons_zero, List.set_cons_succ]
    refine tk 12 (v := ?_) rfl ?_ ?_; rotate_left; · intro W hW; go_simp; try with_reducible rfl
    try simp only [Act.put, List.setIfInBounds_toArray, List.set_cons_zero, List.set_cons_succ]
    refine tk 13 (v := ?_) rfl ?_ ?_; rotate_left; · intro W hW; go_simp; try with_reducible rfl
    try simp only [Act.put, List.setIfInBounds_toArray, List.set_cons_zero, List.set_cons_succ]
    have z0 := cells_of_block HX3.out 0
    have z1 := cells_of_block HX3.out 1
    have z2 := cells_of_block HX3.out 2
    simp at z0 z1 z2
    obtain ⟨z0, f0⟩ := z0
    obtain ⟨z1, f1⟩ := z1
    obtain ⟨z2, f2⟩ := z2
    refine rd 15 rfl (fun K hK => ?_)
    go_simp
    have HB4 : Hid (Below n2 w2 (((w3.setCell ⟨hb, 0, none⟩ (.int .i64 1)).setCell ⟨hb, 1, none⟩ (.int .i64 count)).setCell ⟨hb, 2, none⟩ (.int .i64 i))) := (((HB3.out).setCell hxw _).setCell hxw _).setCell hxw _
    refine hK.out _ _ HB4.out (fun hH => ?_)
    clear hK K hxw z0 f0 z1 f1 z2 f2
    have HX4 : Hid ((((w3.setCell ⟨hb, 0, none⟩ (.int .i64 1)).setCell ⟨hb, 1, none⟩ (.int .i64 count)).setCell ⟨hb, 2, none⟩ (.int .i64 i)).heap[hb]? = some (.cells #[.int .i64 1, .int .i64 count, .int .i64 i] 128 (0, 0))) := by
      show _ = _
      simpa using block_setCell (block_setCell (block_setCell (HX3.out) 0 (.int .i64 1)) 1 (.int .i64 count)) 2 (.int .i64 i)
    generalize ((w3.setCell ⟨hb, 0, none⟩ (.int .i64 1)).setCell ⟨hb, 1, none⟩ (.int .i64 count)).setCell ⟨hb, 2, none⟩ (.int .i64 i) = w4 at *
    clear HX3
  all_goals
    refine tk 16 (v := ?_) rfl ?_ ?_; rotate_left; · intro W hW; go_simp; try with_reducible rfl
    try simp only [Act.put, List.setIfInBounds_toArray, List.set_cons_zero, List.set_cons_succ]
    refine tk 17 (v := ?_) rfl ?_ ?_; rotate_left; · intro W hW; go_simp; try with_reducible rfl
    try simp only [Act.put, List.setIfInBounds_toArray, List.set_cons_zero, List.set_cons_succ]
    refine wpAnyH_done (by kernel_rfl) ?_ _
    have HX5 := Lib.hid ((HB4.out.block xb (by rw [HN2.out]; exact block_lt HX2.out)).trans HX2.out)
    have HT5 := Lib.hid ((HB4.out.block tb (by rw [HN2.out]; exact block_lt HT2.out)).trans HT2.out)
    have x0 := (cells_of_block HX5.out 0).1
    have x1 := (cells_of_block HX5.out 1).1
    have x2 := (cells_of_block HX5.out 2).1
    have x3 := (cells_of_block HX5.out 3).1
    simp at x0 x1 x2 x3
    go_wp2_with fail
    refine (HST.out _ (HW2.out _ HB4.out)).mono ?_
    rintro e w5 ⟨rfl, hb5⟩
    have hb24 := HB4.out.trans (hb5.mono (by rw [HN2.out]; exact HB4.out.size))
    have HRN5 := Lib.hid (HRUN.out.below (HW2.out _ hb24))
    have hxf : ∀ b, w.heap.size ≤ b → ¬ F b := fun b hb hf => by have := HLT.out b hf; omega
    have HX6 : Hid (Bx w5 F xb (.cells #[.int .i64 xa, .int .i64 xr, .bool xh, .bool false] 93 (0, 0))) := ⟨hxf xb HNE.out.2.1, (hb5.block xb (block_lt HX5.out)).trans HX5.out⟩
    have HT6 : Hid (Bx w5 F tb (.cells #[.int .i64 i, .int .i64 xg] 38 (0, 0))) := ⟨hxf tb HNE.out.1, (hb5.block tb (block_lt HT5.out)).trans HT5.out⟩
    clear hb5 hb24 hxf x0 x1 x2 x3
    cases sb
    focus
      obtain ⟨e0, e1, e2, e3⟩ := HE1.out _ _ _ HON.out HRN5.out.heap
      go_wp2_with fail
      refine (HAL.out trivial w5 HRN5.out.heap).mono ?_
      rintro e w6 ⟨addr, S1, rfl, ha, h6⟩
      have HA := Lib.hid ha
      have HRN6 := Lib.hid (HRN5.out.op h6)
      have HX7 := Lib.hid (HX6.out.op h6.2)
      have HT7 := Lib.hid (HT6.out.op h6.2)
      obtain ⟨F6, hF6⟩ : ∃ F6, F6 = grow F w5 w6 := ⟨_, rfl⟩
      rw [← hF6] at HRN6 HX7 HT7
      have hon1 : S1.on = true := by rw [ha.same.2.2.2.2.2.2.2.1]; exact HON.out
      clear e0 e1 e2 e3
      obtain ⟨e0, e1, e2, e3⟩ := HE1.out _ _ _ hon1 HRN6.out.heap
      obtain ⟨-, -, c2, -⟩ := HF1.out _ _ _ HRN6.out.heap
      have HX8 := Lib.hid HX7.out.2
      have x0 := (cells_of_block HX8.out 0).1
      have x1 := (cells_of_block HX8.out 1).1
      have x2 := (cells_of_block HX8.out 2).1
      have x3 := (cells_of_block HX8.out 3).1
      simp at x0 x1 x2 x3
      clear ha h6 hF6
      go_wp2_with fail
      go_still_tail 10, (by kernel_rfl)
      have HRN7 := Lib.hid (HRN6.out.below (Below.refl _ _).drew)
      have HX9 := Lib.hid (HX7.out.below (Below.refl _ _).drew)
      have HT9 := Lib.hid (HT7.out.below (Below.refl _ _).drew)
      change wpList _ _ _ _ _ w6.drew
      clear HX8 x0 x1 x2 x3 e0 e1 e2 e3 c2
      generalize w6.drew = w7 at *
      go_wp2_with fail
      refine (HMV.out w7 F6 addr S1 HA.out HRN7.out.heap).mono ?_
      rintro e w8 ⟨rfl, h8⟩
      have HRN8 := Lib.hid (HRN7.out.op h8)
      have HX10 := Lib.hid (HX9.out.op h8.2)
      have HT10 := Lib.hid (HT9.out.op h8.2)
      obtain ⟨F8, hF8⟩ : ∃ F8, F8 = grow F6 w7 w8 := ⟨_, rfl⟩
      rw [← hF8] at HRN8 HX10 HT10
      have HX11 := Lib.hid HX10.out.2
      have x0 := cells_of_block HX11.out 0
      have x1 := cells_of_block HX11.out 1
      have x2 := cells_of_block HX11.out 2
      have x3 := cells_of_block HX11.out 3
      simp at x0 x1 x2 x3
      obtain ⟨x0, f0⟩ := x0
      obtain ⟨x1, f1⟩ := x1
      obtain ⟨x2, f2⟩ := x2
      obtain ⟨x3, f3⟩ := x3
      clear h8 hF8
      go_wp2_with fail
      have HRN9 := Lib.hid (HRN8.out.loc (j := 0) (v := .int .i64 addr) HNE.out.2.1 HX10.out.1)
      have HX12 : Hid (Bx (w8.setCell ⟨xb, 0, none⟩ (.int .i64 addr)) F8 xb (.cells #[.int .i64 addr, .int .i64 xr, .bool xh, .bool false] 93 (0, 0))) := ⟨HX10.out.1, by simpa using block_setCell HX10.out.2 0 (.int .i64 addr)⟩
      have HT12 : Hid (Bx (w8.setCell ⟨xb, 0, none⟩ (.int .i64 addr)) F8 tb (.cells #[.int .i64 i, .int .i64 xg] 38 (0, 0))) := ⟨HT10.out.1, (Below.heap_setCell _ _ _ _ HNE.out.2.2).trans HT10.out.2⟩
      clear x0 x1 x2 x3 f0 f1 f2 f3 HX11
      generalize w8.setCell ⟨xb, 0, none⟩ (.int .i64 addr) = w9 at *
      have hon3 : ({ S1 with ws := putAt S1.ws addr ((S1.ws.drop xa).take (z + 1)) } : HS).on = true := hon1
      obtain ⟨e0, e1, e2, e3⟩ := HE1.out _ _ _ hon3 HRN9.out.heap
      obtain ⟨-, -, -, c3, -⟩ := HF1.out _ _ _ HRN9.out.heap
      have HX13 := Lib.hid HX12.out.2
      have HT13 := Lib.hid HT12.out.2
      have x0 := (cells_of_block HX13.out 0).1
      have x1 := (cells_of_block HX13.out 1).1
      have x2 := (cells_of_block HX13.out 2).1
      have x3 := (cells_of_block HX13.out 3).1
      simp at x0 x1 x2 x3
      have t0 := (cells_of_block HT13.out 0).1
      have t1 := (cells_of_block HT13.out 1).1
      simp at t0 t1
      clear hon3 hon1
      go_still_tail 9, (by kernel_rfl)
      have HRN10 := Lib.hid (HRN9.out.below (Below.refl _ _).drew)
      have HX14 := Lib.hid (HX12.out.below (Below.refl _ _).drew)
      change wpList _ _ _ _ _ w9.drew
      clear HX13 HT13 x0 x1 x2 x3 t0 t1 e0 e1 e2 e3 c3
      generalize w9.drew = w10 at *
      go_wp2_with fail
      refine (HSET.out w10 F8 addr S1 HA.out trivial HRN10.out.heap).mono ?_
      rintro e w11 ⟨rfl, S2, hm, h11⟩
      have HM := Lib.hid hm
      have HRP := Lib.hid (HRN10.out.op h11)
      obtain ⟨FP, hFP⟩ : ∃ FP, FP = grow F8 w10 w11 := ⟨_, rfl⟩
      rw [← hFP] at HRP
      clear hFP hm h11
      generalize w11 = wp at *
    rotate_left
    focus
      obtain ⟨S2, hS2⟩ : ∃ S2, S2 = S := ⟨_, rfl⟩
      have HM : Hid (MovedSt S i ⟨xg, xu, xa, xr, xh, false⟩ (z + 1) S2) := HMS.out _ (Or.inl ⟨rfl, hS2⟩)
      obtain ⟨FP, hFP⟩ : ∃ FP, FP = F := ⟨_, rfl⟩
      have HRP : Hid (Run w F w5 FP A S2) := by rw [hS2, hFP]; exact HRN5.out
      clear hS2
      clear hFP
      generalize w5 = wp at *
    all_goals
      have hon2 : S2.on = true := by rw [HM.out.same.2.2.2.2.2.2.1]; exact HON.out
      obtain ⟨e0, e1, e2, e3⟩ := HE1.out _ _ _ hon2 HRP.out.heap
      have HON2 := Lib.hid hon2
      clear hon2
      go_wp2_with fail
      refine (HPT.out wp FP S2 HM.out HRP.out.heap).mono ?_
      rintro e w20 ⟨⟨bb, rfl⟩, h20⟩
      have HRQ := Lib.hid (HRP.out.op h20)
      obtain ⟨FQ, hFQ⟩ : ∃ FQ, FQ = grow FP wp w20 := ⟨_, rfl⟩
      rw [← hFQ] at HRQ
      clear e0 e1 e2 e3 h20 hFQ
      have hon3 : ({ S2 with gs := S2.gs.paint i } : HS).on = true := HON2.out
      obtain ⟨e0, e1, e2, e3⟩ := HE1.out _ _ _ hon3 HRQ.out.heap
      clear hon3
      go_wp2_with fail
      refine (HTG.out w20 FQ S2 HM.out HRQ.out.heap).mono ?_
      rintro e w21 ⟨v, rfl, hrow, hb⟩
      have HRR := Lib.hid (HRQ.out.below hb)
      have hlt := hrow.lt
      obtain ⟨a1, cp, rfl, hsq, -, -⟩ := ownsRow_seq hrow
      have HSQ := Lib.hid hsq
      have HNB : Hid (∀ b o, a1 = some ⟨b, o, none⟩ → ¬ FQ b) := fun b o e hf => by
        have h1 := (hlt b (by rw [e]; rfl)).1
        have h2 := HRQ.out.heap.lt b hf
        omega
      obtain ⟨zl, hzl⟩ : ∃ zl, zl = zs.length := ⟨_, rfl⟩
      rw [← hzl]
      have HZ := Lib.hid hzl
      clear hlt hrow hsq hb e0 e1 e2 e3 hzl
      go_wp2_with fail
      go_loopw [89] (fun iv wr => ∃ k : Nat, k ≤ zl ∧ iv = .int .i64 (k : Int) ∧ Hid (LkSt w F A S2 (S2.gs.paint i) zs a1 k wr)) (fun iv _ => zl - (intOf iv).toNat)
      case atStart => exact ⟨0, Nat.zero_le _, rfl, FQ, HRR.out, HSQ.out, HNB.out⟩
      case round =>
        obtain ⟨k, hk, rfl, HR⟩ := hrel
        by_cases hlt : k < zl
        · obtain ⟨F', hrun, hsq, hnf⟩ := HR.out
          obtain ⟨b, off, x, rfl, hc, HX⟩ := hsq.ints (k := k) (by rw [← HZ.out]; exact hlt)
          obtain ⟨j, y, rfl, hy, hu, hr1⟩ := HEL.out S2 HM.out x (List.mem_of_getElem? HX.out)
          obtain ⟨yg, yu, ya, yr, yh, yp⟩ := y
          simp only at hu hr1
          subst hr1
          have HENT := HEN2.out _ _ _ j _ hrun.heap hy hu
          simp only [entryV] at HENT
          have HENT := Lib.hid HENT
          have HRN := Lib.hid hrun
          have HS1 := Lib.hid hsq
          have HNF := Lib.hid hnf
          have hi : (k : Int) < (zl : Int) := by omega
          have hzm : zl ≤ 100000 := by rw [HZ.out]; exact HZL.out
          clear hrun hsq hnf hy hu
          go_wp2_with fail
          refine HENT.out.mono ?_
          rintro e w22 ⟨rfl, hb2⟩
          have h2 := al2 w22 (.cells #[.int .i64 j, .int .i64 yg] 38) (.cells #[.int .i64 ya, .int .i64 1, .bool yh, .bool yp] 93)
          have hb3 : Below wr.heap.size wr ((w22.alloc (.cells #[.int .i64 j, .int .i64 yg] 38)).alloc (.cells #[.int .i64 ya, .int .i64 1, .bool yh, .bool yp] 93)) := hb2.trans (h2.1.mono hb2.size)
          have HRN3 := Lib.hid (HRN.out.below hb3)
          have HX3 := Lib.hid h2.2.2
          have HS3 := Lib.hid (HS1.out.below hb3 (Nat.le_refl _))
          obtain ⟨qb, hqb⟩ : ∃ qb, qb = w22.heap.size + 1 := ⟨_, rfl⟩
          obtain ⟨pb, hpb⟩ : ∃ pb, pb = w22.heap.size := ⟨_, rfl⟩
          rw [← hqb] at HX3
          clear h2 hb2 hb3
          go_wp2_with fail
          rw [← hqb, ← hpb]
          clear hqb hpb
          generalize (w22.alloc (.cells #[.int .i64 j, .int .i64 yg] 38)).alloc (.cells #[.int .i64 ya, .int .i64 1, .bool yh, .bool yp] 93) = w23 at *
          have hon3 : ({ S2 with gs := (S2.gs.paint i).put (zs.take k) } : HS).on = true := HON2.out
          obtain ⟨e0, e1, e2, e3⟩ := HE1.out _ _ _ hon3 HRN3.out.heap
          clear hon3
          have x0 := (cells_of_block HX3.out 0).1
          have x1 := (cells_of_block HX3.out 1).1
          have x2 := (cells_of_block HX3.out 2).1
          have x3 := (cells_of_block HX3.out 3).1
          simp at x0 x1 x2 x3
          go_still (by kernel_rfl)
          have HRN4 := Lib.hid (HRN3.out.below (Below.refl _ _).drew)
          have HS4 : Hid (SeqAt w23.drew (some ⟨b, off, none⟩) (ints zs)) := HS3.out
          clear e0 e1 e2 e3 x0 x1 x2 x3 HX3
          rw [show ({ heap := w23.heap, tape := w23.tape, drawn := w23.drawn + 1, os := w23.os, output := w23.output } : World) = w23.drew from rfl]
          generalize w23.drew = w24 at *
          have hon3 : ({ S2 with gs := (S2.gs.paint i).put (zs.take k) } : HS).on = true := HON2.out
          obtain ⟨e0, e1, e2, e3⟩ := HE1.out _ _ _ hon3 HRN4.out.heap
          clear hon3
          go_wp2_with fail
          have hb5 : Below w24.heap.size w24 (w24.alloc (.cells #[.int .i64 j] 3)) := (Below.refl _ _).alloc (Nat.le_refl _) _
          refine (HGP.out w24 F' S2 k HM.out (by rw [← HZ.out]; exact hlt) HRN4.out.heap j HX.out w24.heap.size _ hb5 (heap_alloc_new w24 _) (Nat.le_refl _)).mono ?_
          rintro e w25 ⟨⟨kk, rfl⟩, h25⟩
          have HRN5 := Lib.hid ((HRN4.out.below hb5).op h25)
          have HS5 : Hid (SeqAt w25 (some ⟨b, off, none⟩) (ints zs)) := (HS4.out.below hb5 (Nat.le_refl _)).only h25.2 (fun _ b' o' e => HNF.out b' o' e)
          have HNF5 : Hid (∀ b' o', some (⟨b, off, none⟩ : Addr) = some ⟨b', o', none⟩ → ¬ grow F' (w24.alloc (.cells #[.int .i64 j] 3)) w25 b') := fun b' o' e hg => by
            rcases hg with hg | hg
            · exact HNF.out b' o' e hg
            · have h1 := hg.1
              cases e
              have h5 : b < w24.heap.size := SeqAt.lt0 HS4.out HX.out
              simp at h1
              omega
          clear h25 hb5
          go_wp2
          go_roundw
          case rel => exact ⟨k + 1, by omega, by go_num, _, HRN5.out, HS5.out, HNF5.out⟩
          case measure => simp [intOf]; omega
        · have hle : ¬ ((k : Int) < (zl : Int)) := by omega
          have hkz : k = zl := by omega
          subst hkz
          clear hlt
          go_wp2_with fail
          obtain ⟨F', hrun, -, -⟩ := HR.out
          rw [List.take_of_length_le (Nat.le_of_eq HZ.out.symm)] at hrun
          go_ret2
          exact ⟨rfl, S2, HM.out, hrun.fin HLT.out⟩
end Go.Proofs.YtcdpnfchmpncjaaGreatDoor
namespace Go.Proofs.YtcdpnfchmpncjaaGreatDoor
open Go.RowKit Go.Tr Go.Shelf
variable {w w' : World} {F G : Nat → Prop} {A : Ad} {S S1 : HS}
theorem HeapF.next (h : HeapF w F A S) (hon : S.on = true) (hs : S.gs.Small 1000000) : Calls Tryz.prog 59 #[.pointer (some ⟨A.gl, 0, none⟩)] w fun e w' => e = .returned (nextV S.gs.next) ∧ HeapF w' (grow F w w') A { S with gs := S.gs.next.2 } ∧ Only F w w' := by
  obtain ⟨G, hg, hG, hput⟩ := h.setGray hon
  exact (next_any w hg hs).mono fun e w' ⟨e1, e2, e3⟩ => ⟨e1, hput _ w' e2 e3⟩
structure LookPre (S : HS) (i : Nat) (x : Sl) (count : Nat) (o : Nat → Option (Nat × Nat)) : Prop where
  on : S.on = true
  sp : SpOk S.ps
  ob : ObjOk S i x count
  pn : x.pinned = false
  sm : S.gs.Small 500000
  room : (bigPart S.ps (x.addr / S.Wd) || !hasL (chunksL S.ps) ((x.addr / S.Wd : Nat) : Int)) = false → RoomTo S (S.L.size count + 1)
  mv : ∀ addr S1, AllocTo S (S.L.size count + 1) addr S1 → MvOk S1 addr x.addr count i
  af : ∀ S2, MovedSt S i x (S.L.size count + 1) S2 → ∃ x2, ObjOk S2 i x2 count ∧ (∀ p ∈ slotsL S.L count, LkOk (o p) ∧ S2.ws.getD (x2.addr + 1 + p) 0 = lkN (o p)) ∧ ∀ z ∈ tgt (refsL S.L count o), ∃ (j : Nat) (y : Sl), z = (j : Int) ∧ S2.sl[j]? = some y ∧ y.used = true ∧ y.region = 1
def StepJ (J : Nat → HS → Prop) : Prop := ∀ n S, J n S → S.on = true ∧ S.gs.Small 1000000 ∧
  ((S.gs.next.1 = none ∧ S.gs.next.2.wait = 0 ∧ J n { S with gs := S.gs.next.2 }) ∨
   ∃ (i : Nat) (x : Sl) (count : Nat) (o : Nat → Option (Nat × Nat)), S.gs.next.1 = some (i : Int) ∧ S.L.size count ≤ 10000 ∧ LookPre { S with gs := S.gs.next.2 } i x count o ∧ ∀ S2, MovedSt { S with gs := S.gs.next.2 } i x (S.L.size count + 1) S2 → J (n + 1) { S2 with gs := (S2.gs.paint i).put (tgt (refsL S.L count o)) })
def StSt (w : World) (F : Nat → Prop) (A : Ad) (J : Nat → HS → Prop) (n0 d : Nat) (wr : World) : Prop := ∃ F' S' n, Run w F wr F' A S' ∧ J n S' ∧ n0 ≤ n ∧ (0 < d → n0 < n)
def StEnd (w : World) (F : Nat → Prop) (A : Ad) (J : Nat → HS → Prop) (n0 : Nat) (w' : World) : Prop := ∃ S' n, J n S' ∧ n0 ≤ n ∧ (n0 < n ∨ S'.gs.wait = 0) ∧ HeapF w' (grow F w w') A S' ∧ Only F w w'
set_option maxRecDepth 100000 in
set_option maxHeartbeats 4000000 in
theorem estep_any {J : Nat → HS → Prop} {b n0 : Nat} (hJ : StepJ J) (w : World) (h : HeapF w F A S) (hS : J n0 S) (hb : 1 ≤ b) (hb2 : b ≤ 1000000) :
    Calls Tryz.prog 26 #[.pointer (some ⟨A.h, 0, none⟩), .int .i64 b] w fun e w' => (∃ d : Nat, e = .returned (.tuple #[.int .i64 d, .int .i64 0])) ∧ StEnd w F A J n0 w' := by
  have HRUN := Lib.hid (Run.start h)
  have HLT := Lib.hid h.lt
  have HE1 := Lib.hid (fun W F1 (S1 : HS) (ho : S1.on = true) (hr : HeapF W F1 A S1) => hr.evf ho (Below.refl _ _))
  have HJ := Lib.hid hJ
  have HJ0 := Lib.hid hS
  obtain ⟨e0, e1, e2, e3⟩ := HE1.out _ _ _ (hJ _ _ hS).1 h
  have hbn : ¬ ((b : Int) < 1) := by omega
  have HB1 : Hid (1 ≤ b) := hb
  clear h hJ hS hb
  go_enter Tryz.func26, Tryz.ntmps26
  go_wp2
  go_step3
  go_wp2
  go_step3
  go_wp2_with fail
  clear e0 e1 e2 e3
  go_loopw [6] (fun v wr => ∃ d : Nat, v = .int .i64 (d : Int) ∧ d ≤ b + 10000 ∧ Hid (StSt w F A J n0 d wr)) (fun v _ => b - (intOf v).toNat)
  case atStart => exact ⟨0, rfl, by omega, F, S, n0, HRUN.out, HJ0.out, Nat.le_refl _, fun h => by omega⟩
  case round =>
    obtain ⟨d, rfl, hd, HR⟩ := hrel
    by_cases hlt : d < b
    · obtain ⟨F', S', n, hrun, hj, hn, hp⟩ := HR.out
      obtain ⟨hon, hsm, hcase⟩ := HJ.out n S' hj
      have HRN := Lib.hid hrun
      have HN := Lib.hid (And.intro hn hp)
      obtain ⟨e0, e1, e2, e3⟩ := HE1.out _ _ _ hon hrun.heap
      have HNX := Lib.hid (hrun.heap.next hon hsm)
      have hlt2 : (d : Int) < (b : Int) := by omega
      clear hrun hj hn hp hon hsm
      rcases hcase with ⟨h1, h2, h3⟩ | ⟨i, x, count, o, h1, h2, h3, h4⟩
      · simp only [nextV, h1, Option.getD, Option.isSome] at HNX
        have H2 := Lib.hid (And.intro h2 h3)
        clear h1 h2 h3
        go_wp2_with fail
        refine HNX.out.mono ?_
        rintro e w1 ⟨rfl, h5⟩
        have HRN5 := Lib.hid (HRN.out.op h5)
        clear h5
        go_wp2
        rw [Exit.noGoto_ret]
        go_ret2
        exact ⟨⟨d, rfl⟩, _, n, H2.out.2, HN.out.1, Or.inr H2.out.1, HRN5.out.fin HLT.out⟩
      · simp only [nextV, h1, Option.getD, Option.isSome] at HNX
        have H3 := Lib.hid h3
        have H4 := Lib.hid h4
        obtain ⟨z, hz⟩ : ∃ z, z = S'.L.size count + 1 := ⟨_, rfl⟩
        have hz2 : z ≤ 10001 := by omega
        have hz1 : 1 ≤ z := by omega
        have HZ := Lib.hid hz
        clear h1 h2 h3 h4 hz
        go_wp2_with fail
        refine HNX.out.mono ?_
        rintro e w1 ⟨rfl, h5⟩
        have HRN5 := Lib.hid (HRN.out.op h5)
        clear h5 e0 e1 e2 e3
        go_wp2_with fail
        have hlk := H3.out
        refine (elook_any o w1 HRN5.out.heap hlk.on hlk.sp hlk.ob hlk.pn hlk.sm hlk.room hlk.mv hlk.af).mono ?_
        clear hlk
        simp only
        rw [← HZ.out]
        rintro e w2 ⟨rfl, S2, hm, h6⟩
        have HRN6 := Lib.hid (HRN5.out.op h6)
        have HM := Lib.hid (H4.out S2 (by rw [← HZ.out]; exact hm))
        clear hm h6
        go_wp2
        go_roundw
        case rel => exact ⟨d + z, by go_num, by omega, _, _, n + 1, HRN6.out, HM.out, by have := HN.out.1; omega, fun _ => by have := HN.out.1; omega⟩
        case measure => simp [intOf]; omega
    · have hlt2 : ¬ ((d : Int) < (b : Int)) := by omega
      obtain ⟨F', S', n, hrun, hj, hn, hp⟩ := HR.out
      go_wp2
      go_ret2
      exact ⟨⟨d, rfl⟩, _, n, hj, hn, Or.inl (hp (by have := HB1.out; omega)), hrun.fin HLT.out⟩
end Go.Proofs.YtcdpnfchmpncjaaGreatDoor
