/-
  Parts of the proof, one behind the other: KMade3, KAlive.
-/
import Derived.Test.YtcdpnfchmpncjaaGreatDoorMa42
set_option linter.unusedSimpArgs false
set_option linter.unusedVariables false
namespace Go.Proofs.YtcdpnfchmpncjaaGreatDoor
open Go.RowKit Go.Tr Go.Shelf
variable {S S1 S2 S3 : HS} {ct : Nat → Nat → Nat} {o : Nat → Nat → Option (Nat × Nat)} {P : List (Nat × Nat)} {mv fr : List Int}
structure Mk3 (S : HS) (m : Nat) : Prop where
  good : Good S z0
  on : S.on = false
  wd : S.Wd = 8
  lay : S.L = L22
  fill : Fill3 S.ps S.a S.en m
theorem Mk3.makeOk {m i : Nat} {y : Sl} (h : Mk3 S m) (hy : S.sl[i]? = some y) (hu : y.used = false) (hlow : ∀ j, j < i → usedB S.sl j = true) (hg : y.gen < 255) (hi : i < 4096) (hC : (m + 1) / 2 < S.C) : MakeOk S i y 0 := by
  refine h.good.makeOk hy hu hlow hg (by decide) hi (Or.inl rfl) (by rw [h.lay, L22_size]; decide) ?_
  rw [h.lay, L22_size, h.wd]
  obtain ⟨f1, f2, f3, f4⟩ := h.fill
  rcases Nat.mod_two_eq_zero_or_one m with hm | hm
  · refine Or.inr ?_
    obtain ⟨c, hc, h0⟩ := h.good.free1 (by
      unfold HS.all
      rw [h.on, if_neg (by decide), chunksL_one f2, f1]
      exact hC)
    exact ⟨c, hc, fun q k1 k2 => by rw [show q = c by omega]; exact h0⟩
  · have := f3 hm
    exact Or.inl (by omega)
theorem Mk3.made {m i ad : Nat} {y : Sl} (h : Mk3 S m) (hy : S.sl[i]? = some y) (hu : y.used = false) (hg : y.gen < 255) (hi : i < 4096) (ha : AllocSt S (S.L.size 0 + 1) ad S1) :
    Mk3 (mkS S1 i (y.gen + 1) ad 0) (m + 1) ∧ (∀ ct ct' : Nat → Nat → Nat, Cont S z0 ct → (∀ j, j ≠ i → ct' j = ct j) → (∀ p, p < 2 → ct' i p = 0) → Cont (mkS S1 i (y.gen + 1) ad 0) z0 ct') ∧
      (mkS S1 i (y.gen + 1) ad 0).sl = S.sl.set i ⟨y.gen + 1, true, ad, 1, true, false⟩ ∧ (mkS S1 i (y.gen + 1) ad 0).mine = putL S.mine i ∧ (mkS S1 i (y.gen + 1) ad 0).C = S.C ∧ (mkS S1 i (y.gen + 1) ad 0).K = S.K := by
  have ha3 : AllocSt S 3 ad S1 := by rw [h.lay, L22_size] at ha; exact ha
  have hf := h.fill.alloc h.wd ha3
  obtain ⟨g1, g2⟩ := h.good.make (c := 0) (i := i) (gen := y.gen + 1) ha hy hu (by omega) hi (by decide) (Or.inl rfl) (by rw [h.lay, L22_size]; decide) (cnt' := z0) rfl (fun _ _ => rfl)
  have hs : S1.C = S.C ∧ S1.Wd = S.Wd ∧ S1.K = S.K ∧ S1.L = S.L ∧ S1.sl = S.sl ∧ S1.on = S.on ∧ S1.mine = S.mine := by rcases ha with ⟨_, _, e⟩ | ⟨_, c, q, _, _, _, _, e⟩ <;> rw [e] <;> exact ⟨rfl, rfl, rfl, rfl, rfl, rfl, rfl⟩
  obtain ⟨e1, e2, e3, e4, e5, e6, e7⟩ := hs
  refine ⟨⟨g1, e6.trans h.on, e2.trans h.wd, e4.trans h.lay, hf⟩, fun ct ct' k1 k2 k3 => g2 ct ct' k1 k2 (fun p hp => k3 p (by rw [h.lay, L22_size] at hp; exact hp)), ?_, ?_, e1, e3⟩
  · show S1.sl.set i _ = _
    rw [e5]
  · show putL S1.mine i = _
    rw [e7]
theorem free_at {K j : Nat} (hj : j < K) : (List.replicate K Sl.free)[j]? = some Sl.free := by rw [List.getElem?_replicate, if_pos hj]
theorem Mk3.start (C K : Nat) (hC : 1 ≤ C ∧ C ≤ 1024) : Mk3 (S0 C 8 K L22) 0 := ⟨Good.start hC (by decide) L22_right _, rfl, rfl, rfl, ⟨rfl, fun p hp => (by cases hp), fun h => (by cases h), fun _ => Nat.zero_le _⟩⟩
theorem Mk3.cont0 (C K : Nat) (ct : Nat → Nat → Nat) : Cont (S0 C 8 K L22) z0 ct := fun i x hx hu => by
  rw [slot_free hx] at hu
  cases hu
def alA (S1 : HS) (ad0 : Nat) : HS := mkS S1 0 1 ad0 0
def alC (S2 : HS) (ad1 : Nat) : HS := mkS S2 1 1 ad1 0
def alT (S2 : HS) (ad0 ad1 : Nat) : HS := { alC S2 ad1 with ws := (alC S2 ad1).ws.set (ad0 + 1 + 1) (linkN 0 1) }
def alD (S2 : HS) (ad0 ad1 : Nat) : HS := { alT S2 ad0 ad1 with sl := (alT S2 ad0 ad1).sl.set 1 ⟨1, true, ad1, 1, false, false⟩ }
theorem alA_ok {ad0 : Nat} (ha : AllocSt (S0 4 8 4 L22) ((S0 4 8 4 L22).L.size 0 + 1) ad0 S1) : MakeOk (alA S1 ad0) 1 Sl.free 0 := by
  obtain ⟨h1, -, h2, -, h3, -⟩ := (Mk3.start 4 4 (by decide)).made (i := 0) (free_at (by decide)) rfl (by decide) (by decide) ha
  refine h1.makeOk (i := 1) (y := Sl.free) ?_ rfl (fun j hj => ?_) (by decide) (by decide) (by rw [h3]; decide)
  · rw [h2]
    show ((List.replicate 4 Sl.free).set 0 _)[1]? = _
    rfl
  · have hj0 : j = 0 := by omega
    subst hj0
    rw [h2]
    rfl
theorem alA_off {ad0 : Nat} (ha : AllocSt (S0 4 8 4 L22) ((S0 4 8 4 L22).L.size 0 + 1) ad0 S1) : (alA S1 ad0).on = false := ((Mk3.start 4 4 (by decide)).made (i := 0) (free_at (by decide)) rfl (by decide) (by decide) ha).1.on
theorem alB_ok {ad0 ad1 : Nat} (ha : AllocSt (S0 4 8 4 L22) ((S0 4 8 4 L22).L.size 0 + 1) ad0 S1) (hb : AllocSt (alA S1 ad0) ((alA S1 ad0).L.size 0 + 1) ad1 S2) :
    ObjOk (alC S2 ad1) 0 ⟨1, true, ad0, 1, true, false⟩ 0 ∧ (alC S2 ad1).ws.getD (ad0 + 1 + 1) 0 = lkN none ∧ isRefN (alC S2 ad1).L 1 = true ∧ 1 < (alC S2 ad1).L.size 0 ∧ (alT S2 ad0 ad1).sl[1]? = some ⟨1, true, ad1, 1, true, false⟩ ∧ AlB (alD S2 ad0 ad1) ∧ (alD S2 ad0 ad1).ps.length = 1 := by
  have hst := Mk3.start 4 4 (by decide)
  obtain ⟨h1, c1, h2, m1, h3, -⟩ := hst.made (i := 0) (free_at (by decide)) rfl (by decide) (by decide) ha
  have hy1 : (alA S1 ad0).sl[1]? = some Sl.free := by
    show (mkS S1 0 (Sl.free.gen + 1) ad0 0).sl[1]? = _
    rw [h2]; rfl
  obtain ⟨k1, c2, k2, m2, k3, -⟩ := h1.made (i := 1) (y := Sl.free) hy1 rfl (by decide) (by decide) hb
  have hmine : (alC S2 ad1).mine = [0, 1] := by
    show (mkS S2 1 (Sl.free.gen + 1) ad1 0).mine = _
    rw [m2, m1]
    decide
  have hsl : (alC S2 ad1).sl = (((List.replicate 4 Sl.free).set 0 ⟨1, true, ad0, 1, true, false⟩).set 1 ⟨1, true, ad1, 1, true, false⟩) := by
    show (mkS S2 1 (Sl.free.gen + 1) ad1 0).sl = _
    rw [k2, h2]
    rfl
  have hcont : Cont (alC S2 ad1) z0 (fun _ _ => 0) := c2 (fun _ _ => 0) _ (c1 (fun _ _ => 0) (fun _ _ => 0) (Mk3.cont0 4 4 _) (fun _ _ => rfl) (fun _ _ => rfl)) (fun _ _ => rfl) (fun _ _ => rfl)
  have hs0 : (alC S2 ad1).sl[0]? = some ⟨1, true, ad0, 1, true, false⟩ := by rw [hsl]; rfl
  have hs1 : (alC S2 ad1).sl[1]? = some ⟨1, true, ad1, 1, true, false⟩ := by rw [hsl]; rfl
  have hgood : Good (alC S2 ad1) z0 := k1.good
  have hlay : (alC S2 ad1).L = L22 := k1.lay
  have hp1 : 1 < (alC S2 ad1).L.size (z0 0) := by rw [hlay, L22_size]; decide
  obtain ⟨t1, t2⟩ := hgood.word (v := linkN 0 1) hs0 rfl hp1
  have tcont : Cont (alT S2 ad0 ad1) z0 ctA := t2 (fun _ _ => 0) ctA hcont (fun j q hn => by
    unfold ctA
    rw [if_neg (fun e => hn.elim (fun h => h e.1) (fun h => h e.2))]) rfl
  obtain ⟨d1, d2⟩ := Good.mark (S := alT S2 ad0 ad1) t1 (i := 1) hs1 rfl false
  have hdl : (alD S2 ad0 ad1).sl = (alC S2 ad1).sl.set 1 ⟨1, true, ad1, 1, false, false⟩ := rfl
  refine ⟨hgood.objOk hs0 rfl, hcont 0 _ hs0 rfl 1 hp1, by rw [hlay]; decide, hp1, hs1, ⟨d1, d2 _ tcont, k1.on, (k3.trans h3), k1.wd, hlay, k1.fill, hmine, ⟨_, by rw [hdl, hsl]; rfl, rfl, rfl⟩, ⟨_, by rw [hdl, hsl]; rfl, rfl, rfl⟩, fun i x hx hu => ?_⟩, k1.fill.1⟩
  rw [hdl, hsl] at hx
  match i with
  | 0 => have e : some _ = some x := hx; cases e; show 1 < 255; decide
  | 1 => have e : some _ = some x := hx; cases e; show 1 < 255; decide
  | 2 => have e : some _ = some x := hx; cases e; cases hu
  | 3 => have e : some _ = some x := hx; cases e; cases hu
  | _ + 4 => cases hx
end Go.Proofs.YtcdpnfchmpncjaaGreatDoor
namespace Go.Proofs.YtcdpnfchmpncjaaGreatDoor
open Go.RowKit Go.Tr Go.Shelf
variable {w w' : World} {F : Nat → Prop} {A : Ad} {S : HS}
def TzB (w : World) : Prop := ∃ B, B ≤ w.heap.size ∧ ∀ W : World, (∀ k, k < B → W.heap[k]? = w.heap[k]?) → Tz W
theorem TzB.at (h : TzB w) : Tz w := by obtain ⟨B, h1, h2⟩ := h; exact h2 w (fun _ _ => rfl)
theorem TzB.below (h : TzB w) (hb : Below w.heap.size w w') : TzB w' := by
  obtain ⟨B, h1, h2⟩ := h
  exact ⟨B, Nat.le_trans h1 hb.size, fun W hW => h2 W (fun k hk => (hW k hk).trans (hb.block k (by omega)))⟩
theorem TzB.new (h : TzB w) (hb : Below w.heap.size w w') : TzF w' (Nw w w') := by
  obtain ⟨B, h1, h2⟩ := h
  exact ⟨B, fun k hk => Nat.le_trans h1 hk.1, Nat.le_trans h1 hb.size, fun W hW => h2 W (fun k hk => (hW k hk).trans (hb.block k (by omega)))⟩
theorem spread2 : spreadL 2 = [1] := by decide
theorem spread0 : spreadL 0 = [] := by decide
theorem RunX.tz {X : Nat → Part} {W : World} {F1 : Nat → Prop} (h : RunX X w (fun _ => False) W F1) (hT : TzB w) : TzF W F1 := by
  obtain ⟨B, h1, h2⟩ := hT
  exact ⟨B, fun k hk => (h.2.2 k hk).elim False.elim (fun h => Nat.le_trans h1 h), Nat.le_trans h1 h.2.1.size, fun V hV => h2 V (fun k hk => (hV k hk).trans (h.2.1.block k (by omega) (fun f => f)))⟩
theorem TzB.none (h : TzB w) : TzF w (fun _ => False) := by
  obtain ⟨B, h1, h2⟩ := h
  exact ⟨B, fun k hk => hk.elim, h1, h2⟩
theorem RunX.opened {X : Nat → Part} {W W' : World} {F1 : Nat → Prop} (h : RunX X w (fun _ => False) W F1) (hT : TzB w) (k : HeapF W' (grow F1 W W') A S ∧ Only F1 W W') : Run w (fun _ => False) W' (grow F1 W W') A S :=
  ⟨k.1.1, h.2.1.trans k.2 h.2.2, fun j hj => hj.elim (h.2.2 j) (fun hj => Or.inr (Nat.le_trans h.2.1.size hj.1)), hT.none⟩
theorem Run.fin0 {W : World} {F1 : Nat → Prop} (h : Run w (fun _ => False) W F1 A S) : Below w.heap.size w W := h.2.1.below (Nat.le_refl _) (fun k hk => hk.elim)
set_option maxRecDepth 100000 in
set_option maxHeartbeats 4000000 in
theorem alive_any (w : World) (hT : TzB w) : Calls Tryz.prog 7 #[] w fun e w' => e = .returned (.bool true) ∧ Below w.heap.size w w' := by
  have HT := Lib.hid hT
  clear hT
  go_enter Tryz.func7, Tryz.ntmps7
  go_wp2_with fail
  refine (enew_any 4 8 4 w (by decide) (by decide) (by decide) (by decide) (by decide) (by decide)).mono ?_
  rintro e w1 ⟨A, rfl, h1, hb1⟩
  have HC1 := Lib.hid h1
  have HB1 := Lib.hid hb1
  have e0 := p0_ev h1 (Below.refl _ _)
  have hba : Below w1.heap.size w1 (w1.alloc (.cells #[.int .u64 2, .int .u64 2, .int .u64 0] 34)) := (Below.refl _ w1).alloc (Nat.le_refl _) _
  have hrx : RunX (P0 A 4 8 4 none TS.new [] [] true false false) w (fun _ => False) w1 (Nw w w1) := ⟨h1, Only.of_below hb1 _, fun k hk => Or.inr hk.1⟩
  have HRX2 := Lib.hid (hrx.below (p0_parts _ _ _ _ _ _ _ _ _ _ _) hba)
  have HSQ : Hid (SeqAt (w1.alloc (.cells #[.int .u64 2, .int .u64 2, .int .u64 0] 34)) (some ⟨w1.heap.size, 0, none⟩) (us [L22.fixed + L22.record * 256, 2, 0])) := SeqAt.of_block (cs := [.int .u64 2, .int .u64 2, .int .u64 0]) (heap_alloc_new w1 _)
  clear h1 hb1 hba hrx
  go_wp2_with fail
  clear e0
  generalize w1.alloc (.cells #[.int .u64 2, .int .u64 2, .int .u64 0] 34) = w2 at *
  refine (cdefine_any (L := L22) 2 0 _ 3 w2 HRX2.out.1 (HRX2.out.tz HT.out).at HSQ.out L22_right (by decide) (by decide) spread2 spread0).mono ?_
  rintro e w3 ⟨rfl, h3⟩
  have HRX3 := Lib.hid (HRX2.out.op h3)
  have e0 := p0_ev h3.1 (Below.refl _ _)
  clear h3 HSQ
  go_wp2_with fail
  clear e0
  refine (copen_any w3 HRX3.out.1 (HRX3.out.tz HT.out)).mono ?_
  rintro e w4 ⟨rfl, u, bg, h4⟩
  have HRN4 := Lib.hid (HRX3.out.opened HT.out h4)
  obtain ⟨A', hA'⟩ : ∃ A' : Ad, A' = { A with u := u, bg := bg } := ⟨_, rfl⟩
  have hh : A'.h = A.h := by rw [hA']
  rw [← hA'] at HRN4
  rw [← hh]
  clear h4 HRX3 HRX2 hA' hh
  go_wp2_with fail
  have HMK1 : Hid (Calls Tryz.prog 10 #[.pointer (some ⟨A'.h, 0, none⟩), .int .i64 1, .int .i64 1, .int .i64 0] w4 fun e w' => e = .returned (.tuple #[.agg #[.int .i64 0, .int .i64 1], .int .i64 0]) ∧ ∃ addr S1, AllocSt (S0 4 8 4 L22) ((S0 4 8 4 L22).L.size 0 + 1) addr S1 ∧ HeapF w' (grow (grow (grow (Nw w w1) w2 w3) w3 w4) w4 w') A' (alA S1 addr) ∧ Only (grow (grow (Nw w w1) w2 w3) w3 w4) w4 w') :=
    emake_any w4 HRN4.out.heap rfl ((Mk3.start 4 4 (by decide)).makeOk (i := 0) (free_at (by decide)) rfl (fun j hj => by omega) (by decide) (by decide) (by decide))
  refine HMK1.out.mono ?_
  rintro e w5 ⟨rfl, ad0, S1, ha, h5⟩
  have HRN5 := Lib.hid (HRN4.out.op h5)
  generalize grow (grow (grow (Nw w w1) w2 w3) w3 w4) w4 w5 = F5 at *
  have HA := Lib.hid ha
  have HX6 : Hid (Bx (w5.alloc (.cells #[.int .i64 0, .int .i64 1] 38)) F5 w5.heap.size (.cells #[.int .i64 0, .int .i64 1] 38 (0, 0))) := Bx.new HRN5.out.heap.lt
  obtain ⟨ta, hta⟩ : ∃ ta, ta = w5.heap.size := ⟨_, rfl⟩
  rw [← hta] at HX6
  have HRN6 := Lib.hid (HRN5.out.below ((Below.refl _ w5).alloc (Nat.le_refl _) (.cells #[.int .i64 0, .int .i64 1] 38)))
  clear h5 ha HMK1
  go_wp2_with fail
  rw [← hta]
  clear hta
  generalize w5.alloc (.cells #[.int .i64 0, .int .i64 1] 38) = w6 at *
  have HMK2 : Hid (Calls Tryz.prog 10 #[.pointer (some ⟨A'.h, 0, none⟩), .int .i64 1, .int .i64 1, .int .i64 0] w6 fun e w' => e = .returned (.tuple #[.agg #[.int .i64 1, .int .i64 1], .int .i64 0]) ∧ ∃ addr S2, AllocSt (alA S1 ad0) ((alA S1 ad0).L.size 0 + 1) addr S2 ∧ HeapF w' (grow F5 w6 w') A' (alC S2 addr) ∧ Only F5 w6 w') :=
    emake_any w6 HRN6.out.heap (alA_off HA.out) (alA_ok HA.out)
  refine HMK2.out.mono ?_
  rintro e w7 ⟨rfl, ad1, S2, hb, h7⟩
  have HRN7 := Lib.hid (HRN6.out.op h7)
  have HX7 := Lib.hid (HX6.out.op h7.2)
  generalize grow F5 w6 w7 = F7 at *
  have HB := Lib.hid hb
  have hba : Below w7.heap.size w7 (w7.alloc (.cells #[.int .i64 1, .int .i64 1] 38)) := (Below.refl _ w7).alloc (Nat.le_refl _) _
  have HX8 := Lib.hid (HX7.out.below hba)
  have HY8 : Hid (Bx (w7.alloc (.cells #[.int .i64 1, .int .i64 1] 38)) F7 w7.heap.size (.cells #[.int .i64 1, .int .i64 1] 38 (0, 0))) := Bx.new HRN7.out.heap.lt
  obtain ⟨tb, htb⟩ : ∃ tb, tb = w7.heap.size := ⟨_, rfl⟩
  rw [← htb] at HY8
  have HRN8 := Lib.hid (HRN7.out.below hba)
  clear h7 hb HMK2 hba
  go_wp2_with fail
  rw [← htb]
  clear htb
  generalize w7.alloc (.cells #[.int .i64 1, .int .i64 1] 38) = w8 at *
  obtain ⟨q1, q2, q3, q4, q5, q6, q7⟩ := alB_ok HA.out HB.out
  have HQ := Lib.hid (And.intro q6 q7)
  have HD8 := Lib.hid (HRN8.out.below (Below.refl _ _).drew)
  have hfc : w8.cell? ⟨A'.h, 0, none⟩ = some (.pointer (some ⟨A'.c, 0, none⟩)) ∧ w8.cell? ⟨ta, 0, none⟩ = some (.int .i64 0) ∧ w8.cell? ⟨ta, 1, none⟩ = some (.int .i64 1) ∧ w8.cell? ⟨tb, 0, none⟩ = some (.int .i64 1) ∧ w8.cell? ⟨tb, 1, none⟩ = some (.int .i64 1) :=
    ⟨HRN8.out.heap.evc (Below.refl _ _), (cells_of_block HX8.out.2 0).1, (cells_of_block HX8.out.2 1).1, (cells_of_block HY8.out.2 0).1, (cells_of_block HY8.out.2 1).1⟩
  have HTIE : Hid (Calls Tryz.prog 20 #[.pointer (some ⟨A'.c, 0, none⟩), .agg #[.int .i64 0, .int .i64 1], .int .i64 1, .agg #[.int .i64 0, .int .i64 1]] w8.drew fun e w' => e = .returned (.int .i64 0) ∧ HeapF w' (grow F7 w8.drew w') A' (alT S2 ad0 ad1) ∧ Only F7 w8.drew w') :=
    cTie_any (x := ⟨1, true, ad0, 1, true, false⟩) (y := ⟨1, true, ad0, 1, true, false⟩) (i := 0) (j := 0) (count := 0) (p := 1) none w8.drew HD8.out.heap q1 rfl rfl q1.sl rfl rfl rfl q4 q3 (by omega) (Nat.le_refl 1) (show 1 ≤ 255 by omega) (fun i g e => by cases e) q2
  have HSL := Lib.hid q5
  clear q1 q2 q3 q4 q5 q6 q7
  refine wp_region_held_drew (S := fun W => W.cell? ⟨A'.h, 0, none⟩ = some (.pointer (some ⟨A'.c, 0, none⟩)) ∧ W.cell? ⟨ta, 0, none⟩ = some (.int .i64 0) ∧ W.cell? ⟨ta, 1, none⟩ = some (.int .i64 1) ∧ W.cell? ⟨tb, 0, none⟩ = some (.int .i64 1) ∧ W.cell? ⟨tb, 1, none⟩ = some (.int .i64 1)) (by kernel_rfl) hfc (fun hH => ?_)
  clear hfc
  refine tk 0 (v := ?_) rfl ?_ ?_; rotate_left; · intro W hW; go_simp; try with_reducible rfl
  try simp only [Act.put, List.setIfInBounds_toArray, List.set_cons_zero, List.set_cons_succ]
  refine tk 1 (v := ?_) rfl ?_ ?_; rotate_left; · intro W hW; go_simp; try with_reducible rfl
  try simp only [Act.put, List.setIfInBounds_toArray, List.set_cons_zero, List.set_cons_succ]
  refine tk 2 (v := ?_) rfl ?_ ?_; rotate_left; · intro W hW; go_simp; try with_reducible rfl
  try simp only [Act.put, List.setIfInBounds_toArray, List.set_cons_zero, List.set_cons_succ]
  refine tk 3 (v := ?_) rfl ?_ ?_; rotate_left; · intro W hW; go_simp; try with_reducible rfl
  try simp only [Act.put, List.setIfInBounds_toArray, List.set_cons_zero, List.set_cons_succ]
  refine tk 4 (v := ?_) rfl ?_ ?_; rotate_left; · intro W hW; go_simp; try with_reducible rfl
  try simp only [Act.put, List.setIfInBounds_toArray, List.set_cons_zero, List.set_cons_succ]
  refine tk 5 (v := ?_) rfl ?_ ?_; rotate_left; · intro W hW; go_simp; try with_reducible rfl
  try simp only [Act.put, List.setIfInBounds_toArray, List.set_cons_zero, List.set_cons_succ]
  refine tk 6 (v := ?_) rfl ?_ ?_; rotate_left; · intro W hW; go_simp; try with_reducible rfl
  try simp only [Act.put, List.setIfInBounds_toArray, List.set_cons_zero, List.set_cons_succ]
  refine tk 7 (v := ?_) rfl ?_ ?_; rotate_left; · intro W hW; go_simp; try with_reducible rfl
  try simp only [Act.put, List.setIfInBounds_toArray, List.set_cons_zero, List.set_cons_succ]
  refine tk 8 (v := ?_) rfl ?_ ?_; rotate_left; · intro W hW; go_simp; try with_reducible rfl
  try simp only [Act.put, List.setIfInBounds_toArray, List.set_cons_zero, List.set_cons_succ]
  refine tk 9 (v := ?_) rfl ?_ ?_; rotate_left; · intro W hW; go_simp; try with_reducible rfl
  try simp only [Act.put, List.setIfInBounds_toArray, List.set_cons_zero, List.set_cons_succ]
  refine tk 10 (v := ?_) rfl ?_ ?_; rotate_left; · intro W hW; go_simp; try with_reducible rfl
  try simp only [Act.put, List.setIfInBounds_toArray, List.set_cons_zero, List.set_cons_succ]
  refine tk 11 (v := ?_) rfl ?_ ?_; rotate_left; · intro W hW; go_simp; try with_reducible rfl
  try simp only [Act.put, List.setIfInBounds_toArray, List.set_cons_zero, List.set_cons_succ]
  refine tk 12 (v := ?_) rfl ?_ ?_; rotate_left; · intro W hW; go_simp; try with_reducible rfl
  try simp only [Act.put, List.setIfInBounds_toArray, List.set_cons_zero, List.set_cons_succ]
  refine tk 13 (v := ?_) rfl ?_ ?_; rotate_left; · intro W hW; go_simp; try with_reducible rfl
  try simp only [Act.put, List.setIfInBounds_toArray, List.set_cons_zero, List.set_cons_succ]
  refine tk 14 (v := ?_) rfl ?_ ?_; rotate_left; · intro W hW; go_simp; try with_reducible rfl
  try simp only [Act.put, List.setIfInBounds_toArray, List.set_cons_zero, List.set_cons_succ]
  refine tk 15 (v := ?_) rfl ?_ ?_; rotate_left; · intro W hW; go_simp; try with_reducible rfl
  try simp only [Act.put, List.setIfInBounds_toArray, List.set_cons_zero, List.set_cons_succ]
  refine tk 16 (v := ?_) rfl ?_ ?_; rotate_left; · intro W hW; go_simp; try with_reducible rfl
  try simp only [Act.put, List.setIfInBounds_toArray, List.set_cons_zero, List.set_cons_succ]
  refine tk 17 (v := ?_) rfl ?_ ?_; rotate_left; · intro W hW; go_simp; try with_reducible rfl
  try simp only [Act.put, List.setIfInBounds_toArray, List.set_cons_zero, List.set_cons_succ]
  refine tk 18 (v := ?_) rfl ?_ ?_; rotate_left; · intro W hW; go_simp; try with_reducible rfl
  try simp only [Act.put, List.setIfInBounds_toArray, List.set_cons_zero, List.set_cons_succ]
  refine tk 19 (v := ?_) rfl ?_ ?_; rotate_left; · intro W hW; go_simp; try with_reducible rfl
  try simp only [Act.put, List.setIfInBounds_toArray, List.set_cons_zero, List.set_cons_succ]
  refine tk 20 (v := ?_) rfl ?_ ?_; rotate_left; · intro W hW; go_simp; try with_reducible rfl
  try simp only [Act.put, List.setIfInBounds_toArray, List.set_cons_zero, List.set_cons_succ]
  refine tk 21 (v := ?_) rfl ?_ ?_; rotate_left; · intro W hW; go_simp; try with_reducible rfl
  try simp only [Act.put, List.setIfInBounds_toArray, List.set_cons_zero, List.set_cons_succ]
  refine tk 22 (v := ?_) rfl ?_ ?_; rotate_left; · intro W hW; go_simp; try with_reducible rfl
  try simp only [Act.put, List.setIfInBounds_toArray, List.set_cons_zero, List.set_cons_succ]
  refine tk 23 (v := ?_) rfl ?_ ?_; rotate_left; · intro W hW; obtain ⟨d0, d1, d2, d3, d4⟩ := hW; go_simp; try with_reducible rfl
  try simp only [Act.put, List.setIfInBounds_toArray, List.set_cons_zero, List.set_cons_succ]
  refine tk 24 (v := ?_) rfl ?_ ?_; rotate_left; · intro W hW; obtain ⟨d0, d1, d2, d3, d4⟩ := hW; go_simp; try with_reducible rfl
  try simp only [Act.put, List.setIfInBounds_toArray, List.set_cons_zero, List.set_cons_succ]
  refine tk 25 (v := ?_) rfl ?_ ?_; rotate_left; · intro W hW; obtain ⟨d0, d1, d2, d3, d4⟩ := hW; go_simp; try with_reducible rfl
  try simp only [Act.put, List.setIfInBounds_toArray, List.set_cons_zero, List.set_cons_succ]
  refine tk 26 (v := ?_) rfl ?_ ?_; rotate_left; · intro W hW; obtain ⟨d0, d1, d2, d3, d4⟩ := hW; go_simp; try with_reducible rfl
  try simp only [Act.put, List.setIfInBounds_toArray, List.set_cons_zero, List.set_cons_succ]
  refine tk 27 (v := ?_) rfl ?_ ?_; rotate_left; · intro W hW; obtain ⟨d0, d1, d2, d3, d4⟩ := hW; go_simp; try with_reducible rfl
  try simp only [Act.put, List.setIfInBounds_toArray, List.set_cons_zero, List.set_cons_succ]
  refine tk 28 (v := ?_) rfl ?_ ?_; rotate_left; · intro W hW; obtain ⟨d0, d1, d2, d3, d4⟩ := hW; go_simp; try with_reducible rfl
  try simp only [Act.put, List.setIfInBounds_toArray, List.set_cons_zero, List.set_cons_succ]
  refine rd 29 rfl (fun K hK => ?_)
  go_simp
  refine HTIE.out.mono ?_
  rintro e w9 ⟨rfl, h9⟩
  have HRN9 := Lib.hid (HD8.out.op h9)
  have HX9 := Lib.hid ((HX8.out.below (Below.refl _ _).drew).op h9.2)
  have HY9 := Lib.hid ((HY8.out.below (Below.refl _ _).drew).op h9.2)
  generalize grow F7 w8.drew w9 = F9 at *
  refine hK.out _ _ ⟨HRN9.out.heap.evc (Below.refl _ _), (cells_of_block HX9.out.2 0).1, (cells_of_block HX9.out.2 1).1, (cells_of_block HY9.out.2 0).1, (cells_of_block HY9.out.2 1).1⟩ (fun hH => ?_)
  clear h9 hK K HTIE
  refine tk 30 (v := ?_) rfl ?_ ?_; rotate_left; · intro W hW; go_simp; try with_reducible rfl
  try simp only [Act.put, List.setIfInBounds_toArray, List.set_cons_zero, List.set_cons_succ]
  refine tk 31 (v := ?_) rfl ?_ ?_; rotate_left; · intro W hW; go_simp; try with_reducible rfl
  try simp only [Act.put, List.setIfInBounds_toArray, List.set_cons_zero, List.set_cons_succ]
  refine tk 32 (v := ?_) rfl ?_ ?_; rotate_left; · intro W hW; go_simp; try with_reducible rfl
  try simp only [Act.put, List.setIfInBounds_toArray, List.set_cons_zero, List.set_cons_succ]
  refine tk 33 (v := ?_) rfl ?_ ?_; rotate_left; · intro W hW; obtain ⟨d0, d1, d2, d3, d4⟩ := hW; go_simp; try with_reducible rfl
  try simp only [Act.put, List.setIfInBounds_toArray, List.set_cons_zero, List.set_cons_succ]
  refine tk 34 (v := ?_) rfl ?_ ?_; rotate_left; · intro W hW; obtain ⟨d0, d1, d2, d3, d4⟩ := hW; go_simp; try with_reducible rfl
  try simp only [Act.put, List.setIfInBounds_toArray, List.set_cons_zero, List.set_cons_succ]
  refine tk 35 (v := ?_) rfl ?_ ?_; rotate_left; · intro W hW; obtain ⟨d0, d1, d2, d3, d4⟩ := hW; go_simp; try with_reducible rfl
  try simp only [Act.put, List.setIfInBounds_toArray, List.set_cons_zero, List.set_cons_succ]
  refine tk 36 (v := ?_) rfl ?_ ?_; rotate_left; · intro W hW; obtain ⟨d0, d1, d2, d3, d4⟩ := hW; go_simp; try with_reducible rfl
  try simp only [Act.put, List.setIfInBounds_toArray, List.set_cons_zero, List.set_cons_succ]
  refine tk 37 (v := ?_) rfl ?_ ?_; rotate_left; · intro W hW; obtain ⟨d0, d1, d2, d3, d4⟩ := hW; go_simp; try with_reducible rfl
  try simp only [Act.put, List.setIfInBounds_toArray, List.set_cons_zero, List.set_cons_succ]
  have HDR : Hid (Calls Tryz.prog 11 #[.pointer (some ⟨A'.c, 0, none⟩), .agg #[.int .i64 1, .int .i64 1]] w9 fun e w' => e = .returned (.int .i64 0) ∧ HeapF w' (grow F9 w9 w') A' (alD S2 ad0 ad1) ∧ Only F9 w9 w') :=
    cdrop_any (x := ⟨1, true, ad1, 1, true, false⟩) (i := 1) w9 HRN9.out.heap HSL.out rfl rfl
  refine rd 38 rfl (fun K hK => ?_)
  go_simp
  refine HDR.out.mono ?_
  rintro e w10 ⟨rfl, h10⟩
  have HRN10 := Lib.hid (HRN9.out.op h10)
  have HX10 := Lib.hid (HX9.out.op h10.2)
  have HY10 := Lib.hid (HY9.out.op h10.2)
  generalize grow F9 w9 w10 = F10 at *
  refine hK.out _ _ ⟨HRN10.out.heap.evc (Below.refl _ _), (cells_of_block HX10.out.2 0).1, (cells_of_block HX10.out.2 1).1, (cells_of_block HY10.out.2 0).1, (cells_of_block HY10.out.2 1).1⟩ (fun hH => ?_)
  clear h10 hK K HDR
  refine tk 39 (v := ?_) rfl ?_ ?_; rotate_left; · intro W hW; go_simp; try with_reducible rfl
  try simp only [Act.put, List.setIfInBounds_toArray, List.set_cons_zero, List.set_cons_succ]
  refine tk 40 (v := ?_) rfl ?_ ?_; rotate_left; · intro W hW; go_simp; try with_reducible rfl
  try simp only [Act.put, List.setIfInBounds_toArray, List.set_cons_zero, List.set_cons_succ]
  refine tk 41 (v := ?_) rfl ?_ ?_; rotate_left; · intro W hW; go_simp; try with_reducible rfl
  try simp only [Act.put, List.setIfInBounds_toArray, List.set_cons_zero, List.set_cons_succ]
  refine tk 42 (v := ?_) rfl ?_ ?_; rotate_left; · intro W hW; go_simp; try with_reducible rfl
  try simp only [Act.put, List.setIfInBounds_toArray, List.set_cons_zero, List.set_cons_succ]
  refine rd 43 rfl (fun K hK => ?_)
  go_simp
  refine (ebegin_good w10 HRN10.out.heap HQ.out.1.good HQ.out.1.on).mono ?_
  rintro e w11 ⟨rfl, u2, gl, h11⟩
  have HRN11 := Lib.hid (HRN10.out.op h11)
  have HX11 := Lib.hid (HX10.out.op h11.2)
  have HY11 := Lib.hid (HY10.out.op h11.2)
  generalize grow F10 w10 w11 = F11 at *
  refine hK.out _ _ ⟨HRN11.out.heap.evc (Below.refl _ _), (cells_of_block HX11.out.2 0).1, (cells_of_block HX11.out.2 1).1, (cells_of_block HY11.out.2 0).1, (cells_of_block HY11.out.2 1).1⟩ (fun hH => ?_)
  clear h11 hK K
  refine tk 44 (v := ?_) rfl ?_ ?_; rotate_left; · intro W hW; go_simp; try with_reducible rfl
  try simp only [Act.put, List.setIfInBounds_toArray, List.set_cons_zero, List.set_cons_succ]
  refine tk 45 (v := ?_) rfl ?_ ?_; rotate_left; · intro W hW; go_simp; try with_reducible rfl
  try simp only [Act.put, List.setIfInBounds_toArray, List.set_cons_zero, List.set_cons_succ]
  refine wpAnyH_done (by kernel_rfl) ?_ _
  go_wp2_with fail
  refine (estep_any (b := 9) (n0 := 0) (AlJ.evJ (alD S2 ad0 ad1).ps).step w11 HRN11.out.heap HQ.out.1.begs (by decide) (by decide)).mono ?_
  rintro e w12 ⟨⟨d, rfl⟩, S12, n12, hj, -, hn, h12⟩
  have HRN12 := Lib.hid (HRN11.out.op h12)
  have HJ := Lib.hid (And.intro hj hn)
  generalize grow F11 w11 w12 = F12 at *
  clear h12 hj hn
  go_wp2_with fail
  refine (efinish_good w12 HRN12.out.heap ((AlJ.evJ _).good _ _ HJ.out.1) ((AlJ.evJ _).on _ _ HJ.out.1) (HJ.out.1.wait HJ.out.2) ((AlJ.evJ _).gen _ _ HJ.out.1)).mono ?_
  rintro e w13 ⟨v, fr, S13, rfl, ⟨va, vc, rfl⟩, hfr, h13⟩
  obtain ⟨f1, f2⟩ := HJ.out.1.fin HJ.out.2 hfr HQ.out.2
  rw [f1, f2]
  have HRN13 := Lib.hid (HRN12.out.op h13)
  clear h13 hfr f1 f2
  go_wp2
  go_ret
  exact ⟨rfl, HRN13.out.fin0.alloc HRN13.out.2.1.size _⟩
end Go.Proofs.YtcdpnfchmpncjaaGreatDoor
