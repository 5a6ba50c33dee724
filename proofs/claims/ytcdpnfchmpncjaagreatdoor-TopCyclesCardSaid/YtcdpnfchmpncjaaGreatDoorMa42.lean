/-
  Parts of the proof, one behind the other: KTop2, KThree, KAliveP, KCyc.
-/
import Derived.Test.YtcdpnfchmpncjaaGreatDoorMa41
set_option linter.unusedSimpArgs false
set_option linter.unusedVariables false
namespace Go.Proofs.YtcdpnfchmpncjaaGreatDoor
open Go.RowKit Go.Tr Go.Shelf
variable {w w' : World} {F : Nat → Prop} {A : Ad} {S S1 : HS} {cnt : Nat → Nat} {ct : Nat → Nat → Nat}
def begS (S : HS) : HS := { S with on := true, ps2 := [], a2 := 0, en2 := 0, gs := GS.new.put (S.mine.filter (heldB S.sl)) }
structure EvJ (J : Nat → HS → Prop) (cnt : Nat → Nat) : Prop where
  step : StepJ J
  le : ∀ n S, J n S → n ≤ 2000
  good : ∀ n S, J n S → Good S cnt
  on : ∀ n S, J n S → S.on = true
  gen : ∀ n S, J n S → ∀ (i : Nat) (x : Sl), S.sl[i]? = some x → x.used = true → x.gen < 255
theorem ebegin_good (w : World) (h : HeapF w F A S) (hg : Good S cnt) (hoff : S.on = false) : Calls Tryz.prog 25 #[.pointer (some ⟨A.h, 0, none⟩), .int .i64 1] w fun e w' => e = .returned (.int .i64 0) ∧ ∃ u g, HeapF w' (grow F w w') { A with u2 := u, gl := g } (begS S) ∧ Only F w w' :=
  ebegin_any w h hoff (by have := hg.mine_len; omega) (fun z hz => by
    obtain ⟨i, x, rfl, hx, hu⟩ := (hg.mine z).1 hz
    exact ⟨i, x, rfl, hx, hu, (hg.ent i x hx hu).pin⟩)
def TfSt (w : World) (F : Nat → Prop) (A : Ad) (J : Nat → HS → Prop) (rb k : Nat) (W : World) : Prop := ∃ F' S' n, Run w F W F' A S' ∧ J n S' ∧ (k ≤ n ∨ S'.gs.wait = 0) ∧ Bx W F' rb (.cells #[.slice none 0 0, .int .i64 0] 44 (0, 0))
def TfEnd (w : World) (F : Nat → Prop) (A : Ad) (J : Nat → HS → Prop) (cnt : Nat → Nat) (v : Value) (w' : World) : Prop := ∃ (sv : Value) (fr : List Int) (n : Nat) (SJ S3 : HS), v = .agg #[sv, .int .i64 ((SJ.mine.filter (whiteB SJ)).length : Nat)] ∧ (∃ a c, sv = .slice a fr.length c) ∧ J n SJ ∧ SJ.gs.wait = 0 ∧ FinR SJ cnt S3 fr ∧ HeapF w' (grow F w w') A S3 ∧ Only F w w'
set_option maxRecDepth 100000 in
set_option maxHeartbeats 1000000 in
theorem tfinish_any {J : Nat → HS → Prop} {b : Nat} (hJ : EvJ J cnt) (w : World) (h : HeapF w F A S) (hg : Good S cnt) (hoff : S.on = false) (h0 : J 0 (begS S)) (hb : 1 ≤ b) (hb2 : b ≤ 1000000) :
    Calls Tryz.prog 12 #[.pointer (some ⟨A.h, 0, none⟩), .int .i64 1, .int .i64 b] w fun e w' => ∃ v u g, e = .returned (.tuple #[v, .bool true]) ∧ TfEnd w F { A with u2 := u, gl := g } J cnt v w' := by
  have hba : Below w.heap.size w (w.alloc (.cells #[.slice none 0 0, .int .i64 0] 44)) := (Below.refl _ w).alloc (Nat.le_refl _) _
  have HBG := Lib.hid (ebegin_good _ (h.below hba) hg hoff)
  have HRN := Lib.hid ((Run.start h).below hba)
  have HLT := Lib.hid h.lt
  obtain ⟨rb, hrb⟩ : ∃ rb, rb = w.heap.size := ⟨_, rfl⟩
  have HBX : Hid (Bx (w.alloc (.cells #[.slice none 0 0, .int .i64 0] 44)) F rb (.cells #[.slice none 0 0, .int .i64 0] 44 (0, 0))) := by rw [hrb]; exact Bx.new h.lt
  have HRB : Hid (w.heap.size ≤ rb) := Nat.le_of_eq hrb.symm
  have HJ := Lib.hid hJ
  have HJ0 := Lib.hid h0
  have HB1 := Lib.hid (And.intro hb hb2)
  clear h hg hoff hJ h0 hba hb hb2
  go_enter Tryz.func12, Tryz.ntmps12
  go_wp2_with fail
  rw [← hrb]
  clear hrb
  generalize w.alloc (.cells #[.slice none 0 0, .int .i64 0] 44) = wa at *
  refine HBG.out.mono ?_
  rintro e w2 ⟨rfl, u, g, h2⟩
  have HRN2 := Lib.hid (HRN.out.op h2)
  have HB2 := Lib.hid (HBX.out.op h2.2)
  clear h2
  go_wp2_with fail
  go_loopw [17] (fun v wr => ∃ k : Nat, v = .int .i64 (k : Int) ∧ k ≤ 3000 ∧ Hid (TfSt w F { A with u2 := u, gl := g } J rb k wr)) (fun v _ => 3000 - (intOf v).toNat)
  case atStart => exact ⟨0, rfl, by omega, _, _, 0, HRN2.out, HJ0.out, Or.inl (Nat.le_refl _), HB2.out⟩
  case round =>
    obtain ⟨k, rfl, hk, HR⟩ := hrel
    obtain ⟨F', S', n, hrun, hj, hn, hbx⟩ := HR.out
    have HRW := Lib.hid hrun
    have HJN := Lib.hid hj
    have HKN := Lib.hid hn
    have HBW := Lib.hid hbx
    obtain ⟨wt, hwt⟩ : ∃ wt, wt = S'.gs.wait := ⟨_, rfl⟩
    have HRY := Lib.hid (eready_any _ hrun.heap (HJ.out.on n S' hj))
    rw [← hwt] at HRY
    have HWT := Lib.hid hwt
    clear hrun hj hn hbx hwt HR
    by_cases hc : k < 3000 ∧ wt ≠ 0
    · obtain ⟨hlt, hw0⟩ := hc
      have hlt2 : (k : Int) < 3000 := by omega
      have HKL : Hid (k ≤ n) := HKN.out.resolve_right (fun e => hw0 (by rw [HWT.out]; exact e))
      rw [show decide (wt = 0) = false by simpa using hw0] at HRY
      clear hw0
      go_wp2_with fail
      refine HRY.out.mono ?_
      rintro e w3 ⟨rfl, rfl⟩
      go_wp2_with fail
      refine (estep_any HJ.out.step _ HRW.out.heap HJN.out HB1.out.1 HB1.out.2).mono ?_
      rintro e w4 ⟨⟨d, rfl⟩, S4, n4, hj4, hn4, hp4, h4⟩
      have HRN4 := Lib.hid (HRW.out.op h4)
      have HB4 := Lib.hid (HBW.out.op h4.2)
      have HJ4 := Lib.hid hj4
      have HK4 : Hid (k + 1 ≤ n4 ∨ S4.gs.wait = 0) := hp4.imp (fun h => by have := HKL.out; omega) id
      clear hj4 hn4 hp4 h4
      go_wp2
      go_roundw
      case rel => exact ⟨k + 1, by go_num, by omega, _, S4, n4, HRN4.out, HJ4.out, HK4.out, HB4.out⟩
      case measure => simp [intOf]; omega
    · have HW0 : Hid (S'.gs.wait = 0) := by
        show _ = _
        rcases HKN.out with h | h
        · refine Classical.byContradiction fun hn => hc ⟨?_, by rw [HWT.out]; exact hn⟩
          have := HJ.out.le n S' HJN.out
          omega
        · exact h
      have hwt0 : wt = 0 := HWT.out.trans HW0.out
      subst hwt0
      clear hc
      have HFI := Lib.hid (efinish_good _ HRW.out.heap (HJ.out.good n S' HJN.out) (HJ.out.on n S' HJN.out) HW0.out (HJ.out.gen n S' HJN.out))
      obtain ⟨nl, hnl⟩ : ∃ nl, nl = (S'.mine.filter (whiteB S')).length := ⟨_, rfl⟩
      rw [← hnl] at HFI
      have HNL := Lib.hid hnl
      clear hnl
      by_cases hlt : k < 3000
      focus
        have hlt2 : (k : Int) < 3000 := by omega
        go_wp2_with fail
        refine HRY.out.mono ?_
        rintro e w3 ⟨rfl, rfl⟩
        go_wp2_with fail
      rotate_left
      focus
        have hlt2 : ¬ ((k : Int) < 3000) := by omega
        go_wp2_with fail
      all_goals
        refine HFI.out.mono ?_
        rintro e w4 ⟨v, fr, S3, rfl, ⟨va, vc, rfl⟩, hfr, h4⟩
        have HRN4 := Lib.hid (HRW.out.op h4)
        have HB4 := Lib.hid (HBW.out.op h4.2)
        have HFR := Lib.hid hfr
        obtain ⟨fl, hfl⟩ : ∃ fl, fl = fr.length := ⟨_, rfl⟩
        rw [← hfl]
        have HFL := Lib.hid hfl
        clear hfr h4 hfl
        have hba : Below w4.heap.size w4 (w4.alloc (.cells #[.slice va fl vc, .int .i64 nl] 44)) := (Below.refl _ w4).alloc (Nat.le_refl _) _
        have HRN5 := Lib.hid (HRN4.out.below hba)
        have HB5 := Lib.hid (HB4.out.below hba)
        have HBK := Lib.hid HB5.out.2
        clear hba
        have r0 := cells_of_block HBK.out 0
        have r1 := cells_of_block HBK.out 1
        simp at r0 r1
        obtain ⟨r0, f0⟩ := r0
        obtain ⟨r1, f1⟩ := r1
        go_wp2_with fail
        have hbk : (((w4.alloc (.cells #[.slice va fl vc, .int .i64 nl] 44)).setCell ⟨rb, 0, none⟩ (.slice va fl vc)).setCell ⟨rb, 1, none⟩ (.int .i64 nl)).heap[rb]? = some (.cells #[.slice va fl vc, .int .i64 nl] 44 (0, 0)) := by
          simpa using block_setCell (block_setCell HBK.out 0 (.slice va fl vc)) 1 (.int .i64 nl)
        have hrn := (HRN5.out.loc (j := 0) (v := .slice va fl vc) HRB.out HB5.out.1).loc (j := 1) (v := .int .i64 nl) HRB.out HB5.out.1
        try simp only [Exit.inBlock, Exit.then]
        exact bodyPost_ret (results_blk rfl _ _ rb _ _ _ _ rfl hbk Tryz.underlying44 rfl rfl) rfl ⟨_, u, g, rfl, .slice va fl vc, fr, n, S', S3, by rw [← HNL.out], ⟨va, vc, by rw [HFL.out]⟩, HJN.out, HW0.out, HFR.out, hrn.fin HLT.out⟩
end Go.Proofs.YtcdpnfchmpncjaaGreatDoor
namespace Go.Proofs.YtcdpnfchmpncjaaGreatDoor
open Go.RowKit Go.Tr Go.Shelf
def L22 : Lay := ⟨2, [1], 0, []⟩
theorem L22_right : RightLay L22 := ⟨by decide, by decide, by decide, ⟨by decide, by decide⟩, ⟨by decide, by decide⟩⟩
theorem L22_size (c : Nat) : L22.size c = 2 := by simp [L22, Lay.size]
theorem L22_slots : slotsL L22 0 = [1] := by decide
def z0 : Nat → Nat := fun _ => 0
variable {S S1 : HS} {cnt : Nat → Nat} {ct : Nat → Nat → Nat} {o : Nat → Nat → Option (Nat × Nat)}
def Fill3 (ps : List (Nat × Nat)) (a en m : Nat) : Prop := ps.length = (m + 1) / 2 ∧ (∀ p ∈ ps, p.2 = 1) ∧ (m % 2 = 1 → a + 5 = en) ∧ (m % 2 = 0 → en ≤ a + 2)
theorem Fill3.alloc {m ad : Nat} (h : Fill3 S.ps S.a S.en m) (hW : S.Wd = 8) (ha : AllocSt S 3 ad S1) : Fill3 S1.ps S1.a S1.en (m + 1) := by
  obtain ⟨h1, h2, h3, h4⟩ := h
  rcases ha with ⟨k1, rfl, rfl⟩ | ⟨k1, c, q, k2, -, -, rfl, rfl⟩
  · have hm : m % 2 = 1 := by
      rcases Nat.mod_two_eq_zero_or_one m with h | h
      · have := h4 h; omega
      · exact h
    have := h3 hm
    exact ⟨by simp only; omega, h2, fun h => by omega, fun _ => by simp only; omega⟩
  · have hm : m % 2 = 0 := by
      rcases Nat.mod_two_eq_zero_or_one m with h | h
      · exact h
      · have := h3 h; omega
    have hq : q = 0 := by rw [k2, hW]
    subst hq
    refine ⟨by simp only [List.length_append, List.length_singleton]; omega, fun p hp => ?_, fun _ => ?_, fun h => by omega⟩
    · rcases List.mem_append.1 hp with hp | hp
      · exact h2 p hp
      · rw [List.mem_singleton.1 hp]
    · simp only [if_true, hW]
      omega
theorem chunksL_one : ∀ {ps : List (Nat × Nat)}, (∀ p ∈ ps, p.2 = 1) → (chunksL ps).length = ps.length
  | [], _ => rfl
  | p :: ps, h => by
    have := chunksL_one (fun q hq => h q (List.mem_cons_of_mem _ hq))
    unfold chunksL at this ⊢
    rw [List.flatMap_cons, List.length_append, runL_length, List.length_cons, h p (List.mem_cons_self ..), this]
    omega
theorem AllocTo.chunk {ad : Nat} (h : Good S cnt) (hon : S.on = true) (hW : S.Wd = 8) (ha : AllocTo S 3 ad S1) : ∃ c, (c, 1) ∈ S1.ps2 ∧ ad / 8 = c ∧ (ad + 2) / 8 = c := by
  rcases ha with ⟨k1, rfl, rfl⟩ | ⟨k1, c, q, k2, -, -, rfl, rfl⟩
  · obtain ⟨⟨c, hc, h1, h2⟩, -⟩ := (h.at2 hon).2.2 (by omega)
    rw [hW] at h1 h2
    exact ⟨c, hc, by omega, by omega⟩
  · have hq : q = 0 := by rw [k2, hW]
    subst hq
    refine ⟨c, by simp, ?_, ?_⟩ <;> rw [hW] <;> omega
theorem AllocSt.chunk {ad : Nat} (h : Good S cnt) (hW : S.Wd = 8) (ha : AllocSt S 3 ad S1) : ∃ c, (c, 1) ∈ S1.ps ∧ ad / 8 = c ∧ (ad + 2) / 8 = c := by
  rcases ha with ⟨k1, rfl, rfl⟩ | ⟨k1, c, q, k2, -, -, rfl, rfl⟩
  · obtain ⟨⟨c, hc, h1, h2⟩, -⟩ := h.at1.2.2 (by omega)
    rw [hW] at h1 h2
    exact ⟨c, hc, by omega, by omega⟩
  · have hq : q = 0 := by rw [k2, hW]
    subst hq
    refine ⟨c, by simp, ?_, ?_⟩ <;> rw [hW] <;> omega
structure Ev3 (P : List (Nat × Nat)) (ct : Nat → Nat → Nat) (o : Nat → Nat → Option (Nat × Nat)) (S : HS) (mv : List Int) : Prop where
  good : Good S z0
  cont : Cont S z0 ct
  link : Linked S z0 ct o
  on : S.on = true
  wd : S.Wd = 8
  lay : S.L = L22
  ps : S.ps = P
  one : ∀ p ∈ P, p.2 = 1
  room : P.length + (S.mine.length + 1) / 2 ≤ S.C
  fill : Fill3 S.ps2 S.a2 S.en2 mv.length
  nd : mv.Nodup
  mvu : ∀ z ∈ mv, z ∈ S.mine
  place : ∀ (i : Nat) (x : Sl), S.sl[i]? = some x → x.used = true → (((x.addr / 8 : Nat) : Int) ∈ chunksL P ↔ (i : Int) ∉ mv)
variable {P : List (Nat × Nat)} {mv : List Int}
theorem Ev3.gs (h : Ev3 P ct o S mv) (g : GS) : Ev3 P ct o { S with gs := g } mv := ⟨h.good.gs g, h.cont, h.link, h.on, h.wd, h.lay, h.ps, h.one, h.room, h.fill, h.nd, h.mvu, h.place⟩
theorem one_big {ps : List (Nat × Nat)} (h : ∀ p ∈ ps, p.2 = 1) (c : Nat) : bigPart ps c = false := by
  unfold bigPart
  rw [List.any_eq_false]
  intro p hp
  simp [h p hp]
theorem Ev3.moves (h : Ev3 P ct o S mv) {i : Nat} {x : Sl} (hx : S.sl[i]? = some x) (hu : x.used = true) (hn : (i : Int) ∉ mv) : (bigPart S.ps (x.addr / S.Wd) || !hasL (chunksL S.ps) ((x.addr / S.Wd : Nat) : Int)) = false := by
  rw [h.ps, one_big h.one, h.wd, (hasL_iff _ _).2 ((h.place i x hx hu).2 hn)]
  rfl
theorem Ev3.less (h : Ev3 P ct o S mv) {i : Nat} {x : Sl} (hx : S.sl[i]? = some x) (hu : x.used = true) (hn : (i : Int) ∉ mv) : mv.length + 1 ≤ S.mine.length := by
  have := nodup_sub (l := (i : Int) :: mv) (m := S.mine) (List.nodup_cons.2 ⟨hn, h.nd⟩) (fun z hz => by
    rcases List.mem_cons.1 hz with rfl | hz
    · exact (h.good.mine _).2 ⟨i, x, rfl, hx, hu⟩
    · exact h.mvu z hz)
  simpa using this
theorem Ev3.free (h : Ev3 P ct o S mv) {i : Nat} {x : Sl} (hx : S.sl[i]? = some x) (hu : x.used = true) (hn : (i : Int) ∉ mv) : S.a2 + 3 ≤ S.en2 ∨ ∃ c, c + 1 ≤ S.C ∧ S.own.getD c 0 = 0 := by
  have hl := h.less hx hu hn
  obtain ⟨f1, f2, f3, f4⟩ := h.fill
  rcases Nat.mod_two_eq_zero_or_one mv.length with hm | hm
  · refine Or.inr ?_
    have hr := h.room
    obtain ⟨c, hc, h0⟩ := h.good.free1 (by
      unfold HS.all
      rw [if_pos h.on, chunksL_one (fun p hp => (List.mem_append.1 hp).elim (fun hp => h.one p (h.ps ▸ hp)) (f2 p)), List.length_append, h.ps, f1]
      omega)
    exact ⟨c, hc, h0⟩
  · have := f3 hm
    exact Or.inl (by omega)
theorem Ev3.lookPre (h : Ev3 P ct o S mv) {i : Nat} {x : Sl} (hx : S.sl[i]? = some x) (hu : x.used = true) (hn : (i : Int) ∉ mv) (hsm : S.gs.Small 500000) : LookPre S i x 0 (o i) := by
  refine h.good.lookPre h.cont h.link h.on hx hu hsm (fun _ => ?_)
  rw [h.lay, L22_size, h.wd]
  rcases h.free hx hu hn with h1 | ⟨c, h1, h2⟩
  · exact Or.inl h1
  · exact Or.inr ⟨c, h1, fun k k1 k2 => by rw [show k = c by omega]; exact h2⟩
theorem Ev3.moved (h : Ev3 P ct o S mv) {i : Nat} {x : Sl} {S2 : HS} (hx : S.sl[i]? = some x) (hu : x.used = true) (hn : (i : Int) ∉ mv) (hm : MovedSt S i x (S.L.size 0 + 1) S2) : Ev3 P ct o S2 (mv ++ [(i : Int)]) := by
  obtain ⟨g1, g2⟩ := h.good.moved h.on hx hu hm
  have hlk := h.link.moved hm hx
  obtain ⟨e1, e2, e3, e4, e5, e6, e7, e8⟩ := hm.same
  have hnd : (mv ++ [(i : Int)]).Nodup := List.nodup_append.2 ⟨h.nd, List.nodup_cons.2 ⟨by simp, List.nodup_nil⟩, fun a ha b hb => by rw [List.mem_singleton.1 hb]; exact fun e => hn (e ▸ ha)⟩
  have hmine : (i : Int) ∈ S.mine := (h.good.mine _).2 ⟨i, x, rfl, hx, hu⟩
  have hps2 : S2.ps = P := e6.trans h.ps
  rcases hm with ⟨hb, -⟩ | ⟨-, ad, S1, ha, rfl⟩
  · rw [h.moves hx hu hn] at hb; cases hb
  · rw [h.lay, L22_size] at ha
    have hf := h.fill.alloc (S := S.swap) h.wd ha.swap
    obtain ⟨c, hc, hc1, -⟩ := ha.chunk h.good h.on h.wd
    refine ⟨g1, g2 ct h.cont, hlk, e7.trans h.on, e2.trans h.wd, e4.trans h.lay, hps2, h.one, by rw [e5, e1]; exact h.room, by rw [List.length_append]; exact hf, hnd, fun z hz => ?_, fun j y hy hyu => ?_⟩
    · rw [e5]
      rcases List.mem_append.1 hz with hz | hz
      · exact h.mvu z hz
      · rw [List.mem_singleton.1 hz]; exact hmine
    · obtain ⟨-, -, -, -, f5, -⟩ := ha.same
      have hy' : (S1.sl.set i ⟨x.gen, x.used, ad, x.region, x.held, x.pinned⟩)[j]? = some y := hy
      by_cases hj : j = i
      · subst hj
        rw [List.getElem?_set_self (by rw [f5]; exact (List.getElem?_eq_some_iff.1 hx).1)] at hy'
        cases hy'
        simp only [hc1]
        constructor
        · intro hm
          obtain ⟨p, hp, k, hk, k1, k2⟩ := mem_chunksL.1 hm
          have hon1 : S1.on = true := ha.same.2.2.2.2.2.2.2.1.trans h.on
          have hpap := g1.pap
          unfold HS.all at hpap
          simp only [hon1, if_true] at hpap
          have hp1 : S1.ps = P := ha.same.2.2.2.2.2.2.1.trans h.ps
          have hap := (List.pairwise_append.1 hpap).2.2 p (by rw [hp1]; exact hp) _ hc
          unfold PApart at hap
          simp only at hap
          omega
        · intro hn2
          exact absurd (List.mem_append_right _ (List.mem_singleton.2 rfl)) hn2
      · rw [List.getElem?_set_ne (fun e => hj e.symm), f5] at hy'
        rw [h.place j y hy' hyu]
        constructor
        · intro k hk
          rcases List.mem_append.1 hk with hk | hk
          · exact k hk
          · have := List.mem_singleton.1 hk; omega
        · exact fun k hk => k (List.mem_append_left _ hk)
end Go.Proofs.YtcdpnfchmpncjaaGreatDoor
namespace Go.Proofs.YtcdpnfchmpncjaaGreatDoor
open Go.RowKit Go.Tr Go.Shelf
variable {S S1 S3 : HS} {ct : Nat → Nat → Nat} {o : Nat → Nat → Option (Nat × Nat)} {P : List (Nat × Nat)} {mv fr : List Int}
theorem Ev3.all_one (h : Ev3 P ct o S mv) : ∀ p ∈ S.all, p.2 = 1 := fun p hp => by
  unfold HS.all at hp
  rw [if_pos h.on] at hp
  exact (List.mem_append.1 hp).elim (fun hp => h.one p (h.ps ▸ hp)) (h.fill.2.1 p)
theorem Ev3.fin (h : Ev3 P ct o S mv) (hf : FinR S z0 S3 fr) (hall : ∀ z ∈ S.mine, S.gs.color z ≠ 0 → z ∈ mv) : fr = chunksL P ∧ S3.ps = S.ps2 := by
  obtain ⟨stay, h1, h2, h3⟩ := hf.ps
  have hno : ∀ c ∈ chunksL P, c ∉ stay := fun c hc hs => by
    obtain ⟨i, x, k, hx, hu, rfl, k1, k2⟩ := (h3 c).1 hs
    have hsl := hf.sl i
    rw [hx] at hsl
    by_cases hg : (i : Int) ∈ S.mine ∧ S.gs.color i = 0
    · rw [if_pos hg] at hsl
      cases hy : S.sl[i]? with
      | none => rw [hy] at hsl; cases hsl
      | some y => rw [hy] at hsl; cases hsl; cases hu
    · rw [if_neg hg] at hsl
      have hm : (i : Int) ∈ S.mine := (h.good.mine _).2 ⟨i, x, rfl, hsl.symm, hu⟩
      have hmv := hall _ hm (fun e => hg ⟨hm, e⟩)
      have hpl := h.place i x hsl.symm hu
      obtain ⟨p, hp, p1, p2, -⟩ := (h.good.ent i x hsl.symm hu).ap
      have hp1 := h.all_one p hp
      rw [h.lay, L22_size, h.wd, hp1] at p2
      rw [h.wd] at p1
      rw [h.wd] at k1
      rw [h.wd, h.lay, L22_size] at k2
      have hk : k = x.addr / 8 := by omega
      rw [hk] at hc
      exact hpl.1 hc hmv
  refine ⟨?_, ?_⟩
  · rw [h2, h.ps]
    exact filter_all (fun c hc => by simp [hno c hc])
  · rw [h1, h.ps]
    have : P.filter (fun p => decide ((p.1 : Int) ∈ stay)) = [] := by
      rw [List.filter_eq_nil_iff]
      intro p hp
      have : (p.1 : Int) ∉ stay := hno _ (mem_chunksL.2 ⟨p, hp, p.1, rfl, Nat.le_refl _, by rw [h.one p hp]; omega⟩)
      simp [this]
    rw [this, List.nil_append]
def ctA : Nat → Nat → Nat := fun i p => if i = 0 ∧ p = 1 then linkN 0 1 else 0
def oA : Nat → Nat → Option (Nat × Nat) := fun i p => if i = 0 ∧ p = 1 then some (0, 1) else none
structure AlB (S : HS) : Prop where
  good : Good S z0
  cont : Cont S z0 ctA
  on : S.on = false
  c : S.C = 4
  wd : S.Wd = 8
  lay : S.L = L22
  fill : Fill3 S.ps S.a S.en 2
  mine : S.mine = [0, 1]
  s0 : ∃ x : Sl, S.sl[0]? = some x ∧ x.used = true ∧ x.held = true
  s1 : ∃ x : Sl, S.sl[1]? = some x ∧ x.used = true ∧ x.held = false
  gen : ∀ (i : Nat) (x : Sl), S.sl[i]? = some x → x.used = true → x.gen < 255
def AlJ (P : List (Nat × Nat)) (n : Nat) (S : HS) : Prop := S.mine = [0, 1] ∧ (∀ (i : Nat) (x : Sl), S.sl[i]? = some x → x.used = true → x.gen < 255) ∧
  ((n = 0 ∧ Ev3 P ctA oA S [] ∧ Rep S.gs [0] [] ∧ S.gs.Small 100) ∨ (n = 1 ∧ Ev3 P ctA oA S [0] ∧ Rep S.gs [] [0] ∧ S.gs.Small 200))
theorem AlB.link (h : AlB S) : Linked S z0 ctA oA := fun i x hx hu p hp => by
  rw [h.lay, show z0 i = 0 from rfl, L22_slots] at hp
  have hp1 := List.mem_singleton.1 hp
  subst hp1
  by_cases hi : i = 0
  · subst hi
    refine ⟨fun j g e => ?_, rfl, fun j g e => ?_⟩
    · have e' : some (0, 1) = some (j, g) := e
      cases e'
      decide
    · have e' : some (0, 1) = some (j, g) := e
      cases e'
      obtain ⟨y, h1, h2, -⟩ := h.s0
      exact ⟨y, h1, h2⟩
  · have hc : ctA i 1 = 0 := by unfold ctA; rw [if_neg (fun e => hi e.1)]
    have ho : oA i 1 = none := by unfold oA; rw [if_neg (fun e => hi e.1)]
    rw [ho, hc]
    exact ⟨fun j g e => (by cases e), rfl, fun j g e => (by cases e)⟩
theorem AlB.begs (h : AlB S) : AlJ S.ps 0 (begS S) := by
  have hf : S.mine.filter (heldB S.sl) = [0] := by
    obtain ⟨x, a1, -, a2⟩ := h.s0
    obtain ⟨y, b1, -, b2⟩ := h.s1
    rw [h.mine]
    simp [List.filter, heldB, a1, b1, a2, b2]
  have hg : (begS S).gs = GS.new.put [0] := by
    unfold begS
    rw [hf]
  obtain ⟨g1, g2⟩ := h.good.begin h.on (begS S).gs
  refine ⟨h.mine, h.gen, Or.inl ⟨rfl, ⟨g1, g2 _ h.cont, h.link, rfl, h.wd, h.lay, rfl, h.fill.2.1, ?_, ⟨rfl, fun p hp => by (cases hp), fun e => by (cases e), fun _ => Nat.zero_le _⟩, List.nodup_nil, fun z hz => by (cases hz), fun i x hx hu => ?_⟩, ?_, ?_⟩⟩
  · show S.ps.length + (S.mine.length + 1) / 2 ≤ S.C
    rw [h.mine, h.c, h.fill.1]
    decide
  · refine ⟨fun _ => by simp, fun _ => ?_⟩
    obtain ⟨p, hp, p1, p2, -⟩ := (h.good.ent i x hx hu).ap
    unfold HS.all at hp
    rw [h.on, if_neg (by decide)] at hp
    rw [h.wd] at p1
    rw [h.wd, h.lay, L22_size, h.fill.2.1 p hp] at p2
    exact mem_chunksL.2 ⟨p, hp, x.addr / 8, rfl, by omega, by rw [h.fill.2.1 p hp]; omega⟩
  · rw [hg]; exact Rep.new.put [0]
  · rw [hg]
    exact (GS.Small.put (N := 0) [0] (by unfold GS.Small GS.new; simp)).mono (by decide)
theorem AlJ.evJ (P : List (Nat × Nat)) : EvJ (AlJ P) z0 := by
  refine ⟨?_, ?_, ?_, ?_, fun n S h => h.2.1⟩
  · rintro n S ⟨hm, hgen, ⟨rfl, hev, hrep, hsm⟩ | ⟨rfl, hev, hrep, hsm⟩⟩
    · refine ⟨hev.on, hsm.mono (by decide), Or.inr ?_⟩
      obtain ⟨n1, n2⟩ := hrep.next_some
      obtain ⟨i, x, e, hx, hu⟩ := (hev.good.mine 0).1 (by rw [hm]; simp)
      have hi : i = 0 := by omega
      subst hi
      have hev2 := hev.gs S.gs.next.2
      have hlk := hev2.lookPre hx hu (by simp) ((Small_next hsm).mono (by decide))
      refine ⟨0, x, 0, oA 0, n1, by rw [hev.lay, L22_size]; decide, hlk, fun S2 hm2 => ?_⟩
      have hmv := hev2.moved hx hu (by simp) hm2
      have e8 := hm2.same
      have htg : tgt (refsL S.L 0 (oA 0)) = [0] := by rw [hev.lay]; decide
      have hgs : S2.gs = S.gs.next.2 := e8.2.2.2.2.2.2.2
      refine ⟨e8.2.2.2.2.1.trans hm, fun j y hy hyu => ?_, Or.inr ⟨rfl, hmv.gs _, ?_, ?_⟩⟩
      · obtain ⟨y0, k1, k2, k3, -⟩ := hm2.back hx hy
        rw [k3]
        exact hgen j y0 k1 (k2 ▸ hyu)
      · show Rep ((S2.gs.paint (0 : Nat)).put _) [] [0]
        rw [htg, hgs, n2.paint_old (by simp)]
        exact n2.put [0]
      · show ((S2.gs.paint (0 : Nat)).put _).Small 200
        rw [htg, hgs, n2.paint_old (by simp)]
        exact (GS.Small.put [0] (Small_next hsm)).mono (by decide)
    · refine ⟨hev.on, hsm.mono (by decide), Or.inl ?_⟩
      obtain ⟨n1, n2⟩ := hrep.next_none
      refine ⟨n1, by rw [n2.cnt]; rfl, hm, hgen, Or.inr ⟨rfl, hev.gs _, n2, ?_⟩⟩
      have : S.gs.next.2 = { S.gs with q := [] } := by
        have hlv := hrep.live
        unfold GS.next
        rw [nextQ_none hlv]
      show S.gs.next.2.Small 200
      rw [this]
      obtain ⟨a1, a2, a3, a4, a5⟩ := hsm
      exact ⟨a1, a2, a3, a4, by simp⟩
  · rintro n S ⟨-, -, ⟨rfl, -⟩ | ⟨rfl, -⟩⟩ <;> omega
  · rintro n S ⟨-, -, ⟨-, h, -⟩ | ⟨-, h, -⟩⟩ <;> exact h.good
  · rintro n S ⟨-, -, ⟨-, h, -⟩ | ⟨-, h, -⟩⟩ <;> exact h.on
theorem AlJ.wait {n : Nat} (h : AlJ P n S) (hn : 0 < n ∨ S.gs.wait = 0) : S.gs.wait = 0 := by
  obtain ⟨-, -, ⟨rfl, -, hrep, -⟩ | ⟨rfl, -, hrep, -⟩⟩ := h
  · exact hn.resolve_left (by omega)
  · rw [hrep.cnt]; rfl
theorem AlJ.fin {n : Nat} (h : AlJ P n S) (hn : 0 < n ∨ S.gs.wait = 0) (hf : FinR S z0 S3 fr) (hP : P.length = 1) : (S.mine.filter (whiteB S)).length = 1 ∧ fr.length = 1 := by
  obtain ⟨hm, -, ⟨rfl, hev, hrep, -⟩ | ⟨rfl, hev, hrep, -⟩⟩ := h
  · have := hrep.cnt
    rcases hn with hn | hn
    · omega
    · rw [hn] at this; simp at this
  · have c0 : S.gs.color 0 = 2 := (hrep.black 0).2 (by simp)
    have c1 : S.gs.color 1 = 0 := (hrep.white_iff 1).2 (by simp)
    refine ⟨by rw [hm]; simp [List.filter, whiteB, c0, c1], ?_⟩
    obtain ⟨e1, -⟩ := hev.fin hf (fun z hz hc => by
      rw [hm] at hz
      rcases List.mem_cons.1 hz with rfl | hz
      · simp
      · rw [List.mem_singleton.1 hz] at hc; exact absurd c1 hc)
    rw [e1, chunksL_one hev.one, hP]
end Go.Proofs.YtcdpnfchmpncjaaGreatDoor
namespace Go.Proofs.YtcdpnfchmpncjaaGreatDoor
open Go.RowKit Go.Tr Go.Shelf
variable {S S1 : HS} {ct : Nat → Nat → Nat}
theorem slot_free {K j : Nat} {x : Sl} (h : (List.replicate K Sl.free)[j]? = some x) : x = Sl.free := by
  rw [List.getElem?_replicate] at h
  split at h
  · exact (Option.some.inj h).symm
  · cases h
theorem Good.start {C Wd K : Nat} {L : Lay} (hC : 1 ≤ C ∧ C ≤ 1024) (hW : 1 ≤ Wd ∧ Wd ≤ 1024) (hL : RightLay L) (cnt : Nat → Nat) : Good (S0 C Wd K L) cnt := by
  have hno : ∀ (i : Nat) (x : Sl), (S0 C Wd K L).sl[i]? = some x → x.used = true → False := fun i x hx hu => by
    rw [slot_free hx] at hu
    cases hu
  refine ⟨hC, hW, hL, by simp [S0], by simp [S0], fun i x hx hu => (hno i x hx hu).elim, fun i j a n b m _ hi _ => ?_, List.Pairwise.nil, fun z => ⟨fun h => (by cases h), ?_⟩, fun p hp => (by cases hp), List.Pairwise.nil, fun c hc => ?_, ⟨Nat.le_refl _, Nat.zero_le _, fun h => absurd h (Nat.lt_irrefl _)⟩, fun h => (by cases h)⟩
  · obtain ⟨x, hx, hu, -⟩ := hi
    exact (hno i x hx hu).elim
  · rintro ⟨i, x, -, hx, hu⟩
    exact (hno i x hx hu).elim
  · refine absurd ?_ hc
    show (List.replicate C 0).getD c 0 = 0
    by_cases h : c < C
    · exact replicate_getD h
    · rw [List.getD_eq_getElem?_getD, List.getElem?_eq_none (by simp; omega)]
      rfl
structure CycB (S : HS) (k i j : Nat) : Prop where
  good : Good S z0
  on : S.on = false
  c : S.C = 12
  wd : S.Wd = 8
  kk : S.K = 10
  lay : S.L = L22
  fill : Fill3 S.ps S.a S.en j
  len : S.sl.length = 10
  old : ∀ l, l < j → ∃ x : Sl, S.sl[l]? = some x ∧ x.used = true ∧ x.held = false ∧ x.gen = i + 1
  new : ∀ l, j ≤ l → l < 10 → ∃ x : Sl, S.sl[l]? = some x ∧ x.used = false ∧ x.gen = if l < k then i else 0
theorem CycB.start (k : Nat) : CycB (S0 12 8 10 L22) k 0 0 := by
  refine ⟨Good.start (by decide) (by decide) L22_right _, rfl, rfl, rfl, rfl, rfl, ⟨rfl, fun p hp => (by cases hp), fun h => (by cases h), fun _ => by decide⟩, by simp [S0], fun l hl => by omega, fun l _ hl => ⟨Sl.free, ?_, rfl, ?_⟩⟩
  · show (List.replicate 10 Sl.free)[l]? = _
    rw [List.getElem?_replicate, if_pos hl]
  · show 0 = _
    split <;> rfl
theorem CycB.makeOk {k i j : Nat} (h : CycB S k i j) (hj : j < k) (hk : k ≤ 10) (hi : i < 80) : ∃ y : Sl, MakeOk S j y 0 ∧ y.gen = i := by
  obtain ⟨y, h1, h2, h3⟩ := h.new j (Nat.le_refl _) (by omega)
  rw [if_pos hj] at h3
  refine ⟨y, h.good.makeOk h1 h2 (fun l hl => ?_) (by omega) (by decide) (by omega) (Or.inl rfl) (by rw [h.lay, L22_size]; decide) ?_, h3⟩
  · obtain ⟨x, k1, k2, -⟩ := h.old l hl
    unfold usedB
    rw [List.getD_eq_getElem?_getD, k1]
    exact k2
  · rw [h.lay, L22_size, h.wd]
    obtain ⟨f1, f2, f3, f4⟩ := h.fill
    rcases Nat.mod_two_eq_zero_or_one j with hm | hm
    · refine Or.inr ?_
      obtain ⟨c, hc, h0⟩ := h.good.free1 (by
        unfold HS.all
        rw [h.on, if_neg (by decide), chunksL_one f2, f1, h.c]
        omega)
      exact ⟨c, hc, fun q k1 k2 => by rw [show q = c by omega]; exact h0⟩
    · have := f3 hm
      exact Or.inl (by omega)
def letGo (S1 : HS) (j gen ad : Nat) : HS := { mkS S1 j gen ad 0 with sl := (mkS S1 j gen ad 0).sl.set j ⟨gen, true, ad, 1, false, false⟩ }
theorem CycB.made {k i j ad : Nat} (h : CycB S k i j) (hj : j < k) (hk : k ≤ 10) (hi : i < 80) (ha : AllocSt S 3 ad S1) : (mkS S1 j (i + 1) ad 0).sl[j]? = some ⟨i + 1, true, ad, 1, true, false⟩ ∧ CycB (letGo S1 j (i + 1) ad) k i (j + 1) := by
  obtain ⟨y, h1, h2, h3⟩ := h.new j (Nat.le_refl _) (by omega)
  have hf := h.fill.alloc h.wd ha
  have hs : S1.C = S.C ∧ S1.Wd = S.Wd ∧ S1.K = S.K ∧ S1.L = S.L ∧ S1.sl = S.sl ∧ S1.on = S.on := by rcases ha with ⟨_, _, e⟩ | ⟨_, c, q, _, _, _, _, e⟩ <;> rw [e] <;> exact ⟨rfl, rfl, rfl, rfl, rfl, rfl⟩
  obtain ⟨e1, e2, e3, e4, e5, e6⟩ := hs
  have hlt : j < S1.sl.length := by rw [e5, h.len]; omega
  obtain ⟨g1, -⟩ := h.good.make (c := 0) (i := j) (gen := i + 1) (by rw [h.lay, L22_size]; exact ha) h1 h2 (by omega) (by omega) (by decide) (Or.inl rfl) (by rw [h.lay, L22_size]; decide) (cnt' := z0) rfl (fun _ _ => rfl)
  have hsl : (mkS S1 j (i + 1) ad 0).sl[j]? = some ⟨i + 1, true, ad, 1, true, false⟩ := List.getElem?_set_self hlt
  obtain ⟨g2, -⟩ := g1.mark hsl rfl false
  have hne : ∀ l, l ≠ j → (letGo S1 j (i + 1) ad).sl[l]? = S.sl[l]? := fun l hl => by
    show ((S1.sl.set j _).set j _)[l]? = _
    rw [List.getElem?_set_ne (fun e => hl e.symm), List.getElem?_set_ne (fun e => hl e.symm), e5]
  refine ⟨hsl, g2, e6.trans h.on, e1.trans h.c, e2.trans h.wd, e3.trans h.kk, e4.trans h.lay, hf, ?_, fun l hl => ?_, fun l h4 h5 => ?_⟩
  · show ((S1.sl.set j _).set j _).length = _
    rw [List.length_set, List.length_set, e5, h.len]
  · by_cases hlj : l = j
    · subst hlj
      refine ⟨⟨i + 1, true, ad, 1, false, false⟩, ?_, rfl, rfl, rfl⟩
      show ((S1.sl.set l _).set l _)[l]? = _
      rw [List.getElem?_set_self (by rw [List.length_set]; exact hlt)]
    · rw [hne l hlj]
      exact h.old l (by omega)
  · rw [hne l (by omega)]
    exact h.new l (by omega) h5
theorem cntB_zero {B : Nat → Bool} : ∀ {n : Nat}, (∀ i, i < n → B i = false) → cntB B n = 0 := fun h => by
  rw [cntB_congr h]
  rename_i n
  induction n with
  | zero => rfl
  | succ n ih =>
    have := ih (fun i hi => h i (by omega))
    unfold cntB
    simp [this]
theorem CycB.mine {k i : Nat} (h : CycB S k i k) (hk : k ≤ 10) : S.mine = (List.range k).map (fun j : Nat => (j : Int)) := by
  refine rises_eq h.good.rise ?_ (fun z => ?_)
  · rw [List.pairwise_map]
    exact List.pairwise_lt_range.imp (fun h => by omega)
  · rw [h.good.mine, List.mem_map]
    constructor
    · rintro ⟨j, x, rfl, hx, hu⟩
      refine ⟨j, List.mem_range.2 (Classical.byContradiction fun hn => ?_), rfl⟩
      have hj : j < 10 := by rw [← h.len]; exact (List.getElem?_eq_some_iff.1 hx).1
      obtain ⟨y, k1, k2, -⟩ := h.new j (by omega) hj
      rw [hx] at k1
      cases k1
      rw [hu] at k2
      cases k2
    · rintro ⟨j, hj, rfl⟩
      obtain ⟨x, k1, k2, -⟩ := h.old j (List.mem_range.1 hj)
      exact ⟨j, x, rfl, k1, k2⟩
theorem CycB.begs {k i : Nat} (h : CycB S k i k) (hk : k ≤ 10) : (begS S).gs = GS.new ∧ Good (begS S) z0 := by
  have hf : S.mine.filter (heldB S.sl) = [] := by
    rw [List.filter_eq_nil_iff]
    intro z hz
    rw [h.mine hk] at hz
    obtain ⟨j, hj, rfl⟩ := List.mem_map.1 hz
    obtain ⟨x, k1, -, k2, -⟩ := h.old j (List.mem_range.1 hj)
    unfold heldB
    rw [Int.toNat_natCast, k1]
    simp [k2]
  refine ⟨?_, (h.good.begin h.on _).1⟩
  unfold begS
  rw [hf]
  rfl
def CycJ (S : HS) (n : Nat) (S' : HS) : Prop := n = 0 ∧ S' = begS S
theorem CycB.evJ {k i : Nat} (h : CycB S k i k) (hk : k ≤ 10) (hi : i < 80) : EvJ (CycJ S) z0 := by
  obtain ⟨hg, hgood⟩ := h.begs hk
  refine ⟨?_, ?_, ?_, ?_, ?_⟩
  · rintro n S' ⟨rfl, rfl⟩
    have hnx : (begS S).gs.next.2 = (begS S).gs := by rw [hg]; rfl
    refine ⟨rfl, by rw [hg]; unfold GS.Small GS.new; simp, Or.inl ⟨by rw [hg]; rfl, by rw [hg]; rfl, rfl, ?_⟩⟩
    rw [hnx]
  · rintro n S' ⟨rfl, rfl⟩; omega
  · rintro n S' ⟨rfl, rfl⟩; exact hgood
  · rintro n S' ⟨rfl, rfl⟩; rfl
  · rintro n S' ⟨rfl, rfl⟩ j x hx hu
    have hx' : S.sl[j]? = some x := hx
    have hj : j < 10 := by rw [← h.len]; exact (List.getElem?_eq_some_iff.1 hx').1
    by_cases hjk : j < k
    · obtain ⟨y, k1, -, -, k2⟩ := h.old j hjk
      rw [hx'] at k1
      cases k1
      omega
    · obtain ⟨y, k1, k2, -⟩ := h.new j (by omega) hj
      rw [hx'] at k1
      cases k1
      rw [hu] at k2
      cases k2
theorem CycB.fin {k i : Nat} {S3 : HS} {fr : List Int} (h : CycB S k i k) (hk : k ≤ 10) (hf : FinR (begS S) z0 S3 fr) : CycB S3 k (i + 1) 0 ∧ ((begS S).mine.filter (whiteB (begS S))).length = k ∧ cntB (onB S3.own) 12 = 0 ∧ cntB (usedB S3.sl) 10 = 0 := by
  obtain ⟨hg, hgood⟩ := h.begs hk
  have hmine := h.mine hk
  have hcol : ∀ z : Int, (begS S).gs.color z = 0 := fun z => by rw [hg]; rfl
  have hsl : ∀ j, j < 10 → ∃ x : Sl, S3.sl[j]? = some x ∧ x.used = false ∧ x.gen = if j < k then i + 1 else 0 := fun j hj => by
    have := hf.sl j
    by_cases hjk : j < k
    · obtain ⟨x, k1, k2, -, k3⟩ := h.old j hjk
      have hm : (j : Int) ∈ (begS S).mine := by
        show (j : Int) ∈ S.mine
        rw [hmine]
        exact List.mem_map.2 ⟨j, List.mem_range.2 hjk, rfl⟩
      have k1' : (begS S).sl[j]? = some x := k1
      rw [if_pos ⟨hm, hcol _⟩, k1'] at this
      exact ⟨goneS x, this, rfl, by rw [if_pos hjk]; exact k3⟩
    · obtain ⟨x, k1, k2, k3⟩ := h.new j (by omega) hj
      have hm : ¬ ((j : Int) ∈ (begS S).mine ∧ (begS S).gs.color j = 0) := fun e => by
        have e1 : (j : Int) ∈ S.mine := e.1
        rw [hmine] at e1
        obtain ⟨l, hl, e2⟩ := List.mem_map.1 e1
        have := List.mem_range.1 hl
        omega
      have k1' : (begS S).sl[j]? = some x := k1
      rw [if_neg hm, k1'] at this
      exact ⟨x, this, k2, by rw [k3, if_neg hjk, if_neg hjk]⟩
  have hlen : S3.sl.length = 10 := by
    have h1 : ∀ j, 10 ≤ j → S3.sl[j]? = none := fun j hj => by
      rw [hf.sl j]
      have : (begS S).sl[j]? = none := List.getElem?_eq_none (by show S.sl.length ≤ j; rw [h.len]; exact hj)
      rw [this]
      split <;> rfl
    obtain ⟨x, hx, -⟩ := hsl 9 (by decide)
    have h2 := (List.getElem?_eq_some_iff.1 hx).1
    have h3 := List.getElem?_eq_none_iff.1 (h1 10 (Nat.le_refl _))
    omega
  have hno : ∀ (j : Nat) (x : Sl), S3.sl[j]? = some x → x.used = false := fun j x hx => by
    have hj : j < 10 := by rw [← hlen]; exact (List.getElem?_eq_some_iff.1 hx).1
    obtain ⟨y, k1, k2, -⟩ := hsl j hj
    rw [hx] at k1
    cases k1
    exact k2
  obtain ⟨stay, p1, p2, p3⟩ := hf.ps
  have hst : ∀ c, c ∉ stay := fun c hc => by
    obtain ⟨j, x, -, hx, hu, -⟩ := (p3 c).1 hc
    rw [hno j x hx] at hu
    cases hu
  have hps : S3.ps = [] := by
    rw [p1]
    have : (begS S).ps2 = [] := rfl
    rw [this, List.append_nil, List.filter_eq_nil_iff]
    intro p _
    simp [hst]
  have hC : S3.C = 12 := hf.fix.1.trans h.c
  refine ⟨⟨hf.good, hf.on, hC, hf.fix.2.1.trans h.wd, hf.fix.2.2.1.trans h.kk, hf.fix.2.2.2.trans h.lay, ⟨by rw [hps]; rfl, by rw [hps]; intro p hp; (cases hp), fun h => by (cases h), fun _ => ?_⟩, hlen, fun l hl => by omega, fun l _ hl => hsl l hl⟩, ?_, ?_, ?_⟩
  · obtain ⟨a1, a2, a3⟩ := hf.good.at1
    by_cases hlt : S3.a < S3.en
    · obtain ⟨⟨c, hc, -⟩, -⟩ := a3 hlt
      rw [hps] at hc
      cases hc
    · omega
  · rw [filter_all (fun z _ => by unfold whiteB; simp [hcol])]
    show S.mine.length = k
    rw [hmine]
    simp
  · refine cntB_zero fun c hc => ?_
    unfold onB
    rw [decide_eq_false_iff_not]
    intro hn
    obtain ⟨p, hp, -⟩ := hf.good.own c hn
    unfold HS.all at hp
    rw [hf.on, if_neg (by decide), hps] at hp
    cases hp
  · refine cntB_zero fun j hj => ?_
    unfold usedB
    obtain ⟨x, k1, k2, -⟩ := hsl j hj
    rw [List.getD_eq_getElem?_getD, k1]
    exact k2
end Go.Proofs.YtcdpnfchmpncjaaGreatDoor
