/-
  Parts of the proof, one behind the other: KNew1, KNew2, KNew3, KTop1.
-/
import Derived.Test.YtcdpnfchmpncjaaGreatDoorMa40
set_option linter.unusedSimpArgs false
set_option linter.unusedVariables false
namespace Go.Proofs.YtcdpnfchmpncjaaGreatDoor
open Go.RowKit Go.Tr Go.Shelf
def P0 (A : Ad) (C Wd K : Nat) (bk : Option Lay) (ts : TS) (sp mn : List (Int × Value)) (ev us bg : Bool) : Nat → Part
  | 0 => fun w F => CellsAt w F A sp mn
  | 1 => fun w F => StF w F A.s C Wd (List.replicate (C * Wd) 0) (List.replicate C 0)
  | 2 => fun w F => match bk with | none => Bk0 w F A.b | some L => Bk1 w F A.b L ∧ RightLay L
  | 3 => fun w F => TbF w F A.t K (List.replicate K Sl.free)
  | 4 => fun w F => TrF w F A ts
  | 5 => fun w F => RemF w F A.rm
  | 6 => fun w F => us = true → SpF 154 w F A.u A.s 1 [] 0 0
  | 7 => fun w F => bg = true → Bag w A.bg F []
  | 8 => fun w F => F A.m ∧ ImAt w A.m A.s A.b
  | 9 => fun w F => ev = true → EvAt w F A false
  | _ => fun _ _ => True
theorem p0_parts (A : Ad) (C Wd K : Nat) (bk : Option Lay) (ts : TS) (sp mn : List (Int × Value)) (ev us bg : Bool) : Parts (P0 A C Wd K bk ts sp mn ev us bg) := by
  refine ⟨fun j w w' F h hk => ?_, fun j w F G h hs => ?_⟩
  · match j with
    | 0 => exact CellsAt.kept h hk
    | 1 => exact StF.kept h hk
    | 2 => cases bk with
      | none => exact Bk0.kept h hk
      | some L => exact ⟨Bk1.kept h.1 hk, h.2⟩
    | 3 => exact TbF.kept h hk
    | 4 => exact TrF.kept h hk
    | 5 => exact RemF.kept h hk
    | 6 => exact fun e => SpF.kept (h e) hk
    | 7 => exact fun e => Bag.kept (h e) hk
    | 8 => exact ⟨h.1, (hk _ h.1 (block_lt h.2)).trans h.2⟩
    | 9 => exact fun e => ⟨(h e).1, (hk _ (h e).1 (block_lt (h e).2)).trans (h e).2⟩
    | _ + 10 => trivial
  · match j with
    | 0 => exact ⟨hs _ h.1, hs _ h.2.1, hs _ h.2.2.1, h.2.2.2⟩
    | 1 => exact StF.mono h hs
    | 2 => cases bk with
      | none => exact ⟨hs _ h.1, h.2⟩
      | some L => exact ⟨Bk1.mono h.1 hs, h.2⟩
    | 3 => exact TbF.mono h hs
    | 4 => exact ⟨hs _ h.1, hs _ h.2.1, h.2.2⟩
    | 5 => exact RemF.mono h hs
    | 6 => exact fun e => SpF.mono (h e) hs
    | 7 => exact fun e => Bag.mono (h e) hs
    | 8 => exact ⟨hs _ h.1, h.2⟩
    | 9 => exact fun e => ⟨hs _ (h e).1, (h e).2⟩
    | _ + 10 => trivial
def Nw (w w' : World) : Nat → Prop := fun k => w.heap.size ≤ k ∧ k < w'.heap.size
theorem made_parts {w w1 w2 w3 w4 w5 w6 w7 : World} {A : Ad} {C Wd K : Nat} (h1 : StF w1 (Nw w w1) A.s C Wd (List.replicate (C * Wd) 0) (List.replicate C 0)) (b1 : Below w.heap.size w w1) (h2 : TbF w2 (Nw w1 w2) A.t K (List.replicate K Sl.free)) (b2 : Below w1.heap.size w1 w2)
    (h3 : Bk0 w3 (Nw w2 w3) A.b) (b3 : Below w2.heap.size w2 w3) (h4 : ImAt w4 A.m A.s A.b) (b4 : Below w3.heap.size w3 w4) (h4n : w3.heap.size ≤ A.m) (h5 : TreeAt w5 A.tr A.trm TS.new) (b5 : Below w4.heap.size w4 w5) (h5n : w4.heap.size ≤ A.tr ∧ w4.heap.size ≤ A.trm)
    (h6 : RemF w6 (Nw w5 w6) A.rm) (b6 : Below w5.heap.size w5 w6) (h7 : CellsAt w7 (Nw w6 w7) A [] []) (b7 : Below w6.heap.size w6 w7) : Comp (P0 A C Wd K none TS.new [] [] false false false) w7 (Nw w w7) ∧ Below w.heap.size w w7 := by
  have s1 := b1.size
  have s2 := b2.size
  have s3 := b3.size
  have s4 := b4.size
  have s5 := b5.size
  have s6 := b6.size
  have s7 := b7.size
  have c6 : Below w6.heap.size w6 w7 := b7
  have c5 : Below w5.heap.size w5 w7 := b6.trans (b7.mono s6)
  have c4 : Below w4.heap.size w4 w7 := b5.trans (c5.mono s5)
  have c3 : Below w3.heap.size w3 w7 := b4.trans (c4.mono s4)
  have c2 : Below w2.heap.size w2 w7 := b3.trans (c3.mono s3)
  have c1 : Below w1.heap.size w1 w7 := b2.trans (c2.mono s2)
  have c0 : Below w.heap.size w w7 := b1.trans (c1.mono s1)
  have hp := p0_parts A C Wd K none TS.new [] [] false false false
  refine ⟨⟨fun k hk => hk.2, fun k => if k < w1.heap.size then 1 else if k < w2.heap.size then 3 else if k < w3.heap.size then 2 else if k < w4.heap.size then 8 else if k < w5.heap.size then 4 else if k < w6.heap.size then 5 else 0, fun j => ?_⟩, c0⟩
  match j with
  | 0 => exact hp.mono 0 w7 _ _ h7 (fun k hk => by obtain ⟨e1, e2⟩ := hk; refine ⟨⟨by omega, e2⟩, ?_⟩; show ite _ _ _ = _; repeat (rw [if_neg (by omega)]))
  | 1 => exact hp.mono 1 w7 _ _ (hp.kept 1 w1 w7 _ h1 (fun k hk hl => c1.block k hl)) (fun k hk => by obtain ⟨e1, e2⟩ := hk; refine ⟨⟨by omega, by omega⟩, ?_⟩; show ite _ _ _ = _; rw [if_pos (by omega)])
  | 2 => exact hp.mono 2 w7 _ _ (hp.kept 2 w3 w7 _ h3 (fun k hk hl => c3.block k hl)) (fun k hk => by obtain ⟨e1, e2⟩ := hk; refine ⟨⟨by omega, by omega⟩, ?_⟩; show ite _ _ _ = _; rw [if_neg (by omega), if_neg (by omega), if_pos (by omega)])
  | 3 => exact hp.mono 3 w7 _ _ (hp.kept 3 w2 w7 _ h2 (fun k hk hl => c2.block k hl)) (fun k hk => by obtain ⟨e1, e2⟩ := hk; refine ⟨⟨by omega, by omega⟩, ?_⟩; show ite _ _ _ = _; rw [if_neg (by omega), if_pos (by omega)])
  | 4 =>
    have hl := h5.lt
    have h5' : TrF w5 (Nw w4 w5) A TS.new := ⟨⟨h5n.1, hl.1⟩, ⟨h5n.2, hl.2⟩, h5⟩
    exact hp.mono 4 w7 _ _ (hp.kept 4 w5 w7 _ h5' (fun k hk hl => c5.block k hl)) (fun k hk => by obtain ⟨e1, e2⟩ := hk; refine ⟨⟨by omega, by omega⟩, ?_⟩; show ite _ _ _ = _; rw [if_neg (by omega), if_neg (by omega), if_neg (by omega), if_neg (by omega), if_pos (by omega)])
  | 5 => exact hp.mono 5 w7 _ _ (hp.kept 5 w6 w7 _ h6 (fun k hk hl => c6.block k hl)) (fun k hk => by obtain ⟨e1, e2⟩ := hk; refine ⟨⟨by omega, by omega⟩, ?_⟩; show ite _ _ _ = _; rw [if_neg (by omega), if_neg (by omega), if_neg (by omega), if_neg (by omega), if_neg (by omega), if_pos (by omega)])
  | 6 => intro e; cases e
  | 7 => intro e; cases e
  | 8 =>
    have hl := block_lt h4
    have h4' : Nw w3 w4 A.m ∧ ImAt w4 A.m A.s A.b := ⟨⟨h4n, hl⟩, h4⟩
    exact hp.mono 8 w7 _ _ (hp.kept 8 w4 w7 _ h4' (fun k hk hl => c4.block k hl)) (fun k hk => by obtain ⟨e1, e2⟩ := hk; refine ⟨⟨by omega, by omega⟩, ?_⟩; show ite _ _ _ = _; rw [if_neg (by omega), if_neg (by omega), if_neg (by omega), if_pos (by omega)])
  | 9 => intro e; cases e
  | _ + 10 => trivial
set_option maxRecDepth 100000 in
set_option maxHeartbeats 1000000 in
theorem cnew_any (C Wd K : Nat) (w : World) (h1 : 1 ≤ C) (h2 : C ≤ 1024) (h3 : 1 ≤ Wd) (h4 : Wd ≤ 1024) (h5 : 1 ≤ K) (h6 : K ≤ 4096) :
    Calls Tryz.prog 31 #[.int .i64 C, .int .i64 Wd, .int .i64 K] w fun e w' => ∃ A : Ad, e = .returned (.tuple #[.pointer (some ⟨A.c, 0, none⟩), .int .i64 0]) ∧ Comp (P0 A C Wd K none TS.new [] [] false false false) w' (Nw w w') ∧ Below w.heap.size w w' := by
  have HST := Lib.hid (snew_any C Wd w h1 h2 h3 h4)
  have HTB := Lib.hid (fun W => tnew_any K W h5 h6)
  clear h1 h2 h3 h4 h5 h6
  go_enter Tryz.func31, Tryz.ntmps31
  have hmm := @run_makeMap Tryz.prog
  go_wp2_with fail
  refine HST.out.mono ?_
  rintro e w1 ⟨s, rfl, p1, b1⟩
  have HP1 := Lib.hid (And.intro p1 b1)
  clear p1 b1
  go_wp2_with fail
  refine (HTB.out w1).mono ?_
  rintro e w2 ⟨t, rfl, p1, b1⟩
  have HP2 := Lib.hid (And.intro p1 b1)
  clear p1 b1
  go_wp2_with fail
  refine (lbook_any w2).mono ?_
  rintro e w3 ⟨rfl, p1, b1⟩
  obtain ⟨b, hb⟩ : ∃ b, b = w2.heap.size := ⟨_, rfl⟩
  have HP3 : Hid (Bk0 w3 (Nw w2 w3) b ∧ Below w2.heap.size w2 w3) := ⟨by rw [hb]; exact p1, b1⟩
  rw [← hb]
  clear p1 b1 hb
  go_wp2_with fail
  refine (inew_any s b w3).mono ?_
  rintro e w4 ⟨rfl, p1, b1, -⟩
  obtain ⟨m, hm⟩ : ∃ m, m = w3.heap.size := ⟨_, rfl⟩
  have HP4 : Hid (ImAt w4 m s b ∧ Below w3.heap.size w3 w4) := ⟨by rw [hm]; exact p1, b1⟩
  rw [← hm]
  have HM : Hid (w3.heap.size ≤ m) := Nat.le_of_eq hm.symm
  clear p1 b1 hm
  go_wp2_with fail
  refine (qnew_any w4).mono ?_
  rintro e w5 ⟨tr, trm, rfl, p1, b1, n1, n2⟩
  have HP5 := Lib.hid (And.intro p1 (And.intro b1 (And.intro n1 n2)))
  clear p1 b1 n1 n2
  go_wp2_with fail
  refine (rnew_any w5).mono ?_
  rintro e w6 ⟨rm, rfl, p1, b1⟩
  have HP6 := Lib.hid (And.intro p1 b1)
  clear p1 b1
  go_wp2
  go_ret2
  have k1 := MapI.made w6
  have k2 := MapI.made (w6.alloc (.map #[] 0))
  have k3 := heap_alloc_new ((w6.alloc (.map #[] 0)).alloc (.map #[] 0)) (.cells #[.pointer (some ⟨s, 0, none⟩), .pointer (some ⟨b, 0, none⟩), .pointer (some ⟨m, 0, none⟩), .pointer (some ⟨t, 0, none⟩), .pointer (some ⟨tr, 0, none⟩), .pointer (some ⟨rm, 0, none⟩), .map (some w6.heap.size), .map (some (w6.heap.size + 1))] 56)
  simp only [World.size_alloc] at k2 k3
  have hb := ((((Below.refl _ w6).alloc (Nat.le_refl _) (.map #[] 0)).alloc (by simp) (.map #[] 0)).alloc (by simp <;> omega) (.cells #[.pointer (some ⟨s, 0, none⟩), .pointer (some ⟨b, 0, none⟩), .pointer (some ⟨m, 0, none⟩), .pointer (some ⟨t, 0, none⟩), .pointer (some ⟨tr, 0, none⟩), .pointer (some ⟨rm, 0, none⟩), .map (some w6.heap.size), .map (some (w6.heap.size + 1))] 56))
  refine ⟨⟨w6.heap.size + 1 + 1, 0, s, b, m, t, tr, trm, rm, w6.heap.size, w6.heap.size + 1, 0, 0, 0, 0⟩, rfl, made_parts HP1.out.1 HP1.out.2 HP2.out.1 HP2.out.2 HP3.out.1 HP3.out.2 HP4.out.1 HP4.out.2 HM.out HP5.out.1 HP5.out.2.1 HP5.out.2.2 HP6.out.1 HP6.out.2 ⟨⟨by simp <;> omega, by simp⟩, ⟨by simp, by simp <;> omega⟩, ⟨by simp, by simp <;> omega⟩, by simp, k3, ?_, ?_⟩ hb⟩
  · exact (k1.kept (Below.heap_alloc _ _ _ (by simp))).kept (Below.heap_alloc _ _ _ (by simp <;> omega))
  · exact k2.kept (Below.heap_alloc _ _ _ (by simp))
end Go.Proofs.YtcdpnfchmpncjaaGreatDoor
namespace Go.Proofs.YtcdpnfchmpncjaaGreatDoor
open Go.RowKit Go.Tr Go.Shelf
variable {w w' : World} {F F1 : Nat → Prop} {A : Ad} {C Wd K : Nat} {L : Lay} {X X' : Nat → Part} {W W' : World}
theorem Comp.add (hp : Parts X) (hp' : Parts X') (h : Comp X w F) (hb : Below w.heap.size w w') (i : Nat) (he : ∀ j, j ≠ i → X' j = X j) (hi : X' i w' (Nw w w')) : Comp X' w' (grow F w w') := by
  obtain ⟨hF, tau, ht⟩ := h
  refine ⟨grow_lt hF hb.size, fun k => if k < w.heap.size then tau k else i, fun j => ?_⟩
  by_cases hj : j = i
  · subst hj
    refine hp'.mono j w' _ _ hi (fun k hk => ⟨Or.inr hk, ?_⟩)
    show ite _ _ _ = _
    rw [if_neg (by have := hk.1; omega)]
  · rw [he j hj]
    refine hp.mono j w' _ _ (hp.kept j w w' _ (ht j) (fun k _ hl => hb.block k hl)) (fun k hk => ⟨Or.inl hk.1, ?_⟩)
    show ite _ _ _ = _
    rw [if_pos (hF k hk.1)]
    exact hk.2
def RunX (X : Nat → Part) (w : World) (F : Nat → Prop) (W : World) (F1 : Nat → Prop) : Prop := Comp X W F1 ∧ Only F w W ∧ ∀ k, F1 k → F k ∨ w.heap.size ≤ k
theorem RunX.start (h : Comp X w F) : RunX X w F w F := ⟨h, Only.refl _ _, fun k hk => Or.inl hk⟩
theorem RunX.op (h : RunX X w F W F1) (k : Comp X' W' (grow F1 W W') ∧ Only F1 W W') : RunX X' w F W' (grow F1 W W') :=
  ⟨k.1, h.2.1.trans k.2 h.2.2, fun j hj => hj.elim (h.2.2 j) (fun hj => Or.inr (Nat.le_trans h.2.1.size hj.1))⟩
theorem RunX.below (hp : Parts X) (h : RunX X w F W F1) (hb : Below W.heap.size W W') : RunX X w F W' F1 :=
  ⟨h.1.below hp hb, h.2.1.trans (Only.of_below hb (fun _ => False)) (fun k hk => hk.elim), h.2.2⟩
theorem RunX.fin (hp : Parts X) (h : RunX X w F W F1) (hF : ∀ k, F k → k < w.heap.size) : Comp X W (grow F w W) ∧ Only F w W :=
  ⟨Comp.mono hp h.1 (fun k hk => (h.2.2 k hk).imp id (fun h2 => ⟨h2, h.1.1 k hk⟩)) (grow_lt hF h.2.1.size), h.2.1⟩
set_option maxRecDepth 100000 in
theorem enew_any (C Wd K : Nat) (w : World) (h1 : 1 ≤ C) (h2 : C ≤ 1024) (h3 : 1 ≤ Wd) (h4 : Wd ≤ 1024) (h5 : 1 ≤ K) (h6 : K ≤ 4096) :
    Calls Tryz.prog 6 #[.int .i64 C, .int .i64 Wd, .int .i64 K] w fun e w' => ∃ A : Ad, e = .returned (.tuple #[.pointer (some ⟨A.h, 0, none⟩), .int .i64 0]) ∧ Comp (P0 A C Wd K none TS.new [] [] true false false) w' (Nw w w') ∧ Below w.heap.size w w' := by
  have HC := Lib.hid (cnew_any C Wd K w h1 h2 h3 h4 h5 h6)
  clear h1 h2 h3 h4 h5 h6
  go_enter Tryz.func6, Tryz.ntmps6
  go_wp2_with fail
  refine HC.out.mono ?_
  rintro e w1 ⟨A, rfl, p1, b1⟩
  go_wp2
  go_ret2
  have hb := (Below.refl _ w1).alloc (Nat.le_refl _) (.cells #[.pointer (some ⟨A.c, 0, none⟩), .int .i64 0, .pointer none, .pointer none] 31)
  refine ⟨{ A with h := w1.heap.size }, rfl, Comp.mono (p0_parts _ _ _ _ _ _ _ _ _ _ _) (Comp.add (p0_parts _ _ _ _ _ _ _ _ _ _ _) (p0_parts { A with h := w1.heap.size } C Wd K none TS.new [] [] true false false) p1 hb 9 (fun j hj => ?_) (fun _ => ⟨⟨Nat.le_refl _, by simp⟩, heap_alloc_new w1 _⟩)) (fun k hk => ?_) (fun k hk => hk.2), b1.trans (hb.mono b1.size)⟩
  · unfold P0
    split <;> first | rfl | exact absurd rfl hj
  · have := hb.size
    have := b1.size
    rcases hk with hk | hk
    · exact ⟨hk.1, by have := hk.2; omega⟩
    · exact ⟨by have := hk.1; omega, hk.2⟩
theorem p0_fields {bk : Option Lay} {ts : TS} {sp mn : List (Int × Value)} {ev us bg : Bool} (h : Comp (P0 A C Wd K bk ts sp mn ev us bg) w F) {W : World} (hb : Below w.heap.size w W) : W.cell? ⟨A.c, 0, none⟩ = some (.pointer (some ⟨A.s, 0, none⟩)) ∧ W.cell? ⟨A.c, 1, none⟩ = some (.pointer (some ⟨A.b, 0, none⟩)) ∧ W.cell? ⟨A.c, 2, none⟩ = some (.pointer (some ⟨A.m, 0, none⟩)) ∧ W.cell? ⟨A.c, 3, none⟩ = some (.pointer (some ⟨A.t, 0, none⟩)) ∧ W.cell? ⟨A.c, 4, none⟩ = some (.pointer (some ⟨A.tr, 0, none⟩)) ∧ W.cell? ⟨A.c, 5, none⟩ = some (.pointer (some ⟨A.rm, 0, none⟩)) ∧ W.cell? ⟨A.c, 6, none⟩ = some (.map (some A.sp)) ∧ W.cell? ⟨A.c, 7, none⟩ = some (.map (some A.mn)) := by
  obtain ⟨G, hG, h0⟩ := (h.below (p0_parts _ _ _ _ _ _ _ _ _ _ _) hb).read 0
  obtain ⟨-, -, -, -, h1, -⟩ : CellsAt W G A sp mn := h0
  refine ⟨?_, ?_, ?_, ?_, ?_, ?_, ?_, ?_⟩ <;> · rw [(cells_of_block h1 _).1]; rfl
theorem p0_ev {bk : Option Lay} {ts : TS} {sp mn : List (Int × Value)} {us bg : Bool} (h : Comp (P0 A C Wd K bk ts sp mn true us bg) w F) {W : World} (hb : Below w.heap.size w W) : W.cell? ⟨A.h, 0, none⟩ = some (.pointer (some ⟨A.c, 0, none⟩)) := by
  obtain ⟨G, hG, h0⟩ := (h.below (p0_parts _ _ _ _ _ _ _ _ _ _ _) hb).read 9
  obtain ⟨-, h1⟩ : EvAt W G A false := h0 rfl
  rw [(cells_of_block h1 _).1]; rfl
theorem p0_add (h : Comp (P0 A C Wd K none TS.new [] [] true false false) w F) (hr : RightLay L) {v : Value} (hv : LayAt w v L) : Calls Tryz.prog 33 #[.pointer (some ⟨A.b, 0, none⟩), v] w fun e w' => e = .returned (.tuple #[.int .i64 1, .int .i64 0]) ∧ Comp (P0 A C Wd K (some L) TS.new [] [] true false false) w' (grow F w w') ∧ Only F w w' := by
  obtain ⟨G, hG, h1, -, hput⟩ := h.part1 (p0_parts _ _ _ _ _ _ _ _ _ _ _) 2
  have h1' : Bk0 w G A.b := h1
  refine (ladd_any w h1' hv hr).mono fun e w' ⟨e1, e2, e3⟩ => ⟨e1, hput (P0 A C Wd K (some L) TS.new [] [] true false false) w' (p0_parts _ _ _ _ _ _ _ _ _ _ _) (fun j hj => ?_) ⟨e2, hr⟩ e3⟩
  unfold P0
  split <;> first | rfl | exact absurd rfl hj
set_option maxRecDepth 100000 in
set_option maxHeartbeats 1000000 in
theorem cdefine_any (w1 w2 : Nat) (wa : Option Addr) (wc : Nat) (w : World) (h : Comp (P0 A C Wd K none TS.new [] [] true false false) w F) (hT : Tz w) (hs : SeqAt w wa (us [L.fixed + L.record * 256, w1, w2])) (hr : RightLay L) (h1 : w1 < 18446744073709551616) (h2 : w2 < 18446744073709551616) (he1 : spreadL w1 = L.refs) (he2 : spreadL w2 = L.recs) :
    Calls Tryz.prog 8 #[.pointer (some ⟨A.c, 0, none⟩), .slice wa 3 wc] w fun e w' => e = .returned (.tuple #[.int .i64 1, .int .i64 0]) ∧ Comp (P0 A C Wd K (some L) TS.new [] [] true false false) w' (grow F w w') ∧ Only F w w' := by
  have HDE := Lib.hid (ldecode_any L w1 w2 wa wc w hs hT hr h1 h2 he1 he2)
  have HRX := Lib.hid (RunX.start h)
  have HLT := Lib.hid h.1
  have HR := Lib.hid hr
  clear h hT hs hr h1 h2 he1 he2
  go_enter Tryz.func8, Tryz.ntmps8
  go_wp2_with fail
  refine HDE.out.mono ?_
  rintro e w3 ⟨v, rfl, hv, hb⟩
  have HV := Lib.hid hv
  obtain ⟨ra, rc, sa, sc, rfl, -, -⟩ := hv
  have HRX3 := Lib.hid (HRX.out.below (p0_parts _ _ _ _ _ _ _ _ _ _ _) hb)
  obtain ⟨n1, hn1⟩ : ∃ n, n = L.fixed := ⟨_, rfl⟩
  obtain ⟨n2, hn2⟩ : ∃ n, n = L.record := ⟨_, rfl⟩
  obtain ⟨n3, hn3⟩ : ∃ n, n = L.refs.length := ⟨_, rfl⟩
  obtain ⟨n4, hn4⟩ : ∃ n, n = L.recs.length := ⟨_, rfl⟩
  rw [← hn1, ← hn2, ← hn3, ← hn4] at HV ⊢
  clear hn1 hn2 hn3 hn4 hb
  have hba : Below w3.heap.size w3 (w3.alloc (.cells #[.int .i64 n1, .slice ra n3 rc, .int .i64 n2, .slice sa n4 sc] 60)) := (Below.refl _ w3).alloc (Nat.le_refl _) _
  have HRX4 := Lib.hid (HRX3.out.below (p0_parts _ _ _ _ _ _ _ _ _ _ _) hba)
  have HV4 := Lib.hid (HV.out.kept hba)
  have HX4 := Lib.hid (heap_alloc_new w3 (.cells #[.int .i64 n1, .slice ra n3 rc, .int .i64 n2, .slice sa n4 sc] 60))
  obtain ⟨xb, hxb⟩ : ∃ xb, xb = w3.heap.size := ⟨_, rfl⟩
  rw [← hxb] at HX4
  have HXF : Hid (¬ F xb) := fun hf => by have h1 := HLT.out xb hf; have h2 := HRX3.out.2.1.size; omega
  clear hba
  go_wp2_with fail
  rw [← hxb]
  clear hxb
  generalize w3.alloc (.cells #[.int .i64 n1, .slice ra n3 rc, .int .i64 n2, .slice sa n4 sc] 60) = w4 at *
  obtain ⟨-, c1, -⟩ := p0_fields HRX4.out.1 (Below.refl _ _)
  have x0 := (cells_of_block HX4.out 0).1
  have x1 := (cells_of_block HX4.out 1).1
  have x2 := (cells_of_block HX4.out 2).1
  have x3 := (cells_of_block HX4.out 3).1
  simp at x0 x1 x2 x3
  have HRX5 := Lib.hid (HRX4.out.below (p0_parts _ _ _ _ _ _ _ _ _ _ _) (Below.refl _ _).drew)
  have HV5 := Lib.hid (HV4.out.kept (Below.refl _ _).drew)
  have HXN : Hid (¬ F xb ∧ xb < w4.heap.size) := ⟨HXF.out, block_lt HX4.out⟩
  refine wp_region_held_drew (S := fun W => W.cell? ⟨A.c, 1, none⟩ = some (.pointer (some ⟨A.b, 0, none⟩)) ∧ W.cell? ⟨xb, 0, none⟩ = some (.int .i64 n1) ∧ W.cell? ⟨xb, 1, none⟩ = some (.slice ra n3 rc) ∧ W.cell? ⟨xb, 2, none⟩ = some (.int .i64 n2) ∧ W.cell? ⟨xb, 3, none⟩ = some (.slice sa n4 sc)) (by kernel_rfl) ⟨c1, x0, x1, x2, x3⟩ (fun hH => ?_)
  clear c1 x0 x1 x2 x3
  refine tk 0 (v := ?_) rfl ?_ ?_; rotate_left; · intro W hW; obtain ⟨d0, d1, d2, d3, d4⟩ := hW; go_simp; try with_reducible rfl
  try simp only [Act.put, List.setIfInBounds_toArray, List.set_cons_zero, List.set_cons_succ]
  refine tk 1 (v := ?_) rfl ?_ ?_; rotate_left; · intro W hW; obtain ⟨d0, d1, d2, d3, d4⟩ := hW; go_simp; try with_reducible rfl
  try simp only [Act.put, List.setIfInBounds_toArray, List.set_cons_zero, List.set_cons_succ]
  refine tk 2 (v := ?_) rfl ?_ ?_; rotate_left; · intro W hW; obtain ⟨d0, d1, d2, d3, d4⟩ := hW; go_simp; try with_reducible rfl
  try simp only [Act.put, List.setIfInBounds_toArray, List.set_cons_zero, List.set_cons_succ]
  refine tk 3 (v := ?_) rfl ?_ ?_; rotate_left; · intro W hW; obtain ⟨d0, d1, d2, d3, d4⟩ := hW; go_simp; try with_reducible rfl
  try simp only [Act.put, List.setIfInBounds_toArray, List.set_cons_zero, List.set_cons_succ]
  refine tk 4 (v := ?_) rfl ?_ ?_; rotate_left; · intro W hW; obtain ⟨d0, d1, d2, d3, d4⟩ := hW; go_simp; try with_reducible rfl
  try simp only [Act.put, List.setIfInBounds_toArray, List.set_cons_zero, List.set_cons_succ]
  refine rd 5 rfl (fun K hK => ?_)
  go_simp
  refine (p0_add HRX5.out.1 HR.out HV5.out).mono ?_
  rintro e w6 ⟨rfl, h6⟩
  have HRX6 := Lib.hid (HRX5.out.op h6)
  have hx6 := (h6.2.block xb HXN.out.2 HXN.out.1).trans HX4.out
  refine hK.out _ _ ⟨(p0_fields HRX6.out.1 (Below.refl _ _)).2.1, (cells_of_block hx6 0).1, (cells_of_block hx6 1).1, (cells_of_block hx6 2).1, (cells_of_block hx6 3).1⟩ (fun hH => ?_)
  clear h6 hx6 hK K
  refine tk 6 (v := ?_) rfl ?_ ?_; rotate_left; · intro W hW; go_simp; try with_reducible rfl
  try simp only [Act.put, List.setIfInBounds_toArray, List.set_cons_zero, List.set_cons_succ]
  refine tk 7 (v := ?_) rfl ?_ ?_; rotate_left; · intro W hW; go_simp; try with_reducible rfl
  try simp only [Act.put, List.setIfInBounds_toArray, List.set_cons_zero, List.set_cons_succ]
  refine tk 8 (v := ?_) rfl ?_ ?_; rotate_left; · intro W hW; go_simp; try with_reducible rfl
  try simp only [Act.put, List.setIfInBounds_toArray, List.set_cons_zero, List.set_cons_succ]
  refine tk 9 (v := ?_) rfl ?_ ?_; rotate_left; · intro W hW; go_simp; try with_reducible rfl
  try simp only [Act.put, List.setIfInBounds_toArray, List.set_cons_zero, List.set_cons_succ]
  refine wpAnyH_done (by kernel_rfl) ?_ _
  go_wp2_with fail
  go_ret2
  exact ⟨rfl, HRX6.out.fin (p0_parts _ _ _ _ _ _ _ _ _ _ _) HLT.out⟩
end Go.Proofs.YtcdpnfchmpncjaaGreatDoor
namespace Go.Proofs.YtcdpnfchmpncjaaGreatDoor
open Go.RowKit Go.Tr Go.Shelf
variable {w w' : World} {F F1 : Nat → Prop} {A : Ad} {C Wd K : Nat} {L : Lay} {X X' : Nat → Part} {W W' : World}
def S0 (C Wd K : Nat) (L : Lay) : HS := ⟨C, Wd, K, L, List.replicate (C * Wd) 0, List.replicate C 0, List.replicate K Sl.free, [], [], 0, 0, false, [], 0, 0, GS.new⟩
theorem p0_tree (h : Comp (P0 A C Wd K (some L) TS.new [] [] true false false) w F) : Calls Tryz.prog 34 #[.pointer (some ⟨A.tr, 0, none⟩), .int .i64 0] w fun e w' => e = .returned (.tuple #[.int .i64 1, .int .i64 0]) ∧ Comp (P0 A C Wd K (some L) tree1 [] [] true false false) w' (grow F w w') ∧ Only F w w' := by
  obtain ⟨G, hG, h1, -, hput⟩ := h.part1 (p0_parts _ _ _ _ _ _ _ _ _ _ _) 4
  obtain ⟨f1, f2, ht⟩ : TrF w G A TS.new := h1
  refine (qadd_any 0 w ht TS.WF.new (by decide)).mono fun e w' ⟨e1, e2, e3⟩ => ⟨by rw [e1]; rfl, hput (P0 A C Wd K (some L) tree1 [] [] true false false) w' (p0_parts _ _ _ _ _ _ _ _ _ _ _) (fun j hj => ?_) ⟨Or.inl f1, Or.inl f2, e2⟩ (e3.mono (fun k hk => hk.elim (fun e => by rw [e]; exact f1) (fun e => by rw [e]; exact f2)))⟩
  unfold P0
  split <;> first | rfl | exact absurd rfl hj
theorem p0_space (h : Comp (P0 A C Wd K (some L) tree1 [] [] true false false) w F) : Calls Tryz.prog 35 #[.pointer (some ⟨A.s, 0, none⟩), .int .i64 1] w fun e w' => ∃ u, e = .returned (.tuple #[.pointer (some ⟨u, 0, none⟩), .int .i64 0]) ∧ Comp (P0 { A with u := u } C Wd K (some L) tree1 [] [] true true false) w' (grow F w w') ∧ Only F w w' := by
  refine (unew_any A.s 1 w (Nat.le_refl _)).mono fun e w' ⟨e1, e2, e3⟩ => ⟨w.heap.size, e1, Comp.add (p0_parts _ _ _ _ _ _ _ _ _ _ _) (p0_parts _ _ _ _ _ _ _ _ _ _ _) h (e3.below (Nat.le_refl _) (fun k hk => hk.elim)) 6 (fun j hj => ?_) (fun _ => ?_), e3.mono (fun k hk => hk.elim)⟩
  · unfold P0
    split <;> first | rfl | exact absurd rfl hj
  · exact SpF.mono e2 (fun k hk => hk.elim (fun h => h.elim) id)
theorem p0_bag (h : Comp (P0 A C Wd K (some L) tree1 [(1, pv A.u)] [] true true false) w F) : Calls Tryz.prog 36 #[.slice none 0 0] w fun e w' => ∃ g, e = .returned (.pointer (some ⟨g, 0, none⟩)) ∧ Comp (P0 { A with bg := g } C Wd K (some L) tree1 [(1, pv A.u)] [] true true true) w' (grow F w w') ∧ Only F w w' := by
  refine (bnew_any none 0 0 [] w (fun h => by cases h) rfl (by decide)).mono fun e w' ⟨g, v, e1, e2, e3⟩ => ⟨g, e1, Comp.add (p0_parts _ _ _ _ _ _ _ _ _ _ _) (p0_parts _ _ _ _ _ _ _ _ _ _ _) h e3 7 (fun j hj => ?_) (fun _ => ?_), Only.of_below e3 F⟩
  · unfold P0
    split <;> first | rfl | exact absurd rfl hj
  · have hz : setL [] = [] := List.eq_nil_of_length_eq_zero (Nat.le_zero.1 (setL_length []))
    rw [hz] at e2
    refine ⟨v, ⟨e2.block, ⟨e2.own.1, e2.own.2.imp id (fun ⟨k, cap, cur, h1, h2, h3⟩ => ⟨k, cap, cur, h1, Nat.zero_le _, h3⟩)⟩, e2.ne, Nat.zero_le _, e2.rises⟩, ⟨e2.newg, e2.lt⟩, fun k hk => e2.own.lt k hk⟩
theorem MapI.ne_block {l : List (Int × Value)} {b c : Nat} {cs : Array Value} {T : TypeId} {fr : Nat × Nat} (h : MapI w b l) (k : w.heap[c]? = some (.cells cs T fr)) : c ≠ b := fun e => by
  obtain ⟨es, ck, h1, -⟩ := h
  rw [e, h1] at k
  cases k
theorem p0_sp (h : Comp (P0 A C Wd K (some L) tree1 [] [] true true false) w F) : ∃ w', (Instr.mapUpdate 53 (.map (some A.sp)) (.int .i64 1) (.pointer (some ⟨A.u, 0, none⟩))).run Tryz.prog w = .ok () w' ∧ Comp (P0 A C Wd K (some L) tree1 [(1, pv A.u)] [] true true false) w' (grow F w w') ∧ Only F w w' := by
  obtain ⟨G, hG, h1, -, hput⟩ := h.part1 (p0_parts _ _ _ _ _ _ _ _ _ _ _) 0
  obtain ⟨f1, f2, f3, f4, h2, h3, h4⟩ : CellsAt w G A [] [] := h1
  obtain ⟨w', hr, hm, hg, hs⟩ := h3.put (P := Tryz.prog) Tryz.underlying53 Tryz.underlying3 1 (.pointer (some ⟨A.u, 0, none⟩))
  have ho : Only G w w' := (Only.refl G w).grown hg (fun k hk => Or.inl (by cases hk; exact f2))
  refine ⟨w', hr, hput (P0 A C Wd K (some L) tree1 [(1, pv A.u)] [] true true false) w' (p0_parts _ _ _ _ _ _ _ _ _ _ _) (fun j hj => ?_) ⟨Or.inl f1, Or.inl f2, Or.inl f3, f4, (hg.block _ (block_lt h2) (fun e => MapI.ne_block h3 h2 (by first | exact Option.some.inj e | exact (Option.some.inj e).symm))).trans h2, hm, h4.kept (hg.block _ h4.lt (fun e => f4 (by first | exact Option.some.inj e | exact (Option.some.inj e).symm)))⟩ ho⟩
  unfold P0
  split <;> first | rfl | exact absurd rfl hj
theorem p0_mn (h : Comp (P0 A C Wd K (some L) tree1 [(1, pv A.u)] [] true true true) w F) : ∃ w', (Instr.mapUpdate 54 (.map (some A.mn)) (.int .i64 1) (.pointer (some ⟨A.bg, 0, none⟩))).run Tryz.prog w = .ok () w' ∧ Comp (P0 A C Wd K (some L) tree1 [(1, pv A.u)] [(1, pv A.bg)] true true true) w' (grow F w w') ∧ Only F w w' := by
  obtain ⟨G, hG, h1, -, hput⟩ := h.part1 (p0_parts _ _ _ _ _ _ _ _ _ _ _) 0
  obtain ⟨f1, f2, f3, f4, h2, h3, h4⟩ : CellsAt w G A [(1, pv A.u)] [] := h1
  obtain ⟨w', hr, hm, hg, hs⟩ := h4.put (P := Tryz.prog) Tryz.underlying54 Tryz.underlying3 1 (.pointer (some ⟨A.bg, 0, none⟩))
  have ho : Only G w w' := (Only.refl G w).grown hg (fun k hk => Or.inl (by cases hk; exact f3))
  refine ⟨w', hr, hput (P0 A C Wd K (some L) tree1 [(1, pv A.u)] [(1, pv A.bg)] true true true) w' (p0_parts _ _ _ _ _ _ _ _ _ _ _) (fun j hj => ?_) ⟨Or.inl f1, Or.inl f2, Or.inl f3, f4, (hg.block _ (block_lt h2) (fun e => MapI.ne_block h4 h2 (by first | exact Option.some.inj e | exact (Option.some.inj e).symm))).trans h2, h3.kept (hg.block _ h3.lt (fun e => f4 (by first | exact Option.some.inj e | exact (Option.some.inj e).symm))), hm⟩ ho⟩
  unfold P0
  split <;> first | rfl | exact absurd rfl hj
theorem p0_pp (h : Comp (P0 A C Wd K (some L) tree1 [(1, pv A.u)] [(1, pv A.bg)] true true true) w F) : Comp (PP A (S0 C Wd K L)) w F := by
  obtain ⟨h1, tau, ht⟩ := h
  refine ⟨h1, tau, fun j => ?_⟩
  have := ht j
  match j with
  | 0 => exact this
  | 1 => exact this
  | 2 => exact this
  | 3 => exact this
  | 4 => exact this
  | 5 => exact this
  | 6 => exact this rfl
  | 7 => exact this rfl
  | 8 => exact this
  | 9 => exact this rfl
  | 10 => intro h; cases h
  | 11 => intro h; cases h
  | _ + 12 => trivial
set_option maxRecDepth 100000 in
set_option maxHeartbeats 1000000 in
theorem copen_any (w : World) (h : Comp (P0 A C Wd K (some L) TS.new [] [] true false false) w F) (hT : TzF w F) :
    Calls Tryz.prog 9 #[.pointer (some ⟨A.c, 0, none⟩), .int .i64 0] w fun e w' => e = .returned (.tuple #[.int .i64 1, .int .i64 0]) ∧ ∃ u bg, HeapF w' (grow F w w') { A with u := u, bg := bg } (S0 C Wd K L) ∧ Only F w w' := by
  have HRX := Lib.hid (RunX.start h)
  have HLT := Lib.hid h.1
  have HTZ := Lib.hid hT
  obtain ⟨-, -, -, -, c4, -⟩ := p0_fields h (Below.refl _ _)
  have HTR := Lib.hid (p0_tree h)
  clear h hT
  go_enter Tryz.func9, Tryz.ntmps9
  go_wp2_with fail
  refine HTR.out.mono ?_
  rintro e w1 ⟨rfl, h1⟩
  have HRX1 := Lib.hid ((HRX.out.op h1).below (p0_parts _ _ _ _ _ _ _ _ _ _ _) (Below.refl _ _).drew)
  have hc : w1.cell? ⟨A.c, 0, none⟩ = some (.pointer (some ⟨A.s, 0, none⟩)) ∧ w1.cell? ⟨A.c, 6, none⟩ = some (.map (some A.sp)) := by
    obtain ⟨c0, -, -, -, -, -, c6, -⟩ := p0_fields h1.1 (Below.refl _ _)
    exact ⟨c0, c6⟩
  clear h1 c4
  go_wp2_with fail
  refine wp_region_held_drew (S := fun W => W.cell? ⟨A.c, 0, none⟩ = some (.pointer (some ⟨A.s, 0, none⟩)) ∧ W.cell? ⟨A.c, 6, none⟩ = some (.map (some A.sp))) (by kernel_rfl) hc (fun hH => ?_)
  clear hc
  refine tk 0 (v := ?_) rfl ?_ ?_; rotate_left; · intro W hW; obtain ⟨d0, d6⟩ := hW; go_simp; try with_reducible rfl
  try simp only [Act.put, List.setIfInBounds_toArray, List.set_cons_zero, List.set_cons_succ]
  refine tk 1 (v := ?_) rfl ?_ ?_; rotate_left; · intro W hW; obtain ⟨d0, d6⟩ := hW; go_simp; try with_reducible rfl
  try simp only [Act.put, List.setIfInBounds_toArray, List.set_cons_zero, List.set_cons_succ]
  refine tk 2 (v := ?_) rfl ?_ ?_; rotate_left; · intro W hW; obtain ⟨d0, d6⟩ := hW; go_simp; try with_reducible rfl
  try simp only [Act.put, List.setIfInBounds_toArray, List.set_cons_zero, List.set_cons_succ]
  refine tk 3 (v := ?_) rfl ?_ ?_; rotate_left; · intro W hW; obtain ⟨d0, d6⟩ := hW; go_simp; try with_reducible rfl
  try simp only [Act.put, List.setIfInBounds_toArray, List.set_cons_zero, List.set_cons_succ]
  refine tk 4 (v := ?_) rfl ?_ ?_; rotate_left; · intro W hW; obtain ⟨d0, d6⟩ := hW; go_simp; try with_reducible rfl
  try simp only [Act.put, List.setIfInBounds_toArray, List.set_cons_zero, List.set_cons_succ]
  refine tk 5 (v := ?_) rfl ?_ ?_; rotate_left; · intro W hW; obtain ⟨d0, d6⟩ := hW; go_simp; try with_reducible rfl
  try simp only [Act.put, List.setIfInBounds_toArray, List.set_cons_zero, List.set_cons_succ]
  refine tk 6 (v := ?_) rfl ?_ ?_; rotate_left; · intro W hW; obtain ⟨d0, d6⟩ := hW; go_simp; try with_reducible rfl
  try simp only [Act.put, List.setIfInBounds_toArray, List.set_cons_zero, List.set_cons_succ]
  refine tk 7 (v := ?_) rfl ?_ ?_; rotate_left; · intro W hW; obtain ⟨d0, d6⟩ := hW; go_simp; try with_reducible rfl
  try simp only [Act.put, List.setIfInBounds_toArray, List.set_cons_zero, List.set_cons_succ]
  refine tk 8 (v := ?_) rfl ?_ ?_; rotate_left; · intro W hW; obtain ⟨d0, d6⟩ := hW; go_simp; try with_reducible rfl
  try simp only [Act.put, List.setIfInBounds_toArray, List.set_cons_zero, List.set_cons_succ]
  refine tk 9 (v := ?_) rfl ?_ ?_; rotate_left; · intro W hW; obtain ⟨d0, d6⟩ := hW; go_simp; try with_reducible rfl
  try simp only [Act.put, List.setIfInBounds_toArray, List.set_cons_zero, List.set_cons_succ]
  refine rd 10 rfl (fun K hK => ?_)
  go_simp
  refine (p0_space HRX1.out.1).mono ?_
  rintro e w2 ⟨u, rfl, h2⟩
  have HRX2 := Lib.hid (HRX1.out.op h2)
  have hf := p0_fields HRX2.out.1 (Below.refl _ _)
  refine hK.out _ _ ⟨hf.1, hf.2.2.2.2.2.2.1⟩ (fun hH => ?_)
  clear h2 hf hK K
  refine tk 11 (v := ?_) rfl ?_ ?_; rotate_left; · intro W hW; go_simp; try with_reducible rfl
  try simp only [Act.put, List.setIfInBounds_toArray, List.set_cons_zero, List.set_cons_succ]
  refine tk 12 (v := ?_) rfl ?_ ?_; rotate_left; · intro W hW; go_simp; try with_reducible rfl
  try simp only [Act.put, List.setIfInBounds_toArray, List.set_cons_zero, List.set_cons_succ]
  refine tk 13 (v := ?_) rfl ?_ ?_; rotate_left; · intro W hW; go_simp; try with_reducible rfl
  try simp only [Act.put, List.setIfInBounds_toArray, List.set_cons_zero, List.set_cons_succ]
  obtain ⟨w3, hrun, h3⟩ := p0_sp HRX2.out.1
  have HRX3 := Lib.hid (HRX2.out.op h3)
  refine rd 14 rfl (fun K hK => ?_)
  simp only at hrun
  go_simp
  have hf := p0_fields HRX3.out.1 (Below.refl _ _)
  refine hK.out _ _ ⟨hf.1, hf.2.2.2.2.2.2.1⟩ (fun hH => ?_)
  have hc : w3.cell? ⟨A.c, 7, none⟩ = some (.map (some A.mn)) := hf.2.2.2.2.2.2.2
  clear h3 hf hK K hrun
  refine wpAnyH_done (by kernel_rfl) ?_ _
  go_wp2_with fail
  have HRX3' := Lib.hid (HRX3.out.below (p0_parts _ _ _ _ _ _ _ _ _ _ _) (Below.refl _ _).drew)
  refine wp_region_held_drew (S := fun W => W.cell? ⟨A.c, 7, none⟩ = some (.map (some A.mn))) (by kernel_rfl) hc (fun hH => ?_)
  clear hc HRX3
  refine tk 0 (v := ?_) rfl ?_ ?_; rotate_left; · intro W hW; go_simp; try with_reducible rfl
  try simp only [Act.put, List.setIfInBounds_toArray, List.set_cons_zero, List.set_cons_succ]
  refine tk 1 (v := ?_) rfl ?_ ?_; rotate_left; · intro W hW; go_simp; try with_reducible rfl
  try simp only [Act.put, List.setIfInBounds_toArray, List.set_cons_zero, List.set_cons_succ]
  refine tk 2 (v := ?_) rfl ?_ ?_; rotate_left; · intro W hW; go_simp; try with_reducible rfl
  try simp only [Act.put, List.setIfInBounds_toArray, List.set_cons_zero, List.set_cons_succ]
  refine tk 3 (v := ?_) rfl ?_ ?_; rotate_left; · intro W hW; go_simp; try with_reducible rfl
  try simp only [Act.put, List.setIfInBounds_toArray, List.set_cons_zero, List.set_cons_succ]
  refine tk 4 (v := ?_) rfl ?_ ?_; rotate_left; · intro W hW; go_simp; try with_reducible rfl
  try simp only [Act.put, List.setIfInBounds_toArray, List.set_cons_zero, List.set_cons_succ]
  refine rd 5 rfl (fun K hK => ?_)
  go_simp
  refine (p0_bag HRX3'.out.1).mono ?_
  rintro e w4 ⟨bg, rfl, h4⟩
  have HRX4 := Lib.hid (HRX3'.out.op h4)
  refine hK.out _ _ (p0_fields HRX4.out.1 (Below.refl _ _)).2.2.2.2.2.2.2 (fun hH => ?_)
  clear h4 hK K
  obtain ⟨w5, hrun, h5⟩ := p0_mn HRX4.out.1
  have HRX5 := Lib.hid (HRX4.out.op h5)
  refine rd 6 rfl (fun K hK => ?_)
  simp only at hrun
  go_simp
  refine hK.out _ _ (p0_fields HRX5.out.1 (Below.refl _ _)).2.2.2.2.2.2.2 (fun hH => ?_)
  clear h5 hK K hrun
  refine wpAnyH_done (by kernel_rfl) ?_ _
  go_wp2
  go_ret2
  obtain ⟨k1, k2⟩ := HRX5.out.fin (p0_parts _ _ _ _ _ _ _ _ _ _ _) HLT.out
  exact ⟨rfl, ⟨u, bg, p0_pp k1, HTZ.out.grow (U := F) k2⟩, k2⟩
end Go.Proofs.YtcdpnfchmpncjaaGreatDoor
namespace Go.Proofs.YtcdpnfchmpncjaaGreatDoor
open Go.RowKit Go.Tr Go.Shelf
variable {w w' : World} {F : Nat → Prop} {A : Ad} {S S1 : HS} {cnt : Nat → Nat} {ct : Nat → Nat → Nat}
theorem HeapF.sfree (h : HeapF w F A S) {W : World} (hb : Below w.heap.size w W) : Calls Tryz.prog 13 #[.pointer (some ⟨A.s, 0, none⟩)] W fun e w' => e = .returned (.int .i64 ((S.C : Int) - (cntB (onB S.own) S.C : Nat))) ∧ Drawn W w' := by
  obtain ⟨G, hG, h1⟩ := (h.below hb).1.read 1
  exact sfree_any W h1
theorem HeapF.tused (h : HeapF w F A S) {W : World} (hb : Below w.heap.size w W) : Calls Tryz.prog 14 #[.pointer (some ⟨A.t, 0, none⟩)] W fun e w' => e = .returned (.int .i64 (cntB (usedB S.sl) S.K : Nat)) ∧ Drawn W w' := by
  obtain ⟨G, hG, -⟩ := (h.below hb).table
  exact tused_any W hG
theorem HeapF.tleft (h : HeapF w F A S) {W : World} (hb : Below w.heap.size w W) : Calls Tryz.prog 15 #[.pointer (some ⟨A.t, 0, none⟩)] W fun e w' => e = .returned (.int .i64 ((S.K : Int) - (cntB (usedB S.sl) S.K : Nat))) ∧ Drawn W w' := by
  obtain ⟨G, hG, -⟩ := (h.below hb).table
  exact tleft_any W hG
theorem HeapF.qlen (h : HeapF w F A S) {W : World} (hb : Below w.heap.size w W) : Calls Tryz.prog 16 #[.pointer (some ⟨A.tr, 0, none⟩)] W fun e w' => e = .returned (.int .i64 1) ∧ W = w' := by
  obtain ⟨G, hG, h1⟩ := (h.below hb).1.read 4
  obtain ⟨-, -, ht⟩ : TrF W G A tree1 := h1
  exact (qlen_any W ht).mono fun e w' ⟨e1, e2⟩ => ⟨by rw [e1]; rfl, e2⟩
structure MakeOk (S : HS) (i : Nat) (y : Sl) (count : Nat) : Prop where
  right : RightLay S.L
  room : RoomOk S (S.L.size count + 1)
  sl : S.sl[i]? = some y
  free : y.used = false
  low : ∀ j, j < i → usedB S.sl j = true
  gen : y.gen ≤ 255
  cn : count ≤ 1024
  slot : i < 4096
  rc : count = 0 ∨ S.L.record ≠ 0
  size : S.L.size count < 8192
  ml : S.mine.length ≤ 900000
  ok : ∀ addr S1, AllocSt S (S.L.size count + 1) addr S1 → addr + (S.L.size count + 1) ≤ S.C * S.Wd ∧ Owned S1.own S.Wd addr (S.L.size count + 1)
theorem Good.makeOk (h : Good S cnt) {i : Nat} {y : Sl} {c : Nat} (hy : S.sl[i]? = some y) (hu : y.used = false) (hlow : ∀ j, j < i → usedB S.sl j = true) (hg : y.gen < 255) (hc : c ≤ 1024) (hi : i < 4096) (hr : c = 0 ∨ S.L.record ≠ 0) (hs : S.L.size c < 8192)
    (hroom : S.a + (S.L.size c + 1) ≤ S.en ∨ ∃ q, q + (S.L.size c / S.Wd + 1) ≤ S.C ∧ ∀ k, q ≤ k → k < q + (S.L.size c / S.Wd + 1) → S.own.getD k 0 = 0) : MakeOk S i y c := by
  refine ⟨h.right, h.room (by omega) (by omega) ?_, hy, hu, hlow, by omega, hc, hi, hr, hs, by have := h.mine_len; omega, fun ad S1 ha => ?_⟩
  · rw [show S.L.size c + 1 - 1 = S.L.size c by omega]; exact hroom
  · obtain ⟨h1, h2, -⟩ := h.alloc (by omega) ha
    have e : S1.C = S.C ∧ S1.Wd = S.Wd := by rcases ha with ⟨_, _, e⟩ | ⟨_, c, q, _, _, _, _, e⟩ <;> rw [e] <;> exact ⟨rfl, rfl⟩
    exact ⟨by rw [← e.1, ← e.2]; exact h1.in_le h2.ap, by rw [← e.2]; exact h1.in_owned h2.ap (by omega)⟩
set_option maxRecDepth 100000 in
set_option maxHeartbeats 1000000 in
theorem emake_any {y : Sl} {i c : Nat} (w : World) (h : HeapF w F A S) (hoff : S.on = false) (hm : MakeOk S i y c) :
    Calls Tryz.prog 10 #[.pointer (some ⟨A.h, 0, none⟩), .int .i64 1, .int .i64 1, .int .i64 c] w fun e w' => e = .returned (.tuple #[.agg #[.int .i64 i, .int .i64 (y.gen + 1 : Nat)], .int .i64 0]) ∧ ∃ addr S1, AllocSt S (S.L.size c + 1) addr S1 ∧ HeapF w' (grow F w w') A (mkS S1 i (y.gen + 1) addr c) ∧ Only F w w' := by
  have hba : Below w.heap.size w (w.alloc (.cells #[.int .i64 0, .int .i64 0] 38)) := (Below.refl _ w).alloc (Nat.le_refl _) _
  have HMK := Lib.hid (cmake_any (count := c) _ (h.below hba) hm.right hm.room hm.sl hm.free hm.low hm.gen hm.cn hm.slot hm.rc hm.size hm.ml hm.ok)
  have HRN := Lib.hid ((Run.start h).below hba)
  have HLT := Lib.hid h.lt
  obtain ⟨e0, e1⟩ := h.evf0 hoff hba
  obtain ⟨rb, hrb⟩ : ∃ rb, rb = w.heap.size := ⟨_, rfl⟩
  have HBX : Hid (Bx (w.alloc (.cells #[.int .i64 0, .int .i64 0] 38)) F rb (.cells #[.int .i64 0, .int .i64 0] 38 (0, 0))) := by rw [hrb]; exact Bx.new h.lt
  have HRB : Hid (w.heap.size ≤ rb) := Nat.le_of_eq hrb.symm
  obtain ⟨gn, hgn⟩ : ∃ gn, gn = y.gen + 1 := ⟨_, rfl⟩
  rw [← hgn] at HMK ⊢
  clear h hm hba hoff hgn
  go_enter Tryz.func10, Tryz.ntmps10
  go_wp2_with fail
  rw [← hrb]
  clear hrb
  generalize w.alloc (.cells #[.int .i64 0, .int .i64 0] 38) = wa at *
  refine HMK.out.mono ?_
  rintro e w2 ⟨rfl, addr, S1, ha, h2⟩
  have HA := Lib.hid ha
  have HRN2 := Lib.hid (HRN.out.op h2)
  have HB2 := Lib.hid (HBX.out.op h2.2)
  have HBK := Lib.hid HB2.out.2
  clear ha h2 e0 e1
  have r0 := cells_of_block HBK.out 0
  have r1 := cells_of_block HBK.out 1
  simp at r0 r1
  obtain ⟨r0, f0⟩ := r0
  obtain ⟨r1, f1⟩ := r1
  go_wp2_with fail
  have hbk : ((w2.setCell ⟨rb, 0, none⟩ (.int .i64 i)).setCell ⟨rb, 1, none⟩ (.int .i64 gn)).heap[rb]? = some (.cells #[.int .i64 i, .int .i64 gn] 38 (0, 0)) := by
    simpa using block_setCell (block_setCell HBK.out 0 (.int .i64 i)) 1 (.int .i64 gn)
  try simp only [Exit.inBlock, Exit.then]
  exact bodyPost_ret (results_blk rfl _ _ rb _ _ _ _ rfl hbk Tryz.underlying38 rfl rfl) rfl ⟨rfl, addr, S1, HA.out, ((HRN2.out.loc HRB.out HB2.out.1).loc HRB.out HB2.out.1).fin HLT.out⟩
end Go.Proofs.YtcdpnfchmpncjaaGreatDoor
