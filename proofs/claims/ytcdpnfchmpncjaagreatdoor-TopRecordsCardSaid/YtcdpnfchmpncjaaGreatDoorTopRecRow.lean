/-
  TopRecords answers true for every input, and leaves its arguments as they were. No condition but the card's: math/bits' table deBruijn64tab starts as the program's text lays it (tied).
-/
import Derived.Test.YtcdpnfchmpncjaaGreatDoorTie
import Derived.Test.YtcdpnfchmpncjaaGreatDoorCards
import Derived.ShutString
import Derived.ChangeOld
import Derived.SevenTiedAt
import Derived.Test.YtcdpnfchmpncjaaGreatDoorTopRec6
set_option linter.unusedSimpArgs false
set_option linter.unusedVariables false
namespace Go.Proofs.YtcdpnfchmpncjaaGreatDoor.topRecordsRow
open Go.ChangeShapes Go.WideShapes Go.ChangeAt Go.RowKit Go.Tr Go.Deep
theorem own : ownKnob Tryz.prog.godebug = none := by kernel_rfl
theorem laidOut : laidOutB Tryz.prog = true := by kernel_rfl
theorem cellsInt : Tryz.prog.cellsOf 3 = 1 := by kernel_rfl
theorem cellsL : Tryz.prog.cellsOf 42 = 1 := by kernel_rfl
theorem cellsLay : Tryz.prog.cellsOf 60 = 4 := by kernel_rfl
section
variable {H : Type} {enc : TypeId × Value → H} {P : Program} {w : World} {base : Nat} {sp : Nat → Bool} {held : Bool}
theorem openS {t e : TypeId} {v : Value} {y : DataW H × List MemPlace} {k : Nat} (ht : P.underlying t = some (.slice e)) (he : P.underlying e = some (.int .i64)) (hc : P.cellsOf e = 1)
    (h : DataW.trod enc P w base sp held k t [v] = some y) : ∃ a c zs, v = .slice a zs.length c ∧ SeqAt w a (ints zs) := by
  have hs : ∃ a' n' c', v = .slice a' n' c' := by
    rcases open_slice ht h with ⟨hcs2, _⟩ | ⟨x2, l2, c2', _, _, _, _, hcs2, _⟩
    · simp at hcs2; exact ⟨_, _, _, hcs2⟩
    · simp at hcs2; exact ⟨_, _, _, hcs2⟩
  obtain ⟨a', n', c'', rfl⟩ := hs
  obtain ⟨zs, r1, r2, -⟩ := openI (a := a') (n := n') (c := c'') (d := y.1) (ps := y.2) ht he hc ⟨k, by simpa [Value.cells] using h⟩
  exact ⟨a', c'', zs, by rw [r2], r1⟩
theorem openLay {t : TypeId} {f0 f1 f2 f3 : Field} {cs : Array Value} {d : DataW H} {ps : List MemPlace} {ti : TypeId} (ht : P.underlying t = some (.struct #[f0, f1, f2, f3])) (hcs : cs.size = 4)
    (o0 : f0.offset = 0) (o1 : f1.offset = 1) (o2 : f2.offset = 2) (o3 : f3.offset = 3) (c0 : P.cellsOf f0.type = 1) (c1 : P.cellsOf f1.type = 1) (c2 : P.cellsOf f2.type = 1) (c3 : P.cellsOf f3.type = 1)
    (k0 : P.underlying f0.type = some (.int .i64)) (k1 : P.underlying f1.type = some (.slice ti)) (k2 : P.underlying f2.type = some (.int .i64)) (k3 : P.underlying f3.type = some (.slice ti)) (ki : P.underlying ti = some (.int .i64)) (ci : P.cellsOf ti = 1)
    (h : DataW.Trod enc P w base sp held t (.agg cs) d ps) : ∃ R : RawL, RawAt w (.agg cs) R := by
  obtain ⟨fuel, hf⟩ := h
  obtain ⟨xs, k, hk, hxy, _, hxl, hff⟩ := DataW.trod_struct ht hf
  obtain ⟨l⟩ := cs
  match l, hcs, xs, hxl with
  | [v0, v1, v2, v3], _, [y0, y1, y2, y3], _ =>
    have g0 := hff 0 f0 rfl
    have g1 := hff 1 f1 rfl
    have g2 := hff 2 f2 rfl
    have g3 := hff 3 f3 rfl
    simp [o0, o1, o2, o3, c0, c1, c2, c3, Value.cells] at g0 g1 g2 g3
    obtain ⟨u, e0, _, _⟩ := DataW.trod_int k0 g0
    obtain ⟨v, e2, _, _⟩ := DataW.trod_int k2 g2
    simp at e0 e2
    subst e0 e2
    obtain ⟨ra, rc, xs1, rfl, hs1⟩ := openS k1 ki ci g1
    obtain ⟨sa, sc, ys1, rfl, hs2⟩ := openS k3 ki ci g3
    exact ⟨⟨u, xs1, v, ys1⟩, ra, rc, sa, sc, rfl, hs1, hs2⟩
end
theorem door_met (os : Os) (args : Array Value) : laidMetH Tryz.prog laidTab ((World.doorLaid Tryz.prog 400 os).forCall (fun _ _ => 0) ⟨#[], args, []⟩).memory :=
  laidMetH_of_parts3 (fuel := 8) (laidMet_of_run' 8 (by kernel_rfl) (by kernel_rfl)) (by kernel_rfl) (by kernel_rfl)
set_option maxRecDepth 100000 in
theorem lifted (os : Os) (started : os.Started) (H : Type) (enc : TypeId × Value → H) :
    ReturnsInHanded {} Tryz.checked os 4 .any (fun w args => (Rows.topRecordsSpec.pre enc Tryz.prog Tryz.f4 [] false w args ∧ laidMetH Tryz.prog laidTab w) ∧ sizedMet enc Tryz.prog Tryz.f4 (OpenSpec.ofChange Rows.topRecordsSpec) false w args)
      (Rows.topRecordsSpec.post enc Tryz.prog Tryz.f4 false true false false) := by
  refine returnsInHanded_of_change_and (C := Tryz.checked) (X := fun w _ => laidMetH Tryz.prog laidTab w) (fun _ _ _ hh h => h.of_heap hh) own started (by kernel_rfl) Tryz.func4
    (ChangeSpec.witness_shaped (enc := enc) (C := Tryz.checked) (os := os) (X := fun w _ => laidMetH Tryz.prog laidTab w) false (World.doorLaid Tryz.prog 400 os) #[.agg #[.int .i64 0, .slice none 0 0, .int .i64 0, .slice none 0 0], .int .i64 0, .int .i64 0] 8 rfl (World.shaped_of_RefB (by kernel_rfl) (by kernel_rfl)) (by kernel_rfl) (by kernel_rfl) (by kernel_rfl) (door_met os _)) ?_
  intro W base args ds gs before hval0 hW _ _ hL _
  have hval : ∀ (j : Nat) t v, Tryz.f4.params[j]? = some t → args[j]? = some v → Value.okWide Tryz.prog W .any base t v := hval0
  have hW' := hW
  obtain ⟨p, q, hA0, hV, rfl, hfz, hnd⟩ := hW
  have hA : DataW.TrodAll enc Tryz.prog W 0 (fun _ => true) true Tryz.f4.params.toList args.toList ds p := hA0
  rw [Tryz.params4] at hA hval
  obtain ⟨v0, vs0, d0, ds0, p0, q0, hargs, rfl, rfl, h0, r0⟩ := trodAll_cons hA
  obtain ⟨v1, vs1, d1, ds1, p1, q1, rfl, rfl, rfl, h1, r1⟩ := trodAll_cons r0
  obtain ⟨v2, vs2, d2, ds2, p2, q2, rfl, rfl, rfl, h2, r2⟩ := trodAll_cons r1
  obtain ⟨rfl, rfl, rfl⟩ := trodAll_nil r2
  obtain rfl : args = #[v0, v1, v2] := by cases args; simp_all
  obtain ⟨rfl, rfl⟩ := trodVars_none hV
  obtain ⟨cs, rfl, hcs⟩ := okWide_struct Tryz.underlying60 (hval 0 60 v0 rfl rfl)
  obtain ⟨R, hR⟩ := openLay Tryz.underlying60 (hcs.trans cellsLay) rfl rfl rfl rfl cellsInt cellsL cellsInt cellsL Tryz.underlying3 Tryz.underlying42 Tryz.underlying3 Tryz.underlying42 Tryz.underlying3 cellsInt h0
  obtain ⟨x1, rfl, rfl, rfl, w1⟩ := open_int Tryz.underlying3 (hval 1 3 v1 rfl rfl) h1
  obtain ⟨x2, rfl, rfl, rfl, w2⟩ := open_int Tryz.underlying3 (hval 2 3 v2 rfl rfl) h2
  clear hA0 hval0
  refine (toprecords_any x1 x2 W (of_laid hL) hR).mono fun e W' ⟨he, bel⟩ => ?_
  subst he
  exact ⟨_, rfl, _, _, _, [], _, [], hW', trodAll_mk1 (shut_bool Tryz.underlying4 _), (trodAll_cons_mk (Below.trod laidOut (by kernel_rfl) (of_decide_eq_true (by kernel_rfl)) h0 bel (trod_blocks h0)) (trodAll_cons_mk (shut_int Tryz.underlying3 w1) (trodAll_cons_mk (shut_int Tryz.underlying3 w2) trodAll_mk0))), rfl, bel.frame _, fun h => by cases h⟩
theorem row_holds : Rows.TopRecordsSaid :=
  OpenClaim.holds_of_wide 4 Tryz.f4 rfl rfl rfl rfl rfl rfl rfl ⟨rfl, rfl, rfl, rfl, rfl⟩ rfl rfl rfl rfl rfl (by kernel_rfl) Tryz.func4 (by kernel_rfl)
    (of_decide_eq_true (by kernel_rfl)) (by unfold Func.isWrapper; first | (rw [if_pos (by decide +kernel)]; kernel_rfl) | (rw [if_neg (by decide +kernel)]; exact ⟨rfl, rfl⟩))
    (fun os started H enc _ => lifted os started H enc)
theorem holds : Rows.TopRecordsCardSaid :=
  Claim7.holds_tied_plain_at .later [] [.data] true (true, "ce4f7ac395743fc01522a43a614f783031b3aae40ec839a5c7975a4adb70583a") false
    row_holds (fun _ h => by cases h) (by kernel_rfl) (fun _ h => by cases h) topRecords_row_tie rfl ⟨rfl, rfl⟩ (by kernel_rfl) rfl
    (fun f fn hf hfn => by
      obtain rfl : f = 4 := Option.some.inj ((show Tryz.prog.funcNamed "turnrow/turnrowtop.TopRecords" = some 4 by kernel_rfl).symm.trans hf) |>.symm
      obtain rfl : fn = Tryz.f4 := (Option.some.inj (Tryz.func4.symm.trans hfn)).symm
      exact ⟨by kernel_rfl, fun j t ht => by
        rw [Tryz.params4] at ht
        have hm : t ∈ [60, 3, 3] := by simpa using Array.mem_of_getElem? ht
        have hall : ([60, 3, 3].all fun u => !Tryz.prog.wantsStandIn u) = true := by kernel_rfl
        exact (show Tryz.prog.wantsStandIn t = false by simpa using List.all_eq_true.1 hall t hm)⟩)
    (by kernel_rfl)
#print axioms holds
end Go.Proofs.YtcdpnfchmpncjaaGreatDoor.topRecordsRow
