/-
  turnrowlaw10.TreeFrees: the walk.
-/
import Derived.Test.YtaljeadagiifnaaTree5
set_option linter.unusedSimpArgs false
set_option linter.unusedVariables false
namespace Go.Proofs.Ytaljeadagiifnaa
open Go.RowKit Go.Tr

section
variable {w0 w w' : World} {g bm : Nat} {S S' : TS}
/-- The same with what the slice's block is: a new one. -/
theorem kidsO (id : Int) (w : World) (h : TInv w0 w g bm S) : Calls Try.prog 12 #[.pointer (some ⟨g, 0, none⟩), .int .i64 id] w fun e w' => ∃ a n c zs, e = .returned (.tuple #[.slice a n c, .int .i64 (TS.kidsE S id)]) ∧ w'.ownsRow w.heap.size 3 1 (.slice a n c) n (ints zs) ∧ zs.length = n ∧ n ≤ 64 ∧ KidsOf S id zs ∧ TInv w0 w' g bm S ∧ Below w.heap.size w w' := by
  refine (tkids_any id w h.tree h.wf).mono ?_
  rintro e w' ⟨v, zs, rfl, ho, hr, hm, hl, hb⟩
  obtain ⟨a, c, rfl, hs, -, -⟩ := ownsRow_seq ho
  exact ⟨a, _, c, zs, rfl, ho, rfl, hl, ⟨hr, hm⟩, h.read hb, hb⟩
theorem underO (id : Int) (w : World) (h : TInv w0 w g bm S) : Calls Try.prog 13 #[.pointer (some ⟨g, 0, none⟩), .int .i64 id] w fun e w' => ∃ a n c zs, e = .returned (.tuple #[.slice a n c, .int .i64 (TS.needE S id)]) ∧ w'.ownsRow w.heap.size 3 1 (.slice a n c) n (ints zs) ∧ zs.length = n ∧ n ≤ 64 ∧ UnderOf S id zs ∧ TInv w0 w' g bm S ∧ Below w.heap.size w w' := by
  refine (tunder_any id w h.tree h.wf).mono ?_
  rintro e w' ⟨v, zs, rfl, ho, hr, hm, hl, hb⟩
  obtain ⟨a, c, rfl, hs, -, -⟩ := ownsRow_seq ho
  exact ⟨a, _, c, zs, rfl, ho, rfl, hl, ⟨hr, hm⟩, h.read hb, hb⟩
/-- A slice that is newer than the tree stands where the tree is written. -/
theorem ownsRow_deed {base : Nat} {e : TypeId} {size n : Nat} {v : Value} {xs : List Value} (h : w.ownsRow base e size v n xs) (ho : Only (Fp g bm) w w') (h1 : g < base) (h2 : bm < base) : w'.ownsRow base e size v n xs :=
  ownsRow_kept h (fun k hk => ho.block k (h.lt k hk).2 (fun hf => by have := (h.lt k hk).1; rcases hf with rfl | rfl <;> omega))
theorem ownsRow_seq' {base : Nat} {e : TypeId} {size n c : Nat} {a : Option Addr} {xs : List Value} (h : w.ownsRow base e size (.slice a n c) n xs) : SeqAt w a xs := by
  obtain ⟨a', c', e, h, -, -⟩ := ownsRow_seq h
  cases e; exact h
end
theorem UnderOf.dead {S : TS} {id : Int} {us : List Int} (h : UnderOf S id us) (hd : S.has id = false) : us = [] := by
  cases us with
  | nil => rfl
  | cons y t => have := ((h.2 y).1 (by simp)).1; rw [hd] at this; cases this
theorem UnderOf.gone {S : TS} {id : Int} {us : List Int} (h : UnderOf S id us) : (S.free us).has id = false := by
  cases hh : (S.free us).has id with
  | false => rfl
  | true =>
    have := (has_free S us id).1 hh
    exact absurd ((h.2 id).2 ⟨this.1, .self⟩) this.2
theorem gone_mem {S : TS} {us : List Int} {x : Int} (h : x ∈ us) : (S.free us).has x = false := by
  cases hh : (S.free us).has x with
  | false => rfl
  | true => exact absurd h ((has_free S us x).1 hh).2
theorem par_free {S : TS} {us : List Int} {x : Int} (h : (S.free us).has x = true) : (S.free us).par x = S.par x := by
  have := ((has_free S us x).1 h).2
  unfold TS.par
  rw [look_free, if_neg (by rw [hasL_iff]; exact this)]
theorem UnderOf.len {S : TS} (hS : S.WF) {id : Int} {us : List Int} (h : UnderOf S id us) : (S.free us).tab.length + us.length = S.tab.length :=
  length_free hS (rises_nodup h.1) (fun x hx => by have := (h.2 x).1 hx; exact this.2.live this.1)
def parsL (S : TS) (k : Nat) : List Int := (List.range k).map fun j : Nat => S.par (j : Int)
theorem parsL_succ (S : TS) (k : Nat) : parsL S (k + 1) = parsL S k ++ [S.par k] := by simp [parsL, List.range_succ]
theorem parsL_length (S : TS) (k : Nat) : (parsL S k).length = k := by simp [parsL]
theorem parsL_at (S : TS) {k j : Nat} (h : j < k) : (parsL S k)[j]? = some (S.par j) := by simp [parsL, h]

set_option maxRecDepth 100000 in
set_option maxHeartbeats 2000000 in
theorem frees_any (aa : Option Addr) (n c : Nat) (L : Edges) (x : Int) (w : World) (ha : SeqAt w aa (ecells L)) (hl : L.length = n) (hn : n ≤ 120) (hx : (Lit.int .i64 x).wf = true) :
    Calls Try.prog 7 #[.slice aa n c, .int .i64 x] w fun e w' => e = .returned (.bool true) ∧ Below w.heap.size w w' := by
  obtain ⟨i0, hi0, hz0, hz1, hz2⟩ := info_parts infoIntT
  have HG := Lib.hid (grown_any aa n c L w ha hl hn)
  clear ha hl
  go_enter Try.func7, Try.ntmps7
  go_wp2_with fail
  refine HG.out.mono ?_
  rintro e w1 ⟨g, bm, S, rfl, hi, hlast⟩
  have HI := Lib.hid hi
  have hl0 := hi.wf.last0
  obtain ⟨ln, hln⟩ : ∃ ln : Nat, S.last = ln := ⟨S.last.toNat, by omega⟩
  rw [hln] at hlast
  have HLN := Lib.hid hln
  simp only [hln]
  clear hi HG hl0 hln
  have hl120 : ln ≤ 120 := by omega
  clear hlast
  go_wp2_with fail
  refine (alive10_any _).mono ?_
  rintro e w2 ⟨rfl, hb⟩
  have HI2 := Lib.hid (HI.out.read hb)
  clear hb HI
  go_wp2_with fail
  obtain ⟨id, hid⟩ : ∃ id, id = wrap64 (1 + wrap64 ((IntKind.u64.wrap x).tmod (max (ln : Int) 1))) := ⟨_, rfl⟩
  rw [← hid]
  clear hid
  have HGB := Lib.hid HI2.out.tree.lt
  refine (underO id _ HI2.out).mono ?_
  rintro e w3 ⟨ua, un, uc, us, rfl, hs, hl, hn64, hu, hi, hb⟩
  have HU := Lib.hid hs
  have HUN := Lib.hid hl
  have HUO := Lib.hid hu
  have HI3 := Lib.hid hi
  have HSZ : Hid (w2.heap.size ≤ w3.heap.size) := hb.size
  clear hs hl hu hi hb HI2
  go_wp2_with fail
  go_loopw [9, 10] (fun v i wr => ∃ k : Nat, k ≤ ln + 1 ∧ i = .int .i64 k ∧ Hid (wr.ownsRow w3.heap.size 3 1 v k (ints (parsL S k))) ∧ Hid (Below w3.heap.size w3 wr)) (fun _ i _ => ln + 1 - (intOf i).toNat)
  case atStart => exact ⟨0, Nat.zero_le _, rfl, World.ownsRow_nil _ _ _ _, Below.refl _ _⟩
  case round =>
    obtain ⟨k, hk, rfl, HV, HB⟩ := hrel
    obtain ⟨pa, pc, rfl, -, hpc, -⟩ := ownsRow_seq HV.out
    by_cases hlt : k ≤ ln
    · have hle : (k : Int) ≤ (ln : Int) := by omega
      go_wp2_with fail
      refine (parentT k _ (HI3.out.read HB.out)).mono ?_
      rintro e w4 ⟨rfl, rfl⟩
      go_wp2_with (first
        | (at_builtin; refine wpList_append_own _ rfl (.tmp 64) (.tmp 66) 31 rfl w3.heap.size 3 i0 _ 1 8 Try.underlying31 hi0 hz0 hz1 hz2 rfl (by decide) _ _ _ rfl (HV.out.alloc _) ⟨wr.heap.size, 0, none⟩ 1 1 (ints [S.par k]) rfl rfl ?_ (ints_oneCell .i64 [S.par k]) (by unfold maxLen; omega) (by omega) (by have := HB.out.size; simp; omega) ?_)
        | fail)
      · intro j u hu
        exact news_block wr (ints [S.par k]) 3 j u hu
      · intro v' w5 hown hgrow _
        have HV5 : Hid (w5.ownsRow w3.heap.size 3 1 v' (k + 1) (ints (parsL S (k + 1)))) := by
          rw [parsL_succ]
          have e : ints (parsL S k ++ [S.par k]) = ints (parsL S k) ++ ints [S.par k] := by simp [ints]
          rw [e]; exact hown
        have HB5 : Hid (Below w3.heap.size w3 w5) := (HB.out.alloc HB.out.size _).grown hgrow (by have := HB.out.size; simp; omega) (fun j hj => (HV.out.lt j hj).1)
        clear hown hgrow
        go_wp2
        go_roundw
        case rel => exact ⟨k + 1, by omega, by go_num, HV5, HB5⟩
        case measure => simp [intOf]; omega
    · have hle : ¬ ((k : Int) ≤ (ln : Int)) := by omega
      have hk1 : k = ln + 1 := by omega
      have HV1 : Hid (wr.ownsRow w3.heap.size 3 1 (.slice pa k pc) k (ints (parsL S k))) := HV.out
      have HI4 := Lib.hid (HI3.out.read HB.out)
      have HU4 := Lib.hid (ownsRow_below HU.out HB.out)
      have HKL : Hid (k = ln + 1) := hk1
      have hpl : ln + 1 ≤ k := by omega
      have HPAR : Hid (∀ j : Nat, j ≤ ln → (parsL S k)[j]? = some (S.par j)) := fun j hj => parsL_at S (by omega)
      have HPL := Lib.hid (parsL_length S k)
      clear HV HI3 HU hk1 hlt hk
      have hun := hn64
      have HLE := Lib.hid (HUO.out.len HI4.out.wf)
      have HGONE := Lib.hid HUO.out.gone
      have HEE : (S.has id = true ∧ TS.needE S id = 0) ∨ (S.has id = false ∧ TS.needE S id = 6) := by
        unfold TS.needE
        cases hh : S.has id
        · exact Or.inr ⟨rfl, by simp⟩
        · exact Or.inl ⟨rfl, by simp⟩
      obtain ⟨sn, hsn⟩ : ∃ sn, sn = S.tab.length := ⟨_, rfl⟩
      obtain ⟨fn, hfn⟩ : ∃ fn, fn = (S.free us).tab.length := ⟨_, rfl⟩
      rw [← hsn, ← hfn, HUN.out] at HLE
      have hsum : (fn : Int) = (sn : Int) - (un : Int) := by have := HLE.out; omega
      have hsn64 : sn ≤ 64 := by rw [hsn]; exact HI4.out.wf.size
      have hfn64 : fn ≤ 64 := by have := HLE.out; omega
      have HSUM := Lib.hid hsum
      have HSN := Lib.hid hsn
      have HFN := Lib.hid hfn
      clear hsum hsn hfn HLE
      rcases HEE with ⟨hh, he⟩ | ⟨hh, he⟩
      all_goals
        have HH := Lib.hid hh
        have HE := Lib.hid he
        rw [HE.out]
        clear hh he
        go_wp2_with fail
        refine (liveT _ _ HI4.out).mono ?_
        rintro e w5 ⟨rfl, rfl⟩
        rw [HH.out]
        go_wp2_with fail
        refine (lenT _ HI4.out).mono ?_
        rintro e w5 ⟨rfl, rfl⟩
        rw [← HSN.out]
        go_wp2_with fail
        refine (freeT id _ HI4.out).mono ?_
        rintro e w6 ⟨fa, fl, fc, fs, rfl, hs, hl, hn6, hu, hi, ho⟩
        have hff : fs = us := rises_eq hu.1 HUO.out.1 (fun z => (hu.2 z).trans (HUO.out.2 z).symm)
        subst hff
        obtain rfl : fl = un := by rw [← hl, HUN.out]
        rw [HE.out]
        have HF := Lib.hid hs
        have HI6 := Lib.hid hi
        have HU6 := Lib.hid (ownsRow_deed HU4.out ho HGB.out.1 HGB.out.2)
        have HP6 := Lib.hid (ownsRow_deed HV1.out ho (by have := HGB.out.1; have := HSZ.out; omega) (by have := HGB.out.2; have := HSZ.out; omega))
        clear hs hl hu hi ho HI4 HU4 HV1 hn6
        go_wp2_with fail
        refine (same_any fa ua fl fc fl uc fs fs _ HF.out (ownsRow_seq' HU6.out) HUN.out HUN.out (by omega)).mono ?_
        rintro e w7 ⟨rfl, hd⟩
        rw [show sameL fs fs = true from (sameL_iff _ _).2 rfl]
        have HI7 := Lib.hid (HI6.out.drawn hd)
        have HU7 := Lib.hid ((ownsRow_seq' HU6.out).drawn hd)
        have HP7 := Lib.hid ((ownsRow_seq' HP6.out).drawn hd)
        clear hd HI6 HU6 HP6 HF
        go_wp2_with fail
        refine (lenT _ HI7.out).mono ?_
        rintro e w8 ⟨rfl, rfl⟩
        rw [← HFN.out, HSUM.out]
        go_wp2_with fail
        go_loop [105] (fun i => ∃ j : Nat, j ≤ fl ∧ i = .int .i64 j) (fun i => fl - (intOf i).toNat)
        case atStart => exact ⟨0, Nat.zero_le _, rfl⟩
        case round =>
          obtain ⟨j, hj, rfl⟩ := hrel
          by_cases hjl : j < fl
          · obtain ⟨b, off, y, rfl, hc, HX⟩ := HU7.out.ints (k := j) (by rw [HUN.out]; exact hjl)
            have HGY := Lib.hid (gone_mem (S := S) (List.mem_of_getElem? HX.out))
            clear HX
            go_wp2_with fail
            refine (liveT _ _ HI7.out).mono ?_
            rintro e w9 ⟨rfl, rfl⟩
            rw [HGY.out]
            go_wp2
            go_round
            case rel => exact ⟨j + 1, by omega, by go_num⟩
            case measure => simp [intOf]; omega
          · go_wp2_with fail
            go_loop [19] (fun i => ∃ q : Nat, q ≤ ln ∧ i = .int .i64 ((q : Int) + 1)) (fun i => ln + 1 - (intOf i).toNat)
            case atStart => exact ⟨0, Nat.zero_le _, rfl⟩
            case round =>
              obtain ⟨q, hq, rfl⟩ := hrel
              by_cases hql : q < ln
              · have hle2 : (q : Int) + 1 ≤ (ln : Int) := by omega
                have hle3 : (q : Int) + 1 < (k : Int) := by omega
                obtain ⟨b, off, y, hpa, hc, HX⟩ := HP7.out.ints (k := q + 1) (by rw [HPL.out]; omega)
                subst hpa
                have hyp : y = S.par ((q : Int) + 1) := by
                  have h1 := HX.out
                  rw [HPAR.out (q + 1) (by omega)] at h1
                  have h2 : ((q + 1 : Nat) : Int) = (q : Int) + 1 := by omega
                  rw [h2] at h1
                  simpa using h1.symm
                have HYP := Lib.hid hyp
                clear hyp HX
                by_cases hv : (S.free fs).has ((q : Int) + 1) = true
                · have HV := Lib.hid hv
                  have HPF := Lib.hid (par_free hv)
                  have HNF : Hid (TS.needE (S.free fs) ((q : Int) + 1) = 0) := by show _ = _; unfold TS.needE; rw [if_pos hv]
                  clear hv
                  go_wp2_with fail
                  refine (parentT _ _ HI7.out).mono ?_
                  rintro e w9 ⟨rfl, rfl⟩
                  rw [HNF.out, HPF.out, ← HYP.out]
                  go_wp2_with fail
                  refine (liveT _ _ HI7.out).mono ?_
                  rintro e w9 ⟨rfl, rfl⟩
                  rw [HV.out]
                  go_wp2
                  go_round
                  case rel => exact ⟨q + 1, by omega, by go_num⟩
                  case measure => simp [intOf]; omega
                · have HV : Hid ((S.free fs).has ((q : Int) + 1) = false) := by simpa [Hid] using hv
                  clear hv
                  go_wp2_with fail
                  refine (parentT _ _ HI7.out).mono ?_
                  rintro e w9 ⟨rfl, rfl⟩
                  go_wp2_with fail
                  refine (liveT _ _ HI7.out).mono ?_
                  rintro e w9 ⟨rfl, rfl⟩
                  rw [HV.out]
                  go_wp2
                  go_round
                  case rel => exact ⟨q + 1, by omega, by go_num⟩
                  case measure => simp [intOf]; omega
              · have hle2 : ¬ ((q : Int) + 1 ≤ (ln : Int)) := by omega
                have HN6 : Hid (TS.needE (S.free fs) id = 6) := by show _ = _; unfold TS.needE; rw [HGONE.out]; rfl
                go_wp2_with fail
                refine (freeT id _ HI7.out).mono ?_
                rintro e w9 ⟨ga, gn, gc, gs, rfl, -, -, -, -, hi, -⟩
                rw [HN6.out]
                have HI9 := Lib.hid hi
                clear hi
                go_wp2
                go_ret
                exact ⟨rfl, HI9.out.below⟩

set_option maxRecDepth 100000 in
theorem frees_big (aa : Option Addr) (n c : Nat) (x : Int) (w : World) (hn : 120 < n) (hm : n ≤ 9223372036854775807) :
    Calls Try.prog 7 #[.slice aa n c, .int .i64 x] w fun e w' => e = .returned (.bool true) ∧ Below w.heap.size w w' := by
  have hn' : 120 < (n : Int) := by omega
  go_enter Try.func7, Try.ntmps7
  go_wp2_with fail
  refine (grown_big aa n c _ hn hm).mono ?_
  rintro e w1 ⟨rfl, hb1⟩
  have HB1 := Lib.hid hb1
  clear hb1
  go_wp2_with fail
  refine (alive10_any _).mono ?_
  rintro e w2 ⟨rfl, hb⟩
  have HB2 : Hid (Below w.heap.size w w2) := HB1.out.trans (hb.mono HB1.out.size)
  clear hb HB1
  go_wp2_with fail
  refine (alive10_any _).mono ?_
  rintro e w3 ⟨rfl, hb⟩
  have HB3 : Hid (Below w.heap.size w w3) := HB2.out.trans (hb.mono HB2.out.size)
  clear hb HB2
  go_wp2
  go_ret
  exact ⟨rfl, HB3.out⟩
theorem frees_row (a0 : Option Addr) (n0 c0 : Nat) (z0 : Edges) (x : Int) (w : World) (hz0 : SeqAt w a0 (ecells z0)) (hl0 : z0.length = n0) (hc0 : n0 ≤ c0) (hm0 : n0 ≤ maxLen) (hx : (Lit.int .i64 x).wf = true) :
    Calls Try.prog 7 #[.slice a0 n0 c0, .int .i64 x] w fun e w' => e = .returned (.bool true) ∧ Below w.heap.size w w' := by
  unfold maxLen at hm0
  by_cases h : 120 < n0
  · exact frees_big a0 n0 c0 x w h (by omega)
  · exact frees_any a0 n0 c0 z0 x w hz0 hl0 (by omega) hx
end Go.Proofs.Ytaljeadagiifnaa
