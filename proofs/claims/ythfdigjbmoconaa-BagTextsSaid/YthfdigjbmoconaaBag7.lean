/-
  Package bag at int: Less; slices.IndexFunc and slices.DeleteFunc at a bound Has.
-/
import Derived.Test.YthfdigjbmoconaaBag6
import Derived.Lib.SliceRun
set_option linter.unusedSimpArgs false
set_option linter.unusedVariables false
namespace Go.Proofs.Ythfdigjbmoconaa
open Go.RowKit Go.Tr
variable {w w' w0 : World} {g g2 : Nat} {F G : Nat → Prop} {zs zo : List Int} {vo : Value}

set_option maxRecDepth 100000 in
set_option maxHeartbeats 1000000 in
theorem indexF_any (a : Option Addr) (n c : Nat) (w : World) (h : SeqAt w a (ints zs)) (hl : zs.length = n) (hb : BagAt 0 w g2 vo zo) (hs : n ≤ 1000000) (hs2 : zo.length ≤ 1000000) :
    Calls Try.prog 55 #[.slice a n c, .func (.func 14) #[.pointer (some ⟨g2, 0, none⟩)] #[]] w fun e w' => ((∃ k : Nat, k < n ∧ e = .returned (.int .i64 k) ∧ (∀ y ∈ zs.take k, y ∉ zo) ∧ ∃ x, zs[k]? = some x ∧ x ∈ zo) ∨ (e = .returned (.int .i64 (-1)) ∧ ∀ y ∈ zs, y ∉ zo)) ∧ Drawn w w' := by
  have HA := Lib.hid h
  have HN := Lib.hid hl
  have HB := Lib.hid hb
  have HS2 := Lib.hid hs2
  clear h hl hb hs2
  go_enter Try.func55, Try.ntmps55
  go_wp2_with fail
  go_loopw [8] (fun i wr => ∃ k : Nat, k ≤ n ∧ i = .int .i64 k ∧ Hid (∀ y ∈ zs.take k, y ∉ zo) ∧ Hid (Drawn w wr)) (fun i _ => n - (intOf i).toNat)
  case atStart => exact ⟨0, Nat.zero_le _, rfl, fun y hy => by simp at hy, Drawn.refl _⟩
  case round =>
    obtain ⟨k, hk, rfl, HP, HD⟩ := hrel
    by_cases hlt : k < n
    · have hlt' : (k : Int) < (n : Int) := by omega
      obtain ⟨b, off, x, rfl, hcx, HX⟩ := (HA.out.drawn HD.out).ints (k := k) (by rw [HN.out]; exact hlt)
      have HT := Lib.hid (take_snoc HX.out)
      by_cases hx : x ∈ zo
      · have HX1 : Hid (hasL zo x = true) := hasL_true hx
        have HXX : Hid (∃ x, zs[k]? = some x ∧ x ∈ zo) := ⟨x, HX.out, hx⟩
        clear HX hx
        go_wp2_with fail
        refine (bhas_any x _ (HB.out.below (HD.out.below _)) HS2.out).mono ?_
        rintro e w2 ⟨rfl, hd⟩
        rw [HX1.out]
        have HD2 := Lib.hid (HD.out.trans hd)
        clear hd
        go_wp2_with fail
        go_ret
        exact ⟨Or.inl ⟨k, hlt, rfl, HP.out, HXX.out⟩, HD2.out⟩
      · have HX1 : Hid (hasL zo x = false) := hasL_false hx
        have HP2 : Hid (∀ y ∈ zs.take (k + 1), y ∉ zo) := fun y hy => by
          rw [HT.out] at hy
          rcases List.mem_append.1 hy with hy | hy
          · exact HP.out y hy
          · simp at hy; subst hy; exact hx
        clear HX hx
        go_wp2_with fail
        refine (bhas_any x _ (HB.out.below (HD.out.below _)) HS2.out).mono ?_
        rintro e w2 ⟨rfl, hd⟩
        rw [HX1.out]
        have HD2 := Lib.hid (HD.out.trans hd)
        clear hd
        go_wp2_with fail
        go_roundw
        case rel => exact ⟨k + 1, by omega, by go_num, HP2, HD2⟩
        case measure => simp [intOf]; omega
    · have hlt' : ¬ ((k : Int) < (n : Int)) := by omega
      have HP2 : Hid (∀ y ∈ zs, y ∉ zo) := by have := HP.out; rw [List.take_of_length_le (by rw [HN.out]; omega)] at this; exact this
      go_wp2_with fail
      go_ret
      exact ⟨Or.inr ⟨rfl, HP2.out⟩, HD.out⟩

theorem own_set {base b cap : Nat} {M : List Int} (h : own3 w 3 base (.slice (some ⟨b, 0, none⟩) M.length cap) M) {k : Nat} (hk : k < M.length) (x : Int) : own3 (w.setCell ⟨b, k, none⟩ (.int .i64 x)) 3 base (.slice (some ⟨b, 0, none⟩) (M.set k x).length cap) (M.set k x) := by
  obtain ⟨hx, hr⟩ := h
  rcases hr with ⟨e, _⟩ | ⟨b', cap', cur, e, hbase, hb, h1, h2, h3, h4⟩
  · cases e
  · cases e
    have hb2 : (w.setCell ⟨b, k, none⟩ (.int .i64 x)).heap[b]? = some (.cells (cur.setIfInBounds k (.int .i64 x)) 3 (0, 0)) := by simp [World.setCell, Array.getElem?_modify, hb]
    refine own_of_block hb2 hbase (by simpa using h1) h2 (by simp; omega) (fun j hj => ?_)
    have hj' : j < M.length := by simpa using hj
    have hcur : cur[j]? = (ints M)[j]? := by rw [← h4, Nat.mul_one, List.getElem?_take_of_lt hj', Array.getElem?_toList]
    rw [Array.getElem?_setIfInBounds]
    by_cases e : k = j
    · subst e
      have : k < cur.size := by omega
      simp [this, ints, hj', iv]
    · rw [if_neg e, hcur]; simp [ints, e]
theorem own_frozen {base b cap n : Nat} {M : List Int} (h : w.ownsRow base 3 1 (.slice (some ⟨b, 0, none⟩) n cap) n (ints M)) (k : Nat) : w.frozen? ⟨b, k, none⟩ = false := by
  rcases h.2 with ⟨e, _⟩ | ⟨b', cap', cur, e, hbase, hb, h1, h2, h3, h4⟩
  · cases e
  · cases e; simp [World.frozen?, hb]
theorem own_cap {base b cap n : Nat} {M : List Int} (h : w.ownsRow base 3 1 (.slice (some ⟨b, 0, none⟩) n cap) n (ints M)) : n ≤ cap ∧ cap ≤ maxLen := by
  rcases h.2 with ⟨e, _⟩ | ⟨b', cap', cur, e, hbase, hb, h1, h2, h3, h4⟩
  · cases e
  · cases e; exact ⟨h1, h2⟩
/-- Behind a clear of what lies from i on. -/
theorem own_cleared {base b cap i : Nat} {M : List Int} (h : own3 w 3 base (.slice (some ⟨b, 0, none⟩) M.length cap) M) (hi : i ≤ M.length) (vs : List Value) (hv : i + vs.length ≤ M.length) : own3 (w.setCells b i vs) 3 base (.slice (some ⟨b, 0, none⟩) (M.take i).length cap) (M.take i) := by
  obtain ⟨hx, hr⟩ := h
  rcases hr with ⟨e, _⟩ | ⟨b', cap', cur, e, hbase, hb, h1, h2, h3, h4⟩
  · cases e
  · cases e
    obtain ⟨cs', k1, k2, k3, k4⟩ := block_setCells b 3 vs i w cur hb (by omega)
    have hl : (M.take i).length = i := by rw [List.length_take]; omega
    refine own_of_block k1 hbase (by omega) h2 (by omega) (fun j hj => ?_)
    rw [hl] at hj
    rw [k4 j (Or.inl hj)]
    have hcur : cur[j]? = (ints M)[j]? := by rw [← h4, Nat.mul_one, List.getElem?_take_of_lt (by omega), Array.getElem?_toList]
    rw [hcur]
    simp [ints, List.getElem?_take_of_lt hj]
theorem lessL_of_none {zs zo : List Int} (h : ∀ y ∈ zs, y ∉ zo) : lessL zs zo = zs := List.filter_eq_self.2 (fun y hy => by rw [hasL_false (h y hy)]; rfl)
theorem lessL_app (a b zo : List Int) : lessL (a ++ b) zo = lessL a zo ++ lessL b zo := List.filter_append ..
set_option maxRecDepth 100000 in
set_option maxHeartbeats 2000000 in
theorem deleteF_any (base : Nat) (v : Value) (w : World) (h : own3 w 3 base v zs) (hb : BagAt 0 w g2 vo zo) (hv : ∀ k, v.ownBlock = some k → k ≠ g2 ∧ vo.ownBlock ≠ some k) (hs : zs.length ≤ 1000000) (hs2 : zo.length ≤ 1000000) :
    Calls Try.prog 39 #[v, .func (.func 14) #[.pointer (some ⟨g2, 0, none⟩)] #[]] w fun e w' => ∃ v', e = .returned v' ∧ own3 w' 3 base v' (lessL zs zo) ∧ Only (fun k => v.ownBlock = some k) w w' ∧ v'.ownBlock = v.ownBlock := by
  obtain ⟨a, c, rfl, hsq, -, -⟩ := ownsRow_seq h
  have HI := Lib.hid (indexF_any a _ c w hsq rfl hb hs hs2)
  have HO := Lib.hid h
  have HB := Lib.hid hb
  have HV := Lib.hid hv
  have HS2 := Lib.hid hs2
  obtain ⟨n, hn⟩ : ∃ n, n = zs.length := ⟨_, rfl⟩
  rw [← hn] at hs HI
  have HN := Lib.hid hn.symm
  have HOn : Hid (w.ownsRow base 3 1 (.slice a n c) n (ints zs)) := by have : w.ownsRow base 3 1 (.slice a zs.length c) zs.length (ints zs) := h; rw [← hn] at this; exact this
  rw [← hn] at HV ⊢
  clear h hb hv hs2 hsq HO hn
  go_enter Try.func39, Try.ntmps39
  go_wp2_with fail
  refine HI.out.mono ?_
  rintro e w1 ⟨⟨k, hk, rfl, hp, x0, hx0, hx0m⟩ | ⟨rfl, hnone⟩, hd⟩
  · have hkn : ((k : Int) == -1) = false := beq_eq_false_iff_ne.2 (by omega)
    obtain ⟨b, rfl⟩ : ∃ b, a = some ⟨b, 0, none⟩ := by
      rcases HOn.out.2 with ⟨e, h0⟩ | ⟨b', cap', cur, e, _⟩
      · omega
      · injection e with e1 e2 e3; exact ⟨b', e1⟩
    have hcap := own_cap HOn.out
    have hcap1 := hcap.1
    have hcap2 : c ≤ 9223372036854775807 := by have := hcap.2; unfold maxLen at this; omega
    have HBB : Hid (b ≠ g2 ∧ vo.ownBlock ≠ some b) := HV.out b rfl
    have HD := Lib.hid hd
    have HOn1 : Hid (w1.ownsRow base 3 1 (.slice (some ⟨b, 0, none⟩) n c) n (ints zs)) := by obtain ⟨q, rfl⟩ := hd; exact HOn.out
    have HT0 : Hid (zs.take k = lessL (zs.take (k + 1)) zo) := by
      show _ = _
      rw [take_snoc hx0, lessL_app, lessL_of_none hp]
      have : lessL [x0] zo = [] := by unfold lessL; simp [hasL_true hx0m]
      rw [this, List.append_nil]
    have HB1 := Lib.hid (HB.out.below (hd.below _))
    have HO1 : Hid (Only (fun j => j = b) w w1) := Only.of_below (hd.below _) _
    clear hd hp hx0 hx0m hcap HI HB HOn HV
    go_wp2_with fail
    go_loopw [5, 6] (fun iv0 jv wr => ∃ (i j : Nat) (M : List Int), i < j ∧ j ≤ n ∧ iv0 = .int .i64 i ∧ jv = .int .i64 j ∧ Hid (M.length = n) ∧ Hid (wr.ownsRow base 3 1 (.slice (some ⟨b, 0, none⟩) n c) n (ints M)) ∧ Hid (M.take i = lessL (zs.take j) zo) ∧ Hid (∀ q, j ≤ q → M[q]? = zs[q]?) ∧ Hid (BagAt 0 wr g2 vo zo) ∧ Hid (Only (fun j => j = b) w wr)) (fun _ jv _ => n - (intOf jv).toNat)
    case atStart => exact ⟨k, k + 1, zs, by omega, by omega, rfl, by go_num, HN, HOn1, HT0, fun _ _ => rfl, HB1, HO1⟩
    case round =>
      clear HOn1 HT0 HB1 HO1
      obtain ⟨i, j, M, hij, hjn, rfl, rfl, HML, HOM, HMT, HMQ, HBG, HOL⟩ := hrel
      by_cases hlt : j < n
      · have hlt' : (j : Int) < (n : Int) := by omega
        obtain ⟨a', c', e', hsq, -, -⟩ := ownsRow_seq HOM.out
        cases e'
        obtain ⟨b1, off1, x, e1, hcx, HX⟩ := hsq.ints (k := j) (by rw [HML.out]; exact hlt)
        cases e1
        obtain ⟨b2, off2, xi, e2, hci, -⟩ := hsq.ints (k := i) (by rw [HML.out]; omega)
        cases e2
        simp only [Nat.zero_add] at hcx hci
        have hfi := own_frozen HOM.out i
        have HZ : Hid (zs[j]? = some x) := by have h1 := HMQ.out j (Nat.le_refl _); rw [HX.out] at h1; exact h1.symm
        have HT := Lib.hid (take_snoc HZ.out)
        have hin : i < n := by omega
        clear hsq HX
        by_cases hx : x ∈ zo
        · have HX1 : Hid (hasL zo x = true) := hasL_true hx
          have HMT2 : Hid (M.take i = lessL (zs.take (j + 1)) zo) := by
            have : lessL [x] zo = [] := by unfold lessL; simp [hasL_true hx]
            show _ = _
            rw [HT.out, lessL_app, this, List.append_nil]; exact HMT.out
          clear hx
          go_wp2_with fail
          refine (bhas_any x _ HBG.out HS2.out).mono ?_
          rintro e w2 ⟨rfl, q, rfl⟩
          rw [HX1.out]
          have HO2 : Hid ((wr.drewN q).ownsRow base 3 1 (.slice (some ⟨b, 0, none⟩) n c) n (ints M)) := HOM.out
          have HB2 : Hid (BagAt 0 (wr.drewN q) g2 vo zo) := HBG.out.below (Drawn.below ⟨q, rfl⟩ _)
          have HL2 : Hid (Only (fun j => j = b) w (wr.drewN q)) := HOL.out.drawn ⟨q, rfl⟩
          go_wp2_with fail
          go_roundw
          case rel => exact ⟨i, j + 1, M, by omega, by omega, rfl, by go_num, HML, HO2, HMT2, fun p hp => HMQ.out p (by omega), HB2, HL2⟩
          case measure => simp [intOf]; omega
        · have HX1 : Hid (hasL zo x = false) := hasL_false hx
          have HMT2 : Hid ((M.set i x).take (i + 1) = lessL (zs.take (j + 1)) zo) := by
            have h1 : lessL [x] zo = [x] := by unfold lessL; simp [hasL_false hx]
            have h2 : (M.set i x)[i]? = some x := by rw [List.getElem?_set_self (by rw [HML.out]; exact hin)]
            show _ = _
            rw [HT.out, lessL_app, h1, take_snoc h2, ← HMT.out, List.take_set_of_le (Nat.le_refl i)]
          clear hx
          go_wp2_with fail
          refine (bhas_any x _ HBG.out HS2.out).mono ?_
          rintro e w2 ⟨rfl, q, rfl⟩
          rw [HX1.out]
          have HO2 : Hid (((wr.drewN q).setCell ⟨b, i, none⟩ (.int .i64 x)).ownsRow base 3 1 (.slice (some ⟨b, 0, none⟩) n c) n (ints (M.set i x))) := by
            have h1 : own3 (wr.drewN q) 3 base (.slice (some ⟨b, 0, none⟩) M.length c) M := by
              show World.ownsRow _ _ _ _ _ _ _
              rw [HML.out]; exact HOM.out
            have h2 := own_set h1 (k := i) (by rw [HML.out]; exact hin) x
            unfold own3 at h2
            rw [List.length_set, HML.out] at h2
            exact h2
          have HB2 : Hid (BagAt 0 ((wr.drewN q).setCell ⟨b, i, none⟩ (.int .i64 x)) g2 vo zo) := HBG.out.kept (Below.heap_setCell (wr.drewN q) _ _ _ (by simpa using HBB.out.1.symm)) (fun k hk => Below.heap_setCell (wr.drewN q) _ _ _ (fun e => HBB.out.2 (by rw [hk]; exact congrArg some e)))
          have HL2 : Hid (Only (fun j => j = b) w ((wr.drewN q).setCell ⟨b, i, none⟩ (.int .i64 x))) := (HOL.out.drawn ⟨q, rfl⟩).setCell (Or.inl rfl) _
          have HML2 : Hid ((M.set i x).length = n) := by show _ = _; rw [List.length_set]; exact HML.out
          have HMQ2 : Hid (∀ q, j + 1 ≤ q → (M.set i x)[q]? = zs[q]?) := fun p hp => by rw [List.getElem?_set_ne (by omega)]; exact HMQ.out p (by omega)
          go_wp2_with fail
          go_roundw
          case rel => exact ⟨i + 1, j + 1, M.set i x, by omega, by omega, by go_num, by go_num, HML2, HO2, HMT2, HMQ2, HB2, HL2⟩
          case measure => simp [intOf]; omega
      · have hjn2 : j = n := by omega
        have hlt' : ¬ ((j : Int) < (n : Int)) := by omega
        have hin : i ≤ n := by omega
        subst hjn2
        have hni : 0 < j - i := by omega
        have hic : i ≤ c := by omega
        have hcell : ∀ p, p < j → (wr.cell? ⟨b, p, none⟩).isSome = true := fun p hp => by
          obtain ⟨a', c', e', hsq, -, -⟩ := ownsRow_seq HOM.out
          cases e'
          obtain ⟨b1, off1, x, e1, hcx, HX⟩ := hsq.ints (k := p) (by rw [HML.out]; exact hp)
          cases e1
          rw [Nat.zero_add] at hcx
          rw [hcx]; rfl
        have hcl : ∀ ty, (Builtin.clear_ #[22] ty #[.slice (some ⟨b, i, none⟩) (j - i) (c - i)]).run Try.prog wr = .ok (.tuple #[]) (wr.setCells b i (List.replicate (j - i) (.int .i64 0))) := fun ty =>
          Lib.run_clear_slice wr _ _ ty (.int .i64 0) Try.underlying22 Try.zeroValue3 rfl rfl b i _ _ hni (fun p hp => hcell (i + p) (by omega)) (fun p hp => own_frozen HOM.out (i + p))
        have HM3 : Hid (own3 wr 3 base (.slice (some ⟨b, 0, none⟩) M.length c) M) := by
          show World.ownsRow _ _ _ _ _ _ _
          rw [HML.out]; exact HOM.out
        have HMT2 : Hid (M.take i = lessL zs zo) := by have := HMT.out; rw [List.take_of_length_le (by rw [HN.out]; omega : zs.length ≤ j)] at this; exact this
        have HFIN := Lib.hid (own_cleared HM3.out (i := i) (by rw [HML.out]; omega) (List.replicate (j - i) (.int .i64 0)) (by rw [HML.out]; simp; omega))
        have HIL : Hid ((M.take i).length = i) := by show _ = _; rw [List.length_take, HML.out]; omega
        have HOW : Hid (Only (fun q => q = b) w (wr.setCells b i (List.replicate (j - i) (.int .i64 0)))) := HOL.out.grown (grown_setCells b _ _ wr) (fun q hq => by cases hq; exact Or.inl rfl)
        rw [HIL.out, HMT2.out] at HFIN
        clear hcell HM3 HMT HMQ HBG HOL HML
        go_wp2_with fail
        go_ret
        exact ⟨_, rfl, HFIN.out, HOW.out.mono (fun q hq => by rw [hq]; rfl), rfl⟩
  · have HD := Lib.hid hd
    have HE : Hid (lessL zs zo = zs) := lessL_of_none hnone
    have HOn1 : Hid (w1.ownsRow base 3 1 (.slice a n c) n (ints zs)) := by obtain ⟨q, rfl⟩ := hd; exact HOn.out
    clear hd hnone
    go_wp2_with fail
    go_ret
    rw [HE.out]
    exact ⟨_, rfl, by show World.ownsRow _ _ _ _ _ _ _; rw [HN.out]; exact HOn1.out, Only.of_below (HD.out.below _) _, rfl⟩

theorem lessL_rises {zs : List Int} (h : zs.Pairwise (· < ·)) (zo : List Int) : (lessL zs zo).Pairwise (· < ·) := h.filter _
set_option maxRecDepth 100000 in
set_option maxHeartbeats 1000000 in
theorem blessF_any (w : World) (h : Bag w g F zs) (h2 : BagAt 0 w g2 vo zo) (hl : zs.length ≤ 1000000) (hl2 : zo.length ≤ 1000000) : Calls Try.prog 17 #[.pointer (some ⟨g, 0, none⟩), .pointer (some ⟨g2, 0, none⟩)] w fun e w' => e = .returned (.tuple #[]) ∧ Bag w' g (grow F w w') (lessL zs zo) ∧ Only F w w' := by
  obtain ⟨v, hb, hF, hFv⟩ := h
  obtain ⟨c0, f0⟩ := hb.head
  obtain ⟨a, c, rfl, hs⟩ := hb.seq
  have HC := Lib.hid (clone_any a _ c zs w hs rfl hl)
  have HBG := Lib.hid hb
  have HB2 := Lib.hid h2
  have HYR : Hid ((lessL zs zo).Pairwise (· < ·)) := lessL_rises hb.rises zo
  have HL : Hid (zs.length ≤ 1000000 ∧ zo.length ≤ 1000000) := ⟨hl, hl2⟩
  have HDF := Lib.hid (fun (v1 : Value) (w1 : World) (h : own3 w1 3 w.heap.size v1 zs) (hb : BagAt 0 w1 g2 vo zo) (hv : ∀ k, v1.ownBlock = some k → k ≠ g2 ∧ vo.ownBlock ≠ some k) => deleteF_any w.heap.size v1 w1 h hb hv hl hl2)
  obtain ⟨ys, hys⟩ : ∃ ys, ys = lessL zs zo := ⟨_, rfl⟩
  rw [← hys] at HYR ⊢
  have HYE := Lib.hid hys.symm
  clear hb h2 hs hys hl hl2
  go_enter Try.func17, Try.ntmps17
  go_wp2_with fail
  refine HC.out.mono ?_
  rintro e w1 ⟨v1, rfl, ho, hbl⟩
  have HO := Lib.hid ho
  have HBL := Lib.hid hbl
  have HB21 := Lib.hid (HB2.out.below hbl)
  clear ho hbl HC
  go_wp2_with fail
  refine (HDF.out v1 _ HO.out HB21.out (fun k hk => ⟨fun e => by have := (HO.out.lt k hk).1; have := HB2.out.lt; omega, fun e => by have := (HO.out.lt k hk).1; have := (HB2.out.own.lt k e).2; omega⟩)).mono ?_
  rintro e w2 ⟨v2, rfl, ho, hon, hob⟩
  rw [HYE.out] at ho
  have HBL2 : Hid (Below w.heap.size w w2) := HBL.out.trans (hon.below HBL.out.size (fun k hk => (HO.out.lt k hk).1))
  have hgg : w2.heap[g]? = w.heap[g]? := HBL2.out.block g HBG.out.lt
  have c2 : w2.cell? ⟨g, 0, none⟩ = some (.slice a zs.length c) := by rw [World.cell?_of_block (a := ⟨g, 0, none⟩) (w := w) hgg]; exact c0
  have f2 : w2.frozen? ⟨g, 0, none⟩ = false := by rw [World.frozen?_of_block (a := ⟨g, 0, none⟩) (w := w) hgg]; exact f0
  have HST := Lib.hid (HBG.out.store hF hFv (Only.of_below HBL2.out F) hgg (ownsRow_mono ho (Nat.zero_le _)) HYR.out (fun k hk => Or.inr (ho.lt k hk).1))
  obtain ⟨va, vc, rfl, -, -, -⟩ := ownsRow_seq ho
  clear ho hon hob hgg c0 f0
  go_wp2_with fail
  go_end0
  exact ⟨rfl, HST.out.1, HST.out.2⟩
variable {l : List (Nat × List Int)}
theorem joinB (i j : Nat) (w : World) (h : Bags w0 w l) (hi : l[i]? = some (g, zs)) (hj : l[j]? = some (g2, zo)) (hl : zs.length ≤ 400000) (hl2 : zo.length ≤ 400000) : Calls Try.prog 16 #[.pointer (some ⟨g, 0, none⟩), .pointer (some ⟨g2, 0, none⟩)] w fun e w' => e = .returned (.tuple #[]) ∧ Bags w0 w' (l.set i (g, setL (zs ++ zo))) := by
  obtain ⟨Fs, h1, h2, h3, h4⟩ := h
  obtain ⟨vo, hb, _⟩ := h1 j _ hj
  exact (bjoinF_any w (h1 i _ hi) hb (show zs.length ≤ 400000 from hl) hl2).mono fun e w' ⟨e1, e2, e3⟩ => ⟨e1, Bags.write h1 h2 h3 h4 e2 e3⟩
theorem lessB (i j : Nat) (w : World) (h : Bags w0 w l) (hi : l[i]? = some (g, zs)) (hj : l[j]? = some (g2, zo)) (hl : zs.length ≤ 1000000) (hl2 : zo.length ≤ 1000000) : Calls Try.prog 17 #[.pointer (some ⟨g, 0, none⟩), .pointer (some ⟨g2, 0, none⟩)] w fun e w' => e = .returned (.tuple #[]) ∧ Bags w0 w' (l.set i (g, lessL zs zo)) := by
  obtain ⟨Fs, h1, h2, h3, h4⟩ := h
  obtain ⟨vo, hb, _⟩ := h1 j _ hj
  exact (blessF_any w (h1 i _ hi) hb (show zs.length ≤ 1000000 from hl) hl2).mono fun e w' ⟨e1, e2, e3⟩ => ⟨e1, Bags.write h1 h2 h3 h4 e2 e3⟩
end Go.Proofs.Ythfdigjbmoconaa
