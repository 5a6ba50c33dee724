/-
  turnrowlaw08.BagRises: the walk.
-/
import Derived.Test.YthfdigjbmoconaaBag3
set_option linter.unusedSimpArgs false
set_option linter.unusedVariables false
namespace Go.Proofs.Ythfdigjbmoconaa
open Go.RowKit Go.Tr

/-- Since w0 the call has made a bag, at g, that has zs. -/
def BInv (w0 w : World) (g : Nat) (zs : List Int) : Prop := ∃ F, Bag w g F zs ∧ (∀ k, F k → w0.heap.size ≤ k ∧ k < w.heap.size) ∧ Below w0.heap.size w0 w
variable {w0 w w' : World} {g : Nat} {zs : List Int}
theorem BInv.read (h : BInv w0 w g zs) (hb : Below w.heap.size w w') : BInv w0 w' g zs := by
  obtain ⟨F, h1, h2, h3⟩ := h
  exact ⟨F, h1.below hb, fun k hk => ⟨(h2 k hk).1, Nat.lt_of_lt_of_le (h2 k hk).2 hb.size⟩, h3.trans (hb.mono h3.size)⟩
theorem BInv.drawn (h : BInv w0 w g zs) (hd : Drawn w w') : BInv w0 w' g zs := h.read (hd.below _)
theorem BInv.below (h : BInv w0 w g zs) : Below w0.heap.size w0 w := by obtain ⟨F, _, _, h⟩ := h; exact h
theorem BInv.rises (h : BInv w0 w g zs) : zs.Pairwise (· < ·) := by obtain ⟨F, h, _⟩ := h; exact h.rises
theorem BInv.write {F : Nat → Prop} {zs' : List Int} (h2 : ∀ k, F k → w0.heap.size ≤ k ∧ k < w.heap.size) (h3 : Below w0.heap.size w0 w) (k1 : Bag w' g (grow F w w') zs') (k2 : Only F w w') : BInv w0 w' g zs' := by
  refine ⟨grow F w w', k1, fun k hk => ?_, h3.trans (k2.below h3.size (fun k hk => (h2 k hk).1))⟩
  rcases hk with hk | hk
  · exact ⟨(h2 k hk).1, Nat.lt_of_lt_of_le (h2 k hk).2 k2.size⟩
  · exact ⟨Nat.le_trans h3.size hk.1, hk.2⟩
theorem newI (a : Option Addr) (n c : Nat) (zs : List Int) (w : World) (h : SeqAt w a (ints zs)) (hl : zs.length = n) (hs : n ≤ 1000000) (h0 : Below w0.heap.size w0 w) :
    Calls Try.prog 9 #[.slice a n c] w fun e w' => ∃ g, e = .returned (.pointer (some ⟨g, 0, none⟩)) ∧ BInv w0 w' g (setL zs) ∧ Below w.heap.size w w' := by
  refine (bnew_any a n c zs w h hl hs).mono ?_
  rintro e w' ⟨g, v, rfl, hb, hbl⟩
  exact ⟨g, rfl, ⟨fun k => w.heap.size ≤ k ∧ k < w'.heap.size, ⟨v, ⟨hb.block, ownsRow_mono hb.own (Nat.zero_le _), hb.ne, Nat.zero_le _, hb.rises⟩, ⟨hb.newg, hb.lt⟩, fun k hk => hb.own.lt k hk⟩, fun k hk => ⟨Nat.le_trans h0.size hk.1, hk.2⟩, h0.trans (hbl.mono h0.size)⟩, hbl⟩
theorem lenI (w : World) (h : BInv w0 w g zs) : Calls Try.prog 15 #[.pointer (some ⟨g, 0, none⟩)] w fun e w' => e = .returned (.int .i64 zs.length) ∧ w = w' := by
  obtain ⟨F, ⟨v, h1, _⟩, _⟩ := h; exact blen_any w h1
theorem hasI (x : Int) (w : World) (h : BInv w0 w g zs) (hl : zs.length ≤ 1000000) : Calls Try.prog 14 #[.pointer (some ⟨g, 0, none⟩), .int .i64 x] w fun e w' => e = .returned (.bool (hasL zs x)) ∧ BInv w0 w' g zs ∧ Drawn w w' := by
  have h' := h
  obtain ⟨F, ⟨v, h1, _⟩, _⟩ := h
  exact (bhas_any x w h1 hl).mono fun e w' ⟨e1, e2⟩ => ⟨e1, h'.drawn e2, e2⟩
theorem firstI (x : Int) (w : World) (h : BInv w0 w g zs) (hl : zs.length ≤ 1000000) : Calls Try.prog 12 #[.pointer (some ⟨g, 0, none⟩), .int .i64 x] w fun e w' => e = .returned (.tuple #[.int .i64 (zs[posL zs x]?.getD 0), .bool (decide (posL zs x < zs.length))]) ∧ BInv w0 w' g zs ∧ Drawn w w' := by
  have h' := h
  obtain ⟨F, ⟨v, h1, _⟩, _⟩ := h
  exact (bfirst_any x w h1 hl).mono fun e w' ⟨e1, e2⟩ => ⟨e1, h'.drawn e2, e2⟩
theorem allI (w : World) (h : BInv w0 w g zs) (hl : zs.length ≤ 1000000) : Calls Try.prog 11 #[.pointer (some ⟨g, 0, none⟩)] w fun e w' => ∃ a c, e = .returned (.slice a zs.length c) ∧ w'.ownsRow w.heap.size 3 1 (.slice a zs.length c) zs.length (ints zs) ∧ BInv w0 w' g zs ∧ Below w.heap.size w w' := by
  have h' := h
  obtain ⟨F, ⟨v, h1, _⟩, _⟩ := h
  refine (all_any w h1 hl).mono ?_
  rintro e w' ⟨v, rfl, ho, hb⟩
  obtain ⟨a, c, rfl, -, -, -⟩ := ownsRow_seq ho
  exact ⟨a, c, rfl, ho, h'.read hb, hb⟩
theorem delI (x : Int) (w : World) (h : BInv w0 w g zs) (hl : zs.length ≤ 1000000) : Calls Try.prog 13 #[.pointer (some ⟨g, 0, none⟩), .int .i64 x] w fun e w' => e = .returned (.bool (hasL zs x)) ∧ BInv w0 w' g (outL zs x) := by
  obtain ⟨F, h1, h2, h3⟩ := h
  exact (bdelF_any x w h1 hl).mono fun e w' ⟨e1, e2, e3⟩ => ⟨e1, BInv.write h2 h3 e2 e3⟩
theorem ownsRow_below {w w' : World} {base : Nat} {e : TypeId} {size n : Nat} {v : Value} {xs : List Value} (h : w.ownsRow base e size v n xs) (hb : Below w.heap.size w w') : w'.ownsRow base e size v n xs := ownsRow_kept h (fun k hk => hb.block _ (h.lt k hk).2)
theorem ownsRow_seq' {w : World} {base : Nat} {e : TypeId} {size n c : Nat} {a : Option Addr} {xs : List Value} (h : w.ownsRow base e size (.slice a n c) n xs) : SeqAt w a xs := by
  obtain ⟨a', c', e, h, -, -⟩ := ownsRow_seq h
  cases e; exact h

/-- Those of zs that are not in L. -/
def lessL (zs L : List Int) : List Int := zs.filter fun y => !hasL L y
theorem lessL_nil (zs : List Int) : lessL zs [] = zs := List.filter_eq_self.2 (by simp [hasL])
theorem lessL_snoc (zs L : List Int) (x : Int) : lessL zs (L ++ [x]) = outL (lessL zs L) x := by
  unfold lessL outL
  rw [List.filter_filter]
  apply List.filter_congr
  intro y _
  rw [Bool.eq_iff_iff]
  simp [hasL]
  exact ⟨fun ⟨a, b⟩ => ⟨b, a⟩, fun ⟨a, b⟩ => ⟨b, a⟩⟩
theorem mem_lessL {zs L : List Int} {y : Int} : y ∈ lessL zs L ↔ y ∈ zs ∧ y ∉ L := by simp [lessL, hasL]
theorem lessL_length (zs L : List Int) : (lessL zs L).length ≤ zs.length := List.length_filter_le _ _
/-- How many of zs are in L. -/
def cntL (zs L : List Int) : Nat := zs.countP fun y => hasL L y
theorem cntL_nil (zs : List Int) : cntL zs [] = 0 := List.countP_eq_zero.2 (by simp [hasL])
theorem cntL_old {zs L : List Int} {x : Int} (h : x ∈ L) : cntL zs (L ++ [x]) = cntL zs L := by
  unfold cntL
  apply List.countP_congr
  intro y _
  simp [hasL]
  intro e; subst e; exact h
theorem cntL_out {zs L : List Int} {x : Int} (h : x ∉ zs) : cntL zs (L ++ [x]) = cntL zs L := by
  unfold cntL
  apply List.countP_congr
  intro y hy
  simp [hasL]
  intro e; subst e; exact absurd hy h
theorem cntL_new : ∀ {zs L : List Int} {x : Int}, zs.Pairwise (· < ·) → x ∈ zs → x ∉ L → cntL zs (L ++ [x]) = cntL zs L + 1
  | [], _, _, _, h, _ => by cases h
  | y :: t, L, x, hr, h, hn => by
    obtain ⟨h1, h2⟩ := List.pairwise_cons.1 hr
    unfold cntL
    rw [List.countP_cons, List.countP_cons]
    by_cases e : y = x
    · subst e
      have a : cntL t (L ++ [y]) = cntL t L := cntL_out (fun hy => by have := h1 y hy; omega)
      unfold cntL at a
      rw [a]
      have b : hasL (L ++ [y]) y = true := hasL_true (by simp)
      have c : hasL L y = false := hasL_false hn
      simp [b, c]
    · have hx : x ∈ t := by rcases List.mem_cons.1 h with h | h; exact absurd h.symm e; exact h
      have a := cntL_new h2 hx hn
      unfold cntL at a
      rw [a]
      have b : hasL (L ++ [x]) y = hasL L y := by rw [Bool.eq_iff_iff]; simp [hasL]; exact fun h => absurd h e
      rw [b]; omega
theorem cntL_le (zs L : List Int) : cntL zs L ≤ zs.length := List.countP_le_length
theorem cntL_all {zs L : List Int} (h : ∀ y ∈ zs, y ∈ L) : cntL zs L = zs.length := List.countP_eq_length.2 (fun y hy => hasL_true (h y hy))
theorem bag_snocB {l : List Int} {k : Nat} {x : Int} (h : l[k]? = some x) : hasL (l.take (k + 1)) = hasL (l.take k ++ [x]) := by rw [take_snoc h]

set_option maxRecDepth 100000 in
set_option maxHeartbeats 4000000 in
theorem rises_row (aa : Option Addr) (an ac : Nat) (L : List Int) (ba : Option Addr) (bn bc : Nat) (O : List Int) (w : World) (ha : SeqAt w aa (ints L)) (hl : L.length = an) (hc : an ≤ ac) (hm : an ≤ maxLen) (hw : ∀ x ∈ L, (Lit.int .i64 x).wf = true)
    (ha2 : SeqAt w ba (ints O)) (hl2 : O.length = bn) (hc2 : bn ≤ bc) (hm2 : bn ≤ maxLen) (hw2 : ∀ x ∈ O, (Lit.int .i64 x).wf = true) :
    Calls Try.prog 4 #[.slice aa an ac, .slice ba bn bc] w fun e w' => e = .returned (.bool true) ∧ Below w.heap.size w w' := by
  unfold maxLen at hm hm2
  obtain ⟨n, hn⟩ : ∃ n, n = min an 100 := ⟨_, rfl⟩
  obtain ⟨o, ho⟩ : ∃ o, o = min bn 100 := ⟨_, rfl⟩
  have hn1 : n ≤ an := by omega
  have hn2 : n ≤ 100 := by omega
  have hnc : n ≤ ac := by omega
  have ho1 : o ≤ bn := by omega
  have ho2 : o ≤ 100 := by omega
  have hoc : o ≤ bc := by omega
  have HA : Hid (SeqAt w aa (ints (L.take n))) := SeqAt.takeI ha n
  have HO : Hid (SeqAt w ba (ints (O.take o))) := SeqAt.takeI ha2 o
  have HAL : Hid ((L.take n).length = n) := by show _ = _; rw [List.length_take]; omega
  have HOL : Hid ((O.take o).length = o) := by show _ = _; rw [List.length_take]; omega
  have hnI : min (an : Int) 100 = (n : Int) := by omega
  have hoI : min (bn : Int) 100 = (o : Int) := by omega
  clear ha ha2 hl hl2 hw hw2 hn ho
  generalize L.take n = l at *
  generalize O.take o = out at *
  go_enter Try.func4, Try.ntmps4
  go_wp2_with fail
  go_quiet (fail)
  have HB0 : Hid (Below w.heap.size w (w.drewN nq)) := Drawn.below ⟨_, rfl⟩ _
  generalize w.drewN nq = wa at *
  clear hnI hoI
  go_wp2_with fail
  refine (newI aa n ac l _ (HA.out.below HB0.out (Nat.le_refl _)) HAL.out (by omega) HB0.out).mono ?_
  rintro e w1 ⟨g, rfl, hi, hb⟩
  have HI := Lib.hid hi
  have HZL : Hid ((setL l).length ≤ 100) := by have := setL_length l; have := HAL.out; show _ ≤ _; omega
  have HZM : Hid (∀ y, y ∈ setL l ↔ y ∈ l) := fun y => mem_setL
  clear hi hb HB0
  generalize setL l = zs0 at *
  go_wp2_with fail
  refine (alive08_any _).mono ?_
  rintro e w2 ⟨rfl, hb⟩
  have HI2' : Hid (BInv w w2 g (lessL zs0 (out.take 0))) := by rw [List.take_zero, lessL_nil]; exact HI.out.read hb
  clear hb HI
  go_wp2_with fail
  go_loopw [41] (fun i wr => ∃ k : Nat, k ≤ o ∧ i = .int .i64 k ∧ Hid (BInv w wr g (lessL zs0 (out.take k)))) (fun i _ => o - (intOf i).toNat)
  case atStart => exact ⟨0, Nat.zero_le _, rfl, HI2'⟩
  case round =>
    clear HI2'
    obtain ⟨k, hk, rfl, HI⟩ := hrel
    by_cases hlt : k < o
    · have hlt' : (k : Int) < (o : Int) := by omega
      obtain ⟨b, off, x, rfl, hcx, HX⟩ := (HO.out.below HI.out.below (Nat.le_refl _)).ints (k := k) (by rw [HOL.out]; omega)
      have HT := Lib.hid (take_snoc HX.out)
      clear HX
      go_wp2_with fail
      refine (delI x _ HI.out (by have := lessL_length zs0 (out.take k); have := HZL.out; omega)).mono ?_
      rintro e w3 ⟨rfl, hi⟩
      have HI3 : Hid (BInv w w3 g (lessL zs0 (out.take (k + 1)))) := by rw [HT.out, lessL_snoc]; exact hi
      clear hi HI HT
      generalize hasL (lessL zs0 (out.take k)) x = bb
      go_wp2_with fail
      go_roundw
      case rel => exact ⟨k + 1, by omega, by go_num, HI3⟩
      case measure => simp [intOf]; omega
    · have hlt' : ¬ ((k : Int) < (o : Int)) := by omega
      have HI3 : Hid (BInv w wr g (lessL zs0 out)) := by have := HI.out; rw [List.take_of_length_le (by rw [HOL.out]; omega)] at this; exact this
      have HSL : Hid ((lessL zs0 out).length ≤ 100) := by have := lessL_length zs0 out; have := HZL.out; show _ ≤ _; omega
      have HSM : Hid (∀ y, y ∈ lessL zs0 out ↔ y ∈ l ∧ y ∉ out) := fun y => by rw [mem_lessL, HZM.out]
      clear HI HZL HZM hlt hk
      generalize lessL zs0 out = zs at *
      have HR := Lib.hid HI3.out.rises
      go_wp2_with fail
      refine (allI _ HI3.out (by have := HSL.out; omega)).mono ?_
      rintro e w4 ⟨a4, c4, rfl, ho4, hi, hb⟩
      have HI4 := Lib.hid hi
      have HO4 := Lib.hid ho4
      clear hi hb ho4 HI3
      obtain ⟨zn, hzn⟩ : ∃ zn, zn = zs.length := ⟨_, rfl⟩
      have HZN := Lib.hid hzn.symm
      rw [← hzn] at HSL HO4 ⊢
      have hzn1 : zn ≤ 100 := HSL.out
      clear hzn hlt'
      go_wp2_with fail
      go_loopw [53] (fun i wr => ∃ k : Nat, k ≤ zn ∧ i = .int .i64 k ∧ Hid (BInv w wr g zs) ∧ Hid (Below w4.heap.size w4 wr)) (fun i _ => zn - (intOf i).toNat)
      case atStart => exact ⟨0, Nat.zero_le _, rfl, HI4, Below.refl _ _⟩
      case round =>
        clear HI4
        obtain ⟨k, hk, rfl, HI, HB⟩ := hrel
        by_cases hlt : k < zn
        · have hlt' : (k : Int) < (zn : Int) := by omega
          have HQ := Lib.hid (ownsRow_seq' (ownsRow_below HO4.out HB.out))
          obtain ⟨b, off, x, ha4, hcx, HX⟩ := HQ.out.ints (k := k) (by rw [HZN.out]; omega)
          have HPO : Hid (posL zs x = k) := posL_at HR.out HX.out
          have HX0 : Hid (zs[k]?.getD 0 = x) := by show _ = _; rw [HX.out]; rfl
          have HHX : Hid (hasL zs x = true) := hasL_true (List.mem_of_getElem? HX.out)
          have hprev : k = 0 ∨ ∃ j y, k = j + 1 ∧ wr.cell? ⟨b, off + j, none⟩ = some (.int .i64 y) ∧ y < x := by
            cases k with
            | zero => exact Or.inl rfl
            | succ j =>
              obtain ⟨b', off', y, ha4', hcy, HY⟩ := HQ.out.ints (k := j) (by rw [HZN.out]; omega)
              rw [ha4] at ha4'
              cases ha4'
              obtain ⟨h1, e1⟩ := List.getElem?_eq_some_iff.1 HX.out
              obtain ⟨h2, e2⟩ := List.getElem?_eq_some_iff.1 HY.out
              exact Or.inr ⟨j, y, rfl, hcy, by rw [← e1, ← e2]; exact List.pairwise_iff_getElem.1 HR.out j (j + 1) h2 h1 (by omega)⟩
          subst ha4
          clear HX HQ
          rcases hprev with rfl | ⟨j, y, rfl, hcy, hyx⟩
          · simp only [Nat.add_zero] at hcx
            go_wp2_with fail
            refine (firstI x _ HI.out (by rw [HZN.out]; omega)).mono ?_
            rintro e w5 ⟨rfl, hi, hd⟩
            rw [HPO.out, HX0.out, HZN.out, show decide (0 < zn) = true from decide_eq_true hlt]
            have HI5 := Lib.hid hi
            have HB5 := Lib.hid (HB.out.trans (hd.below w4.heap.size))
            clear hi hd HI HB
            go_wp2_with fail
            refine (hasI x _ HI5.out (by rw [HZN.out]; omega)).mono ?_
            rintro e w6 ⟨rfl, hi, hd⟩
            rw [HHX.out]
            have HI6 := Lib.hid hi
            have HB6 := Lib.hid (HB5.out.trans (hd.below w4.heap.size))
            clear hi hd HI5 HB5
            go_wp2_with fail
            go_roundw
            case rel => exact ⟨1, by omega, by go_num, HI6, HB6⟩
            case measure => simp [intOf]; omega
          · have HDB := Lib.hid HB.out
            have hk63 : j + 1 < 1000 := by omega
            have hyx' : ¬ (x ≤ y) := by omega
            go_wp2_with fail
            refine (firstI x _ HI.out (by rw [HZN.out]; omega)).mono ?_
            rintro e w5 ⟨rfl, hi, qd, rfl⟩
            rw [HPO.out, HX0.out, HZN.out, show decide (j + 1 < zn) = true from decide_eq_true hlt]
            have HI5 := Lib.hid hi
            have HB5 : Hid (Below w4.heap.size w4 (wr.drewN qd)) := HB.out.trans (Drawn.below ⟨_, rfl⟩ _)
            clear hi HI HB
            go_wp2_with fail
            refine (hasI x _ HI5.out (by rw [HZN.out]; omega)).mono ?_
            rintro e w6 ⟨rfl, hi, hd⟩
            rw [HHX.out]
            have HI6 := Lib.hid hi
            have HB6 := Lib.hid (HB5.out.trans (hd.below w4.heap.size))
            clear hi hd HI5 HB5
            go_wp2_with fail
            go_roundw
            case rel => exact ⟨j + 1 + 1, by omega, by go_num, HI6, HB6⟩
            case measure => simp [intOf]; omega
        · have hlt' : ¬ ((k : Int) < (zn : Int)) := by omega
          have HI5 := Lib.hid HI.out
          clear HI HB HO4 hlt hk
          have HC0 : Hid (cntL zs (l.take 0) = 0) := by rw [List.take_zero]; exact cntL_nil zs
          go_wp2_with fail
          go_loopw [13, 93] (fun c i wr => ∃ k cn : Nat, k ≤ n ∧ i = .int .i64 k ∧ c = .int .i64 cn ∧ Hid (cntL zs (l.take k) = cn) ∧ Hid (BInv w wr g zs)) (fun _ i _ => n - (intOf i).toNat)
          case atStart => exact ⟨0, 0, Nat.zero_le _, rfl, rfl, HC0, HI5⟩
          case round =>
            clear HC0 HI5
            obtain ⟨k, cn, hk, rfl, rfl, HC, HI⟩ := hrel
            have hcn : cn ≤ 100 := by have := cntL_le zs (l.take k); have h1 := HC.out; have h2 := HZN.out; omega
            by_cases hlt : k < n
            · have hlt2 : (k : Int) < (n : Int) := by omega
              have HAW := Lib.hid (HA.out.below HI.out.below (Nat.le_refl _))
              obtain ⟨b, off, x, rfl, hcx, HX⟩ := HAW.out.ints (k := k) (by rw [HAL.out]; omega)
              have HT := Lib.hid (take_snoc HX.out)
              have hxl := List.mem_of_getElem? HX.out
              have HXL := Lib.hid hxl
              clear HX hxl
              have hkac : k ≤ ac := by omega
              have hkn : k ≤ n := by omega
              go_wp2_with fail
              go_loopw [16, 102] (fun ag i wx => wx = wr ∧ ∃ j : Nat, j ≤ k ∧ i = .int .i64 j ∧ ag = .bool (hasL (l.take j) x)) (fun _ i _ => k - (intOf i).toNat)
              case atStart => exact ⟨rfl, 0, Nat.zero_le _, rfl, by simp [hasL]⟩
              case round =>
                obtain ⟨rfl, j, hj, rfl, rfl⟩ := hrel
                by_cases hlt3 : j < k
                · have hlt3' : (j : Int) < (k : Int) := by omega
                  obtain ⟨b', off', y, hab, hcy, HY⟩ := HAW.out.ints (k := j) (by rw [HAL.out]; omega)
                  cases hab
                  have HTY : Hid (hasL (l.take (j + 1)) x = (hasL (l.take j) x || (y == x))) := by
                    show _ = _
                    rw [take_snoc HY.out, Bool.eq_iff_iff]
                    simp [hasL]
                    constructor
                    · rintro (h | h); exact Or.inl h; exact Or.inr h.symm
                    · rintro (h | h); exact Or.inl h; exact Or.inr h.symm
                  clear HY
                  obtain ⟨bb, hbb⟩ : ∃ bb, bb = hasL (l.take j) x := ⟨_, rfl⟩
                  rw [← hbb] at HTY ⊢
                  clear hbb
                  cases bb
                  · go_wp2_with fail
                    go_roundw
                    case rel => exact ⟨trivial, j + 1, by omega, by go_num, by rw [HTY.out]; simp⟩
                    case measure => simp [intOf]; omega
                  · go_wp2_with fail
                    go_roundw
                    case rel => exact ⟨trivial, j + 1, by omega, by go_num, by rw [HTY.out]; simp⟩
                    case measure => simp [intOf]; omega
                · have hjk : j = k := by omega
                  subst hjk
                  have hlt3' : ¬ ((j : Int) < (j : Int)) := by omega
                  by_cases hin : x ∈ l.take j
                  · have HH : Hid (hasL (l.take j) x = true) := hasL_true hin
                    have HC2 : Hid (cntL zs (l.take (j + 1)) = cn) := by rw [HT.out, cntL_old hin]; exact HC.out
                    rw [HH.out]
                    clear hin HH
                    go_wp2_with fail
                    go_roundw
                    case rel => exact ⟨j + 1, cn, by omega, by go_num, rfl, HC2, HI⟩
                    case measure => simp [intOf]; omega
                  · have HH : Hid (hasL (l.take j) x = false) := hasL_false hin
                    rw [HH.out]
                    clear HH
                    by_cases hz : x ∈ zs
                    · have HC2 : Hid (cntL zs (l.take (j + 1)) = cn + 1) := by show _ = _; rw [HT.out, cntL_new HR.out hz hin, HC.out]
                      have HHZ : Hid (hasL zs x = true) := hasL_true hz
                      clear hin hz
                      go_wp2_with fail
                      refine (hasI x _ HI.out (by rw [HZN.out]; omega)).mono ?_
                      rintro e w6 ⟨rfl, hi, hd⟩
                      rw [HHZ.out]
                      have HI6 := Lib.hid hi
                      clear hi hd
                      go_wp2_with fail
                      go_roundw
                      case rel => exact ⟨j + 1, cn + 1, by omega, by go_num, by go_num, HC2, HI6⟩
                      case measure => simp [intOf]; omega
                    · have HC2 : Hid (cntL zs (l.take (j + 1)) = cn) := by rw [HT.out, cntL_out hz]; exact HC.out
                      have HHZ : Hid (hasL zs x = false) := hasL_false hz
                      clear hin hz
                      go_wp2_with fail
                      refine (hasI x _ HI.out (by rw [HZN.out]; omega)).mono ?_
                      rintro e w6 ⟨rfl, hi, hd⟩
                      rw [HHZ.out]
                      have HI6 := Lib.hid hi
                      clear hi hd
                      go_wp2_with fail
                      go_roundw
                      case rel => exact ⟨j + 1, cn, by omega, by go_num, rfl, HC2, HI6⟩
                      case measure => simp [intOf]; omega
            · have hlt2 : ¬ ((k : Int) < (n : Int)) := by omega
              have hcz : cn = zn := by
                have h1 := HC.out
                rw [List.take_of_length_le (by rw [HAL.out]; omega), cntL_all (fun y hy => ((HSM.out y).1 hy).1), HZN.out] at h1
                exact h1.symm
              subst hcz
              clear HC hcn
              have HI6 := Lib.hid HI.out
              clear HI
              go_wp2_with fail
              go_loopw [125] (fun i wr => ∃ k : Nat, k ≤ o ∧ i = .int .i64 k ∧ Hid (BInv w wr g zs)) (fun i _ => o - (intOf i).toNat)
              case atStart => exact ⟨0, Nat.zero_le _, rfl, HI6⟩
              case round =>
                clear HI6
                obtain ⟨k2, hk2, rfl, HI⟩ := hrel
                by_cases hlt3 : k2 < o
                · have hlt3' : (k2 : Int) < (o : Int) := by omega
                  obtain ⟨b, off, x, rfl, hcx, HX⟩ := (HO.out.below HI.out.below (Nat.le_refl _)).ints (k := k2) (by rw [HOL.out]; omega)
                  have HHZ : Hid (hasL zs x = false) := hasL_false (fun h => ((HSM.out x).1 h).2 (List.mem_of_getElem? HX.out))
                  clear HX
                  go_wp2_with fail
                  refine (hasI x _ HI.out (by rw [HZN.out]; omega)).mono ?_
                  rintro e w6 ⟨rfl, hi, hd⟩
                  rw [HHZ.out]
                  have HI7 := Lib.hid hi
                  clear hi hd
                  go_wp2_with fail
                  go_roundw
                  case rel => exact ⟨k2 + 1, by omega, by go_num, HI7⟩
                  case measure => simp [intOf]; omega
                · have hlt3' : ¬ ((k2 : Int) < (o : Int)) := by omega
                  go_wp2_with fail
                  refine (lenI _ HI.out).mono ?_
                  rintro e w7 ⟨rfl, rfl⟩
                  rw [HZN.out]
                  go_wp2_with fail
                  go_ret
                  exact ⟨rfl, HI.out.below⟩
end Go.Proofs.Ythfdigjbmoconaa
