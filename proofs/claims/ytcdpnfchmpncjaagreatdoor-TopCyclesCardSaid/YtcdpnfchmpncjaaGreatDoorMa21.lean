/-
  Parts of the proof, one behind the other: KSlots, KLay4, KLay5.
-/
import Derived.Test.YtcdpnfchmpncjaaGreatDoorMa20
set_option linter.unusedSimpArgs false
set_option linter.unusedVariables false
namespace Go.Proofs.YtcdpnfchmpncjaaGreatDoor
open Go.RowKit Go.Tr Go.Shelf
def _root_.Go.Tr.slotsL (L : Lay) (count : Nat) : List Nat := L.refs ++ (List.range count).flatMap (fun i => L.recs.map (L.fixed + i * L.record + ·))
theorem _root_.Go.Tr.flat_pre {g : Nat → List Nat} {i count : Nat} (hi : i ≤ count) : (List.range i).flatMap g <+: (List.range count).flatMap g := by
  have h : List.range count = List.range i ++ (List.range count).drop i := by
    have := List.take_append_drop i (List.range count)
    rw [List.take_range, Nat.min_eq_left hi] at this
    exact this.symm
  rw [h, List.flatMap_append]
  exact List.prefix_append _ _
theorem _root_.Go.Tr.flat_next {g : Nat → List Nat} {i : Nat} : (List.range (i + 1)).flatMap g = (List.range i).flatMap g ++ g i := by
  rw [List.range_succ, List.flatMap_append]; simp
theorem _root_.Go.Tr.slots_pre (L : Lay) {i count : Nat} (hi : i < count) (k : Nat) : L.refs ++ (List.range i).flatMap (fun i => L.recs.map (L.fixed + i * L.record + ·)) ++ (L.recs.take k).map (L.fixed + i * L.record + ·) <+: slotsL L count := by
  rw [List.append_assoc]
  refine (List.prefix_append_right_inj _).2 ?_
  refine List.IsPrefix.trans ?_ (flat_pre (i := i + 1) hi)
  rw [flat_next]
  exact (List.prefix_append_right_inj _).2 ((List.take_prefix _ _).map _)
def KeepT (T : Nat → Prop) (W W' : World) : Prop := W.heap.size ≤ W'.heap.size ∧ ∀ k, T k → W'.heap[k]? = W.heap[k]?
theorem KeepT.trans {T : Nat → Prop} {A B C : World} (h : KeepT T A B) (k : KeepT T B C) : KeepT T A C := ⟨Nat.le_trans h.1 k.1, fun i hi => (k.2 i hi).trans (h.2 i hi)⟩
theorem SeqAt.keepT {T : Nat → Prop} {W W' : World} {a : Option Addr} {xs : List Value} (h : SeqAt W a xs) (hT : ∀ q o, a = some ⟨q, o, none⟩ → T q) (hk : KeepT T W W') : SeqAt W' a xs := fun h0 => by
  obtain ⟨q, o, e, hc⟩ := h h0
  exact ⟨q, o, e, fun j hj => (World.cell?_of_block (a := ⟨q, o + j, none⟩) (hk.2 q (hT q o e))).trans (hc j hj)⟩
set_option maxRecDepth 100000 in
set_option maxHeartbeats 4000000 in
theorem slots1 {T : Nat → Prop} (l bl bc count : Nat) (L : Lay) (a1 a2 : Option Addr) (c1 c2 : Nat) (J : List Nat → World → Prop) (W : World)
    (hbl : W.heap[bl]? = some (.cells #[.int .i64 (L.fixed : Nat), .slice a1 L.refs.length c1, .int .i64 (L.record : Nat), .slice a2 L.recs.length c2] 60 (0, 0))) (hbc : W.heap[bc]? = some (.cells #[.int .i64 count] 3 (0, 0)))
    (hs1 : SeqAt W a1 (ns L.refs)) (hs2 : SeqAt W a2 (ns L.recs)) (ht1 : ∀ q o, a1 = some ⟨q, o, none⟩ → T q) (ht2 : ∀ q o, a2 = some ⟨q, o, none⟩ → T q) (htl : T bl) (htc : T bc) (htb : ∀ k, T k → k < W.heap.size)
    (hr : RightLay L) (hc : count ≤ 1024) (hcr : count = 0 ∨ L.record ≠ 0) (hsz : L.size count < 8192)
    (hJ : ∀ pre A B, J pre A → Below A.heap.size A B → J pre B)
    (hY : ∀ pre x W1, J pre W1 → pre ++ [x] <+: slotsL L count → YieldAt Fence.wide 1 Tryz.prog l #[.int .i64 (x : Nat)] W1 fun e W' => e = .returned (.bool true) ∧ J (pre ++ [x]) W' ∧ KeepT T W1 W')
    (h0 : J [] W) :
    CallsIn Fence.wide 2 Tryz.prog 207 (#[.func (.yield l) #[] #[]] ++ #[.pointer (some ⟨bl, 0, none⟩), .pointer (some ⟨bc, 0, none⟩)]) W fun e W' => (∃ v, e = .returned v) ∧ J (slotsL L count) W' := by
  have HSZ := Lib.hid (callsIn_wide (n := 1).2 (lsize_any (v := .agg #[.int .i64 (L.fixed : Nat), .slice a1 L.refs.length c1, .int .i64 (L.record : Nat), .slice a2 L.recs.length c2]) count W ⟨a1, c1, a2, c2, rfl, hs1, hs2⟩ hr hc hcr hsz))
  have b0 := (cells_of_block hbl 0).1
  have b1 := (cells_of_block hbl 1).1
  have b2 := (cells_of_block hbl 2).1
  have b3 := (cells_of_block hbl 3).1
  have d0 := (cells_of_block hbc 0).1
  simp at b0 b1 b2 b3 d0
  have HBL := Lib.hid hbl
  have HBC := Lib.hid hbc
  have HS1 := Lib.hid hs1
  have HS2 := Lib.hid hs2
  have HT1 := Lib.hid ht1
  have HT2 := Lib.hid ht2
  have HTB := Lib.hid htb
  have HR := Lib.hid hr
  have HJ := Lib.hid hJ
  have HY := Lib.hid hY
  have H0 := Lib.hid h0
  clear hbl hbc hs1 hs2 ht1 ht2 htb hr hJ hY h0
  refine callsIn_of_wp Tryz.func207 rfl trivial ?_ rfl
  simp only [Tryz.ntmps207, List.size_toArray, List.length_cons, List.length_nil, Nat.reduceAdd, Nat.reduceSub, Array.replicate_succ, Array.replicate_zero, List.push_toArray, List.append_toArray, List.nil_append, List.cons_append]
  gi_wp2_with fail
  refine ⟨trivial, HSZ.out.mono ?_⟩
  rintro e w1 ⟨rfl, hb⟩
  have HBL1 := Lib.hid ((hb.block bl (Array.getElem?_eq_some_iff.1 HBL.out).1).trans HBL.out)
  have HS11 : Hid (SeqAt w1 a1 (ns L.refs)) := HS1.out.below hb (Nat.le_refl _)
  have HS21 : Hid (SeqAt w1 a2 (ns L.recs)) := HS2.out.below hb (Nat.le_refl _)
  have HJ1 : Hid (J [] w1) := HJ.out _ _ _ H0.out hb
  have b0 := (cells_of_block HBL1.out 0).1
  have b1 := (cells_of_block HBL1.out 1).1
  simp at b0 b1
  obtain ⟨n1, hn1⟩ : ∃ n1, n1 = L.refs.length := ⟨_, rfl⟩
  obtain ⟨n2, hn2⟩ : ∃ n2, n2 = L.recs.length := ⟨_, rfl⟩
  obtain ⟨fx, hfx⟩ : ∃ fx, fx = L.fixed := ⟨_, rfl⟩
  obtain ⟨rx, hrx⟩ : ∃ rx, rx = L.record := ⟨_, rfl⟩
  obtain ⟨sz, hsze⟩ : ∃ sz, sz = L.size count := ⟨_, rfl⟩
  have HN1 := Lib.hid hn1
  have HN2 := Lib.hid hn2
  have HFX := Lib.hid hfx
  have HRX := Lib.hid hrx
  have HSE := Lib.hid hsze
  rw [← hfx] at b0
  rw [← hn1] at b1
  rw [← hsze] at hsz ⊢
  have hl1 : n1 ≤ 1000 := by rw [hn1]; have := risesN_len HR.out.refs (N := 64) HR.out.f; omega
  have hl2 : n2 ≤ 1000 := by rw [hn2]; have := risesN_len HR.out.recs (N := 64) HR.out.r; omega
  clear hn1 hn2 hfx hrx hsze hb H0
  have hfx64 : fx ≤ 64 := by rw [HFX.out]; exact HR.out.f
  have hrx64 : rx ≤ 64 := by rw [HRX.out]; exact HR.out.r
  have hszr : sz = fx + count * rx := by rw [HSE.out, HFX.out, HRX.out]; rfl
  have HSZR := Lib.hid hszr
  rw [← HRX.out] at hcr
  clear hszr b2 b3 d0
  have HAT : Hid (∀ wr, KeepT T w1 wr → wr.heap[bl]? = some (.cells #[.int .i64 fx, .slice a1 n1 c1, .int .i64 rx, .slice a2 n2 c2] 60 (0, 0)) ∧ SeqAt wr a1 (ns L.refs) ∧ SeqAt wr a2 (ns L.recs)) := fun wr hk => ⟨(hk.2 bl htl).trans (by rw [HBL1.out, HFX.out, HRX.out, HN1.out, HN2.out]), SeqAt.keepT HS11.out HT1.out hk, SeqAt.keepT HS21.out HT2.out hk⟩
  gi_wp2_with fail
  gi_loopw [22] (fun i wr => ∃ k : Nat, k ≤ n1 ∧ i = .int .i64 k ∧ Hid (J (L.refs.take k) wr) ∧ Hid (KeepT T w1 wr)) (fun i _ => n1 - (intOf i).toNat)
  case atStart => exact ⟨0, Nat.zero_le _, rfl, HJ1, ⟨Nat.le_refl _, fun _ _ => rfl⟩⟩
  case round =>
    obtain ⟨k, hk, rfl, HJK, HK⟩ := hrel
    by_cases hlt : k < n1
    · obtain ⟨b, off, x, rfl, hcx, HX⟩ := (HAT.out wr HK.out).2.1.n (k := k) (by rw [← HN1.out]; exact hlt)
      have HTK : Hid (L.refs.take (k + 1) = L.refs.take k ++ [x]) := take_next HX.out
      have hpre : L.refs.take k ++ [x] <+: slotsL L count := by rw [← HTK.out]; exact (List.take_prefix _ _).trans (List.prefix_append _ _)
      obtain ⟨fn, tmps, assign, body, hy, hR⟩ := HY.out _ x wr HJK.out hpre
      have HRR := Lib.hid hR
      clear hpre hR
      gi_wp2_with fail
      refine HRR.out.mono ?_
      rintro e W3 ⟨rfl, hJ3, hk3⟩
      have HJ3 : Hid (J (L.refs.take (k + 1)) W3) := by rw [HTK.out]; exact hJ3
      have HK3 : Hid (KeepT T w1 W3) := HK.out.trans hk3
      clear hJ3 hk3
      gi_wp2_with fail
      go_roundw
      case rel => exact ⟨k + 1, by omega, by simp, HJ3, HK3⟩
      case measure => simp [intOf]; omega
    · obtain rfl : k = n1 := by omega
      have HJA : Hid (J L.refs wr) := by have := HJK.out; rw [List.take_of_length_le (by rw [HN1.out]; exact Nat.le_refl _)] at this; exact this
      clear hlt HJK HJ1 HBL1 HS11 HS21 b0 b1
      have b0 := (cells_of_block (HAT.out wr HK.out).1 0).1
      simp at b0
      gi_wp2_with fail
      gi_loopw [8] (fun v wq => ∃ i : Nat, i ≤ count ∧ v = .int .i64 (fx + i * rx : Nat) ∧ Hid (J (L.refs ++ (List.range i).flatMap (fun i => L.recs.map (L.fixed + i * L.record + ·))) wq) ∧ Hid (KeepT T w1 wq)) (fun v _ => if rx = 0 then 0 else sz + rx - (intOf v).toNat)
      case atStart => exact ⟨0, Nat.zero_le _, by simp, by simpa using HJA, HK⟩
      case round =>
        obtain ⟨i, hi, rfl, HJI, HKI⟩ := hrel
        by_cases hlt2 : i < count
        · have hrx0 : rx ≠ 0 := by omega
          have hmul : (i + 1) * rx ≤ count * rx := Nat.mul_le_mul_right _ hlt2
          rw [Nat.add_mul, Nat.one_mul] at hmul
          obtain ⟨fr, hfr⟩ : ∃ fr, fr = fx + i * rx := ⟨_, rfl⟩
          have hsz2 := HSZR.out
          have hfr2 : fr + rx ≤ sz := by omega
          have HFR : Hid (fr = L.fixed + i * L.record) := by rw [← HFX.out, ← HRX.out]; exact hfr
          rw [← hfr]
          clear hmul hsz2
          have hlt3 : (fr : Int) < (sz : Int) := by omega
          have b3 := (cells_of_block (HAT.out wr HKI.out).1 3).1
          simp at b3
          have HFE := Lib.hid hfr
          clear hfr
          gi_wp2_with fail
          gi_loopw [43] (fun v wq => ∃ j : Nat, j ≤ n2 ∧ v = .int .i64 j ∧ Hid (J (L.refs ++ (List.range i).flatMap (fun i => L.recs.map (L.fixed + i * L.record + ·)) ++ (L.recs.take j).map (L.fixed + i * L.record + ·)) wq) ∧ Hid (KeepT T w1 wq)) (fun v _ => n2 - (intOf v).toNat)
          case atStart => exact ⟨0, Nat.zero_le _, rfl, by simpa using HJI, HKI⟩
          case round =>
            obtain ⟨j, hj, rfl, HJJ, HKJ⟩ := hrel
            by_cases hlt4 : j < n2
            · obtain ⟨b, off, x, rfl, hcx, HX⟩ := (HAT.out wr HKJ.out).2.2.n (k := j) (by rw [← HN2.out]; exact hlt4)
              have hx64 : x < rx := by rw [HRX.out]; exact HR.out.recs.1 x (List.mem_of_getElem? HX.out)
              have HTK : Hid ((L.recs.take (j + 1)).map (L.fixed + i * L.record + ·) = (L.recs.take j).map (L.fixed + i * L.record + ·) ++ [fr + x]) := by
                show _ = _
                rw [take_next HX.out, List.map_append, HFR.out]; rfl
              have hpre := slots_pre L hlt2 (j + 1)
              rw [HTK.out, ← List.append_assoc] at hpre
              have hY2 := HY.out _ (fr + x) wr HJJ.out hpre
              rw [Int.natCast_add] at hY2
              obtain ⟨fn, tmps, assign, body, hy, hR⟩ := hY2
              have HRR := Lib.hid hR
              clear hpre hR
              gi_wp2_with fail
              refine HRR.out.mono ?_
              rintro e W3 ⟨rfl, hJ3, hk3⟩
              have HJ3 : Hid (J (L.refs ++ (List.range i).flatMap (fun i => L.recs.map (L.fixed + i * L.record + ·)) ++ (L.recs.take (j + 1)).map (L.fixed + i * L.record + ·)) W3) := by rw [HTK.out, ← List.append_assoc]; exact hJ3
              have HK3 : Hid (KeepT T w1 W3) := HKJ.out.trans hk3
              clear hJ3 hk3
              gi_wp2_with fail
              go_roundw
              case rel => exact ⟨j + 1, by omega, by simp, HJ3, HK3⟩
              case measure => simp [intOf]; omega
            · obtain rfl : j = n2 := by omega
              have HJB : Hid (J (L.refs ++ (List.range (i + 1)).flatMap (fun i => L.recs.map (L.fixed + i * L.record + ·))) wr) := by
                have := HJJ.out
                rw [List.take_of_length_le (by rw [HN2.out]; exact Nat.le_refl _), List.append_assoc] at this
                rw [flat_next]
                exact this
              have b2 := (cells_of_block (HAT.out wr HKJ.out).1 2).1
              simp at b2
              clear HJJ
              gi_wp2_with fail
              go_roundw
              case rel => exact ⟨i + 1, by omega, by rw [HFE.out, Nat.add_mul, Nat.one_mul, ← Nat.add_assoc]; push_cast; rfl, HJB, HKJ⟩
              case measure => rw [if_neg hrx0, if_neg hrx0]; simp [intOf]; omega
        · obtain rfl : i = count := by omega
          have HJE : Hid (J (slotsL L i) wr) := HJI
          have hge : ¬ ((fx + i * rx : Nat) : Int) < (sz : Int) := by rw [HSZR.out]; omega
          clear HJI
          generalize fx + i * rx = fr at *
          gi_wp2_with fail
          go_end0
          exact ⟨⟨_, rfl⟩, HJE.out⟩
theorem seqAt_fields {w w' : World} {bl : Nat} {cs : Array Value} {Tp : TypeId} (h : w.heap[bl]? = some (.cells cs Tp (0, 0))) (hb : Below w.heap.size w w') : w'.heap[bl]? = some (.cells cs Tp (0, 0)) := (hb.block bl (Array.getElem?_eq_some_iff.1 h).1).trans h
theorem slots_seq {T : Nat → Prop} (bl bc count : Nat) (L : Lay) (a1 a2 : Option Addr) (c1 c2 : Nat) (w : World)
    (hbl : w.heap[bl]? = some (.cells #[.int .i64 (L.fixed : Nat), .slice a1 L.refs.length c1, .int .i64 (L.record : Nat), .slice a2 L.recs.length c2] 60 (0, 0))) (hbc : w.heap[bc]? = some (.cells #[.int .i64 count] 3 (0, 0)))
    (hs1 : SeqAt w a1 (ns L.refs)) (hs2 : SeqAt w a2 (ns L.recs)) (ht1 : ∀ q o, a1 = some ⟨q, o, none⟩ → T q) (ht2 : ∀ q o, a2 = some ⟨q, o, none⟩ → T q) (htl : T bl) (htc : T bc) (htb : ∀ k, T k → k < w.heap.size)
    (hr : RightLay L) (hc : count ≤ 1024) (hcr : count = 0 ∨ L.record ≠ 0) (hsz : L.size count < 8192) :
    SeqAll (fun _ A B => Below A.heap.size A B) (KeepT T) Tryz.prog 207 #[.pointer (some ⟨bl, 0, none⟩), .pointer (some ⟨bc, 0, none⟩)] (fun x : Nat => #[.int .i64 (x : Nat)]) (slotsL L count) w :=
  fun l J W hW hSt hY h0 => slots1 l bl bc count L a1 a2 c1 c2 J W (seqAt_fields hbl hW) (seqAt_fields hbc hW) (hs1.below hW (Nat.le_refl _)) (hs2.below hW (Nat.le_refl _)) ht1 ht2 htl htc (fun k hk => Nat.lt_of_lt_of_le (htb k hk) hW.size) hr hc hcr hsz hSt hY h0
set_option maxRecDepth 100000 in
theorem lslots_any (count : Nat) (v1 v2 v3 v4 : Value) (w : World) : Calls Tryz.prog 194 #[.agg #[v1, v2, v3, v4], .int .i64 count] w fun e w' => ∃ bl bc, e = .returned (.func (.func 207) #[] #[.pointer (some ⟨bl, 0, none⟩), .pointer (some ⟨bc, 0, none⟩)]) ∧ w'.heap[bl]? = some (.cells #[v1, v2, v3, v4] 60 (0, 0)) ∧ w'.heap[bc]? = some (.cells #[.int .i64 count] 3 (0, 0)) ∧ w.heap.size ≤ bl ∧ w.heap.size ≤ bc ∧ Below w.heap.size w w' := by
  go_enter Tryz.func194, Tryz.ntmps194
  go_wp2
  go_ret
  refine ⟨_, _, rfl, ?_, ?_, ?_, ?_, ((Below.refl _ w).alloc (Nat.le_refl _) _).alloc (by simp) _⟩
  · exact (Below.heap_alloc _ _ _ (by simp)).trans (heap_alloc_new w _)
  · have := heap_alloc_new (w.alloc (.cells #[v1, v2, v3, v4] 60)) (.cells #[.int .i64 count] 3)
    rwa [World.size_alloc] at this
  · simp
  · simp
end Go.Proofs.YtcdpnfchmpncjaaGreatDoor
namespace Go.Proofs.YtcdpnfchmpncjaaGreatDoor
open Go.RowKit Go.Tr Go.Shelf
variable {w w' : World} {F G : Nat → Prop} {b : Nat} {L : Lay}
set_option maxRecDepth 100000 in
theorem ladd_any {v : Value} (w : World) (h : Bk0 w F b) (hv : LayAt w v L) (hr : RightLay L) : Calls Tryz.prog 33 #[.pointer (some ⟨b, 0, none⟩), v] w fun e w' => e = .returned (.tuple #[.int .i64 1, .int .i64 0]) ∧ Bk1 w' (grow F w w') b L ∧ Only F w w' := by
  obtain ⟨i0, hi, hz0, hz1, hz2⟩ := info_parts infoLay
  have hl1 : L.refs.length ≤ 1000 := risesN_len hr.refs (by have := hr.f; omega)
  have hl2 : L.recs.length ≤ 1000 := risesN_len hr.recs (by have := hr.r; omega)
  have HRT : Hid (∀ W : World, Below w.heap.size w W → Calls Tryz.prog 82 #[v] W fun e w' => e = .returned (.bool true) ∧ Below W.heap.size W w') := fun W hb => lright_any W (hv.kept hb) hr
  have HOWN : Hid (∀ W : World, Below w.heap.size w W → Calls Tryz.prog 83 #[v] W fun e w' => ∃ v', e = .returned v' ∧ LayF w' v' L (fun k => W.heap.size ≤ k ∧ k < w'.heap.size) ∧ Below W.heap.size W w') := fun W hb => lown_any W (hv.kept hb) hl1 hl2
  obtain ⟨ra, rc, sa, sc, rfl, -, -⟩ := hv
  obtain ⟨hF, hb⟩ := h
  obtain ⟨fx, hfx⟩ : ∃ fx, fx = L.fixed := ⟨_, rfl⟩
  obtain ⟨rx, hrx⟩ : ∃ rx, rx = L.record := ⟨_, rfl⟩
  obtain ⟨n1, hn1⟩ : ∃ n1, n1 = L.refs.length := ⟨_, rfl⟩
  obtain ⟨n2, hn2⟩ : ∃ n2, n2 = L.recs.length := ⟨_, rfl⟩
  rw [← hfx, ← hrx, ← hn1, ← hn2] at HRT HOWN ⊢
  have HFX : Hid (fx = L.fixed ∧ rx = L.record ∧ n1 = L.refs.length ∧ n2 = L.recs.length) := ⟨hfx, hrx, hn1, hn2⟩
  have HBA : Hid (Below w.heap.size w (w.alloc (.cells #[.int .i64 fx, .slice ra n1 rc, .int .i64 rx, .slice sa n2 sc] 60))) := (Below.refl _ w).alloc (Nat.le_refl _) _
  obtain ⟨xb, hxb⟩ : ∃ xb, xb = w.heap.size := ⟨_, rfl⟩
  have HXB : Hid ((w.alloc (.cells #[.int .i64 fx, .slice ra n1 rc, .int .i64 rx, .slice sa n2 sc] 60)).heap[xb]? = some (.cells #[.int .i64 fx, .slice ra n1 rc, .int .i64 rx, .slice sa n2 sc] 60 (0, 0))) := by rw [hxb]; exact heap_alloc_new w _
  have hbl := (Array.getElem?_eq_some_iff.1 hb).1
  have HBK : Hid (∀ W : World, Below w.heap.size w W → W.heap[b]? = some (.cells #[.slice none 0 0] 150 (0, 0))) := fun W hW => (hW.block b hbl).trans hb
  have HFB := Lib.hid hF
  have HXE : Hid (xb = w.heap.size) := hxb
  have HBL := Lib.hid hbl
  clear hfx hrx hn1 hn2 hl1 hl2 hr hF hb hbl
  go_enter Tryz.func33, Tryz.ntmps33
  go_wp2_with fail
  rw [← hxb]
  clear hxb
  generalize w.alloc (.cells #[.int .i64 fx, .slice ra n1 rc, .int .i64 rx, .slice sa n2 sc] 60) = wa at *
  refine (HRT.out wa HBA.out).mono ?_
  rintro e w1 ⟨rfl, hb1⟩
  have HB1 : Hid (Below w.heap.size w w1) := HBA.out.trans (hb1.mono HBA.out.size)
  have HX1 := Lib.hid ((hb1.block xb (Array.getElem?_eq_some_iff.1 HXB.out).1).trans HXB.out)
  have x0 := (cells_of_block HX1.out 0).1
  have x1 := (cells_of_block HX1.out 1).1
  have x2 := (cells_of_block HX1.out 2).1
  have x3 := (cells_of_block HX1.out 3).1
  simp at x0 x1 x2 x3
  have b0 := (cells_of_block (HBK.out w1 HB1.out) 0).1
  simp at b0
  clear hb1
  go_wp2_with fail
  refine wp_region_lastH (S := fun W => W.cell? ⟨b, 0, none⟩ = some (.slice none 0 0) ∧ W.cell? ⟨xb, 0, none⟩ = some (.int .i64 fx) ∧ W.cell? ⟨xb, 1, none⟩ = some (.slice ra n1 rc) ∧ W.cell? ⟨xb, 2, none⟩ = some (.int .i64 rx) ∧ W.cell? ⟨xb, 3, none⟩ = some (.slice sa n2 sc)) 11 (by kernel_rfl) (by kernel_rfl) ⟨b0, x0, x1, x2, x3⟩ (fun hH => ?_)
  simp only [lastOps, nop, List.modify_toArray, List.modify_succ_cons, List.modify_zero_cons]
  refine takeH 0 (v := ?_) rfl (by kernel_rfl) (by kernel_rfl) (by kernel_rfl) (fun _ _ _ h => h) (by rfl) ?_ (by assumption) ?_
  rotate_left
  · intro W hW
    go_simp
    try with_reducible rfl
  try simp only [Act.put, List.setIfInBounds_toArray, List.set_cons_zero, List.set_cons_succ]
  refine takeH 1 (v := ?_) rfl (by kernel_rfl) (by kernel_rfl) (by kernel_rfl) (fun _ _ _ h => h) (by rfl) ?_ (by assumption) ?_
  rotate_left
  · intro W hW
    go_simp
    try with_reducible rfl
  try simp only [Act.put, List.setIfInBounds_toArray, List.set_cons_zero, List.set_cons_succ]
  refine takeH 2 (v := ?_) rfl (by kernel_rfl) (by kernel_rfl) (by kernel_rfl) (fun _ _ _ h => h) (by rfl) ?_ (by assumption) ?_
  rotate_left
  · intro W hW
    go_simp
    try with_reducible rfl
  try simp only [Act.put, List.setIfInBounds_toArray, List.set_cons_zero, List.set_cons_succ]
  refine takeH 3 (v := ?_) rfl (by kernel_rfl) (by kernel_rfl) (by kernel_rfl) (fun _ _ _ h => h) (by rfl) ?_ (by assumption) ?_
  rotate_left
  · intro W hW
    go_simp
    try with_reducible rfl
  try simp only [Act.put, List.setIfInBounds_toArray, List.set_cons_zero, List.set_cons_succ]
  refine takeH 4 (v := ?_) rfl (by kernel_rfl) (by kernel_rfl) (by kernel_rfl) (fun _ _ _ h => h) (by rfl) ?_ (by assumption) ?_
  rotate_left
  · intro W hW
    go_simp
    try with_reducible rfl
  try simp only [Act.put, List.setIfInBounds_toArray, List.set_cons_zero, List.set_cons_succ]
  refine takeH 5 (v := ?_) rfl (by kernel_rfl) (by kernel_rfl) (by kernel_rfl) (fun _ _ _ h => h) (by rfl) ?_ (by assumption) ?_
  rotate_left
  · intro W hW
    go_simp
    try with_reducible rfl
  try simp only [Act.put, List.setIfInBounds_toArray, List.set_cons_zero, List.set_cons_succ]
  refine wpAnyH_ready (rs := [6]) (by kernel_rfl) (by simp) (readyH rfl (fun K hK => ?_) AllReadyH.nil)
  rw [if_pos (by rfl)]
  go_simp
  refine (HOWN.out _ HB1.out.drew).mono ?_
  rintro e w2 ⟨v', rfl, hlf, hb2⟩
  obtain ⟨ra', rc', sa', sc', rfl, hsA, hsB, hgA, hgB⟩ := hlf
  have HB2 : Hid (Below w.heap.size w w2) := HB1.out.drew.trans (hb2.mono HB1.out.size)
  have hxl : xb < w1.heap.size := (Array.getElem?_eq_some_iff.1 HX1.out).1
  have hx2 : w2.heap[xb]? = w1.heap[xb]? := hb2.block xb hxl
  have hbb2 : w2.heap[b]? = w1.heap[b]? := hb2.block b (Nat.lt_of_lt_of_le HBL.out HB1.out.size)
  have y0 := (World.cell?_of_block (a := ⟨xb, 0, none⟩) hx2).trans x0
  have y1 := (World.cell?_of_block (a := ⟨xb, 1, none⟩) hx2).trans x1
  have y2 := (World.cell?_of_block (a := ⟨xb, 2, none⟩) hx2).trans x2
  have y3 := (World.cell?_of_block (a := ⟨xb, 3, none⟩) hx2).trans x3
  have yb := (World.cell?_of_block (a := ⟨b, 0, none⟩) hbb2).trans b0
  have hxl2 : xb < w2.heap.size := World.block_lt_of_cell? w2 _ y0
  have hbl2 : b < w2.heap.size := World.block_lt_of_cell? w2 _ yb
  have hz12 : w1.heap.size ≤ w2.heap.size := hb2.size
  clear hb2 hx2 hbb2
  refine hK.out _ _ ⟨yb, y0, y1, y2, y3⟩ (fun hH => ?_)
  clear hK K
  try simp only [Act.put, List.setIfInBounds_toArray, List.set_cons_zero, List.set_cons_succ]
  refine wpAnyH_ready (rs := [7]) (by kernel_rfl) (by simp) (readyH rfl (fun K hK => ?_) AllReadyH.nil)
  rw [if_pos (by rfl)]
  go_simp
  refine hK.out _ _ ⟨(World.cell?_alloc_lt _ _ _ hbl2).trans hH.1, (World.cell?_alloc_lt _ _ _ hxl2).trans hH.2.1, (World.cell?_alloc_lt _ _ _ hxl2).trans hH.2.2.1, (World.cell?_alloc_lt _ _ _ hxl2).trans hH.2.2.2.1, (World.cell?_alloc_lt _ _ _ hxl2).trans hH.2.2.2.2⟩ (fun hH => ?_)
  clear hK K
  try simp only [Act.put, List.setIfInBounds_toArray, List.set_cons_zero, List.set_cons_succ]
  refine wpAnyH_ready (rs := [8]) (by kernel_rfl) (by simp) (readyH rfl (fun K hK => ?_) AllReadyH.nil)
  rw [if_pos (by rfl)]
  refine wpO_appendO _ (.tmp 24) (.tmp 27) 148 rfl 60 i0 _ 4 64 Tryz.underlying148 hi hz0 hz1 hz2 rfl (by decide) (.slice none 0 0) 0 [] rfl (OwnO.nil _ _) ⟨w2.heap.size, 0, none⟩ 1 1 [.int .i64 (L.fixed : Nat), .slice ra' L.refs.length rc', .int .i64 (L.record : Nat), .slice sa' L.recs.length sc'] rfl rfl ?hn ?h1 (by unfold maxLen; omega) (by omega) ?_
  case hn =>
    intro j u hj
    rcases j with _ | _ | _ | _ | j
    · simp at hj; subst hj; simp [Addr.add]
    · simp at hj; subst hj; simp [Addr.add]
    · simp at hj; subst hj; simp [Addr.add]
    · simp at hj; subst hj; simp [Addr.add]
    · simp at hj
  case h1 => intro u hu; simp at hu; rcases hu with rfl | rfl | rfl | rfl <;> rfl
  intro v4 w4 r1 r2 r3
  rcases r1 with ⟨-, hcontra, -⟩ | ⟨lb, lo, cap, rfl, g1, g2, g3, g4, g5, g6⟩
  · omega
  have p0 : w4.cell? ⟨lb, lo, none⟩ = some (.int .i64 (L.fixed : Nat)) := g6 0 (by decide)
  have p1 : w4.cell? ⟨lb, lo + 1, none⟩ = some (.slice ra' L.refs.length rc') := g6 1 (by decide)
  have p2 : w4.cell? ⟨lb, lo + 2, none⟩ = some (.int .i64 (L.record : Nat)) := g6 2 (by decide)
  have p3 : w4.cell? ⟨lb, lo + 3, none⟩ = some (.slice sa' L.recs.length sc') := g6 3 (by decide)
  have hlbf : w2.heap.size ≤ lb ∧ lb < w4.heap.size := by
    rcases r3 lb rfl with h' | h'
    · cases h'
    · have h1 := h'.1
      simp at h1
      exact ⟨by omega, h'.2⟩
  have hk4 : ∀ k, k < w2.heap.size → w4.heap[k]? = w2.heap[k]? := fun k hk => (r2.block k (by simp; omega) (by simp [Value.ownBlock])).trans (Below.heap_alloc _ _ _ hk)
  have HK4 := Lib.hid hk4
  have HB4 : Hid (Below w.heap.size w w4) := (HB2.out.alloc HB2.out.size _).grown r2 (by have := HB2.out.size; simp; omega) (fun j hj => by simp [Value.ownBlock] at hj)
  have hbb := HBK.out w4 HB4.out
  have q0 := cells_of_block hbb 0
  simp at q0
  obtain ⟨q0, qf⟩ := q0
  have z0 := (World.cell?_of_block (a := ⟨xb, 0, none⟩) (hk4 xb hxl2)).trans y0
  have z1 := (World.cell?_of_block (a := ⟨xb, 1, none⟩) (hk4 xb hxl2)).trans y1
  have z2 := (World.cell?_of_block (a := ⟨xb, 2, none⟩) (hk4 xb hxl2)).trans y2
  have z3 := (World.cell?_of_block (a := ⟨xb, 3, none⟩) (hk4 xb hxl2)).trans y3
  have HBB := Lib.hid hbb
  have HNE : Hid (lb ≠ b) := fun e => by have := hlbf.1; omega
  have HLB := Lib.hid hlbf
  have HZ := Lib.hid HB2.out.size
  have HGA : Hid (∀ q o, ra' = some ⟨q, o, none⟩ → (grow F w w4 q ∧ q ≠ b)) := fun q o e => by
    have h1 : w1.heap.size ≤ q ∧ q < w2.heap.size := hgA q o e
    have h2 := HB1.out.size
    have h3 := HBL.out
    have h4 := r2.size
    simp at h4
    exact ⟨Or.inr ⟨by omega, by omega⟩, by omega⟩
  have HGB : Hid (∀ q o, sa' = some ⟨q, o, none⟩ → (grow F w w4 q ∧ q ≠ b)) := fun q o e => by
    have h1 : w1.heap.size ≤ q ∧ q < w2.heap.size := hgB q o e
    have h2 := HB1.out.size
    have h3 := HBL.out
    have h4 := r2.size
    simp at h4
    exact ⟨Or.inr ⟨by omega, by omega⟩, by omega⟩
  have HSA4 : Hid (SeqAt w4 ra' (ns L.refs)) := fun h0 => by
    obtain ⟨q, o, e, hc⟩ := hsA h0
    exact ⟨q, o, e, fun j hj => by rw [World.cell?_of_block (a := ⟨q, o + j, none⟩) (hk4 q (hgA q o e).2)]; exact hc j hj⟩
  have HSB4 : Hid (SeqAt w4 sa' (ns L.recs)) := fun h0 => by
    obtain ⟨q, o, e, hc⟩ := hsB h0
    exact ⟨q, o, e, fun j hj => by rw [World.cell?_of_block (a := ⟨q, o + j, none⟩) (hk4 q (hgB q o e).2)]; exact hc j hj⟩
  clear r2 r3 hk4 hbb hsA hsB hgA hgB g1 g2 g3 g4 g5 g6 hlbf
  refine hK.out _ _ ⟨q0, z0, z1, z2, z3⟩ (fun hH => ?_)
  clear hK K
  try simp only [Act.put, List.setIfInBounds_toArray, List.set_cons_zero, List.set_cons_succ]
  refine takeH 9 (v := ?_) rfl (by kernel_rfl) (by kernel_rfl) (by kernel_rfl) (fun _ _ _ h => h) (by rfl) ?_ (by assumption) ?_
  rotate_left
  · intro W hW
    go_simp
    try with_reducible rfl
  try simp only [Act.put, List.setIfInBounds_toArray, List.set_cons_zero, List.set_cons_succ]
  refine takeH 10 (v := ?_) rfl (by kernel_rfl) (by kernel_rfl) (by kernel_rfl) (fun _ _ _ h => h) (by rfl) ?_ (by assumption) ?_
  rotate_left
  · intro W hW
    go_simp
    try with_reducible rfl
  try simp only [Act.put, List.setIfInBounds_toArray, List.set_cons_zero, List.set_cons_succ]
  refine takeH 11 (v := ?_) rfl (by kernel_rfl) (by kernel_rfl) (by kernel_rfl) (fun _ _ _ h => h) (by rfl) ?_ (by assumption) ?_
  rotate_left
  · intro W hW
    go_simp
    try with_reducible rfl
  try simp only [Act.put, List.setIfInBounds_toArray, List.set_cons_zero, List.set_cons_succ]
  refine lastH_done (by kernel_rfl) rfl (by rfl) ?_
  go_simp
  go_wp2_with fail
  go_ret2
  have hk5 : ∀ k, k ≠ b → (w4.setCell ⟨b, 0, none⟩ (.slice (some ⟨lb, lo, none⟩) 1 cap)).heap[k]? = w4.heap[k]? := fun k hk => Below.heap_setCell _ _ _ _ hk
  have hz5 : (w4.setCell ⟨b, 0, none⟩ (.slice (some ⟨lb, lo, none⟩) 1 cap)).heap.size = w4.heap.size := by simp [World.setCell]
  have hbk : (w4.setCell ⟨b, 0, none⟩ (.slice (some ⟨lb, lo, none⟩) 1 cap)).heap[b]? = some (.cells #[.slice (some ⟨lb, lo, none⟩) 1 cap] 150 (0, 0)) := by
    simpa using block_setCell HBB.out 0 (.slice (some ⟨lb, lo, none⟩) 1 cap)
  have hlk := hk5 lb HNE.out
  refine ⟨rfl, ⟨Or.inl HFB.out, lb, lo, cap, ra', rc', sa', sc', hbk, Or.inr ⟨?_, ?_⟩, HNE.out, ?_, (World.cell?_of_block (a := ⟨lb, lo, none⟩) hlk).trans p0, (World.cell?_of_block (a := ⟨lb, lo + 1, none⟩) hlk).trans p1, (World.cell?_of_block (a := ⟨lb, lo + 2, none⟩) hlk).trans p2, (World.cell?_of_block (a := ⟨lb, lo + 3, none⟩) hlk).trans p3⟩, ?_⟩
  · have h1 := HLB.out.1; have h2 := HZ.out; omega
  · rw [hz5]; exact HLB.out.2
  · refine ⟨ra', rc', sa', sc', rfl, HSA4.out.off b (fun q o e => (HGA.out q o e).2) _ hk5, HSB4.out.off b (fun q o e => (HGB.out q o e).2) _ hk5, fun q o e => ?_, fun q o e => ?_⟩
    · have := (HGA.out q o e).1
      unfold grow at this ⊢
      rw [hz5]; exact this
    · have := (HGB.out q o e).1
      unfold grow at this ⊢
      rw [hz5]; exact this
  · exact (Only.of_below HB4.out F).setCell (p := ⟨b, 0, none⟩) (Or.inl HFB.out) _
end Go.Proofs.YtcdpnfchmpncjaaGreatDoor
namespace Go.Tr
open Go.RowKit
def isRefN (L : Lay) (p : Nat) : Bool := if p < L.fixed then decide (p ∈ L.refs) else decide ((p - L.fixed) % L.record ∈ L.recs)
theorem hasL_nat (xs : List Nat) (x : Nat) : hasL (xs.map fun x : Nat => (x : Int)) (x : Int) = decide (x ∈ xs) := by
  rw [Bool.eq_iff_iff, hasL_iff, decide_eq_true_iff, List.mem_map]
  exact ⟨fun ⟨a, h1, h2⟩ => by have : a = x := by omega
                               exact this ▸ h1, fun h => ⟨x, h, rfl⟩⟩
theorem rises_ints {xs : List Nat} (h : xs.Pairwise (· < ·)) : (xs.map fun x : Nat => (x : Int)).Pairwise (· ≤ ·) := by
  rw [List.pairwise_map]
  exact h.imp (fun h => by omega)
end Go.Tr
namespace Go.Proofs.YtcdpnfchmpncjaaGreatDoor
open Go.RowKit Go.Tr Go.Shelf
variable {w w' : World} {F G : Nat → Prop} {b : Nat} {L : Lay}
theorem nsearch_any (a : Option Addr) (n c : Nat) (xs : List Nat) (x : Nat) (w : World) (h : SeqAt w a (ns xs)) (hl : xs.length = n) (hn : n ≤ 1000) (hs : xs.Pairwise (· < ·)) :
    Calls Tryz.prog 137 #[.slice a n c, .int .i64 x] w fun e w' => ∃ k : Nat, e = .returned (.tuple #[.int .i64 k, .bool (decide (x ∈ xs))]) ∧ Drawn w w' := by
  have := search_any a n c (xs.map fun x : Nat => (x : Int)) (x : Int) w (by rw [← ns_ints]; exact h) (by simpa using hl) (by omega) (rises_ints hs)
  refine this.mono ?_
  rintro e w' ⟨rfl, hd⟩
  exact ⟨_, by rw [hasL_nat], hd⟩
set_option maxRecDepth 100000 in
set_option maxHeartbeats 1000000 in
theorem lisref_any {v : Value} (count p : Nat) (w : World) (h : LayAt w v L) (hr : RightLay L) (hc : count ≤ 1024) (hcr : count = 0 ∨ L.record ≠ 0) (hsz : L.size count < 8192) (hp : p < L.size count) : Calls Tryz.prog 182 #[v, .int .i64 count, .int .i64 p] w fun e w' => e = .returned (.tuple #[.bool (isRefN L p), .int .i64 0]) ∧ Below w.heap.size w w' := by
  have HSZ : Hid (∀ W : World, Below w.heap.size w W → Calls Tryz.prog 87 #[v, .int .i64 count] W fun e w' => e = .returned (.tuple #[.int .i64 (L.size count : Nat), .int .i64 0]) ∧ Below W.heap.size W w') := fun W hb => lsize_any count W (h.kept hb) hr hc hcr hsz
  obtain ⟨ra, rc, sa, sc, rfl, h1, h2⟩ := h
  have hrl : L.refs.length ≤ 1000 := risesN_len hr.refs (by have := hr.f; omega)
  have hsl : L.recs.length ≤ 1000 := risesN_len hr.recs (by have := hr.r; omega)
  have hrec : L.fixed ≤ p → L.record ≠ 0 := fun hfp e => by
    unfold Lay.size at hp
    rw [e, Nat.mul_zero] at hp; omega
  obtain ⟨fx, hfx⟩ : ∃ fx, fx = L.fixed := ⟨_, rfl⟩
  obtain ⟨rx, hrx⟩ : ∃ rx, rx = L.record := ⟨_, rfl⟩
  obtain ⟨n1, hn1⟩ : ∃ n1, n1 = L.refs.length := ⟨_, rfl⟩
  obtain ⟨n2, hn2⟩ : ∃ n2, n2 = L.recs.length := ⟨_, rfl⟩
  obtain ⟨z, hz⟩ : ∃ z, z = L.size count := ⟨_, rfl⟩
  have hf := hr.f
  have hrr := hr.r
  rw [← hfx, ← hrx, ← hn1, ← hn2] at HSZ ⊢
  rw [← hz] at HSZ hsz hp
  rw [← hfx] at hf hrec
  rw [← hrx] at hrr hrec
  rw [← hn1] at hrl
  rw [← hn2] at hsl
  obtain ⟨bv, hbv⟩ : ∃ bv, bv = isRefN L p := ⟨_, rfl⟩
  have HBV := Lib.hid hbv
  have HSA : Hid (∀ (x : Nat) (W : World), Below w.heap.size w W → Calls Tryz.prog 137 #[.slice ra n1 rc, .int .i64 x] W fun e w' => ∃ k : Nat, e = .returned (.tuple #[.int .i64 k, .bool (decide (x ∈ L.refs))]) ∧ Drawn W w') := fun x W hb => nsearch_any ra n1 rc L.refs x W (h1.below hb (Nat.le_refl _)) hn1.symm hrl hr.refs.2
  have HSB : Hid (∀ (x : Nat) (W : World), Below w.heap.size w W → Calls Tryz.prog 137 #[.slice sa n2 sc, .int .i64 x] W fun e w' => ∃ k : Nat, e = .returned (.tuple #[.int .i64 k, .bool (decide (x ∈ L.recs))]) ∧ Drawn W w') := fun x W hb => nsearch_any sa n2 sc L.recs x W (h2.below hb (Nat.le_refl _)) hn2.symm hsl hr.recs.2
  have HFX : Hid (fx = L.fixed ∧ rx = L.record) := ⟨hfx, hrx⟩
  have HBA : Hid (Below w.heap.size w (w.alloc (.cells #[.int .i64 fx, .slice ra n1 rc, .int .i64 rx, .slice sa n2 sc] 60))) := (Below.refl _ w).alloc (Nat.le_refl _) _
  obtain ⟨xb, hxb⟩ : ∃ xb, xb = w.heap.size := ⟨_, rfl⟩
  have HXB : Hid ((w.alloc (.cells #[.int .i64 fx, .slice ra n1 rc, .int .i64 rx, .slice sa n2 sc] 60)).heap[xb]? = some (.cells #[.int .i64 fx, .slice ra n1 rc, .int .i64 rx, .slice sa n2 sc] 60 (0, 0))) := by rw [hxb]; exact heap_alloc_new w _
  have k1 : ¬ (p : Int) < 0 := by omega
  have k2 : ¬ (z : Int) ≤ (p : Int) := by omega
  rw [← hbv]
  clear h1 h2 hr hfx hrx hn1 hn2 hz hbv hcr hc
  go_enter Tryz.func182, Tryz.ntmps182
  go_wp2_with fail
  rw [← hxb]
  have HSZ2 := Lib.hid (HSZ.out _ HBA.out)
  clear hxb HSZ
  generalize w.alloc (.cells #[.int .i64 fx, .slice ra n1 rc, .int .i64 rx, .slice sa n2 sc] 60) = wa at *
  refine HSZ2.out.mono ?_
  rintro e w1 ⟨rfl, hb1⟩
  have HB1 : Hid (Below w.heap.size w w1) := HBA.out.trans (hb1.mono HBA.out.size)
  have HX1 := Lib.hid ((hb1.block xb (Array.getElem?_eq_some_iff.1 HXB.out).1).trans HXB.out)
  have x0 := (cells_of_block HX1.out 0).1
  have x1 := (cells_of_block HX1.out 1).1
  have x2 := (cells_of_block HX1.out 2).1
  have x3 := (cells_of_block HX1.out 3).1
  simp at x0 x1 x2 x3
  clear hb1
  by_cases hpf : fx ≤ p
  · have hpf' : (fx : Int) ≤ (p : Int) := by omega
    have hr0 : ¬ (rx : Int) = 0 := by have := hrec hpf; omega
    have hsub : IntKind.i64.wrap ((p : Int) - (fx : Int)) = ((p - fx : Nat) : Int) := by rw [IntWalk.i64_in _ (by omega)]; omega
    have hmod : ((p - fx : Nat) : Int).tmod (rx : Int) = (((p - fx) % rx : Nat) : Int) := by
      rw [Int.tmod_eq_emod_of_nonneg (by omega)]; push_cast; rfl
    obtain ⟨y, hy⟩ : ∃ y, y = (p - fx) % rx := ⟨_, rfl⟩
    obtain ⟨d, hd⟩ : ∃ d, d = p - fx := ⟨_, rfl⟩
    have hyl : y < rx := by rw [hy]; exact Nat.mod_lt _ (by have := hrec hpf; omega)
    have HBV2 : Hid (bv = decide (y ∈ L.recs)) := by
      show _ = _
      rw [HBV.out, isRefN, ← HFX.out.1, ← HFX.out.2, if_neg (by omega), ← hy]
    rw [← hy, ← hd] at hmod
    rw [← hd] at hsub
    have hdb : d ≤ 8192 := by omega
    have hmod2 : (d : Int) % (rx : Int) = (y : Int) := by rw [← Int.tmod_eq_emod_of_nonneg (by omega)]; exact hmod
    clear hy hd
    go_wp2_with fail
    refine wp_region_held_drew (S := fun W => W.cell? ⟨xb, 0, none⟩ = some (.int .i64 fx) ∧ W.cell? ⟨xb, 2, none⟩ = some (.int .i64 rx) ∧ W.cell? ⟨xb, 3, none⟩ = some (.slice sa n2 sc)) (by kernel_rfl) ⟨x0, x2, x3⟩ (fun hH => ?_)
    refine takeH 0 (v := ?_) rfl (by kernel_rfl) (by kernel_rfl) (by kernel_rfl) (fun _ _ _ h => h) (by rfl) ?_ (by assumption) ?_
    rotate_left
    · intro W hW
      go_simp
      try with_reducible rfl
    try simp only [Act.put, List.setIfInBounds_toArray, List.set_cons_zero, List.set_cons_succ]
    refine takeH 1 (v := ?_) rfl (by kernel_rfl) (by kernel_rfl) (by kernel_rfl) (fun _ _ _ h => h) (by rfl) ?_ (by assumption) ?_
    rotate_left
    · intro W hW
      go_simp
      try with_reducible rfl
    try simp only [Act.put, List.setIfInBounds_toArray, List.set_cons_zero, List.set_cons_succ]
    refine takeH 2 (v := ?_) rfl (by kernel_rfl) (by kernel_rfl) (by kernel_rfl) (fun _ _ _ h => h) (by rfl) ?_ (by assumption) ?_
    rotate_left
    · intro W hW
      go_simp
      try with_reducible rfl
    try simp only [Act.put, List.setIfInBounds_toArray, List.set_cons_zero, List.set_cons_succ]
    refine takeH 3 (v := ?_) rfl (by kernel_rfl) (by kernel_rfl) (by kernel_rfl) (fun _ _ _ h => h) (by rfl) ?_ (by assumption) ?_
    rotate_left
    · intro W hW
      go_simp
      try with_reducible rfl
    try simp only [Act.put, List.setIfInBounds_toArray, List.set_cons_zero, List.set_cons_succ]
    refine takeH 4 (v := ?_) rfl (by kernel_rfl) (by kernel_rfl) (by kernel_rfl) (fun _ _ _ h => h) (by rfl) ?_ (by assumption) ?_
    rotate_left
    · intro W hW
      go_simp
      try with_reducible rfl
    try simp only [Act.put, List.setIfInBounds_toArray, List.set_cons_zero, List.set_cons_succ]
    refine takeH 5 (v := ?_) rfl (by kernel_rfl) (by kernel_rfl) (by kernel_rfl) (fun _ _ _ h => h) (by rfl) ?_ (by assumption) ?_
    rotate_left
    · intro W hW
      go_simp
      try with_reducible rfl
    try simp only [Act.put, List.setIfInBounds_toArray, List.set_cons_zero, List.set_cons_succ]
    refine takeH 6 (v := ?_) rfl (by kernel_rfl) (by kernel_rfl) (by kernel_rfl) (fun _ _ _ h => h) (by rfl) ?_ (by assumption) ?_
    rotate_left
    · intro W hW
      go_simp
      try with_reducible rfl
    try simp only [Act.put, List.setIfInBounds_toArray, List.set_cons_zero, List.set_cons_succ]
    refine takeH 7 (v := ?_) rfl (by kernel_rfl) (by kernel_rfl) (by kernel_rfl) (fun _ _ _ h => h) (by rfl) ?_ (by assumption) ?_
    rotate_left
    · intro W hW
      go_simp
      try with_reducible rfl
    try simp only [Act.put, List.setIfInBounds_toArray, List.set_cons_zero, List.set_cons_succ]
    refine takeH 8 (v := ?_) rfl (by kernel_rfl) (by kernel_rfl) (by kernel_rfl) (fun _ _ _ h => h) (by rfl) ?_ (by assumption) ?_
    rotate_left
    · intro W hW
      go_simp
      try with_reducible rfl
    try simp only [Act.put, List.setIfInBounds_toArray, List.set_cons_zero, List.set_cons_succ]
    refine takeH 9 (v := ?_) rfl (by kernel_rfl) (by kernel_rfl) (by kernel_rfl) (fun _ _ _ h => h) (by rfl) ?_ (by assumption) ?_
    rotate_left
    · intro W hW
      go_simp
      try with_reducible rfl
    try simp only [Act.put, List.setIfInBounds_toArray, List.set_cons_zero, List.set_cons_succ]
    refine takeH 10 (v := ?_) rfl (by kernel_rfl) (by kernel_rfl) (by kernel_rfl) (fun _ _ _ h => h) (by rfl) ?_ (by assumption) ?_
    rotate_left
    · intro W hW
      go_simp
      try with_reducible rfl
    try simp only [Act.put, List.setIfInBounds_toArray, List.set_cons_zero, List.set_cons_succ]
    refine wpAnyH_done (by kernel_rfl) ?_ _
    go_wp2_with fail
    refine (HSB.out y _ HB1.out.drew).mono ?_
    rintro e w2 ⟨k, rfl, nq, rfl⟩
    rw [← HBV2.out]
    go_wp2_with fail
    go_ret2
    exact ⟨rfl, HB1.out.trans (Drawn.below ⟨1 + nq, rfl⟩ _)⟩
  · have hpf' : ¬ (fx : Int) ≤ (p : Int) := by omega
    have HBV2 : Hid (bv = decide (p ∈ L.refs)) := by
      show _ = _
      rw [HBV.out, isRefN, ← HFX.out.1, if_pos (by omega)]
    go_wp2_with fail
    refine (HSA.out p _ HB1.out).mono ?_
    rintro e w2 ⟨k, rfl, nq, rfl⟩
    rw [← HBV2.out]
    go_wp2_with fail
    go_ret2
    exact ⟨rfl, HB1.out.trans (Drawn.below ⟨nq, rfl⟩ _)⟩
end Go.Proofs.YtcdpnfchmpncjaaGreatDoor
