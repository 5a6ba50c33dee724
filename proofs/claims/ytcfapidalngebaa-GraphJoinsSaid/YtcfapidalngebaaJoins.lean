/-
  turnrowlaw13.GraphJoins: the walk.
-/
import Derived.Test.YtcfapidalngebaaLost
import Derived.Test.YtcfapidalngebaaGrowsPlain
import Derived.Test.YtcfapidalngebaaAppSeq
import Derived.Test.YtcfapidalngebaaSorted13
import Derived.Test.YtcfapidalngebaaSame
import Derived.Test.YtcfapidalngebaaHas
import Derived.Test.YtcfapidalngebaaAlive13
import Derived.Test.YtcfapidalngebaaGreat13
import Derived.Deep.QuietTactic
import Derived.BigQuiet
set_option linter.unusedSimpArgs false
set_option linter.unusedVariables false
namespace Go.Proofs.Ytcfapidalngebaa
open Go.RowKit Go.Tr

theorem joins_mem {a b : List Int} {E : Edges} {z : Int} : z ∈ orderL (a ++ b) E ↔ z ∈ orderL a E ∨ z ∈ orderL b E := by
  constructor
  · intro h
    refine order_least (fun y => y ∈ orderL a E ∨ y ∈ orderL b E) (fun y hy => ?_) (fun x y h0 hxy => ?_) z h
    · exact (List.mem_append.1 hy).imp (order_roots _ _ y) (order_roots _ _ y)
    · exact h0.imp (fun h => order_closed _ _ h hxy) (fun h => order_closed _ _ h hxy)
  · rintro (h | h)
    · exact order_least (fun y => y ∈ orderL (a ++ b) E) (fun y hy => order_roots _ _ y (List.mem_append_left _ hy)) (fun x y h0 hxy => order_closed _ _ h0 hxy) z h
    · exact order_least (fun y => y ∈ orderL (a ++ b) E) (fun y hy => order_roots _ _ y (List.mem_append_right _ hy)) (fun x y h0 hxy => order_closed _ _ h0 hxy) z h
theorem joins_lost {Q ls nodes O : List Int} (hq : ∀ x, x ∈ Q ↔ x ∈ O) (hl : ∀ x, x ∈ ls ↔ x ∈ nodes ∧ x ∉ O) {x : Int} (hx : x ∈ nodes) : hasL ls x = !hasL Q x := by
  rw [Bool.eq_iff_iff, hasL_iff, hl]
  simp [hasL, hq, hx]
theorem joins_none {ls Q O : List Int} (hq : ∀ x, x ∈ Q ↔ x ∈ O) (hl : ∀ x, x ∈ ls ↔ x ∈ Q ∧ x ∉ O) : ls = [] := by
  cases ls with
  | nil => rfl
  | cons x t =>
    have := (hl x).1 (by simp)
    exact absurd ((hq x).1 this.1) this.2
/-- The ends of some edges. -/
def endsL (E : Edges) : List Int := E.flatMap fun e => [e.1, e.2]
theorem endsL_snoc (E : Edges) (e : Int × Int) : endsL (E ++ [e]) = endsL E ++ [e.1, e.2] := by simp [endsL]
theorem endsL_length : ∀ E : Edges, (endsL E).length = 2 * E.length
  | [] => rfl
  | e :: E => by have := endsL_length E; simp [endsL] at this ⊢; omega
theorem own_nil {w : World} {base : Nat} {e : TypeId} {a : Option Addr} {n c : Nat} {xs : List Value} (h : w.ownsRow base e 1 (.slice a n c) n xs) : a = none → n = 0 ∧ c = 0 := by
  rintro rfl
  obtain ⟨_, ⟨h1, h2⟩ | ⟨g, cap, cur, h1, _⟩⟩ := h
  · cases h1; exact ⟨rfl, rfl⟩
  · cases h1

theorem reach_set (ra ea : Option Addr) (rn rc en ec : Nat) (roots : List Int) (E : Edges) (w : World) (hr : SeqAt w ra (ints roots)) (he : SeqAt w ea (ecells E)) (hrn : roots.length = rn) (hen : E.length = en) (hs : rn + en ≤ 1000000) :
    Calls Try.prog 29 #[.slice ra rn rc, .slice ea en ec] w fun e w' => ∃ a n c zs, e = .returned (.slice a n c) ∧ SeqAt w' a (ints zs) ∧ zs.length = n ∧ n ≤ rn + en ∧ (a = none → n = 0 ∧ c = 0) ∧ zs.Pairwise (· < ·) ∧ (∀ x, x ∈ zs ↔ x ∈ orderL roots E) ∧ Below w.heap.size w w' := by
  refine (reach_any ra ea rn rc en ec roots E w hr he hrn hen hs).mono ?_
  rintro e w' ⟨v, rfl, ho, hb⟩
  obtain ⟨a, c, rfl, hso, -, -⟩ := ownsRow_seq ho
  exact ⟨a, _, c, _, rfl, hso, rfl, by have := reachL_length roots E; omega, own_nil ho, reachL_rises roots E, fun x => mem_reachL, hb⟩
theorem lost_set (na ra ea : Option Addr) (nn nc rn rc en ec : Nat) (nodes roots : List Int) (E : Edges) (w : World) (hn : SeqAt w na (ints nodes)) (hr : SeqAt w ra (ints roots)) (he : SeqAt w ea (ecells E)) (hnn : nodes.length = nn) (hrn : roots.length = rn) (hen : E.length = en) (hs : rn + en ≤ 1000000) (hs2 : nn ≤ 1000000) :
    Calls Try.prog 38 #[.slice na nn nc, .slice ra rn rc, .slice ea en ec] w fun e w' => ∃ a n c zs, e = .returned (.slice a n c) ∧ SeqAt w' a (ints zs) ∧ zs.length = n ∧ n ≤ nn ∧ zs.Pairwise (· < ·) ∧ (∀ x, x ∈ zs ↔ x ∈ nodes ∧ x ∉ orderL roots E) ∧ Below w.heap.size w w' := by
  refine (lost_any na ra ea nn nc rn rc en ec nodes roots E w hn hr he hnn hrn hen hs hs2).mono ?_
  rintro e w' ⟨v, zs, rfl, ho, hp, hm, hl, hb⟩
  obtain ⟨a, c, rfl, hso, -, -⟩ := ownsRow_seq ho
  exact ⟨a, _, c, _, rfl, hso, rfl, hl, hp, hm, hb⟩
theorem sorted_set (a : Option Addr) (n c : Nat) (l : List Int) (w : World) (h : SeqAt w a (ints l)) (hl : l.length = n) (hs : n ≤ 1000000) :
    Calls Try.prog 36 #[.slice a n c] w fun e w' => ∃ a n c zs, e = .returned (.slice a n c) ∧ SeqAt w' a (ints zs) ∧ zs.length = n ∧ zs.Pairwise (· < ·) ∧ (∀ x, x ∈ zs ↔ x ∈ l) ∧ Below w.heap.size w w' := by
  refine (sorted13_any a n c l w h hl hs).mono ?_
  rintro e w' ⟨v, zs, rfl, ho, hp, hm, hb⟩
  obtain ⟨a, c, rfl, hso, -, -⟩ := ownsRow_seq ho
  exact ⟨a, _, c, _, rfl, hso, rfl, hp, hm, hb⟩

set_option maxRecDepth 100000 in
theorem joins_big (aa ba ea : Option Addr) (an ac bn bc en ec : Nat) (w : World) (hbig : 80 < an ∨ 80 < bn ∨ 80 < en) (ha : an ≤ 9223372036854775807) (hb : bn ≤ 9223372036854775807) (he : en ≤ 9223372036854775807) :
    Calls Try.prog 12 #[.slice aa an ac, .slice ba bn bc, .slice ea en ec] w fun e w' => e = .returned (.bool true) ∧ Below w.heap.size w w' := by
  have hg : great80 [(an : Int), (bn : Int), (en : Int)] = true := by simp [great80]; omega
  have HG := Lib.hid hg; clear hg hbig
  go_enter Try.func12, Try.ntmps12
  go_wp2_with fail
  refine (alive13_any _).mono ?_
  rintro e w1 ⟨rfl, hb1⟩
  have HB1 := Lib.hid hb1; clear hb1
  go_wp2_with fail
  refine (great13_any _ 3 3 [(an : Int), (bn : Int), (en : Int)] _ ?h1 rfl (by decide)).mono ?_
  case h1 => exact seqAt_block (cs := #[iv an, iv bn, iv en]) (heap_alloc_new w1 _)
  rintro e w2 ⟨rfl, hw⟩
  rw [HG.out]
  subst hw
  go_wp2_with fail
  refine (alive13_any _).mono ?_
  rintro e w3 ⟨rfl, hb3⟩
  have HB3 := Lib.hid hb3; clear hb3
  go_wp2
  go_ret
  exact ⟨rfl, (HB1.out.alloc HB1.out.size _).trans (HB3.out.mono (by have := HB1.out.size; simp; omega))⟩

set_option maxRecDepth 100000 in
set_option maxHeartbeats 1000000 in
theorem joins_small (aa ba ea : Option Addr) (an ac bn bc en ec : Nat) (la : List Int) (lb : List Int) (E : Edges) (w : World) (ha : SeqAt w aa (ints la)) (han : la.length = an) (has : an ≤ 80) (hb : SeqAt w ba (ints lb)) (hbn : lb.length = bn) (hbs : bn ≤ 80) (he : SeqAt w ea (ecells E)) (hen : E.length = en) (hes : en ≤ 80) (hna : aa = none → an = 0 ∧ ac = 0) (hnb : ba = none → bn = 0 ∧ bc = 0) :
    Calls Try.prog 12 #[.slice aa an ac, .slice ba bn bc, .slice ea en ec] w fun e w' => e = .returned (.bool true) ∧ Below w.heap.size w w' := by
  have hg : great80 [(an : Int), (bn : Int), (en : Int)] = false := by simp [great80]; omega
  have HG := Lib.hid hg; clear hg
  have HA := Lib.hid ha; clear ha
  have HAN := Lib.hid han; clear han
  have HB := Lib.hid hb; clear hb
  have HBN := Lib.hid hbn; clear hbn
  have HE := Lib.hid he; clear he
  have HEN := Lib.hid hen; clear hen
  have HNA := Lib.hid hna; clear hna
  have HNB := Lib.hid hnb; clear hnb
  obtain ⟨i0, hi, hz0, hz1, hz2⟩ := info_parts infoIntL
  go_enter Try.func12, Try.ntmps12
  go_wp2_with fail
  refine (alive13_any _).mono ?_
  rintro e w1 ⟨rfl, hb1⟩
  have HB1 := Lib.hid hb1; clear hb1
  go_wp2_with fail
  refine (great13_any _ 3 3 [(an : Int), (bn : Int), (en : Int)] _ ?h1 rfl (by decide)).mono ?_
  case h1 => exact seqAt_block (cs := #[iv an, iv bn, iv en]) (heap_alloc_new w1 _)
  rintro e w2 ⟨rfl, hw⟩
  rw [HG.out]
  have HBW2 : Hid (Below w.heap.size w w2) := by subst hw; exact HB1.out.alloc HB1.out.size _
  clear hw HB1
  have HA2 := Lib.hid (HA.out.below HBW2.out (Nat.le_refl _))
  have HBB2 := Lib.hid (HB.out.below HBW2.out (Nat.le_refl _))
  have HE2 := Lib.hid (HE.out.below HBW2.out (Nat.le_refl _))
  have hown0 : Hid ((w2.alloc (.cells #[] 3)).ownsRow w2.heap.size 3 1 (.slice (some ⟨w2.heap.size, 0, none⟩) 0 0) 0 []) :=
    ⟨rfl, Or.inr ⟨w2.heap.size, 0, #[], rfl, Nat.le_refl _, heap_alloc_new w2 _, Nat.le_refl _, Nat.zero_le _, rfl, rfl⟩⟩
  have HBe : Hid (Below w2.heap.size w2 (w2.alloc (.cells #[] 3))) := (Below.refl _ _).alloc (Nat.le_refl _) _
  have HS1 := Lib.hid (HA2.out.below HBe.out (Nat.le_refl _))
  go_wp2_with (first
    | (at_builtin; refine wpList_append_seq rfl (.tmp 30) (.tmp 31) 22 rfl w2.heap.size 3 i0 _ 1 8 Try.underlying22 hi hz0 hz1 hz2 rfl (by decide) (.slice (some ⟨w2.heap.size, 0, none⟩) 0 0) 0 [] rfl hown0.out aa an ac (ints la) rfl HNA.out (by rw [ints_length, HAN.out]; omega) HS1.out (ints_oneCell .i64 la) (by unfold maxLen; omega) (by omega) (by simp) ?_
       intro v8 w8 hown8 hgrow8 hat8
       simp only [List.nil_append, Nat.zero_add] at hown8
       obtain ⟨a8, c8, rfl, hso8, hc8, hm8⟩ := ownsRow_seq hown8
       have HV8 := Lib.hid hown8
       have HB8 : Hid (Below w2.heap.size w2 w8) := ((Below.refl _ w2).alloc (Nat.le_refl _) _).grown hgrow8 (by simp) (fun j hj => by cases hj; exact Nat.le_refl _)
       have HS2 := Lib.hid (HBB2.out.below HB8.out (Nat.le_refl _))
       clear hown8 hgrow8 hat8 hso8 hc8 hm8 hown0 HS1 HBe)
    | (at_builtin; refine wpList_append_seq rfl (.tmp 32) (.tmp 33) 22 rfl w2.heap.size 3 i0 _ 1 8 Try.underlying22 hi hz0 hz1 hz2 rfl (by decide) (.slice a8 an c8) an (ints la) rfl HV8.out ba bn bc (ints lb) rfl HNB.out (by rw [ints_length, HBN.out]; omega) HS2.out (ints_oneCell .i64 lb) (by unfold maxLen; omega) (by omega) HB8.out.size ?_
       intro v9 w9 hown9 hgrow9 hat9
       obtain ⟨a9, c9, rfl, hso9, hc9, hm9⟩ := ownsRow_seq hown9
       have HJ9 : Hid (SeqAt w9 a9 (ints (la ++ lb))) := by rw [show ints (la ++ lb) = ints la ++ ints lb by simp [ints]]; exact hso9
       have HB9 : Hid (Below w2.heap.size w2 w9) := HB8.out.grown hgrow9 HB8.out.size (fun j hj => (HV8.out.lt j hj).1)
       clear hown9 hgrow9 hat9 hso9 hc9 hm9 HV8 HB8 HS2)
    | fail)
  have HB9w : Hid (Below w.heap.size w w9) := HBW2.out.trans (HB9.out.mono HBW2.out.size)
  have HA9 := Lib.hid (HA.out.below HB9w.out (Nat.le_refl _))
  have HE9 := Lib.hid (HE.out.below HB9w.out (Nat.le_refl _))
  clear HB9 HA2 HBB2 HE2 HBW2
  refine (reach_set aa ea an ac en ec la E _ HA9.out HE9.out HAN.out HEN.out (by omega)).mono ?_
  rintro e w3 ⟨xa, xn, xc, X, rfl, hs, hl, hle, hnil, hrise, hmem, hb⟩
  have HX3 := Lib.hid hs
  have HXN := Lib.hid hl
  have HXNIL := Lib.hid hnil
  have HXM := Lib.hid hmem
  have hxle := hle
  have HB3 : Hid (Below w.heap.size w w3) := HB9w.out.trans (hb.mono HB9w.out.size)
  have HJ3 := Lib.hid (HJ9.out.below hb (Nat.le_refl _))
  have HBB3 := Lib.hid (HB.out.below HB3.out (Nat.le_refl _))
  have HE3 := Lib.hid (HE.out.below HB3.out (Nat.le_refl _))
  clear hs hl hle hnil hrise hmem hb HA9 HE9 HB9w HJ9
  go_wp2_with fail
  refine (reach_set ba ea bn bc en ec lb E _ HBB3.out HE3.out HBN.out HEN.out (by omega)).mono ?_
  rintro e w4 ⟨ya, yn, yc, Y, rfl, hs, hl, hle, hnil, hrise, hmem, hb⟩
  have HY4 := Lib.hid hs
  have HYN := Lib.hid hl
  have HYNIL := Lib.hid hnil
  have HYM := Lib.hid hmem
  have hyle := hle
  have HB4 : Hid (Below w.heap.size w w4) := HB3.out.trans (hb.mono HB3.out.size)
  have HJ4 := Lib.hid (HJ3.out.below hb (Nat.le_refl _))
  have HX4 := Lib.hid (HX3.out.below hb (Nat.le_refl _))
  have HE4 := Lib.hid (HE.out.below HB4.out (Nat.le_refl _))
  clear hs hl hle hnil hrise hmem hb HB3 HJ3 HX3 HBB3 HE3
  go_wp2_with fail
  refine (reach_set a9 ea (an + bn) c9 en ec (la ++ lb) E _ HJ4.out HE4.out (by rw [List.length_append, HAN.out, HBN.out]) HEN.out (by omega)).mono ?_
  rintro e w5 ⟨za, zn, zc, Z, rfl, hs, hl, hle, hnil, hrise, hmem, hb⟩
  have HZ5 := Lib.hid hs
  have HZN := Lib.hid hl
  have HZR := Lib.hid hrise
  have HZM : Hid (∀ x, x ∈ Z ↔ x ∈ X ++ Y) := fun x => by rw [hmem x, joins_mem, List.mem_append, HXM.out x, HYM.out x]
  have hzle := hle
  have HB5 : Hid (Below w.heap.size w w5) := HB4.out.trans (hb.mono HB4.out.size)
  have HX5 := Lib.hid (HX4.out.below hb (Nat.le_refl _))
  have HY5 := Lib.hid (HY4.out.below hb (Nat.le_refl _))
  clear hs hl hle hnil hrise hmem hb HB4 HJ4 HX4 HY4 HE4
  have hown0 : Hid ((w5.alloc (.cells #[] 3)).ownsRow w5.heap.size 3 1 (.slice (some ⟨w5.heap.size, 0, none⟩) 0 0) 0 []) :=
    ⟨rfl, Or.inr ⟨w5.heap.size, 0, #[], rfl, Nat.le_refl _, heap_alloc_new w5 _, Nat.le_refl _, Nat.zero_le _, rfl, rfl⟩⟩
  have HBe : Hid (Below w5.heap.size w5 (w5.alloc (.cells #[] 3))) := (Below.refl _ _).alloc (Nat.le_refl _) _
  have HS1 := Lib.hid (HX5.out.below HBe.out (Nat.le_refl _))
  go_wp2_with (first
    | (at_builtin; refine wpList_append_seq rfl (.tmp 45) (.tmp 46) 22 rfl w5.heap.size 3 i0 _ 1 8 Try.underlying22 hi hz0 hz1 hz2 rfl (by decide) (.slice (some ⟨w5.heap.size, 0, none⟩) 0 0) 0 [] rfl hown0.out xa xn xc (ints X) rfl HXNIL.out (by rw [ints_length, HXN.out]; omega) HS1.out (ints_oneCell .i64 X) (by unfold maxLen; omega) (by omega) (by simp) ?_
       intro v8 w8 hown8 hgrow8 hat8
       simp only [List.nil_append, Nat.zero_add] at hown8
       obtain ⟨a8, c8, rfl, hso8, hc8, hm8⟩ := ownsRow_seq hown8
       have HV8 := Lib.hid hown8
       have HB8 : Hid (Below w5.heap.size w5 w8) := ((Below.refl _ w5).alloc (Nat.le_refl _) _).grown hgrow8 (by simp) (fun j hj => by cases hj; exact Nat.le_refl _)
       have HS2 := Lib.hid (HY5.out.below HB8.out (Nat.le_refl _))
       clear hown8 hgrow8 hat8 hso8 hc8 hm8 hown0 HS1 HBe)
    | (at_builtin; refine wpList_append_seq rfl (.tmp 47) (.tmp 48) 22 rfl w5.heap.size 3 i0 _ 1 8 Try.underlying22 hi hz0 hz1 hz2 rfl (by decide) (.slice a8 xn c8) xn (ints X) rfl HV8.out ya yn yc (ints Y) rfl HYNIL.out (by rw [ints_length, HYN.out]; omega) HS2.out (ints_oneCell .i64 Y) (by unfold maxLen; omega) (by omega) HB8.out.size ?_
       intro v9 w9 hown9 hgrow9 hat9
       obtain ⟨a9, c9, rfl, hso9, hc9, hm9⟩ := ownsRow_seq hown9
       have HJ9 : Hid (SeqAt w9 a9 (ints (X ++ Y))) := by rw [show ints (X ++ Y) = ints X ++ ints Y by simp [ints]]; exact hso9
       have HB9 : Hid (Below w5.heap.size w5 w9) := HB8.out.grown hgrow9 HB8.out.size (fun j hj => (HV8.out.lt j hj).1)
       clear hown9 hgrow9 hat9 hso9 hc9 hm9 HV8 HB8 HS2)
    | fail)
  have HB6 : Hid (Below w.heap.size w w9) := HB5.out.trans (HB9.out.mono HB5.out.size)
  have HZ6 := Lib.hid (HZ5.out.below HB9.out (Nat.le_refl _))
  have HX6 := Lib.hid (HX5.out.below HB9.out (Nat.le_refl _))
  clear HB9 HZ5 HX5 HY5 HB5
  refine (sorted_set a9 (xn + yn) c9 (X ++ Y) _ HJ9.out (by rw [List.length_append, HXN.out, HYN.out]) (by omega)).mono ?_
  rintro e w10 ⟨sa, sn, sc, Z2, rfl, hs, hl, hrise, hmem, hb⟩
  have hzz : Z2 = Z := rises_eq hrise HZR.out (fun z => (hmem z).trans (HZM.out z).symm)
  subst hzz
  have hsn : sn = zn := by rw [← hl, HZN.out]
  subst hsn
  have HS10 := Lib.hid hs
  have HZ10 := Lib.hid (HZ6.out.below hb (Nat.le_refl _))
  have HX10 := Lib.hid (HX6.out.below hb (Nat.le_refl _))
  have HB10 : Hid (Below w.heap.size w w10) := HB6.out.trans (hb.mono HB6.out.size)
  clear hs hl hrise hmem hb HZ6 HX6 HB6 HZR HZM HJ9
  go_wp2_with fail
  refine (same_any za sa sn zc sn sc Z2 Z2 _ HZ10.out HS10.out HZN.out HZN.out (by omega)).mono ?_
  rintro e w11 ⟨rfl, hd⟩
  rw [show sameL Z2 Z2 = true from (sameL_iff _ _).2 rfl]
  have HB11 : Hid (Below w.heap.size w w11) := HB10.out.trans (hd.below _)
  have HX11 := Lib.hid (HX10.out.drawn hd)
  have HE11 := Lib.hid (HE.out.below HB11.out (Nat.le_refl _))
  clear hd HB10 HS10 HZ10 HX10
  go_wp2_with fail
  go_loopw [11, 55] (fun v i wr => ∃ k : Nat, k ≤ en ∧ i = .int .i64 k ∧ Hid (wr.ownsRow w11.heap.size 3 1 v (2 * k) (ints (endsL (E.take k)))) ∧ Hid (Below w11.heap.size w11 wr)) (fun _ i _ => en - (intOf i).toNat)
  case atStart => exact ⟨0, Nat.zero_le _, rfl, World.ownsRow_nil _ _ _ _, Below.refl _ _⟩
  case round =>
    obtain ⟨k, hk, rfl, HV, HBB⟩ := hrel
    by_cases hlt : k < en
    · obtain ⟨b, off, x, y, rfl, hc1, hc2, HK⟩ := (HE11.out.below HBB.out (Nat.le_refl _)).edge (k := k) (by rw [HEN.out]; exact hlt)
      obtain ⟨oa8, oc8, rfl, -, hoc8, -⟩ := ownsRow_seq HV.out
      go_wp2_with (first
        | (at_builtin; refine wpList_append_own _ rfl (.tmp 59) (.tmp 64) 22 rfl w11.heap.size 3 i0 _ 1 8 Try.underlying22 hi hz0 hz1 hz2 rfl (by decide) _ _ _ rfl ((HV.out.alloc _).alloc _) ⟨wr.heap.size + 1, 0, none⟩ 2 2 (ints [x, y]) rfl rfl ?_ (ints_oneCell .i64 [x, y]) (by unfold maxLen; omega) (by omega) (by have := HBB.out.size; simp; omega) ?_)
        | fail)
      · intro j u hu
        have := news_block (wr.alloc (.cells #[.int .i64 x, .int .i64 y] 29)) (ints [x, y]) 3 j u hu
        simpa [ints, iv] using this
      · intro v' w4 hown hgrow _
        have HV4 : Hid (w4.ownsRow w11.heap.size 3 1 v' (2 * (k + 1)) (ints (endsL (E.take (k + 1))))) := by
          rw [take_snoc HK.out, endsL_snoc]
          have : ints (endsL (E.take k) ++ [x, y]) = ints (endsL (E.take k)) ++ ints [x, y] := by simp [ints]
          rw [this]; exact hown
        have HB4 : Hid (Below w11.heap.size w11 w4) := ((HBB.out.alloc HBB.out.size _).alloc (by have := HBB.out.size; simp; omega) _).grown hgrow (by have := HBB.out.size; simp; omega) (fun j hj => (HV.out.lt j hj).1)
        clear hown hgrow
        go_wp2
        go_roundw
        case rel => exact ⟨k + 1, by omega, by go_num, HV4, HB4⟩
        case measure => simp [intOf]; omega
    · have hke : k = en := by omega
      have HV4 : Hid (wr.ownsRow w11.heap.size 3 1 u11 (2 * en) (ints (endsL E))) := by
        have := HV.out; rw [List.take_of_length_le (by rw [HEN.out]; omega), hke] at this; exact this
      clear HV hke hk
      obtain ⟨na, nc, rfl, hs8, -, -⟩ := ownsRow_seq HV4.out
      have HN := Lib.hid hs8; clear hs8
      have HNL : Hid ((endsL E).length = 2 * en) := by show _ = _; rw [endsL_length, HEN.out]
      have HB12 : Hid (Below w.heap.size w wr) := HB11.out.trans (HBB.out.mono HB11.out.size)
      have HA12 := Lib.hid (HA.out.below HB12.out (Nat.le_refl _))
      have HE12 := Lib.hid (HE.out.below HB12.out (Nat.le_refl _))
      have HX12 := Lib.hid (HX11.out.below HBB.out (Nat.le_refl _))
      generalize endsL E = nodes at *
      obtain ⟨nn, hnn⟩ : ∃ nn, nn = 2 * en := ⟨_, rfl⟩
      rw [← hnn] at HNL
      simp only [← hnn]
      have hnn2 : nn ≤ 160 := by omega
      clear hnn HV4 HBB HB11 HX11 HE11
      go_wp2_with fail
      refine (lost_set na aa ea nn nc an ac en ec nodes la E _ HN.out HA12.out HE12.out HNL.out HAN.out HEN.out (by omega) (by omega)).mono ?_
      rintro e w13 ⟨la', ln, lc, ls, rfl, hs, hl, hle, hrise, hmem, hb⟩
      have HL13 := Lib.hid hs
      have HLL := Lib.hid hl
      have HLM := Lib.hid hmem
      have HN13 := Lib.hid (HN.out.below hb (Nat.le_refl _))
      have HX13 := Lib.hid (HX12.out.below hb (Nat.le_refl _))
      have HB13 : Hid (Below w.heap.size w w13) := HB12.out.trans (hb.mono HB12.out.size)
      clear hs hl hrise hmem hb HN HX12 HB12 HA12 HE12
      go_wp2_with fail
      go_loop [73] (fun i => ∃ k : Nat, k ≤ nn ∧ i = .int .i64 k) (fun i => nn - (intOf i).toNat)
      case atStart => exact ⟨0, Nat.zero_le _, rfl⟩
      case round =>
        obtain ⟨k, hk, rfl⟩ := hrel
        by_cases hlt : k < nn
        · obtain ⟨b, off, x, rfl, hc, HX⟩ := HN13.out.ints (k := k) (by rw [HNL.out]; exact hlt)
          have HF := Lib.hid (joins_lost HXM.out HLM.out (List.mem_of_getElem? HX.out))
          clear HX
          go_wp2_with fail
          refine (has_any la' ln lc ls x _ HL13.out HLL.out (by omega)).mono ?_
          rintro e w' ⟨rfl, rfl⟩
          rw [HF.out]
          go_wp2_with fail
          refine (has_any xa xn xc X x _ HX13.out HXN.out (by omega)).mono ?_
          rintro e w' ⟨rfl, rfl⟩
          clear HF
          generalize hasL X x = qb
          cases qb
          all_goals
            go_wp2
            go_round
            case rel => exact ⟨k + 1, by omega, by go_num⟩
            case measure => simp [intOf]; omega
        · have HA14 := Lib.hid (HA.out.below HB13.out (Nat.le_refl _))
          have HE14 := Lib.hid (HE.out.below HB13.out (Nat.le_refl _))
          go_wp2_with fail
          refine (lost_set xa aa ea xn xc an ac en ec X la E _ HX13.out HA14.out HE14.out HXN.out HAN.out HEN.out (by omega) (by omega)).mono ?_
          rintro e w14 ⟨ma, mn, mc, ms, rfl, hs, hl, hle2, hrise, hmem, hb⟩
          have hz := joins_none HXM.out hmem
          subst hz
          obtain rfl : mn = 0 := hl.symm
          have HB14 : Hid (Below w.heap.size w w14) := HB13.out.trans (hb.mono HB13.out.size)
          clear hs hl hrise hmem hb hle2
          go_wp2
          go_ret
          exact ⟨rfl, HB14.out⟩

theorem joins_row (a0 : Option Addr) (n0 c0 : Nat) (z0 : List Int) (a1 : Option Addr) (n1 c1 : Nat) (z1 : List Int) (a2 : Option Addr) (n2 c2 : Nat) (z2 : Edges) (w : World) (hz0 : SeqAt w a0 (ints z0)) (hl0 : z0.length = n0) (hc0 : n0 ≤ c0) (hm0 : n0 ≤ maxLen) (hw0 : ∀ z ∈ z0, (Lit.int .i64 z).wf = true) (hn0 : a0 = none → n0 = 0 ∧ c0 = 0) (hb0 : c0 ≤ maxLen)
    (hz1 : SeqAt w a1 (ints z1)) (hl1 : z1.length = n1) (hc1 : n1 ≤ c1) (hm1 : n1 ≤ maxLen) (hw1 : ∀ z ∈ z1, (Lit.int .i64 z).wf = true) (hn1 : a1 = none → n1 = 0 ∧ c1 = 0) (hb1 : c1 ≤ maxLen) (hz2 : SeqAt w a2 (ecells z2)) (hl2 : z2.length = n2) (hc2 : n2 ≤ c2) (hm2 : n2 ≤ maxLen) :
    Calls Try.prog 12 #[.slice a0 n0 c0, .slice a1 n1 c1, .slice a2 n2 c2] w fun e w' => e = .returned (.bool true) ∧ Below w.heap.size w w' := by
  unfold maxLen at hm0 hm1 hm2
  by_cases hbig : 80 < n0 ∨ 80 < n1 ∨ 80 < n2
  · exact joins_big a0 a1 a2 n0 c0 n1 c1 n2 c2 w hbig (by omega) (by omega) (by omega)
  · exact joins_small a0 a1 a2 n0 c0 n1 c1 n2 c2 z0 z1 z2 w hz0 hl0 (by omega) hz1 hl1 (by omega) hz2 hl2 (by omega) hn0 hn1
end Go.Proofs.Ytcfapidalngebaa
