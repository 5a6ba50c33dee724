/-
  turnrowref02.Same: whether two lists of numbers are alike. The walk.
-/
import Derived.Test.YthfdigjbmoconaaBase
import Derived.Test.YthfdigjbmoconaaChecked
import Derived.Deep.QuietTactic
import Derived.BigQuiet
set_option linter.unusedSimpArgs false
set_option linter.unusedVariables false
namespace Go.Proofs.Ythfdigjbmoconaa
open Go.RowKit Go.Tr

theorem same_part {xs ys : List Int} {x y : Int} {k : Nat} (hx : xs[k]? = some x) (hy : ys[k]? = some y) (h : ¬ x = y) : sameL xs ys = false := by
  rw [sameL_iff']; intro e; subst e; rw [hx] at hy; exact h (Option.some.inj hy)
theorem same_step {xs ys : List Int} {x : Int} {k : Nat} (h : xs.take k = ys.take k) (hx : xs[k]? = some x) (hy : ys[k]? = some x) : xs.take (k + 1) = ys.take (k + 1) := by
  rw [take_snoc hx, take_snoc hy, h]

set_option maxRecDepth 100000 in
theorem same_any (a b : Option Addr) (la ca lb cb : Nat) (xs ys : List Int) (w : World) (ha : SeqAt w a (ints xs)) (hb : SeqAt w b (ints ys)) (hla : xs.length = la) (hlb : ys.length = lb) (hm : la ≤ 9223372036854775807) :
    Calls Try.prog 18 #[.slice a la ca, .slice b lb cb] w fun e w' => e = .returned (.bool (sameL xs ys)) ∧ Drawn w w' := by
  have HA := Lib.hid ha; clear ha
  have HB := Lib.hid hb; clear hb
  by_cases hl : la = lb
  · subst hl
    have HLA := Lib.hid hla; clear hla
    have HLB := Lib.hid hlb; clear hlb
    go_enter Try.func18, Try.ntmps18
    go_wp2
    go_loopw [5] (fun i wr => ∃ k : Nat, k ≤ la ∧ i = .int .i64 k ∧ Hid (xs.take k = ys.take k) ∧ Drawn w wr) (fun i _ => la - (intOf i).toNat)
    case atStart => exact ⟨0, Nat.zero_le _, rfl, by simp [Hid], Drawn.refl w⟩
    case round =>
      obtain ⟨k, hk, rfl, HN, HD⟩ := hrel
      by_cases hlt : k < la
      · obtain ⟨b1, off1, x, rfl, hc1, HX⟩ := (HA.out.drawn HD).ints (k := k) (by rw [HLA.out]; exact hlt)
        obtain ⟨b2, off2, y, rfl, hc2, HY⟩ := (HB.out.drawn HD).ints (k := k) (by rw [HLB.out]; exact hlt)
        have hi : (k : Int) < (la : Int) := by omega
        go_wp2
        go_quiet (fail)
        by_cases he : x = y
        · subst he
          have HS := Lib.hid (same_step HN.out HX.out HY.out)
          go_wp2
          go_roundw
          case rel => exact ⟨k + 1, by omega, by go_num, HS, HD.step _⟩
          case measure => simp [intOf]; omega
        · have HE := Lib.hid (same_part HX.out HY.out he)
          go_wp2
          go_ret
          exact ⟨by rw [HE.out]; rfl, HD.step _⟩
      · have HE : Hid (sameL xs ys = true) := by
          have := HN.out
          rw [List.take_of_length_le (by rw [HLA.out]; omega), List.take_of_length_le (by rw [HLB.out]; omega)] at this
          exact (sameL_iff _ _).2 this
        go_wp2
        go_ret
        exact ⟨by rw [HE.out]; rfl, HD⟩
  · have HE : Hid (sameL xs ys = false) := (sameL_iff' _ _).2 (fun e => hl (by rw [← hla, ← hlb, e]))
    clear hla hlb
    go_enter Try.func18, Try.ntmps18
    go_wp2
    go_ret
    exact ⟨by rw [HE.out]; rfl, Drawn.refl w⟩

end Go.Proofs.Ythfdigjbmoconaa
