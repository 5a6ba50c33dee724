/-
  turnrowref13.Has: whether a number is on a list. The walk.
-/
import Derived.Test.YtcfapidalngebaaBase
import Derived.Test.YtcfapidalngebaaChecked
set_option linter.unusedSimpArgs false
set_option linter.unusedVariables false
namespace Go.Proofs.Ytcfapidalngebaa
open Go.RowKit Go.Tr

theorem has_hit {zs : List Int} {x : Int} {k : Nat} (h : zs[k]? = some x) : hasL zs x = true := (hasL_iff _ _).2 (List.mem_of_getElem? h)
theorem has_step {zs : List Int} {x z : Int} {k : Nat} (hn : hasL (zs.take k) x = false) (h : zs[k]? = some z) (hne : ¬ z = x) : hasL (zs.take (k + 1)) x = false := by
  rw [take_snoc h, hasL_iff']
  have := (hasL_iff' _ _).1 hn
  simp [this]
  exact fun e => hne e.symm

set_option maxRecDepth 100000 in
theorem has_any (a : Option Addr) (len cap : Nat) (zs : List Int) (x : Int) (w : World) (h : SeqAt w a (ints zs)) (hl : zs.length = len) (hm : len ≤ 9223372036854775807) :
    Calls Try.prog 17 #[.slice a len cap, .int .i64 x] w fun e w' => e = .returned (.bool (hasL zs x)) ∧ w = w' := by
  have H := Lib.hid h; clear h
  have HL := Lib.hid hl; clear hl
  go_enter Try.func17, Try.ntmps17
  go_wp2
  go_loop [5] (fun i => ∃ k : Nat, k ≤ len ∧ i = .int .i64 k ∧ hasL (zs.take k) x = false) (fun i => len - (intOf i).toNat)
  case atStart => exact ⟨0, Nat.zero_le _, rfl, by simp [hasL]⟩
  case round =>
    obtain ⟨k, hk, rfl, hno⟩ := hrel
    have HN := Lib.hid hno; clear hno
    by_cases hlt : k < len
    · obtain ⟨b, off, z, rfl, hc, HZ⟩ := H.out.ints (k := k) (by rw [HL.out]; exact hlt)
      by_cases he : z = x
      · subst he
        have HE := Lib.hid (has_hit HZ.out)
        go_wp2
        go_ret
        exact ⟨by rw [HE.out]; rfl, rfl⟩
      · have HS := Lib.hid (has_step HN.out HZ.out he)
        go_wp2
        go_round
        case rel => exact ⟨k + 1, by omega, by go_num, HS.out⟩
        case measure => simp [intOf]; omega
    · have HE : Hid (hasL zs x = false) := by have := HN.out; rw [List.take_of_length_le (by rw [HL.out]; omega)] at this; exact this
      go_wp2
      go_ret
      exact ⟨by rw [HE.out]; rfl, rfl⟩

end Go.Proofs.Ytcfapidalngebaa
