/-
  turnrowlaw13.great: is one of some numbers above 80? The walk.
-/
import Derived.Test.YtcfapidalngebaaBase
import Derived.Test.YtcfapidalngebaaChecked
set_option linter.unusedSimpArgs false
set_option linter.unusedVariables false
namespace Go.Proofs.Ytcfapidalngebaa
open Go.RowKit Go.Tr

def great80 (zs : List Int) : Bool := zs.any fun z => decide (80 < z)
theorem great_hit {zs : List Int} {x : Int} {k : Nat} (h : zs[k]? = some x) (hx : 80 < x) : great80 zs = true := by
  simp only [great80, List.any_eq_true]; exact ⟨x, List.mem_of_getElem? h, by simpa using hx⟩
theorem great_step {zs : List Int} {x : Int} {k : Nat} (hn : great80 (zs.take k) = false) (h : zs[k]? = some x) (hx : ¬ 80 < x) : great80 (zs.take (k + 1)) = false := by
  rw [take_snoc h]; simp [great80] at hn ⊢; exact ⟨hn, by omega⟩

set_option maxRecDepth 100000 in
theorem great13_any (a : Option Addr) (len cap : Nat) (zs : List Int) (w : World) (h : SeqAt w a (ints zs)) (hl : zs.length = len) (hm : len ≤ 9223372036854775807) :
    Calls Try.prog 15 #[.slice a len cap] w fun e w' => e = .returned (.bool (great80 zs)) ∧ w = w' := by
  have H := Lib.hid h; clear h
  have HL := Lib.hid hl; clear hl
  go_enter Try.func15, Try.ntmps15
  go_wp2
  go_loop [7] (fun i => ∃ k : Nat, k ≤ len ∧ i = .int .i64 k ∧ Hid (great80 (zs.take k) = false)) (fun i => len - (intOf i).toNat)
  case atStart => exact ⟨0, Nat.zero_le _, rfl, by simp [great80, Hid]⟩
  case round =>
    obtain ⟨k, hk, rfl, HN⟩ := hrel
    by_cases hlt : k < len
    · obtain ⟨b, off, z, rfl, hc, HZ⟩ := H.out.ints (k := k) (by rw [HL.out]; exact hlt)
      by_cases he : 80 < z
      · have HE := Lib.hid (great_hit HZ.out he)
        go_wp2
        go_ret
        exact ⟨by rw [HE.out]; rfl, rfl⟩
      · have HS := Lib.hid (great_step HN.out HZ.out he)
        go_wp2
        go_round
        case rel => exact ⟨k + 1, by omega, by go_num, HS⟩
        case measure => simp [intOf]; omega
    · have HE : Hid (great80 zs = false) := by have := HN.out; rw [List.take_of_length_le (by rw [HL.out]; omega)] at this; exact this
      go_wp2
      go_ret
      exact ⟨by rw [HE.out]; rfl, rfl⟩

end Go.Proofs.Ytcfapidalngebaa
