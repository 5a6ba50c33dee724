/-
  Package gray: what no list (nil) answers. The walks.
-/
import Derived.Test.YtcfapidalngebaaBase
import Derived.Test.YtcfapidalngebaaChecked
set_option linter.unusedSimpArgs false
set_option linter.unusedVariables false
namespace Go.Proofs.Ytcfapidalngebaa
open Go.RowKit Go.Tr

theorem gnil_color (x : Int) (w : World) : Calls Try.prog 28 #[.pointer none, .int .i64 x] w fun e w' => e = .returned (.int .i64 0) ∧ w = w' := by
  go_enter Try.func28, Try.ntmps28
  go_wp2
  go_ret
  exact ⟨rfl, rfl⟩
theorem gnil_len (w : World) : Calls Try.prog 27 #[.pointer none] w fun e w' => e = .returned (.int .i64 0) ∧ w = w' := by
  go_enter Try.func27, Try.ntmps27
  go_wp2
  go_ret
  exact ⟨rfl, rfl⟩
theorem gnil_done (w : World) : Calls Try.prog 30 #[.pointer none] w fun e w' => e = .returned (.slice none 0 0) ∧ w = w' := by
  go_enter Try.func30, Try.ntmps30
  go_wp2
  go_ret
  exact ⟨rfl, rfl⟩
theorem gnil_paint (x : Int) (w : World) : Calls Try.prog 26 #[.pointer none, .int .i64 x] w fun e w' => e = .returned (.bool false) ∧ w = w' := by
  go_enter Try.func26, Try.ntmps26
  go_wp2
  go_ret
  exact ⟨rfl, rfl⟩
theorem gnil_next (w : World) : Calls Try.prog 22 #[.pointer none] w fun e w' => e = .returned (.tuple #[.int .i64 0, .bool false]) ∧ w = w' := by
  go_enter Try.func22, Try.ntmps22
  go_wp2
  go_ret2
  exact ⟨rfl, rfl⟩
theorem gnil_again (x : Int) (w : World) : Calls Try.prog 25 #[.pointer none, .int .i64 x] w fun e w' => e = .returned (.bool false) ∧ w = w' := by
  go_enter Try.func25, Try.ntmps25
  go_wp2_with fail
  refine (gnil_color x _).mono ?_
  rintro e w' ⟨rfl, rfl⟩
  go_wp2
  go_ret
  exact ⟨rfl, rfl⟩
set_option maxRecDepth 100000 in
theorem gnil_put (a : Option Addr) (len cap : Nat) (zs : List Int) (w : World) (h : SeqAt w a (ints zs)) (hl : zs.length = len) (hm : len ≤ 9223372036854775807) :
    Calls Try.prog 21 #[.pointer none, .slice a len cap] w fun e w' => e = .returned (.int .i64 0) ∧ w = w' := by
  have H := Lib.hid h; clear h
  have HL := Lib.hid hl; clear hl
  go_enter Try.func21, Try.ntmps21
  go_wp2_with fail
  go_loop [5, 10] (fun n i => ∃ k : Nat, k ≤ len ∧ i = .int .i64 k ∧ n = .int .i64 0) (fun _ i => len - (intOf i).toNat)
  case atStart => exact ⟨0, Nat.zero_le _, rfl, rfl⟩
  case round =>
    obtain ⟨k, hk, rfl, rfl⟩ := hrel
    by_cases hlt : k < len
    · obtain ⟨b, off, z, rfl, hc, HZ⟩ := H.out.ints (k := k) (by rw [HL.out]; exact hlt)
      go_wp2
      go_round
      case rel => exact ⟨k + 1, by omega, by go_num, rfl⟩
      case measure => simp [intOf]; omega
    · go_wp2
      go_ret
      exact ⟨rfl, rfl⟩
end Go.Proofs.Ytcfapidalngebaa
