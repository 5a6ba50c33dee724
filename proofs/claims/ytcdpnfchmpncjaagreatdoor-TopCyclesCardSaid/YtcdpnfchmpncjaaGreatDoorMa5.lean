/-
  Parts of the proof, one behind the other: ShelfK, KFind, KRun.
-/
import Derived.Shelf.Sort.Plain
import Derived.Shelf.Slices.In.SortNone
import Derived.Shelf.Slices.CompactI
import Derived.Shelf.Slices.SearchI
import Derived.Shelf.Slices.Empties
import Derived.Shelf.Slices.Clone
import Derived.Shelf.Slices.Delete
import Derived.Shelf.Spec.SlicesInsert
import Derived.Shelf.Spec.SlicesInsertGrow
import Derived.Shelf.Spec.TrailingZeros
import Derived.Shelf.Slices.Turned
import Derived.Shelf.Sort.So_math_bits_Len64In
import Derived.Test.YtcdpnfchmpncjaaGreatDoorChecked
import Derived.Lib.TrailingZeros
import Derived.WalkLawsBesides
import Derived.Test.YtcdpnfchmpncjaaGreatDoorMa4
set_option linter.unusedSimpArgs false
set_option linter.unusedVariables false
namespace Go.Proofs.YtcdpnfchmpncjaaGreatDoor
open Go.Shelf Go.Proofs
def laysSort_ren : Go.Shelf.Ren := ⟨fun | 189 => 71 | 125 => 121 | 257 => 120 | 128 => 168 | 129 => 169 | 294 => 159 | 295 => 160 | 296 => 161 | 297 => 162 | 298 => 163 | 299 => 164 | 216 => 165 | 300 => 166 | 301 => 167 | 328 => 195 | 329 => 196 | 330 => 197 | 331 => 198 | 332 => 199 | 215 => 191 | 343 => 208 | n => n, fun | 28 => 42 | 3 => 3 | 46 => 205 | 0 => 0 | 51 => 254 | 53 => 34 | 4 => 4 | 183 => 248 | 182 => 247 | 131 => 122 | 5 => 5 | 9 => 9 | 218 => 272 | 222 => 276 | 228 => 283 | 229 => 61 | n => n, fun | n => n⟩
theorem laysSort : Lays.n189 Tryz.prog laysSort_ren := {
  mixed := by kernel_rfl,
  f125 := Tryz.func121.trans (congrArg some (by kernel_rfl)),
  f128 := Tryz.func168.trans (congrArg some (by kernel_rfl)),
  f129 := Tryz.func169.trans (congrArg some (by kernel_rfl)),
  f189 := Tryz.func71.trans (congrArg some (by kernel_rfl)),
  f215 := Tryz.func191.trans (congrArg some (by kernel_rfl)),
  f216 := Tryz.func165.trans (congrArg some (by kernel_rfl)),
  f257 := Tryz.func120.trans (congrArg some (by kernel_rfl)),
  f294 := Tryz.func159.trans (congrArg some (by kernel_rfl)),
  f295 := Tryz.func160.trans (congrArg some (by kernel_rfl)),
  f296 := Tryz.func161.trans (congrArg some (by kernel_rfl)),
  f297 := Tryz.func162.trans (congrArg some (by kernel_rfl)),
  f298 := Tryz.func163.trans (congrArg some (by kernel_rfl)),
  f299 := Tryz.func164.trans (congrArg some (by kernel_rfl)),
  f300 := Tryz.func166.trans (congrArg some (by kernel_rfl)),
  f301 := Tryz.func167.trans (congrArg some (by kernel_rfl)),
  f328 := Tryz.func195.trans (congrArg some (by kernel_rfl)),
  f329 := Tryz.func196.trans (congrArg some (by kernel_rfl)),
  f330 := Tryz.func197.trans (congrArg some (by kernel_rfl)),
  f331 := Tryz.func198.trans (congrArg some (by kernel_rfl)),
  f332 := Tryz.func199.trans (congrArg some (by kernel_rfl)),
  f343 := Tryz.func208.trans (congrArg some (by kernel_rfl)),
  t0 := Tryz.underlying0,
  a0 := Tryz.isAgg0,
  z0 := Tryz.sizeOf0,
  v0 := Tryz.zeroValue0,
  t3 := Tryz.underlying3,
  a3 := Tryz.isAgg3,
  z3 := Tryz.sizeOf3,
  v3 := Tryz.zeroValue3,
  t4 := Tryz.underlying4,
  a4 := Tryz.isAgg4,
  z4 := Tryz.sizeOf4,
  v4 := Tryz.zeroValue4,
  t5 := Tryz.underlying5,
  a5 := Tryz.isAgg5,
  z5 := Tryz.sizeOf5,
  v5 := Tryz.zeroValue5,
  t9 := Tryz.underlying9,
  a9 := Tryz.isAgg9,
  z9 := Tryz.sizeOf9,
  v9 := Tryz.zeroValue9,
  t28 := Tryz.underlying42,
  a28 := Tryz.isAgg42,
  z28 := Tryz.sizeOf42,
  v28 := Tryz.zeroValue42,
  t46 := Tryz.underlying205,
  a46 := Tryz.isAgg205,
  z46 := Tryz.sizeOf205,
  v46 := Tryz.zeroValue205,
  t51 := Tryz.underlying254,
  a51 := Tryz.isAgg254,
  z51 := Tryz.sizeOf254,
  v51 := Tryz.zeroValue254,
  t53 := Tryz.underlying34,
  a53 := Tryz.isAgg34,
  z53 := Tryz.sizeOf34,
  v53 := Tryz.zeroValue34,
  t131 := Tryz.underlying122,
  a131 := Tryz.isAgg122,
  z131 := Tryz.sizeOf122,
  v131 := Tryz.zeroValue122,
  t182 := Tryz.underlying247,
  a182 := Tryz.isAgg247,
  z182 := Tryz.sizeOf247,
  v182 := Tryz.zeroValue247,
  t183 := Tryz.underlying248,
  a183 := Tryz.isAgg248,
  z183 := Tryz.sizeOf248,
  v183 := Tryz.zeroValue248,
  t218 := Tryz.underlying272,
  a218 := Tryz.isAgg272,
  z218 := Tryz.sizeOf272,
  v218 := Tryz.zeroValue272,
  t222 := Tryz.underlying276,
  a222 := Tryz.isAgg276,
  z222 := Tryz.sizeOf276,
  v222 := Tryz.zeroValue276,
  t228 := Tryz.underlying283,
  a228 := Tryz.isAgg283,
  z228 := Tryz.sizeOf283,
  v228 := Tryz.zeroValue283,
  t229 := Tryz.underlying61,
  a229 := Tryz.isAgg61,
  z229 := Tryz.sizeOf61,
  v229 := Tryz.zeroValue61 }
def laysCompact_ren : Go.Shelf.Ren := ⟨fun | 20 => 85 | n => n, fun | 22 => 42 | 3 => 3 | 4 => 4 | 0 => 0 | n => n, fun | n => n⟩
theorem laysCompact : Lays2.n20 Tryz.prog laysCompact_ren := {
  mixed := by kernel_rfl,
  f20 := Tryz.func85.trans (congrArg some (by kernel_rfl)),
  t0 := Tryz.underlying0,
  a0 := Tryz.isAgg0,
  z0 := Tryz.sizeOf0,
  v0 := Tryz.zeroValue0,
  t3 := Tryz.underlying3,
  a3 := Tryz.isAgg3,
  z3 := Tryz.sizeOf3,
  v3 := Tryz.zeroValue3,
  t4 := Tryz.underlying4,
  a4 := Tryz.isAgg4,
  z4 := Tryz.sizeOf4,
  v4 := Tryz.zeroValue4,
  t22 := Tryz.underlying42,
  a22 := Tryz.isAgg42,
  z22 := Tryz.sizeOf42,
  v22 := Tryz.zeroValue42,
  i3 := by kernel_rfl }
def laysSearch_ren : Go.Shelf.Ren := ⟨fun | 25 => 137 | 31 => 165 | 32 => 179 | 37 => 191 | n => n, fun | 22 => 42 | 3 => 3 | 4 => 4 | 40 => 205 | 0 => 0 | n => n, fun | n => n⟩
theorem laysSearch : Lays2.n25 Tryz.prog laysSearch_ren := {
  mixed := by kernel_rfl,
  f25 := Tryz.func137.trans (congrArg some (by kernel_rfl)),
  f31 := Tryz.func165.trans (congrArg some (by kernel_rfl)),
  f32 := Tryz.func179.trans (congrArg some (by kernel_rfl)),
  f37 := Tryz.func191.trans (congrArg some (by kernel_rfl)),
  t0 := Tryz.underlying0,
  a0 := Tryz.isAgg0,
  z0 := Tryz.sizeOf0,
  v0 := Tryz.zeroValue0,
  t3 := Tryz.underlying3,
  a3 := Tryz.isAgg3,
  z3 := Tryz.sizeOf3,
  v3 := Tryz.zeroValue3,
  t4 := Tryz.underlying4,
  a4 := Tryz.isAgg4,
  z4 := Tryz.sizeOf4,
  v4 := Tryz.zeroValue4,
  t22 := Tryz.underlying42,
  a22 := Tryz.isAgg42,
  z22 := Tryz.sizeOf42,
  v22 := Tryz.zeroValue42,
  t40 := Tryz.underlying205,
  a40 := Tryz.isAgg205,
  z40 := Tryz.sizeOf205,
  v40 := Tryz.zeroValue205 }
def laysClone_ren : Go.Shelf.Ren := ⟨fun | 15 => 84 | n => n, fun | 22 => 42 | 3 => 3 | 4 => 4 | n => n, fun | n => n⟩
theorem laysClone : Lays2.n15 Tryz.prog laysClone_ren := {
  mixed := by kernel_rfl,
  f15 := Tryz.func84.trans (congrArg some (by kernel_rfl)),
  t3 := Tryz.underlying3,
  a3 := Tryz.isAgg3,
  z3 := Tryz.sizeOf3,
  v3 := Tryz.zeroValue3,
  t4 := Tryz.underlying4,
  a4 := Tryz.isAgg4,
  z4 := Tryz.sizeOf4,
  v4 := Tryz.zeroValue4,
  t22 := Tryz.underlying42,
  a22 := Tryz.isAgg42,
  z22 := Tryz.sizeOf42,
  v22 := Tryz.zeroValue42,
  i3 := by kernel_rfl }
def laysDelete_ren : Go.Shelf.Ren := ⟨fun | 23 => 156 | n => n, fun | 22 => 42 | 3 => 3 | 4 => 4 | 0 => 0 | n => n, fun | n => n⟩
theorem laysDelete : Lays2.n23 Tryz.prog laysDelete_ren := {
  mixed := by kernel_rfl,
  f23 := Tryz.func156.trans (congrArg some (by kernel_rfl)),
  t0 := Tryz.underlying0,
  a0 := Tryz.isAgg0,
  z0 := Tryz.sizeOf0,
  v0 := Tryz.zeroValue0,
  t3 := Tryz.underlying3,
  a3 := Tryz.isAgg3,
  z3 := Tryz.sizeOf3,
  v3 := Tryz.zeroValue3,
  t4 := Tryz.underlying4,
  a4 := Tryz.isAgg4,
  z4 := Tryz.sizeOf4,
  v4 := Tryz.zeroValue4,
  t22 := Tryz.underlying42,
  a22 := Tryz.isAgg42,
  z22 := Tryz.sizeOf42,
  v22 := Tryz.zeroValue42,
  i3 := by kernel_rfl }
def laysInsert_ren : Go.Shelf.Ren := ⟨fun | 21 => 138 | 27 => 180 | 28 => 181 | 35 => 203 | 39 => 210 | n => n, fun | 22 => 42 | 3 => 3 | 4 => 4 | 0 => 0 | n => n, fun | n => n⟩
theorem laysInsert : Lays2.n21 Tryz.prog laysInsert_ren := {
  mixed := by kernel_rfl,
  f21 := Tryz.func138.trans (congrArg some (by kernel_rfl)),
  f27 := Tryz.func180.trans (congrArg some (by kernel_rfl)),
  f28 := Tryz.func181.trans (congrArg some (by kernel_rfl)),
  f35 := Tryz.func203.trans (congrArg some (by kernel_rfl)),
  f39 := Tryz.func210.trans (congrArg some (by kernel_rfl)),
  t0 := Tryz.underlying0,
  a0 := Tryz.isAgg0,
  z0 := Tryz.sizeOf0,
  v0 := Tryz.zeroValue0,
  t3 := Tryz.underlying3,
  a3 := Tryz.isAgg3,
  z3 := Tryz.sizeOf3,
  v3 := Tryz.zeroValue3,
  t4 := Tryz.underlying4,
  a4 := Tryz.isAgg4,
  z4 := Tryz.sizeOf4,
  v4 := Tryz.zeroValue4,
  t22 := Tryz.underlying42,
  a22 := Tryz.isAgg42,
  z22 := Tryz.sizeOf42,
  v22 := Tryz.zeroValue42,
  i3 := by kernel_rfl }
def laysTz_ren : Go.Shelf.Ren := ⟨fun | 29 => 127 | n => n, fun | 22 => 34 | 3 => 3 | 4 => 4 | 25 => 205 | 54 => 257 | 0 => 0 | 5 => 5 | n => n, fun | 1 => 0 | n => n⟩
theorem laysTz : Lays7.n29 Tryz.prog laysTz_ren := {
  mixed := by kernel_rfl,
  f29 := Tryz.func127.trans (congrArg some (by kernel_rfl)),
  t0 := Tryz.underlying0,
  a0 := Tryz.isAgg0,
  z0 := Tryz.sizeOf0,
  v0 := Tryz.zeroValue0,
  i0 := by kernel_rfl,
  t3 := Tryz.underlying3,
  a3 := Tryz.isAgg3,
  z3 := Tryz.sizeOf3,
  v3 := Tryz.zeroValue3,
  i3 := by kernel_rfl,
  t4 := Tryz.underlying4,
  a4 := Tryz.isAgg4,
  z4 := Tryz.sizeOf4,
  v4 := Tryz.zeroValue4,
  i4 := by kernel_rfl,
  t5 := Tryz.underlying5,
  a5 := Tryz.isAgg5,
  z5 := Tryz.sizeOf5,
  v5 := Tryz.zeroValue5,
  i5 := by kernel_rfl,
  t22 := Tryz.underlying34,
  a22 := Tryz.isAgg34,
  z22 := Tryz.sizeOf34,
  v22 := Tryz.zeroValue34,
  i22 := by kernel_rfl,
  t25 := Tryz.underlying205,
  a25 := Tryz.isAgg205,
  z25 := Tryz.sizeOf205,
  v25 := Tryz.zeroValue205,
  i25 := by kernel_rfl,
  t54 := Tryz.underlying257,
  a54 := Tryz.isAgg257,
  z54 := Tryz.sizeOf257,
  g1 := by kernel_rfl }
def laysContains_ren : Go.Shelf.Ren := ⟨fun | 107 => 192 | 108 => 206 | n => n, fun | 28 => 42 | 3 => 3 | 4 => 4 | 0 => 0 | n => n, fun | n => n⟩
theorem laysContains : Lays.n107 Tryz.prog laysContains_ren := {
  mixed := by kernel_rfl,
  f107 := Tryz.func192.trans (congrArg some (by kernel_rfl)),
  f108 := Tryz.func206.trans (congrArg some (by kernel_rfl)),
  t0 := Tryz.underlying0,
  a0 := Tryz.isAgg0,
  z0 := Tryz.sizeOf0,
  v0 := Tryz.zeroValue0,
  t3 := Tryz.underlying3,
  a3 := Tryz.isAgg3,
  z3 := Tryz.sizeOf3,
  v3 := Tryz.zeroValue3,
  t4 := Tryz.underlying4,
  a4 := Tryz.isAgg4,
  z4 := Tryz.sizeOf4,
  v4 := Tryz.zeroValue4,
  t28 := Tryz.underlying42,
  a28 := Tryz.isAgg42,
  z28 := Tryz.sizeOf42,
  v28 := Tryz.zeroValue42 }
def laysLen64_ren : Go.Shelf.Ren := ⟨fun | 129 => 169 | n => n, fun | 53 => 34 | 3 => 3 | 4 => 4 | 46 => 205 | 5 => 5 | 9 => 9 | n => n, fun | n => n⟩
theorem laysLen64 : Lays.n129 Tryz.prog laysLen64_ren := {
  mixed := by kernel_rfl,
  f129 := Tryz.func169.trans (congrArg some (by kernel_rfl)),
  t3 := Tryz.underlying3,
  a3 := Tryz.isAgg3,
  z3 := Tryz.sizeOf3,
  v3 := Tryz.zeroValue3,
  t4 := Tryz.underlying4,
  a4 := Tryz.isAgg4,
  z4 := Tryz.sizeOf4,
  v4 := Tryz.zeroValue4,
  t5 := Tryz.underlying5,
  a5 := Tryz.isAgg5,
  z5 := Tryz.sizeOf5,
  v5 := Tryz.zeroValue5,
  t9 := Tryz.underlying9,
  a9 := Tryz.isAgg9,
  z9 := Tryz.sizeOf9,
  v9 := Tryz.zeroValue9,
  t46 := Tryz.underlying205,
  a46 := Tryz.isAgg205,
  z46 := Tryz.sizeOf205,
  v46 := Tryz.zeroValue205,
  t53 := Tryz.underlying34,
  a53 := Tryz.isAgg34,
  z53 := Tryz.sizeOf34,
  v53 := Tryz.zeroValue34 }
end Go.Proofs.YtcdpnfchmpncjaaGreatDoor
namespace Go.Tr
open Go.RowKit
def nextF (B : Nat → Bool) (v : Bool) : Nat → Nat → Nat
  | 0, k => k
  | f + 1, k => if B k = v then k else nextF B v f (k + 1)
def nextIs (B : Nat → Bool) (n : Nat) (v : Bool) (k : Nat) : Nat := nextF B v (n - k) k
theorem nextF_spec (B : Nat → Bool) (v : Bool) : ∀ f k, k ≤ nextF B v f k ∧ nextF B v f k ≤ k + f ∧ (nextF B v f k < k + f → B (nextF B v f k) = v) ∧ ∀ i, k ≤ i → i < nextF B v f k → B i ≠ v
  | 0, k => ⟨Nat.le_refl _, Nat.le_refl _, fun h => by simp [nextF] at h, fun i h1 h2 => by simp [nextF] at h2; omega⟩
  | f + 1, k => by
    unfold nextF
    by_cases h : B k = v
    · rw [if_pos h]; exact ⟨Nat.le_refl _, by omega, fun _ => h, fun i h1 h2 => by omega⟩
    · rw [if_neg h]
      obtain ⟨a, b, c, d⟩ := nextF_spec B v f (k + 1)
      refine ⟨by omega, by omega, fun h' => c (by omega), fun i h1 h2 => ?_⟩
      by_cases e : i = k
      · subst e; exact h
      · exact d i (by omega) h2
theorem nextIs_spec (B : Nat → Bool) (n : Nat) (v : Bool) {k : Nat} (hk : k ≤ n) : k ≤ nextIs B n v k ∧ nextIs B n v k ≤ n ∧ (nextIs B n v k < n → B (nextIs B n v k) = v) ∧ ∀ i, k ≤ i → i < nextIs B n v k → B i ≠ v := by
  obtain ⟨a, b, c, d⟩ := nextF_spec B v (n - k) k
  have e : k + (n - k) = n := by omega
  rw [e] at b c
  exact ⟨a, b, c, d⟩
theorem nextIs_eq {B : Nat → Bool} {n : Nat} {v : Bool} {k r : Nat} (h1 : k ≤ r) (h2 : r ≤ n) (h3 : r < n → B r = v) (h4 : ∀ i, k ≤ i → i < r → B i ≠ v) : nextIs B n v k = r := by
  obtain ⟨a, b, c, d⟩ := nextIs_spec B n v (k := k) (by omega)
  rcases Nat.lt_trichotomy (nextIs B n v k) r with h | h | h
  · exact absurd (c (by omega)) (h4 _ a h)
  · exact h
  · exact absurd (h3 (by omega)) (d _ h1 h)
def firstV (B : Nat → Bool) (n k : Nat) : Value := if nextIs B n false k < n then .tuple #[.int .i64 (nextIs B n false k : Nat), .bool true] else .tuple #[.int .i64 0, .bool false]
theorem firstV_yes {B : Nat → Bool} {n k r : Nat} (h : nextIs B n false k = r) (hr : r < n) : firstV B n k = .tuple #[.int .i64 (r : Nat), .bool true] := by unfold firstV; rw [h, if_pos hr]
theorem firstV_no {B : Nat → Bool} {n k : Nat} (h : nextIs B n false k = n) : firstV B n k = .tuple #[.int .i64 0, .bool false] := by unfold firstV; rw [h, if_neg (Nat.lt_irrefl _)]
theorem ctz_bits {y : Nat} (h0 : y ≠ 0) (h : y < 18446744073709551616) : Lib.ctz 64 y < 64 ∧ y.testBit (Lib.ctz 64 y) = true ∧ ∀ s, s < Lib.ctz 64 y → y.testBit s = false := by
  obtain ⟨m, hm, hk⟩ := Lib.ctzFrom_spec 64 y (by omega) (by simpa using h)
  have e : Lib.ctz 64 y = Lib.ctzFrom 64 y := by simp [Lib.ctz, h0]
  rw [e]
  generalize Lib.ctzFrom 64 y = t at *
  refine ⟨hk, ?_, fun s hs => ?_⟩
  · rw [hm, Nat.testBit_two_pow_mul]
    simp
  · rw [hm, Nat.testBit_two_pow_mul]
    simp; omega
theorem not_bits {x k : Nat} (hx : x < 18446744073709551616) (hk : k < 64) (s : Nat) : ((18446744073709551615 - x) / 2 ^ k).testBit s = (decide (k + s < 64) && !x.testBit (k + s)) := by
  rw [Nat.testBit_div_two_pow]
  have h := Nat.testBit_two_pow_sub_succ (n := 64) (x := x) (by simpa using hx) (k + s)
  have e : 18446744073709551615 - x = 2 ^ 64 - (x + 1) := by omega
  rw [e, Nat.add_comm s k, h]
theorem xor_ones {x : Nat} (hx : x < 18446744073709551616) : 18446744073709551615 ^^^ x = 18446744073709551615 - x := by
  apply Nat.eq_of_testBit_eq
  intro i
  have h1 := Nat.testBit_two_pow_sub_succ (n := 64) (x := x) (by simpa using hx) i
  have h2 := Nat.testBit_two_pow_sub_one 64 i
  rw [Nat.testBit_xor, show (18446744073709551615 : Nat) = 2 ^ 64 - 1 from rfl, h2, show 2 ^ 64 - 1 - x = 2 ^ 64 - (x + 1) by omega, h1]
  by_cases h : i < 64
  · simp [h]
  · have : x.testBit i = false := Nat.testBit_lt_two_pow (Nat.lt_of_lt_of_le (m := 2 ^ 64) (by simpa using hx) (Nat.pow_le_pow_right (by decide) (by omega)))
    simp [h, this]
theorem not_val {x : Nat} (hx : x < 18446744073709551616) : bits .xor .u64 IntKind.u64.max (x : Int) = ((18446744073709551615 - x : Nat) : Int) := by
  rw [show IntKind.u64.max = ((18446744073709551615 : Nat) : Int) by decide, u64_xor_nat _ _ (by decide) hx, xor_ones hx]
theorem div_val (z k : Nat) : ((z : Int) / 2 ^ k) = ((z / 2 ^ k : Nat) : Int) := by push_cast; rfl
end Go.Tr
namespace Go.Proofs.YtcdpnfchmpncjaaGreatDoor
open Go.RowKit Go.Tr Go.Shelf
variable {w w' : World} {g b n : Nat} {B : Nat → Bool} {F : Nat → Prop}
def Tz (w : World) : Prop := TabAt 0 Lib.deBruijn64tab w
theorem tz_any (x : Nat) (hx : x < 18446744073709551616) (w : World) (hT : Tz w) : Calls Tryz.prog 127 #[.int .u64 x] w fun e w' => e = .returned (.int .i64 (Lib.ctz 64 x)) ∧ w = w' :=
  (Any7.bits_TrailingZeros64 laysTz x hx w (fun _ => hT)).mono fun _ _ ⟨h1, h2⟩ => ⟨h1, h2.symm⟩
set_option maxRecDepth 100000 in
theorem mfirstb_any (k : Nat) (w : World) (h : BMF w F g n B) (hT : Tz w) (hn : n ≤ 1048576) (hk : k ≤ n) : Calls Tryz.prog 131 #[.pointer (some ⟨g, 0, none⟩), .int .i64 k] w fun e w' => e = .returned (firstV B n k) ∧ w = w' := by
  obtain ⟨b, ws, hb, -, -⟩ := h
  have HM := Lib.hid hb
  have c1 := cell_of_row w g 1 _ _ (0, 0) hb.block
  simp at c1
  have HL := Lib.hid (fun w1 (e : w1 = w) => (by subst e; exact mlen_any w1 hb : Calls Tryz.prog 174 #[.pointer (some ⟨g, 0, none⟩)] w1 fun e w' => e = .returned (.int .i64 n) ∧ w1 = w'))
  have hwle : ws.length ≤ 16385 := by rw [hb.len]; omega
  have HTZ := Lib.hid hT
  clear hb hT
  go_enter Tryz.func131, Tryz.ntmps131
  go_wp2_with fail
  go_loopw [1] (fun i wr => wr = w ∧ ∃ f : Nat, i = .int .i64 (f : Int) ∧ k ≤ f ∧ f ≤ n + 64 ∧ Hid (∀ j, k ≤ j → j < f → j < n → B j = true)) (fun i _ => n + 64 - (intOf i).toNat)
  case atStart => exact ⟨rfl, k, by simp, Nat.le_refl _, by omega, fun j h1 h2 => by omega⟩
  case round =>
    obtain ⟨rfl, f, rfl, hf1, hf2, HB⟩ := hrel
    have hf0 : (0 : Int) ≤ (f : Int) := by omega
    by_cases hlt : f < n
    · have hlt' : (f : Int) < (n : Int) := by omega
      obtain ⟨x, HX, cx, fx, hsm, hwi, HBT⟩ := HM.out.word hlt
      have hzx := not_val hsm
      have hzx2 : bits .xor .u64 (if IntKind.u64.signed = true then -1 else IntKind.u64.max) (x : Int) = ((18446744073709551615 - x : Nat) : Int) := hzx
      have hyx := div_val (18446744073709551615 - x) (f % 64)
      have HNB := Lib.hid (not_bits hsm (Nat.mod_lt f (by decide) : f % 64 < 64))
      have hzl : 18446744073709551615 - x < 18446744073709551616 := by omega
      have hysm : (18446744073709551615 - x) / 2 ^ (f % 64) < 18446744073709551616 := Nat.lt_of_le_of_lt (Nat.div_le_self _ _) hzl
      obtain ⟨y, hy⟩ : ∃ y, y = (18446744073709551615 - x) / 2 ^ (f % 64) := ⟨_, rfl⟩
      rw [← hy] at hyx HNB hysm
      generalize (18446744073709551615 - x) = z at *
      clear hzl hy
      by_cases hy0 : y = 0
      · subst hy0
        have HBB : Hid (∀ j, k ≤ j → j < (f / 64 + 1) * 64 → j < n → B j = true) := fun j h1 h2 h3 => by
          by_cases h4 : j < f
          · exact HB.out j h1 h4 h3
          · have h5 := HNB.out (j - f)
            rw [Nat.zero_testBit] at h5
            have h6 : f % 64 + (j - f) = j % 64 := by omega
            rw [h6] at h5
            have h7 : j % 64 < 64 := Nat.mod_lt _ (by decide)
            have h8 := HM.out.bit j
            rw [show j / 64 = f / 64 by omega, show ws.getD (f / 64) 0 = x by simp [List.getD, HX.out]] at h8
            rw [h8]
            simpa [h7] using h5.symm
        clear HB HNB
        go_wp2_with fail
        refine (HL.out _ rfl).mono ?_
        rintro e w' ⟨rfl, rfl⟩
        go_wp2
        go_roundw
        case rel => exact ⟨trivial, (f / 64 + 1) * 64, by go_num, by omega, by omega, HBB⟩
        case measure => simp [intOf]; omega
      · have hyb : ((y : Int) != 0) = true := by simp; omega
        obtain ⟨t1, t2, t3⟩ := ctz_bits hy0 hysm
        have HR : Hid (B (f + Lib.ctz 64 y) = false ∧ ∀ j, k ≤ j → j < f + Lib.ctz 64 y → j < n → B j = true) := by
          have key : ∀ s, f % 64 + s < 64 → B (f + s) = !y.testBit s := fun s hs => by
            have h5 := HNB.out s
            have h8 := HM.out.bit (f + s)
            rw [show (f + s) / 64 = f / 64 by omega, show ws.getD (f / 64) 0 = x by simp [List.getD, HX.out], show (f + s) % 64 = f % 64 + s by omega] at h8
            rw [h8, h5]
            simp [hs]
          have hin : f % 64 + Lib.ctz 64 y < 64 := by
            have h5 := HNB.out (Lib.ctz 64 y)
            rw [t2] at h5
            have h6 := h5.symm
            rw [Bool.and_eq_true, decide_eq_true_eq] at h6
            exact h6.1
          refine ⟨by rw [key _ hin, t2]; rfl, fun j h1 h2 h3 => ?_⟩
          by_cases h4 : j < f
          · exact HB.out j h1 h4 h3
          · have := key (j - f) (by omega)
            rw [show f + (j - f) = j by omega, t3 (j - f) (by omega)] at this
            exact this
        have HTC := Lib.hid (tz_any y hysm wr HTZ.out)
        generalize Lib.ctz 64 y = t at *
        clear HB HNB t2 t3
        have HE : Hid (nextIs B n false k = if f + t < n then f + t else n) := by
          show _ = _
          by_cases h : f + t < n
          · rw [if_pos h]
            exact nextIs_eq (by omega) (by omega) (fun _ => HR.out.1) (fun i h1 h2 => by rw [HR.out.2 i h1 h2 (by omega)]; simp)
          · rw [if_neg h]
            exact nextIs_eq hk (Nat.le_refl _) (fun h => absurd h (Nat.lt_irrefl _)) (fun i h1 h2 => by rw [HR.out.2 i h1 (by omega) h2]; simp)
        by_cases hft : f + t < n
        · have HV : Hid (nextIs B n false k = f + t) := by show _ = _; rw [HE.out, if_pos hft]
          have hft' : (f : Int) + (t : Int) < (n : Int) := by omega
          go_wp2_with fail
          refine (HL.out _ rfl).mono ?_
          rintro e w' ⟨rfl, rfl⟩
          go_wp2_with fail
          refine HTC.out.mono ?_
          rintro e w' ⟨rfl, rfl⟩
          go_wp2_with fail
          refine (HL.out _ rfl).mono ?_
          rintro e w' ⟨rfl, rfl⟩
          go_wp2
          go_ret2
          exact ⟨by rw [firstV_yes HV.out hft]; simp, rfl⟩
        · have HV : Hid (nextIs B n false k = n) := by show _ = _; rw [HE.out, if_neg hft]
          have hft' : ¬ (f : Int) + (t : Int) < (n : Int) := by omega
          go_wp2_with fail
          refine (HL.out _ rfl).mono ?_
          rintro e w' ⟨rfl, rfl⟩
          go_wp2_with fail
          refine HTC.out.mono ?_
          rintro e w' ⟨rfl, rfl⟩
          go_wp2_with fail
          refine (HL.out _ rfl).mono ?_
          rintro e w' ⟨rfl, rfl⟩
          go_wp2
          go_ret2
          exact ⟨by rw [firstV_no HV.out]; rfl, rfl⟩
    · have HV : Hid (nextIs B n false k = n) := nextIs_eq hk (Nat.le_refl _) (fun h => absurd h (Nat.lt_irrefl _)) (fun i h1 h2 => by rw [HB.out i h1 (by omega) h2]; simp)
      have hft' : ¬ (f : Int) < (n : Int) := by omega
      go_wp2_with fail
      refine (HL.out _ rfl).mono ?_
      rintro e w' ⟨rfl, rfl⟩
      go_wp2_with fail
      refine (HL.out _ rfl).mono ?_
      rintro e w' ⟨rfl, rfl⟩
      go_wp2
      go_ret2
      exact ⟨by rw [firstV_no HV.out]; rfl, rfl⟩
set_option maxRecDepth 100000 in
theorem mnextb_any (k : Nat) (w : World) (h : BMF w F g n B) (hT : Tz w) (hn : n ≤ 1048576) (hk : k ≤ n) : Calls Tryz.prog 200 #[.pointer (some ⟨g, 0, none⟩), .int .i64 k] w fun e w' => e = .returned (.int .i64 (nextIs B n true k : Nat)) ∧ w = w' := by
  obtain ⟨b, ws, hb, -, -⟩ := h
  have HM := Lib.hid hb
  have c0 := cell_of_row w g 0 _ _ (0, 0) hb.block
  have c1 := cell_of_row w g 1 _ _ (0, 0) hb.block
  simp at c0 c1
  have hwle : ws.length ≤ 16385 := by rw [hb.len]; omega
  have HTZ := Lib.hid hT
  clear hb hT
  go_enter Tryz.func200, Tryz.ntmps200
  go_wp2_with fail
  go_loopw [1] (fun i wr => wr = w ∧ ∃ f : Nat, i = .int .i64 (f : Int) ∧ k ≤ f ∧ f ≤ n + 64 ∧ Hid (∀ j, k ≤ j → j < f → j < n → B j = false)) (fun i _ => n + 64 - (intOf i).toNat)
  case atStart => exact ⟨rfl, k, by simp, Nat.le_refl _, by omega, fun j h1 h2 => by omega⟩
  case round =>
    obtain ⟨rfl, f, rfl, hf1, hf2, HB⟩ := hrel
    have hf0 : (0 : Int) ≤ (f : Int) := by omega
    by_cases hlt : f < n
    · have hlt' : (f : Int) < (n : Int) := by omega
      obtain ⟨x, HX, cx, fx, hsm, hwi, HBT⟩ := HM.out.word hlt
      have hyx := div_val x (f % 64)
      have HNB : Hid (∀ s, f % 64 + s < 64 → B (f + s) = (x / 2 ^ (f % 64)).testBit s) := fun s hs => by
        have h8 := HM.out.bit (f + s)
        rw [show (f + s) / 64 = f / 64 by omega, show ws.getD (f / 64) 0 = x by simp [List.getD, HX.out], show (f + s) % 64 = f % 64 + s by omega] at h8
        rw [h8, Nat.testBit_div_two_pow, Nat.add_comm]
      have HSM : Hid (x / 2 ^ (f % 64) < 2 ^ (64 - f % 64)) := by
        show _ < _
        rw [Nat.div_lt_iff_lt_mul (Nat.pow_pos (by decide)), ← Nat.pow_add, show 64 - f % 64 + f % 64 = 64 by have := Nat.mod_lt f (show 64 > 0 by decide); omega]
        simpa using hsm
      have hysm : x / 2 ^ (f % 64) < 18446744073709551616 := Nat.lt_of_le_of_lt (Nat.div_le_self _ _) hsm
      obtain ⟨y, hy⟩ : ∃ y, y = x / 2 ^ (f % 64) := ⟨_, rfl⟩
      rw [← hy] at hyx HNB hysm HSM
      clear hy
      by_cases hy0 : y = 0
      · subst hy0
        have HBB : Hid (∀ j, k ≤ j → j < (f / 64 + 1) * 64 → j < n → B j = false) := fun j h1 h2 h3 => by
          by_cases h4 : j < f
          · exact HB.out j h1 h4 h3
          · have h5 := HNB.out (j - f) (by omega)
            rw [Nat.zero_testBit, show f + (j - f) = j by omega] at h5
            exact h5
        clear HB HNB HSM
        go_wp2
        go_roundw
        case rel => exact ⟨trivial, (f / 64 + 1) * 64, by go_num, by omega, by omega, HBB⟩
        case measure => simp [intOf]; omega
      · have hyb : ((y : Int) != 0) = true := by simp; omega
        obtain ⟨t1, t2, t3⟩ := ctz_bits hy0 hysm
        have hin : f % 64 + Lib.ctz 64 y < 64 := by
          rcases Nat.lt_or_ge (f % 64 + Lib.ctz 64 y) 64 with h | h
          · exact h
          · have := Nat.testBit_lt_two_pow (Nat.lt_of_lt_of_le HSM.out (Nat.pow_le_pow_right (by decide) (show 64 - f % 64 ≤ Lib.ctz 64 y by omega)))
            rw [this] at t2; cases t2
        have HR : Hid (B (f + Lib.ctz 64 y) = true ∧ ∀ j, k ≤ j → j < f + Lib.ctz 64 y → j < n → B j = false) := by
          refine ⟨by rw [HNB.out _ hin, t2], fun j h1 h2 h3 => ?_⟩
          by_cases h4 : j < f
          · exact HB.out j h1 h4 h3
          · have := HNB.out (j - f) (by omega)
            rw [show f + (j - f) = j by omega, t3 (j - f) (by omega)] at this
            exact this
        have HTC := Lib.hid (tz_any y hysm wr HTZ.out)
        have hft : f + Lib.ctz 64 y < n := by
          rcases Nat.lt_or_ge (f + Lib.ctz 64 y) n with h | h
          · exact h
          · have := HM.out.off _ h
            rw [HR.out.1] at this; cases this
        generalize Lib.ctz 64 y = t at *
        clear HB HNB t2 t3
        have HV : Hid (nextIs B n true k = f + t) := nextIs_eq (by omega) (by omega) (fun _ => HR.out.1) (fun i h1 h2 => by rw [HR.out.2 i h1 h2 (by omega)]; simp)
        have hft' : (f : Int) + (t : Int) < (n : Int) := by omega
        go_wp2_with fail
        refine HTC.out.mono ?_
        rintro e w' ⟨rfl, rfl⟩
        go_wp2
        go_ret
        exact ⟨by rw [HV.out]; simp, rfl⟩
    · have HV : Hid (nextIs B n true k = n) := nextIs_eq hk (Nat.le_refl _) (fun h => absurd h (Nat.lt_irrefl _)) (fun i h1 h2 => by rw [HB.out i h1 (by omega) h2]; simp)
      have hft' : ¬ (f : Int) < (n : Int) := by omega
      go_wp2
      go_ret
      exact ⟨by rw [HV.out]; rfl, rfl⟩
end Go.Proofs.YtcdpnfchmpncjaaGreatDoor
namespace Go.Tr
open Go.RowKit
def NoRun (B : Nat → Bool) (n m a : Nat) : Prop := ∀ a', a' < a → a' + m ≤ n → ∃ i, a' ≤ i ∧ i < a' + m ∧ B i = true
def AllOff (B : Nat → Bool) (a m : Nat) : Prop := ∀ i, a ≤ i → i < a + m → B i = false
def RunP (B : Nat → Bool) (n m : Nat) (e : Ending) : Prop := (∃ a, e = .returned (.tuple #[.int .i64 (a : Nat), .bool true]) ∧ a + m ≤ n ∧ AllOff B a m ∧ NoRun B n m a) ∨ (e = .returned (.tuple #[.int .i64 0, .bool false]) ∧ NoRun B n m n)
def runMu (n : Nat) (s6 s7 : Value) : Nat := match s7 with
  | .bool true => n + 1 - (intOf s6).toNat
  | _ => 0
def RunSt (B : Nat → Bool) (n m a : Nat) (ok : Bool) : Prop := (ok = true ∧ a < n ∧ B a = false ∧ NoRun B n m a) ∨ (ok = false ∧ NoRun B n m n)
theorem NoRun.first {B : Nat → Bool} {n m k : Nat} (h : NoRun B n m k) (hk : k ≤ n) (hm : 1 ≤ m) : NoRun B n m (nextIs B n false k) := fun a' h1 h2 => by
  obtain ⟨s1, s2, s3, s4⟩ := nextIs_spec B n false hk
  by_cases h3 : a' < k
  · exact h a' h3 h2
  · exact ⟨a', Nat.le_refl _, by omega, by have := s4 a' (by omega) h1; simpa using this⟩
theorem NoRun.next {B : Nat → Bool} {n m a : Nat} (h : NoRun B n m a) (ha : a ≤ n) (hm : 1 ≤ m) (hs : nextIs B n true a - a < m) : NoRun B n m (nextIs B n true a) := fun a' h1 h2 => by
  obtain ⟨s1, s2, s3, s4⟩ := nextIs_spec B n true ha
  by_cases h3 : a' < a
  · exact h a' h3 h2
  · exact ⟨nextIs B n true a, by omega, by omega, s3 (by omega)⟩
theorem RunSt.told {B : Nat → Bool} {n m k : Nat} (h : NoRun B n m k) (hk : k ≤ n) (hm : 1 ≤ m) : ∃ (a : Nat) (ok : Bool), firstV B n k = .tuple #[.int .i64 (a : Nat), .bool ok] ∧ RunSt B n m a ok ∧ (ok = true → k ≤ a) := by
  obtain ⟨t1, t2, t3, t4⟩ := nextIs_spec B n false hk
  have h2 := h.first hk hm
  by_cases hr : nextIs B n false k < n
  · exact ⟨_, true, firstV_yes rfl hr, Or.inl ⟨rfl, hr, t3 hr, h2⟩, fun _ => t1⟩
  · have e : nextIs B n false k = n := by omega
    exact ⟨0, false, firstV_no e, Or.inr ⟨rfl, by rw [e] at h2; exact h2⟩, fun h => by cases h⟩
theorem AllOff.next {B : Nat → Bool} {n m a : Nat} (ha : a ≤ n) (hs : m ≤ nextIs B n true a - a) : a + m ≤ n ∧ AllOff B a m := by
  obtain ⟨s1, s2, s3, s4⟩ := nextIs_spec B n true ha
  exact ⟨by omega, fun i h1 h2 => by have := s4 i h1 (by omega); simpa using this⟩
end Go.Tr
namespace Go.Proofs.YtcdpnfchmpncjaaGreatDoor
open Go.RowKit Go.Tr Go.Shelf
variable {w w' : World} {g b n : Nat} {B : Nat → Bool} {F : Nat → Prop}
set_option maxRecDepth 100000 in
theorem mrunb_any (m : Nat) (w : World) (h : BMF w F g n B) (hT : Tz w) (hn : n ≤ 1048576) (hm : 1 ≤ m) (hm2 : m ≤ 1048576) : Calls Tryz.prog 172 #[.pointer (some ⟨g, 0, none⟩), .int .i64 m] w fun e w' => RunP B n m e ∧ w = w' := by
  have HM := Lib.hid h
  have HTZ := Lib.hid hT
  have HF : Hid (∀ k, k ≤ n → Calls Tryz.prog 131 #[.pointer (some ⟨g, 0, none⟩), .int .i64 k] w fun e w' => e = .returned (firstV B n k) ∧ w = w') := fun k hk => mfirstb_any k w h hT hn hk
  have HX : Hid (∀ k, k ≤ n → Calls Tryz.prog 200 #[.pointer (some ⟨g, 0, none⟩), .int .i64 k] w fun e w' => e = .returned (.int .i64 (nextIs B n true k : Nat)) ∧ w = w') := fun k hk => mnextb_any k w h hT hn hk
  clear h hT
  go_enter Tryz.func172, Tryz.ntmps172
  go_wp2_with fail
  refine (HF.out 0 (Nat.zero_le _)).mono ?_
  rintro e w' ⟨rfl, rfl⟩
  obtain ⟨a, ok, hfv, hst, -⟩ := RunSt.told (B := B) (n := n) (m := m) (k := 0) (fun a' h => by omega) (Nat.zero_le _) hm
  rw [hfv]
  have HST := Lib.hid hst
  clear hfv hst
  go_wp2_with fail
  go_loopw [6, 7] (fun s6 s7 wr => wr = w ∧ ∃ (a : Nat) (ok : Bool), s6 = .int .i64 (a : Int) ∧ s7 = .bool ok ∧ Hid (RunSt B n m a ok)) (fun s6 s7 _ => runMu n s6 s7)
  case atStart => exact ⟨rfl, a, ok, rfl, rfl, HST⟩
  case round =>
    clear HST
    obtain ⟨rfl, a, ok, rfl, rfl, HS⟩ := hrel
    rcases HS.out with ⟨rfl, han, hoff, hnr⟩ | ⟨rfl, hnr⟩
    · have HNR := Lib.hid hnr
      have HN := Lib.hid (HX.out a (by omega))
      obtain ⟨s1, s2, s3, s4⟩ := nextIs_spec B n true (k := a) (by omega)
      obtain ⟨q, hq⟩ : ∃ q, q = nextIs B n true a := ⟨_, rfl⟩
      rw [← hq] at HN s1 s2 s3
      have haq : a < q := by
        rcases Nat.lt_or_ge a q with h | h
        · exact h
        · have e : q = a := by omega
          rw [e] at s3
          have := s3 han
          rw [hoff] at this; cases this
      have HQ := Lib.hid hq.symm
      clear s3 s4 hq hnr HS hoff
      by_cases hqm : m ≤ q - a
      · have HAO := Lib.hid (AllOff.next (B := B) (n := n) (m := m) (a := a) (by omega) (by rw [HQ.out]; exact hqm))
        have hqm2 : (m : Int) ≤ (q : Int) - (a : Int) := by omega
        go_wp2_with fail
        refine HN.out.mono ?_
        rintro e w' ⟨rfl, rfl⟩
        go_wp2
        go_ret2
        exact ⟨Or.inl ⟨a, rfl, HAO.out.1, HAO.out.2, HNR.out⟩, rfl⟩
      · have hnq : NoRun B n m q := by rw [← HQ.out]; exact HNR.out.next (by omega) hm (by rw [HQ.out]; omega)
        have hqm' : (q : Int) - (a : Int) < (m : Int) := by omega
        obtain ⟨a2, ok2, hfv, hst, hge⟩ := RunSt.told hnq s2 hm
        have HF2 := Lib.hid (HF.out q s2)
        rw [hfv] at HF2
        have HST := Lib.hid hst
        have hmu : runMu n (.int .i64 (a2 : Int)) (.bool ok2) < runMu n (.int .i64 (a : Int)) (.bool true) := by
          have e1 : (intOf (.int .i64 (a : Int))).toNat = a := rfl
          have e2 : (intOf (.int .i64 (a2 : Int))).toNat = a2 := rfl
          cases ok2
          · show 0 < n + 1 - (intOf (.int .i64 (a : Int))).toNat
            rw [e1]; omega
          · have := hge rfl
            show n + 1 - (intOf (.int .i64 (a2 : Int))).toNat < n + 1 - (intOf (.int .i64 (a : Int))).toNat
            rw [e1, e2]; omega
        have HMU := Lib.hid hmu
        clear hfv hst hge hmu hnq
        go_wp2_with fail
        refine HN.out.mono ?_
        rintro e w' ⟨rfl, rfl⟩
        go_wp2_with fail
        refine HF2.out.mono ?_
        rintro e w' ⟨rfl, rfl⟩
        go_wp2
        go_roundw
        case rel => exact ⟨trivial, a2, ok2, rfl, rfl, HST⟩
        case measure => exact HMU.out
    · have HNR := Lib.hid hnr
      clear hnr HS
      go_wp2
      go_ret2
      exact ⟨Or.inr ⟨rfl, HNR.out⟩, rfl⟩
theorem infoU64 : (Tryz.prog.info? 34).map (fun i => (i.zero, i.size, i.bytes)) = some (some (.int .u64 0), 1, 8) := by kernel_rfl
theorem made_us (q : Nat) : madeCells (Value.int .u64 0).cells q = (us (List.replicate q 0)).toArray := by
  apply Array.toList_inj.1
  show (madeCells #[Value.int .u64 0] q).toList = _
  rw [toList_madeCells_one]
  simp [us, uv]
theorem make_us (q : Nat) (w : World) (hq : q ≤ 1048576) : (Instr.makeSlice 35 (.int .i64 (q : Int)) (.int .i64 (q : Int))).run Tryz.prog w = .ok (.slice (some ⟨w.heap.size, 0, none⟩) q q) (w.alloc (.cells (us (List.replicate q 0)).toArray 34)) := by
  obtain ⟨i0, hi, hz0, hz1, hz2⟩ := info_parts infoU64
  have := run_make (P := Tryz.prog) w 35 34 i0 _ Tryz.underlying35 hi hz0 .i64 .i64 q q (by omega) (Int.le_refl _) (by rw [hz2]; omega) (by omega)
  rw [hz1, Int.toNat_natCast, Nat.mul_one, made_us] at this
  exact this
theorem cntB_none (n : Nat) : cntB (fun _ => false) n = 0 := by induction n <;> simp_all [cntB]
set_option maxRecDepth 100000 in
theorem mnewb_any (n : Nat) (w : World) (h1 : 1 ≤ n) (h2 : n ≤ 1048576) : Calls Tryz.prog 124 #[.int .i64 n] w fun e w' => ∃ g, e = .returned (.tuple #[.pointer (some ⟨g, 0, none⟩), .int .i64 0]) ∧ w.heap.size ≤ g ∧ BMF w' (fun k => w.heap.size ≤ k ∧ k < w'.heap.size) g n (fun _ => false) ∧ Below w.heap.size w w' := by
  obtain ⟨q, hq⟩ : ∃ q, q = (n + 63) / 64 := ⟨_, rfl⟩
  have hmk := make_us q w (by omega)
  have hq2 : ((n : Int) + 63) / 64 = (q : Int) := by omega
  have HQ := Lib.hid hq
  clear hq
  go_enter Tryz.func124, Tryz.ntmps124
  go_wp2_with fail
  have HB : Hid (Below w.heap.size w ((w.alloc (.cells (us (List.replicate q 0)).toArray 34)).alloc (.cells #[.int .i64 n, .slice (some ⟨w.heap.size, 0, none⟩) q q, .int .i64 0] 174))) := ((Below.refl _ w).alloc (Nat.le_refl _) _).alloc (by simp) _
  go_ret2
  refine ⟨_, rfl, by simp, ⟨w.heap.size, List.replicate q 0, ⟨?_, ?_, by simp, by simp; exact HQ.out, fun x hx => ?_, fun i => ?_, fun _ _ => rfl⟩, by constructor <;> simp, by constructor <;> (simp; try omega)⟩, HB.out⟩
  · have := heap_alloc_new (w.alloc (.cells (us (List.replicate q 0)).toArray 34)) (.cells #[.int .i64 n, .slice (some ⟨w.heap.size, 0, none⟩) q q, .int .i64 0] 174)
    simpa [cntB_none] using this
  · exact (Below.heap_alloc _ _ _ (by simp)).trans (heap_alloc_new w _)
  · obtain rfl := List.eq_of_mem_replicate hx
    decide
  · have e : (List.replicate q 0).getD (i / 64) 0 = 0 := by by_cases h : i / 64 < q <;> simp [List.getD, h, List.getElem?_replicate]
    rw [e]; simp
end Go.Proofs.YtcdpnfchmpncjaaGreatDoor
