/-
  turnrowref08.Bag: the walk of First.
-/
import Derived.Test.YthfdigjbmoconaaRef08
set_option linter.unusedSimpArgs false
set_option linter.unusedVariables false
namespace Go.Proofs.Ythfdigjbmoconaa
open Go.RowKit Go.Tr
variable {w : World} {m : Nat} {F : Nat → Prop} {zs : List Int}
/-- What First tells of a list. -/
def FirstOf (zs : List Int) (x b : Int) (s : Bool) : Prop := (s = false ∧ b = 0 ∧ ∀ y ∈ zs, y < x) ∨ (s = true ∧ b ∈ zs ∧ x ≤ b ∧ ∀ y ∈ zs, x ≤ y → b ≤ y)
theorem FirstOf.start (x : Int) : FirstOf [] x 0 false := Or.inl ⟨rfl, rfl, by simp⟩
theorem FirstOf.low {zs : List Int} {x b y : Int} {s : Bool} (h : FirstOf zs x b s) (hy : y < x) : FirstOf (zs ++ [y]) x b s := by
  rcases h with ⟨h1, h2, h3⟩ | ⟨h1, h2, h3, h4⟩
  · exact Or.inl ⟨h1, h2, fun z hz => by rcases List.mem_append.1 hz with hz | hz; exact h3 z hz; simp at hz; omega⟩
  · exact Or.inr ⟨h1, List.mem_append_left _ h2, h3, fun z hz hxz => by rcases List.mem_append.1 hz with hz | hz; exact h4 z hz hxz; simp at hz; omega⟩
theorem FirstOf.new {zs : List Int} {x b y : Int} (h : FirstOf zs x b false) (hy : x ≤ y) : FirstOf (zs ++ [y]) x y true := by
  rcases h with ⟨h1, h2, h3⟩ | ⟨h1, _⟩
  · exact Or.inr ⟨rfl, by simp, hy, fun z hz hxz => by rcases List.mem_append.1 hz with hz | hz; have := h3 z hz; omega; simp at hz; omega⟩
  · cases h1
theorem FirstOf.less {zs : List Int} {x b y : Int} (h : FirstOf zs x b true) (hy : x ≤ y) (hb : y < b) : FirstOf (zs ++ [y]) x y true := by
  rcases h with ⟨h1, _⟩ | ⟨h1, h2, h3, h4⟩
  · cases h1
  · exact Or.inr ⟨rfl, by simp, hy, fun z hz hxz => by rcases List.mem_append.1 hz with hz | hz; have := h4 z hz hxz; omega; simp at hz; omega⟩
theorem FirstOf.more {zs : List Int} {x b y : Int} (h : FirstOf zs x b true) (hb : ¬ y < b) : FirstOf (zs ++ [y]) x b true := by
  rcases h with ⟨h1, _⟩ | ⟨h1, h2, h3, h4⟩
  · cases h1
  · exact Or.inr ⟨rfl, List.mem_append_left _ h2, h3, fun z hz hxz => by rcases List.mem_append.1 hz with hz | hz; exact h4 z hz hxz; simp at hz; omega⟩
/-- It is what a bag of the same tells. -/
theorem FirstOf.bag {zs zb : List Int} {x b : Int} {s : Bool} (h : FirstOf zs x b s) (hr : zb.Pairwise (· < ·)) (hm : ∀ y, y ∈ zb ↔ y ∈ zs) : zb[posL zb x]?.getD 0 = b ∧ decide (posL zb x < zb.length) = s := by
  obtain ⟨h1, h2⟩ := posL_low hr x
  have hp := posL_le zb x
  rcases h with ⟨rfl, rfl, h5⟩ | ⟨rfl, h5, h6, h7⟩
  · have hn : ¬ posL zb x < zb.length := fun hlt => by
      have hmem : zb[posL zb x] ∈ zb.drop (posL zb x) := by
        rw [List.mem_iff_getElem]
        exact ⟨0, by rw [List.length_drop]; omega, by simp⟩
      have h3 := h2 _ hmem
      have h4 := h5 _ ((hm _).1 (List.getElem_mem hlt))
      omega
    exact ⟨by rw [List.getElem?_eq_none (by omega)]; rfl, decide_eq_false hn⟩
  · obtain ⟨i, hi, hib⟩ := List.mem_iff_getElem.1 ((hm b).2 h5)
    have hpi : posL zb x = i := by
      refine posL_split i x (fun z hz => ?_) (fun z hz => ?_) (by omega)
      · obtain ⟨j, hj, rfl⟩ := List.mem_iff_getElem.1 hz
        rw [List.length_take] at hj
        rw [List.getElem_take]
        have h8 := List.pairwise_iff_getElem.1 hr j i (by omega) hi (by omega)
        rw [hib] at h8
        exact Classical.byContradiction fun hc => by
          have := h7 _ ((hm _).1 (List.getElem_mem (l := zb) (n := j) (by omega))) (by omega)
          omega
      · obtain ⟨j, hj, rfl⟩ := List.mem_iff_getElem.1 hz
        rw [List.length_drop] at hj
        rw [List.getElem_drop]
        by_cases h0 : j = 0
        · subst h0; show x ≤ zb[i + 0]; simp only [Nat.add_zero]; rw [hib]; exact h6
        · have h8 := List.pairwise_iff_getElem.1 hr i (i + j) hi (by omega) (by omega)
          rw [hib] at h8; omega
    rw [hpi]
    exact ⟨by rw [List.getElem?_eq_getElem hi, hib]; rfl, decide_eq_true hi⟩
def MFirst (zs : List Int) (x : Int) (e : Ending) : Prop := ∃ b s, e = .returned (.tuple #[.int .i64 b, .bool s]) ∧ FirstOf zs x b s
set_option maxRecDepth 100000 in
set_option maxHeartbeats 1000000 in
theorem mfirst_any (x : Int) (w : World) (h : LstP 53 w m F zs) (hs : zs.length ≤ 900000) : Calls Try.prog 31 #[.pointer (some ⟨m, 0, none⟩), .int .i64 x] w fun e w' => MFirst zs x e ∧ w = w' := by
  obtain ⟨v, h⟩ := h
  obtain ⟨c0, f0⟩ := h.head
  obtain ⟨a, c, rfl, hq, -, -⟩ := h.sl.seq
  have HQ := Lib.hid hq
  obtain ⟨n, hn⟩ : ∃ n, n = zs.length := ⟨_, rfl⟩
  rw [← hn] at c0 hs
  have HN := Lib.hid hn.symm
  clear h hq hn
  go_enter Try.func31, Try.ntmps31
  go_wp2_with fail
  go_loopw [6, 7, 8] (fun bv sv i wr => wr = w ∧ ∃ (k : Nat) (b : Int) (s : Bool), k ≤ n ∧ i = .int .i64 k ∧ bv = .int .i64 b ∧ sv = .bool s ∧ Hid (FirstOf (zs.take k) x b s)) (fun _ _ i _ => n - (intOf i).toNat)
  case atStart => exact ⟨rfl, 0, 0, false, Nat.zero_le _, rfl, rfl, rfl, FirstOf.start x⟩
  case round =>
    obtain ⟨rfl, k, b, s, hk, rfl, rfl, rfl, HP⟩ := hrel
    by_cases hlt : k < n
    · have hlt' : (k : Int) < (n : Int) := by omega
      obtain ⟨bl, off, y, rfl, hcx, HX⟩ := HQ.out.ints (k := k) (by rw [HN.out]; exact hlt)
      have HT := Lib.hid (take_snoc HX.out)
      clear HX
      by_cases hyx : x ≤ y
      · have hd1 : decide (x ≤ y) = true := decide_eq_true hyx
        cases s
        · have HP2 : Hid (FirstOf (zs.take (k + 1)) x y true) := by show FirstOf _ _ _ _; rw [HT.out]; exact HP.out.new hyx
          go_wp2_with fail
          go_roundw
          case rel => exact ⟨trivial, k + 1, y, true, by omega, by go_num, rfl, rfl, HP2⟩
          case measure => simp [intOf]; omega
        · by_cases hyb : y < b
          · have hd2 : decide (y < b) = true := decide_eq_true hyb
            have HP2 : Hid (FirstOf (zs.take (k + 1)) x y true) := by show FirstOf _ _ _ _; rw [HT.out]; exact HP.out.less hyx hyb
            go_wp2_with fail
            go_roundw
            case rel => exact ⟨trivial, k + 1, y, true, by omega, by go_num, rfl, rfl, HP2⟩
            case measure => simp [intOf]; omega
          · have hd2 : decide (y < b) = false := decide_eq_false hyb
            have HP2 : Hid (FirstOf (zs.take (k + 1)) x b true) := by show FirstOf _ _ _ _; rw [HT.out]; exact HP.out.more hyb
            go_wp2_with fail
            go_roundw
            case rel => exact ⟨trivial, k + 1, b, true, by omega, by go_num, rfl, rfl, HP2⟩
            case measure => simp [intOf]; omega
      · have hd1 : decide (x ≤ y) = false := decide_eq_false hyx
        have HP2 : Hid (FirstOf (zs.take (k + 1)) x b s) := by show FirstOf _ _ _ _; rw [HT.out]; exact HP.out.low (by omega)
        go_wp2_with fail
        go_roundw
        case rel => exact ⟨trivial, k + 1, b, s, by omega, by go_num, rfl, rfl, HP2⟩
        case measure => simp [intOf]; omega
    · have hlt' : ¬ ((k : Int) < (n : Int)) := by omega
      have HP2 : Hid (FirstOf zs x b s) := by have := HP.out; rw [List.take_of_length_le (by rw [HN.out]; omega)] at this; exact this
      go_wp2_with fail
      go_ret2
      exact ⟨⟨b, s, rfl, HP2.out⟩, rfl⟩
end Go.Proofs.Ythfdigjbmoconaa
