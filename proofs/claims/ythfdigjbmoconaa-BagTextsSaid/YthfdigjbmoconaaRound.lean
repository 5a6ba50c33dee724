/-
  A region of a loop's body over a function: walked as anywhere (no 'defer' statement among its operations).
-/
import Derived.OrdersIn
import Derived.OrdersHeld
import Derived.Deep.RegionHeld
import Derived.RangeFuncWrites
import Derived.RangeFuncCalls
import Derived.Test.YthfdigjbmoconaaRegion
set_option linter.unusedSimpArgs false
set_option linter.unusedVariables false
namespace Go
variable {P : Program} {l n : Nat} {Q : Exit → Act → World → Prop}
theorem rowsIn_wide {row : String} {args : Array Value} {w : World} {R : Value → World → Prop} (h : Rows P row args w R) : RowsIn (Fence.wide.inRound l) n P row args w R :=
  fun c cs _ => let ⟨v, w', r, s⟩ := h c cs; ⟨v, w', r, stepsIn_wide.2 s⟩
theorem Oper.wpIn_round {o : Oper} {a : Act} {w : World} {next : Act → World → Prop} (hd : ∀ c, o.op ≠ .defer c) (h : o.wp P a w next Q) : o.wpIn (Fence.wide.inRound l) n P a w next Q := by
  refine ⟨fun f _ => trivial, ?_⟩
  rw [Fence.inRound_round, Oper.semAt_eq _ _ _ hd]
  unfold Oper.wp at h
  generalize (execOp a.eval o).run P w = r at h ⊢
  cases r with
  | ok x w' =>
    cases x with
    | value v => exact h
    | skip => exact h
    | defer d => exact h
    | enter f args =>
      refine ⟨fun h => ?_, CallsIn.inRound l (callsIn_wide.2 h)⟩
      cases h
    | row r args =>
      refine ⟨fun h => ?_, rowsIn_wide h⟩
      cases h
    | _ => exact h.elim
  | halt s w' =>
    cases s with
    | panic v => exact h
    | _ => exact h.elim
def plainOps (ops : Array Oper) : Bool := ops.all fun o => match o.op with | .defer _ => false | _ => true
theorem plainOps_spec {ops : Array Oper} (h : plainOps ops = true) {i : Nat} {o : Oper} (ho : ops[i]? = some o) : ∀ c, o.op ≠ .defer c := by
  unfold plainOps at h
  rw [Array.all_eq_true] at h
  obtain ⟨hi, rfl⟩ := Array.getElem?_eq_some_iff.1 ho
  have := h i hi
  intro c e
  rw [e] at this
  cases this
variable {ops : Array Oper} {md : Region.Mode}
theorem wpOpIn_round (hp : plainOps ops = true) (hlo : ¬ LetsOut Q) {i : Nat} {a : Act} {w : World} {K : Act → World → Prop} (h : wpOp P ops Q i K a w) : wpOpIn (Fence.wide.inRound l) n P ops Q i K a w := by
  unfold wpOp at h
  unfold wpOpIn
  cases ho : ops[i]? with
  | none => simp only [ho] at h; exact h
  | some o =>
    simp only [ho] at h ⊢
    split at h
    · rename_i hw
      rw [if_pos hw]
      rcases h with h | h
      · exact Oper.wpIn_round (plainOps_spec hp ho) h
      · exact absurd h.2 hlo
    · rename_i hw
      rw [if_neg hw]
      exact ⟨fun _ _ => trivial, h⟩
theorem wpAnyIn_round (hp : plainOps ops = true) (hlo : ¬ LetsOut Q) : ∀ (fuel : Nat) (listed : Array Bool) (a : Act) (w : World), wpAny P md ops Q fuel listed a w → wpAnyIn (Fence.wide.inRound l) n P md ops Q fuel listed a w
  | 0, _, _, _, h => h
  | fuel + 1, listed, a, w, h => ⟨h.1, fun i hi => wpOpIn_round hp hlo (wpOp_mono (fun a w h => wpAnyIn_round hp hlo fuel _ a w h) (h.2 i hi))⟩
/-- The beginning, in a round: as wp_region_held_drew. -/
theorem wpIn_region_held_drew {id : Nat} {a : Act} {w : World} {S : World → Prop} (hp : plainOps ops = true) (hlo : ¬ LetsOut Q) (hm : P.follows .mixedOrders = true) (hS : S w.drew)
    (h : S w.drew → wpAnyH P .any ops Q S ops.size (Array.replicate ops.size false) a w.drew) : (Code.region id ops true).wpIn (Fence.wide.inRound l) n P Q a w :=
  wpIn_region_any hm (wpAnyIn_round hp hlo _ _ _ _ (wpAny_of_held _ _ _ _ (h hS)))
open Go.Tr in
/-- .. and number m comes last. -/
theorem wpIn_region_lastH {id : Nat} {a : Act} {w : World} {S : World → Prop} (hp : plainOps ops = true) (hlo : ¬ LetsOut Q) (m : Nat) (hm : P.follows .mixedOrders = true) (hB : lastB .any ops m = true) (hS : S w.drew)
    (h : S w.drew → wpAnyH P .any (lastOps ops m) (LastQ P ops Q m) S ops.size (Array.replicate ops.size false) a w.drew) : (Code.region id ops true).wpIn (Fence.wide.inRound l) n P Q a w := by
  refine wpIn_region_any hm (wpAnyIn_round hp hlo _ _ _ _ (wpAny_last hB _ _ _ _ (by simp) ?_ (fun i o _ hk => ?_) (wpAny_of_held _ _ _ _ (h hS))))
  · have := (lastB_spec hB).1
    simp [this]
  · simp [Array.getElem?_replicate] at hk
    split at hk <;> cases hk
end Go
