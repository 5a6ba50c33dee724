/-
  A region that draws its order: the operation at hand, written out.
-/
import Derived.Deep.RegionHeld3
import Derived.Deep.AppendLies
import Derived.StillTailTactics
set_option linter.unusedSimpArgs false
set_option linter.unusedVariables false
namespace Go.Tr
variable {P : Program} {ops : Array Oper} {Q : Exit → Act → World → Prop} {md : Region.Mode} {S : World → Prop}

theorem at_drop {l : List Oper} {i : Nat} {o : Oper} (h : (l.drop i).head? = some o) : l[i]? = some o := by
  rw [← h, List.head?_drop]

theorem readyH {fuel : Nat} {listed : Array Bool} {a : Act} {w : World} {i : Nat} {o : Oper} {rs : List Nat} (ho : (ops.toList.drop i).head? = some o)
    (h : ∀ K' : Act → World → Prop, Shut (∀ a w, S w → (S w → wpAnyH P md ops Q S fuel (listed.setIfInBounds i true) a w) → K' a w) → if Region.wanted o (yielded ops a.tmps) = true then Oper.wp P o a w K' Q else K' (a.put o.dst undef) w)
    (hs : AllReadyH P md ops Q S fuel listed a w rs) : AllReadyH P md ops Q S fuel listed a w (i :: rs) :=
  AllReadyH.cons (by have := at_drop ho; simpa using this) h hs
/-- Take number i first: it yields v in every world that meets S. -/
theorem takeH (i : Nat) {oi : Oper} {v : Value} {fuel : Nat} {listed : Array Bool} {a : Act} {w : World} (ho : (ops.toList.drop i).head? = some oi)
    (hs : Region.noSelect ops = true) (hf : Region.free md ops listed i = true) (hr : (Region.ready md ops listed).contains i = true)
    (hQ : ∀ c a w, Q (.panic c) (a.put oi.dst v) w → Q (.panic c) a w) (hw : Region.wanted oi (yielded ops a.tmps) = true) (hy : ∀ w, S w → (execOp a.eval oi).run P w = .ok (.value v) w) (hS : S w)
    (h : wpAnyH P md ops Q S fuel (listed.setIfInBounds i true) (a.put oi.dst v) w) : wpAnyH P md ops Q S (fuel + 1) listed a w :=
  wpAnyH_take (by have := at_drop ho; simpa using this) hs hf hr hQ (Or.inl ⟨hw, hy⟩) hS h

/-! ### the last operation put off: it comes behind all others, in whatever order these come -/
/-- In the place of the last one: it does nothing. -/
def nop (o : Oper) : Oper := { o with dst := none, op := .move (.const undef), guard := none }
def lastOps (ops : Array Oper) (l : Nat) : Array Oper := ops.modify l nop
/-- What is to be shown where all others have come up: the last one's own step. -/
def LastQ (P : Program) (ops : Array Oper) (Q : Exit → Act → World → Prop) (l : Nat) : Exit → Act → World → Prop
  | .normal, a, w => wpOp P ops Q l (fun a' w' => Q .normal a' w') a w
  | e, a, w => Q e a w
def under (md : Region.Mode) (ops : Array Oper) (j : Nat) : Nat → Nat → Bool
  | 0, _ => false
  | n + 1, i => match ops[i]? with | some o => o.after.any (fun e => Region.binds md e && (e.on == j || under md ops j n e.on)) | none => false
/-- Whoever has come up, those before it have too. -/
def Closed (md : Region.Mode) (ops : Array Oper) (listed : Array Bool) : Prop := ∀ (i : Nat) (o : Oper), ops[i]? = some o → listed.getD i false = true → ∀ e ∈ o.after, Region.binds md e = true → listed.getD e.on false = true
theorem under_spec {listed : Array Bool} (hc : Closed md ops listed) {j : Nat} : ∀ (n i : Nat) (o : Oper), ops[i]? = some o → (∀ e ∈ o.after, Region.binds md e = true → listed.getD e.on false = true) → under md ops j n i = true → listed.getD j false = true
  | 0, _, _, _, _, h => by cases h
  | n + 1, i, o, ho, hall, h => by
    unfold under at h
    rw [ho] at h
    obtain ⟨e, he, hb⟩ := Array.any_eq_true'.1 h
    simp only [Bool.and_eq_true, Bool.or_eq_true, beq_iff_eq] at hb
    obtain ⟨hb, hj | hj⟩ := hb
    · rw [← hj]; exact hall e he hb
    · have hl := hall e he hb
      cases ho' : ops[e.on]? with
      | none => cases n <;> simp [under, ho'] at hj
      | some o' => exact under_spec hc n e.on o' ho' (hc e.on o' ho' hl) hj
theorem Closed.set {listed : Array Bool} (hc : Closed md ops listed) {i : Nat} {o : Oper} (ho : ops[i]? = some o) (hall : ∀ e ∈ o.after, Region.binds md e = true → listed.getD e.on false = true) : Closed md ops (listed.setIfInBounds i true) := by
  have hmono : ∀ k, listed.getD k false = true → (listed.setIfInBounds i true).getD k false = true := fun k hk => by
    by_cases hik : i = k
    · subst hik
      have : i < listed.size := by
        rcases Nat.lt_or_ge i listed.size with h | h
        · exact h
        · simp [Array.getD, Nat.not_lt.2 h] at hk
      simp [this]
    · simp [Array.getElem?_setIfInBounds, hik] at hk ⊢; exact hk
  intro k o' ho' hk e he hb
  refine hmono _ ?_
  by_cases hik : i = k
  · subst hik; rw [ho] at ho'; cases ho'; exact hall e he hb
  · refine hc k o' ho' ?_ e he hb
    simp [Array.getElem?_setIfInBounds, hik] at hk ⊢; exact hk
def lastB (md : Region.Mode) (ops : Array Oper) (l : Nat) : Bool :=
  decide (l < ops.size) && (List.range ops.size).all (fun j => j == l || under md ops j 3 l) &&
  (List.range ops.size).all (fun i => match ops[i]? with | some o => o.after.all (fun e => !Region.binds md e || decide (e.on < i)) && (match o.guard with | some (j, _) => !(j == l) | none => true) | none => false)

theorem lastOps_ne {l i : Nat} (h : i ≠ l) : (lastOps ops l)[i]? = ops[i]? := by unfold lastOps; rw [Array.getElem?_modify, if_neg (Ne.symm h)]
theorem lastOps_eq {l : Nat} : (lastOps ops l)[l]? = ops[l]?.map nop := by unfold lastOps; rw [Array.getElem?_modify, if_pos rfl]
theorem lastOps_after (l i : Nat) : (lastOps ops l)[i]?.map (·.after) = ops[i]?.map (·.after) := by
  by_cases h : i = l
  · subst h; rw [lastOps_eq]; cases ops[i]? <;> rfl
  · rw [lastOps_ne h]
theorem lastOps_ready (md : Region.Mode) (l : Nat) (listed : Array Bool) : Region.ready md (lastOps ops l) listed = Region.ready md ops listed := by
  unfold Region.ready
  have hs : (lastOps ops l).size = ops.size := by simp [lastOps]
  rw [hs]
  apply List.filter_congr
  intro i _
  have := lastOps_after (ops := ops) l i
  cases h1 : (lastOps ops l)[i]? <;> cases h2 : ops[i]? <;> simp [h1, h2] at this ⊢
  rw [this]
theorem letsOut_last {l : Nat} (h : LetsOut (LastQ P ops Q l)) : LetsOut Q := h
theorem wp_last {l : Nat} {o : Oper} {a : Act} {w : World} {K K' : Act → World → Prop} (h : ∀ a w, K a w → K' a w) (hh : o.wp P a w K (LastQ P ops Q l)) : o.wp P a w K' Q := by
  unfold Oper.wp at *
  generalize (execOp a.eval o).run P w = r at *
  cases r with
  | ok n w' =>
    cases n <;> simp only [Oper.upon] at hh ⊢ <;>
      first
        | exact h _ _ hh
        | exact Calls.mono hh (fun e w'' he => by cases e <;> first | exact h _ _ he | exact he)
        | exact Rows.mono hh (fun _ _ he => h _ _ he)
  | halt x w' => cases x <;> simp only [Oper.upon] at hh ⊢ <;> exact hh
theorem wanted_last {l : Nat} {o : Oper} (hg : match o.guard with | some (j, _) => (!(j == l)) = true | none => True) (tmps : Array Value) : Region.wanted o (yielded (lastOps ops l) tmps) = Region.wanted o (yielded ops tmps) := by
  unfold Region.wanted
  cases h : o.guard with
  | none => rfl
  | some p =>
    obtain ⟨j, b⟩ := p
    rw [h] at hg
    simp only [yielded]
    rw [lastOps_ne (by simpa using hg)]
theorem exists_ready {l : Nat} {listed : Array Bool} (hl : l < ops.size) (hb : ∀ (i : Nat) (o : Oper), ops[i]? = some o → ∀ e ∈ o.after, Region.binds md e = true → e.on < i) (hs : listed.size = ops.size) (hun : listed.getD l true = false) : Region.ready md ops listed ≠ [] := by
  induction l using Nat.strongRecOn with
  | _ l ih =>
    obtain ⟨o, ho⟩ : ∃ o, ops[l]? = some o := ⟨ops[l], by simp [hl]⟩
    by_cases hr : ∀ e ∈ o.after, Region.binds md e = true → listed.getD e.on false = true
    · intro h0
      have : l ∈ Region.ready md ops listed := mem_ready.2 ⟨hun, o, ho, hr⟩
      rw [h0] at this; cases this
    · simp only [Classical.not_forall] at hr
      obtain ⟨e, he, hbe, hn⟩ := hr
      have hlt := hb l o ho e he hbe
      refine ih e.on hlt (by omega) ?_
      have : e.on < listed.size := by omega
      simp [this] at hn ⊢
      exact hn
theorem lastB_spec {l : Nat} (h : lastB md ops l = true) : l < ops.size ∧ (∀ j, j < ops.size → j ≠ l → under md ops j 3 l = true) ∧
    (∀ (i : Nat) (o : Oper), ops[i]? = some o → ∀ e ∈ o.after, Region.binds md e = true → e.on < i) ∧ ∀ (i : Nat) (o : Oper), ops[i]? = some o → (match o.guard with | some (j, _) => (!(j == l)) = true | none => True) := by
  unfold lastB at h
  simp only [Bool.and_eq_true, decide_eq_true_eq, List.all_eq_true, List.mem_range] at h
  obtain ⟨⟨h1, h2⟩, h3⟩ := h
  refine ⟨h1, fun j hj hne => ?_, fun i o ho e he hb => ?_, fun i o ho => ?_⟩
  · have := h2 j hj
    simp only [Bool.or_eq_true, beq_iff_eq] at this
    exact this.resolve_left hne
  · have := h3 i (Array.getElem?_eq_some_iff.1 ho).1
    rw [ho] at this
    simp only [Bool.and_eq_true] at this
    have h4 := Array.all_eq_true_iff_forall_mem.1 this.1 e he
    simpa [hb] using h4
  · have := h3 i (Array.getElem?_eq_some_iff.1 ho).1
    rw [ho] at this
    simp only [Bool.and_eq_true] at this
    have h4 := this.2
    cases hg : o.guard with
    | none => trivial
    | some p => obtain ⟨j, b⟩ := p; rw [hg] at h4; exact h4
theorem wpAny_last {l : Nat} (hB : lastB md ops l = true) : ∀ (fuel : Nat) (listed : Array Bool) (a : Act) (w : World), listed.size = ops.size → listed.getD l true = false → Closed md ops listed →
    wpAny P md (lastOps ops l) (LastQ P ops Q l) fuel listed a w → wpAny P md ops Q fuel listed a w := by
  obtain ⟨hl, hw, hb, hg⟩ := lastB_spec hB
  intro fuel
  induction fuel with
  | zero =>
    intro listed a w hs hun hc H
    rw [wpAny, lastOps_ready] at H
    exact absurd H.1 (exists_ready hl hb hs hun)
  | succ fuel ih =>
    intro listed a w hs hun hc H
    rw [wpAny, lastOps_ready] at H
    refine ⟨fun h0 => absurd h0 (exists_ready hl hb hs hun), fun i hi => ?_⟩
    have h1 := H.2 i hi
    by_cases hil : i = l
    · subst hil
      obtain ⟨_, o, ho, hall⟩ := mem_ready.1 hi
      have hempty : Region.ready md ops (listed.setIfInBounds i true) = [] := by
        cases hr : Region.ready md ops (listed.setIfInBounds i true) with
        | nil => rfl
        | cons j r =>
          exfalso
          have hj : j ∈ Region.ready md ops (listed.setIfInBounds i true) := by rw [hr]; simp
          obtain ⟨hjun, oj, hoj, _⟩ := mem_ready.1 hj
          have hjs := (Array.getElem?_eq_some_iff.1 hoj).1
          by_cases hji : j = i
          · subst hji
            rw [show (listed.setIfInBounds j true).getD j true = true by simp [hs, hjs]] at hjun
            cases hjun
          · rw [getD_set_ne true (Ne.symm hji)] at hjun
            have := under_spec hc 3 i o ho hall (hw j hjs hji)
            simp [hs, hjs] at this hjun
            rw [this] at hjun; cases hjun
      have hq : LastQ P ops Q i .normal a w := by
        unfold wpOp at h1
        rw [lastOps_eq, ho] at h1
        simp only [Option.map_some] at h1
        rw [if_pos (by rfl)] at h1
        rcases h1 with h1 | ⟨h1, _⟩
        · have h2 : wpAny P md (lastOps ops i) (LastQ P ops Q i) fuel (listed.setIfInBounds i true) a w := h1
          cases fuel with
          | zero => exact h2.2
          | succ f => exact h2.1 (by rw [lastOps_ready]; exact hempty)
        · exfalso
          have h2 := h1.1
          have h3 : ((execOp a.eval (nop o)).runT P w #[]).2 = #[] := rfl
          rw [h3] at h2
          simp at h2
      refine wpOp_mono (fun a' w' h2 => ?_) hq
      cases fuel with
      | zero => exact ⟨hempty, h2⟩
      | succ f => exact ⟨fun _ => h2, by rw [hempty]; simp⟩
    · have hun' : (listed.setIfInBounds i true).getD l true = false := by rw [getD_set_ne true hil]; exact hun
      obtain ⟨_, o', ho', hall'⟩ := mem_ready.1 hi
      have hc' := hc.set ho' hall'
      unfold wpOp at h1 ⊢
      rw [lastOps_ne hil] at h1
      cases ho : ops[i]? with
      | none => rw [ho] at h1; exact ih _ _ _ (by simpa using hs) hun' hc' h1
      | some o =>
        rw [ho] at h1
        simp only [] at h1 ⊢
        rw [wanted_last (hg i o ho)] at h1
        split
        · rename_i hwt
          rw [if_pos hwt] at h1
          rcases h1 with h1 | ⟨h1, h2⟩
          · exact Or.inl (wp_last (fun a' w' h => ih _ _ _ (by simpa using hs) hun' hc' h) h1)
          · exact Or.inr ⟨h1, letsOut_last h2⟩
        · rename_i hwt
          rw [if_neg hwt] at h1
          exact ih _ _ _ (by simpa using hs) hun' hc' h1

/-- **The beginning**: number l comes last. -/
theorem wp_region_lastH {id : Nat} {a : Act} {w : World} (l : Nat) (hm : P.follows .mixedOrders = true) (hB : lastB .any ops l = true) (hS : S w.drew)
    (h : S w.drew → wpAnyH P .any (lastOps ops l) (LastQ P ops Q l) S ops.size (Array.replicate ops.size false) a w.drew) : (Code.region id ops true).wp P Q a w := by
  refine wp_region_any hm (wpAny_last hB _ _ _ _ (by simp) ?_ (fun i o _ hk => ?_) (wpAny_of_held _ _ _ _ (h hS)))
  · have := (lastB_spec hB).1
    simp [this]
  · simp [Array.getElem?_replicate] at hk
    split at hk <;> cases hk
/-- **The end**: all others have come up; the last one's step. -/
theorem lastH_done {ops' : Array Oper} {l : Nat} {listed : Array Bool} {a : Act} {w : World} {o : Oper} {fuel : Nat} (hr : Region.ready md ops' listed = []) (ho : (ops.toList.drop l).head? = some o) (hw : Region.wanted o (yielded ops a.tmps) = true)
    (h : Oper.wp P o a w (fun a' w' => Q .normal a' w') Q) : wpAnyH P md ops' (LastQ P ops Q l) S fuel listed a w := by
  refine wpAnyH_done hr ?_ _
  show wpOp P ops Q l _ a w
  have := at_drop ho
  unfold wpOp
  rw [show ops[l]? = some o by simpa using this]
  simp only []
  rw [if_pos hw]
  exact Or.inl h
end Go.Tr
