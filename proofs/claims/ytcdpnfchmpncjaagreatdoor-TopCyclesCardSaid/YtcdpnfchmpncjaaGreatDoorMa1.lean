/-
  Parts of the proof, one behind the other: Base, MapI.
-/
import Derived.WalkKit
import Derived.WalkSpells
import Derived.Lib.Hide
import Derived.Deep.Draws
import Derived.Maps.RangeWalk
set_option linter.unusedSimpArgs false
set_option linter.unusedVariables false
namespace Go.Tr
open Go.RowKit
def SeqAt (w : World) (a : Option Addr) (vs : List Value) : Prop :=
  0 < vs.length → ∃ b off, a = some ⟨b, off, none⟩ ∧ ∀ j, j < vs.length → w.cell? ⟨b, off + j, none⟩ = some (vs.getD j undef)
def Drawn (w w' : World) : Prop := ∃ n, w' = w.drewN n
theorem Drawn.refl (w : World) : Drawn w w := ⟨0, rfl⟩
theorem Drawn.step {w w' : World} (h : Drawn w w') (n : Nat) : Drawn w (w'.drewN n) := by obtain ⟨m, rfl⟩ := h; exact ⟨m + n, World.drewN_drewN ..⟩
theorem Drawn.trans {a b c : World} (h : Drawn a b) (k : Drawn b c) : Drawn a c := by obtain ⟨n, rfl⟩ := k; exact h.step n
theorem Drawn.below {w w' : World} (h : Drawn w w') (B : Nat) : Below B w w' := by obtain ⟨n, rfl⟩ := h; exact ⟨rfl, rfl, rfl, Nat.le_refl _, fun _ _ => rfl⟩
theorem SeqAt.drawn {w w' : World} {a : Option Addr} {vs : List Value} (h : SeqAt w a vs) (hd : Drawn w w') : SeqAt w' a vs := by obtain ⟨n, rfl⟩ := hd; exact h
theorem quiet_same {P : Program} {f : FuncId} {args : Array Value} {w : World} {n : Nat} {v : Value} (h : Calls P f args (w.drewN n) fun e w' => e = .returned v ∧ w.drewN n = w') :
    Calls P f args (w.drewN n) fun e w'' => e = .returned v ∧ ∃ m, w'' = w.drewN m := h.mono fun _ _ ⟨he, hm⟩ => ⟨he, n, hm.symm⟩
theorem quiet_drawn {P : Program} {f : FuncId} {args : Array Value} {w : World} {n : Nat} {v : Value} (h : Calls P f args (w.drewN n) fun e w' => e = .returned v ∧ Drawn (w.drewN n) w') :
    Calls P f args (w.drewN n) fun e w'' => e = .returned v ∧ ∃ m, w'' = w.drewN m := h.mono fun _ _ ⟨he, m, hm⟩ => ⟨he, n + m, by rw [hm, World.drewN_drewN]⟩
def iv (z : Int) : Value := .int .i64 z
def ints (zs : List Int) : List Value := zs.map iv
theorem ints_length (zs : List Int) : (ints zs).length = zs.length := by simp [ints]
theorem ints_getD (zs : List Int) (j : Nat) (h : j < zs.length) : (ints zs).getD j undef = .int .i64 (zs[j]?.getD 0) := by
  simp [ints, List.getD, List.getElem?_eq_getElem h, iv]
theorem SeqAt.ints {w : World} {a : Option Addr} {zs : List Int} (h : SeqAt w a (ints zs)) {k : Nat} (hk : k < zs.length) :
    ∃ b off z, a = some ⟨b, off, none⟩ ∧ w.cell? ⟨b, off + k, none⟩ = some (.int .i64 z) ∧ Hid (zs[k]? = some z) := by
  obtain ⟨b, off, e, hc⟩ := h (by rw [ints_length]; omega)
  refine ⟨b, off, zs[k]?.getD 0, e, by rw [hc k (by rw [ints_length]; exact hk), ints_getD zs k hk], ?_⟩
  show zs[k]? = _
  simp [List.getElem?_eq_getElem hk]
theorem seqAt_block {w : World} {b : Nat} {cs : Array Value} {t : TypeId} {fr : Nat × Nat} (h : w.heap[b]? = some (.cells cs t fr)) : SeqAt w (some ⟨b, 0, none⟩) cs.toList := by
  intro _
  refine ⟨b, 0, rfl, fun j hj => ?_⟩
  rw [Nat.zero_add, cell_of_row w b j cs t fr h]
  have : j < cs.size := by simpa using hj
  simp [List.getD, this]
theorem ints_take (zs : List Int) (k : Nat) : ints (zs.take k) = (ints zs).take k := by simp [ints, List.map_take]
theorem SeqAt.take {w : World} {a : Option Addr} {vs : List Value} (h : SeqAt w a vs) (k : Nat) : SeqAt w a (vs.take k) := by
  intro h0
  have hl : (vs.take k).length = min k vs.length := List.length_take
  obtain ⟨b, off, e, hc⟩ := h (by omega)
  refine ⟨b, off, e, fun j hj => ?_⟩
  rw [hc j (by omega)]
  simp [List.getD, List.getElem?_take, show j < k by omega]
theorem SeqAt.takeI {w : World} {a : Option Addr} {zs : List Int} (h : SeqAt w a (Tr.ints zs)) (k : Nat) : SeqAt w a (Tr.ints (zs.take k)) := by rw [Tr.ints_take]; exact h.take k
def hasL (zs : List Int) (x : Int) : Bool := zs.contains x
theorem hasL_iff (zs : List Int) (x : Int) : hasL zs x = true ↔ x ∈ zs := by simp [hasL]
theorem hasL_iff' (zs : List Int) (x : Int) : hasL zs x = false ↔ x ∉ zs := by simp [hasL]
def sameL (xs ys : List Int) : Bool := xs == ys
theorem sameL_iff (xs ys : List Int) : sameL xs ys = true ↔ xs = ys := by simp [sameL]
theorem sameL_iff' (xs ys : List Int) : sameL xs ys = false ↔ xs ≠ ys := by simp [sameL]
theorem snocInd {α : Type} {p : List α → Prop} (h0 : p []) (hs : ∀ l x, p l → p (l ++ [x])) (l : List α) : p l := by
  have : ∀ r : List α, p r.reverse := fun r => by
    induction r with
    | nil => exact h0
    | cons x r ih => rw [List.reverse_cons]; exact hs _ _ ih
  have := this l.reverse
  rwa [List.reverse_reverse] at this
theorem take_snoc {α : Type} {l : List α} {k : Nat} {z : α} (h : l[k]? = some z) : l.take (k + 1) = l.take k ++ [z] := by
  obtain ⟨hk, e⟩ := List.getElem?_eq_some_iff.1 h
  rw [List.take_succ_eq_append_getElem hk, e]
theorem SeqAt.below {B : Nat} {w w' : World} {a : Option Addr} {vs : List Value} (h : SeqAt w a vs) (hb : Below B w w') (hB : w.heap.size ≤ B) : SeqAt w' a vs := by
  intro h0
  obtain ⟨b, off, e, hc⟩ := h h0
  refine ⟨b, off, e, fun j hj => ?_⟩
  rw [hb.cell (p := ⟨b, off + j, none⟩) (Nat.lt_of_lt_of_le (World.block_lt_of_cell? w _ (hc j hj)) hB)]
  exact hc j hj
end Go.Tr
namespace Go.Tr
open Go.RowKit Go.MapKept Go.ChangeMaps
section
variable {α β : Type}
def lookA (l : List (Int × α)) (x : Int) : Option α := (l.find? fun p => p.1 == x).map (·.2)
def hasA (l : List (Int × α)) (x : Int) : Bool := l.any fun p => p.1 == x
def putA (l : List (Int × α)) (x : Int) (v : α) : List (Int × α) := if hasA l x then l.map (fun p => if p.1 == x then (x, v) else p) else l ++ [(x, v)]
def delA (l : List (Int × α)) (x : Int) : List (Int × α) := l.filter fun p => !(p.1 == x)
def mapA (f : α → β) (l : List (Int × α)) : List (Int × β) := l.map fun p => (p.1, f p.2)
def keysA (l : List (Int × α)) : List Int := l.map (·.1)
theorem lookA_mapA (f : α → β) (l : List (Int × α)) (x : Int) : lookA (mapA f l) x = (lookA l x).map f := by
  induction l with
  | nil => rfl
  | cons p r ih => simp only [lookA, mapA, List.map_cons, List.find?_cons] at ih ⊢; cases hp : p.1 == x <;> simp_all
theorem hasA_mapA (f : α → β) (l : List (Int × α)) (x : Int) : hasA (mapA f l) x = hasA l x := by simp [hasA, mapA, List.any_map, Function.comp_def]
theorem putA_mapA (f : α → β) (l : List (Int × α)) (x : Int) (v : α) : putA (mapA f l) x (f v) = mapA f (putA l x v) := by
  unfold putA
  rw [hasA_mapA]
  split
  · simp only [mapA, List.map_map]; apply List.map_congr_left; intro p _; simp only [Function.comp_apply]; split <;> rfl
  · simp [mapA]
theorem delA_mapA (f : α → β) (l : List (Int × α)) (x : Int) : delA (mapA f l) x = mapA f (delA l x) := by simp [delA, mapA, List.filter_map, Function.comp_def]
theorem keysA_mapA (f : α → β) (l : List (Int × α)) : keysA (mapA f l) = keysA l := by simp [keysA, mapA]
theorem length_mapA (f : α → β) (l : List (Int × α)) : (mapA f l).length = l.length := by simp [mapA]
theorem lookA_none {l : List (Int × α)} {x : Int} : lookA l x = none ↔ ∀ p ∈ l, p.1 ≠ x := by simp [lookA]
theorem hasA_iff {l : List (Int × α)} {x : Int} : hasA l x = true ↔ x ∈ keysA l := by simp [hasA, keysA]
theorem hasA_look {l : List (Int × α)} {x : Int} : hasA l x = (lookA l x).isSome := by
  rw [Bool.eq_iff_iff]; simp [hasA, lookA]
theorem lookA_mem {l : List (Int × α)} {x : Int} {v : α} (h : lookA l x = some v) : (x, v) ∈ l := by
  simp only [lookA, Option.map_eq_some_iff] at h
  obtain ⟨p, hp, rfl⟩ := h
  have h1 := List.find?_some hp
  simp at h1
  rw [← h1]; exact List.mem_of_find?_eq_some hp
theorem lookA_of_mem {l : List (Int × α)} (hn : (keysA l).Nodup) {x : Int} {v : α} (h : (x, v) ∈ l) : lookA l x = some v := by
  induction l with
  | nil => simp at h
  | cons p r ih =>
    simp only [keysA, List.map_cons, List.nodup_cons] at hn
    simp only [lookA, List.find?_cons]
    rcases List.mem_cons.1 h with rfl | h
    · simp
    · have hne : (p.1 == x) = false := by
        simp; intro e; exact hn.1 (List.mem_map.2 ⟨_, h, e.symm⟩)
      rw [hne]; exact ih hn.2 h
theorem lookA_put_same (l : List (Int × α)) (x : Int) (v : α) : lookA (putA l x v) x = some v := by
  unfold putA
  split
  · rename_i h
    induction l with
    | nil => simp [hasA] at h
    | cons p r ih =>
      simp only [lookA, List.map_cons, List.find?_cons]
      cases hp : p.1 == x
      · simp only [hasA, List.any_cons, hp, Bool.false_or] at h
        simp only [Bool.false_eq_true, if_false, hp]; exact ih h
      · simp
  · rename_i h
    simp only [hasA, List.any_eq_true, beq_iff_eq, not_exists, not_and] at h
    simp only [lookA, List.find?_append]
    rw [List.find?_eq_none.2 (by simpa using h)]
    simp
theorem find_put_other (l : List (Int × α)) {x y : Int} (v : α) (hxy : (x == y) = false) (h : ¬ y = x) : (l.map (fun p => if p.1 == x then (x, v) else p)).find? (fun p => p.1 == y) = l.find? (fun p => p.1 == y) := by
  induction l with
  | nil => rfl
  | cons p r ih =>
    simp only [List.map_cons, List.find?_cons]
    rw [ih]
    cases hp : p.1 == x
    · rfl
    · have : (p.1 == y) = false := by simp at hp ⊢; rw [hp]; exact fun e => h e.symm
      simp only [if_true, hxy, this]
theorem lookA_put_other (l : List (Int × α)) {x y : Int} (v : α) (h : y ≠ x) : lookA (putA l x v) y = lookA l y := by
  unfold putA
  have hxy : (x == y) = false := by simp; exact fun e => h e.symm
  split
  · simp only [lookA]
    congr 1
    exact find_put_other l v hxy (by simpa using h)
  · simp [lookA, List.find?_append, hxy]
theorem keysA_put (l : List (Int × α)) (x : Int) (v : α) : keysA (putA l x v) = if hasA l x then keysA l else keysA l ++ [x] := by
  unfold putA
  split
  · simp only [keysA, List.map_map]; apply List.map_congr_left; intro p _; simp only [Function.comp_apply]; split
    · rename_i h; simp at h; exact h.symm
    · rfl
  · simp [keysA]
theorem keysA_put_nodup {l : List (Int × α)} (h : (keysA l).Nodup) (x : Int) (v : α) : (keysA (putA l x v)).Nodup := by
  rw [keysA_put]; split
  · exact h
  · rename_i hx
    rw [hasA_iff] at hx
    exact List.nodup_append.2 ⟨h, by simp, by intro a ha b hb; simp at hb; subst hb; intro e; subst e; exact hx ha⟩
theorem keysA_del (l : List (Int × α)) (x : Int) : keysA (delA l x) = (keysA l).filter (fun y => !(y == x)) := by simp [keysA, delA, List.filter_map, Function.comp_def]
theorem lookA_del_same (l : List (Int × α)) (x : Int) : lookA (delA l x) x = none := by rw [lookA_none]; simp [delA]
theorem lookA_del_other (l : List (Int × α)) {x y : Int} (h : y ≠ x) : lookA (delA l x) y = lookA l y := by
  simp only [lookA, delA]
  congr 1
  induction l with
  | nil => rfl
  | cons p r ih =>
    simp only [List.filter_cons, List.find?_cons]
    cases hp : p.1 == x
    · simp only [Bool.not_false, if_true, List.find?_cons]
      rw [ih]
    · have : (p.1 == y) = false := by simp at hp ⊢; rw [hp]; exact fun e => h e.symm
      simp [this, ih]
theorem set_eq_put {l : List (Int × α)} (hn : (keysA l).Nodup) {j : Nat} {x : Int} {u : α} (h : l[j]? = some (x, u)) (v : α) : l.set j (x, v) = putA l x v := by
  have hh : hasA l x = true := by rw [hasA_iff]; exact List.mem_map.2 ⟨_, List.mem_of_getElem? h, rfl⟩
  rw [putA, if_pos hh]
  apply List.ext_getElem?
  intro i
  rw [List.getElem?_set, List.getElem?_map]
  by_cases hij : j = i
  · subst hij
    have hj := (List.getElem?_eq_some_iff.1 h).1
    rw [if_pos rfl, if_pos hj, h]; simp
  · rw [if_neg hij]
    cases hi : l[i]? with
    | none => rfl
    | some p =>
      have : (p.1 == x) = false := by
        simp; intro e
        have h1 : (keysA l)[i]? = some x := by simp [keysA, hi, e]
        have h2 : (keysA l)[j]? = some x := by simp [keysA, h]
        have hi' := (List.getElem?_eq_some_iff.1 h1)
        have hj' := (List.getElem?_eq_some_iff.1 h2)
        have := (List.getElem_inj (h₀ := hi'.1) (h₁ := hj'.1) hn).1 (by rw [hi'.2, hj'.2])
        exact hij this.symm
      simp only [Option.map_some, this]; rfl
theorem erase_eq_del {l : List (Int × α)} (hn : (keysA l).Nodup) {j : Nat} {x : Int} {u : α} (h : l[j]? = some (x, u)) : l.eraseIdx j = delA l x := by
  induction l generalizing j with
  | nil => simp at h
  | cons p r ih =>
    simp only [keysA, List.map_cons, List.nodup_cons] at hn
    cases j with
    | zero =>
      simp at h; subst h
      simp only [List.eraseIdx_cons_zero, delA, List.filter_cons, beq_self_eq_true, Bool.not_true, Bool.false_eq_true, if_false]
      symm; apply List.filter_eq_self.2
      intro q hq; simp; intro e; exact hn.1 (List.mem_map.2 ⟨q, hq, e⟩)
    | succ j =>
      simp at h
      have hne : (p.1 == x) = false := by simp; intro e; exact hn.1 (List.mem_map.2 ⟨_, List.mem_of_getElem? h, by simp [e]⟩)
      simp only [List.eraseIdx_cons_succ, delA, List.filter_cons, hne, Bool.not_false, if_true]
      rw [ih hn.2 h]; rfl
end
def ent (p : Int × Value) : Value × Value := (.int .i64 p.1, p.2)
theorem ent_inj : Function.Injective ent := by
  intro p q h; cases p; cases q; simp [ent] at h; simp [h]
def kv (x : MapEntry) : Value × Value := (x.key, x.val)
def MapI (w : World) (b : Nat) (l : List (Int × Value)) : Prop := ∃ es clock, w.heap[b]? = some (.map es clock) ∧ Stamped es clock ∧ es.toList.map kv = l.map ent
theorem MapI.lt {w : World} {b : Nat} {l : List (Int × Value)} (h : MapI w b l) : b < w.heap.size := by
  obtain ⟨es, clock, hb, _⟩ := h; exact (Array.getElem?_eq_some_iff.1 hb).1
theorem MapI.kept {w w' : World} {b : Nat} {l : List (Int × Value)} (h : MapI w b l) (hb : w'.heap[b]? = w.heap[b]?) : MapI w' b l := by
  obtain ⟨es, clock, h1, r⟩ := h; exact ⟨es, clock, hb.trans h1, r⟩
theorem MapI.made (w : World) : MapI (w.alloc (.map #[] 0)) w.heap.size [] := ⟨#[], 0, heap_alloc_new w _, stamped_empty 0, rfl⟩
section
variable {P : Program} {t k e : TypeId} {w : World} {b : Nat} {l : List (Int × Value)} {es : Array MapEntry} {clock : Nat}
theorem kv_keys (hl : es.toList.map kv = l.map ent) : ∀ x ∈ es.toList, ∃ p ∈ l, x.key = .int .i64 p.1 ∧ x.val = p.2 := by
  intro x hx
  have : kv x ∈ l.map ent := by rw [← hl]; exact List.mem_map.2 ⟨x, hx, rfl⟩
  obtain ⟨p, hp, e⟩ := List.mem_map.1 this
  simp [kv, ent] at e
  exact ⟨p, hp, e.1.symm, e.2.symm⟩
theorem kv_at (hl : es.toList.map kv = l.map ent) {j : Nat} {x : MapEntry} (h : es.toList[j]? = some x) {y : Int} (hy : x.key = .int .i64 y) : l[j]? = some (y, x.val) := by
  have h1 : (es.toList.map kv)[j]? = some (kv x) := by rw [List.getElem?_map, h]; rfl
  rw [hl, List.getElem?_map, Option.map_eq_some_iff] at h1
  obtain ⟨p, hp, e⟩ := h1
  simp [kv, ent, hy] at e
  rw [hp]; cases p; simp_all
theorem kv_nodup (hs : Stamped es clock) (hl : es.toList.map kv = l.map ent) : (keysA l).Nodup := by
  have h3 := hs.2.2
  have e1 : es.toList.map (·.key) = l.map (fun p => Value.int .i64 p.1) := by
    have := congrArg (List.map Prod.fst) hl
    simpa [List.map_map, Function.comp_def, kv, ent] using this
  rw [e1] at h3
  have e2 : l.map (fun p => Value.int .i64 p.1) = (keysA l).map (fun x => Value.int .i64 x) := by simp [keysA]
  rw [e2] at h3
  exact (List.pairwise_map.1 h3).imp (fun h e => h (by rw [e]))
theorem MapI.nodup (h : MapI w b l) : (keysA l).Nodup := by obtain ⟨es, clock, _, h1, h2⟩ := h; exact kv_nodup h1 h2
theorem findI (hk : P.underlying k = some (.int .i64)) (w : World) (hs : Stamped es clock) (hl : es.toList.map kv = l.map ent) (x : Int) :
    ((Instr.findKey k (.int .i64 x) es.toList).run P w = .ok none w ∧ lookA l x = none ∧ ∀ y ∈ es.toList, y.key ≠ .int .i64 x) ∨
    ∃ j y, (Instr.findKey k (.int .i64 x) es.toList).run P w = .ok (some (j, y.val)) w ∧ es.toList[j]? = some y ∧ y.key = .int .i64 x ∧ l[j]? = some (x, y.val) ∧ lookA l x = some y.val := by
  have hks : ∀ y ∈ es.toList, IsKey (.int .i64) y.key := fun y hy => by
    obtain ⟨p, _, e, _⟩ := kv_keys hl y hy
    rw [e]; exact rfl
  rcases findNow_spec (k := .int .i64 x) (d := .int .i64) rfl es.toList 0 hks with ⟨h1, h2⟩ | ⟨j, e0, h1, h2, h3⟩
  · refine Or.inl ⟨run_findKey hk h1, lookA_none.2 fun p hp e => ?_, h2⟩
    have : ent p ∈ es.toList.map kv := by rw [hl]; exact List.mem_map.2 ⟨p, hp, rfl⟩
    obtain ⟨y, hy, ey⟩ := List.mem_map.1 this
    simp [kv, ent, e] at ey
    exact h2 y hy ey.1
  · have hlj := kv_at hl h2 h3
    exact Or.inr ⟨j, e0, by simpa using run_findKey (P := P) (w := w) hk h1, h2, h3, hlj, lookA_of_mem (kv_nodup hs hl) (List.mem_of_getElem? hlj)⟩
theorem checkI (hk : P.underlying k = some (.int .i64)) (w : World) (em : Bool) (x : Int) : (Instr.checkKey em 10000 k (.int .i64 x)).run P w = .ok () w := run_checkKey hk (d := .int .i64) (k := .int .i64 x) rfl em 9999
theorem MapI.look (h : MapI w b l) (ht : P.underlying t = some (.map k e)) (hk : P.underlying k = some (.int .i64)) {z : Value} (hz : ∀ w, (zeroValue e).run P w = .ok z w) (c : Bool) (x : Int) :
    (Instr.lookup t (.map (some b)) (.int .i64 x) c).run P w = .ok (if c then .tuple #[(lookA l x).getD z, .bool (hasA l x)] else (lookA l x).getD z) w := by
  obtain ⟨es, clock, hb, hs, hl⟩ := h
  rcases findI hk w hs hl x with ⟨h1, h2, _⟩ | ⟨j, y, h1, _, _, _, h2⟩
  · cases c <;> simp [Instr.lookup, run_underlying ht, MapKept.run_getObj_map hb, checkI hk, h1, hz, Result.andThen, h2, hasA_look]
  · cases c <;> simp [Instr.lookup, run_underlying ht, MapKept.run_getObj_map hb, checkI hk, h1, Result.andThen, h2, hasA_look]
def OnlyMap (b : Nat) (w w' : World) : Prop := ∃ es' clock', w' = setBlock w b (.map es' clock')
theorem set_of_modify {α : Type} (l : Array α) (j : Nat) (f : α → α) {x : α} (h : l.toList[j]? = some x) : (l.modify j f).toList = l.toList.set j (f x) := by
  apply List.ext_getElem?
  intro i
  rw [Array.getElem?_toList, Array.getElem?_modify, List.getElem?_set]
  by_cases hij : j = i
  · subst hij
    have hj := (List.getElem?_eq_some_iff.1 h).1
    rw [if_pos rfl, if_pos rfl, if_pos hj, ← Array.getElem?_toList, h]; rfl
  · rw [if_neg hij, if_neg hij, Array.getElem?_toList]
theorem MapI.put (h : MapI w b l) (ht : P.underlying t = some (.map k e)) (hk : P.underlying k = some (.int .i64)) (x : Int) (v : Value) :
    ∃ w', (Instr.mapUpdate t (.map (some b)) (.int .i64 x) v).run P w = .ok () w' ∧ MapI w' b (putA l x v) ∧ w.grownBy w' (some b) ∧ w'.heap.size = w.heap.size := by
  obtain ⟨es, clock, hb, hs, hl⟩ := h
  have G : ∀ es' clock', w.grownBy (setBlock w b (.map es' clock')) (some b) ∧ (setBlock w b (.map es' clock')).heap.size = w.heap.size := fun es' clock' =>
    ⟨⟨rfl, rfl, rfl, by simp [setBlock], fun i _ hi => heap_setBlock_other hb _ (fun e => hi (by rw [e]))⟩, by simp [setBlock]⟩
  rcases findI hk w hs hl x with ⟨h1, h2, h3⟩ | ⟨j, y, h1, hj, hy, hlj, h2⟩
  · refine ⟨setBlock w b (.map (es.push ⟨.int .i64 x, v, clock⟩) (clock + 1)), ?_, ⟨_, _, heap_setBlock_same hb _, stamped_push hs h3, ?_⟩, (G _ _).1, (G _ _).2⟩
    · simp [Instr.mapUpdate, run_underlying ht, MapKept.run_getObj_map hb, checkI hk, h1, MapKept.run_setObj_map _ hb, Result.andThen, setBlock]
    · have hh : hasA l x = false := by rw [hasA_look, h2]; rfl
      rw [putA, hh]
      simp [hl, kv, ent]
  · have hj' : es[j]? = some y := by rw [← Array.getElem?_toList]; exact hj
    refine ⟨setBlock w b (.map (es.modify j fun e => { e with key := .int .i64 x, val := v }) clock), ?_, ⟨_, _, heap_setBlock_same hb _, stamped_modify hs _ _ (fun _ _ => rfl) (fun e _ he => ?_), ?_⟩, (G _ _).1, (G _ _).2⟩
    · simp [Instr.mapUpdate, run_underlying ht, MapKept.run_getObj_map hb, checkI hk, h1, hj', hy, run_keyThatStays (d := .int .i64) (k := .int .i64 x) rfl, MapKept.run_setObj_map _ hb, Result.andThen, setBlock]
    · rw [hj'] at he; cases he; exact hy.symm
    · rw [set_of_modify es j _ hj, List.map_set, hl, ← set_eq_put (kv_nodup hs hl) hlj, List.map_set]
      rfl
theorem MapI.del (h : MapI w b l) (ht : P.underlying t = some (.map k e)) (hk : P.underlying k = some (.int .i64)) (ty : TypeId) (x : Int) :
    ∃ w', (Builtin.delete_ #[t, k] ty #[.map (some b), .int .i64 x]).run P w = .ok (.tuple #[]) w' ∧ MapI w' b (delA l x) ∧ w.grownBy w' (some b) ∧ w'.heap.size = w.heap.size := by
  obtain ⟨es, clock, hb, hs, hl⟩ := h
  have G : ∀ es' clock', w.grownBy (setBlock w b (.map es' clock')) (some b) ∧ (setBlock w b (.map es' clock')).heap.size = w.heap.size := fun es' clock' =>
    ⟨⟨rfl, rfl, rfl, by simp [setBlock], fun i _ hi => heap_setBlock_other hb _ (fun e => hi (by rw [e]))⟩, by simp [setBlock]⟩
  rcases findI hk w hs hl x with ⟨h1, h2, h3⟩ | ⟨j, y, h1, hj, hy, hlj, h2⟩
  · refine ⟨setBlock w b (.map es clock), ?_, ⟨_, _, heap_setBlock_same hb _, hs, ?_⟩, (G _ _).1, (G _ _).2⟩
    · simp [Builtin.delete_, run_underlying ht, MapKept.run_getObj_map hb, checkI hk, h1, MapKept.run_setObj_map _ hb, Result.andThen, setBlock]
    · rw [hl]; congr 1
      symm; apply List.filter_eq_self.2
      intro p hp; simpa using lookA_none.1 h2 p hp
  · have hjs : j < es.size := by have := (List.getElem?_eq_some_iff.1 hj).1; simpa using this
    refine ⟨setBlock w b (.map (es.eraseIdxIfInBounds j) clock), ?_, ⟨_, _, heap_setBlock_same hb _, stamped_erase hs j, ?_⟩, (G _ _).1, (G _ _).2⟩
    · simp [Builtin.delete_, run_underlying ht, MapKept.run_getObj_map hb, checkI hk, h1, MapKept.run_setObj_map _ hb, Result.andThen, setBlock]
    · have : (es.eraseIdxIfInBounds j).toList = es.toList.eraseIdx j := by unfold Array.eraseIdxIfInBounds; rw [dif_pos hjs]; simp
      rw [this, ← erase_eq_del (kv_nodup hs hl) hlj, map_eraseIdx, hl, map_eraseIdx]
theorem MapI.len (h : MapI w b l) (ht : P.underlying t = some (.map k e)) (ty : TypeId) : (Builtin.len_ #[t] ty #[.map (some b)]).run P w = .ok (.int .i64 l.length) w := by
  obtain ⟨es, clock, hb, hs, hl⟩ := h
  have : es.size = l.length := by have := congrArg List.length hl; simpa using this
  simp [Builtin.len_, run_underlying ht, MapKept.run_getObj_map hb, goInt, Result.andThen, this]
def RangeI (w : World) (b r : Nat) (l left : List (Int × Value)) : Prop :=
  ∃ es clock since seen c0, w.heap[b]? = some (.map es clock) ∧ Stamped es clock ∧ es.toList.map kv = l.map ent ∧ w.heap[r]? = some (.mapIter (some b) since seen c0) ∧
    (∀ x ∈ es.toList, x.born < since) ∧ since ≤ c0 ∧ since ≤ clock ∧ (leftOf es seen).toList.map kv = left.map ent
theorem RangeI.map {r : Nat} {left : List (Int × Value)} (h : RangeI w b r l left) : MapI w b l := by
  obtain ⟨es, clock, _, _, _, h1, h2, h3, _⟩ := h; exact ⟨es, clock, h1, h2, h3⟩
theorem RangeI.ltr {r : Nat} {left : List (Int × Value)} (h : RangeI w b r l left) : r < w.heap.size := by
  obtain ⟨es, clock, _, _, _, _, _, _, h4, _⟩ := h; exact (Array.getElem?_eq_some_iff.1 h4).1
theorem RangeI.kept {w' : World} {r : Nat} {left : List (Int × Value)} (h : RangeI w b r l left) (hb : w'.heap[b]? = w.heap[b]?) (hr : w'.heap[r]? = w.heap[r]?) : RangeI w' b r l left := by
  obtain ⟨es, clock, since, seen, c0, h1, h2, h3, h4, rest⟩ := h
  exact ⟨es, clock, since, seen, c0, hb.trans h1, h2, h3, hr.trans h4, rest⟩
theorem MapI.range (h : MapI w b l) (ht : P.underlying t = some (.map k e)) :
    ∃ w', (Instr.range t (.map (some b))).run P w = .ok (.pointer (some ⟨w.heap.size, 0, none⟩)) w' ∧ RangeI w' b w.heap.size l l ∧ w.grownBy w' none ∧ w'.heap.size = w.heap.size + 1 := by
  have hlt := h.lt
  obtain ⟨es, clock, hb, hs, hl⟩ := h
  refine ⟨_, run_range_map w t k e b es clock ht hb, ⟨es, clock, clock, #[], clock, (heap_alloc_old w _ hlt).trans hb, hs, hl, heap_alloc_new w _, hs.1, Nat.le_refl _, Nat.le_refl _, ?_⟩, World.grownBy_alloc w _ none, by simp⟩
  have : leftOf es #[] = es := by simp [leftOf]
  rw [this]; exact hl
theorem RangeI.next {r : Nat} {left : List (Int × Value)} (h : RangeI w b r l left) (hne : r ≠ b) (ty : TypeId) :
    (left = [] ∧ (Instr.next (.pointer (some ⟨r, 0, none⟩)) false ty).run P w = .ok (.tuple #[.bool false]) w) ∨
    ∃ x v w', (x, v) ∈ left ∧ (Instr.next (.pointer (some ⟨r, 0, none⟩)) false ty).run P w = .ok (.tuple #[.bool true, .int .i64 x, v]) w' ∧ RangeI w' b r l (delA left x) ∧ w.grownBy w' (some r) ∧ w'.heap.size = w.heap.size ∧
      (Instr.entry (.pointer (some ⟨r, 0, none⟩))).run P w' = .ok (.tuple #[.int .i64 x, v]) w' := by
  obtain ⟨es, clock, since, seen, c0, hb, hs, hl, hr, hold, hsc, hck, hlf⟩ := h
  rcases run_next_at (P := P) w ty r b since c0 seen es clock hr hb hold hsc with ⟨h0, hrun⟩ | ⟨y, he, w1, hal, hrun⟩
  · refine Or.inl ⟨?_, hrun⟩
    have := congrArg List.length hlf
    simp at this
    exact List.eq_nil_of_length_eq_zero (by omega)
  · obtain ⟨hem, hes⟩ := mem_left he
    obtain ⟨p, hp, hkey, hval⟩ := kv_keys hl y hem
    have hr1 : w1.heap[r]? = some (.mapIter (some b) since seen c0) := by rcases hal with rfl | rfl <;> exact hr
    have hb1 : w1.heap[b]? = some (.map es clock) := by rcases hal with rfl | rfl <;> exact hb
    have hset := heap_set (o' := .mapIter (some b) since (seen.push y.born) clock) hr1
    have hb' : (setBlock w1 r (.mapIter (some b) since (seen.push y.born) clock)).heap[b]? = some (.map es clock) := (hset.2 b (fun e1 => hne e1.symm)).trans hb1
    have hst := (stamped_iff es clock).1 hs
    have hpl : (p.1, y.val) ∈ left := by
      have : kv y ∈ left.map ent := by rw [← hlf]; exact List.mem_map.2 ⟨y, he, rfl⟩
      obtain ⟨q, hq, eq⟩ := List.mem_map.1 this
      simp [kv, ent, hkey] at eq
      rw [← eq.1, ← eq.2]; exact hq
    refine Or.inr ⟨p.1, y.val, _, hpl, by rw [← hkey]; exact hrun, ⟨es, clock, since, seen.push y.born, clock, hb', hs, hl, hset.1, hold, hck, hck, ?_⟩, ?_, ?_, ?_⟩
    · have e1 : (leftOf es (seen.push y.born)).toList = (leftOf es seen).toList.filter (fun z => !(z.born == y.born)) := by
        simp only [leftOf, Array.toList_filter, List.filter_filter]
        apply List.filter_congr
        intro z _
        rw [contains_push]
        cases seen.contains z.born <;> cases (z.born == y.born) <;> rfl
      have e2 : (leftOf es seen).toList.filter (fun z => !(z.born == y.born)) = (leftOf es seen).toList.filter (fun z => match z.key with | .int _ q => !(q == p.1) | _ => true) := by
        apply List.filter_congr
        intro z hz
        have hz1 := (mem_left hz).1
        obtain ⟨q, _, hq1, _⟩ := kv_keys hl z hz1
        rw [hq1]
        by_cases hbb : z.born = y.born
        · obtain rfl := born_inj hst.2.1 hz1 hem hbb
          rw [hkey] at hq1; simp at hq1; simp [hq1]
        · have : ¬ q.1 = p.1 := fun e2 => hbb (congrArg MapEntry.born (entry_eq_of_key hst.2.2 hz1 hem (by rw [hq1, hkey, e2])))
          have h1 : (z.born == y.born) = false := by simpa using hbb
          have h2 : (q.1 == p.1) = false := by simpa using this
          simp only [h1, h2]
      rw [e1, e2]
      have e3 : ∀ (L : List MapEntry) (M : List (Int × Value)), L.map kv = M.map ent → (L.filter (fun z => match z.key with | .int _ q => !(q == p.1) | _ => true)).map kv = (delA M p.1).map ent := by
        intro L
        induction L with
        | nil => intro M hM; cases M with | nil => rfl | cons _ _ => simp at hM
        | cons z L ih =>
          intro M hM
          cases M with
          | nil => simp at hM
          | cons q M =>
            simp only [List.map_cons, List.cons.injEq] at hM
            have hk0 : z.key = .int .i64 q.1 := by have := congrArg Prod.fst hM.1; simpa [kv, ent] using this
            simp only [List.filter_cons, hk0, delA]
            cases hq : (q.1 == p.1)
            · simp only [Bool.not_false, if_true, List.map_cons, List.cons.injEq]; exact ⟨hM.1, ih M hM.2⟩
            · simp only [Bool.not_true, Bool.false_eq_true, if_false]; exact ih M hM.2
      exact e3 _ _ hlf
    · rcases hal with rfl | rfl <;> exact ⟨rfl, rfl, rfl, by simp [setBlock], fun i _ hi => hset.2 i (fun e1 => hi (by rw [e1]))⟩
    · rcases hal with rfl | rfl <;> simp [setBlock]
    · rw [← hkey]; exact run_entry_at _ r b since seen es clock y hset.1 hb' hem hst.2.1
end
section
variable {P : Program} (w : World) {ops : Array Oper} {rest : List Oper} {o : Oper} {a : Act} {Q : Exit → Act → World → Prop}
theorem wpList_lookI (hg : o.guard = none) (m x : Operand) (t : TypeId) (hop : o.op = Op.lookup t m x false) (k e : TypeId) (ht : P.underlying t = some (.map k e)) (hk : P.underlying k = some (.int .i64))
    (z : Value) (hz : ∀ w, (zeroValue e).run P w = .ok z w) (b : Nat) (l : List (Int × Value)) (hm : a.eval m = .map (some b)) (h : MapI w b l) (y : Int) (hx : a.eval x = .int .i64 y)
    (hK : wpList P ops Q rest (a.put o.dst ((lookA l y).getD z)) w) : wpList P ops Q (o :: rest) a w := by
  refine wpList_plain hg fun K' hK' => ?_
  unfold Oper.wp
  simp [execOp, hop, hm, hx, h.look ht hk hz false y, Result.andThen]
  exact hK' _ _ hK
theorem wpList_lookI_ok (hg : o.guard = none) (m x : Operand) (t : TypeId) (hop : o.op = Op.lookup t m x true) (k e : TypeId) (ht : P.underlying t = some (.map k e)) (hk : P.underlying k = some (.int .i64))
    (z : Value) (hz : ∀ w, (zeroValue e).run P w = .ok z w) (b : Nat) (l : List (Int × Value)) (hm : a.eval m = .map (some b)) (h : MapI w b l) (y : Int) (hx : a.eval x = .int .i64 y)
    (hK : wpList P ops Q rest (a.put o.dst (.tuple #[(lookA l y).getD z, .bool (hasA l y)])) w) : wpList P ops Q (o :: rest) a w := by
  refine wpList_plain hg fun K' hK' => ?_
  unfold Oper.wp
  simp [execOp, hop, hm, hx, h.look ht hk hz true y, Result.andThen]
  exact hK' _ _ hK
theorem wpList_putI (hg : o.guard = none) (m x v : Operand) (t : TypeId) (hop : o.op = Op.mapUpdate t m x v) (k e : TypeId) (ht : P.underlying t = some (.map k e)) (hk : P.underlying k = some (.int .i64))
    (b : Nat) (l : List (Int × Value)) (hm : a.eval m = .map (some b)) (h : MapI w b l) (y : Int) (hx : a.eval x = .int .i64 y) (u : Value) (hv : a.eval v = u)
    (hK : ∀ w', MapI w' b (putA l y u) → w.grownBy w' (some b) → w'.heap.size = w.heap.size → wpList P ops Q rest (a.put o.dst undef) w') : wpList P ops Q (o :: rest) a w := by
  refine wpList_plain hg fun K' hK' => ?_
  obtain ⟨w', hrun, r1, r2, r3⟩ := h.put ht hk y u
  unfold Oper.wp
  simp [execOp, hop, hm, hx, hv, hrun, Result.andThen]
  exact hK' _ _ (hK w' r1 r2 r3)
theorem wpList_delI (hg : o.guard = none) (m x : Operand) (t k : TypeId) (hop : o.op = Op.call { callee := Callee.builtin Builtin.delete, args := #[m, x], argTypes := #[t, k] }) (e : TypeId) (ht : P.underlying t = some (.map k e)) (hk : P.underlying k = some (.int .i64))
    (b : Nat) (l : List (Int × Value)) (hm : a.eval m = .map (some b)) (h : MapI w b l) (y : Int) (hx : a.eval x = .int .i64 y)
    (hK : ∀ w', MapI w' b (delA l y) → w.grownBy w' (some b) → w'.heap.size = w.heap.size → wpList P ops Q rest (a.put o.dst (.tuple #[])) w') : wpList P ops Q (o :: rest) a w := by
  refine wpList_plain hg fun K' hK' => ?_
  obtain ⟨w', hrun, r1, r2, r3⟩ := h.del ht hk o.type y
  unfold Oper.wp
  simp [execOp, hop, resolve, invoke, builtin, hm, hx, hrun, Result.andThen]
  exact hK' _ _ (hK w' r1 r2 r3)
theorem wpList_lenI (hg : o.guard = none) (m : Operand) (t : TypeId) (hop : o.op = Op.call { callee := Callee.builtin Builtin.len, args := #[m], argTypes := #[t] }) (k e : TypeId) (ht : P.underlying t = some (.map k e))
    (b : Nat) (l : List (Int × Value)) (hm : a.eval m = .map (some b)) (h : MapI w b l)
    (hK : wpList P ops Q rest (a.put o.dst (.int .i64 l.length)) w) : wpList P ops Q (o :: rest) a w := by
  refine wpList_plain hg fun K' hK' => ?_
  unfold Oper.wp
  simp [execOp, hop, resolve, invoke, builtin, hm, h.len ht o.type, Result.andThen]
  exact hK' _ _ hK
theorem wpList_rangeI (hg : o.guard = none) (m : Operand) (t : TypeId) (hop : o.op = Op.range t m) (k e : TypeId) (ht : P.underlying t = some (.map k e))
    (b : Nat) (l : List (Int × Value)) (hm : a.eval m = .map (some b)) (h : MapI w b l)
    (hK : ∀ w', RangeI w' b w.heap.size l l → w.grownBy w' none → w'.heap.size = w.heap.size + 1 → wpList P ops Q rest (a.put o.dst (.pointer (some ⟨w.heap.size, 0, none⟩))) w') : wpList P ops Q (o :: rest) a w := by
  refine wpList_plain hg fun K' hK' => ?_
  obtain ⟨w', hrun, r1, r2, r3⟩ := h.range ht
  unfold Oper.wp
  simp [execOp, hop, hm, hrun, Result.andThen]
  exact hK' _ _ (hK w' r1 r2 r3)
theorem wpList_nextI (hg : o.guard = none) (it : Operand) (hop : o.op = Op.next it false) (b r : Nat) (l left : List (Int × Value)) (hit : a.eval it = .pointer (some ⟨r, 0, none⟩)) (h : RangeI w b r l left) (hne : r ≠ b)
    (hDone : left = [] → wpList P ops Q rest (a.put o.dst (.tuple #[.bool false])) w)
    (hMore : ∀ (x : Int) (v : Value) (w' : World), (x, v) ∈ left → RangeI w' b r l (delA left x) → w.grownBy w' (some r) → w'.heap.size = w.heap.size → (Instr.entry (.pointer (some ⟨r, 0, none⟩))).run P w' = .ok (.tuple #[.int .i64 x, v]) w' →
      wpList P ops Q rest (a.put o.dst (.tuple #[.bool true, .int .i64 x, v])) w') : wpList P ops Q (o :: rest) a w := by
  refine wpList_plain hg fun K' hK' => ?_
  unfold Oper.wp
  rcases h.next (P := P) hne o.type with ⟨h0, hrun⟩ | ⟨x, v, w', hx, hrun, r1, r2, r3, hen⟩
  · simp [execOp, hop, hit, hrun, Result.andThen]
    exact hK' _ _ (hDone h0)
  · simp [execOp, hop, hit, hrun, Result.andThen]
    exact hK' _ _ (hMore x v w' hx r1 r2 r3 hen)
end
section
variable {P : Program} {w : World} {o : Oper} {a : Act} {K : Act → World → Prop} {Q : Exit → Act → World → Prop}
theorem wpO_lookI (m x : Operand) (t : TypeId) (hop : o.op = Op.lookup t m x false) (k e : TypeId) (ht : P.underlying t = some (.map k e)) (hk : P.underlying k = some (.int .i64))
    (z : Value) (hz : ∀ w, (zeroValue e).run P w = .ok z w) (b : Nat) (l : List (Int × Value)) (hm : a.eval m = .map (some b)) (h : MapI w b l) (y : Int) (hx : a.eval x = .int .i64 y)
    (hK : K (a.put o.dst ((lookA l y).getD z)) w) : Oper.wp P o a w K Q := by
  unfold Oper.wp
  simp [execOp, hop, hm, hx, h.look ht hk hz false y, Result.andThen]
  exact hK
theorem wpO_putI (m x v : Operand) (t : TypeId) (hop : o.op = Op.mapUpdate t m x v) (k e : TypeId) (ht : P.underlying t = some (.map k e)) (hk : P.underlying k = some (.int .i64))
    (b : Nat) (l : List (Int × Value)) (hm : a.eval m = .map (some b)) (h : MapI w b l) (y : Int) (hx : a.eval x = .int .i64 y) (u : Value) (hv : a.eval v = u)
    (hK : ∀ w', MapI w' b (putA l y u) → w.grownBy w' (some b) → w'.heap.size = w.heap.size → K (a.put o.dst undef) w') : Oper.wp P o a w K Q := by
  obtain ⟨w', hrun, r1, r2, r3⟩ := h.put ht hk y u
  unfold Oper.wp
  simp [execOp, hop, hm, hx, hv, hrun, Result.andThen]
  exact hK w' r1 r2 r3
end
end Go.Tr
