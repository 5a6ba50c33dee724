/-
  Parts of the proof, one behind the other: Base, MapI, OrdPlain, OrderParts, Foot, KComp, Region, GrayDef, KBits, ShelfK, KFind, KRun, KStore, KStore2, KStore3, KStore4, KBump, SortK, KBump2, KBump3, KBump4, KBump5, KBump6, KBump7.
-/
import Derived.WalkKit
import Derived.WalkSpells
import Derived.Lib.Hide
import Derived.Deep.Draws
import Derived.Maps.RangeWalk
import Derived.Test.YtcdpnfchmpncjaaGreatDoorChecked
import Derived.Maps.AppendAt
import Derived.ArgAppend
import Derived.Deep.RegionHeld3
import Derived.Deep.AppendLies
import Derived.StillTailTactics
import Derived.Laws.BitsAllLaws
import Derived.Laws.ShiftsVarLaws
import Derived.IntWalk
import Derived.Shelf.Sort.Plain
import Derived.Shelf.Slices.In.SortNone
import Derived.Shelf.Slices.CompactI
import Derived.Shelf.Slices.SearchI
import Derived.Shelf.Slices.Empties
import Derived.Shelf.Slices.Clone
import Derived.Shelf.Slices.Delete
import Derived.Shelf.Spec.SlicesInsert
import Derived.Shelf.Spec.SlicesInsertGrow
import Derived.Shelf.Spec.TrailingZeros
import Derived.Shelf.Slices.Turned
import Derived.Shelf.Sort.So_math_bits_Len64In
import Derived.Lib.TrailingZeros
import Derived.WalkLawsBesides
import Derived.Deep.QuietTactic
import Derived.BigQuiet
import Derived.Lib.SliceRun
import Derived.Laws.ResultCell
import Derived.Laws.Rows
import Derived.Sort.OwnSortedInts
import Derived.LaidEqlPtr
set_option linter.unusedSimpArgs false
set_option linter.unusedVariables false
namespace Go.Tr
theorem nz : (∀ (a : Act) (d : Tmp) (v : Value), a.put (some d) v = { a with tmps := a.tmps.setIfInBounds d v }) ∧ (∀ (a : Act) (v : Value), a.put none v = a) ∧ (∀ (l : List Value) (i : Nat) (a : Value), l.toArray.setIfInBounds i a = (l.set i a).toArray) ∧ (∀ (l : List Value) (x a : Value), (x :: l).set 0 a = a :: l) ∧ ∀ (l : List Value) (x a : Value) (i : Nat), (x :: l).set (i + 1) a = x :: l.set i a :=
  ⟨fun _ _ _ => rfl, fun _ _ => rfl, fun _ _ _ => List.setIfInBounds_toArray .., fun _ _ _ => rfl, fun _ _ _ _ => rfl⟩
end Go.Tr
namespace Go.Tr
open Go.RowKit
def SeqAt (w : World) (a : Option Addr) (vs : List Value) : Prop :=
  0 < vs.length → ∃ b off, a = some ⟨b, off, none⟩ ∧ ∀ j, j < vs.length → w.cell? ⟨b, off + j, none⟩ = some (vs.getD j undef)
def Drawn (w w' : World) : Prop := ∃ n, w' = w.drewN n
theorem Drawn.refl (w : World) : Drawn w w := ⟨0, rfl⟩
theorem Drawn.step {w w' : World} (h : Drawn w w') (n : Nat) : Drawn w (w'.drewN n) := by obtain ⟨m, rfl⟩ := h; exact ⟨m + n, World.drewN_drewN ..⟩
theorem Drawn.trans {a b c : World} (h : Drawn a b) (k : Drawn b c) : Drawn a c := by obtain ⟨n, rfl⟩ := k; exact h.step n
theorem Drawn.below {w w' : World} (h : Drawn w w') (B : Nat) : Below B w w' := by obtain ⟨n, rfl⟩ := h; exact ⟨rfl, rfl, rfl, Nat.le_refl _, fun _ _ => rfl⟩
theorem SeqAt.drawn {w w' : World} {a : Option Addr} {vs : List Value} (h : SeqAt w a vs) (hd : Drawn w w') : SeqAt w' a vs := by obtain ⟨n, rfl⟩ := hd; exact h
theorem quiet_same {P : Program} {f : FuncId} {args : Array Value} {w : World} {n : Nat} {v : Value} (h : Calls P f args (w.drewN n) fun e w' => e = .returned v ∧ w.drewN n = w') :
    Calls P f args (w.drewN n) fun e w'' => e = .returned v ∧ ∃ m, w'' = w.drewN m := h.mono fun _ _ ⟨he, hm⟩ => ⟨he, n, hm.symm⟩
def iv (z : Int) : Value := .int .i64 z
def ints (zs : List Int) : List Value := zs.map iv
theorem ints_length (zs : List Int) : (ints zs).length = zs.length := by simp [ints]
theorem ints_getD (zs : List Int) (j : Nat) (h : j < zs.length) : (ints zs).getD j undef = .int .i64 (zs[j]?.getD 0) := by
  simp [ints, List.getD, List.getElem?_eq_getElem h, iv]
theorem SeqAt.ints {w : World} {a : Option Addr} {zs : List Int} (h : SeqAt w a (ints zs)) {k : Nat} (hk : k < zs.length) :
    ∃ b off z, a = some ⟨b, off, none⟩ ∧ w.cell? ⟨b, off + k, none⟩ = some (.int .i64 z) ∧ Hid (zs[k]? = some z) := by
  obtain ⟨b, off, e, hc⟩ := h (by rw [ints_length]; omega)
  refine ⟨b, off, zs[k]?.getD 0, e, by rw [hc k (by rw [ints_length]; exact hk), ints_getD zs k hk], ?_⟩
  show zs[k]? = _
  simp [List.getElem?_eq_getElem hk]
theorem SeqAt.take {w : World} {a : Option Addr} {vs : List Value} (h : SeqAt w a vs) (k : Nat) : SeqAt w a (vs.take k) := by
  intro h0
  have hl : (vs.take k).length = min k vs.length := List.length_take
  obtain ⟨b, off, e, hc⟩ := h (by omega)
  refine ⟨b, off, e, fun j hj => ?_⟩
  rw [hc j (by omega)]
  simp [List.getD, List.getElem?_take, show j < k by omega]
def hasL (zs : List Int) (x : Int) : Bool := zs.contains x
theorem hasL_iff (zs : List Int) (x : Int) : hasL zs x = true ↔ x ∈ zs := by simp [hasL]
theorem take_snoc {α : Type} {l : List α} {k : Nat} {z : α} (h : l[k]? = some z) : l.take (k + 1) = l.take k ++ [z] := by
  obtain ⟨hk, e⟩ := List.getElem?_eq_some_iff.1 h
  rw [List.take_succ_eq_append_getElem hk, e]
theorem SeqAt.below {B : Nat} {w w' : World} {a : Option Addr} {vs : List Value} (h : SeqAt w a vs) (hb : Below B w w') (hB : w.heap.size ≤ B) : SeqAt w' a vs := by
  intro h0
  obtain ⟨b, off, e, hc⟩ := h h0
  refine ⟨b, off, e, fun j hj => ?_⟩
  rw [hb.cell (p := ⟨b, off + j, none⟩) (Nat.lt_of_lt_of_le (World.block_lt_of_cell? w _ (hc j hj)) hB)]
  exact hc j hj
end Go.Tr

namespace Go.Tr
open Go.RowKit Go.MapKept Go.ChangeMaps
section
variable {α β : Type}
def lookA (l : List (Int × α)) (x : Int) : Option α := (l.find? fun p => p.1 == x).map (·.2)
def hasA (l : List (Int × α)) (x : Int) : Bool := l.any fun p => p.1 == x
def putA (l : List (Int × α)) (x : Int) (v : α) : List (Int × α) := if hasA l x then l.map (fun p => if p.1 == x then (x, v) else p) else l ++ [(x, v)]
def delA (l : List (Int × α)) (x : Int) : List (Int × α) := l.filter fun p => !(p.1 == x)
def mapA (f : α → β) (l : List (Int × α)) : List (Int × β) := l.map fun p => (p.1, f p.2)
def keysA (l : List (Int × α)) : List Int := l.map (·.1)
theorem lookA_mapA (f : α → β) (l : List (Int × α)) (x : Int) : lookA (mapA f l) x = (lookA l x).map f := by
  induction l with
  | nil => rfl
  | cons p r ih => simp only [lookA, mapA, List.map_cons, List.find?_cons] at ih ⊢; cases hp : p.1 == x <;> simp_all
theorem hasA_mapA (f : α → β) (l : List (Int × α)) (x : Int) : hasA (mapA f l) x = hasA l x := by simp [hasA, mapA, List.any_map, Function.comp_def]
theorem putA_mapA (f : α → β) (l : List (Int × α)) (x : Int) (v : α) : putA (mapA f l) x (f v) = mapA f (putA l x v) := by
  unfold putA
  rw [hasA_mapA]
  split
  · simp only [mapA, List.map_map]; apply List.map_congr_left; intro p _; simp only [Function.comp_apply]; split <;> rfl
  · simp [mapA]
theorem keysA_mapA (f : α → β) (l : List (Int × α)) : keysA (mapA f l) = keysA l := by simp [keysA, mapA]
theorem length_mapA (f : α → β) (l : List (Int × α)) : (mapA f l).length = l.length := by simp [mapA]
theorem lookA_none {l : List (Int × α)} {x : Int} : lookA l x = none ↔ ∀ p ∈ l, p.1 ≠ x := by simp [lookA]
theorem hasA_iff {l : List (Int × α)} {x : Int} : hasA l x = true ↔ x ∈ keysA l := by simp [hasA, keysA]
theorem hasA_look {l : List (Int × α)} {x : Int} : hasA l x = (lookA l x).isSome := by
  rw [Bool.eq_iff_iff]; simp [hasA, lookA]
theorem lookA_mem {l : List (Int × α)} {x : Int} {v : α} (h : lookA l x = some v) : (x, v) ∈ l := by
  simp only [lookA, Option.map_eq_some_iff] at h
  obtain ⟨p, hp, rfl⟩ := h
  have h1 := List.find?_some hp
  simp at h1
  rw [← h1]; exact List.mem_of_find?_eq_some hp
theorem lookA_of_mem {l : List (Int × α)} (hn : (keysA l).Nodup) {x : Int} {v : α} (h : (x, v) ∈ l) : lookA l x = some v := by
  induction l with
  | nil => simp at h
  | cons p r ih =>
    simp only [keysA, List.map_cons, List.nodup_cons] at hn
    simp only [lookA, List.find?_cons]
    rcases List.mem_cons.1 h with rfl | h
    · simp
    · have hne : (p.1 == x) = false := by
        simp; intro e; exact hn.1 (List.mem_map.2 ⟨_, h, e.symm⟩)
      rw [hne]; exact ih hn.2 h
theorem lookA_put_same (l : List (Int × α)) (x : Int) (v : α) : lookA (putA l x v) x = some v := by
  unfold putA
  split
  · rename_i h
    induction l with
    | nil => simp [hasA] at h
    | cons p r ih =>
      simp only [lookA, List.map_cons, List.find?_cons]
      cases hp : p.1 == x
      · simp only [hasA, List.any_cons, hp, Bool.false_or] at h
        simp only [Bool.false_eq_true, if_false, hp]; exact ih h
      · simp
  · rename_i h
    simp only [hasA, List.any_eq_true, beq_iff_eq, not_exists, not_and] at h
    simp only [lookA, List.find?_append]
    rw [List.find?_eq_none.2 (by simpa using h)]
    simp
theorem find_put_other (l : List (Int × α)) {x y : Int} (v : α) (hxy : (x == y) = false) (h : ¬ y = x) : (l.map (fun p => if p.1 == x then (x, v) else p)).find? (fun p => p.1 == y) = l.find? (fun p => p.1 == y) := by
  induction l with
  | nil => rfl
  | cons p r ih =>
    simp only [List.map_cons, List.find?_cons]
    rw [ih]
    cases hp : p.1 == x
    · rfl
    · have : (p.1 == y) = false := by simp at hp ⊢; rw [hp]; exact fun e => h e.symm
      simp only [if_true, hxy, this]
theorem lookA_put_other (l : List (Int × α)) {x y : Int} (v : α) (h : y ≠ x) : lookA (putA l x v) y = lookA l y := by
  unfold putA
  have hxy : (x == y) = false := by simp; exact fun e => h e.symm
  split
  · simp only [lookA]
    congr 1
    exact find_put_other l v hxy (by simpa using h)
  · simp [lookA, List.find?_append, hxy]
theorem keysA_put (l : List (Int × α)) (x : Int) (v : α) : keysA (putA l x v) = if hasA l x then keysA l else keysA l ++ [x] := by
  unfold putA
  split
  · simp only [keysA, List.map_map]; apply List.map_congr_left; intro p _; simp only [Function.comp_apply]; split
    · rename_i h; simp at h; exact h.symm
    · rfl
  · simp [keysA]
theorem keysA_put_nodup {l : List (Int × α)} (h : (keysA l).Nodup) (x : Int) (v : α) : (keysA (putA l x v)).Nodup := by
  rw [keysA_put]; split
  · exact h
  · rename_i hx
    rw [hasA_iff] at hx
    exact List.nodup_append.2 ⟨h, by simp, by intro a ha b hb; simp at hb; subst hb; intro e; subst e; exact hx ha⟩
theorem set_eq_put {l : List (Int × α)} (hn : (keysA l).Nodup) {j : Nat} {x : Int} {u : α} (h : l[j]? = some (x, u)) (v : α) : l.set j (x, v) = putA l x v := by
  have hh : hasA l x = true := by rw [hasA_iff]; exact List.mem_map.2 ⟨_, List.mem_of_getElem? h, rfl⟩
  rw [putA, if_pos hh]
  apply List.ext_getElem?
  intro i
  rw [List.getElem?_set, List.getElem?_map]
  by_cases hij : j = i
  · subst hij
    have hj := (List.getElem?_eq_some_iff.1 h).1
    rw [if_pos rfl, if_pos hj, h]; simp
  · rw [if_neg hij]
    cases hi : l[i]? with
    | none => rfl
    | some p =>
      have : (p.1 == x) = false := by
        simp; intro e
        have h1 : (keysA l)[i]? = some x := by simp [keysA, hi, e]
        have h2 : (keysA l)[j]? = some x := by simp [keysA, h]
        have hi' := (List.getElem?_eq_some_iff.1 h1)
        have hj' := (List.getElem?_eq_some_iff.1 h2)
        have := (List.getElem_inj (h₀ := hi'.1) (h₁ := hj'.1) hn).1 (by rw [hi'.2, hj'.2])
        exact hij this.symm
      simp only [Option.map_some, this]; rfl
theorem erase_eq_del {l : List (Int × α)} (hn : (keysA l).Nodup) {j : Nat} {x : Int} {u : α} (h : l[j]? = some (x, u)) : l.eraseIdx j = delA l x := by
  induction l generalizing j with
  | nil => simp at h
  | cons p r ih =>
    simp only [keysA, List.map_cons, List.nodup_cons] at hn
    cases j with
    | zero =>
      simp at h; subst h
      simp only [List.eraseIdx_cons_zero, delA, List.filter_cons, beq_self_eq_true, Bool.not_true, Bool.false_eq_true, if_false]
      symm; apply List.filter_eq_self.2
      intro q hq; simp; intro e; exact hn.1 (List.mem_map.2 ⟨q, hq, e⟩)
    | succ j =>
      simp at h
      have hne : (p.1 == x) = false := by simp; intro e; exact hn.1 (List.mem_map.2 ⟨_, List.mem_of_getElem? h, by simp [e]⟩)
      simp only [List.eraseIdx_cons_succ, delA, List.filter_cons, hne, Bool.not_false, if_true]
      rw [ih hn.2 h]; rfl
end
def ent (p : Int × Value) : Value × Value := (.int .i64 p.1, p.2)
def kv (x : MapEntry) : Value × Value := (x.key, x.val)
def MapI (w : World) (b : Nat) (l : List (Int × Value)) : Prop := ∃ es clock, w.heap[b]? = some (.map es clock) ∧ Stamped es clock ∧ es.toList.map kv = l.map ent
theorem MapI.lt {w : World} {b : Nat} {l : List (Int × Value)} (h : MapI w b l) : b < w.heap.size := by
  obtain ⟨es, clock, hb, _⟩ := h; exact (Array.getElem?_eq_some_iff.1 hb).1
theorem MapI.kept {w w' : World} {b : Nat} {l : List (Int × Value)} (h : MapI w b l) (hb : w'.heap[b]? = w.heap[b]?) : MapI w' b l := by
  obtain ⟨es, clock, h1, r⟩ := h; exact ⟨es, clock, hb.trans h1, r⟩
theorem MapI.made (w : World) : MapI (w.alloc (.map #[] 0)) w.heap.size [] := ⟨#[], 0, heap_alloc_new w _, stamped_empty 0, rfl⟩
section
variable {P : Program} {t k e : TypeId} {w : World} {b : Nat} {l : List (Int × Value)} {es : Array MapEntry} {clock : Nat}
theorem kv_keys (hl : es.toList.map kv = l.map ent) : ∀ x ∈ es.toList, ∃ p ∈ l, x.key = .int .i64 p.1 ∧ x.val = p.2 := by
  intro x hx
  have : kv x ∈ l.map ent := by rw [← hl]; exact List.mem_map.2 ⟨x, hx, rfl⟩
  obtain ⟨p, hp, e⟩ := List.mem_map.1 this
  simp [kv, ent] at e
  exact ⟨p, hp, e.1.symm, e.2.symm⟩
theorem kv_at (hl : es.toList.map kv = l.map ent) {j : Nat} {x : MapEntry} (h : es.toList[j]? = some x) {y : Int} (hy : x.key = .int .i64 y) : l[j]? = some (y, x.val) := by
  have h1 : (es.toList.map kv)[j]? = some (kv x) := by rw [List.getElem?_map, h]; rfl
  rw [hl, List.getElem?_map, Option.map_eq_some_iff] at h1
  obtain ⟨p, hp, e⟩ := h1
  simp [kv, ent, hy] at e
  rw [hp]; cases p; simp_all
theorem kv_nodup (hs : Stamped es clock) (hl : es.toList.map kv = l.map ent) : (keysA l).Nodup := by
  have h3 := hs.2.2
  have e1 : es.toList.map (·.key) = l.map (fun p => Value.int .i64 p.1) := by
    have := congrArg (List.map Prod.fst) hl
    simpa [List.map_map, Function.comp_def, kv, ent] using this
  rw [e1] at h3
  have e2 : l.map (fun p => Value.int .i64 p.1) = (keysA l).map (fun x => Value.int .i64 x) := by simp [keysA]
  rw [e2] at h3
  exact (List.pairwise_map.1 h3).imp (fun h e => h (by rw [e]))
theorem MapI.nodup (h : MapI w b l) : (keysA l).Nodup := by obtain ⟨es, clock, _, h1, h2⟩ := h; exact kv_nodup h1 h2
theorem findI (hk : P.underlying k = some (.int .i64)) (w : World) (hs : Stamped es clock) (hl : es.toList.map kv = l.map ent) (x : Int) :
    ((Instr.findKey k (.int .i64 x) es.toList).run P w = .ok none w ∧ lookA l x = none ∧ ∀ y ∈ es.toList, y.key ≠ .int .i64 x) ∨
    ∃ j y, (Instr.findKey k (.int .i64 x) es.toList).run P w = .ok (some (j, y.val)) w ∧ es.toList[j]? = some y ∧ y.key = .int .i64 x ∧ l[j]? = some (x, y.val) ∧ lookA l x = some y.val := by
  have hks : ∀ y ∈ es.toList, IsKey (.int .i64) y.key := fun y hy => by
    obtain ⟨p, _, e, _⟩ := kv_keys hl y hy
    rw [e]; exact rfl
  rcases findNow_spec (k := .int .i64 x) (d := .int .i64) rfl es.toList 0 hks with ⟨h1, h2⟩ | ⟨j, e0, h1, h2, h3⟩
  · refine Or.inl ⟨run_findKey hk h1, lookA_none.2 fun p hp e => ?_, h2⟩
    have : ent p ∈ es.toList.map kv := by rw [hl]; exact List.mem_map.2 ⟨p, hp, rfl⟩
    obtain ⟨y, hy, ey⟩ := List.mem_map.1 this
    simp [kv, ent, e] at ey
    exact h2 y hy ey.1
  · have hlj := kv_at hl h2 h3
    exact Or.inr ⟨j, e0, by simpa using run_findKey (P := P) (w := w) hk h1, h2, h3, hlj, lookA_of_mem (kv_nodup hs hl) (List.mem_of_getElem? hlj)⟩
theorem checkI (hk : P.underlying k = some (.int .i64)) (w : World) (em : Bool) (x : Int) : (Instr.checkKey em 10000 k (.int .i64 x)).run P w = .ok () w := run_checkKey hk (d := .int .i64) (k := .int .i64 x) rfl em 9999
theorem MapI.look (h : MapI w b l) (ht : P.underlying t = some (.map k e)) (hk : P.underlying k = some (.int .i64)) {z : Value} (hz : ∀ w, (zeroValue e).run P w = .ok z w) (c : Bool) (x : Int) :
    (Instr.lookup t (.map (some b)) (.int .i64 x) c).run P w = .ok (if c then .tuple #[(lookA l x).getD z, .bool (hasA l x)] else (lookA l x).getD z) w := by
  obtain ⟨es, clock, hb, hs, hl⟩ := h
  rcases findI hk w hs hl x with ⟨h1, h2, _⟩ | ⟨j, y, h1, _, _, _, h2⟩
  · cases c <;> simp [Instr.lookup, run_underlying ht, MapKept.run_getObj_map hb, checkI hk, h1, hz, Result.andThen, h2, hasA_look]
  · cases c <;> simp [Instr.lookup, run_underlying ht, MapKept.run_getObj_map hb, checkI hk, h1, Result.andThen, h2, hasA_look]
theorem set_of_modify {α : Type} (l : Array α) (j : Nat) (f : α → α) {x : α} (h : l.toList[j]? = some x) : (l.modify j f).toList = l.toList.set j (f x) := by
  apply List.ext_getElem?
  intro i
  rw [Array.getElem?_toList, Array.getElem?_modify, List.getElem?_set]
  by_cases hij : j = i
  · subst hij
    have hj := (List.getElem?_eq_some_iff.1 h).1
    rw [if_pos rfl, if_pos rfl, if_pos hj, ← Array.getElem?_toList, h]; rfl
  · rw [if_neg hij, if_neg hij, Array.getElem?_toList]
theorem MapI.put (h : MapI w b l) (ht : P.underlying t = some (.map k e)) (hk : P.underlying k = some (.int .i64)) (x : Int) (v : Value) :
    ∃ w', (Instr.mapUpdate t (.map (some b)) (.int .i64 x) v).run P w = .ok () w' ∧ MapI w' b (putA l x v) ∧ w.grownBy w' (some b) ∧ w'.heap.size = w.heap.size := by
  obtain ⟨es, clock, hb, hs, hl⟩ := h
  have G : ∀ es' clock', w.grownBy (setBlock w b (.map es' clock')) (some b) ∧ (setBlock w b (.map es' clock')).heap.size = w.heap.size := fun es' clock' =>
    ⟨⟨rfl, rfl, rfl, by simp [setBlock], fun i _ hi => heap_setBlock_other hb _ (fun e => hi (by rw [e]))⟩, by simp [setBlock]⟩
  rcases findI hk w hs hl x with ⟨h1, h2, h3⟩ | ⟨j, y, h1, hj, hy, hlj, h2⟩
  · refine ⟨setBlock w b (.map (es.push ⟨.int .i64 x, v, clock⟩) (clock + 1)), ?_, ⟨_, _, heap_setBlock_same hb _, stamped_push hs h3, ?_⟩, (G _ _).1, (G _ _).2⟩
    · simp [Instr.mapUpdate, run_underlying ht, MapKept.run_getObj_map hb, checkI hk, h1, MapKept.run_setObj_map _ hb, Result.andThen, setBlock]
    · have hh : hasA l x = false := by rw [hasA_look, h2]; rfl
      rw [putA, hh]
      simp [hl, kv, ent]
  · have hj' : es[j]? = some y := by rw [← Array.getElem?_toList]; exact hj
    refine ⟨setBlock w b (.map (es.modify j fun e => { e with key := .int .i64 x, val := v }) clock), ?_, ⟨_, _, heap_setBlock_same hb _, stamped_modify hs _ _ (fun _ _ => rfl) (fun e _ he => ?_), ?_⟩, (G _ _).1, (G _ _).2⟩
    · simp [Instr.mapUpdate, run_underlying ht, MapKept.run_getObj_map hb, checkI hk, h1, hj', hy, run_keyThatStays (d := .int .i64) (k := .int .i64 x) rfl, MapKept.run_setObj_map _ hb, Result.andThen, setBlock]
    · rw [hj'] at he; cases he; exact hy.symm
    · rw [set_of_modify es j _ hj, List.map_set, hl, ← set_eq_put (kv_nodup hs hl) hlj, List.map_set]
      rfl
theorem MapI.del (h : MapI w b l) (ht : P.underlying t = some (.map k e)) (hk : P.underlying k = some (.int .i64)) (ty : TypeId) (x : Int) :
    ∃ w', (Builtin.delete_ #[t, k] ty #[.map (some b), .int .i64 x]).run P w = .ok (.tuple #[]) w' ∧ MapI w' b (delA l x) ∧ w.grownBy w' (some b) ∧ w'.heap.size = w.heap.size := by
  obtain ⟨es, clock, hb, hs, hl⟩ := h
  have G : ∀ es' clock', w.grownBy (setBlock w b (.map es' clock')) (some b) ∧ (setBlock w b (.map es' clock')).heap.size = w.heap.size := fun es' clock' =>
    ⟨⟨rfl, rfl, rfl, by simp [setBlock], fun i _ hi => heap_setBlock_other hb _ (fun e => hi (by rw [e]))⟩, by simp [setBlock]⟩
  rcases findI hk w hs hl x with ⟨h1, h2, h3⟩ | ⟨j, y, h1, hj, hy, hlj, h2⟩
  · refine ⟨setBlock w b (.map es clock), ?_, ⟨_, _, heap_setBlock_same hb _, hs, ?_⟩, (G _ _).1, (G _ _).2⟩
    · simp [Builtin.delete_, run_underlying ht, MapKept.run_getObj_map hb, checkI hk, h1, MapKept.run_setObj_map _ hb, Result.andThen, setBlock]
    · rw [hl]; congr 1
      symm; apply List.filter_eq_self.2
      intro p hp; simpa using lookA_none.1 h2 p hp
  · have hjs : j < es.size := by have := (List.getElem?_eq_some_iff.1 hj).1; simpa using this
    refine ⟨setBlock w b (.map (es.eraseIdxIfInBounds j) clock), ?_, ⟨_, _, heap_setBlock_same hb _, stamped_erase hs j, ?_⟩, (G _ _).1, (G _ _).2⟩
    · simp [Builtin.delete_, run_underlying ht, MapKept.run_getObj_map hb, checkI hk, h1, MapKept.run_setObj_map _ hb, Result.andThen, setBlock]
    · have : (es.eraseIdxIfInBounds j).toList = es.toList.eraseIdx j := by unfold Array.eraseIdxIfInBounds; rw [dif_pos hjs]; simp
      rw [this, ← erase_eq_del (kv_nodup hs hl) hlj, map_eraseIdx, hl, map_eraseIdx]
theorem MapI.len (h : MapI w b l) (ht : P.underlying t = some (.map k e)) (ty : TypeId) : (Builtin.len_ #[t] ty #[.map (some b)]).run P w = .ok (.int .i64 l.length) w := by
  obtain ⟨es, clock, hb, hs, hl⟩ := h
  have : es.size = l.length := by have := congrArg List.length hl; simpa using this
  simp [Builtin.len_, run_underlying ht, MapKept.run_getObj_map hb, goInt, Result.andThen, this]
def RangeI (w : World) (b r : Nat) (l left : List (Int × Value)) : Prop :=
  ∃ es clock since seen c0, w.heap[b]? = some (.map es clock) ∧ Stamped es clock ∧ es.toList.map kv = l.map ent ∧ w.heap[r]? = some (.mapIter (some b) since seen c0) ∧
    (∀ x ∈ es.toList, x.born < since) ∧ since ≤ c0 ∧ since ≤ clock ∧ (leftOf es seen).toList.map kv = left.map ent
theorem RangeI.map {r : Nat} {left : List (Int × Value)} (h : RangeI w b r l left) : MapI w b l := by
  obtain ⟨es, clock, _, _, _, h1, h2, h3, _⟩ := h; exact ⟨es, clock, h1, h2, h3⟩
theorem RangeI.kept {w' : World} {r : Nat} {left : List (Int × Value)} (h : RangeI w b r l left) (hb : w'.heap[b]? = w.heap[b]?) (hr : w'.heap[r]? = w.heap[r]?) : RangeI w' b r l left := by
  obtain ⟨es, clock, since, seen, c0, h1, h2, h3, h4, rest⟩ := h
  exact ⟨es, clock, since, seen, c0, hb.trans h1, h2, h3, hr.trans h4, rest⟩
theorem MapI.range (h : MapI w b l) (ht : P.underlying t = some (.map k e)) :
    ∃ w', (Instr.range t (.map (some b))).run P w = .ok (.pointer (some ⟨w.heap.size, 0, none⟩)) w' ∧ RangeI w' b w.heap.size l l ∧ w.grownBy w' none ∧ w'.heap.size = w.heap.size + 1 := by
  have hlt := h.lt
  obtain ⟨es, clock, hb, hs, hl⟩ := h
  refine ⟨_, run_range_map w t k e b es clock ht hb, ⟨es, clock, clock, #[], clock, (heap_alloc_old w _ hlt).trans hb, hs, hl, heap_alloc_new w _, hs.1, Nat.le_refl _, Nat.le_refl _, ?_⟩, World.grownBy_alloc w _ none, by simp⟩
  have : leftOf es #[] = es := by simp [leftOf]
  rw [this]; exact hl
theorem RangeI.next {r : Nat} {left : List (Int × Value)} (h : RangeI w b r l left) (hne : r ≠ b) (ty : TypeId) :
    (left = [] ∧ (Instr.next (.pointer (some ⟨r, 0, none⟩)) false ty).run P w = .ok (.tuple #[.bool false]) w) ∨
    ∃ x v w', (x, v) ∈ left ∧ (Instr.next (.pointer (some ⟨r, 0, none⟩)) false ty).run P w = .ok (.tuple #[.bool true, .int .i64 x, v]) w' ∧ RangeI w' b r l (delA left x) ∧ w.grownBy w' (some r) ∧ w'.heap.size = w.heap.size ∧
      (Instr.entry (.pointer (some ⟨r, 0, none⟩))).run P w' = .ok (.tuple #[.int .i64 x, v]) w' := by
  obtain ⟨es, clock, since, seen, c0, hb, hs, hl, hr, hold, hsc, hck, hlf⟩ := h
  rcases run_next_at (P := P) w ty r b since c0 seen es clock hr hb hold hsc with ⟨h0, hrun⟩ | ⟨y, he, w1, hal, hrun⟩
  · refine Or.inl ⟨?_, hrun⟩
    have := congrArg List.length hlf
    simp at this
    exact List.eq_nil_of_length_eq_zero (by omega)
  · obtain ⟨hem, hes⟩ := mem_left he
    obtain ⟨p, hp, hkey, hval⟩ := kv_keys hl y hem
    have hr1 : w1.heap[r]? = some (.mapIter (some b) since seen c0) := by rcases hal with rfl | rfl <;> exact hr
    have hb1 : w1.heap[b]? = some (.map es clock) := by rcases hal with rfl | rfl <;> exact hb
    have hset := heap_set (o' := .mapIter (some b) since (seen.push y.born) clock) hr1
    have hb' : (setBlock w1 r (.mapIter (some b) since (seen.push y.born) clock)).heap[b]? = some (.map es clock) := (hset.2 b (fun e1 => hne e1.symm)).trans hb1
    have hst := (stamped_iff es clock).1 hs
    have hpl : (p.1, y.val) ∈ left := by
      have : kv y ∈ left.map ent := by rw [← hlf]; exact List.mem_map.2 ⟨y, he, rfl⟩
      obtain ⟨q, hq, eq⟩ := List.mem_map.1 this
      simp [kv, ent, hkey] at eq
      rw [← eq.1, ← eq.2]; exact hq
    refine Or.inr ⟨p.1, y.val, _, hpl, by rw [← hkey]; exact hrun, ⟨es, clock, since, seen.push y.born, clock, hb', hs, hl, hset.1, hold, hck, hck, ?_⟩, ?_, ?_, ?_⟩
    · have e1 : (leftOf es (seen.push y.born)).toList = (leftOf es seen).toList.filter (fun z => !(z.born == y.born)) := by
        simp only [leftOf, Array.toList_filter, List.filter_filter]
        apply List.filter_congr
        intro z _
        rw [contains_push]
        cases seen.contains z.born <;> cases (z.born == y.born) <;> rfl
      have e2 : (leftOf es seen).toList.filter (fun z => !(z.born == y.born)) = (leftOf es seen).toList.filter (fun z => match z.key with | .int _ q => !(q == p.1) | _ => true) := by
        apply List.filter_congr
        intro z hz
        have hz1 := (mem_left hz).1
        obtain ⟨q, _, hq1, _⟩ := kv_keys hl z hz1
        rw [hq1]
        by_cases hbb : z.born = y.born
        · obtain rfl := born_inj hst.2.1 hz1 hem hbb
          rw [hkey] at hq1; simp at hq1; simp [hq1]
        · have : ¬ q.1 = p.1 := fun e2 => hbb (congrArg MapEntry.born (entry_eq_of_key hst.2.2 hz1 hem (by rw [hq1, hkey, e2])))
          have h1 : (z.born == y.born) = false := by simpa using hbb
          have h2 : (q.1 == p.1) = false := by simpa using this
          simp only [h1, h2]
      rw [e1, e2]
      have e3 : ∀ (L : List MapEntry) (M : List (Int × Value)), L.map kv = M.map ent → (L.filter (fun z => match z.key with | .int _ q => !(q == p.1) | _ => true)).map kv = (delA M p.1).map ent := by
        intro L
        induction L with
        | nil => intro M hM; cases M with | nil => rfl | cons _ _ => simp at hM
        | cons z L ih =>
          intro M hM
          cases M with
          | nil => simp at hM
          | cons q M =>
            simp only [List.map_cons, List.cons.injEq] at hM
            have hk0 : z.key = .int .i64 q.1 := by have := congrArg Prod.fst hM.1; simpa [kv, ent] using this
            simp only [List.filter_cons, hk0, delA]
            cases hq : (q.1 == p.1)
            · simp only [Bool.not_false, if_true, List.map_cons, List.cons.injEq]; exact ⟨hM.1, ih M hM.2⟩
            · simp only [Bool.not_true, Bool.false_eq_true, if_false]; exact ih M hM.2
      exact e3 _ _ hlf
    · rcases hal with rfl | rfl <;> exact ⟨rfl, rfl, rfl, by simp [setBlock], fun i _ hi => hset.2 i (fun e1 => hi (by rw [e1]))⟩
    · rcases hal with rfl | rfl <;> simp [setBlock]
    · rw [← hkey]; exact run_entry_at _ r b since seen es clock y hset.1 hb' hem hst.2.1
end
section
variable {P : Program} (w : World) {ops : Array Oper} {rest : List Oper} {o : Oper} {a : Act} {Q : Exit → Act → World → Prop}
theorem wpList_lookI (hg : o.guard = none) (m x : Operand) (t : TypeId) (hop : o.op = Op.lookup t m x false) (k e : TypeId) (ht : P.underlying t = some (.map k e)) (hk : P.underlying k = some (.int .i64))
    (z : Value) (hz : ∀ w, (zeroValue e).run P w = .ok z w) (b : Nat) (l : List (Int × Value)) (hm : a.eval m = .map (some b)) (h : MapI w b l) (y : Int) (hx : a.eval x = .int .i64 y)
    (hK : wpList P ops Q rest (a.put o.dst ((lookA l y).getD z)) w) : wpList P ops Q (o :: rest) a w := by
  refine wpList_plain hg fun K' hK' => ?_
  unfold Oper.wp
  simp [execOp, hop, hm, hx, h.look ht hk hz false y, Result.andThen]
  exact hK' _ _ hK
theorem wpList_lookI_ok (hg : o.guard = none) (m x : Operand) (t : TypeId) (hop : o.op = Op.lookup t m x true) (k e : TypeId) (ht : P.underlying t = some (.map k e)) (hk : P.underlying k = some (.int .i64))
    (z : Value) (hz : ∀ w, (zeroValue e).run P w = .ok z w) (b : Nat) (l : List (Int × Value)) (hm : a.eval m = .map (some b)) (h : MapI w b l) (y : Int) (hx : a.eval x = .int .i64 y)
    (hK : wpList P ops Q rest (a.put o.dst (.tuple #[(lookA l y).getD z, .bool (hasA l y)])) w) : wpList P ops Q (o :: rest) a w := by
  refine wpList_plain hg fun K' hK' => ?_
  unfold Oper.wp
  simp [execOp, hop, hm, hx, h.look ht hk hz true y, Result.andThen]
  exact hK' _ _ hK
theorem wpList_putI (hg : o.guard = none) (m x v : Operand) (t : TypeId) (hop : o.op = Op.mapUpdate t m x v) (k e : TypeId) (ht : P.underlying t = some (.map k e)) (hk : P.underlying k = some (.int .i64))
    (b : Nat) (l : List (Int × Value)) (hm : a.eval m = .map (some b)) (h : MapI w b l) (y : Int) (hx : a.eval x = .int .i64 y) (u : Value) (hv : a.eval v = u)
    (hK : ∀ w', MapI w' b (putA l y u) → w.grownBy w' (some b) → w'.heap.size = w.heap.size → wpList P ops Q rest (a.put o.dst undef) w') : wpList P ops Q (o :: rest) a w := by
  refine wpList_plain hg fun K' hK' => ?_
  obtain ⟨w', hrun, r1, r2, r3⟩ := h.put ht hk y u
  unfold Oper.wp
  simp [execOp, hop, hm, hx, hv, hrun, Result.andThen]
  exact hK' _ _ (hK w' r1 r2 r3)
theorem wpList_lenI (hg : o.guard = none) (m : Operand) (t : TypeId) (hop : o.op = Op.call { callee := Callee.builtin Builtin.len, args := #[m], argTypes := #[t] }) (k e : TypeId) (ht : P.underlying t = some (.map k e))
    (b : Nat) (l : List (Int × Value)) (hm : a.eval m = .map (some b)) (h : MapI w b l)
    (hK : wpList P ops Q rest (a.put o.dst (.int .i64 l.length)) w) : wpList P ops Q (o :: rest) a w := by
  refine wpList_plain hg fun K' hK' => ?_
  unfold Oper.wp
  simp [execOp, hop, resolve, invoke, builtin, hm, h.len ht o.type, Result.andThen]
  exact hK' _ _ hK
end
section
variable {P : Program} {w : World} {o : Oper} {a : Act} {K : Act → World → Prop} {Q : Exit → Act → World → Prop}
end
end Go.Tr

namespace Go.Tr
abbrev Edges := List (Int × Int)
theorem length_of_sub {α : Type} [BEq α] [LawfulBEq α] : ∀ {l m : List α}, l.Nodup → (∀ y ∈ l, y ∈ m) → l.length ≤ m.length
  | [], _, _, _ => Nat.zero_le _
  | x :: l, m, hn, hs => by
    have hx : x ∈ m := hs x (by simp)
    have hn' := List.nodup_cons.1 hn
    have := length_of_sub (m := m.erase x) hn'.2 (fun y hy => (List.mem_erase_of_ne (fun e => by subst e; exact hn'.1 hy)).2 (hs y (by simp [hy])))
    rw [List.length_erase_of_mem hx] at this
    have h0 : 0 < m.length := List.length_pos_of_mem hx
    simp only [List.length_cons]; omega
end Go.Tr

namespace Go.Tr
open Go.RowKit
abbrev nils : Value := .slice none 0 0
abbrev Grp := List (Int × (Value × List Int))
def own3 (w : World) (e : TypeId) (base : Nat) (v : Value) (zs : List Int) : Prop := w.ownsRow base e 1 v zs.length (ints zs)
def Groups (w : World) (e : TypeId) (b : Nat) (r : Grp) : Prop :=
  MapI w b (mapA (·.1) r) ∧ (∀ p ∈ r, own3 w e (b + 1) p.2.1 p.2.2) ∧ ∀ p ∈ r, ∀ q ∈ r, p.1 ≠ q.1 → p.2.1.ownBlock = none ∨ p.2.1.ownBlock ≠ q.2.1.ownBlock
theorem Groups.made (w : World) (e : TypeId) : Groups (w.alloc (.map #[] 0)) e w.heap.size [] := ⟨MapI.made w, by simp, by simp⟩
theorem Groups.look {w : World} {e : TypeId} {b : Nat} {r : Grp} (h : Groups w e b r) (x : Int) :
    ∃ v, (lookA (mapA (·.1) r) x).getD nils = v ∧ own3 w e (b + 1) v ((lookA (mapA (·.2) r) x).getD []) ∧ v.ownBlock ≠ some b ∧
      ∀ p ∈ r, p.1 ≠ x → p.2.1.ownBlock = none ∨ p.2.1.ownBlock ≠ v.ownBlock := by
  obtain ⟨h1, h2, h3⟩ := h
  have hne : ∀ v zs, own3 w e (b + 1) v zs → v.ownBlock ≠ some b := fun v zs ho e1 => by have := (ho.lt b e1).1; omega
  rw [lookA_mapA, lookA_mapA]
  cases hl : lookA r x with
  | none =>
    refine ⟨nils, rfl, World.ownsRow_nil _ _ _ _, by simp [Value.ownBlock], fun p _ _ => ?_⟩
    cases p.2.1.ownBlock <;> simp [Value.ownBlock]
  | some t =>
    have hm := lookA_mem hl
    exact ⟨t.1, rfl, h2 _ hm, hne _ _ (h2 _ hm), fun p hp hx => h3 p hp _ hm hx⟩
theorem mem_putA {α : Type} {l : List (Int × α)} {x : Int} {v : α} {p : Int × α} (h : p ∈ putA l x v) : (p ∈ l ∧ p.1 ≠ x) ∨ p = (x, v) := by
  unfold putA at h
  split at h
  · obtain ⟨q, hq, e⟩ := List.mem_map.1 h
    by_cases hx : q.1 == x
    · rw [if_pos hx] at e; exact Or.inr e.symm
    · rw [if_neg hx] at e; subst e; exact Or.inl ⟨hq, by simpa using hx⟩
  · rename_i hh
    rcases List.mem_append.1 h with hp | hp
    · refine Or.inl ⟨hp, fun e => hh ?_⟩
      rw [hasA_iff]; exact List.mem_map.2 ⟨p, hp, e⟩
    · exact Or.inr (by simpa using hp)
theorem Groups.step {w w1 w2 : World} {e : TypeId} {b : Nat} {r : Grp} (h : Groups w e b r) {x : Int} {v v' : Value} {zs' : List Int} (hv : (lookA (mapA (·.1) r) x).getD nils = v)
    (hg : w.grownBy w1 v.ownBlock) (ho : own3 w1 e (b + 1) v' zs') (hloc : v'.ownBlock = v.ownBlock ∨ ∃ g, v'.ownBlock = some g ∧ w.heap.size ≤ g)
    (hm : MapI w2 b (putA (mapA (·.1) r) x v')) (hg2 : w1.grownBy w2 (some b)) : Groups w2 e b (putA r x (v', zs')) := by
  obtain ⟨v0, hv0, hov, hvb, hap⟩ := h.look x
  rw [hv] at hv0; subst hv0
  obtain ⟨h1, h2, h3⟩ := h
  have hne : ∀ (w : World) v zs, own3 w e (b + 1) v zs → v.ownBlock = none ∨ v.ownBlock ≠ some b := fun w v zs ho => by
    cases hb : v.ownBlock with
    | none => exact Or.inl rfl
    | some g => refine Or.inr fun e1 => ?_; have := (ho.lt g hb).1; cases e1; omega
  have old : ∀ p ∈ r, p.1 ≠ x → own3 w2 e (b + 1) p.2.1 p.2.2 := fun p hp hx =>
    ((h2 p hp).kept hg (hap p hp hx)).kept hg2 (hne w1 _ _ ((h2 p hp).kept hg (hap p hp hx)))
  have far : ∀ p ∈ r, p.1 ≠ x → p.2.1.ownBlock = none ∨ p.2.1.ownBlock ≠ v'.ownBlock := fun p hp hx => by
    rcases hloc with h | ⟨g, h, hge⟩
    · rw [h]; exact hap p hp hx
    · cases hb : p.2.1.ownBlock with
      | none => exact Or.inl rfl
      | some q => refine Or.inr fun e1 => ?_; have := ((h2 p hp).lt q hb).2; rw [h] at e1; cases e1; omega
  refine ⟨by have e0 := putA_mapA (fun p : Value × List Int => p.1) r x (v', zs'); rw [← e0]; exact hm, fun p hp => ?_, fun p hp q hq hpq => ?_⟩
  · rcases mem_putA hp with ⟨hp, hx⟩ | rfl
    · exact old p hp hx
    · exact ho.kept hg2 (hne w1 _ _ ho)
  · rcases mem_putA hp with ⟨hp, hx⟩ | rfl
    · rcases mem_putA hq with ⟨hq, _⟩ | rfl
      · exact h3 p hp q hq hpq
      · exact far p hp hx
    · rcases mem_putA hq with ⟨hq, hy⟩ | rfl
      · rcases far q hq hy with h | h
        · show v'.ownBlock = none ∨ v'.ownBlock ≠ q.2.1.ownBlock
          rw [h]
          cases v'.ownBlock with
          | none => exact Or.inl rfl
          | some g => exact Or.inr (by simp)
        · exact Or.inr h.symm
      · exact absurd rfl hpq
def ecells (E : Edges) : List Value := E.flatMap fun e => [iv e.1, iv e.2]
theorem ecells_length (E : Edges) : (ecells E).length = 2 * E.length := by induction E <;> simp_all [ecells]; omega
theorem ecells_at {E : Edges} {k : Nat} {e : Int × Int} (h : E[k]? = some e) : (ecells E).getD (2 * k) undef = .int .i64 e.1 ∧ (ecells E).getD (2 * k + 1) undef = .int .i64 e.2 := by
  induction E generalizing k with
  | nil => simp at h
  | cons f E ih =>
    cases k with
    | zero => simp at h; subst h; simp [ecells, iv]
    | succ k =>
      simp at h
      have := ih h
      simp only [ecells, List.flatMap_cons] at this ⊢
      have e1 : 2 * (k + 1) = (2 * k) + 2 := by omega
      rw [e1]
      simpa [List.getD] using this
theorem SeqAt.edge {w : World} {a : Option Addr} {E : Edges} (h : SeqAt w a (ecells E)) {k : Nat} (hk : k < E.length) :
    ∃ b off x y, a = some ⟨b, off, none⟩ ∧ w.cell? ⟨b, off + k * 2, none⟩ = some (.int .i64 x) ∧ w.cell? ⟨b, off + k * 2 + 1, none⟩ = some (.int .i64 y) ∧ Hid (E[k]? = some (x, y)) := by
  obtain ⟨b, off, e, hc⟩ := h (by rw [ecells_length]; omega)
  have hE : E[k]? = some E[k] := List.getElem?_eq_getElem hk
  have h1 := ecells_at hE
  refine ⟨b, off, E[k].1, E[k].2, e, ?_, ?_, hE⟩
  · have := hc (2 * k) (by rw [ecells_length]; omega); rw [h1.1] at this; rw [← this]; congr 2; omega
  · have := hc (2 * k + 1) (by rw [ecells_length]; omega); rw [h1.2] at this; rw [← this]; congr 2; omega
theorem news_block (w : World) (cs : List Value) (t : TypeId) : ∀ j u, cs[j]? = some u → (w.alloc (.cells cs.toArray t)).cell? ((⟨w.heap.size, 0, none⟩ : Addr).add j) = some u := by
  intro j u hu
  have hadd : (⟨w.heap.size, 0, none⟩ : Addr).add j = ⟨w.heap.size, j, none⟩ := by unfold Addr.add; split <;> simp_all
  rw [hadd, cell_of_row _ _ j cs.toArray t (0, 0) (heap_alloc_new w _)]
  simpa using hu
theorem ecells_append (A B : Edges) : ecells (A ++ B) = ecells A ++ ecells B := by simp [ecells]
theorem ownsRow_seq {w : World} {base : Nat} {e : TypeId} {size : Nat} {v : Value} {n : Nat} {xs : List Value} (h : w.ownsRow base e size v n xs) : ∃ a cap, v = .slice a n cap ∧ SeqAt w a xs ∧ n ≤ cap ∧ cap ≤ maxLen := by
  have hx := h.1
  have hc := fun g => h.cells (g := g)
  rcases h.2 with ⟨rfl, rfl⟩ | ⟨g, cap, cur, rfl, hb, hg, hn, hcm, _⟩
  · exact ⟨none, 0, rfl, fun h0 => by simp at hx; subst hx; simp at h0, Nat.le_refl _, Nat.zero_le _⟩
  · refine ⟨_, cap, rfl, fun _ => ⟨g, 0, rfl, fun j hj => ?_⟩, hn, hcm⟩
    have h1 := hc g rfl j xs[j] (List.getElem?_eq_getElem hj)
    have hadd : (⟨g, 0, none⟩ : Addr).add j = ⟨g, 0 + j, none⟩ := by unfold Addr.add; split <;> simp_all
    rw [hadd] at h1
    rw [h1]; simp [List.getD, List.getElem?_eq_getElem hj]
def OrdInv (wo wr : World) (eI eS : TypeId) (lf : List (Int × Value)) (vr : Value) (L : List Int) (vl vn : Value) : Prop :=
  own3 wr eI (wo.heap.size + 1) vl L ∧ wr.ownsRow (wo.heap.size + 1) eS 1 vn (L.length + 1) (vr :: L.map fun x => (lookA lf x).getD nils) ∧ MapI wr wo.heap.size (L.map fun x => (x, iv 1)) ∧ Below wo.heap.size wo wr ∧
    (vl.ownBlock = none ∨ vl.ownBlock ≠ vn.ownBlock) ∧ wo.heap.size + 1 ≤ wr.heap.size
theorem OrdInv.ne {wo wr : World} {eI eS : TypeId} {lf : List (Int × Value)} {vr : Value} {L : List Int} {vl vn : Value} (h : OrdInv wo wr eI eS lf vr L vl vn) :
    (vl.ownBlock = none ∨ vl.ownBlock ≠ some wo.heap.size) ∧ (vn.ownBlock = none ∨ vn.ownBlock ≠ some wo.heap.size) := by
  obtain ⟨h1, h2, _⟩ := h
  constructor
  · cases hb : vl.ownBlock with
    | none => exact Or.inl rfl
    | some g => refine Or.inr fun e => ?_; have := (h1.lt g hb).1; cases e; omega
  · cases hb : vn.ownBlock with
    | none => exact Or.inl rfl
    | some g => refine Or.inr fun e => ?_; have := (h2.lt g hb).1; cases e; omega
end Go.Tr

namespace Go.Tr
open Go.RowKit
structure Only (F : Nat → Prop) (w w' : World) : Prop where
  os : w'.os = w.os
  tape : w'.tape = w.tape
  output : w'.output = w.output
  size : w.heap.size ≤ w'.heap.size
  block : ∀ k, k < w.heap.size → ¬ F k → w'.heap[k]? = w.heap[k]?
def grow (F : Nat → Prop) (w w' : World) : Nat → Prop := fun k => F k ∨ (w.heap.size ≤ k ∧ k < w'.heap.size)
theorem Only.refl (F : Nat → Prop) (w : World) : Only F w w := ⟨rfl, rfl, rfl, Nat.le_refl _, fun _ _ _ => rfl⟩
theorem Only.mono {F G : Nat → Prop} {w w' : World} (h : Only F w w') (hs : ∀ k, F k → G k) : Only G w w' := ⟨h.os, h.tape, h.output, h.size, fun k hk hn => h.block k hk (fun hf => hn (hs k hf))⟩
theorem Only.trans {F G : Nat → Prop} {a b c : World} (h : Only F a b) (k : Only G b c) (hG : ∀ j, G j → F j ∨ a.heap.size ≤ j) : Only F a c :=
  ⟨k.os.trans h.os, k.tape.trans h.tape, k.output.trans h.output, Nat.le_trans h.size k.size, fun j hj hn =>
    (k.block j (Nat.lt_of_lt_of_le hj h.size) (fun hg => (hG j hg).elim hn (fun h' => by omega))).trans (h.block j hj hn)⟩
theorem Only.grow {F : Nat → Prop} {a b c : World} (h : Only F a b) (k : Only (grow F a b) b c) : Only F a c := h.trans k (fun j hj => hj.imp id (fun h' => h'.1))
theorem Only.alloc {F : Nat → Prop} {a w : World} (h : Only F a w) (o : Obj) : Only F a (w.alloc o) :=
  ⟨h.os, h.tape, h.output, by have := h.size; simp; omega, fun k hk hn => (Below.heap_alloc w o k (Nat.lt_of_lt_of_le hk h.size)).trans (h.block k hk hn)⟩
theorem Only.drew {F : Nat → Prop} {a w : World} (h : Only F a w) : Only F a w.drew := ⟨h.os, h.tape, h.output, h.size, h.block⟩
theorem Only.drawn {F : Nat → Prop} {a w w' : World} (h : Only F a w) (hd : Drawn w w') : Only F a w' := by obtain ⟨n, rfl⟩ := hd; exact ⟨h.os, h.tape, h.output, h.size, h.block⟩
theorem Only.setCell {F : Nat → Prop} {a w : World} (h : Only F a w) {p : Addr} (hp : F p.block ∨ a.heap.size ≤ p.block) (u : Value) : Only F a (w.setCell p u) :=
  ⟨h.os, h.tape, h.output, by simpa [World.setCell] using h.size, fun k hk hn => (Below.heap_setCell w p u k (fun e => by subst e; rcases hp with h' | h'; exact hn h'; omega)).trans (h.block k hk hn)⟩
theorem Only.grown {F : Nat → Prop} {a w w' : World} {row : Option Nat} (h : Only F a w) (hg : w.grownBy w' row) (hr : ∀ k, row = some k → F k ∨ a.heap.size ≤ k) : Only F a w' :=
  ⟨hg.os.trans h.os, hg.tape.trans h.tape, hg.output.trans h.output, Nat.le_trans h.size hg.size, fun k hk hn =>
    (hg.block k (Nat.lt_of_lt_of_le hk h.size) (fun e => by rcases hr k e.symm with h' | h'; exact hn h'; omega)).trans (h.block k hk hn)⟩
theorem Only.below {F : Nat → Prop} {w w' : World} (h : Only F w w') {B : Nat} (hB : B ≤ w.heap.size) (hF : ∀ k, F k → B ≤ k) : Below B w w' :=
  ⟨h.os, h.tape, h.output, h.size, fun k hk => h.block k (by omega) (fun hf => by have := hF k hf; omega)⟩
theorem Only.of_below {w w' : World} (h : Below w.heap.size w w') (F : Nat → Prop) : Only F w w' := ⟨h.os, h.tape, h.output, h.size, fun k hk _ => h.block k hk⟩
theorem Only.grownBy {F : Nat → Prop} {w w' : World} (h : Only F w w') {g : Nat} (hF : ∀ k, F k → k < w.heap.size → k = g) : w.grownBy w' (some g) :=
  ⟨h.os, h.tape, h.output, h.size, fun k hk hn => h.block k hk (fun hf => hn (by rw [hF k hf hk]))⟩
theorem grow_mono {F G : Nat → Prop} (h : ∀ k, F k → G k) {w w' : World} : ∀ k, grow F w w' k → grow G w w' k := fun k hk => hk.imp (h k) id
theorem grow_trans {F : Nat → Prop} {a b c : World} (h1 : a.heap.size ≤ b.heap.size) (h2 : b.heap.size ≤ c.heap.size) : ∀ k, grow (grow F a b) b c k → grow F a c k := fun k hk => by
  rcases hk with (hk | hk) | hk
  · exact Or.inl hk
  · exact Or.inr ⟨hk.1, by omega⟩
  · exact Or.inr ⟨by omega, hk.2⟩
theorem SeqAt.only {F : Nat → Prop} {w w' : World} {a : Option Addr} {vs : List Value} (h : SeqAt w a vs) (ho : Only F w w') (hn : 0 < vs.length → ∀ b o, a = some ⟨b, o, none⟩ → ¬ F b) : SeqAt w' a vs := by
  intro h0
  obtain ⟨b, off, e, hc⟩ := h h0
  refine ⟨b, off, e, fun j hj => ?_⟩
  have := hc j hj
  rw [World.cell?_of_block (a := ⟨b, off + j, none⟩) (w := w) (ho.block b (World.block_lt_of_cell? w _ this) (hn h0 b off e))]
  exact this
def OwnO (w : World) (size : Nat) (v : Value) (n : Nat) (xs : List Value) : Prop :=
  (v = .slice none 0 0 ∧ n = 0 ∧ xs = []) ∨
  ∃ g off cap, v = .slice (some ⟨g, off, none⟩) n cap ∧ n ≤ cap ∧ cap ≤ maxLen ∧ xs.length = n * size ∧ g < w.heap.size ∧ (∀ j, j < cap * size → (w.cell? ⟨g, off + j, none⟩).isSome = true ∧ w.frozen? ⟨g, off + j, none⟩ = false) ∧
    ∀ j, j < n * size → w.cell? ⟨g, off + j, none⟩ = xs[j]?
theorem OwnO.nil (w : World) (size : Nat) : OwnO w size (.slice none 0 0) 0 [] := Or.inl ⟨rfl, rfl, rfl⟩
theorem OwnO.length {w : World} {size : Nat} {v : Value} {n : Nat} {xs : List Value} (h : OwnO w size v n xs) : xs.length = n * size := by
  rcases h with ⟨_, rfl, rfl⟩ | ⟨g, off, cap, _, _, _, h, _⟩
  · simp
  · exact h
theorem OwnO.lt {w : World} {size : Nat} {v : Value} {n : Nat} {xs : List Value} (h : OwnO w size v n xs) : ∀ k, v.ownBlock = some k → k < w.heap.size := by
  intro k hk
  rcases h with ⟨rfl, _⟩ | ⟨g, off, cap, rfl, _, _, _, h, _⟩
  · simp [Value.ownBlock] at hk
  · simp [Value.ownBlock] at hk; omega
theorem OwnO.kept {w w' : World} {size : Nat} {v : Value} {n : Nat} {xs : List Value} (h : OwnO w size v n xs) (hb : ∀ k, v.ownBlock = some k → w'.heap[k]? = w.heap[k]?) : OwnO w' size v n xs := by
  rcases h with h | ⟨g, off, cap, rfl, h1, h2, h3, h4, h5, h6⟩
  · exact Or.inl h
  · have e := hb g rfl
    refine Or.inr ⟨g, off, cap, rfl, h1, h2, h3, ?_, fun j hj => ?_, fun j hj => ?_⟩
    · have h7 : (w.heap[g]?).isSome = true := by simp [h4]
      rw [← e] at h7
      simpa using h7
    · rw [World.cell?_of_block (a := ⟨g, off + j, none⟩) (w := w) e, World.frozen?_of_block (a := ⟨g, off + j, none⟩) (w := w) e]; exact h5 j hj
    · rw [World.cell?_of_block (a := ⟨g, off + j, none⟩) (w := w) e]; exact h6 j hj
theorem OwnO.only {F : Nat → Prop} {w w' : World} {size : Nat} {v : Value} {n : Nat} {xs : List Value} (h : OwnO w size v n xs) (ho : Only F w w') (hn : ∀ k, v.ownBlock = some k → ¬ F k) : OwnO w' size v n xs :=
  h.kept (fun k hk => ho.block k (h.lt k hk) (hn k hk))
theorem OwnO.seq {w : World} {size : Nat} {v : Value} {n : Nat} {xs : List Value} (h : OwnO w size v n xs) : ∃ a cap, v = .slice a n cap ∧ SeqAt w a xs ∧ n ≤ cap ∧ cap ≤ maxLen := by
  have hx := h.length
  rcases h with ⟨rfl, rfl, rfl⟩ | ⟨g, off, cap, rfl, h1, h2, h3, h4, h5, h6⟩
  · exact ⟨none, 0, rfl, fun h0 => by simp at h0, Nat.le_refl _, Nat.zero_le _⟩
  · refine ⟨_, cap, rfl, fun _ => ⟨g, off, rfl, fun j hj => ?_⟩, h1, h2⟩
    rw [h6 j (by omega)]
    simp [List.getD, List.getElem?_eq_getElem hj]
theorem OwnO.of_row {w : World} {base : Nat} {e : TypeId} {size : Nat} {v : Value} {n : Nat} {xs : List Value} (h : w.ownsRow base e size v n xs) : OwnO w size v n xs := by
  have hx := h.1
  have hc := fun g => h.cells (g := g)
  rcases h.2 with ⟨rfl, rfl⟩ | ⟨g, cap, cur, rfl, hb, hg, hn, hcm, hcs, _⟩
  · exact Or.inl ⟨rfl, rfl, by simpa using hx⟩
  · refine Or.inr ⟨g, 0, cap, rfl, hn, hcm, hx, (Array.getElem?_eq_some_iff.1 hg).1, fun j hj => ?_, fun j hj => ?_⟩
    · rw [Nat.zero_add, cell_of_row w g j cur e (0, 0) hg]
      refine ⟨by simp; omega, ?_⟩
      simp [World.frozen?, hg]
    · have hjx : j < xs.length := by omega
      have h1 := hc g rfl j xs[j] (List.getElem?_eq_getElem hjx)
      have hadd : (⟨g, 0, none⟩ : Addr).add j = ⟨g, 0 + j, none⟩ := by unfold Addr.add; split <;> simp_all
      rw [hadd] at h1
      rw [h1, List.getElem?_eq_getElem hjx]
section
variable {P : Program} {w : World}
theorem heap_setCells_eq (g : Nat) : ∀ (vs : List Value) (o : Nat) (w : World) (i : Nat), i ≠ g → (w.setCells g o vs).heap[i]? = w.heap[i]?
  | [], _, _, _, _ => rfl
  | v :: r, o, w, i, h => by rw [World.setCells, heap_setCells_eq g r (o + 1) _ i h, Below.heap_setCell _ _ _ _ h]
theorem size_setCells (g : Nat) : ∀ (vs : List Value) (o : Nat) (w : World), (w.setCells g o vs).heap.size = w.heap.size
  | [], _, _ => rfl
  | v :: r, o, w => by rw [World.setCells, size_setCells g r]; simp [World.setCell]
theorem grown_setCells (g o : Nat) (vs : List Value) (w : World) : w.grownBy (w.setCells g o vs) (some g) := by
  refine ⟨?_, ?_, ?_, by rw [size_setCells]; exact Nat.le_refl _, fun k _ hn => heap_setCells_eq g vs o w k (fun e => hn (by rw [e]))⟩
  · induction vs generalizing o w with
    | nil => rfl
    | cons v r ih => rw [World.setCells, ih]; rfl
  · induction vs generalizing o w with
    | nil => rfl
    | cons v r ih => rw [World.setCells, ih]; rfl
  · induction vs generalizing o w with
    | nil => rfl
    | cons v r ih => rw [World.setCells, ih]; rfl
theorem isSome_setCells' (b : Nat) (vs : List Value) (o : Nat) (w : World) (k : Nat) (hk : (w.cell? ⟨b, k, none⟩).isSome = true) (h : ∀ j, j < vs.length → (w.cell? ⟨b, o + j, none⟩).isSome = true) : ((w.setCells b o vs).cell? ⟨b, k, none⟩).isSome = true := by
  by_cases hin : o ≤ k ∧ k < o + vs.length
  · have := World.cell?_setCells_in b vs o w h (k - o) (by omega)
    rw [show o + (k - o) = k by omega] at this
    rw [this]; rfl
  · rw [World.cell?_setCells_out b vs o w _ (fun _ _ => by simp; omega)]; exact hk
theorem OwnO.append {size bytes : Nat} {v : Value} {n : Nat} {xs : List Value} (h : OwnO w size v n xs) {t ty e : TypeId} {i : TypeInfo} {z : Value} (ht : P.underlying t = some (.slice e)) (hi : P.info? e = some i) (hz : i.zero = some z) (hsize : i.size = size) (hby : i.bytes = bytes)
    (hzs : z.cells.size = size) (hsz : 0 < size) (a : Addr) (m c : Nat) (news : List Value) (hl : news.length = m * size) (hnews : ∀ j u, news[j]? = some u → w.cell? (a.add j) = some u) (h1 : ∀ u ∈ news, u.oneCell' = true) (h63 : n + m ≤ maxLen) (hbytes : (n + m) * bytes ≤ 140737488355328) :
    ∃ v' w', (Builtin.append_ #[t, t] ty #[v, .slice (some a) m c]).run P w = .ok v' w' ∧ OwnO w' size v' (n + m) (xs ++ news) ∧ w.grownBy w' v.ownBlock ∧ ∀ k, v'.ownBlock = some k → v.ownBlock = some k ∨ (w.heap.size ≤ k ∧ k < w'.heap.size) := by
  have hx := h.length
  have fresh : ∀ v' w', w'.ownsRow w.heap.size e size v' (n + m) (xs ++ news) → w.grownBy w' none → OwnO w' size v' (n + m) (xs ++ news) ∧ w.grownBy w' v.ownBlock ∧ ∀ k, v'.ownBlock = some k → v.ownBlock = some k ∨ (w.heap.size ≤ k ∧ k < w'.heap.size) := fun v' w' r1 r2 =>
    ⟨OwnO.of_row r1, ⟨r2.os, r2.tape, r2.output, r2.size, fun k hk _ => r2.block k hk (by simp)⟩, fun k hk => Or.inr (r1.lt k hk)⟩
  rcases h with ⟨rfl, rfl, rfl⟩ | ⟨g, off, cap, rfl, g1, g2, g3, g4, g5, g6⟩
  · obtain ⟨v', w', hrun, r1, r2, _⟩ := run_append_own (P := P) w w.heap.size t ty e i z size bytes ht hi hz hsize hby hzs hsz (.slice none 0 0) 0 [] (World.ownsRow_nil w _ e size) a m c news hl hnews h1 h63 hbytes (Nat.le_refl _)
    exact ⟨v', w', hrun, fresh v' w' r1 r2⟩
  · by_cases hr : n + m ≤ cap
    · subst hsize
      have hcap : n * i.size + news.length ≤ cap * i.size := by rw [hl, ← Nat.add_mul]; exact Nat.mul_le_mul_right _ hr
      have hspare : ∀ j, j < news.length → (w.cell? ⟨g, off + n * i.size + j, none⟩).isSome = true ∧ w.frozen? ⟨g, off + n * i.size + j, none⟩ = false := fun j hj => by
        rw [Nat.add_assoc]; exact g5 (n * i.size + j) (by omega)
      have hrun := run_append_room_cells (P := P) w t ty e i ht hi g off n cap a m c news hl hnews h1 hr (fun j hj => (hspare j hj).1) (fun j hj => (hspare j hj).2)
      refine ⟨_, _, hrun, Or.inr ⟨g, off, cap, rfl, hr, g2, by rw [List.length_append, hx, hl, Nat.add_mul], by rw [size_setCells]; exact g4, fun j hj => ⟨?_, ?_⟩, fun j hj => ?_⟩, grown_setCells _ _ _ _, fun k hk => Or.inl hk⟩
      · exact isSome_setCells' g news (off + n * i.size) w (off + j) (g5 j hj).1 (fun q hq => (hspare q hq).1)
      · rw [World.frozen?_setCells]; exact (g5 j hj).2
      · by_cases hjn : j < n * i.size
        · rw [World.cell?_setCells_out g news _ w _ (fun _ _ => by simp; omega), g6 j hjn, List.getElem?_append_left (by omega)]
        · have hj2 : j - n * i.size < news.length := by rw [hl]; rw [Nat.add_mul] at hj; omega
          have := World.cell?_setCells_in g news (off + n * i.size) w (fun q hq => (hspare q hq).1) (j - n * i.size) hj2
          rw [show off + n * i.size + (j - n * i.size) = off + j by omega] at this
          rw [this, List.getElem?_append_right (by omega), hx, List.getElem?_eq_getElem hj2]
    · obtain ⟨v', w', hrun, r1, r2⟩ := run_append_arg_grows (P := P) w t ty e i z size bytes ht hi hz hsize hby hzs hsz ⟨g, off, none⟩ n cap xs hx (fun j u hj => by
        have hjx := (List.getElem?_eq_some_iff.1 hj).1
        rw [Addr.add_lit, g6 j (by omega)]; exact hj) a m c news hl hnews (by omega) h63 hbytes
      exact ⟨v', w', hrun, fresh v' w' r1 r2⟩
theorem OwnO.cells {size : Nat} {g off cap : Nat} {n : Nat} {xs : List Value} (h : OwnO w size (.slice (some ⟨g, off, none⟩) n cap) n xs) : ∀ j, j < n * size → w.cell? ⟨g, off + j, none⟩ = xs[j]? := by
  rcases h with ⟨h0, _⟩ | ⟨g', off', cap', e, g1, g2, g3, g4, g5, g6⟩
  · cases h0
  · cases e; exact g6
theorem OwnO.tail {size : Nat} {v : Value} {n : Nat} {xs : List Value} (h : OwnO w size v (n + 1) xs) (hsz : 0 < size) : ∃ g off cap, v = .slice (some ⟨g, off, none⟩) (n + 1) cap ∧ n + 1 ≤ cap ∧ cap ≤ maxLen ∧
    OwnO w size (.slice (if cap = 1 then some ⟨g, off, none⟩ else some ⟨g, off + size, none⟩) n (cap - 1)) n (xs.drop size) := by
  have hx := h.length
  rcases h with ⟨_, h0, _⟩ | ⟨g, off, cap, rfl, g1, g2, g3, g4, g5, g6⟩
  · omega
  · refine ⟨g, off, cap, rfl, g1, g2, ?_⟩
    have hm1 : (n + 1) * size = n * size + size := by rw [Nat.add_mul, Nat.one_mul]
    by_cases hc : cap = 1
    · subst hc
      have hn : n = 0 := by omega
      subst hn
      rw [if_pos rfl]
      refine Or.inr ⟨g, off, 0, rfl, Nat.le_refl _, Nat.zero_le _, by simp; omega, g4, fun j hj => by simp at hj, fun j hj => by simp at hj⟩
    · rw [if_neg hc]
      have hc1 : cap * size = (cap - 1) * size + size := by
        have : cap = (cap - 1) + 1 := by omega
        rw [this, Nat.add_mul, Nat.one_mul]; simp
      refine Or.inr ⟨g, off + size, cap - 1, rfl, by omega, by omega, by simp [hx, hm1], g4, fun j hj => ?_, fun j hj => ?_⟩
      · rw [Nat.add_assoc]; exact g5 (size + j) (by omega)
      · rw [Nat.add_assoc, g6 (size + j) (by omega), List.getElem?_drop]
end
section
variable {P : Program} (w : World) {ops : Array Oper} {rest : List Oper} {o : Oper} {a : Act} {Q : Exit → Act → World → Prop}
theorem wpO_appendO {K : Act → World → Prop} (s x : Operand) (t : TypeId) (hop : o.op = Op.call { callee := Callee.builtin Builtin.append, args := #[s, x], argTypes := #[t, t] })
    (e : TypeId) (i : TypeInfo) (z : Value) (size bytes : Nat) (ht : P.underlying t = some (.slice e)) (hi : P.info? e = some i) (hz : i.zero = some z) (hsize : i.size = size) (hby : i.bytes = bytes) (hzs : z.cells.size = size) (hsz : 0 < size)
    (v : Value) (n : Nat) (xs : List Value) (hs : a.eval s = v) (h : OwnO w size v n xs) (ad : Addr) (m c : Nat) (news : List Value) (hx : a.eval x = .slice (some ad) m c) (hl : news.length = m * size) (hnews : ∀ j u, news[j]? = some u → w.cell? (ad.add j) = some u) (h1 : ∀ u ∈ news, u.oneCell' = true)
    (h63 : n + m ≤ maxLen) (hbytes : (n + m) * bytes ≤ 140737488355328)
    (hK : ∀ v' w', OwnO w' size v' (n + m) (xs ++ news) → w.grownBy w' v.ownBlock → (∀ k, v'.ownBlock = some k → v.ownBlock = some k ∨ (w.heap.size ≤ k ∧ k < w'.heap.size)) → K (a.put o.dst v') w') : Oper.wp P o a w K Q := by
  obtain ⟨v', w', hrun, r1, r2, r3⟩ := h.append (P := P) (ty := o.type) ht hi hz hsize hby hzs hsz ad m c news hl hnews h1 h63 hbytes
  unfold Oper.wp
  simp [execOp, hop, resolve, invoke, builtin, hs, hx, hrun, Result.andThen]
  exact hK v' w' r1 r2 r3
theorem wpList_appendO (hg : o.guard = none) (s x : Operand) (t : TypeId) (hop : o.op = Op.call { callee := Callee.builtin Builtin.append, args := #[s, x], argTypes := #[t, t] })
    (e : TypeId) (i : TypeInfo) (z : Value) (size bytes : Nat) (ht : P.underlying t = some (.slice e)) (hi : P.info? e = some i) (hz : i.zero = some z) (hsize : i.size = size) (hby : i.bytes = bytes) (hzs : z.cells.size = size) (hsz : 0 < size)
    (v : Value) (n : Nat) (xs : List Value) (hs : a.eval s = v) (h : OwnO w size v n xs) (ad : Addr) (m c : Nat) (news : List Value) (hx : a.eval x = .slice (some ad) m c) (hl : news.length = m * size) (hnews : ∀ j u, news[j]? = some u → w.cell? (ad.add j) = some u) (h1 : ∀ u ∈ news, u.oneCell' = true)
    (h63 : n + m ≤ maxLen) (hbytes : (n + m) * bytes ≤ 140737488355328)
    (hK : ∀ v' w', OwnO w' size v' (n + m) (xs ++ news) → w.grownBy w' v.ownBlock → (∀ k, v'.ownBlock = some k → v.ownBlock = some k ∨ (w.heap.size ≤ k ∧ k < w'.heap.size)) → wpList P ops Q rest (a.put o.dst v') w') : wpList P ops Q (o :: rest) a w :=
  wpList_plain hg fun _ hK' => wpO_appendO w s x t hop e i z size bytes ht hi hz hsize hby hzs hsz v n xs hs h ad m c news hx hl hnews h1 h63 hbytes fun v' w' r1 r2 r3 => hK' _ _ (hK v' w' r1 r2 r3)
end
end Go.Tr

namespace Go.Tr
open Go.RowKit
abbrev Part := World → (Nat → Prop) → Prop
def Fr (F : Nat → Prop) (tau : Nat → Nat) (j : Nat) : Nat → Prop := fun k => F k ∧ tau k = j
def Comp (X : Nat → Part) (w : World) (F : Nat → Prop) : Prop := (∀ k, F k → k < w.heap.size) ∧ ∃ tau, ∀ j, X j w (Fr F tau j)
structure Parts (X : Nat → Part) : Prop where
  kept : ∀ j (w w' : World) F, X j w F → (∀ k, F k → k < w.heap.size → w'.heap[k]? = w.heap[k]?) → X j w' F
  mono : ∀ j (w : World) F G, X j w F → (∀ k, F k → G k) → X j w G
variable {X : Nat → Part} {w w' : World} {F : Nat → Prop}
theorem Comp.below (hp : Parts X) (h : Comp X w F) (hb : Below w.heap.size w w') : Comp X w' F :=
  ⟨fun k hk => Nat.lt_of_lt_of_le (h.1 k hk) hb.size, h.2.imp fun _ ht j => hp.kept j w w' _ (ht j) (fun k _ hl => hb.block k hl)⟩
theorem grow_lt {w w' : World} (h : ∀ k, F k → k < w.heap.size) (hs : w.heap.size ≤ w'.heap.size) : ∀ k, grow F w w' k → k < w'.heap.size := fun k hk => by
  rcases hk with hk | hk
  · have := h k hk; omega
  · exact hk.2
theorem Comp.other {tau : Nat → Nat} {U : Nat → Prop} (hp : Parts X) (hF : ∀ k, F k → k < w.heap.size) (i j : Nat) (h : X j w (Fr F tau j)) (ho : Only U w w') (hU : ∀ k, U k → F k ∧ tau k ≠ j) :
    X j w' (Fr (grow F w w') (fun k => if k < w.heap.size then tau k else i) j) := by
  refine hp.mono j w' _ _ (hp.kept j w w' _ h (fun k hk hl => ho.block k hl (fun hu => (hU k hu).2 hk.2))) (fun k hk => ⟨Or.inl hk.1, ?_⟩)
  show (if k < w.heap.size then tau k else i) = j
  rw [if_pos (hF k hk.1)]; exact hk.2
theorem Comp.self {tau : Nat → Nat} {X' : Nat → Part} (hp : Parts X') (hF : ∀ k, F k → k < w.heap.size) (i : Nat) (h : X' i w' (grow (Fr F tau i) w w')) :
    X' i w' (Fr (grow F w w') (fun k => if k < w.heap.size then tau k else i) i) := by
  refine hp.mono i w' _ _ h (fun k hk => ?_)
  rcases hk with hk | hk
  · refine ⟨Or.inl hk.1, ?_⟩
    show (if k < w.heap.size then tau k else i) = i
    rw [if_pos (hF k hk.1)]; exact hk.2
  · refine ⟨Or.inr hk, ?_⟩
    show (if k < w.heap.size then tau k else i) = i
    rw [if_neg (by omega)]
theorem Comp.part1 (hp : Parts X) (h : Comp X w F) (i : Nat) : ∃ G : Nat → Prop, (∀ k, G k → F k) ∧ X i w G ∧ (∀ j, j ≠ i → ∃ H : Nat → Prop, (∀ k, H k → F k ∧ ¬ G k) ∧ X j w H) ∧
    ∀ (X' : Nat → Part) (w' : World), Parts X' → (∀ j, j ≠ i → X' j = X j) → X' i w' (grow G w w') → Only G w w' → Comp X' w' (grow F w w') ∧ Only F w w' := by
  obtain ⟨hF, tau, ht⟩ := h
  refine ⟨Fr F tau i, fun k hk => hk.1, ht i, fun j hj => ⟨Fr F tau j, fun k hk => ⟨hk.1, fun e => hj (by rw [← hk.2, e.2])⟩, ht j⟩, fun X' w' hp' he hi ho => ⟨⟨grow_lt hF ho.size, fun k => if k < w.heap.size then tau k else i, fun j => ?_⟩, ho.mono (fun k hk => hk.1)⟩⟩
  by_cases hj : j = i
  · subst hj; exact Comp.self hp' hF j hi
  · rw [he j hj]
    exact Comp.other hp hF i j (ht j) ho (fun k hk => ⟨hk.1, fun e => hj (by rw [← e, hk.2])⟩)
theorem Comp.part2 (hp : Parts X) (h : Comp X w F) (i l : Nat) (hil : i ≠ l) : ∃ G H : Nat → Prop, (∀ k, G k → F k) ∧ (∀ k, H k → F k) ∧ (∀ k, G k → ¬ H k) ∧ X i w G ∧ X l w H ∧
    ∀ (X' : Nat → Part) (w' : World), Parts X' → (∀ j, j ≠ i → j ≠ l → X' j = X j) → X' i w' (grow G w w') → X' l w' H → Only (fun k => G k ∨ H k) w w' → Comp X' w' (grow F w w') ∧ Only F w w' := by
  obtain ⟨hF, tau, ht⟩ := h
  refine ⟨Fr F tau i, Fr F tau l, fun k hk => hk.1, fun k hk => hk.1, fun k hk hl => hil (by rw [← hk.2, hl.2]), ht i, ht l, fun X' w' hp' he hi hl ho => ⟨⟨grow_lt hF ho.size, fun k => if k < w.heap.size then tau k else i, fun j => ?_⟩, ho.mono (fun k hk => hk.elim (·.1) (·.1))⟩⟩
  by_cases hj : j = i
  · subst hj; exact Comp.self hp' hF j hi
  · by_cases hjl : j = l
    · subst hjl
      refine hp'.mono j w' _ _ hl (fun k hk => ⟨Or.inl hk.1, ?_⟩)
      show (if k < w.heap.size then tau k else i) = j
      rw [if_pos (hF k hk.1)]; exact hk.2
    · rw [he j hj hjl]
      refine Comp.other hp hF i j (ht j) ho (fun k hk => ?_)
      rcases hk with hk | hk
      · exact ⟨hk.1, fun e => hj (by rw [← e, hk.2])⟩
      · exact ⟨hk.1, fun e => hjl (by rw [← e, hk.2])⟩
theorem Comp.read (h : Comp X w F) (i : Nat) : ∃ G : Nat → Prop, (∀ k, G k → F k) ∧ X i w G := by
  obtain ⟨hF, tau, ht⟩ := h
  exact ⟨_, fun k hk => hk.1, ht i⟩
end Go.Tr

namespace Go.Tr
variable {P : Program} {ops : Array Oper} {Q : Exit → Act → World → Prop} {md : Region.Mode} {S : World → Prop}
theorem at_drop {l : List Oper} {i : Nat} {o : Oper} (h : (l.drop i).head? = some o) : l[i]? = some o := by
  rw [← h, List.head?_drop]
theorem readyH {fuel : Nat} {listed : Array Bool} {a : Act} {w : World} {i : Nat} {o : Oper} {rs : List Nat} (ho : (ops.toList.drop i).head? = some o)
    (h : ∀ K' : Act → World → Prop, Shut (∀ a w, S w → (S w → wpAnyH P md ops Q S fuel (listed.setIfInBounds i true) a w) → K' a w) → if Region.wanted o (yielded ops a.tmps) = true then Oper.wp P o a w K' Q else K' (a.put o.dst undef) w)
    (hs : AllReadyH P md ops Q S fuel listed a w rs) : AllReadyH P md ops Q S fuel listed a w (i :: rs) :=
  AllReadyH.cons (by have := at_drop ho; simpa using this) h hs
theorem takeH (i : Nat) {oi : Oper} {v : Value} {fuel : Nat} {listed : Array Bool} {a : Act} {w : World} (ho : (ops.toList.drop i).head? = some oi)
    (hs : Region.noSelect ops = true) (hf : Region.free md ops listed i = true) (hr : (Region.ready md ops listed).contains i = true)
    (hQ : ∀ c a w, Q (.panic c) (a.put oi.dst v) w → Q (.panic c) a w) (hw : Region.wanted oi (yielded ops a.tmps) = true) (hy : ∀ w, S w → (execOp a.eval oi).run P w = .ok (.value v) w) (hS : S w)
    (h : wpAnyH P md ops Q S fuel (listed.setIfInBounds i true) (a.put oi.dst v) w) : wpAnyH P md ops Q S (fuel + 1) listed a w :=
  wpAnyH_take (by have := at_drop ho; simpa using this) hs hf hr hQ (Or.inl ⟨hw, hy⟩) hS h
def nop (o : Oper) : Oper := { o with dst := none, op := .move (.const undef), guard := none }
def lastOps (ops : Array Oper) (l : Nat) : Array Oper := ops.modify l nop
def LastQ (P : Program) (ops : Array Oper) (Q : Exit → Act → World → Prop) (l : Nat) : Exit → Act → World → Prop
  | .normal, a, w => wpOp P ops Q l (fun a' w' => Q .normal a' w') a w
  | e, a, w => Q e a w
def under (md : Region.Mode) (ops : Array Oper) (j : Nat) : Nat → Nat → Bool
  | 0, _ => false
  | n + 1, i => match ops[i]? with | some o => o.after.any (fun e => Region.binds md e && (e.on == j || under md ops j n e.on)) | none => false
def Closed (md : Region.Mode) (ops : Array Oper) (listed : Array Bool) : Prop := ∀ (i : Nat) (o : Oper), ops[i]? = some o → listed.getD i false = true → ∀ e ∈ o.after, Region.binds md e = true → listed.getD e.on false = true
theorem under_spec {listed : Array Bool} (hc : Closed md ops listed) {j : Nat} : ∀ (n i : Nat) (o : Oper), ops[i]? = some o → (∀ e ∈ o.after, Region.binds md e = true → listed.getD e.on false = true) → under md ops j n i = true → listed.getD j false = true
  | 0, _, _, _, _, h => by cases h
  | n + 1, i, o, ho, hall, h => by
    unfold under at h
    rw [ho] at h
    obtain ⟨e, he, hb⟩ := Array.any_eq_true'.1 h
    simp only [Bool.and_eq_true, Bool.or_eq_true, beq_iff_eq] at hb
    obtain ⟨hb, hj | hj⟩ := hb
    · rw [← hj]; exact hall e he hb
    · have hl := hall e he hb
      cases ho' : ops[e.on]? with
      | none => cases n <;> simp [under, ho'] at hj
      | some o' => exact under_spec hc n e.on o' ho' (hc e.on o' ho' hl) hj
theorem Closed.set {listed : Array Bool} (hc : Closed md ops listed) {i : Nat} {o : Oper} (ho : ops[i]? = some o) (hall : ∀ e ∈ o.after, Region.binds md e = true → listed.getD e.on false = true) : Closed md ops (listed.setIfInBounds i true) := by
  have hmono : ∀ k, listed.getD k false = true → (listed.setIfInBounds i true).getD k false = true := fun k hk => by
    by_cases hik : i = k
    · subst hik
      have : i < listed.size := by
        rcases Nat.lt_or_ge i listed.size with h | h
        · exact h
        · simp [Array.getD, Nat.not_lt.2 h] at hk
      simp [this]
    · simp [Array.getElem?_setIfInBounds, hik] at hk ⊢; exact hk
  intro k o' ho' hk e he hb
  refine hmono _ ?_
  by_cases hik : i = k
  · subst hik; rw [ho] at ho'; cases ho'; exact hall e he hb
  · refine hc k o' ho' ?_ e he hb
    simp [Array.getElem?_setIfInBounds, hik] at hk ⊢; exact hk
def lastB (md : Region.Mode) (ops : Array Oper) (l : Nat) : Bool :=
  decide (l < ops.size) && (List.range ops.size).all (fun j => j == l || under md ops j 3 l) &&
  (List.range ops.size).all (fun i => match ops[i]? with | some o => o.after.all (fun e => !Region.binds md e || decide (e.on < i)) && (match o.guard with | some (j, _) => !(j == l) | none => true) | none => false)
theorem lastOps_ne {l i : Nat} (h : i ≠ l) : (lastOps ops l)[i]? = ops[i]? := by unfold lastOps; rw [Array.getElem?_modify, if_neg (Ne.symm h)]
theorem lastOps_eq {l : Nat} : (lastOps ops l)[l]? = ops[l]?.map nop := by unfold lastOps; rw [Array.getElem?_modify, if_pos rfl]
theorem lastOps_after (l i : Nat) : (lastOps ops l)[i]?.map (·.after) = ops[i]?.map (·.after) := by
  by_cases h : i = l
  · subst h; rw [lastOps_eq]; cases ops[i]? <;> rfl
  · rw [lastOps_ne h]
theorem lastOps_ready (md : Region.Mode) (l : Nat) (listed : Array Bool) : Region.ready md (lastOps ops l) listed = Region.ready md ops listed := by
  unfold Region.ready
  have hs : (lastOps ops l).size = ops.size := by simp [lastOps]
  rw [hs]
  apply List.filter_congr
  intro i _
  have := lastOps_after (ops := ops) l i
  cases h1 : (lastOps ops l)[i]? <;> cases h2 : ops[i]? <;> simp [h1, h2] at this ⊢
  rw [this]
theorem letsOut_last {l : Nat} (h : LetsOut (LastQ P ops Q l)) : LetsOut Q := h
theorem wp_last {l : Nat} {o : Oper} {a : Act} {w : World} {K K' : Act → World → Prop} (h : ∀ a w, K a w → K' a w) (hh : o.wp P a w K (LastQ P ops Q l)) : o.wp P a w K' Q := by
  unfold Oper.wp at *
  generalize (execOp a.eval o).run P w = r at *
  cases r with
  | ok n w' =>
    cases n <;> simp only [Oper.upon] at hh ⊢ <;>
      first
        | exact h _ _ hh
        | exact Calls.mono hh (fun e w'' he => by cases e <;> first | exact h _ _ he | exact he)
        | exact Rows.mono hh (fun _ _ he => h _ _ he)
  | halt x w' => cases x <;> simp only [Oper.upon] at hh ⊢ <;> exact hh
theorem wanted_last {l : Nat} {o : Oper} (hg : match o.guard with | some (j, _) => (!(j == l)) = true | none => True) (tmps : Array Value) : Region.wanted o (yielded (lastOps ops l) tmps) = Region.wanted o (yielded ops tmps) := by
  unfold Region.wanted
  cases h : o.guard with
  | none => rfl
  | some p =>
    obtain ⟨j, b⟩ := p
    rw [h] at hg
    simp only [yielded]
    rw [lastOps_ne (by simpa using hg)]
theorem exists_ready {l : Nat} {listed : Array Bool} (hl : l < ops.size) (hb : ∀ (i : Nat) (o : Oper), ops[i]? = some o → ∀ e ∈ o.after, Region.binds md e = true → e.on < i) (hs : listed.size = ops.size) (hun : listed.getD l true = false) : Region.ready md ops listed ≠ [] := by
  induction l using Nat.strongRecOn with
  | _ l ih =>
    obtain ⟨o, ho⟩ : ∃ o, ops[l]? = some o := ⟨ops[l], by simp [hl]⟩
    by_cases hr : ∀ e ∈ o.after, Region.binds md e = true → listed.getD e.on false = true
    · intro h0
      have : l ∈ Region.ready md ops listed := mem_ready.2 ⟨hun, o, ho, hr⟩
      rw [h0] at this; cases this
    · simp only [Classical.not_forall] at hr
      obtain ⟨e, he, hbe, hn⟩ := hr
      have hlt := hb l o ho e he hbe
      refine ih e.on hlt (by omega) ?_
      have : e.on < listed.size := by omega
      simp [this] at hn ⊢
      exact hn
theorem lastB_spec {l : Nat} (h : lastB md ops l = true) : l < ops.size ∧ (∀ j, j < ops.size → j ≠ l → under md ops j 3 l = true) ∧
    (∀ (i : Nat) (o : Oper), ops[i]? = some o → ∀ e ∈ o.after, Region.binds md e = true → e.on < i) ∧ ∀ (i : Nat) (o : Oper), ops[i]? = some o → (match o.guard with | some (j, _) => (!(j == l)) = true | none => True) := by
  unfold lastB at h
  simp only [Bool.and_eq_true, decide_eq_true_eq, List.all_eq_true, List.mem_range] at h
  obtain ⟨⟨h1, h2⟩, h3⟩ := h
  refine ⟨h1, fun j hj hne => ?_, fun i o ho e he hb => ?_, fun i o ho => ?_⟩
  · have := h2 j hj
    simp only [Bool.or_eq_true, beq_iff_eq] at this
    exact this.resolve_left hne
  · have := h3 i (Array.getElem?_eq_some_iff.1 ho).1
    rw [ho] at this
    simp only [Bool.and_eq_true] at this
    have h4 := Array.all_eq_true_iff_forall_mem.1 this.1 e he
    simpa [hb] using h4
  · have := h3 i (Array.getElem?_eq_some_iff.1 ho).1
    rw [ho] at this
    simp only [Bool.and_eq_true] at this
    have h4 := this.2
    cases hg : o.guard with
    | none => trivial
    | some p => obtain ⟨j, b⟩ := p; rw [hg] at h4; exact h4
theorem wpAny_last {l : Nat} (hB : lastB md ops l = true) : ∀ (fuel : Nat) (listed : Array Bool) (a : Act) (w : World), listed.size = ops.size → listed.getD l true = false → Closed md ops listed →
    wpAny P md (lastOps ops l) (LastQ P ops Q l) fuel listed a w → wpAny P md ops Q fuel listed a w := by
  obtain ⟨hl, hw, hb, hg⟩ := lastB_spec hB
  intro fuel
  induction fuel with
  | zero =>
    intro listed a w hs hun hc H
    rw [wpAny, lastOps_ready] at H
    exact absurd H.1 (exists_ready hl hb hs hun)
  | succ fuel ih =>
    intro listed a w hs hun hc H
    rw [wpAny, lastOps_ready] at H
    refine ⟨fun h0 => absurd h0 (exists_ready hl hb hs hun), fun i hi => ?_⟩
    have h1 := H.2 i hi
    by_cases hil : i = l
    · subst hil
      obtain ⟨_, o, ho, hall⟩ := mem_ready.1 hi
      have hempty : Region.ready md ops (listed.setIfInBounds i true) = [] := by
        cases hr : Region.ready md ops (listed.setIfInBounds i true) with
        | nil => rfl
        | cons j r =>
          exfalso
          have hj : j ∈ Region.ready md ops (listed.setIfInBounds i true) := by rw [hr]; simp
          obtain ⟨hjun, oj, hoj, _⟩ := mem_ready.1 hj
          have hjs := (Array.getElem?_eq_some_iff.1 hoj).1
          by_cases hji : j = i
          · subst hji
            rw [show (listed.setIfInBounds j true).getD j true = true by simp [hs, hjs]] at hjun
            cases hjun
          · rw [getD_set_ne true (Ne.symm hji)] at hjun
            have := under_spec hc 3 i o ho hall (hw j hjs hji)
            simp [hs, hjs] at this hjun
            rw [this] at hjun; cases hjun
      have hq : LastQ P ops Q i .normal a w := by
        unfold wpOp at h1
        rw [lastOps_eq, ho] at h1
        simp only [Option.map_some] at h1
        rw [if_pos (by rfl)] at h1
        rcases h1 with h1 | ⟨h1, _⟩
        · have h2 : wpAny P md (lastOps ops i) (LastQ P ops Q i) fuel (listed.setIfInBounds i true) a w := h1
          cases fuel with
          | zero => exact h2.2
          | succ f => exact h2.1 (by rw [lastOps_ready]; exact hempty)
        · exfalso
          have h2 := h1.1
          have h3 : ((execOp a.eval (nop o)).runT P w #[]).2 = #[] := rfl
          rw [h3] at h2
          simp at h2
      refine wpOp_mono (fun a' w' h2 => ?_) hq
      cases fuel with
      | zero => exact ⟨hempty, h2⟩
      | succ f => exact ⟨fun _ => h2, by rw [hempty]; simp⟩
    · have hun' : (listed.setIfInBounds i true).getD l true = false := by rw [getD_set_ne true hil]; exact hun
      obtain ⟨_, o', ho', hall'⟩ := mem_ready.1 hi
      have hc' := hc.set ho' hall'
      unfold wpOp at h1 ⊢
      rw [lastOps_ne hil] at h1
      cases ho : ops[i]? with
      | none => rw [ho] at h1; exact ih _ _ _ (by simpa using hs) hun' hc' h1
      | some o =>
        rw [ho] at h1
        simp only [] at h1 ⊢
        rw [wanted_last (hg i o ho)] at h1
        split
        · rename_i hwt
          rw [if_pos hwt] at h1
          rcases h1 with h1 | ⟨h1, h2⟩
          · exact Or.inl (wp_last (fun a' w' h => ih _ _ _ (by simpa using hs) hun' hc' h) h1)
          · exact Or.inr ⟨h1, letsOut_last h2⟩
        · rename_i hwt
          rw [if_neg hwt] at h1
          exact ih _ _ _ (by simpa using hs) hun' hc' h1
theorem wp_region_lastH {id : Nat} {a : Act} {w : World} (l : Nat) (hm : P.follows .mixedOrders = true) (hB : lastB .any ops l = true) (hS : S w.drew)
    (h : S w.drew → wpAnyH P .any (lastOps ops l) (LastQ P ops Q l) S ops.size (Array.replicate ops.size false) a w.drew) : (Code.region id ops true).wp P Q a w := by
  refine wp_region_any hm (wpAny_last hB _ _ _ _ (by simp) ?_ (fun i o _ hk => ?_) (wpAny_of_held _ _ _ _ (h hS)))
  · have := (lastB_spec hB).1
    simp [this]
  · simp [Array.getElem?_replicate] at hk
    split at hk <;> cases hk
theorem lastH_done {ops' : Array Oper} {l : Nat} {listed : Array Bool} {a : Act} {w : World} {o : Oper} {fuel : Nat} (hr : Region.ready md ops' listed = []) (ho : (ops.toList.drop l).head? = some o) (hw : Region.wanted o (yielded ops a.tmps) = true)
    (h : Oper.wp P o a w (fun a' w' => Q .normal a' w') Q) : wpAnyH P md ops' (LastQ P ops Q l) S fuel listed a w := by
  refine wpAnyH_done hr ?_ _
  show wpOp P ops Q l _ a w
  have := at_drop ho
  unfold wpOp
  rw [show ops[l]? = some o by simpa using this]
  simp only []
  rw [if_pos hw]
  exact Or.inl h
theorem tz (i : Nat) {oi : Oper} {v : Value} {fuel : Nat} {listed : Array Bool} {a : Act} {w : World} (ho : (ops.toList.drop i).head? = some oi)
    (hy : ∀ w, S w → (execOp a.eval oi).run P w = .ok (.value v) w) (h : wpAnyH P md ops Q S fuel (listed.setIfInBounds i true) (a.put oi.dst v) w) (hS : S w := by assumption)
    (hs : Region.noSelect ops = true := by kernel_rfl) (hf : Region.free md ops listed i = true := by kernel_rfl) (hr : (Region.ready md ops listed).contains i = true := by kernel_rfl)
    (hQ : ∀ c a w, Q (.panic c) (a.put oi.dst v) w → Q (.panic c) a w := by exact fun _ _ _ h => h) (hw : Region.wanted oi (yielded ops a.tmps) = true := by rfl) : wpAnyH P md ops Q S (fuel + 1) listed a w :=
  takeH i ho hs hf hr hQ hw hy hS h
end Go.Tr

namespace Go.Tr
open Go.RowKit
structure GS where
  tab : List (Int × (Int × Int))
  q : List (Int × Int)
  last : Int
  wait : Int
def thingV (t : Int × Int) : Value := .agg #[.int .i64 t.1, .int .i64 t.2]
def GS.at (S : GS) (x : Int) : Int × Int := (lookA S.tab x).getD (0, 0)
def GS.color (S : GS) (x : Int) : Int := (S.at x).1
def GS.enter (S : GS) (x : Int) : GS := { tab := putA S.tab x (1, S.last + 1), q := S.q ++ [(x, S.last + 1)], last := S.last + 1, wait := S.wait + 1 }
def GS.put1 (S : GS) (x : Int) : GS := if S.color x = 0 then S.enter x else S
def GS.put (S : GS) (xs : List Int) : GS := xs.foldl GS.put1 S
def GS.putN (S : GS) : List Int → Int
  | [] => 0
  | x :: xs => (if S.color x = 0 then 1 else 0) + (S.put1 x).putN xs
def GS.paint (S : GS) (x : Int) : GS := if S.color x = 2 then S else { S with tab := putA S.tab x (2, 0), wait := if S.color x = 1 then S.wait - 1 else S.wait }
def GS.new : GS := ⟨[], [], 0, 0⟩
def GS.Small (S : GS) (N : Int) : Prop := 0 ≤ S.last ∧ S.last ≤ N ∧ -N ≤ S.wait ∧ S.wait ≤ N ∧ (S.q.length : Int) ≤ N
def GrayAt (T : TypeId) (w : World) (g : Nat) (F : Nat → Prop) (S : GS) : Prop :=
  F g ∧ ∃ bm qv, w.heap[g]? = some (.cells #[.map (some bm), qv, .int .i64 S.last, .int .i64 S.wait] T (0, 0)) ∧ F bm ∧ bm ≠ g ∧ MapI w bm (mapA thingV S.tab) ∧ OwnO w 2 qv S.q.length (ecells S.q) ∧
    ∀ k, qv.ownBlock = some k → F k ∧ k ≠ g ∧ k ≠ bm
theorem GrayAt.mono {T : TypeId} {w : World} {g : Nat} {F G : Nat → Prop} {S : GS} (h : GrayAt T w g F S) (hs : ∀ k, F k → G k) : GrayAt T w g G S := by
  obtain ⟨h1, bm, qv, h2, h3, h4, h5, h6, h7⟩ := h
  exact ⟨hs _ h1, bm, qv, h2, hs _ h3, h4, h5, h6, fun k hk => ⟨hs _ (h7 k hk).1, (h7 k hk).2⟩⟩
theorem GrayAt.lt {T : TypeId} {w : World} {g : Nat} {F : Nat → Prop} {S : GS} (h : GrayAt T w g F S) : g < w.heap.size := by
  obtain ⟨_, bm, qv, h2, _⟩ := h; exact (Array.getElem?_eq_some_iff.1 h2).1
theorem GrayAt.only {T : TypeId} {w w' : World} {g : Nat} {F G : Nat → Prop} {S : GS} (h : GrayAt T w g F S) (ho : Only G w w') (hd : ∀ k, F k → ¬ G k) : GrayAt T w' g F S := by
  have hl := h.lt
  obtain ⟨h1, bm, qv, h2, h3, h4, h5, h6, h7⟩ := h
  exact ⟨h1, bm, qv, (ho.block g hl (hd g h1)).trans h2, h3, h4, h5.kept (ho.block bm h5.lt (hd bm h3)), h6.only ho (fun k hk => hd k (h7 k hk).1), h7⟩
theorem GrayAt.drawn {T : TypeId} {w w' : World} {g : Nat} {F : Nat → Prop} {S : GS} (h : GrayAt T w g F S) (hd : Drawn w w') : GrayAt T w' g F S := by obtain ⟨n, rfl⟩ := hd; exact h
theorem cells_of_block {w : World} {g : Nat} {cs : Array Value} {T : TypeId} (h : w.heap[g]? = some (.cells cs T (0, 0))) (j : Nat) : w.cell? ⟨g, j, none⟩ = cs[j]? ∧ w.frozen? ⟨g, j, none⟩ = false :=
  ⟨cell_of_row w g j cs T (0, 0) h, by simp [World.frozen?, h]⟩
theorem block_setCell {w : World} {g : Nat} {cs : Array Value} {T : TypeId} (h : w.heap[g]? = some (.cells cs T (0, 0))) (j : Nat) (v : Value) : (w.setCell ⟨g, j, none⟩ v).heap[g]? = some (.cells (cs.setIfInBounds j v) T (0, 0)) := by
  simp [World.setCell, Array.getElem?_modify, h]
def nextQ (S : GS) : List (Int × Int) → Option Int × GS
  | [] => (none, { S with q := [] })
  | (x, n) :: r => if S.at x = (1, n) then (some x, { S with q := r }.paint x) else nextQ S r
def GS.next (S : GS) : Option Int × GS := nextQ S S.q
def lenAt (g : Nat) (w : World) : Nat := match w.cell? ⟨g, 1, none⟩ with | some (.slice _ n _) => n | _ => 0
theorem Only.undrew {F : Nat → Prop} {w w' : World} {n : Nat} (h : Only F (w.drewN n) w') : Only F w w' := ⟨h.os, h.tape, h.output, h.size, h.block⟩
theorem GrayAt.painted {T : TypeId} {w w1 w2 : World} {g bm : Nat} {F : Nat → Prop} {S S' : GS} {qv : Value} (f1 : F g) (f3 : F bm) (h4 : bm ≠ g) (hb : w1.heap[g]? = some (.cells #[.map (some bm), qv, .int .i64 S'.last, .int .i64 S'.wait] T (0, 0)))
    (ho : Only F w w1) (hq : OwnO w1 2 qv S'.q.length (ecells S'.q)) (hm : MapI w2 bm (mapA thingV S'.tab)) (hg : w1.grownBy w2 (some bm)) (h7 : ∀ k, qv.ownBlock = some k → F k ∧ k ≠ g ∧ k ≠ bm) : GrayAt T w2 g (grow F w w2) S' ∧ Only F w w2 := by
  have hl : g < w1.heap.size := (Array.getElem?_eq_some_iff.1 hb).1
  refine ⟨⟨Or.inl f1, bm, qv, (hg.block g hl (by simp; exact fun e => h4 e.symm)).trans hb, Or.inl f3, h4, hm, hq.kept (fun k hk => hg.block k (hq.lt k hk) (by simp; exact (h7 k hk).2.2)), fun k hk => ⟨Or.inl (h7 k hk).1, (h7 k hk).2⟩⟩, ho.grown hg (fun k hk => by cases hk; exact Or.inl f3)⟩
theorem exec_lookI {P : Program} {o : Oper} {a : Act} {w : World} (m x : Operand) (t : TypeId) (hop : o.op = Op.lookup t m x false) (k e : TypeId) (ht : P.underlying t = some (.map k e)) (hk : P.underlying k = some (.int .i64))
    (z : Value) (hz : ∀ w, (zeroValue e).run P w = .ok z w) (b : Nat) (l : List (Int × Value)) (hm : a.eval m = .map (some b)) (h : MapI w b l) (y : Int) (hx : a.eval x = .int .i64 y) : (execOp a.eval o).run P w = .ok (.value ((lookA l y).getD z)) w := by
  simp [execOp, hop, hm, hx, h.look ht hk hz false y, Result.andThen]
theorem GrayAt.popped {T T' : TypeId} {w w1 : World} {g bm : Nat} {F : Nat → Prop} {qg qo qc x n : _} {r : List (Int × Int)} {sa : Option Addr} {sc : Nat} {last wait : Int} {tab : List (Int × (Int × Int))} (f1 : grow F w w1 g) (f3 : grow F w w1 bm) (h4 : bm ≠ g)
    (hb : w1.heap[g]? = some (.cells #[.map (some bm), .slice (some ⟨qg, qo, none⟩) (r.length + 1) qc, .int .i64 last, .int .i64 wait] T (0, 0))) (ho : Only F w w1) (hm : MapI w1 bm (mapA thingV tab)) (hq : OwnO w1 2 (.slice sa r.length sc) r.length (List.drop 2 (ecells ((x, n) :: r))))
    (hqb : ∀ k, (Value.slice sa r.length sc).ownBlock = some k → k = qg) (h7 : ∀ k, (Value.slice (some ⟨qg, qo, none⟩) (r.length + 1) qc).ownBlock = some k → grow F w w1 k ∧ k ≠ g ∧ k ≠ bm) :
    Hid (GrayAt T ((w1.setCell ⟨g, 1, none⟩ (.slice sa r.length sc)).alloc (.cells #[.int .i64 x, .int .i64 n] T')) g (fun k => grow F w ((w1.setCell ⟨g, 1, none⟩ (.slice sa r.length sc)).alloc (.cells #[.int .i64 x, .int .i64 n] T')) k ∧ k ≠ w1.heap.size) ⟨tab, r, last, wait⟩) ∧
      Hid (Only F w ((w1.setCell ⟨g, 1, none⟩ (.slice sa r.length sc)).alloc (.cells #[.int .i64 x, .int .i64 n] T'))) ∧
      ((w1.setCell ⟨g, 1, none⟩ (.slice sa r.length sc)).alloc (.cells #[.int .i64 x, .int .i64 n] T')).heap[w1.heap.size]? = some (.cells #[.int .i64 x, .int .i64 n] T' (0, 0)) := by
  have hl : g < w1.heap.size := (Array.getElem?_eq_some_iff.1 hb).1
  have hs : (w1.setCell ⟨g, 1, none⟩ (.slice sa r.length sc)).heap.size = w1.heap.size := by simp [World.setCell]
  generalize hW : (w1.setCell ⟨g, 1, none⟩ (.slice sa r.length sc)).alloc (.cells #[.int .i64 x, .int .i64 n] T') = W
  have hsW : W.heap.size = w1.heap.size + 1 := by rw [← hW]; simp [hs]
  have hk : ∀ k, k ≠ g → k < w1.heap.size → W.heap[k]? = w1.heap[k]? := fun k hk hl' => by rw [← hW, Below.heap_alloc _ _ _ (by rw [hs]; exact hl'), Below.heap_setCell _ _ _ _ hk]
  have hgr : ∀ k, grow F w w1 k → grow F w W k := fun k hk => hk.imp id (fun h => ⟨h.1, by omega⟩)
  refine ⟨⟨⟨hgr _ f1, by omega⟩, bm, .slice sa r.length sc, ?_, ⟨hgr _ f3, Nat.ne_of_lt hm.lt⟩, h4, hm.kept (hk bm h4 hm.lt), ?_, fun k hk' => ?_⟩, ?_, ?_⟩
  · rw [← hW, Below.heap_alloc _ _ _ (by rw [hs]; exact hl)]
    exact block_setCell hb 1 _
  · exact OwnO.kept (n := r.length) (xs := ecells r) hq (fun k hk' => by
      have h := h7 qg rfl
      rw [hqb k hk']
      exact hk qg h.2.1 (by have := hq.lt k hk'; rw [hqb k hk'] at this; exact this))
  · have hlt := hq.lt k hk'
    rw [hqb k hk'] at hlt ⊢
    have h := h7 qg rfl
    exact ⟨⟨hgr _ h.1, by omega⟩, h.2⟩
  · rw [← hW]
    exact ((ho.setCell (by rcases f1 with h | h; exact Or.inl h; exact Or.inr h.1) _).alloc _)
  · rw [← hW, ← hs]
    exact heap_alloc_new _ _
theorem putN_snoc (x : Int) : ∀ (xs : List Int) (S : GS), S.putN (xs ++ [x]) = S.putN xs + if (S.put xs).color x = 0 then 1 else 0
  | [], S => by by_cases h : S.color x = 0 <;> simp [GS.putN, GS.put, h]
  | y :: r, S => by
    simp only [List.cons_append, GS.putN]
    rw [putN_snoc x r (S.put1 y)]
    simp only [GS.put, List.foldl_cons]
    omega
theorem put_snoc (x : Int) (xs : List Int) (S : GS) : S.put (xs ++ [x]) = (S.put xs).put1 x := by simp [GS.put]
theorem GS.Small.enter {S : GS} {N : Int} (h : S.Small N) (x : Int) : (S.enter x).Small (N + 1) := by
  obtain ⟨h1, h2, h3, h4, h5⟩ := h
  refine ⟨?_, ?_, ?_, ?_, ?_⟩ <;> simp [GS.enter] <;> omega
theorem GS.Small.mono {S : GS} {N M : Int} (h : S.Small N) (hm : N ≤ M) : S.Small M := by obtain ⟨h1, h2, h3, h4, h5⟩ := h; exact ⟨h1, by omega, by omega, by omega, by omega⟩
theorem GS.Small.put1 {S : GS} {N : Int} (h : S.Small N) (x : Int) : (S.put1 x).Small (N + 1) := by
  unfold GS.put1; split
  · exact h.enter x
  · exact h.mono (by omega)
theorem GS.Small.put : ∀ (xs : List Int) {S : GS} {N : Int}, S.Small N → (S.put xs).Small (N + xs.length)
  | [], S, N, h => by simpa [GS.put] using h
  | x :: r, S, N, h => by have := GS.Small.put r (h.put1 x); simp only [GS.put, List.foldl_cons] at this ⊢; exact this.mono (by simp; omega)
theorem look_thing (S : GS) (x : Int) : (lookA (mapA thingV S.tab) x).getD (.agg #[.int .i64 0, .int .i64 0]) = .agg #[.int .i64 (S.at x).1, .int .i64 (S.at x).2] := by
  rw [lookA_mapA, GS.at]
  cases lookA S.tab x <;> rfl
end Go.Tr

namespace Go.Tr
open Go.RowKit
def uv (x : Nat) : Value := .int .u64 (x : Int)
def us (xs : List Nat) : List Value := xs.map uv
def cntB (B : Nat → Bool) : Nat → Nat
  | 0 => 0
  | n + 1 => cntB B n + if B n then 1 else 0
structure BMap (T U : TypeId) (w : World) (g b : Nat) (n : Nat) (B : Nat → Bool) (ws : List Nat) : Prop where
  block : w.heap[g]? = some (.cells #[.int .i64 n, .slice (some ⟨b, 0, none⟩) ws.length ws.length, .int .i64 (cntB B n)] T (0, 0))
  words : w.heap[b]? = some (.cells (us ws).toArray U (0, 0))
  ne : g ≠ b
  len : ws.length = (n + 63) / 64
  small : ∀ x ∈ ws, x < 18446744073709551616
  bit : ∀ i, B i = (ws.getD (i / 64) 0).testBit (i % 64)
  off : ∀ i, n ≤ i → B i = false
theorem bit_test (x k : Nat) (hx : x < 18446744073709551616) : (bits .and .u64 ((x : Int) / 2 ^ k) 1 == 1) = x.testBit k := by
  have e1 : ((x : Int) / 2 ^ k) = ((x / 2 ^ k : Nat) : Int) := by push_cast; rfl
  have h2 : x / 2 ^ k < 18446744073709551616 := Nat.lt_of_le_of_lt (Nat.div_le_self _ _) hx
  rw [e1, show (1 : Int) = ((1 : Nat) : Int) from rfl, u64_and_nat _ _ h2 (by decide), Nat.and_one_is_mod, Nat.testBit_eq_decide_div_mod_eq]
  rw [Bool.eq_iff_iff]
  simp
  omega
theorem BMap.kept {T U : TypeId} {w w2 : World} {g b n : Nat} {B : Nat → Bool} {ws : List Nat} (h : BMap T U w g b n B ws) (h1 : w2.heap[g]? = w.heap[g]?) (h2 : w2.heap[b]? = w.heap[b]?) : BMap T U w2 g b n B ws := ⟨h1.trans h.block, h2.trans h.words, h.ne, h.len, h.small, h.bit, h.off⟩
theorem BMap.lt {T U : TypeId} {w : World} {g b n : Nat} {B : Nat → Bool} {ws : List Nat} (h : BMap T U w g b n B ws) : g < w.heap.size ∧ b < w.heap.size := ⟨(Array.getElem?_eq_some_iff.1 h.block).1, (Array.getElem?_eq_some_iff.1 h.words).1⟩
theorem BMap.word {T U : TypeId} {w : World} {g b n : Nat} {B : Nat → Bool} {ws : List Nat} (h : BMap T U w g b n B ws) {i : Nat} (hi : i < n) : ∃ x, Hid (ws[i / 64]? = some x) ∧ w.cell? ⟨b, i / 64, none⟩ = some (.int .u64 x) ∧ w.frozen? ⟨b, i / 64, none⟩ = false ∧ x < 18446744073709551616 ∧ i / 64 < ws.length ∧ Hid (B i = x.testBit (i % 64)) := by
  have hlt : i / 64 < ws.length := by rw [h.len]; omega
  have hx : ws[i / 64]? = some ws[i / 64] := List.getElem?_eq_getElem hlt
  refine ⟨ws[i / 64], hx, ?_, by simp [World.frozen?, h.words], h.small _ (List.mem_of_getElem? hx), hlt, ?_⟩
  · rw [cell_of_row w b (i / 64) _ _ (0, 0) h.words]
    simp [us, hx, uv]
  · show _ = _
    rw [h.bit i]
    simp [List.getD, hx]
def setB (B : Nat → Bool) (i : Nat) (on : Bool) : Nat → Bool := fun k => if k = i then on else B k
theorem cntB_le (B : Nat → Bool) : ∀ n, cntB B n ≤ n
  | 0 => Nat.le_refl _
  | n + 1 => by have := cntB_le B n; unfold cntB; split <;> omega
theorem cntB_congr {B C : Nat → Bool} : ∀ {n}, (∀ k, k < n → B k = C k) → cntB B n = cntB C n
  | 0, _ => rfl
  | n + 1, h => by unfold cntB; rw [cntB_congr (fun k hk => h k (by omega)), h n (by omega)]
theorem cntB_set {B : Nat → Bool} {on : Bool} {i : Nat} : ∀ {n}, i < n → B i ≠ on → ((cntB (setB B i on) n : Nat) : Int) = cntB B n - 1 + if on = true then 2 else 0
  | 0, h, _ => by omega
  | n + 1, h, hne => by
    unfold cntB
    by_cases e : i = n
    · subst e
      have e1 : cntB (setB B i on) i = cntB B i := cntB_congr (fun k hk => by unfold setB; rw [if_neg (by omega)])
      rw [e1]
      have e2 : setB B i on i = on := by simp [setB]
      rw [e2]
      cases on <;> cases hb : B i <;> simp_all <;> omega
    · have ih := cntB_set (n := n) (by omega) hne
      have e2 : setB B i on n = B n := by unfold setB; rw [if_neg (by omega)]
      rw [e2]
      push_cast
      rw [ih]
      omega
theorem cntB_pos {B : Nat → Bool} {on : Bool} {i n : Nat} (hi : i < n) (hne : B i ≠ on) : on = false → 1 ≤ cntB B n := fun e => by
  have := cntB_set hi hne
  subst e
  simp at this
  omega
theorem xor_bit_val (x k : Nat) (hx : x < 18446744073709551616) (hk : k < 64) : bits .xor .u64 (x : Int) (IntKind.u64.wrap (2 ^ k)) = ((x ^^^ 2 ^ k : Nat) : Int) := by
  have h2 : (2 : Nat) ^ k < 18446744073709551616 := by have := Nat.pow_lt_pow_right (a := 2) (by decide) hk; simpa using this
  have e1 : IntKind.u64.wrap (2 ^ k) = ((2 ^ k : Nat) : Int) := by
    rw [IntKind.wrap_u64]
    have : ((2 : Int) ^ k) = ((2 ^ k : Nat) : Int) := by push_cast; rfl
    rw [this]
    generalize (2 : Nat) ^ k = p at *
    omega
  rw [e1, u64_xor_nat _ _ hx h2]
theorem setCell_us {w : World} {b : Nat} {ws : List Nat} {U : TypeId} (h : w.heap[b]? = some (.cells (us ws).toArray U (0, 0))) (j y : Nat) : (w.setCell ⟨b, j, none⟩ (.int .u64 (y : Int))).heap[b]? = some (.cells (us (ws.set j y)).toArray U (0, 0)) := by
  simp [World.setCell, Array.getElem?_modify, h, us, List.map_set, uv]
theorem BMap.turned {T U : TypeId} {w w1 : World} {g b n : Nat} {B : Nat → Bool} {ws : List Nat} {x i : Nat} {v on : Bool} (h : BMap T U w g b n B ws) (hi : i < n) (hx : ws[i / 64]? = some x) (hv : v = B i) (hne : on ≠ v)
    (h1 : w1.heap[g]? = some (.cells #[.int .i64 n, .slice (some ⟨b, 0, none⟩) ws.length ws.length, .int .i64 (cntB (setB B i on) n)] T (0, 0))) (h2 : w1.heap[b]? = some (.cells (us (ws.set (i / 64) (x ^^^ 2 ^ (i % 64)))).toArray U (0, 0))) : BMap T U w1 g b n (setB B i on) (ws.set (i / 64) (x ^^^ 2 ^ (i % 64))) := by
  have hil : i / 64 < ws.length := (List.getElem?_eq_some_iff.1 hx).1
  have hsx := h.small x (List.mem_of_getElem? hx)
  refine ⟨by rw [List.length_set]; exact h1, h2, h.ne, by rw [List.length_set]; exact h.len, fun y hy => ?_, fun k => ?_, fun k hk => ?_⟩
  · rcases List.mem_or_eq_of_mem_set hy with hy | rfl
    · exact h.small y hy
    · exact Nat.xor_lt_two_pow (n := 64) (by simpa using hsx) (Nat.pow_lt_pow_right (by decide) (Nat.mod_lt _ (by decide)))
  · unfold setB
    by_cases e : k / 64 = i / 64
    · have e1 : (ws.set (i / 64) (x ^^^ 2 ^ (i % 64))).getD (k / 64) 0 = x ^^^ 2 ^ (i % 64) := by rw [e]; simp [List.getD, hil]
      rw [e1, Nat.testBit_xor, Nat.testBit_two_pow]
      have e2 : ws.getD (k / 64) 0 = x := by rw [e]; simp [List.getD, hx]
      by_cases e3 : k = i
      · subst e3
        rw [if_pos rfl]
        have := h.bit k
        rw [e2] at this
        rw [← this, ← hv]
        simp
        cases on <;> cases v <;> simp_all
      · rw [if_neg e3]
        have := h.bit k
        rw [e2] at this
        rw [this]
        have : ¬ i % 64 = k % 64 := by omega
        simp [this]
    · rw [if_neg (by rintro rfl; exact e rfl)]
      have e1 : (ws.set (i / 64) (x ^^^ 2 ^ (i % 64))).getD (k / 64) 0 = ws.getD (k / 64) 0 := by simp [List.getD, List.getElem?_set_ne (Ne.symm e)]
      rw [e1]; exact h.bit k
  · unfold setB
    rw [if_neg (by omega)]
    exact h.off k hk
end Go.Tr
namespace Go.Proofs.YtcdpnfchmpncjaaGreatDoor
open Go.RowKit Go.Tr
variable {w w' : World} {g b n : Nat} {B : Nat → Bool} {ws : List Nat}
abbrev BM (w : World) (g b n : Nat) (B : Nat → Bool) (ws : List Nat) : Prop := BMap 174 34 w g b n B ws
theorem mlen_any (w : World) (h : BM w g b n B ws) : Calls Tryz.prog 174 #[.pointer (some ⟨g, 0, none⟩)] w fun e w' => e = .returned (.int .i64 n) ∧ w = w' := by
  have c0 := cell_of_row w g 0 _ _ (0, 0) h.block
  simp at c0
  clear h
  go_enter Tryz.func174, Tryz.ntmps174
  go_wp2_with fail
  go_ret
  exact ⟨rfl, rfl⟩
theorem mcount_any (w : World) (h : BM w g b n B ws) : Calls Tryz.prog 42 #[.pointer (some ⟨g, 0, none⟩)] w fun e w' => e = .returned (.int .i64 (cntB B n)) ∧ w = w' := by
  have c0 := cell_of_row w g 2 _ _ (0, 0) h.block
  simp at c0
  clear h
  go_enter Tryz.func42, Tryz.ntmps42
  go_wp2_with fail
  go_ret
  exact ⟨rfl, rfl⟩
set_option maxRecDepth 100000 in
theorem mhasb_any (i : Nat) (w : World) (h : BM w g b n B ws) (hn : n ≤ 1048576) (hi : i < n) : Calls Tryz.prog 209 #[.pointer (some ⟨g, 0, none⟩), .int .i64 i] w fun e w' => e = .returned (.bool (B i)) ∧ w = w' := by
  have c1 := cell_of_row w g 1 _ _ (0, 0) h.block
  simp at c1
  obtain ⟨x, HX, c2, f2, hsm, hwi, HB⟩ := h.word hi
  obtain ⟨wl, hwl⟩ : ∃ wl, wl = ws.length := ⟨_, rfl⟩
  have hwle : wl ≤ 16385 := by rw [hwl, h.len]; omega
  rw [← hwl] at c1 hwi
  have HL := Lib.hid (mlen_any w h)
  have hi0 : (0 : Int) ≤ (i : Int) := by omega
  have hin : (i : Int) < (n : Int) := by omega
  have HT := Lib.hid (bit_test x (i % 64) hsm)
  clear h hwl
  go_enter Tryz.func209, Tryz.ntmps209
  go_wp2_with fail
  refine HL.out.mono ?_
  rintro e w' ⟨rfl, rfl⟩
  go_wp2_with fail
  go_ret
  exact ⟨by rw [HT.out, HB.out]; rfl, rfl⟩
set_option maxRecDepth 100000 in
theorem mturn_any (i : Nat) (on : Bool) (w : World) (h : BM w g b n B ws) (hn : n ≤ 1048576) (hi : i < n) : Calls Tryz.prog 201 #[.pointer (some ⟨g, 0, none⟩), .int .i64 i, .bool on] w fun e w' => e = .returned (.tuple #[]) ∧ ∃ ws', BM w' g b n (setB B i on) ws' ∧ Only (fun k => k = g ∨ k = b) w w' ∧ w'.heap.size = w.heap.size := by
  have HH := Lib.hid (mhasb_any i w h hn hi)
  have c1 := cell_of_row w g 1 _ _ (0, 0) h.block
  have c2 := cell_of_row w g 2 _ _ (0, 0) h.block
  have fg : w.frozen? ⟨g, 2, none⟩ = false := by simp [World.frozen?, h.block]
  simp at c1 c2
  obtain ⟨x, HX, cx, fx, hsm, hwi, HB⟩ := h.word hi
  obtain ⟨wl, hwl⟩ : ∃ wl, wl = ws.length := ⟨_, rfl⟩
  have hwle : wl ≤ 16385 := by rw [hwl, h.len]; omega
  rw [← hwl] at c1 hwi
  have hi0 : (0 : Int) ≤ (i : Int) := by omega
  have hin : (i : Int) < (n : Int) := by omega
  have HM := Lib.hid h
  obtain ⟨v, hv⟩ : ∃ v, v = B i := ⟨_, rfl⟩
  rw [← hv] at HH
  have HV := Lib.hid hv
  clear h hwl hv
  by_cases he : v = on
  · subst he
    have HS : Hid (setB B i v = B) := by show _ = _; funext k; unfold setB; split; (rename_i e; rw [e]; exact HV.out); rfl
    go_enter Tryz.func201, Tryz.ntmps201
    go_wp2_with fail
    refine HH.out.mono ?_
    rintro e w' ⟨rfl, rfl⟩
    go_wp2_with fail
    refine bodyPost_ret (results_none rfl _ _ _) rfl ?_
    exact ⟨rfl, _, by rw [HS.out]; exact HM.out, Only.refl _ _, rfl⟩
  · have hne : (v == on) = false := by simpa using he
    go_enter Tryz.func201, Tryz.ntmps201
    go_wp2_with fail
    refine HH.out.mono ?_
    rintro e w' ⟨rfl, rfl⟩
    go_wp2_with fail
    have HY := Lib.hid (xor_bit_val x (i % 64) hsm (Nat.mod_lt _ (by decide)))
    have hq3 : (0 : Int) ≤ (i : Int) / 64 := by omega
    have hq4 : (i : Int) / 64 < (wl : Int) := by omega
    have hq5 : ((i : Int) / 64).toNat = i / 64 := by omega
    have hq6 : ((i : Int) % 64).toNat = i % 64 := by omega
    have hq7 : (i : Int).tmod 64 = (i : Int) % 64 := rfl
    have hq1 : IntKind.i64.wrap ((i : Int) / 64) = (i : Int) / 64 := by rw [IntWalk.i64_in _ (by omega)]
    refine wp_region_lastH (S := fun W => W.cell? ⟨g, 1, none⟩ = some (.slice (some ⟨b, 0, none⟩) wl wl) ∧ W.cell? ⟨b, i / 64, none⟩ = some (.int .u64 x)) 13 (by kernel_rfl) (by kernel_rfl) ⟨c1, cx⟩ (fun hH => ?_)
    simp only [lastOps, nop, List.modify_toArray, List.modify_succ_cons, List.modify_zero_cons]
    refine Go.Tr.tz 0 (v := ?_) rfl ?_ ?_
    rotate_left
    · intro W hW
      go_simp
      try with_reducible rfl
    try simp only [Go.Tr.nz]
    refine Go.Tr.tz 1 (v := ?_) rfl ?_ ?_
    rotate_left
    · intro W hW
      go_simp
      try with_reducible rfl
    try simp only [Go.Tr.nz]
    refine Go.Tr.tz 2 (v := ?_) rfl ?_ ?_
    rotate_left
    · intro W hW
      go_simp
      try with_reducible rfl
    try simp only [Go.Tr.nz]
    refine Go.Tr.tz 3 (v := ?_) rfl ?_ ?_
    rotate_left
    · intro W hW
      go_simp
      try with_reducible rfl
    try simp only [Go.Tr.nz]
    refine Go.Tr.tz 4 (v := ?_) rfl ?_ ?_
    rotate_left
    · intro W hW
      go_simp
      try with_reducible rfl
    try simp only [Go.Tr.nz]
    refine Go.Tr.tz 5 (v := ?_) rfl ?_ ?_
    rotate_left
    · intro W hW
      go_simp
      try with_reducible rfl
    try simp only [Go.Tr.nz]
    refine Go.Tr.tz 6 (v := ?_) rfl ?_ ?_
    rotate_left
    · intro W hW
      go_simp
      try with_reducible rfl
    try simp only [Go.Tr.nz]
    refine Go.Tr.tz 7 (v := ?_) rfl ?_ ?_
    rotate_left
    · intro W hW
      go_simp
      try with_reducible rfl
    try simp only [Go.Tr.nz]
    refine Go.Tr.tz 8 (v := ?_) rfl ?_ ?_
    rotate_left
    · intro W hW
      go_simp
      try with_reducible rfl
    try simp only [Go.Tr.nz]
    refine Go.Tr.tz 9 (v := ?_) rfl ?_ ?_
    rotate_left
    · intro W hW
      go_simp
      try with_reducible rfl
    try simp only [Go.Tr.nz]
    refine Go.Tr.tz 10 (v := ?_) rfl ?_ ?_
    rotate_left
    · intro W hW
      go_simp
      try with_reducible rfl
    try simp only [Go.Tr.nz]
    refine Go.Tr.tz 11 (v := ?_) rfl ?_ ?_
    rotate_left
    · intro W hW
      go_simp
      try with_reducible rfl
    try simp only [Go.Tr.nz]
    refine Go.Tr.tz 12 (v := ?_) rfl ?_ ?_
    rotate_left
    · intro W hW
      go_simp
      try with_reducible rfl
    try simp only [Go.Tr.nz]
    refine Go.Tr.tz 13 (v := ?_) rfl ?_ ?_
    rotate_left
    · intro W hW
      go_simp
      try with_reducible rfl
    try simp only [Go.Tr.nz]
    refine lastH_done (by kernel_rfl) rfl (by rfl) ?_
    go_simp
    rw [HY.out]
    clear hq1 hq3 hq4 hq5 hq6 hq7 hH c1 cx fx
    have hw1 : (w.setCell ⟨b, i / 64, none⟩ (.int .u64 (x ^^^ 2 ^ (i % 64) : Nat))).drew.heap[b]? = some (.cells (us (ws.set (i / 64) (x ^^^ 2 ^ (i % 64)))).toArray 34 (0, 0)) := setCell_us HM.out.words _ _
    have hw2 : (w.setCell ⟨b, i / 64, none⟩ (.int .u64 (x ^^^ 2 ^ (i % 64) : Nat))).drew.heap[g]? = w.heap[g]? := Below.heap_setCell _ _ _ _ HM.out.ne
    have hw3 : (w.setCell ⟨b, i / 64, none⟩ (.int .u64 (x ^^^ 2 ^ (i % 64) : Nat))).drew.heap.size = w.heap.size := by simp [World.setCell]
    have hw4 : Only (fun k => k = g ∨ k = b) w (w.setCell ⟨b, i / 64, none⟩ (.int .u64 (x ^^^ 2 ^ (i % 64) : Nat))).drew := ((Only.refl _ w).setCell (Or.inl (Or.inr rfl)) _).drew
    generalize (w.setCell ⟨b, i / 64, none⟩ (.int .u64 (x ^^^ 2 ^ (i % 64) : Nat))).drew = w1 at *
    have d2 : w1.cell? ⟨g, 2, none⟩ = some (.int .i64 (cntB B n)) := by rw [World.cell?_of_block (a := ⟨g, 2, none⟩) (w := w) hw2]; exact c2
    have e2 : w1.frozen? ⟨g, 2, none⟩ = false := by rw [World.frozen?_of_block (a := ⟨g, 2, none⟩) (w := w) hw2]; exact fg
    have HW1 := Lib.hid hw1
    have HW2 := Lib.hid (hw2.trans HM.out.block)
    have HW3 := Lib.hid hw3
    have HW4 := Lib.hid hw4
    have HCN := Lib.hid (cntB_set (B := B) (on := on) hi (by rw [← HV.out]; exact he))
    have hcn := cntB_le B n
    have hcn1 := cntB_pos (B := B) (on := on) hi (by rw [← HV.out]; exact he)
    obtain ⟨cn, hcnn⟩ : ∃ cn, cn = cntB B n := ⟨_, rfl⟩
    rw [← hcnn] at d2 hcn hcn1 HCN HW2
    have hgl : g < w1.heap.size := (Array.getElem?_eq_some_iff.1 HW2.out).1
    clear hw1 hw2 hw3 hw4 c2 fg hcnn
    cases on
    · have hcn2 : 1 ≤ cn := hcn1 rfl
      clear hcn1
      go_wp2
      go_end0
      refine ⟨rfl, _, BMap.turned HM.out hi HX.out HV.out (Ne.symm he) ?_ ?_, HW4.out.setCell (Or.inl (Or.inl rfl)) _, by simp [World.setCell]; exact HW3.out⟩
      · have e := HCN.out
        have e' : ((cntB (setB B i false) n : Nat) : Int) = (cn : Int) - 1 := by rw [e]; simp
        rw [e']
        simp [World.setCell, Array.getElem?_modify, HW2.out]
      · exact (Below.heap_setCell _ _ _ _ (Ne.symm HM.out.ne)).trans HW1.out
    · clear hcn1
      go_wp2
      go_end0
      refine ⟨rfl, ⟨_, BMap.turned HM.out hi HX.out HV.out (Ne.symm he) ?_ ?_⟩, (HW4.out.setCell (Or.inl (Or.inl rfl)) _).setCell (Or.inl (Or.inl rfl)) _, by simp [World.setCell]; exact HW3.out⟩
      · have e := HCN.out
        have e' : ((cntB (setB B i true) n : Nat) : Int) = (cn : Int) - 1 + 2 := by rw [e]; simp
        rw [e']
        simp [World.setCell, Array.getElem?_modify, HW2.out]
      · exact (Below.heap_setCell _ _ _ _ (Ne.symm HM.out.ne)).trans ((Below.heap_setCell _ _ _ _ (Ne.symm HM.out.ne)).trans HW1.out)
def BMF (w : World) (F : Nat → Prop) (g n : Nat) (B : Nat → Bool) : Prop := ∃ b ws, BM w g b n B ws ∧ F g ∧ F b
variable {F : Nat → Prop}
theorem BMF.kept (h : BMF w F g n B) (hk : ∀ k, F k → k < w.heap.size → w'.heap[k]? = w.heap[k]?) : BMF w' F g n B := by
  obtain ⟨b, ws, h, h1, h2⟩ := h
  exact ⟨b, ws, h.kept (hk _ h1 h.lt.1) (hk _ h2 h.lt.2), h1, h2⟩
theorem mcountF (w : World) (h : BMF w F g n B) : Calls Tryz.prog 42 #[.pointer (some ⟨g, 0, none⟩)] w fun e w' => e = .returned (.int .i64 (cntB B n)) ∧ w = w' := by
  obtain ⟨b, ws, h, h1, h2⟩ := h
  exact mcount_any w h
theorem mturnF (i : Nat) (on : Bool) (w : World) (h : BMF w F g n B) (hn : n ≤ 1048576) (hi : i < n) : Calls Tryz.prog 201 #[.pointer (some ⟨g, 0, none⟩), .int .i64 i, .bool on] w fun e w' => e = .returned (.tuple #[]) ∧ BMF w' F g n (setB B i on) ∧ Only F w w' ∧ w'.heap.size = w.heap.size := by
  obtain ⟨b, ws, h, h1, h2⟩ := h
  refine (mturn_any i on w h hn hi).mono ?_
  rintro e w' ⟨rfl, ws', h', ho, hs⟩
  exact ⟨rfl, ⟨b, ws', h', h1, h2⟩, ho.mono (fun k hk => by rcases hk with rfl | rfl <;> assumption), hs⟩
def fillB (B : Nat → Bool) (f k : Nat) (on : Bool) : Nat → Bool := fun i => if f ≤ i ∧ i < f + k then on else B i
theorem fillB_zero (B : Nat → Bool) (f : Nat) (on : Bool) : fillB B f 0 on = B := by funext i; unfold fillB; rw [if_neg (by omega)]
theorem fillB_succ (B : Nat → Bool) (f k : Nat) (on : Bool) : fillB B f (k + 1) on = setB (fillB B f k on) (f + k) on := by
  funext i
  unfold fillB setB
  by_cases e : i = f + k
  · rw [if_pos e, if_pos (by omega)]
  · rw [if_neg e]
    show _ = if f ≤ i ∧ i < f + k then on else B i
    by_cases h : f ≤ i ∧ i < f + k
    · rw [if_pos h, if_pos (by omega)]
    · rw [if_neg h, if_neg (by omega)]
set_option maxRecDepth 100000 in
theorem mfillF (f k : Nat) (on : Bool) (w : World) (h : BMF w F g n B) (hn : n ≤ 1048576) (hk : f + k ≤ n) : Calls Tryz.prog 173 #[.pointer (some ⟨g, 0, none⟩), .int .i64 f, .int .i64 k, .bool on] w fun e w' => e = .returned (.int .i64 0) ∧ BMF w' F g n (fillB B f k on) ∧ Only F w w' ∧ w'.heap.size = w.heap.size := by
  have c0 : w.cell? ⟨g, 0, none⟩ = some (.int .i64 n) := by
    obtain ⟨b, ws, h, -, -⟩ := h
    have := cell_of_row w g 0 _ _ (0, 0) h.block
    simpa using this
  have HM : Hid (BMF w F g n (fillB B f 0 on)) := by show BMF _ _ _ _ _; rw [fillB_zero]; exact h
  have h1 : ¬ ((n : Int) < (f : Int)) := by omega
  have h2 : ¬ ((n : Int) - (f : Int) < (k : Int)) := by omega
  clear h
  go_enter Tryz.func173, Tryz.ntmps173
  go_wp2_with fail
  go_loopw [9] (fun i wr => ∃ j : Nat, j ≤ k ∧ i = .int .i64 ((f + j : Nat) : Int) ∧ Hid (BMF wr F g n (fillB B f j on)) ∧ Hid (Only F w wr) ∧ Hid (wr.heap.size = w.heap.size)) (fun i _ => f + k - (intOf i).toNat)
  case atStart => exact ⟨0, Nat.zero_le _, by simp, HM, Only.refl _ _, rfl⟩
  case round =>
    clear HM
    obtain ⟨j, hj, rfl, HB, HO, HS⟩ := hrel
    by_cases hlt : j < k
    · have hlt' : f + j < f + k := by omega
      go_wp2_with fail
      rw [← Int.natCast_add]
      refine (mturnF (f + j) on _ HB.out hn (by omega)).mono ?_
      rintro e w1 ⟨rfl, hb, ho, hs⟩
      have HB1 : Hid (BMF w1 F g n (fillB B f (j + 1) on)) := by rw [fillB_succ]; exact hb
      have HO1 := Lib.hid (HO.out.trans ho (fun k hk => Or.inl hk))
      have HS1 := Lib.hid (hs.trans HS.out)
      clear hb ho hs HB HO HS
      go_wp2
      go_roundw
      case rel => exact ⟨j + 1, by omega, by go_num, HB1, HO1, HS1⟩
      case measure => simp [intOf]; omega
    · have e : j = k := by omega
      subst e
      go_wp2
      go_ret
      exact ⟨rfl, HB.out, HO.out, HS.out⟩
theorem msetF (i : Nat) (on : Bool) (w : World) (h : BMF w F g n B) (hn : n ≤ 1048576) (hi : i < n) : Calls Tryz.prog 132 #[.pointer (some ⟨g, 0, none⟩), .int .i64 i, .bool on] w fun e w' => e = .returned (.int .i64 0) ∧ BMF w' F g n (setB B i on) ∧ Only F w w' ∧ w'.heap.size = w.heap.size := by
  have HF := Lib.hid (mfillF i 1 on w h hn (by omega))
  have HE : Hid (fillB B i 1 on = setB B i on) := by show _ = _; rw [fillB_succ, fillB_zero]; rfl
  rw [HE.out] at HF
  clear h HE
  go_enter Tryz.func132, Tryz.ntmps132
  go_wp2_with fail
  refine HF.out.mono ?_
  rintro e w1 ⟨rfl, hb, ho, hs⟩
  have HB := Lib.hid hb
  have HO := Lib.hid ho
  have HS := Lib.hid hs
  clear hb ho hs
  go_wp2
  go_ret
  exact ⟨rfl, HB.out, HO.out, HS.out⟩
end Go.Proofs.YtcdpnfchmpncjaaGreatDoor

namespace Go.Proofs.YtcdpnfchmpncjaaGreatDoor
open Go.Shelf Go.Proofs
def laysSort_ren : Go.Shelf.Ren := ⟨fun | 189 => 71 | 125 => 121 | 257 => 120 | 128 => 168 | 129 => 169 | 294 => 159 | 295 => 160 | 296 => 161 | 297 => 162 | 298 => 163 | 299 => 164 | 216 => 165 | 300 => 166 | 301 => 167 | 328 => 195 | 329 => 196 | 330 => 197 | 331 => 198 | 332 => 199 | 215 => 191 | 343 => 208 | n => n, fun | 28 => 42 | 3 => 3 | 46 => 205 | 0 => 0 | 51 => 254 | 53 => 34 | 4 => 4 | 183 => 248 | 182 => 247 | 131 => 122 | 5 => 5 | 9 => 9 | 218 => 272 | 222 => 276 | 228 => 283 | 229 => 61 | n => n, fun | n => n⟩
theorem laysSort : Lays.n189 Tryz.prog laysSort_ren := {
  mixed := by kernel_rfl,
  f125 := Tryz.func121.trans (congrArg some (by kernel_rfl)),
  f128 := Tryz.func168.trans (congrArg some (by kernel_rfl)),
  f129 := Tryz.func169.trans (congrArg some (by kernel_rfl)),
  f189 := Tryz.func71.trans (congrArg some (by kernel_rfl)),
  f215 := Tryz.func191.trans (congrArg some (by kernel_rfl)),
  f216 := Tryz.func165.trans (congrArg some (by kernel_rfl)),
  f257 := Tryz.func120.trans (congrArg some (by kernel_rfl)),
  f294 := Tryz.func159.trans (congrArg some (by kernel_rfl)),
  f295 := Tryz.func160.trans (congrArg some (by kernel_rfl)),
  f296 := Tryz.func161.trans (congrArg some (by kernel_rfl)),
  f297 := Tryz.func162.trans (congrArg some (by kernel_rfl)),
  f298 := Tryz.func163.trans (congrArg some (by kernel_rfl)),
  f299 := Tryz.func164.trans (congrArg some (by kernel_rfl)),
  f300 := Tryz.func166.trans (congrArg some (by kernel_rfl)),
  f301 := Tryz.func167.trans (congrArg some (by kernel_rfl)),
  f328 := Tryz.func195.trans (congrArg some (by kernel_rfl)),
  f329 := Tryz.func196.trans (congrArg some (by kernel_rfl)),
  f330 := Tryz.func197.trans (congrArg some (by kernel_rfl)),
  f331 := Tryz.func198.trans (congrArg some (by kernel_rfl)),
  f332 := Tryz.func199.trans (congrArg some (by kernel_rfl)),
  f343 := Tryz.func208.trans (congrArg some (by kernel_rfl)),
  t0 := Tryz.underlying0,
  a0 := Tryz.isAgg0,
  z0 := Tryz.sizeOf0,
  v0 := Tryz.zeroValue0,
  t3 := Tryz.underlying3,
  a3 := Tryz.isAgg3,
  z3 := Tryz.sizeOf3,
  v3 := Tryz.zeroValue3,
  t4 := Tryz.underlying4,
  a4 := Tryz.isAgg4,
  z4 := Tryz.sizeOf4,
  v4 := Tryz.zeroValue4,
  t5 := Tryz.underlying5,
  a5 := Tryz.isAgg5,
  z5 := Tryz.sizeOf5,
  v5 := Tryz.zeroValue5,
  t9 := Tryz.underlying9,
  a9 := Tryz.isAgg9,
  z9 := Tryz.sizeOf9,
  v9 := Tryz.zeroValue9,
  t28 := Tryz.underlying42,
  a28 := Tryz.isAgg42,
  z28 := Tryz.sizeOf42,
  v28 := Tryz.zeroValue42,
  t46 := Tryz.underlying205,
  a46 := Tryz.isAgg205,
  z46 := Tryz.sizeOf205,
  v46 := Tryz.zeroValue205,
  t51 := Tryz.underlying254,
  a51 := Tryz.isAgg254,
  z51 := Tryz.sizeOf254,
  v51 := Tryz.zeroValue254,
  t53 := Tryz.underlying34,
  a53 := Tryz.isAgg34,
  z53 := Tryz.sizeOf34,
  v53 := Tryz.zeroValue34,
  t131 := Tryz.underlying122,
  a131 := Tryz.isAgg122,
  z131 := Tryz.sizeOf122,
  v131 := Tryz.zeroValue122,
  t182 := Tryz.underlying247,
  a182 := Tryz.isAgg247,
  z182 := Tryz.sizeOf247,
  v182 := Tryz.zeroValue247,
  t183 := Tryz.underlying248,
  a183 := Tryz.isAgg248,
  z183 := Tryz.sizeOf248,
  v183 := Tryz.zeroValue248,
  t218 := Tryz.underlying272,
  a218 := Tryz.isAgg272,
  z218 := Tryz.sizeOf272,
  v218 := Tryz.zeroValue272,
  t222 := Tryz.underlying276,
  a222 := Tryz.isAgg276,
  z222 := Tryz.sizeOf276,
  v222 := Tryz.zeroValue276,
  t228 := Tryz.underlying283,
  a228 := Tryz.isAgg283,
  z228 := Tryz.sizeOf283,
  v228 := Tryz.zeroValue283,
  t229 := Tryz.underlying61,
  a229 := Tryz.isAgg61,
  z229 := Tryz.sizeOf61,
  v229 := Tryz.zeroValue61 }
def laysCompact_ren : Go.Shelf.Ren := ⟨fun | 20 => 85 | n => n, fun | 22 => 42 | 3 => 3 | 4 => 4 | 0 => 0 | n => n, fun | n => n⟩
theorem laysCompact : Lays2.n20 Tryz.prog laysCompact_ren := {
  mixed := by kernel_rfl,
  f20 := Tryz.func85.trans (congrArg some (by kernel_rfl)),
  t0 := Tryz.underlying0,
  a0 := Tryz.isAgg0,
  z0 := Tryz.sizeOf0,
  v0 := Tryz.zeroValue0,
  t3 := Tryz.underlying3,
  a3 := Tryz.isAgg3,
  z3 := Tryz.sizeOf3,
  v3 := Tryz.zeroValue3,
  t4 := Tryz.underlying4,
  a4 := Tryz.isAgg4,
  z4 := Tryz.sizeOf4,
  v4 := Tryz.zeroValue4,
  t22 := Tryz.underlying42,
  a22 := Tryz.isAgg42,
  z22 := Tryz.sizeOf42,
  v22 := Tryz.zeroValue42,
  i3 := by kernel_rfl }
def laysSearch_ren : Go.Shelf.Ren := ⟨fun | 25 => 137 | 31 => 165 | 32 => 179 | 37 => 191 | n => n, fun | 22 => 42 | 3 => 3 | 4 => 4 | 40 => 205 | 0 => 0 | n => n, fun | n => n⟩
theorem laysSearch : Lays2.n25 Tryz.prog laysSearch_ren := {
  mixed := by kernel_rfl,
  f25 := Tryz.func137.trans (congrArg some (by kernel_rfl)),
  f31 := Tryz.func165.trans (congrArg some (by kernel_rfl)),
  f32 := Tryz.func179.trans (congrArg some (by kernel_rfl)),
  f37 := Tryz.func191.trans (congrArg some (by kernel_rfl)),
  t0 := Tryz.underlying0,
  a0 := Tryz.isAgg0,
  z0 := Tryz.sizeOf0,
  v0 := Tryz.zeroValue0,
  t3 := Tryz.underlying3,
  a3 := Tryz.isAgg3,
  z3 := Tryz.sizeOf3,
  v3 := Tryz.zeroValue3,
  t4 := Tryz.underlying4,
  a4 := Tryz.isAgg4,
  z4 := Tryz.sizeOf4,
  v4 := Tryz.zeroValue4,
  t22 := Tryz.underlying42,
  a22 := Tryz.isAgg42,
  z22 := Tryz.sizeOf42,
  v22 := Tryz.zeroValue42,
  t40 := Tryz.underlying205,
  a40 := Tryz.isAgg205,
  z40 := Tryz.sizeOf205,
  v40 := Tryz.zeroValue205 }
def laysClone_ren : Go.Shelf.Ren := ⟨fun | 15 => 84 | n => n, fun | 22 => 42 | 3 => 3 | 4 => 4 | n => n, fun | n => n⟩
theorem laysClone : Lays2.n15 Tryz.prog laysClone_ren := {
  mixed := by kernel_rfl,
  f15 := Tryz.func84.trans (congrArg some (by kernel_rfl)),
  t3 := Tryz.underlying3,
  a3 := Tryz.isAgg3,
  z3 := Tryz.sizeOf3,
  v3 := Tryz.zeroValue3,
  t4 := Tryz.underlying4,
  a4 := Tryz.isAgg4,
  z4 := Tryz.sizeOf4,
  v4 := Tryz.zeroValue4,
  t22 := Tryz.underlying42,
  a22 := Tryz.isAgg42,
  z22 := Tryz.sizeOf42,
  v22 := Tryz.zeroValue42,
  i3 := by kernel_rfl }
def laysDelete_ren : Go.Shelf.Ren := ⟨fun | 23 => 156 | n => n, fun | 22 => 42 | 3 => 3 | 4 => 4 | 0 => 0 | n => n, fun | n => n⟩
theorem laysDelete : Lays2.n23 Tryz.prog laysDelete_ren := {
  mixed := by kernel_rfl,
  f23 := Tryz.func156.trans (congrArg some (by kernel_rfl)),
  t0 := Tryz.underlying0,
  a0 := Tryz.isAgg0,
  z0 := Tryz.sizeOf0,
  v0 := Tryz.zeroValue0,
  t3 := Tryz.underlying3,
  a3 := Tryz.isAgg3,
  z3 := Tryz.sizeOf3,
  v3 := Tryz.zeroValue3,
  t4 := Tryz.underlying4,
  a4 := Tryz.isAgg4,
  z4 := Tryz.sizeOf4,
  v4 := Tryz.zeroValue4,
  t22 := Tryz.underlying42,
  a22 := Tryz.isAgg42,
  z22 := Tryz.sizeOf42,
  v22 := Tryz.zeroValue42,
  i3 := by kernel_rfl }
def laysInsert_ren : Go.Shelf.Ren := ⟨fun | 21 => 138 | 27 => 180 | 28 => 181 | 35 => 203 | 39 => 210 | n => n, fun | 22 => 42 | 3 => 3 | 4 => 4 | 0 => 0 | n => n, fun | n => n⟩
theorem laysInsert : Lays2.n21 Tryz.prog laysInsert_ren := {
  mixed := by kernel_rfl,
  f21 := Tryz.func138.trans (congrArg some (by kernel_rfl)),
  f27 := Tryz.func180.trans (congrArg some (by kernel_rfl)),
  f28 := Tryz.func181.trans (congrArg some (by kernel_rfl)),
  f35 := Tryz.func203.trans (congrArg some (by kernel_rfl)),
  f39 := Tryz.func210.trans (congrArg some (by kernel_rfl)),
  t0 := Tryz.underlying0,
  a0 := Tryz.isAgg0,
  z0 := Tryz.sizeOf0,
  v0 := Tryz.zeroValue0,
  t3 := Tryz.underlying3,
  a3 := Tryz.isAgg3,
  z3 := Tryz.sizeOf3,
  v3 := Tryz.zeroValue3,
  t4 := Tryz.underlying4,
  a4 := Tryz.isAgg4,
  z4 := Tryz.sizeOf4,
  v4 := Tryz.zeroValue4,
  t22 := Tryz.underlying42,
  a22 := Tryz.isAgg42,
  z22 := Tryz.sizeOf42,
  v22 := Tryz.zeroValue42,
  i3 := by kernel_rfl }
def laysTz_ren : Go.Shelf.Ren := ⟨fun | 29 => 127 | n => n, fun | 22 => 34 | 3 => 3 | 4 => 4 | 25 => 205 | 54 => 257 | 0 => 0 | 5 => 5 | n => n, fun | 1 => 0 | n => n⟩
theorem laysTz : Lays7.n29 Tryz.prog laysTz_ren := {
  mixed := by kernel_rfl,
  f29 := Tryz.func127.trans (congrArg some (by kernel_rfl)),
  t0 := Tryz.underlying0,
  a0 := Tryz.isAgg0,
  z0 := Tryz.sizeOf0,
  v0 := Tryz.zeroValue0,
  i0 := by kernel_rfl,
  t3 := Tryz.underlying3,
  a3 := Tryz.isAgg3,
  z3 := Tryz.sizeOf3,
  v3 := Tryz.zeroValue3,
  i3 := by kernel_rfl,
  t4 := Tryz.underlying4,
  a4 := Tryz.isAgg4,
  z4 := Tryz.sizeOf4,
  v4 := Tryz.zeroValue4,
  i4 := by kernel_rfl,
  t5 := Tryz.underlying5,
  a5 := Tryz.isAgg5,
  z5 := Tryz.sizeOf5,
  v5 := Tryz.zeroValue5,
  i5 := by kernel_rfl,
  t22 := Tryz.underlying34,
  a22 := Tryz.isAgg34,
  z22 := Tryz.sizeOf34,
  v22 := Tryz.zeroValue34,
  i22 := by kernel_rfl,
  t25 := Tryz.underlying205,
  a25 := Tryz.isAgg205,
  z25 := Tryz.sizeOf205,
  v25 := Tryz.zeroValue205,
  i25 := by kernel_rfl,
  t54 := Tryz.underlying257,
  a54 := Tryz.isAgg257,
  z54 := Tryz.sizeOf257,
  g1 := by kernel_rfl }
def laysContains_ren : Go.Shelf.Ren := ⟨fun | 107 => 192 | 108 => 206 | n => n, fun | 28 => 42 | 3 => 3 | 4 => 4 | 0 => 0 | n => n, fun | n => n⟩
theorem laysContains : Lays.n107 Tryz.prog laysContains_ren := {
  mixed := by kernel_rfl,
  f107 := Tryz.func192.trans (congrArg some (by kernel_rfl)),
  f108 := Tryz.func206.trans (congrArg some (by kernel_rfl)),
  t0 := Tryz.underlying0,
  a0 := Tryz.isAgg0,
  z0 := Tryz.sizeOf0,
  v0 := Tryz.zeroValue0,
  t3 := Tryz.underlying3,
  a3 := Tryz.isAgg3,
  z3 := Tryz.sizeOf3,
  v3 := Tryz.zeroValue3,
  t4 := Tryz.underlying4,
  a4 := Tryz.isAgg4,
  z4 := Tryz.sizeOf4,
  v4 := Tryz.zeroValue4,
  t28 := Tryz.underlying42,
  a28 := Tryz.isAgg42,
  z28 := Tryz.sizeOf42,
  v28 := Tryz.zeroValue42 }
def laysLen64_ren : Go.Shelf.Ren := ⟨fun | 129 => 169 | n => n, fun | 53 => 34 | 3 => 3 | 4 => 4 | 46 => 205 | 5 => 5 | 9 => 9 | n => n, fun | n => n⟩
theorem laysLen64 : Lays.n129 Tryz.prog laysLen64_ren := {
  mixed := by kernel_rfl,
  f129 := Tryz.func169.trans (congrArg some (by kernel_rfl)),
  t3 := Tryz.underlying3,
  a3 := Tryz.isAgg3,
  z3 := Tryz.sizeOf3,
  v3 := Tryz.zeroValue3,
  t4 := Tryz.underlying4,
  a4 := Tryz.isAgg4,
  z4 := Tryz.sizeOf4,
  v4 := Tryz.zeroValue4,
  t5 := Tryz.underlying5,
  a5 := Tryz.isAgg5,
  z5 := Tryz.sizeOf5,
  v5 := Tryz.zeroValue5,
  t9 := Tryz.underlying9,
  a9 := Tryz.isAgg9,
  z9 := Tryz.sizeOf9,
  v9 := Tryz.zeroValue9,
  t46 := Tryz.underlying205,
  a46 := Tryz.isAgg205,
  z46 := Tryz.sizeOf205,
  v46 := Tryz.zeroValue205,
  t53 := Tryz.underlying34,
  a53 := Tryz.isAgg34,
  z53 := Tryz.sizeOf34,
  v53 := Tryz.zeroValue34 }
end Go.Proofs.YtcdpnfchmpncjaaGreatDoor

namespace Go.Tr
open Go.RowKit
def nextF (B : Nat → Bool) (v : Bool) : Nat → Nat → Nat
  | 0, k => k
  | f + 1, k => if B k = v then k else nextF B v f (k + 1)
def nextIs (B : Nat → Bool) (n : Nat) (v : Bool) (k : Nat) : Nat := nextF B v (n - k) k
theorem nextF_spec (B : Nat → Bool) (v : Bool) : ∀ f k, k ≤ nextF B v f k ∧ nextF B v f k ≤ k + f ∧ (nextF B v f k < k + f → B (nextF B v f k) = v) ∧ ∀ i, k ≤ i → i < nextF B v f k → B i ≠ v
  | 0, k => ⟨Nat.le_refl _, Nat.le_refl _, fun h => by simp [nextF] at h, fun i h1 h2 => by simp [nextF] at h2; omega⟩
  | f + 1, k => by
    unfold nextF
    by_cases h : B k = v
    · rw [if_pos h]; exact ⟨Nat.le_refl _, by omega, fun _ => h, fun i h1 h2 => by omega⟩
    · rw [if_neg h]
      obtain ⟨a, b, c, d⟩ := nextF_spec B v f (k + 1)
      refine ⟨by omega, by omega, fun h' => c (by omega), fun i h1 h2 => ?_⟩
      by_cases e : i = k
      · subst e; exact h
      · exact d i (by omega) h2
theorem nextIs_spec (B : Nat → Bool) (n : Nat) (v : Bool) {k : Nat} (hk : k ≤ n) : k ≤ nextIs B n v k ∧ nextIs B n v k ≤ n ∧ (nextIs B n v k < n → B (nextIs B n v k) = v) ∧ ∀ i, k ≤ i → i < nextIs B n v k → B i ≠ v := by
  obtain ⟨a, b, c, d⟩ := nextF_spec B v (n - k) k
  have e : k + (n - k) = n := by omega
  rw [e] at b c
  exact ⟨a, b, c, d⟩
theorem nextIs_eq {B : Nat → Bool} {n : Nat} {v : Bool} {k r : Nat} (h1 : k ≤ r) (h2 : r ≤ n) (h3 : r < n → B r = v) (h4 : ∀ i, k ≤ i → i < r → B i ≠ v) : nextIs B n v k = r := by
  obtain ⟨a, b, c, d⟩ := nextIs_spec B n v (k := k) (by omega)
  rcases Nat.lt_trichotomy (nextIs B n v k) r with h | h | h
  · exact absurd (c (by omega)) (h4 _ a h)
  · exact h
  · exact absurd (h3 (by omega)) (d _ h1 h)
def firstV (B : Nat → Bool) (n k : Nat) : Value := if nextIs B n false k < n then .tuple #[.int .i64 (nextIs B n false k : Nat), .bool true] else .tuple #[.int .i64 0, .bool false]
theorem firstV_yes {B : Nat → Bool} {n k r : Nat} (h : nextIs B n false k = r) (hr : r < n) : firstV B n k = .tuple #[.int .i64 (r : Nat), .bool true] := by unfold firstV; rw [h, if_pos hr]
theorem firstV_no {B : Nat → Bool} {n k : Nat} (h : nextIs B n false k = n) : firstV B n k = .tuple #[.int .i64 0, .bool false] := by unfold firstV; rw [h, if_neg (Nat.lt_irrefl _)]
theorem ctz_bits {y : Nat} (h0 : y ≠ 0) (h : y < 18446744073709551616) : Lib.ctz 64 y < 64 ∧ y.testBit (Lib.ctz 64 y) = true ∧ ∀ s, s < Lib.ctz 64 y → y.testBit s = false := by
  obtain ⟨m, hm, hk⟩ := Lib.ctzFrom_spec 64 y (by omega) (by simpa using h)
  have e : Lib.ctz 64 y = Lib.ctzFrom 64 y := by simp [Lib.ctz, h0]
  rw [e]
  generalize Lib.ctzFrom 64 y = t at *
  refine ⟨hk, ?_, fun s hs => ?_⟩
  · rw [hm, Nat.testBit_two_pow_mul]
    simp
  · rw [hm, Nat.testBit_two_pow_mul]
    simp; omega
theorem not_bits {x k : Nat} (hx : x < 18446744073709551616) (hk : k < 64) (s : Nat) : ((18446744073709551615 - x) / 2 ^ k).testBit s = (decide (k + s < 64) && !x.testBit (k + s)) := by
  rw [Nat.testBit_div_two_pow]
  have h := Nat.testBit_two_pow_sub_succ (n := 64) (x := x) (by simpa using hx) (k + s)
  have e : 18446744073709551615 - x = 2 ^ 64 - (x + 1) := by omega
  rw [e, Nat.add_comm s k, h]
theorem xor_ones {x : Nat} (hx : x < 18446744073709551616) : 18446744073709551615 ^^^ x = 18446744073709551615 - x := by
  apply Nat.eq_of_testBit_eq
  intro i
  have h1 := Nat.testBit_two_pow_sub_succ (n := 64) (x := x) (by simpa using hx) i
  have h2 := Nat.testBit_two_pow_sub_one 64 i
  rw [Nat.testBit_xor, show (18446744073709551615 : Nat) = 2 ^ 64 - 1 from rfl, h2, show 2 ^ 64 - 1 - x = 2 ^ 64 - (x + 1) by omega, h1]
  by_cases h : i < 64
  · simp [h]
  · have : x.testBit i = false := Nat.testBit_lt_two_pow (Nat.lt_of_lt_of_le (m := 2 ^ 64) (by simpa using hx) (Nat.pow_le_pow_right (by decide) (by omega)))
    simp [h, this]
theorem not_val {x : Nat} (hx : x < 18446744073709551616) : bits .xor .u64 IntKind.u64.max (x : Int) = ((18446744073709551615 - x : Nat) : Int) := by
  rw [show IntKind.u64.max = ((18446744073709551615 : Nat) : Int) by decide, u64_xor_nat _ _ (by decide) hx, xor_ones hx]
theorem div_val (z k : Nat) : ((z : Int) / 2 ^ k) = ((z / 2 ^ k : Nat) : Int) := by push_cast; rfl
end Go.Tr
namespace Go.Proofs.YtcdpnfchmpncjaaGreatDoor
open Go.RowKit Go.Tr Go.Shelf
variable {w w' : World} {g b n : Nat} {B : Nat → Bool} {F : Nat → Prop}
def Tz (w : World) : Prop := TabAt 0 Lib.deBruijn64tab w
theorem tz_any (x : Nat) (hx : x < 18446744073709551616) (w : World) (hT : Tz w) : Calls Tryz.prog 127 #[.int .u64 x] w fun e w' => e = .returned (.int .i64 (Lib.ctz 64 x)) ∧ w = w' :=
  (Any7.bits_TrailingZeros64 laysTz x hx w (fun _ => hT)).mono fun _ _ ⟨h1, h2⟩ => ⟨h1, h2.symm⟩
set_option maxRecDepth 100000 in
theorem mfirstb_any (k : Nat) (w : World) (h : BMF w F g n B) (hT : Tz w) (hn : n ≤ 1048576) (hk : k ≤ n) : Calls Tryz.prog 131 #[.pointer (some ⟨g, 0, none⟩), .int .i64 k] w fun e w' => e = .returned (firstV B n k) ∧ w = w' := by
  obtain ⟨b, ws, hb, -, -⟩ := h
  have HM := Lib.hid hb
  have c1 := cell_of_row w g 1 _ _ (0, 0) hb.block
  simp at c1
  have HL := Lib.hid (fun w1 (e : w1 = w) => (by subst e; exact mlen_any w1 hb : Calls Tryz.prog 174 #[.pointer (some ⟨g, 0, none⟩)] w1 fun e w' => e = .returned (.int .i64 n) ∧ w1 = w'))
  have hwle : ws.length ≤ 16385 := by rw [hb.len]; omega
  have HTZ := Lib.hid hT
  clear hb hT
  go_enter Tryz.func131, Tryz.ntmps131
  go_wp2_with fail
  go_loopw [1] (fun i wr => wr = w ∧ ∃ f : Nat, i = .int .i64 (f : Int) ∧ k ≤ f ∧ f ≤ n + 64 ∧ Hid (∀ j, k ≤ j → j < f → j < n → B j = true)) (fun i _ => n + 64 - (intOf i).toNat)
  case atStart => exact ⟨rfl, k, by simp, Nat.le_refl _, by omega, fun j h1 h2 => by omega⟩
  case round =>
    obtain ⟨rfl, f, rfl, hf1, hf2, HB⟩ := hrel
    have hf0 : (0 : Int) ≤ (f : Int) := by omega
    by_cases hlt : f < n
    · have hlt' : (f : Int) < (n : Int) := by omega
      obtain ⟨x, HX, cx, fx, hsm, hwi, HBT⟩ := HM.out.word hlt
      have hzx := not_val hsm
      have hzx2 : bits .xor .u64 (if IntKind.u64.signed = true then -1 else IntKind.u64.max) (x : Int) = ((18446744073709551615 - x : Nat) : Int) := hzx
      have hyx := div_val (18446744073709551615 - x) (f % 64)
      have HNB := Lib.hid (not_bits hsm (Nat.mod_lt f (by decide) : f % 64 < 64))
      have hzl : 18446744073709551615 - x < 18446744073709551616 := by omega
      have hysm : (18446744073709551615 - x) / 2 ^ (f % 64) < 18446744073709551616 := Nat.lt_of_le_of_lt (Nat.div_le_self _ _) hzl
      obtain ⟨y, hy⟩ : ∃ y, y = (18446744073709551615 - x) / 2 ^ (f % 64) := ⟨_, rfl⟩
      rw [← hy] at hyx HNB hysm
      generalize (18446744073709551615 - x) = z at *
      clear hzl hy
      by_cases hy0 : y = 0
      · subst hy0
        have HBB : Hid (∀ j, k ≤ j → j < (f / 64 + 1) * 64 → j < n → B j = true) := fun j h1 h2 h3 => by
          by_cases h4 : j < f
          · exact HB.out j h1 h4 h3
          · have h5 := HNB.out (j - f)
            rw [Nat.zero_testBit] at h5
            have h6 : f % 64 + (j - f) = j % 64 := by omega
            rw [h6] at h5
            have h7 : j % 64 < 64 := Nat.mod_lt _ (by decide)
            have h8 := HM.out.bit j
            rw [show j / 64 = f / 64 by omega, show ws.getD (f / 64) 0 = x by simp [List.getD, HX.out]] at h8
            rw [h8]
            simpa [h7] using h5.symm
        clear HB HNB
        go_wp2_with fail
        refine (HL.out _ rfl).mono ?_
        rintro e w' ⟨rfl, rfl⟩
        go_wp2
        go_roundw
        case rel => exact ⟨trivial, (f / 64 + 1) * 64, by go_num, by omega, by omega, HBB⟩
        case measure => simp [intOf]; omega
      · have hyb : ((y : Int) != 0) = true := by simp; omega
        obtain ⟨t1, t2, t3⟩ := ctz_bits hy0 hysm
        have HR : Hid (B (f + Lib.ctz 64 y) = false ∧ ∀ j, k ≤ j → j < f + Lib.ctz 64 y → j < n → B j = true) := by
          have key : ∀ s, f % 64 + s < 64 → B (f + s) = !y.testBit s := fun s hs => by
            have h5 := HNB.out s
            have h8 := HM.out.bit (f + s)
            rw [show (f + s) / 64 = f / 64 by omega, show ws.getD (f / 64) 0 = x by simp [List.getD, HX.out], show (f + s) % 64 = f % 64 + s by omega] at h8
            rw [h8, h5]
            simp [hs]
          have hin : f % 64 + Lib.ctz 64 y < 64 := by
            have h5 := HNB.out (Lib.ctz 64 y)
            rw [t2] at h5
            have h6 := h5.symm
            rw [Bool.and_eq_true, decide_eq_true_eq] at h6
            exact h6.1
          refine ⟨by rw [key _ hin, t2]; rfl, fun j h1 h2 h3 => ?_⟩
          by_cases h4 : j < f
          · exact HB.out j h1 h4 h3
          · have := key (j - f) (by omega)
            rw [show f + (j - f) = j by omega, t3 (j - f) (by omega)] at this
            exact this
        have HTC := Lib.hid (tz_any y hysm wr HTZ.out)
        generalize Lib.ctz 64 y = t at *
        clear HB HNB t2 t3
        have HE : Hid (nextIs B n false k = if f + t < n then f + t else n) := by
          show _ = _
          by_cases h : f + t < n
          · rw [if_pos h]
            exact nextIs_eq (by omega) (by omega) (fun _ => HR.out.1) (fun i h1 h2 => by rw [HR.out.2 i h1 h2 (by omega)]; simp)
          · rw [if_neg h]
            exact nextIs_eq hk (Nat.le_refl _) (fun h => absurd h (Nat.lt_irrefl _)) (fun i h1 h2 => by rw [HR.out.2 i h1 (by omega) h2]; simp)
        by_cases hft : f + t < n
        · have HV : Hid (nextIs B n false k = f + t) := by show _ = _; rw [HE.out, if_pos hft]
          have hft' : (f : Int) + (t : Int) < (n : Int) := by omega
          go_wp2_with fail
          refine (HL.out _ rfl).mono ?_
          rintro e w' ⟨rfl, rfl⟩
          go_wp2_with fail
          refine HTC.out.mono ?_
          rintro e w' ⟨rfl, rfl⟩
          go_wp2_with fail
          refine (HL.out _ rfl).mono ?_
          rintro e w' ⟨rfl, rfl⟩
          go_wp2
          go_ret2
          exact ⟨by rw [firstV_yes HV.out hft]; simp, rfl⟩
        · have HV : Hid (nextIs B n false k = n) := by show _ = _; rw [HE.out, if_neg hft]
          have hft' : ¬ (f : Int) + (t : Int) < (n : Int) := by omega
          go_wp2_with fail
          refine (HL.out _ rfl).mono ?_
          rintro e w' ⟨rfl, rfl⟩
          go_wp2_with fail
          refine HTC.out.mono ?_
          rintro e w' ⟨rfl, rfl⟩
          go_wp2_with fail
          refine (HL.out _ rfl).mono ?_
          rintro e w' ⟨rfl, rfl⟩
          go_wp2
          go_ret2
          exact ⟨by rw [firstV_no HV.out]; rfl, rfl⟩
    · have HV : Hid (nextIs B n false k = n) := nextIs_eq hk (Nat.le_refl _) (fun h => absurd h (Nat.lt_irrefl _)) (fun i h1 h2 => by rw [HB.out i h1 (by omega) h2]; simp)
      have hft' : ¬ (f : Int) < (n : Int) := by omega
      go_wp2_with fail
      refine (HL.out _ rfl).mono ?_
      rintro e w' ⟨rfl, rfl⟩
      go_wp2_with fail
      refine (HL.out _ rfl).mono ?_
      rintro e w' ⟨rfl, rfl⟩
      go_wp2
      go_ret2
      exact ⟨by rw [firstV_no HV.out]; rfl, rfl⟩
set_option maxRecDepth 100000 in
theorem mnextb_any (k : Nat) (w : World) (h : BMF w F g n B) (hT : Tz w) (hn : n ≤ 1048576) (hk : k ≤ n) : Calls Tryz.prog 200 #[.pointer (some ⟨g, 0, none⟩), .int .i64 k] w fun e w' => e = .returned (.int .i64 (nextIs B n true k : Nat)) ∧ w = w' := by
  obtain ⟨b, ws, hb, -, -⟩ := h
  have HM := Lib.hid hb
  have c0 := cell_of_row w g 0 _ _ (0, 0) hb.block
  have c1 := cell_of_row w g 1 _ _ (0, 0) hb.block
  simp at c0 c1
  have hwle : ws.length ≤ 16385 := by rw [hb.len]; omega
  have HTZ := Lib.hid hT
  clear hb hT
  go_enter Tryz.func200, Tryz.ntmps200
  go_wp2_with fail
  go_loopw [1] (fun i wr => wr = w ∧ ∃ f : Nat, i = .int .i64 (f : Int) ∧ k ≤ f ∧ f ≤ n + 64 ∧ Hid (∀ j, k ≤ j → j < f → j < n → B j = false)) (fun i _ => n + 64 - (intOf i).toNat)
  case atStart => exact ⟨rfl, k, by simp, Nat.le_refl _, by omega, fun j h1 h2 => by omega⟩
  case round =>
    obtain ⟨rfl, f, rfl, hf1, hf2, HB⟩ := hrel
    have hf0 : (0 : Int) ≤ (f : Int) := by omega
    by_cases hlt : f < n
    · have hlt' : (f : Int) < (n : Int) := by omega
      obtain ⟨x, HX, cx, fx, hsm, hwi, HBT⟩ := HM.out.word hlt
      have hyx := div_val x (f % 64)
      have HNB : Hid (∀ s, f % 64 + s < 64 → B (f + s) = (x / 2 ^ (f % 64)).testBit s) := fun s hs => by
        have h8 := HM.out.bit (f + s)
        rw [show (f + s) / 64 = f / 64 by omega, show ws.getD (f / 64) 0 = x by simp [List.getD, HX.out], show (f + s) % 64 = f % 64 + s by omega] at h8
        rw [h8, Nat.testBit_div_two_pow, Nat.add_comm]
      have HSM : Hid (x / 2 ^ (f % 64) < 2 ^ (64 - f % 64)) := by
        show _ < _
        rw [Nat.div_lt_iff_lt_mul (Nat.pow_pos (by decide)), ← Nat.pow_add, show 64 - f % 64 + f % 64 = 64 by have := Nat.mod_lt f (show 64 > 0 by decide); omega]
        simpa using hsm
      have hysm : x / 2 ^ (f % 64) < 18446744073709551616 := Nat.lt_of_le_of_lt (Nat.div_le_self _ _) hsm
      obtain ⟨y, hy⟩ : ∃ y, y = x / 2 ^ (f % 64) := ⟨_, rfl⟩
      rw [← hy] at hyx HNB hysm HSM
      clear hy
      by_cases hy0 : y = 0
      · subst hy0
        have HBB : Hid (∀ j, k ≤ j → j < (f / 64 + 1) * 64 → j < n → B j = false) := fun j h1 h2 h3 => by
          by_cases h4 : j < f
          · exact HB.out j h1 h4 h3
          · have h5 := HNB.out (j - f) (by omega)
            rw [Nat.zero_testBit, show f + (j - f) = j by omega] at h5
            exact h5
        clear HB HNB HSM
        go_wp2
        go_roundw
        case rel => exact ⟨trivial, (f / 64 + 1) * 64, by go_num, by omega, by omega, HBB⟩
        case measure => simp [intOf]; omega
      · have hyb : ((y : Int) != 0) = true := by simp; omega
        obtain ⟨t1, t2, t3⟩ := ctz_bits hy0 hysm
        have hin : f % 64 + Lib.ctz 64 y < 64 := by
          rcases Nat.lt_or_ge (f % 64 + Lib.ctz 64 y) 64 with h | h
          · exact h
          · have := Nat.testBit_lt_two_pow (Nat.lt_of_lt_of_le HSM.out (Nat.pow_le_pow_right (by decide) (show 64 - f % 64 ≤ Lib.ctz 64 y by omega)))
            rw [this] at t2; cases t2
        have HR : Hid (B (f + Lib.ctz 64 y) = true ∧ ∀ j, k ≤ j → j < f + Lib.ctz 64 y → j < n → B j = false) := by
          refine ⟨by rw [HNB.out _ hin, t2], fun j h1 h2 h3 => ?_⟩
          by_cases h4 : j < f
          · exact HB.out j h1 h4 h3
          · have := HNB.out (j - f) (by omega)
            rw [show f + (j - f) = j by omega, t3 (j - f) (by omega)] at this
            exact this
        have HTC := Lib.hid (tz_any y hysm wr HTZ.out)
        have hft : f + Lib.ctz 64 y < n := by
          rcases Nat.lt_or_ge (f + Lib.ctz 64 y) n with h | h
          · exact h
          · have := HM.out.off _ h
            rw [HR.out.1] at this; cases this
        generalize Lib.ctz 64 y = t at *
        clear HB HNB t2 t3
        have HV : Hid (nextIs B n true k = f + t) := nextIs_eq (by omega) (by omega) (fun _ => HR.out.1) (fun i h1 h2 => by rw [HR.out.2 i h1 h2 (by omega)]; simp)
        have hft' : (f : Int) + (t : Int) < (n : Int) := by omega
        go_wp2_with fail
        refine HTC.out.mono ?_
        rintro e w' ⟨rfl, rfl⟩
        go_wp2
        go_ret
        exact ⟨by rw [HV.out]; simp, rfl⟩
    · have HV : Hid (nextIs B n true k = n) := nextIs_eq hk (Nat.le_refl _) (fun h => absurd h (Nat.lt_irrefl _)) (fun i h1 h2 => by rw [HB.out i h1 (by omega) h2]; simp)
      have hft' : ¬ (f : Int) < (n : Int) := by omega
      go_wp2
      go_ret
      exact ⟨by rw [HV.out]; rfl, rfl⟩
end Go.Proofs.YtcdpnfchmpncjaaGreatDoor

namespace Go.Tr
open Go.RowKit
def NoRun (B : Nat → Bool) (n m a : Nat) : Prop := ∀ a', a' < a → a' + m ≤ n → ∃ i, a' ≤ i ∧ i < a' + m ∧ B i = true
def AllOff (B : Nat → Bool) (a m : Nat) : Prop := ∀ i, a ≤ i → i < a + m → B i = false
def RunP (B : Nat → Bool) (n m : Nat) (e : Ending) : Prop := (∃ a, e = .returned (.tuple #[.int .i64 (a : Nat), .bool true]) ∧ a + m ≤ n ∧ AllOff B a m ∧ NoRun B n m a) ∨ (e = .returned (.tuple #[.int .i64 0, .bool false]) ∧ NoRun B n m n)
def runMu (n : Nat) (s6 s7 : Value) : Nat := match s7 with
  | .bool true => n + 1 - (intOf s6).toNat
  | _ => 0
def RunSt (B : Nat → Bool) (n m a : Nat) (ok : Bool) : Prop := (ok = true ∧ a < n ∧ B a = false ∧ NoRun B n m a) ∨ (ok = false ∧ NoRun B n m n)
theorem NoRun.first {B : Nat → Bool} {n m k : Nat} (h : NoRun B n m k) (hk : k ≤ n) (hm : 1 ≤ m) : NoRun B n m (nextIs B n false k) := fun a' h1 h2 => by
  obtain ⟨s1, s2, s3, s4⟩ := nextIs_spec B n false hk
  by_cases h3 : a' < k
  · exact h a' h3 h2
  · exact ⟨a', Nat.le_refl _, by omega, by have := s4 a' (by omega) h1; simpa using this⟩
theorem NoRun.next {B : Nat → Bool} {n m a : Nat} (h : NoRun B n m a) (ha : a ≤ n) (hm : 1 ≤ m) (hs : nextIs B n true a - a < m) : NoRun B n m (nextIs B n true a) := fun a' h1 h2 => by
  obtain ⟨s1, s2, s3, s4⟩ := nextIs_spec B n true ha
  by_cases h3 : a' < a
  · exact h a' h3 h2
  · exact ⟨nextIs B n true a, by omega, by omega, s3 (by omega)⟩
theorem RunSt.told {B : Nat → Bool} {n m k : Nat} (h : NoRun B n m k) (hk : k ≤ n) (hm : 1 ≤ m) : ∃ (a : Nat) (ok : Bool), firstV B n k = .tuple #[.int .i64 (a : Nat), .bool ok] ∧ RunSt B n m a ok ∧ (ok = true → k ≤ a) := by
  obtain ⟨t1, t2, t3, t4⟩ := nextIs_spec B n false hk
  have h2 := h.first hk hm
  by_cases hr : nextIs B n false k < n
  · exact ⟨_, true, firstV_yes rfl hr, Or.inl ⟨rfl, hr, t3 hr, h2⟩, fun _ => t1⟩
  · have e : nextIs B n false k = n := by omega
    exact ⟨0, false, firstV_no e, Or.inr ⟨rfl, by rw [e] at h2; exact h2⟩, fun h => by cases h⟩
theorem AllOff.next {B : Nat → Bool} {n m a : Nat} (ha : a ≤ n) (hs : m ≤ nextIs B n true a - a) : a + m ≤ n ∧ AllOff B a m := by
  obtain ⟨s1, s2, s3, s4⟩ := nextIs_spec B n true ha
  exact ⟨by omega, fun i h1 h2 => by have := s4 i h1 (by omega); simpa using this⟩
end Go.Tr
namespace Go.Proofs.YtcdpnfchmpncjaaGreatDoor
open Go.RowKit Go.Tr Go.Shelf
variable {w w' : World} {g b n : Nat} {B : Nat → Bool} {F : Nat → Prop}
set_option maxRecDepth 100000 in
theorem mrunb_any (m : Nat) (w : World) (h : BMF w F g n B) (hT : Tz w) (hn : n ≤ 1048576) (hm : 1 ≤ m) (hm2 : m ≤ 1048576) : Calls Tryz.prog 172 #[.pointer (some ⟨g, 0, none⟩), .int .i64 m] w fun e w' => RunP B n m e ∧ w = w' := by
  have HM := Lib.hid h
  have HTZ := Lib.hid hT
  have HF : Hid (∀ k, k ≤ n → Calls Tryz.prog 131 #[.pointer (some ⟨g, 0, none⟩), .int .i64 k] w fun e w' => e = .returned (firstV B n k) ∧ w = w') := fun k hk => mfirstb_any k w h hT hn hk
  have HX : Hid (∀ k, k ≤ n → Calls Tryz.prog 200 #[.pointer (some ⟨g, 0, none⟩), .int .i64 k] w fun e w' => e = .returned (.int .i64 (nextIs B n true k : Nat)) ∧ w = w') := fun k hk => mnextb_any k w h hT hn hk
  clear h hT
  go_enter Tryz.func172, Tryz.ntmps172
  go_wp2_with fail
  refine (HF.out 0 (Nat.zero_le _)).mono ?_
  rintro e w' ⟨rfl, rfl⟩
  obtain ⟨a, ok, hfv, hst, -⟩ := RunSt.told (B := B) (n := n) (m := m) (k := 0) (fun a' h => by omega) (Nat.zero_le _) hm
  rw [hfv]
  have HST := Lib.hid hst
  clear hfv hst
  go_wp2_with fail
  go_loopw [6, 7] (fun s6 s7 wr => wr = w ∧ ∃ (a : Nat) (ok : Bool), s6 = .int .i64 (a : Int) ∧ s7 = .bool ok ∧ Hid (RunSt B n m a ok)) (fun s6 s7 _ => runMu n s6 s7)
  case atStart => exact ⟨rfl, a, ok, rfl, rfl, HST⟩
  case round =>
    clear HST
    obtain ⟨rfl, a, ok, rfl, rfl, HS⟩ := hrel
    rcases HS.out with ⟨rfl, han, hoff, hnr⟩ | ⟨rfl, hnr⟩
    · have HNR := Lib.hid hnr
      have HN := Lib.hid (HX.out a (by omega))
      obtain ⟨s1, s2, s3, s4⟩ := nextIs_spec B n true (k := a) (by omega)
      obtain ⟨q, hq⟩ : ∃ q, q = nextIs B n true a := ⟨_, rfl⟩
      rw [← hq] at HN s1 s2 s3
      have haq : a < q := by
        rcases Nat.lt_or_ge a q with h | h
        · exact h
        · have e : q = a := by omega
          rw [e] at s3
          have := s3 han
          rw [hoff] at this; cases this
      have HQ := Lib.hid hq.symm
      clear s3 s4 hq hnr HS hoff
      by_cases hqm : m ≤ q - a
      · have HAO := Lib.hid (AllOff.next (B := B) (n := n) (m := m) (a := a) (by omega) (by rw [HQ.out]; exact hqm))
        have hqm2 : (m : Int) ≤ (q : Int) - (a : Int) := by omega
        go_wp2_with fail
        refine HN.out.mono ?_
        rintro e w' ⟨rfl, rfl⟩
        go_wp2
        go_ret2
        exact ⟨Or.inl ⟨a, rfl, HAO.out.1, HAO.out.2, HNR.out⟩, rfl⟩
      · have hnq : NoRun B n m q := by rw [← HQ.out]; exact HNR.out.next (by omega) hm (by rw [HQ.out]; omega)
        have hqm' : (q : Int) - (a : Int) < (m : Int) := by omega
        obtain ⟨a2, ok2, hfv, hst, hge⟩ := RunSt.told hnq s2 hm
        have HF2 := Lib.hid (HF.out q s2)
        rw [hfv] at HF2
        have HST := Lib.hid hst
        have hmu : runMu n (.int .i64 (a2 : Int)) (.bool ok2) < runMu n (.int .i64 (a : Int)) (.bool true) := by
          have e1 : (intOf (.int .i64 (a : Int))).toNat = a := rfl
          have e2 : (intOf (.int .i64 (a2 : Int))).toNat = a2 := rfl
          cases ok2
          · show 0 < n + 1 - (intOf (.int .i64 (a : Int))).toNat
            rw [e1]; omega
          · have := hge rfl
            show n + 1 - (intOf (.int .i64 (a2 : Int))).toNat < n + 1 - (intOf (.int .i64 (a : Int))).toNat
            rw [e1, e2]; omega
        have HMU := Lib.hid hmu
        clear hfv hst hge hmu hnq
        go_wp2_with fail
        refine HN.out.mono ?_
        rintro e w' ⟨rfl, rfl⟩
        go_wp2_with fail
        refine HF2.out.mono ?_
        rintro e w' ⟨rfl, rfl⟩
        go_wp2
        go_roundw
        case rel => exact ⟨trivial, a2, ok2, rfl, rfl, HST⟩
        case measure => exact HMU.out
    · have HNR := Lib.hid hnr
      clear hnr HS
      go_wp2
      go_ret2
      exact ⟨Or.inr ⟨rfl, HNR.out⟩, rfl⟩
theorem infoU64 : (Tryz.prog.info? 34).map (fun i => (i.zero, i.size, i.bytes)) = some (some (.int .u64 0), 1, 8) := by kernel_rfl
theorem made_us (q : Nat) : madeCells (Value.int .u64 0).cells q = (us (List.replicate q 0)).toArray := by
  apply Array.toList_inj.1
  show (madeCells #[Value.int .u64 0] q).toList = _
  rw [toList_madeCells_one]
  simp [us, uv]
theorem make_us (q : Nat) (w : World) (hq : q ≤ 1048576) : (Instr.makeSlice 35 (.int .i64 (q : Int)) (.int .i64 (q : Int))).run Tryz.prog w = .ok (.slice (some ⟨w.heap.size, 0, none⟩) q q) (w.alloc (.cells (us (List.replicate q 0)).toArray 34)) := by
  obtain ⟨i0, hi, hz0, hz1, hz2⟩ := info_parts infoU64
  have := run_make (P := Tryz.prog) w 35 34 i0 _ Tryz.underlying35 hi hz0 .i64 .i64 q q (by omega) (Int.le_refl _) (by rw [hz2]; omega) (by omega)
  rw [hz1, Int.toNat_natCast, Nat.mul_one, made_us] at this
  exact this
theorem cntB_none (n : Nat) : cntB (fun _ => false) n = 0 := by induction n <;> simp_all [cntB]
set_option maxRecDepth 100000 in
theorem mnewb_any (n : Nat) (w : World) (h1 : 1 ≤ n) (h2 : n ≤ 1048576) : Calls Tryz.prog 124 #[.int .i64 n] w fun e w' => ∃ g, e = .returned (.tuple #[.pointer (some ⟨g, 0, none⟩), .int .i64 0]) ∧ w.heap.size ≤ g ∧ BMF w' (fun k => w.heap.size ≤ k ∧ k < w'.heap.size) g n (fun _ => false) ∧ Below w.heap.size w w' := by
  obtain ⟨q, hq⟩ : ∃ q, q = (n + 63) / 64 := ⟨_, rfl⟩
  have hmk := make_us q w (by omega)
  have hq2 : ((n : Int) + 63) / 64 = (q : Int) := by omega
  have HQ := Lib.hid hq
  clear hq
  go_enter Tryz.func124, Tryz.ntmps124
  go_wp2_with fail
  have HB : Hid (Below w.heap.size w ((w.alloc (.cells (us (List.replicate q 0)).toArray 34)).alloc (.cells #[.int .i64 n, .slice (some ⟨w.heap.size, 0, none⟩) q q, .int .i64 0] 174))) := ((Below.refl _ w).alloc (Nat.le_refl _) _).alloc (by simp) _
  go_ret2
  refine ⟨_, rfl, by simp, ⟨w.heap.size, List.replicate q 0, ⟨?_, ?_, by simp, by simp; exact HQ.out, fun x hx => ?_, fun i => ?_, fun _ _ => rfl⟩, by constructor <;> simp, by constructor <;> (simp; try omega)⟩, HB.out⟩
  · have := heap_alloc_new (w.alloc (.cells (us (List.replicate q 0)).toArray 34)) (.cells #[.int .i64 n, .slice (some ⟨w.heap.size, 0, none⟩) q q, .int .i64 0] 174)
    simpa [cntB_none] using this
  · exact (Below.heap_alloc _ _ _ (by simp)).trans (heap_alloc_new w _)
  · obtain rfl := List.eq_of_mem_replicate hx
    decide
  · have e : (List.replicate q 0).getD (i / 64) 0 = 0 := by by_cases h : i / 64 < q <;> simp [List.getD, h, List.getElem?_replicate]
    rw [e]; simp
end Go.Proofs.YtcdpnfchmpncjaaGreatDoor

namespace Go.Tr
open Go.RowKit
def nv (x : Nat) : Value := .int .i64 (x : Int)
def ns (xs : List Nat) : List Value := xs.map nv
def onB (own : List Nat) : Nat → Bool := fun i => decide (own.getD i 0 ≠ 0)
theorem us_cell {w : World} {b : Nat} {ws : List Nat} {U : TypeId} (h : w.heap[b]? = some (.cells (us ws).toArray U (0, 0))) {j x : Nat} (hx : ws[j]? = some x) : w.cell? ⟨b, j, none⟩ = some (.int .u64 x) ∧ w.frozen? ⟨b, j, none⟩ = false := by
  refine ⟨?_, by simp [World.frozen?, h]⟩
  rw [cell_of_row w b j _ _ (0, 0) h]
  simp [us, hx, uv]
theorem ns_cell {w : World} {b : Nat} {ws : List Nat} {U : TypeId} (h : w.heap[b]? = some (.cells (ns ws).toArray U (0, 0))) {j x : Nat} (hx : ws[j]? = some x) : w.cell? ⟨b, j, none⟩ = some (.int .i64 x) ∧ w.frozen? ⟨b, j, none⟩ = false := by
  refine ⟨?_, by simp [World.frozen?, h]⟩
  rw [cell_of_row w b j _ _ (0, 0) h]
  simp [ns, hx, nv]
theorem setCell_ns {w : World} {b : Nat} {ws : List Nat} {U : TypeId} (h : w.heap[b]? = some (.cells (ns ws).toArray U (0, 0))) (j y : Nat) : (w.setCell ⟨b, j, none⟩ (.int .i64 (y : Int))).heap[b]? = some (.cells (ns (ws.set j y)).toArray U (0, 0)) := by
  simp [World.setCell, Array.getElem?_modify, h, ns, List.map_set, nv]
def Owned (own : List Nat) (Wd addr n : Nat) : Prop := ∀ c, addr / Wd ≤ c → c ≤ (addr + n - 1) / Wd → own.getD c 0 ≠ 0
theorem World.cell_kept {w w' : World} {b o : Nat} (h : w'.heap[b]? = w.heap[b]?) : w'.cell? ⟨b, o, none⟩ = w.cell? ⟨b, o, none⟩ := World.cell?_of_block (a := ⟨b, o, none⟩) h
end Go.Tr
namespace Go.Proofs.YtcdpnfchmpncjaaGreatDoor
open Go.RowKit Go.Tr Go.Shelf
variable {w w' : World} {g wb ob m C Wd : Nat} {ws own : List Nat} {F Fm : Nat → Prop}
structure StAt (w : World) (g wb ob m : Nat) (Fm : Nat → Prop) (C Wd : Nat) (ws own : List Nat) : Prop where
  block : w.heap[g]? = some (.cells #[.slice (some ⟨wb, 0, none⟩) (C * Wd) (C * Wd), .int .i64 Wd, .slice (some ⟨ob, 0, none⟩) C C, .pointer (some ⟨m, 0, none⟩)] 98 (0, 0))
  words : w.heap[wb]? = some (.cells (us ws).toArray 34 (0, 0))
  owners : w.heap[ob]? = some (.cells (ns own).toArray 3 (0, 0))
  map : BMF w Fm m C (onB own)
  ne : g ≠ wb ∧ g ≠ ob ∧ wb ≠ ob
  nf : ¬ Fm g ∧ ¬ Fm wb ∧ ¬ Fm ob
  len : ws.length = C * Wd
  olen : own.length = C
  small : ∀ x ∈ ws, x < 18446744073709551616
  cb : 1 ≤ C ∧ C ≤ 1024
  wd : 1 ≤ Wd ∧ Wd ≤ 1024
def StF (w : World) (F : Nat → Prop) (g C Wd : Nat) (ws own : List Nat) : Prop := ∃ wb ob m Fm, StAt w g wb ob m Fm C Wd ws own ∧ F g ∧ F wb ∧ F ob ∧ ∀ k, Fm k → F k
theorem StAt.lt (h : StAt w g wb ob m Fm C Wd ws own) : g < w.heap.size ∧ wb < w.heap.size ∧ ob < w.heap.size := ⟨(Array.getElem?_eq_some_iff.1 h.block).1, (Array.getElem?_eq_some_iff.1 h.words).1, (Array.getElem?_eq_some_iff.1 h.owners).1⟩
theorem StF.kept (h : StF w F g C Wd ws own) (hk : ∀ k, F k → k < w.heap.size → w'.heap[k]? = w.heap[k]?) : StF w' F g C Wd ws own := by
  obtain ⟨wb, ob, m, Fm, h, h1, h2, h3, h4⟩ := h
  obtain ⟨l1, l2, l3⟩ := h.lt
  exact ⟨wb, ob, m, Fm, ⟨(hk _ h1 l1).trans h.block, (hk _ h2 l2).trans h.words, (hk _ h3 l3).trans h.owners, h.map.kept (fun k hf hl => hk k (h4 k hf) hl), h.ne, h.nf, h.len, h.olen, h.small, h.cb, h.wd⟩, h1, h2, h3, h4⟩
theorem StAt.head (h : StAt w g wb ob m Fm C Wd ws own) : w.cell? ⟨g, 0, none⟩ = some (.slice (some ⟨wb, 0, none⟩) (C * Wd) (C * Wd)) ∧ w.cell? ⟨g, 1, none⟩ = some (.int .i64 Wd) ∧ w.cell? ⟨g, 2, none⟩ = some (.slice (some ⟨ob, 0, none⟩) C C) ∧ w.cell? ⟨g, 3, none⟩ = some (.pointer (some ⟨m, 0, none⟩)) := by
  refine ⟨?_, ?_, ?_, ?_⟩
  · have := cell_of_row w g 0 _ _ (0, 0) h.block; simpa using this
  · have := cell_of_row w g 1 _ _ (0, 0) h.block; simpa using this
  · have := cell_of_row w g 2 _ _ (0, 0) h.block; simpa using this
  · have := cell_of_row w g 3 _ _ (0, 0) h.block; simpa using this
theorem swords_any (w : World) (h : StF w F g C Wd ws own) : Calls Tryz.prog 68 #[.pointer (some ⟨g, 0, none⟩)] w fun e w' => e = .returned (.int .i64 Wd) ∧ w = w' := by
  obtain ⟨wb, ob, m, Fm, h, -⟩ := h
  obtain ⟨c0, c1, c2, c3⟩ := h.head
  clear h
  go_enter Tryz.func68, Tryz.ntmps68
  go_wp2
  go_ret
  exact ⟨rfl, rfl⟩
set_option maxRecDepth 100000 in
theorem sat_any (addr n : Nat) (w : World) (h : StF w F g C Wd ws own) (hn : 1 ≤ n) (hr : addr + n ≤ C * Wd) (ho : Owned own Wd addr n) : Calls Tryz.prog 178 #[.pointer (some ⟨g, 0, none⟩), .int .i64 addr, .int .i64 n] w fun e w' => e = .returned (.int .i64 0) ∧ w = w' := by
  obtain ⟨wb, ob, m, Fm, h, -⟩ := h
  obtain ⟨c0, c1, c2, c3⟩ := h.head
  have HA := Lib.hid h
  have HO := Lib.hid ho
  obtain ⟨hw1, hw2⟩ := h.wd
  obtain ⟨hc1, hc2⟩ := h.cb
  have hbig : C * Wd ≤ 1048576 := Nat.le_trans (Nat.mul_le_mul hc2 hw2) (by decide)
  obtain ⟨sz, hsz⟩ : ∃ sz, sz = C * Wd := ⟨_, rfl⟩
  rw [← hsz] at c0 hr hbig
  have HSZ := Lib.hid hsz
  clear h ho hsz
  obtain ⟨q0, hq0⟩ : ∃ q0, q0 = addr / Wd := ⟨_, rfl⟩
  obtain ⟨q1, hq1⟩ : ∃ q1, q1 = (addr + n - 1) / Wd := ⟨_, rfl⟩
  have h01 : q0 ≤ q1 := by rw [hq0, hq1]; exact Nat.div_le_div_right (by omega)
  have h1c : q1 < C := by rw [hq1, Nat.div_lt_iff_lt_mul (by omega)]; have := HSZ.out; omega
  have HOW : Hid (∀ c, q0 ≤ c → c ≤ q1 → own.getD c 0 ≠ 0) := by rw [hq0, hq1]; exact HO.out
  have e0 : (addr : Int) / (Wd : Int) = (q0 : Int) := by rw [hq0]; push_cast; rfl
  have e1 : ((addr : Int) + (n : Int) - 1) / (Wd : Int) = (q1 : Int) := by
    rw [hq1]
    have : (addr : Int) + (n : Int) - 1 = ((addr + n - 1 : Nat) : Int) := by omega
    rw [this]; push_cast; rfl
  clear hq0 hq1 HO
  have hwz : ¬ ((Wd : Int) = 0) := by omega
  go_enter Tryz.func178, Tryz.ntmps178
  go_wp2_with fail
  go_loopw [7] (fun i wr => wr = w ∧ ∃ c : Nat, i = .int .i64 (c : Int) ∧ q0 ≤ c ∧ c ≤ q1 + 1) (fun i _ => q1 + 1 - (intOf i).toNat)
  case atStart => exact ⟨rfl, q0, rfl, Nat.le_refl _, by omega⟩
  case round =>
    obtain ⟨rfl, c, rfl, hc1', hc2'⟩ := hrel
    by_cases hlt : c ≤ q1
    · have hlt' : (c : Int) ≤ (q1 : Int) := by omega
      have hox := HOW.out c hc1' hlt
      obtain ⟨o, hoo⟩ : ∃ o, own[c]? = some o := ⟨_, List.getElem?_eq_getElem (by rw [HA.out.olen]; omega)⟩
      obtain ⟨cc, fc⟩ := ns_cell HA.out.owners hoo
      have ho0 : ((o : Int) == 0) = false := by simp [List.getD, hoo] at hox; simp; omega
      have hcC : c < C := by omega
      clear hox hoo
      go_wp2
      go_roundw
      case rel => exact ⟨trivial, c + 1, by go_num, by omega, by omega⟩
      case measure => simp [intOf]; omega
    · have hlt' : ¬ (c : Int) ≤ (q1 : Int) := by omega
      go_wp2
      go_ret
      exact ⟨rfl, rfl⟩
theorem owned_one {own : List Nat} {Wd addr : Nat} (h : own.getD (addr / Wd) 0 ≠ 0) : Owned own Wd addr 1 := fun c h1 h2 => by
  have e : c = addr / Wd := by simp at h2; omega
  rw [e]; exact h
theorem sat1_any (addr : Nat) (w : World) (h : StF w F g C Wd ws own) (hr : addr < C * Wd) (ho : own.getD (addr / Wd) 0 ≠ 0) : Calls Tryz.prog 178 #[.pointer (some ⟨g, 0, none⟩), .int .i64 addr, .int .i64 1] w fun e w' => e = .returned (.int .i64 0) ∧ w = w' :=
  sat_any addr 1 w h (Nat.le_refl _) (by omega) (owned_one ho)
set_option maxRecDepth 100000 in
theorem sread_any (addr : Nat) (w : World) (h : StF w F g C Wd ws own) (hr : addr < C * Wd) (ho : own.getD (addr / Wd) 0 ≠ 0) : Calls Tryz.prog 143 #[.pointer (some ⟨g, 0, none⟩), .int .i64 addr] w fun e w' => e = .returned (.tuple #[.int .u64 (ws.getD addr 0 : Nat), .int .i64 0]) ∧ w = w' := by
  have HAT := Lib.hid (sat1_any addr w h hr ho)
  obtain ⟨wb, ob, m, Fm, h, -⟩ := h
  obtain ⟨c0, c1, c2, c3⟩ := h.head
  have hbig : C * Wd ≤ 1048576 := Nat.le_trans (Nat.mul_le_mul h.cb.2 h.wd.2) (by decide)
  obtain ⟨x, hx⟩ : ∃ x, ws[addr]? = some x := ⟨_, List.getElem?_eq_getElem (by rw [h.len]; exact hr)⟩
  obtain ⟨cx, fx⟩ := us_cell h.words hx
  have HX : Hid (ws.getD addr 0 = x) := by show _ = _; simp [List.getD, hx]
  obtain ⟨sz, hsz⟩ : ∃ sz, sz = C * Wd := ⟨_, rfl⟩
  rw [← hsz] at c0 hr hbig
  rw [HX.out]
  clear h ho hx hsz
  go_enter Tryz.func143, Tryz.ntmps143
  go_wp2_with fail
  refine HAT.out.mono ?_
  rintro e w' ⟨rfl, rfl⟩
  go_wp2_with fail
  go_ret2
  exact ⟨rfl, rfl⟩
end Go.Proofs.YtcdpnfchmpncjaaGreatDoor

namespace Go.Proofs.YtcdpnfchmpncjaaGreatDoor
open Go.RowKit Go.Tr Go.Shelf
variable {w w' : World} {g wb ob m C Wd : Nat} {ws own : List Nat} {F Fm : Nat → Prop}
theorem StAt.word (h : StAt w g wb ob m Fm C Wd ws own) (j y : Nat) (hy : y < 18446744073709551616) : StAt (w.setCell ⟨wb, j, none⟩ (.int .u64 (y : Int))) g wb ob m Fm C Wd (ws.set j y) own := by
  obtain ⟨n1, n2, n3⟩ := h.ne
  obtain ⟨f1, f2, f3⟩ := h.nf
  refine ⟨(Below.heap_setCell _ _ _ _ n1).trans h.block, setCell_us h.words j y, (Below.heap_setCell _ _ _ _ (Ne.symm n3)).trans h.owners, h.map.kept (fun k hk _ => Below.heap_setCell _ _ _ _ (fun e => f2 (by have e' : _ = wb := e; rw [← e']; exact hk))), h.ne, h.nf, by rw [List.length_set]; exact h.len, h.olen, fun x hx => ?_, h.cb, h.wd⟩
  rcases List.mem_or_eq_of_mem_set hx with hx | rfl
  · exact h.small x hx
  · exact hy
theorem setCell_size (w : World) (p : Addr) (v : Value) : (w.setCell p v).heap.size = w.heap.size := by simp [World.setCell]
set_option maxRecDepth 100000 in
theorem swrite_any (addr x : Nat) (w : World) (h : StF w F g C Wd ws own) (hx : x < 18446744073709551616) (hr : addr < C * Wd) (ho : own.getD (addr / Wd) 0 ≠ 0) : Calls Tryz.prog 136 #[.pointer (some ⟨g, 0, none⟩), .int .i64 addr, .int .u64 x] w fun e w' => e = .returned (.int .i64 0) ∧ StF w' F g C Wd (ws.set addr x) own ∧ Only F w w' ∧ w'.heap.size = w.heap.size := by
  have HAT := Lib.hid (sat1_any addr w h hr ho)
  obtain ⟨wb, ob, m, Fm, h, h1, h2, h3, h4⟩ := h
  obtain ⟨c0, c1, c2, c3⟩ := h.head
  have hbig : C * Wd ≤ 1048576 := Nat.le_trans (Nat.mul_le_mul h.cb.2 h.wd.2) (by decide)
  obtain ⟨x0, hx0⟩ : ∃ x, ws[addr]? = some x := ⟨_, List.getElem?_eq_getElem (by rw [h.len]; exact hr)⟩
  obtain ⟨cx, fx⟩ := us_cell h.words hx0
  have HW := Lib.hid (h.word addr x hx)
  obtain ⟨sz, hsz⟩ : ∃ sz, sz = C * Wd := ⟨_, rfl⟩
  rw [← hsz] at c0 hr hbig
  clear h ho hx0 hsz
  go_enter Tryz.func136, Tryz.ntmps136
  go_wp2_with fail
  refine HAT.out.mono ?_
  rintro e w' ⟨rfl, rfl⟩
  go_wp2_with fail
  go_ret
  exact ⟨rfl, ⟨wb, ob, m, Fm, HW.out, h1, h2, h3, h4⟩, (Only.refl _ _).setCell (Or.inl h2) _, setCell_size _ _ _⟩
theorem scheck_any (c : Nat) (w : World) (h : StF w F g C Wd ws own) (hc : c < C) (ho : own.getD c 0 ≠ 0) : Calls Tryz.prog 158 #[.pointer (some ⟨g, 0, none⟩), .int .i64 c] w fun e w' => e = .returned (.int .i64 0) ∧ w = w' := by
  obtain ⟨wb, ob, m, Fm, h, -⟩ := h
  obtain ⟨c0, c1, c2, c3⟩ := h.head
  have hcb := h.cb
  obtain ⟨o, hoo⟩ : ∃ o, own[c]? = some o := ⟨_, List.getElem?_eq_getElem (by rw [h.olen]; exact hc)⟩
  obtain ⟨cc, fc⟩ := ns_cell h.owners hoo
  have ho0 : ((o : Int) == 0) = false := by simp [List.getD, hoo] at ho; simp; omega
  clear h ho hoo
  go_enter Tryz.func158, Tryz.ntmps158
  go_wp2_with fail
  go_ret
  exact ⟨rfl, rfl⟩
theorem onB_set_on {own : List Nat} {c o : Nat} (hc : c < own.length) (ho : o ≠ 0) : onB (own.set c o) = setB (onB own) c true := by
  funext i
  unfold onB setB
  by_cases e : i = c
  · subst e; simp [List.getD, hc, ho]
  · rw [if_neg e]
    have : (own.set c o).getD i 0 = own.getD i 0 := by simp [List.getD, List.getElem?_set_ne (Ne.symm e)]
    rw [this]
theorem onB_set_off {own : List Nat} {c : Nat} : onB (own.set c 0) = setB (onB own) c false := by
  funext i
  unfold onB setB
  by_cases e : i = c
  · subst e
    by_cases hc : i < own.length <;> simp [List.getD, hc]
  · rw [if_neg e]
    have : (own.set c 0).getD i 0 = own.getD i 0 := by simp [List.getD, List.getElem?_set_ne (Ne.symm e)]
    rw [this]
theorem StAt.owner (h : StAt w g wb ob m Fm C Wd ws own) {own' : List Nat} (hl : own'.length = own.length) (h1 : w'.heap[g]? = w.heap[g]?) (h2 : w'.heap[wb]? = w.heap[wb]?) (h3 : w'.heap[ob]? = some (.cells (ns own').toArray 3 (0, 0))) (hm : BMF w' Fm m C (onB own')) : StAt w' g wb ob m Fm C Wd ws own' :=
  ⟨h1.trans h.block, h2.trans h.words, h3, hm, h.ne, h.nf, h.len, hl.trans h.olen, h.small, h.cb, h.wd⟩
set_option maxRecDepth 100000 in
theorem srelease_any (c : Nat) (w : World) (h : StF w F g C Wd ws own) (hc : c < C) (ho : own.getD c 0 ≠ 0) : Calls Tryz.prog 119 #[.pointer (some ⟨g, 0, none⟩), .int .i64 c] w fun e w' => e = .returned (.int .i64 0) ∧ StF w' F g C Wd ws (own.set c 0) ∧ Only F w w' ∧ w'.heap.size = w.heap.size := by
  have HCK := Lib.hid (scheck_any c w h hc ho)
  obtain ⟨wb, ob, m, Fm, h, h1, h2, h3, h4⟩ := h
  obtain ⟨c0, c1, c2, c3⟩ := h.head
  have hcb := h.cb
  obtain ⟨o, hoo⟩ : ∃ o, own[c]? = some o := ⟨_, List.getElem?_eq_getElem (by rw [h.olen]; exact hc)⟩
  obtain ⟨cc, fc⟩ := ns_cell h.owners hoo
  have HA := Lib.hid h
  have d3 := (World.cell_kept (o := 3) (Below.heap_setCell w ⟨ob, c, none⟩ (.int .i64 0) g h.ne.2.1)).trans c3
  have HK : Hid (BMF (w.setCell ⟨ob, c, none⟩ (.int .i64 0)) Fm m C (onB own)) := h.map.kept (fun k hk _ => Below.heap_setCell _ _ _ _ (fun e => h.nf.2.2 (by have e' : _ = ob := e; rw [← e']; exact hk)))
  have HST := Lib.hid (msetF c false _ HK.out (by omega) hc)
  clear h ho hoo HK
  go_enter Tryz.func119, Tryz.ntmps119
  go_wp2_with fail
  refine HCK.out.mono ?_
  rintro e w' ⟨rfl, rfl⟩
  go_wp2_with fail
  refine HST.out.mono ?_
  rintro e w1 ⟨rfl, hb, hon, hsz⟩
  have hkg : w1.heap[g]? = w.heap[g]? := (hon.block g (by rw [setCell_size]; exact HA.out.lt.1) HA.out.nf.1).trans (Below.heap_setCell _ _ _ _ HA.out.ne.2.1)
  have hkw : w1.heap[wb]? = w.heap[wb]? := (hon.block wb (by rw [setCell_size]; exact HA.out.lt.2.1) HA.out.nf.2.1).trans (Below.heap_setCell _ _ _ _ HA.out.ne.2.2)
  have hko : w1.heap[ob]? = some (.cells (ns (own.set c 0)).toArray 3 (0, 0)) := (hon.block ob (by rw [setCell_size]; exact HA.out.lt.2.2) HA.out.nf.2.2).trans (setCell_ns HA.out.owners c 0)
  have HF := Lib.hid (HA.out.owner (own' := own.set c 0) (by simp) hkg hkw hko (by rw [onB_set_off]; exact hb))
  have HO : Hid (Only F w w1) := ((Only.refl F w).setCell (p := ⟨ob, c, none⟩) (Or.inl h3) _).trans hon (fun k hk => Or.inl (h4 k hk))
  have HS : Hid (w1.heap.size = w.heap.size) := hsz.trans (setCell_size _ _ _)
  clear hb hon hsz hkg hkw hko
  go_wp2
  go_ret
  exact ⟨rfl, ⟨wb, ob, m, Fm, HF.out, h1, h2, h3, h4⟩, HO.out, HS.out⟩
set_option maxRecDepth 100000 in
theorem sgive_any (c o : Nat) (w : World) (h : StF w F g C Wd ws own) (hc : c < C) (ho : own.getD c 0 ≠ 0) (ho1 : 1 ≤ o) (ho2 : o ≤ 9223372036854775807) : Calls Tryz.prog 170 #[.pointer (some ⟨g, 0, none⟩), .int .i64 c, .int .i64 o] w fun e w' => e = .returned (.int .i64 0) ∧ StF w' F g C Wd ws (own.set c o) ∧ Only F w w' ∧ w'.heap.size = w.heap.size := by
  have HCK := Lib.hid (scheck_any c w h hc ho)
  obtain ⟨wb, ob, m, Fm, h, h1, h2, h3, h4⟩ := h
  obtain ⟨c0, c1, c2, c3⟩ := h.head
  have hcb := h.cb
  obtain ⟨o0, hoo⟩ : ∃ o, own[c]? = some o := ⟨_, List.getElem?_eq_getElem (by rw [h.olen]; exact hc)⟩
  obtain ⟨cc, fc⟩ := ns_cell h.owners hoo
  have HA := Lib.hid h
  have HOB : Hid (onB (own.set c o) = onB own) := by
    show _ = _
    rw [onB_set_on (by rw [h.olen]; exact hc) (by omega)]
    funext i
    unfold setB
    by_cases e : i = c
    · rw [if_pos e, e]; unfold onB; simpa using ho
    · rw [if_neg e]
  clear h ho hoo
  go_enter Tryz.func170, Tryz.ntmps170
  go_wp2_with fail
  refine HCK.out.mono ?_
  rintro e w' ⟨rfl, rfl⟩
  go_wp2
  go_ret
  refine ⟨rfl, ⟨wb, ob, m, Fm, HA.out.owner (own' := own.set c o) (by simp) (Below.heap_setCell _ _ _ _ HA.out.ne.2.1) (Below.heap_setCell _ _ _ _ HA.out.ne.2.2) (setCell_ns HA.out.owners c o) ?_, h1, h2, h3, h4⟩, (Only.refl F _).setCell (p := ⟨ob, c, none⟩) (Or.inl h3) _, setCell_size _ _ _⟩
  rw [HOB.out]
  exact HA.out.map.kept (fun k hk _ => Below.heap_setCell _ _ _ _ (fun e => HA.out.nf.2.2 (by have e' : _ = ob := e; rw [← e']; exact hk)))
end Go.Proofs.YtcdpnfchmpncjaaGreatDoor

namespace Go.Tr
open Go.RowKit
def putAt : List Nat → Nat → List Nat → List Nat
  | ws, _, [] => ws
  | ws, o, y :: r => putAt (ws.set o y) (o + 1) r
theorem putAt_length : ∀ (ys ws : List Nat) (o : Nat), (putAt ws o ys).length = ws.length
  | [], _, _ => rfl
  | y :: r, ws, o => by unfold putAt; rw [putAt_length]; simp
theorem putAt_snoc : ∀ (ys ws : List Nat) (o y : Nat), putAt ws o (ys ++ [y]) = (putAt ws o ys).set (o + ys.length) y
  | [], ws, o, y => by simp [putAt]
  | z :: r, ws, o, y => by
    show putAt (ws.set o z) (o + 1) (r ++ [y]) = (putAt (ws.set o z) (o + 1) r).set _ _
    rw [putAt_snoc r]
    congr 1
    simp; omega
theorem putAt_get : ∀ (ys ws : List Nat) (o i : Nat), (putAt ws o ys).getD i 0 = if o ≤ i ∧ i < o + ys.length ∧ i < ws.length then ys.getD (i - o) 0 else ws.getD i 0
  | [], ws, o, i => by
    unfold putAt
    rw [if_neg (by simp; omega)]
  | y :: r, ws, o, i => by
    show (putAt (ws.set o y) (o + 1) r).getD i 0 = _
    rw [putAt_get r]
    by_cases h1 : o + 1 ≤ i ∧ i < o + 1 + r.length ∧ i < (ws.set o y).length
    · rw [if_pos h1, if_pos (by simp at h1 ⊢; omega)]
      obtain ⟨j, rfl⟩ : ∃ j, i = o + 1 + j := ⟨i - (o + 1), by omega⟩
      rw [show o + 1 + j - (o + 1) = j by omega, show o + 1 + j - o = j + 1 by omega]
      rfl
    · rw [if_neg h1]
      by_cases h2 : i = o ∧ i < ws.length
      · obtain ⟨rfl, h3⟩ := h2
        rw [if_pos (by simp; omega)]
        simp [List.getD, h3]
      · rw [if_neg (by simp at h1 ⊢; omega)]
        by_cases h3 : i = o
        · subst h3
          have : ws.length ≤ i := by omega
          simp [List.getD, List.getElem?_eq_none this, List.getElem?_eq_none (show (ws.set i y).length ≤ i by simpa using this)]
        · simp [List.getD, List.getElem?_set_ne (Ne.symm h3)]
theorem putAt_small {ws ys : List Nat} {o : Nat} {B : Nat} (h1 : ∀ x ∈ ws, x < B) (h2 : ∀ x ∈ ys, x < B) : ∀ x ∈ putAt ws o ys, x < B := by
  induction ys generalizing ws o with
  | nil => exact h1
  | cons y r ih =>
    refine ih (fun x hx => ?_) (fun x hx => h2 x (List.mem_cons_of_mem _ hx))
    rcases List.mem_or_eq_of_mem_set hx with hx | rfl
    · exact h1 x hx
    · exact h2 x (by simp)
theorem setCells_us {U : TypeId} {b : Nat} : ∀ (ys ws : List Nat) (o : Nat) (w : World), w.heap[b]? = some (.cells (us ws).toArray U (0, 0)) → (w.setCells b o (us ys)).heap[b]? = some (.cells (us (putAt ws o ys)).toArray U (0, 0))
  | [], _, _, _, h => h
  | y :: r, ws, o, w, h => setCells_us r (ws.set o y) (o + 1) _ (setCell_us h o y)
theorem setCells_other {b k : Nat} (hk : k ≠ b) : ∀ (ys : List Value) (o : Nat) (w : World), (w.setCells b o ys).heap[k]? = w.heap[k]?
  | [], _, _ => rfl
  | y :: r, o, w => (setCells_other hk r (o + 1) _).trans (Below.heap_setCell _ _ _ _ hk)
theorem setCells_size {b : Nat} : ∀ (ys : List Value) (o : Nat) (w : World), (w.setCells b o ys).heap.size = w.heap.size
  | [], _, _ => rfl
  | y :: r, o, w => (setCells_size r (o + 1) _).trans (by simp [World.setCell])
theorem Only.setCells {F : Nat → Prop} {a w : World} (h : Only F a w) {b : Nat} (hb : F b ∨ a.heap.size ≤ b) : ∀ (ys : List Value) (o : Nat), Only F a (w.setCells b o ys) := fun ys => by
  induction ys generalizing w with
  | nil => exact fun _ => h
  | cons y r ih => exact fun o => ih (h.setCell (p := ⟨b, o, none⟩) hb y) (o + 1)
theorem wp_clear_run {P : Program} (w : World) {o : Oper} {a : Act} {K : Act → World → Prop} {Q : Exit → Act → World → Prop} (d : Operand) (t : TypeId)
    (ho : o.op = .call { callee := .builtin .clear, args := #[d], argTypes := #[t] }) (v : Value) (hd : a.eval d = v) {v' : Value} {w' : World}
    (hr : (Builtin.clear_ #[t] o.type #[v]).run P w = .ok v' w') (h : K (a.put o.dst v') w') : o.wp P a w K Q := by
  unfold Oper.wp execOp
  simp only [ho, resolve, invoke, builtin, Sem.run_bind, Sem.run_pure, Result.andThen_ok, List.map_toArray, List.map_cons, List.map_nil, hd, hr]
  exact h
end Go.Tr
namespace Go.Proofs.YtcdpnfchmpncjaaGreatDoor
open Go.RowKit Go.Tr Go.Shelf
variable {w w' : World} {g wb ob m C Wd : Nat} {ws own : List Nat} {F Fm : Nat → Prop}
theorem onB_fill {own : List Nat} {a o : Nat} (ho : o ≠ 0) : ∀ {n}, a + n ≤ own.length → onB (putAt own a (List.replicate n o)) = fillB (onB own) a n true
  | 0, _ => by rw [fillB_zero]; rfl
  | n + 1, h => by
    rw [List.replicate_succ', putAt_snoc, fillB_succ, ← onB_fill (n := n) ho (by omega), List.length_replicate]
    exact onB_set_on (by rw [putAt_length]; omega) ho
def TakeP (F : Nat → Prop) (g C Wd : Nat) (ws own : List Nat) (o n : Nat) (e : Ending) (w' : World) : Prop :=
  (∃ a, e = .returned (.tuple #[.int .i64 (a : Nat), .int .i64 0]) ∧ a + n ≤ C ∧ (∀ i, a ≤ i → i < a + n → own.getD i 0 = 0) ∧ StF w' F g C Wd (putAt ws (a * Wd) (List.replicate (n * Wd) 0)) (putAt own a (List.replicate n o))) ∨
  (e = .returned (.tuple #[.int .i64 0, .int .i64 11]) ∧ StF w' F g C Wd ws own ∧ ∀ a, a + n ≤ C → ∃ i, a ≤ i ∧ i < a + n ∧ own.getD i 0 ≠ 0)
set_option maxRecDepth 100000 in
theorem stake_any (o n : Nat) (w : World) (h : StF w F g C Wd ws own) (hT : Tz w) (ho : 1 ≤ o) (ho2 : o ≤ 9223372036854775807) (hn : 1 ≤ n) (hn2 : n ≤ 1048576) : Calls Tryz.prog 130 #[.pointer (some ⟨g, 0, none⟩), .int .i64 o, .int .i64 n] w fun e w' => TakeP F g C Wd ws own o n e w' ∧ Only F w w' ∧ w'.heap.size = w.heap.size := by
  obtain ⟨wb, ob, m, Fm, h, h1, h2, h3, h4⟩ := h
  obtain ⟨c0, c1, c2, c3⟩ := h.head
  obtain ⟨hcb1, hcb2⟩ := h.cb
  have HR := Lib.hid (mrunb_any n w h.map hT (by omega) hn hn2)
  have HA := Lib.hid h
  clear h hT
  go_enter Tryz.func130, Tryz.ntmps130
  go_wp2_with fail
  refine HR.out.mono ?_
  rintro e w' ⟨hp, rfl⟩
  rcases hp with ⟨a, rfl, ha, hoff, -⟩ | ⟨rfl, hno⟩
  · have HOFF := Lib.hid hoff
    clear hoff
    go_wp2_with fail
    refine (mfillF a n true _ HA.out.map (by omega) ha).mono ?_
    rintro e w1 ⟨rfl, hb, hon, hsz⟩
    have hkg : w1.heap[g]? = w.heap[g]? := hon.block g HA.out.lt.1 HA.out.nf.1
    have hkw : w1.heap[wb]? = w.heap[wb]? := hon.block wb HA.out.lt.2.1 HA.out.nf.2.1
    have hko : w1.heap[ob]? = w.heap[ob]? := hon.block ob HA.out.lt.2.2 HA.out.nf.2.2
    have HB := Lib.hid hb
    have HO : Hid (Only F w w1) := hon.mono h4
    have HS := Lib.hid hsz
    have HKG := Lib.hid (hkg.trans HA.out.block)
    have HKW := Lib.hid (hkw.trans HA.out.words)
    have HKO : Hid (w1.heap[ob]? = some (.cells (ns (putAt own a (List.replicate 0 o))).toArray 3 (0, 0))) := hko.trans HA.out.owners
    clear hb hon hsz hkg hkw hko c0 c1 c2 c3
    go_wp2_with fail
    go_loopw [10] (fun i wr => ∃ j : Nat, j ≤ n ∧ i = .int .i64 ((a + j : Nat) : Int) ∧ Hid (wr.heap[g]? = w1.heap[g]?) ∧ Hid (wr.heap[wb]? = w1.heap[wb]?) ∧ Hid (wr.heap[ob]? = some (.cells (ns (putAt own a (List.replicate j o))).toArray 3 (0, 0))) ∧ Hid (BMF wr Fm m C (fillB (onB own) a n true)) ∧ Hid (Only F w wr) ∧ Hid (wr.heap.size = w.heap.size)) (fun i _ => a + n - (intOf i).toNat)
    case atStart => exact ⟨0, Nat.zero_le _, by simp, rfl, rfl, HKO, HB, HO, HS⟩
    case round =>
      clear HKO HB HO HS
      obtain ⟨j, hj, rfl, HG, HW, HOB, HBM, HO, HS⟩ := hrel
      have c0 := cell_of_row wr g 0 _ _ (0, 0) (HG.out.trans HKG.out)
      have c1 := cell_of_row wr g 1 _ _ (0, 0) (HG.out.trans HKG.out)
      have c2 := cell_of_row wr g 2 _ _ (0, 0) (HG.out.trans HKG.out)
      simp at c0 c1 c2
      by_cases hlt : j < n
      · obtain ⟨x, hx⟩ : ∃ x, (putAt own a (List.replicate j o))[a + j]? = some x := ⟨_, List.getElem?_eq_getElem (by rw [putAt_length, HA.out.olen]; omega)⟩
        obtain ⟨cx, fx⟩ := ns_cell HOB.out hx
        have hjC : (a : Int) + (j : Int) < (C : Int) := by omega
        have hgl : ob ≠ g := Ne.symm HA.out.ne.2.1
        have H1 : Hid ((wr.setCell ⟨ob, a + j, none⟩ (.int .i64 (o : Int))).heap[g]? = w1.heap[g]?) := (Below.heap_setCell _ _ _ _ HA.out.ne.2.1).trans HG.out
        have H2 : Hid ((wr.setCell ⟨ob, a + j, none⟩ (.int .i64 (o : Int))).heap[wb]? = w1.heap[wb]?) := (Below.heap_setCell _ _ _ _ HA.out.ne.2.2).trans HW.out
        have H3 : Hid ((wr.setCell ⟨ob, a + j, none⟩ (.int .i64 (o : Int))).heap[ob]? = some (.cells (ns (putAt own a (List.replicate (j + 1) o))).toArray 3 (0, 0))) := by
          have := setCell_ns HOB.out (a + j) o
          rw [List.replicate_succ', putAt_snoc, List.length_replicate]
          exact this
        have H4 : Hid (BMF (wr.setCell ⟨ob, a + j, none⟩ (.int .i64 (o : Int))) Fm m C (fillB (onB own) a n true)) := HBM.out.kept (fun k hk _ => Below.heap_setCell _ _ _ _ (fun e => HA.out.nf.2.2 (by have e' : _ = ob := e; rw [← e']; exact hk)))
        have H5 : Hid (Only F w (wr.setCell ⟨ob, a + j, none⟩ (.int .i64 (o : Int)))) := HO.out.setCell (p := ⟨ob, a + j, none⟩) (Or.inl h3) _
        have H6 : Hid ((wr.setCell ⟨ob, a + j, none⟩ (.int .i64 (o : Int))).heap.size = w.heap.size) := (setCell_size _ _ _).trans HS.out
        clear HG HW HOB HBM HO HS hx hgl
        go_wp2
        go_roundw
        case rel => exact ⟨j + 1, by omega, by go_num, H1, H2, H3, H4, H5, H6⟩
        case measure => simp [intOf]; omega
      · have e : j = n := by omega
        subst e
        have hbig : C * Wd ≤ 1048576 := Nat.le_trans (Nat.mul_le_mul hcb2 HA.out.wd.2) (by decide)
        obtain ⟨sz, hsz⟩ : ∃ sz, sz = C * Wd := ⟨_, rfl⟩
        obtain ⟨p, hp⟩ : ∃ p, p = a * Wd := ⟨_, rfl⟩
        obtain ⟨q, hq⟩ : ∃ q, q = (a + j) * Wd := ⟨_, rfl⟩
        have hwd := HA.out.wd
        have hpq : p < q := by rw [hp, hq]; exact Nat.mul_lt_mul_of_pos_right (by omega) (by omega)
        have hqs : q ≤ sz := by rw [hq, hsz]; exact Nat.mul_le_mul_right _ ha
        rw [← hsz] at c0 hbig
        have hqp : q - p = j * Wd := by rw [hp, hq, Nat.add_mul]; omega
        have HQP := Lib.hid hqp
        have HP := Lib.hid hp
        have HSZ := Lib.hid hsz
        have hr1 : IntKind.i64.wrap ((a : Int) * (Wd : Int)) = (p : Int) := by
          rw [show (a : Int) * (Wd : Int) = (p : Int) by rw [hp]; push_cast; rfl, IntWalk.i64_in _ (by omega)]
        have hr2 : IntKind.i64.wrap ((a : Int) + (j : Int)) = (a : Int) + (j : Int) := by rw [IntWalk.i64_in _ (by omega)]
        have hr3 : IntKind.i64.wrap (((a : Int) + (j : Int)) * (Wd : Int)) = (q : Int) := by
          rw [show ((a : Int) + (j : Int)) * (Wd : Int) = (q : Int) by rw [hq]; push_cast; rfl, IntWalk.i64_in _ (by omega)]
        have hk1 : (0 : Int) ≤ (p : Int) := by omega
        have hk2 : (p : Int) ≤ (q : Int) := by omega
        have hk3 : (q : Int) ≤ (sz : Int) := by omega
        have hk4 : ¬ sz = p := by omega
        clear hp hq hsz hqp hwd
        go_wp2_with fail
        refine wp_region_held_drew (S := fun W => W.cell? ⟨g, 0, none⟩ = some (.slice (some ⟨wb, 0, none⟩) sz sz) ∧ W.cell? ⟨g, 1, none⟩ = some (.int .i64 Wd)) (by kernel_rfl) ⟨c0, c1⟩ (fun hH => ?_)
        refine Go.Tr.tz 0 (v := ?_) rfl ?_ ?_
        rotate_left
        · intro W hW
          go_simp
          try with_reducible rfl
        try simp only [Go.Tr.nz]
        refine Go.Tr.tz 1 (v := ?_) rfl ?_ ?_
        rotate_left
        · intro W hW
          go_simp
          try with_reducible rfl
        try simp only [Go.Tr.nz]
        refine Go.Tr.tz 2 (v := ?_) rfl ?_ ?_
        rotate_left
        · intro W hW
          go_simp
          try with_reducible rfl
        try simp only [Go.Tr.nz]
        refine Go.Tr.tz 3 (v := ?_) rfl ?_ ?_
        rotate_left
        · intro W hW
          go_simp
          try with_reducible rfl
        try simp only [Go.Tr.nz]
        refine Go.Tr.tz 4 (v := ?_) rfl ?_ ?_
        rotate_left
        · intro W hW
          go_simp
          try with_reducible rfl
        try simp only [Go.Tr.nz]
        refine Go.Tr.tz 5 (v := ?_) rfl ?_ ?_
        rotate_left
        · intro W hW
          go_simp
          try with_reducible rfl
        try simp only [Go.Tr.nz]
        refine Go.Tr.tz 6 (v := ?_) rfl ?_ ?_
        rotate_left
        · intro W hW
          go_simp
          try with_reducible rfl
        try simp only [Go.Tr.nz]
        refine Go.Tr.tz 7 (v := ?_) rfl ?_ ?_
        rotate_left
        · intro W hW
          go_simp
          try with_reducible rfl
        try simp only [Go.Tr.nz]
        refine Go.Tr.tz 8 (v := ?_) rfl ?_ ?_
        rotate_left
        · intro W hW
          go_simp
          try with_reducible rfl
        try simp only [Go.Tr.nz]
        refine Go.Tr.tz 9 (v := ?_) rfl ?_ ?_
        rotate_left
        · intro W hW
          go_simp
          try with_reducible rfl
        try simp only [Go.Tr.nz]
        refine Go.Tr.tz 10 (v := ?_) rfl ?_ ?_
        rotate_left
        · intro W hW
          go_simp
          try with_reducible rfl
        try simp only [Go.Tr.nz]
        refine Go.Tr.tz 11 (v := ?_) rfl ?_ ?_
        rotate_left
        · intro W hW
          go_simp
          try with_reducible rfl
        try simp only [Go.Tr.nz]
        refine Go.Tr.tz 12 (v := ?_) rfl ?_ ?_
        rotate_left
        · intro W hW
          go_simp
          try with_reducible rfl
        try simp only [Go.Tr.nz]
        refine Go.Tr.tz 13 (v := ?_) rfl ?_ ?_
        rotate_left
        · intro W hW
          go_simp
          try with_reducible rfl
        try simp only [Go.Tr.nz]
        refine Go.Tr.tz 14 (v := ?_) rfl ?_ ?_
        rotate_left
        · intro W hW
          go_simp
          try with_reducible rfl
        try simp only [Go.Tr.nz]
        refine Go.Tr.tz 15 (v := ?_) rfl ?_ ?_
        rotate_left
        · intro W hW
          go_simp
          try with_reducible rfl
        try simp only [Go.Tr.nz]
        refine Go.Tr.tz 16 (v := ?_) rfl ?_ ?_
        rotate_left
        · intro W hW
          go_simp
          try with_reducible rfl
        try simp only [Go.Tr.nz]
        refine Go.Tr.tz 17 (v := ?_) rfl ?_ ?_
        rotate_left
        · intro W hW
          go_simp
          try with_reducible rfl
        try simp only [Go.Tr.nz]
        refine Go.Tr.tz 18 (v := ?_) rfl ?_ ?_
        rotate_left
        · intro W hW
          go_simp
          try with_reducible rfl
        try simp only [Go.Tr.nz]
        refine wpAnyH_ready (rs := [19]) (by kernel_rfl) (by simp) (readyH rfl (fun K hK => ?_) AllReadyH.nil)
        rw [if_pos (by rfl)]
        have hws : wr.drew.heap[wb]? = some (.cells (us ws).toArray 34 (0, 0)) := HW.out.trans HKW.out
        have hcs : ∀ i, i < q - p → (wr.drew.cell? ⟨wb, p + i, none⟩).isSome = true := fun i hi => by
          obtain ⟨x, hx⟩ : ∃ x, ws[p + i]? = some x := ⟨_, List.getElem?_eq_getElem (by rw [HA.out.len, ← HSZ.out]; omega)⟩
          rw [(us_cell hws hx).1]; rfl
        have hfs : ∀ i, i < q - p → wr.drew.frozen? ⟨wb, p + i, none⟩ = false := fun i hi => by simp [World.frozen?, hws]
        refine wp_clear_run _ (.tmp 72) 35 rfl (.slice (some ⟨wb, p, none⟩) (q - p) (sz - p)) (by rfl) (Lib.run_clear_slice _ 35 34 _ (.int .u64 0) Tryz.underlying35 (fun w => by kernel_rfl) rfl rfl wb p (q - p) (sz - p) (by omega) hcs hfs) ?_
        have hH2 : (wr.drew.setCells wb p (List.replicate (q - p) (.int .u64 0))).cell? ⟨g, 0, none⟩ = some (.slice (some ⟨wb, 0, none⟩) sz sz) ∧ (wr.drew.setCells wb p (List.replicate (q - p) (.int .u64 0))).cell? ⟨g, 1, none⟩ = some (.int .i64 Wd) :=
          ⟨(World.cell_kept (setCells_other HA.out.ne.1 _ _ _)).trans c0, (World.cell_kept (setCells_other HA.out.ne.1 _ _ _)).trans c1⟩
        refine hK.out _ _ hH2 (fun hH => ?_)
        clear hK K hcs hfs
        try simp only [Go.Tr.nz]
        refine wpAnyH_done (by kernel_rfl) ?_ _
        have hus : List.replicate (q - p) (Value.int .u64 0) = us (List.replicate (q - p) 0) := by simp [us, uv]
        have hfin : StAt (wr.drew.setCells wb p (List.replicate (q - p) (.int .u64 0))) g wb ob m Fm C Wd (putAt ws p (List.replicate (q - p) 0)) (putAt own a (List.replicate j o)) := by
          refine ⟨(setCells_other HA.out.ne.1 _ _ _).trans (HG.out.trans HKG.out), by rw [hus]; exact setCells_us _ _ _ _ hws, (setCells_other (Ne.symm HA.out.ne.2.2) _ _ _).trans HOB.out, ?_, HA.out.ne, HA.out.nf, by rw [putAt_length]; exact HA.out.len, by rw [putAt_length]; exact HA.out.olen, putAt_small HA.out.small (fun x hx => by rw [List.eq_of_mem_replicate hx]; decide), HA.out.cb, HA.out.wd⟩
          rw [onB_fill (by omega) (by rw [HA.out.olen]; exact ha)]
          exact HBM.out.kept (fun k hk _ => setCells_other (fun e => HA.out.nf.2.1 (by rw [← e]; exact hk)) _ _ _)
        rw [HQP.out, HP.out] at hfin
        have HFIN := Lib.hid hfin
        have HOF : Hid (Only F w (wr.drew.setCells wb p (List.replicate (q - p) (.int .u64 0)))) := Only.setCells HO.out.drew (Or.inl h2) _ _
        have HSF : Hid ((wr.drew.setCells wb p (List.replicate (q - p) (.int .u64 0))).heap.size = w.heap.size) := (setCells_size _ _ _).trans HS.out
        rw [HQP.out, HP.out] at HOF HSF
        rw [HQP.out, HP.out]
        generalize wr.drew.setCells wb (a * Wd) (List.replicate (j * Wd) (.int .u64 0)) = wf at *
        clear hfin hH2 hws hus c0 c1 c2 hr1 hr2 hr3 hk1 hk2 hk3 hk4
        go_wp2
        go_ret2
        exact ⟨Or.inl ⟨a, rfl, ha, fun i h1 h2 => by have := HOFF.out i h1 h2; unfold onB at this; simpa using this, ⟨wb, ob, m, Fm, HFIN.out, h1, h2, h3, h4⟩⟩, HOF.out, HSF.out⟩
  · have HNO := Lib.hid hno
    clear hno
    go_wp2
    go_ret2
    exact ⟨Or.inr ⟨rfl, ⟨wb, ob, m, Fm, HA.out, h1, h2, h3, h4⟩, fun a ha => by
      obtain ⟨i, i1, i2, i3⟩ := HNO.out a (by omega) ha
      exact ⟨i, i1, i2, by unfold onB at i3; simpa using i3⟩⟩, Only.refl _ _, rfl⟩
end Go.Proofs.YtcdpnfchmpncjaaGreatDoor

namespace Go.Proofs.YtcdpnfchmpncjaaGreatDoor
open Go.RowKit Go.Tr Go.Shelf
variable {w w' : World} {g wb ob m C Wd : Nat} {ws own : List Nat} {F Fm : Nat → Prop}
set_option maxRecDepth 100000 in
theorem scopy_any (d s n : Nat) (w : World) (h : StF w F g C Wd ws own) (hn : 1 ≤ n) (hd : d + n ≤ C * Wd) (hs : s + n ≤ C * Wd) (od : Owned own Wd d n) (os : Owned own Wd s n) : Calls Tryz.prog 135 #[.pointer (some ⟨g, 0, none⟩), .int .i64 d, .int .i64 s, .int .i64 n] w fun e w' => e = .returned (.int .i64 0) ∧ StF w' F g C Wd (putAt ws d ((ws.drop s).take n)) own ∧ Only F w w' ∧ w'.heap.size = w.heap.size := by
  have HD := Lib.hid (sat_any d n w h hn hd od)
  have HS := Lib.hid (sat_any s n w h hn hs os)
  obtain ⟨wb, ob, m, Fm, h, h1, h2, h3, h4⟩ := h
  obtain ⟨c0, c1, c2, c3⟩ := h.head
  have HA := Lib.hid h
  have hbig : C * Wd ≤ 1048576 := Nat.le_trans (Nat.mul_le_mul h.cb.2 h.wd.2) (by decide)
  obtain ⟨sz, hsz⟩ : ∃ sz, sz = C * Wd := ⟨_, rfl⟩
  rw [← hsz] at c0 hbig hd hs
  have HSZ := Lib.hid hsz
  clear h od os hsz
  go_enter Tryz.func135, Tryz.ntmps135
  go_wp2_with fail
  refine HD.out.mono ?_
  rintro e w' ⟨rfl, rfl⟩
  go_wp2_with fail
  refine HS.out.mono ?_
  rintro e w' ⟨rfl, rfl⟩
  go_wp2_with fail
  have hr1 : IntKind.i64.wrap ((d : Int) + (n : Int)) = (d : Int) + (n : Int) := by rw [IntWalk.i64_in _ (by omega)]
  have hr2 : IntKind.i64.wrap ((s : Int) + (n : Int)) = (s : Int) + (n : Int) := by rw [IntWalk.i64_in _ (by omega)]
  have k1 : (d : Int) ≤ (d : Int) + (n : Int) := by omega
  have k2 : (d : Int) + (n : Int) ≤ (sz : Int) := by omega
  have k3 : (s : Int) ≤ (s : Int) + (n : Int) := by omega
  have k4 : (s : Int) + (n : Int) ≤ (sz : Int) := by omega
  have k5 : ¬ sz = d := by omega
  have k6 : ¬ sz = s := by omega
  have k7 : ((d : Int) + (n : Int)).toNat = d + n := by omega
  have k8 : ((s : Int) + (n : Int)).toNat = s + n := by omega
  refine wp_region_held_drew (S := fun W => W.cell? ⟨g, 0, none⟩ = some (.slice (some ⟨wb, 0, none⟩) sz sz)) (by kernel_rfl) c0 (fun hH => ?_)
  refine Go.Tr.tz 0 (v := ?_) rfl ?_ ?_
  rotate_left
  · intro W hW
    go_simp
    try with_reducible rfl
  try simp only [Go.Tr.nz]
  refine Go.Tr.tz 1 (v := ?_) rfl ?_ ?_
  rotate_left
  · intro W hW
    go_simp
    try with_reducible rfl
  try simp only [Go.Tr.nz]
  refine Go.Tr.tz 2 (v := ?_) rfl ?_ ?_
  rotate_left
  · intro W hW
    go_simp
    try with_reducible rfl
  try simp only [Go.Tr.nz]
  refine Go.Tr.tz 3 (v := ?_) rfl ?_ ?_
  rotate_left
  · intro W hW
    go_simp
    try with_reducible rfl
  try simp only [Go.Tr.nz]
  refine Go.Tr.tz 4 (v := ?_) rfl ?_ ?_
  rotate_left
  · intro W hW
    go_simp
    try with_reducible rfl
  try simp only [Go.Tr.nz]
  refine Go.Tr.tz 5 (v := ?_) rfl ?_ ?_
  rotate_left
  · intro W hW
    go_simp
    try with_reducible rfl
  try simp only [Go.Tr.nz]
  refine Go.Tr.tz 6 (v := ?_) rfl ?_ ?_
  rotate_left
  · intro W hW
    go_simp
    try with_reducible rfl
  try simp only [Go.Tr.nz]
  refine Go.Tr.tz 7 (v := ?_) rfl ?_ ?_
  rotate_left
  · intro W hW
    go_simp
    try with_reducible rfl
  try simp only [Go.Tr.nz]
  refine Go.Tr.tz 8 (v := ?_) rfl ?_ ?_
  rotate_left
  · intro W hW
    go_simp
    try with_reducible rfl
  try simp only [Go.Tr.nz]
  refine Go.Tr.tz 9 (v := ?_) rfl ?_ ?_
  rotate_left
  · intro W hW
    go_simp
    try with_reducible rfl
  try simp only [Go.Tr.nz]
  refine Go.Tr.tz 10 (v := ?_) rfl ?_ ?_
  rotate_left
  · intro W hW
    go_simp
    try with_reducible rfl
  try simp only [Go.Tr.nz]
  refine Go.Tr.tz 11 (v := ?_) rfl ?_ ?_
  rotate_left
  · intro W hW
    go_simp
    try with_reducible rfl
  try simp only [Go.Tr.nz]
  refine Go.Tr.tz 12 (v := ?_) rfl ?_ ?_
  rotate_left
  · intro W hW
    go_simp
    try with_reducible rfl
  try simp only [Go.Tr.nz]
  refine Go.Tr.tz 13 (v := ?_) rfl ?_ ?_
  rotate_left
  · intro W hW
    go_simp
    try with_reducible rfl
  try simp only [Go.Tr.nz]
  refine Go.Tr.tz 14 (v := ?_) rfl ?_ ?_
  rotate_left
  · intro W hW
    go_simp
    try with_reducible rfl
  try simp only [Go.Tr.nz]
  refine Go.Tr.tz 15 (v := ?_) rfl ?_ ?_
  rotate_left
  · intro W hW
    go_simp
    try with_reducible rfl
  try simp only [Go.Tr.nz]
  refine Go.Tr.tz 16 (v := ?_) rfl ?_ ?_
  rotate_left
  · intro W hW
    go_simp
    try with_reducible rfl
  try simp only [Go.Tr.nz]
  refine Go.Tr.tz 17 (v := ?_) rfl ?_ ?_
  rotate_left
  · intro W hW
    go_simp
    try with_reducible rfl
  try simp only [Go.Tr.nz]
  refine wpAnyH_ready (rs := [18]) (by kernel_rfl) (by simp) (readyH rfl (fun K hK => ?_) AllReadyH.nil)
  rw [if_pos (by rfl)]
  have hws : w.drew.heap[wb]? = some (.cells (us ws).toArray 34 (0, 0)) := HA.out.words
  have hlen : (us ((ws.drop s).take n)).length = n := by simp [us, HA.out.len, ← HSZ.out]; omega
  have hcs : ∀ j, j < (us ((ws.drop s).take n)).length → (w.drew.cell? ⟨wb, d + j, none⟩).isSome = true := fun j hj => by
    rw [hlen] at hj
    obtain ⟨x, hx⟩ : ∃ x, ws[d + j]? = some x := ⟨_, List.getElem?_eq_getElem (by rw [HA.out.len, ← HSZ.out]; omega)⟩
    rw [(us_cell hws hx).1]; rfl
  have hfs : ∀ j, j < (us ((ws.drop s).take n)).length → w.drew.frozen? ⟨wb, d + j, none⟩ = false := fun j hj => by simp [World.frozen?, hws]
  have hsrc : ∀ j v, (us ((ws.drop s).take n))[j]? = some v → w.drew.cell? ((⟨wb, s, none⟩ : Addr).add j) = some v := fun j v hv => by
    have hj : j < n := by have := (List.getElem?_eq_some_iff.1 hv).1; omega
    rw [Addr.add_lit, cell_of_row _ wb (s + j) _ _ (0, 0) hws]
    rw [us, List.getElem?_map, List.getElem?_take_of_lt hj, List.getElem?_drop, ← List.getElem?_map] at hv
    simpa [us] using hv
  obtain ⟨i0, hi, hz0, hz1, hz2⟩ := info_parts infoU64
  have hrun := run_copy_cells (P := Tryz.prog) w.drew 35 35 3 34 wb d n (sz - d) ⟨wb, s, none⟩ n (sz - s) (us ((ws.drop s).take n)) Tryz.underlying35 (by rw [hi]; simp [hz1]) (by rw [hlen]; simp) hsrc hcs hfs (fun v hv => by obtain ⟨x, -, rfl⟩ := List.mem_map.1 hv; rfl)
  rw [hlen] at hrun
  have HRUN := Lib.hid hrun
  clear hcs hfs hsrc hrun hi hz0 hz1 hz2
  refine wp_copy_runI _ (.tmp 43) (.tmp 52) 35 35 rfl (.slice (some ⟨wb, d, none⟩) n (sz - d)) (.slice (some ⟨wb, s, none⟩) n (sz - s)) (by rfl) (by rfl) HRUN.out ?_
  have hH2 : (w.drew.setCells wb d (us ((ws.drop s).take n))).cell? ⟨g, 0, none⟩ = some (.slice (some ⟨wb, 0, none⟩) sz sz) := (World.cell_kept (setCells_other HA.out.ne.1 _ _ _)).trans c0
  refine hK.out _ _ hH2 (fun hH => ?_)
  clear hK K HRUN
  try simp only [Go.Tr.nz]
  refine wpAnyH_done (by kernel_rfl) ?_ _
  have HFIN : Hid (StAt (w.drew.setCells wb d (us ((ws.drop s).take n))) g wb ob m Fm C Wd (putAt ws d ((ws.drop s).take n)) own) :=
    ⟨(setCells_other HA.out.ne.1 _ _ _).trans HA.out.block, setCells_us _ _ _ _ hws, (setCells_other (Ne.symm HA.out.ne.2.2) _ _ _).trans HA.out.owners, HA.out.map.kept (fun k hk _ => setCells_other (fun e => HA.out.nf.2.1 (by rw [← e]; exact hk)) _ _ _), HA.out.ne, HA.out.nf, by rw [putAt_length]; exact HA.out.len, HA.out.olen, putAt_small HA.out.small (fun x hx => HA.out.small x (List.mem_of_mem_drop (List.mem_of_mem_take hx))), HA.out.cb, HA.out.wd⟩
  have HOF : Hid (Only F w (w.drew.setCells wb d (us ((ws.drop s).take n)))) := Only.setCells (Only.refl F w).drew (Or.inl h2) _ _
  have HSF : Hid ((w.drew.setCells wb d (us ((ws.drop s).take n))).heap.size = w.heap.size) := setCells_size _ _ _
  generalize w.drew.setCells wb d (us ((ws.drop s).take n)) = wf at *
  clear hH2 hws hlen c0 c1 c2 c3 hr1 hr2 k1 k2 k3 k4 k5 k6 k7 k8 hH
  go_wp2
  go_ret
  exact ⟨rfl, ⟨wb, ob, m, Fm, HFIN.out, h1, h2, h3, h4⟩, HOF.out, HSF.out⟩
theorem infoIntK : (Tryz.prog.info? 3).map (fun i => (i.zero, i.size, i.bytes)) = some (some (.int .i64 0), 1, 8) := by kernel_rfl
theorem made_ns (q : Nat) : madeCells (Value.int .i64 0).cells q = (ns (List.replicate q 0)).toArray := by
  apply Array.toList_inj.1
  show (madeCells #[Value.int .i64 0] q).toList = _
  rw [toList_madeCells_one]
  simp [ns, nv]
theorem make_ns (q : Nat) (w : World) (hq : q ≤ 1048576) : (Instr.makeSlice 42 (.int .i64 (q : Int)) (.int .i64 (q : Int))).run Tryz.prog w = .ok (.slice (some ⟨w.heap.size, 0, none⟩) q q) (w.alloc (.cells (ns (List.replicate q 0)).toArray 3)) := by
  obtain ⟨i0, hi, hz0, hz1, hz2⟩ := info_parts infoIntK
  have := run_make (P := Tryz.prog) w 42 3 i0 _ Tryz.underlying42 hi hz0 .i64 .i64 q q (by omega) (Int.le_refl _) (by rw [hz2]; omega) (by omega)
  rw [hz1, Int.toNat_natCast, Nat.mul_one, made_ns] at this
  exact this
theorem BMF.mono {F G : Nat → Prop} {w : World} {g n : Nat} {B : Nat → Bool} (h : BMF w F g n B) (hs : ∀ k, F k → G k) : BMF w G g n B := by
  obtain ⟨b, ws, h, h1, h2⟩ := h
  exact ⟨b, ws, h, hs _ h1, hs _ h2⟩
theorem onB_none (C : Nat) : onB (List.replicate C 0) = fun _ => false := by
  funext i
  by_cases h : i < C <;> simp [onB, List.getD, List.getElem?_replicate, h]
theorem st_new {w w1 W : World} {C Wd sz m b1 b2 : Nat} (hsz : sz = C * Wd) (hbl : Below w.heap.size w w1) (hm : BMF w1 (fun k => w.heap.size ≤ k ∧ k < w1.heap.size) m C fun _ => false) (hm0 : w.heap.size ≤ m) (hc : 1 ≤ C ∧ C ≤ 1024) (hd : 1 ≤ Wd ∧ Wd ≤ 1024) (hb : (b1 = w1.heap.size ∧ b2 = w1.heap.size + 1) ∨ (b1 = w1.heap.size + 1 ∧ b2 = w1.heap.size)) (hs : W.heap.size = w1.heap.size + 3)
    (hg : W.heap[w1.heap.size + 1 + 1]? = some (.cells #[.slice (some ⟨b1, 0, none⟩) sz sz, .int .i64 Wd, .slice (some ⟨b2, 0, none⟩) C C, .pointer (some ⟨m, 0, none⟩)] 98 (0, 0)))
    (h1 : W.heap[b1]? = some (.cells (us (List.replicate sz 0)).toArray 34 (0, 0))) (h2 : W.heap[b2]? = some (.cells (ns (List.replicate C 0)).toArray 3 (0, 0))) (hk : ∀ k, k < w1.heap.size → W.heap[k]? = w1.heap[k]?) :
    StF W (fun k => w.heap.size ≤ k ∧ k < W.heap.size) (w1.heap.size + 1 + 1) C Wd (List.replicate (C * Wd) 0) (List.replicate C 0) := by
  have hle := hbl.size
  subst hsz
  refine ⟨b1, b2, m, fun k => w.heap.size ≤ k ∧ k < w1.heap.size, ⟨by simpa using hg, h1, h2, ?_, by omega, by omega, by simp, by simp, ?_, hc, hd⟩, by omega, by omega, by omega, fun k hk => by omega⟩
  · rw [onB_none]; exact hm.kept (fun k hf hl => hk k hl)
  · intro x hx
    obtain rfl := List.eq_of_mem_replicate hx
    decide
theorem push3 (h : Array Obj) (a b c : Obj) : (((h.push a).push b).push c)[h.size]? = some a ∧ (((h.push a).push b).push c)[h.size + 1]? = some b ∧ (((h.push a).push b).push c)[h.size + 1 + 1]? = some c ∧ ∀ k, k < h.size → (((h.push a).push b).push c)[k]? = h[k]? := by
  refine ⟨?_, ?_, ?_, fun k hk => ?_⟩
  · rw [Array.getElem?_push, Array.getElem?_push, Array.getElem?_push, if_neg (by simp; omega), if_neg (by simp), if_pos rfl]
  · rw [Array.getElem?_push, Array.getElem?_push, if_neg (by simp), if_pos (by simp)]
  · rw [Array.getElem?_push, if_pos (by simp)]
  · rw [Array.getElem?_push, Array.getElem?_push, Array.getElem?_push, if_neg (by simp; omega), if_neg (by simp; omega), if_neg (by omega)]
set_option maxRecDepth 100000 in
set_option maxHeartbeats 1000000 in
theorem snew_any (C Wd : Nat) (w : World) (h1 : 1 ≤ C) (h2 : C ≤ 1024) (h3 : 1 ≤ Wd) (h4 : Wd ≤ 1024) : Calls Tryz.prog 73 #[.int .i64 C, .int .i64 Wd] w fun e w' => ∃ g, e = .returned (.tuple #[.pointer (some ⟨g, 0, none⟩), .int .i64 0]) ∧ StF w' (fun k => w.heap.size ≤ k ∧ k < w'.heap.size) g C Wd (List.replicate (C * Wd) 0) (List.replicate C 0) ∧ Below w.heap.size w w' := by
  have hbig : C * Wd ≤ 1048576 := Nat.le_trans (Nat.mul_le_mul h2 h4) (by decide)
  obtain ⟨sz, hsz⟩ : ∃ sz, sz = C * Wd := ⟨_, rfl⟩
  rw [← hsz] at hbig
  have hr1 : IntKind.i64.wrap ((C : Int) * (Wd : Int)) = (sz : Int) := by
    rw [show (C : Int) * (Wd : Int) = (sz : Int) by rw [hsz]; push_cast; rfl, IntWalk.i64_in _ (by omega)]
  have HSZ := Lib.hid hsz
  have HB := Lib.hid (mnewb_any C w h1 (by omega))
  clear hsz
  go_enter Tryz.func73, Tryz.ntmps73
  go_wp2_with fail
  refine HB.out.mono ?_
  rintro e w1 ⟨m, rfl, hm0, hm, hbl⟩
  have HM := Lib.hid hm
  have HBL := Lib.hid hbl
  have HM0 := Lib.hid hm0
  have hm1 := fun W => make_us sz W hbig
  have hm2 := fun W => make_ns C W (by omega)
  clear hm hbl hm0
  go_wp2_with fail
  go_region
  all_goals
    rename_i K hK
    refine hK _ _ ?_
    show Code.wp _ Code.ret (bodyPost _ _ _) _ _
    go_wp2
    go_ret2
    refine ⟨_, rfl, ?_, ?_⟩
  · exact st_new HSZ.out HBL.out HM.out HM0.out ⟨h1, h2⟩ ⟨h3, h4⟩ (Or.inl ⟨rfl, rfl⟩) (by simp) (push3 _ _ _ _).2.2.1 (push3 _ _ _ _).1 (push3 _ _ _ _).2.1 (push3 _ _ _ _).2.2.2
  · exact (((HBL.out.alloc HBL.out.size _).alloc (by have := HBL.out.size; simp; omega) _).alloc (by have := HBL.out.size; simp; omega) _).drew
  · exact st_new HSZ.out HBL.out HM.out HM0.out ⟨h1, h2⟩ ⟨h3, h4⟩ (Or.inr ⟨rfl, rfl⟩) (by simp) (push3 _ _ _ _).2.2.1 (push3 _ _ _ _).2.1 (push3 _ _ _ _).1 (push3 _ _ _ _).2.2.2
  · exact (((HBL.out.alloc HBL.out.size _).alloc (by have := HBL.out.size; simp; omega) _).alloc (by have := HBL.out.size; simp; omega) _).drew
end Go.Proofs.YtcdpnfchmpncjaaGreatDoor

namespace Go.Tr
open Go.RowKit
def pz (ps : List (Nat × Nat)) : List (Int × Int) := ps.map fun p => ((p.1 : Int), (p.2 : Int))
def pcells (ps : List (Nat × Nat)) : List Value := ecells (pz ps)
theorem pcells_length (ps : List (Nat × Nat)) : (pcells ps).length = ps.length * 2 := by rw [pcells, ecells_length, pz, List.length_map, Nat.mul_comm]
theorem pcells_append (ps qs : List (Nat × Nat)) : pcells (ps ++ qs) = pcells ps ++ pcells qs := by simp [pcells, pz, ecells_append]
theorem SeqAt.part {w : World} {a : Option Addr} {ps : List (Nat × Nat)} (h : SeqAt w a (pcells ps)) {k : Nat} (hk : k < ps.length) :
    ∃ b off c n, a = some ⟨b, off, none⟩ ∧ w.cell? ⟨b, off + k * 2, none⟩ = some (.int .i64 (c : Nat)) ∧ w.cell? ⟨b, off + k * 2 + 1, none⟩ = some (.int .i64 (n : Nat)) ∧ Hid (ps[k]? = some (c, n)) := by
  obtain ⟨b, off, x, y, e, h1, h2, h3⟩ := SeqAt.edge h (k := k) (by rw [pz, List.length_map]; exact hk)
  have h4 : ps[k]? = some ps[k] := List.getElem?_eq_getElem hk
  have h5 : (pz ps)[k]? = some (((ps[k]).1 : Int), ((ps[k]).2 : Int)) := by simp [pz, h4]
  rw [h3.out] at h5
  obtain ⟨rfl, rfl⟩ : x = ((ps[k]).1 : Int) ∧ y = ((ps[k]).2 : Int) := by simpa using h5
  exact ⟨b, off, _, _, e, h1, h2, h4⟩
def SpF (T : TypeId) (w : World) (F : Nat → Prop) (g s o : Nat) (ps : List (Nat × Nat)) (a en : Nat) : Prop :=
  F g ∧ ∃ pv, w.heap[g]? = some (.cells #[.pointer (some ⟨s, 0, none⟩), .int .i64 (o : Nat), pv, .int .i64 (a : Nat), .int .i64 (en : Nat)] T (0, 0)) ∧ OwnO w 2 pv ps.length (pcells ps) ∧ ∀ k, pv.ownBlock = some k → F k ∧ k ≠ g
variable {T : TypeId} {w w' : World} {F G : Nat → Prop} {g s o a en : Nat} {ps : List (Nat × Nat)}
theorem SpF.lt (h : SpF T w F g s o ps a en) : g < w.heap.size := by
  obtain ⟨_, pv, h2, _⟩ := h; exact (Array.getElem?_eq_some_iff.1 h2).1
theorem SpF.mono (h : SpF T w F g s o ps a en) (hs : ∀ k, F k → G k) : SpF T w G g s o ps a en := by
  obtain ⟨h1, pv, h2, h3, h4⟩ := h
  exact ⟨hs _ h1, pv, h2, h3, fun k hk => ⟨hs _ (h4 k hk).1, (h4 k hk).2⟩⟩
theorem SpF.kept (h : SpF T w F g s o ps a en) (hk : ∀ k, F k → k < w.heap.size → w'.heap[k]? = w.heap[k]?) : SpF T w' F g s o ps a en := by
  have hl := h.lt
  obtain ⟨h1, pv, h2, h3, h4⟩ := h
  exact ⟨h1, pv, (hk _ h1 hl).trans h2, h3.kept (fun k hb => hk k (h4 k hb).1 (h3.lt k hb)), h4⟩
theorem SpF.only (h : SpF T w F g s o ps a en) (ho : Only G w w') (hd : ∀ k, F k → ¬ G k) : SpF T w' F g s o ps a en := h.kept (fun k hf hl => ho.block k hl (hd k hf))
theorem SpF.head (h : SpF T w F g s o ps a en) : ∃ pa pc, w.cell? ⟨g, 0, none⟩ = some (.pointer (some ⟨s, 0, none⟩)) ∧ w.cell? ⟨g, 1, none⟩ = some (.int .i64 (o : Nat)) ∧ w.cell? ⟨g, 2, none⟩ = some (.slice pa ps.length pc) ∧ w.cell? ⟨g, 3, none⟩ = some (.int .i64 (a : Nat)) ∧ w.cell? ⟨g, 4, none⟩ = some (.int .i64 (en : Nat)) ∧ Hid (SeqAt w pa (pcells ps)) := by
  obtain ⟨h1, pv, h2, h3, h4⟩ := h
  obtain ⟨pa, pc, rfl, hs, -⟩ := h3.seq
  refine ⟨pa, pc, ?_, ?_, ?_, ?_, ?_, hs⟩
  · have := (cells_of_block h2 0).1; simpa using this
  · have := (cells_of_block h2 1).1; simpa using this
  · have := (cells_of_block h2 2).1; simpa using this
  · have := (cells_of_block h2 3).1; simpa using this
  · have := (cells_of_block h2 4).1; simpa using this
def findPart (ps : List (Nat × Nat)) (c : Nat) : Option (Nat × Nat) := ps.find? (fun p => p.1 == c)
def partV : Option (Nat × Nat) → Value
  | some p => .tuple #[.agg #[.int .i64 (p.1 : Nat), .int .i64 (p.2 : Nat)], .bool true]
  | none => .tuple #[.agg #[.int .i64 0, .int .i64 0], .bool false]
def bigPart (ps : List (Nat × Nat)) (c : Nat) : Bool := ps.any fun p => decide (1 < p.2) && decide (p.1 ≤ c) && decide (c < p.1 + p.2)
end Go.Tr
namespace Go.Tr
open Go.RowKit
theorem results_blk {P : Program} {fn : Func} {p u : Tmp} {ty : TypeId} (h : fn.results = #[.cell p ty, .tmp u]) (tmps : Array Value) (w : World) (g : Nat) (t : TypeId) (cs : Array Value) (fr : Nat × Nat) (d : TypeDesc)
    (hp : tmps.getD p undef = .pointer (some ⟨g, 0, none⟩)) (hg : w.heap[g]? = some (.cells cs t fr))
    (hu : P.underlying ty = some d) (hd : (match d with | .struct _ | .array _ _ => true | _ => false) = true) (hi : (P.info? ty).map (·.size) = some cs.size) :
    (results fn tmps).run P w = .ok (.tuple #[.agg cs, tmps.getD u undef]) w := by
  rw [results_cell_tmp h, hp]
  show ((loadVar ty ⟨g, 0, none⟩).run P w).andThen _ = _
  rw [run_loadVar_row w g t ty cs fr d hg hu hd hi]
  rfl
theorem findPart_drop {ps : List (Nat × Nat)} {k d m c : Nat} (h : ps[k]? = some (d, m)) : findPart (ps.drop k) c = if d = c then some (d, m) else findPart (ps.drop (k + 1)) c := by
  have h2 : ps.drop k = (d, m) :: ps.drop (k + 1) := by
    rw [List.drop_eq_getElem_cons (List.getElem?_eq_some_iff.1 h).1, (List.getElem?_eq_some_iff.1 h).2]
  rw [h2, findPart, List.find?_cons]
  by_cases e : d = c
  · simp [e]
  · have e2 : (d == c) = false := by simpa using e
    simp only [e2]
    rw [if_neg e]; rfl
theorem bigPart_drop {ps : List (Nat × Nat)} {k d m c : Nat} (h : ps[k]? = some (d, m)) : bigPart (ps.drop k) c = ((decide (1 < m) && decide (d ≤ c) && decide (c < d + m)) || bigPart (ps.drop (k + 1)) c) := by
  have h2 : ps.drop k = (d, m) :: ps.drop (k + 1) := by
    rw [List.drop_eq_getElem_cons (List.getElem?_eq_some_iff.1 h).1, (List.getElem?_eq_some_iff.1 h).2]
  rw [h2, bigPart, List.any_cons]; rfl
end Go.Tr
namespace Go.Proofs.YtcdpnfchmpncjaaGreatDoor
open Go.RowKit Go.Tr Go.Shelf
variable {w w' : World} {F G : Nat → Prop} {g s o a en : Nat} {ps : List (Nat × Nat)}
theorem infoPart : (Tryz.prog.info? 199).map (fun i => (i.zero, i.size, i.bytes)) = some (some (.agg #[.int .i64 0, .int .i64 0]), 2, 16) := by kernel_rfl
set_option maxRecDepth 100000 in
theorem unew_any (s o : Nat) (w : World) (ho : 1 ≤ o) : Calls Tryz.prog 35 #[.pointer (some ⟨s, 0, none⟩), .int .i64 o] w fun e w' => e = .returned (.tuple #[.pointer (some ⟨w.heap.size, 0, none⟩), .int .i64 0]) ∧ SpF 154 w' (grow (fun _ => False) w w') w.heap.size s o [] 0 0 ∧ Only (fun _ => False) w w' := by
  go_enter Tryz.func35, Tryz.ntmps35
  go_wp2
  go_ret2
  exact ⟨rfl, ⟨Or.inr (by simp), .slice none 0 0, heap_alloc_new _ _, OwnO.nil _ _, by simp [Value.ownBlock]⟩, (Only.refl _ w).alloc _⟩
set_option maxRecDepth 100000 in
theorem uroom_any (w : World) (h : SpF 154 w F g s o ps a en) (h1 : a ≤ en) (h2 : en ≤ 1048576) : Calls Tryz.prog 129 #[.pointer (some ⟨g, 0, none⟩)] w fun e w' => e = .returned (.int .i64 (en - a : Nat)) ∧ Drawn w w' := by
  obtain ⟨pa, pc, c0, c1, c2, c3, c4, -⟩ := h.head
  have hr : IntKind.i64.wrap ((en : Int) - (a : Int)) = ((en - a : Nat) : Int) := by rw [IntWalk.i64_in _ (by omega)]; omega
  clear h
  go_enter Tryz.func129, Tryz.ntmps129
  go_wp2_with fail
  go_quiet (fail)
  go_wp2
  go_ret
  exact ⟨rfl, ⟨_, rfl⟩⟩
set_option maxRecDepth 100000 in
theorem ufind_any (c : Nat) (w : World) (h : SpF 154 w F g s o ps a en) (hn : ps.length ≤ 1048576) : Calls Tryz.prog 117 #[.pointer (some ⟨g, 0, none⟩), .int .i64 c] w fun e w' => e = .returned (partV (findPart ps c)) ∧ Below w.heap.size w w' := by
  obtain ⟨pa, pc, c0, c1, c2, c3, c4, HS⟩ := h.head
  obtain ⟨n, hpn⟩ : ∃ n, n = ps.length := ⟨_, rfl⟩
  rw [← hpn] at c2 hn
  have HPN := Lib.hid hpn
  have hg := h.lt
  clear h hpn
  go_enter Tryz.func117, Tryz.ntmps117
  go_wp2_with fail
  go_loopw [13] (fun i wr => ∃ k : Nat, k ≤ n ∧ i = .int .i64 (k : Int) ∧ Hid (findPart ps c = findPart (ps.drop k) c) ∧ Hid (Below w.heap.size w wr) ∧ Hid (w.heap.size + 1 ≤ wr.heap.size) ∧ Hid (wr.heap[w.heap.size]? = some (.cells #[.int .i64 0, .int .i64 0] 199 (0, 0)))) (fun i _ => n - (intOf i).toNat)
  case atStart => exact ⟨0, Nat.zero_le _, rfl, rfl, (Below.refl _ w).alloc (Nat.le_refl _) _, by show _ ≤ _; simp, heap_alloc_new _ _⟩
  case round =>
    obtain ⟨k, hk, rfl, HK, HB, HZ, HR⟩ := hrel
    have hrl : w.heap.size < wr.heap.size := HZ.out
    obtain ⟨rb, hrb⟩ : ∃ rb, rb = w.heap.size := ⟨_, rfl⟩
    rw [← hrb] at HR hrl
    have cr0 := (cells_of_block HR.out 0).1
    have cr1 := (cells_of_block HR.out 1).1
    have fr0 := (cells_of_block HR.out 0).2
    have fr1 := (cells_of_block HR.out 1).2
    simp at cr0 cr1
    have HRB := Lib.hid hrb
    by_cases hlt : k < n
    · obtain ⟨b, off, d, m, rfl, hc1, hc2, HP⟩ := (HS.out.below HB.out (Nat.le_refl _)).part (k := k) (by rw [← HPN.out]; exact hlt)
      have br0 := fun u => (World.cell?_of_block (a := ⟨rb, 0, none⟩) (Below.heap_alloc wr u rb hrl)).trans cr0
      have br1 := fun u => (World.cell?_of_block (a := ⟨rb, 1, none⟩) (Below.heap_alloc wr u rb hrl)).trans cr1
      have gr0 := fun u => (World.frozen?_of_block (a := ⟨rb, 0, none⟩) (Below.heap_alloc wr u rb hrl)).trans fr0
      have gr1 := fun u => (World.frozen?_of_block (a := ⟨rb, 1, none⟩) (Below.heap_alloc wr u rb hrl)).trans fr1
      rw [← hrb]
      clear hrb hrl
      by_cases hdc : d = c
      · subst hdc
        go_wp2_with fail
        try simp only [Exit.inBlock, Exit.then]
        have hbk : (((wr.alloc (.cells #[.int .i64 d, .int .i64 m] 199)).setCell ⟨rb, 0, none⟩ (.int .i64 d)).setCell ⟨rb, 1, none⟩ (.int .i64 m)).heap[rb]? = some (.cells #[.int .i64 d, .int .i64 m] 199 (0, 0)) := by
          have hrl : rb < wr.heap.size := (Array.getElem?_eq_some_iff.1 HR.out).1
          simpa using block_setCell (block_setCell ((Below.heap_alloc wr _ rb hrl).trans HR.out) 0 (.int .i64 d)) 1 (.int .i64 m)
        refine bodyPost_ret (results_blk rfl _ _ rb _ _ _ _ rfl hbk Tryz.underlying199 rfl rfl) rfl ⟨?_, ?_⟩
        · rw [HK.out, findPart_drop HP.out, if_pos rfl]; rfl
        · have e := HRB.out
          exact ((HB.out.alloc HB.out.size _).setCell (by simp; omega) _).setCell (by simp; omega) _
      · have hdc' : ((d : Int) == (c : Int)) = false := by simp; omega
        go_wp2_with fail
        go_roundw
        case rel =>
          refine ⟨k + 1, by omega, by go_num, ?_, ?_, ?_, ?_⟩
          · show _ = _
            rw [HK.out, findPart_drop HP.out, if_neg hdc]
          · have e := HRB.out
            rw [e]
            exact HB.out.alloc HB.out.size _
          · have e := HRB.out
            have := HZ.out
            show _ ≤ _
            simp; omega
          · have hrl : rb < wr.heap.size := (Array.getElem?_eq_some_iff.1 HR.out).1
            exact (Below.heap_alloc wr _ rb hrl).trans HR.out
        case measure => simp [intOf]; omega
    · rw [← hrb]
      clear hrb hrl
      go_wp2_with fail
      have hbk : ((wr.setCell ⟨rb, 0, none⟩ (.int .i64 0)).setCell ⟨rb, 1, none⟩ (.int .i64 0)).heap[rb]? = some (.cells #[.int .i64 0, .int .i64 0] 199 (0, 0)) := by
        simpa using block_setCell (block_setCell HR.out 0 (.int .i64 0)) 1 (.int .i64 0)
      refine bodyPost_ret (results_blk rfl _ _ rb _ _ _ _ rfl hbk Tryz.underlying199 rfl rfl) rfl ⟨?_, ?_⟩
      · have : ps.drop k = [] := by have := HPN.out; apply List.drop_eq_nil_of_le; omega
        rw [HK.out, this]; rfl
      · have e := HRB.out
        exact (HB.out.setCell (by simp; omega) _).setCell (by simp; omega) _
set_option maxRecDepth 100000 in
theorem ubig_any (c : Nat) (w : World) (h : SpF 154 w F g s o ps a en) (hn : ps.length ≤ 1048576) (hp : ∀ p ∈ ps, p.1 + p.2 ≤ 1048576) : Calls Tryz.prog 152 #[.pointer (some ⟨g, 0, none⟩), .int .i64 c] w fun e w' => e = .returned (.bool (bigPart ps c)) ∧ Below w.heap.size w w' := by
  obtain ⟨pa, pc, c0, c1, c2, c3, c4, HS⟩ := h.head
  obtain ⟨n, hpn⟩ : ∃ n, n = ps.length := ⟨_, rfl⟩
  rw [← hpn] at c2 hn
  have HPN := Lib.hid hpn
  have HPS := Lib.hid hp
  clear h hpn hp
  go_enter Tryz.func152, Tryz.ntmps152
  go_wp2_with fail
  go_loopw [14] (fun i wr => ∃ k : Nat, k ≤ n ∧ i = .int .i64 (k : Int) ∧ Hid (bigPart ps c = bigPart (ps.drop k) c) ∧ Hid (Below w.heap.size w wr)) (fun i _ => n - (intOf i).toNat)
  case atStart => exact ⟨0, Nat.zero_le _, rfl, rfl, Below.refl _ w⟩
  case round =>
    obtain ⟨k, hk, rfl, HK, HB⟩ := hrel
    by_cases hlt : k < n
    · obtain ⟨b, off, d, m, rfl, hc1, hc2, HP⟩ := (HS.out.below HB.out (Nat.le_refl _)).part (k := k) (by rw [← HPN.out]; exact hlt)
      have hdm : d + m ≤ 1048576 := HPS.out _ (List.mem_of_getElem? HP.out)
      have hrel : bigPart ps c = ((decide (1 < m) && decide (d ≤ c) && decide (c < d + m)) || bigPart (ps.drop (k + 1)) c) := by rw [HK.out, bigPart_drop HP.out]
      have hbl := HB.out.alloc HB.out.size (.cells #[.int .i64 d, .int .i64 m] 199)
      have HBL := Lib.hid hbl
      clear hbl
      by_cases h1 : 1 < m
      · have h1' : (1 : Int) < (m : Int) := by omega
        by_cases h2 : d ≤ c
        · have h2' : (d : Int) ≤ (c : Int) := by omega
          by_cases h3 : c < d + m
          · have h3' : (c : Int) < (d : Int) + (m : Int) := by omega
            have HR : Hid (bigPart ps c = true) := by show _ = _; rw [hrel]; simp [h1, h2, h3]
            clear hrel
            go_wp2
            go_ret
            exact ⟨by rw [HR.out]; rfl, HBL.out⟩
          · have h3' : ¬ (c : Int) < (d : Int) + (m : Int) := by omega
            have HR : Hid (bigPart ps c = bigPart (ps.drop (k + 1)) c) := by show _ = _; rw [hrel]; simp [h3]
            clear hrel
            go_wp2
            go_roundw
            case rel => exact ⟨k + 1, by omega, by go_num, HR, HBL⟩
            case measure => simp [intOf]; omega
        · have h2' : ¬ (d : Int) ≤ (c : Int) := by omega
          have HR : Hid (bigPart ps c = bigPart (ps.drop (k + 1)) c) := by show _ = _; rw [hrel]; simp [h2]
          clear hrel
          go_wp2
          go_roundw
          case rel => exact ⟨k + 1, by omega, by go_num, HR, HBL⟩
          case measure => simp [intOf]; omega
      · have h1' : ¬ (1 : Int) < (m : Int) := by omega
        have HR : Hid (bigPart ps c = bigPart (ps.drop (k + 1)) c) := by show _ = _; rw [hrel]; simp [h1]
        clear hrel
        go_wp2
        go_roundw
        case rel => exact ⟨k + 1, by omega, by go_num, HR, HBL⟩
        case measure => simp [intOf]; omega
    · have HR : Hid (bigPart ps c = false) := by
        have : ps.drop k = [] := by have := HPN.out; apply List.drop_eq_nil_of_le; omega
        show _ = _
        rw [HK.out, this]; rfl
      go_wp2
      go_ret
      exact ⟨by rw [HR.out]; rfl, HB.out⟩
end Go.Proofs.YtcdpnfchmpncjaaGreatDoor

namespace Go.Proofs.YtcdpnfchmpncjaaGreatDoor
open Go.RowKit Go.Tr
def sortL (zs : List Int) : List Int := zs.mergeSort fun x y => decide (x ≤ y)
theorem sortL_perm (zs : List Int) : (sortL zs).Perm zs := List.mergeSort_perm _ _
theorem sortL_length (zs : List Int) : (sortL zs).length = zs.length := (sortL_perm zs).length_eq
theorem sortL_sorted (zs : List Int) : (sortL zs).Pairwise (· ≤ ·) := by
  have := List.pairwise_mergeSort (le := fun x y : Int => decide (x ≤ y)) (fun a b c h1 h2 => by simp at *; omega) (fun a b => by simp; omega) zs
  exact this.imp (fun h => by simpa using h)
theorem ints_map (zs : List Int) : ints zs = zs.map (Value.int .i64) := rfl
theorem sort_own (base : Nat) (v : Value) (zs : List Int) (w : World) (h : own3 w 3 base v zs) (hsz : zs.length < 4611686018427387904) :
    Calls Tryz.prog 71 #[v] w fun e w' => e = .returned (.tuple #[]) ∧ own3 w' 3 base v (sortL zs) ∧ w.grownBy w' v.ownBlock := by
  have h0 := h
  obtain ⟨hx, hr⟩ := h
  rcases hr with ⟨rfl, hn⟩ | ⟨g, cap, cur, rfl, hbase, hb, h1, h2, h3, h4⟩
  · have hz : zs = [] := List.eq_nil_of_length_eq_zero hn
    subst hz
    refine (Any.slices_Sort_int_none laysSort none 0 w).mono ?_
    rintro e w' ⟨rfl, rfl⟩
    exact ⟨rfl, by rw [show sortL [] = [] by simp [sortL]]; exact h0, ⟨rfl, rfl, rfl, Nat.le_refl _, fun _ _ _ => rfl⟩⟩
  · have hH := holds_of_blockI (ss := zs) hb (by have := h4; rw [ints_map] at this; simpa using this)
    refine (Any.slices_Sort_int laysSort g 0 cap zs w hH (Array.getElem?_eq_some_iff.1 hb).1 hsz).mono ?_
    rintro e w' ⟨rfl, n, os, rfl⟩
    refine ⟨rfl, ?_, grownBy_sortedI _⟩
    have := ownsRow_sortedI (n := n) (os := os) (ts := sortL zs) (sortL_length zs) hbase hb h1 h2 h3
    show World.ownsRow _ _ _ _ _ _ _
    rw [sortL_length]
    exact this
theorem search_any (a : Option Addr) (n c : Nat) (zs : List Int) (x : Int) (w : World) (h : SeqAt w a (ints zs)) (hl : zs.length = n) (hbig : n < 4611686018427387904) (hs : zs.Pairwise (· ≤ ·)) :
    Calls Tryz.prog 137 #[.slice a n c, .int .i64 x] w fun e w' => e = .returned (.tuple #[.int .i64 (zs.countP (· < x) : Nat), .bool (hasL zs x)]) ∧ Drawn w w' := by
  have hc : zs.contains x = hasL zs x := by
    rw [Bool.eq_iff_iff, hasL_iff]; simp
  by_cases h0 : n = 0
  · subst h0
    have hz : zs = [] := List.eq_nil_of_length_eq_zero hl
    subst hz
    refine (Any.slices_BinarySearch_int_empty laysSearch a c x w).mono ?_
    rintro e w' ⟨rfl, rfl⟩
    exact ⟨by rw [← hc]; rfl, Drawn.refl _⟩
  · obtain ⟨b, off, rfl, hcell⟩ := h (by rw [ints_length]; omega)
    have ht : zs.take n = zs := List.take_of_length_le (by omega)
    refine (Any.slices_BinarySearch_int laysSearch b off n c zs x w (by omega) hbig (fun j hj => ?_) (by rw [ht]; exact hs)).mono ?_
    · rw [hcell j (by rw [ints_length]; exact hj)]
      simp [ints, List.getD, hj, iv]
    · rintro e w' ⟨rfl, q, rfl⟩
      rw [ht, hc]
      exact ⟨rfl, ⟨q, rfl⟩⟩
theorem compact_own (base : Nat) (v : Value) (zs : List Int) (w : World) (h : own3 w 3 base v zs) (hsz : zs.length ≤ 9223372036854775807) (hle : (Lib.compact zs).length ≤ zs.length) :
    Calls Tryz.prog 85 #[v] w fun e w' => ∃ v', e = .returned v' ∧ own3 w' 3 base v' (Lib.compact zs) ∧ w.grownBy w' v.ownBlock ∧ v'.ownBlock = v.ownBlock := by
  have h0 := h
  obtain ⟨hx, hr⟩ := h
  rcases hr with ⟨rfl, hn⟩ | ⟨g, cap, cur, rfl, hbase, hb, h1, h2, h3, h4⟩
  · have hz : zs = [] := List.eq_nil_of_length_eq_zero hn
    subst hz
    refine (Any.slices_Compact_int_empty laysCompact none 0 w).mono ?_
    rintro e w' ⟨rfl, rfl⟩
    exact ⟨_, rfl, h0, ⟨rfl, rfl, rfl, Nat.le_refl _, fun _ _ _ => rfl⟩, rfl⟩
  · have hH := holds_of_blockI (ss := zs) hb (by have := h4; rw [ints_map] at this; simpa using this)
    refine (Any.slices_Compact_int laysCompact g 0 cap zs w hH hsz h1).mono ?_
    rintro e w' ⟨rfl, q, rfl⟩
    have hb' := heap_sortedI (n := q) (os := #[]) (Lib.compact zs ++ List.replicate (zs.length - (Lib.compact zs).length) 0).toArray hb
    rw [Go.Sort.grow_empty] at hb'
    have hg := grownBy_sortedI (w := w) (g := g) (n := q) (os := #[]) (Lib.compact zs ++ List.replicate (zs.length - (Lib.compact zs).length) 0).toArray
    rw [Go.Sort.grow_empty] at hg
    refine ⟨_, rfl, ⟨by simp [ints_length], Or.inr ⟨g, cap, _, rfl, hbase, hb', by omega, h2, by simp [Go.Sort.putCells, h3], ?_⟩⟩, hg, rfl⟩
    have := take_putCellsI cur (Lib.compact zs ++ List.replicate (zs.length - (Lib.compact zs).length) 0) (by simp; omega)
    have h5 := congrArg (List.take (Lib.compact zs).length) this
    rw [List.take_take, Nat.min_eq_left (by simp)] at h5
    rw [Nat.mul_one, h5, List.map_append, List.take_append_of_le_length (by simp)]
    rw [List.take_of_length_le (by simp)]
    rfl
theorem compact_rises {zs : List Int} (h : zs.Pairwise (· ≤ ·)) : (Lib.compact zs).Pairwise (· < ·) ∧ ∀ x, x ∈ Lib.compact zs ↔ x ∈ zs := by
  have hle : ∀ i j, i ≤ j → j < zs.length → zs.toArray[i]! ≤ zs.toArray[j]! := fun i j hij hj => by
    rw [List.pairwise_iff_getElem] at h
    rw [getElem!_pos zs.toArray i (by simp; omega), getElem!_pos zs.toArray j (by simpa using hj)]
    rcases Nat.lt_or_ge i j with h1 | h1
    · simpa using h i j (by omega) hj h1
    · have : i = j := by omega
      subst this; exact Int.le_refl _
  have key : ∀ m, m ≤ zs.length → (Lib.compactUpTo zs.toArray m).Pairwise (· < ·) ∧ ∀ x, x ∈ Lib.compactUpTo zs.toArray m ↔ ∃ j, j < m ∧ zs.toArray[j]! = x := by
    intro m
    induction m with
    | zero => intro _; simp [Lib.compactUpTo]
    | succ m ih =>
      intro hm
      obtain ⟨p1, p2⟩ := ih (by omega)
      rw [Lib.compactUpTo_succ]
      by_cases hk : Lib.keeps zs.toArray m = true
      · rw [if_pos hk]
        have hk' : m = 0 ∨ zs.toArray[m]! ≠ zs.toArray[m - 1]! := by simpa [Lib.keeps] using hk
        refine ⟨List.pairwise_append.2 ⟨p1, by simp, fun a ha b hb => ?_⟩, fun x => ?_⟩
        · simp only [List.mem_singleton] at hb
          obtain ⟨j, hj, rfl⟩ := (p2 a).1 ha
          rcases hk' with h0 | h0
          · omega
          · have h1 := hle j (m - 1) (by omega) (by omega)
            have h2 := hle (m - 1) m (by omega) (by omega)
            omega
        · rw [List.mem_append, p2, List.mem_singleton]
          constructor
          · rintro (⟨j, hj, rfl⟩ | rfl)
            · exact ⟨j, by omega, rfl⟩
            · exact ⟨m, by omega, rfl⟩
          · rintro ⟨j, hj, rfl⟩
            rcases Nat.lt_or_ge j m with h1 | h1
            · exact Or.inl ⟨j, h1, rfl⟩
            · have : j = m := by omega
              subst this; exact Or.inr rfl
      · rw [if_neg hk, List.append_nil]
        have hk' : m ≠ 0 ∧ zs.toArray[m]! = zs.toArray[m - 1]! := by
          simp only [Lib.keeps, decide_eq_true_eq, not_or, Classical.not_not] at hk
          exact ⟨hk.1, hk.2⟩
        refine ⟨p1, fun x => (p2 x).trans ⟨fun ⟨j, hj, e⟩ => ⟨j, by omega, e⟩, fun ⟨j, hj, e⟩ => ?_⟩⟩
        rcases Nat.lt_or_ge j m with h1 | h1
        · exact ⟨j, h1, e⟩
        · have : j = m := by omega
          subst this
          exact ⟨j - 1, by omega, by rw [← hk'.2]; exact e⟩
  obtain ⟨k1, k2⟩ := key zs.length (Nat.le_refl _)
  refine ⟨k1, fun x => (k2 x).trans ?_⟩
  rw [List.mem_iff_getElem]
  constructor
  · rintro ⟨j, hj, rfl⟩; exact ⟨j, hj, by rw [getElem!_pos zs.toArray j (by simpa using hj)]; simp⟩
  · rintro ⟨j, hj, rfl⟩; exact ⟨j, hj, by rw [getElem!_pos zs.toArray j (by simpa using hj)]; simp⟩
theorem compact_le (zs : List Int) : (Lib.compact zs).length ≤ zs.length := by
  unfold Lib.compact Lib.compactUpTo
  rw [List.length_map]
  have := List.length_filter_le (Lib.keeps zs.toArray) (List.range zs.length)
  simpa using this
def setL (zs : List Int) : List Int := Lib.compact (sortL zs)
theorem setL_rises (zs : List Int) : (setL zs).Pairwise (· < ·) := (compact_rises (sortL_sorted zs)).1
theorem setL_length (zs : List Int) : (setL zs).length ≤ zs.length := Nat.le_trans (compact_le _) (Nat.le_of_eq (sortL_length zs))
theorem rises_le {zs : List Int} (h : zs.Pairwise (· < ·)) : zs.Pairwise (· ≤ ·) := h.imp (fun h => by omega)
theorem rises_eq : ∀ {xs ys : List Int}, xs.Pairwise (· < ·) → ys.Pairwise (· < ·) → (∀ z, z ∈ xs ↔ z ∈ ys) → xs = ys
  | [], [], _, _, _ => rfl
  | [], y :: ys, _, _, h => by have := (h y).2 (by simp); cases this
  | x :: xs, [], _, _, h => by have := (h x).1 (by simp); cases this
  | x :: xs, y :: ys, h1, h2, h => by
    obtain ⟨a1, a2⟩ := List.pairwise_cons.1 h1
    obtain ⟨b1, b2⟩ := List.pairwise_cons.1 h2
    have e : x = y := by
      rcases List.mem_cons.1 ((h x).1 (by simp)) with e | e
      · exact e
      · rcases List.mem_cons.1 ((h y).2 (by simp)) with e2 | e2
        · exact e2.symm
        · have := a1 y e2; have := b1 x e; omega
    subst e
    congr 1
    refine rises_eq a2 b2 (fun z => ⟨fun hz => ?_, fun hz => ?_⟩)
    · rcases List.mem_cons.1 ((h z).1 (List.mem_cons_of_mem _ hz)) with e | e
      · have := a1 z hz; omega
      · exact e
    · rcases List.mem_cons.1 ((h z).2 (List.mem_cons_of_mem _ hz)) with e | e
      · have := b1 z hz; omega
      · exact e
theorem clone_any (a : Option Addr) (n c : Nat) (zs : List Int) (w : World) (h : SeqAt w a (ints zs)) (hl : zs.length = n) (hs : n ≤ 1000000) :
    Calls Tryz.prog 84 #[.slice a n c] w fun e w' => ∃ v, e = .returned v ∧ own3 w' 3 w.heap.size v zs ∧ Below w.heap.size w w' := by
  by_cases h0 : n = 0
  · subst h0
    have hz : zs = [] := List.eq_nil_of_length_eq_zero hl
    subst hz
    cases a with
    | none =>
      refine (Any.slices_Clone_int_nil laysClone 0 c w).mono ?_
      rintro e w' ⟨rfl, rfl⟩
      exact ⟨_, rfl, World.ownsRow_nil _ _ _ _, Below.refl _ _⟩
    | some a =>
      refine (Any.slices_Clone_int_zero laysClone a c w).mono ?_
      rintro e w' ⟨v, rfl, ho, -, hb⟩
      exact ⟨v, rfl, ho, hb⟩
  · obtain ⟨b, off, rfl, hcell⟩ := h (by rw [ints_length]; omega)
    refine (Any.slices_Clone_int laysClone b off n c zs w (by omega) (by omega) (fun j hj => ?_)).mono ?_
    · rw [hcell j (by rw [ints_length]; exact hj)]
      simp [ints, List.getD, hj, iv]
    · rintro e w' ⟨v, rfl, ho, -, hb⟩
      refine ⟨v, rfl, ?_, hb⟩
      rw [List.take_of_length_le (by omega)] at ho
      show World.ownsRow _ _ _ _ _ _ _
      rw [hl]; exact ho
end Go.Proofs.YtcdpnfchmpncjaaGreatDoor

namespace Go.Tr
open Go.RowKit
def runL (p : Nat × Nat) : List Int := (List.range p.2).map fun c => ((p.1 + c : Nat) : Int)
def chunksL (ps : List (Nat × Nat)) : List Int := ps.flatMap runL
theorem runL_snoc (d j : Nat) : runL (d, j + 1) = runL (d, j) ++ [((d + j : Nat) : Int)] := by simp [runL, List.range_succ]
theorem runL_length (p : Nat × Nat) : (runL p).length = p.2 := by simp [runL]
theorem take_next {α : Type} {ps : List α} {k : Nat} {p : α} (h : ps[k]? = some p) : ps.take (k + 1) = ps.take k ++ [p] := by
  rw [List.take_add_one, h]; rfl
theorem chunksL_next {ps : List (Nat × Nat)} {k : Nat} {p : Nat × Nat} (h : ps[k]? = some p) : chunksL (ps.take (k + 1)) = chunksL (ps.take k) ++ runL p := by
  rw [take_next h]; simp [chunksL]
theorem chunksL_le {ps : List (Nat × Nat)} {k : Nat} {p : Nat × Nat} (h : ps[k]? = some p) : (chunksL (ps.take k)).length + p.2 ≤ (chunksL ps).length := by
  have h1 : chunksL ps = chunksL (ps.take (k + 1)) ++ chunksL (ps.drop (k + 1)) := by rw [chunksL, chunksL, chunksL, ← List.flatMap_append, List.take_append_drop]
  rw [h1, chunksL_next h]
  simp [runL_length]
end Go.Tr
namespace Go.Proofs.YtcdpnfchmpncjaaGreatDoor
open Go.RowKit Go.Tr Go.Shelf
variable {w w' : World} {F G : Nat → Prop} {g s o a en : Nat} {ps : List (Nat × Nat)}
theorem infoIntU : (Tryz.prog.info? 3).map (fun i => (i.zero, i.size, i.bytes)) = some (some (.int .i64 0), 1, 8) := by kernel_rfl
set_option maxRecDepth 100000 in
theorem uchunks_any (w : World) (h : SpF 154 w F g s o ps a en) (hn : ps.length ≤ 100000) (hl : (chunksL ps).length ≤ 100000) (hp : ∀ p ∈ ps, p.1 + p.2 ≤ 1048576) : Calls Tryz.prog 69 #[.pointer (some ⟨g, 0, none⟩)] w fun e w' => ∃ v, e = .returned v ∧ own3 w' 3 w.heap.size v (chunksL ps) ∧ Below w.heap.size w w' := by
  obtain ⟨i0, hi, hz0, hz1, hz2⟩ := info_parts infoIntU
  obtain ⟨pa, pc, c0, c1, c2, c3, c4, HS⟩ := h.head
  obtain ⟨n, hpn⟩ : ∃ n, n = ps.length := ⟨_, rfl⟩
  rw [← hpn] at c2 hn
  have HPN := Lib.hid hpn
  have HPS := Lib.hid hp
  have HL := Lib.hid hl
  clear h hpn hp hl
  go_enter Tryz.func69, Tryz.ntmps69
  go_wp2_with fail
  clear c0 c1 c2 c3 c4
  go_loopw [3, 15] (fun v i wr => ∃ k : Nat, k ≤ n ∧ i = .int .i64 (k : Int) ∧ Hid (own3 wr 3 w.heap.size v (chunksL (ps.take k))) ∧ Hid (Below w.heap.size w wr)) (fun _ i _ => n - (intOf i).toNat)
  case atStart => exact ⟨0, Nat.zero_le _, rfl, World.ownsRow_nil _ _ _ _, Below.refl _ w⟩
  case round =>
    obtain ⟨k, hk, rfl, HV, HB⟩ := hrel
    by_cases hlt : k < n
    · have hlt' : (k : Int) < (n : Int) := by omega
      obtain ⟨b, off, d, m, rfl, hc1, hc2, HP⟩ := (HS.out.below HB.out (Nat.le_refl _)).part (k := k) (by rw [← HPN.out]; exact hlt)
      have hdm : d + m ≤ 1048576 := HPS.out _ (List.mem_of_getElem? HP.out)
      have hlm : (chunksL (ps.take k)).length + m ≤ 100000 := Nat.le_trans (chunksL_le HP.out) HL.out
      have HNX := Lib.hid (chunksL_next HP.out)
      obtain ⟨M, hM⟩ : ∃ M, M = chunksL (ps.take k) := ⟨_, rfl⟩
      rw [← hM] at HV hlm HNX
      have HW : Hid (own3 (wr.alloc (.cells #[.int .i64 d, .int .i64 m] 199)) 3 w.heap.size u3 M) := HV.out.alloc _
      have HBW : Hid (Below w.heap.size w (wr.alloc (.cells #[.int .i64 d, .int .i64 m] 199))) := HB.out.alloc HB.out.size _
      have HBX : Hid ((wr.alloc (.cells #[.int .i64 d, .int .i64 m] 199)).heap[wr.heap.size]? = some (.cells #[.int .i64 d, .int .i64 m] 199 (0, 0))) := heap_alloc_new _ _
      have hsb : w.heap.size ≤ wr.heap.size := HB.out.size
      obtain ⟨xb, hxb⟩ : ∃ xb, xb = wr.heap.size := ⟨_, rfl⟩
      have HN0 : Hid (∀ q, u3.ownBlock = some q → q ≠ xb) := fun q hq e => by have := (HV.out.lt q hq).2; omega
      rw [← hxb] at HBX
      have hcm := (cells_of_block HBX.out 1).1
      simp at hcm
      clear HV HP hM HB
      go_wp2_with fail
      rw [← hxb]
      generalize hw2 : wr.alloc (.cells #[.int .i64 d, .int .i64 m] 199) = wa at *
      have HXA : Hid (xb < wa.heap.size) := (Array.getElem?_eq_some_iff.1 HBX.out).1
      clear hw2 hxb hcm hsb
      go_loopw [3, 21] (fun v i w2 => ∃ j : Nat, j ≤ m ∧ i = .int .i64 (j : Int) ∧ Hid (own3 w2 3 w.heap.size v (M ++ runL (d, j))) ∧ Hid (Below w.heap.size w w2) ∧ Hid (w2.heap[xb]? = some (.cells #[.int .i64 d, .int .i64 m] 199 (0, 0))) ∧ Hid (∀ q, v.ownBlock = some q → q ≠ xb)) (fun _ i _ => m - (intOf i).toNat)
      case atStart => exact ⟨0, Nat.zero_le _, rfl, by show own3 _ _ _ _ _; simpa [runL] using HW.out, HBW, HBX, HN0⟩
      case round =>
        clear HW HBW HBX HN0
        obtain ⟨j, hj, rfl, HV, HB, HX, HN⟩ := hrel
        have c0 := (cells_of_block HX.out 0).1
        simp at c0
        obtain ⟨L, hL⟩ : ∃ L, L = M ++ runL (d, j) := ⟨_, rfl⟩
        have hLl : L.length ≤ 99999 + 1 := by rw [hL, List.length_append, runL_length]; simp only; omega
        have HLE : Hid (L ++ [(d : Int) + (j : Int)] = M ++ runL (d, j + 1)) := by show _ = _; rw [hL, runL_snoc, List.append_assoc, Int.natCast_add]
        have HLE0 := Lib.hid hL
        rw [← hL] at HV
        clear hL
        obtain ⟨mn, hmn⟩ : ∃ mn, mn = L.length := ⟨_, rfl⟩
        have HV' : Hid (wr.ownsRow w.heap.size 3 1 u3 mn (ints L)) := by rw [hmn]; exact HV.out
        have HMN := Lib.hid hmn.symm
        rw [← hmn] at hLl
        clear hmn
        obtain ⟨oa8, oc8, rfl, -, hoc8, -⟩ := ownsRow_seq HV'.out
        by_cases hjm : j < m
        · have hjm' : (j : Int) < (m : Int) := by omega
          go_wp2_with (first
            | (at_builtin; refine wpList_append_own_at _ rfl (.tmp 24) (.tmp 29) 42 rfl w.heap.size 3 i0 _ 1 8 Tryz.underlying42 hi hz0 hz1 hz2 rfl (by decide) _ _ _ rfl (HV'.out.alloc _) ⟨wr.heap.size, 0, none⟩ 1 1 (ints [(d : Int) + (j : Int)]) rfl rfl ?_ (ints_oneCell .i64 [(d : Int) + (j : Int)]) (by unfold maxLen; omega) (by omega) (by have := HB.out.size; simp; omega) ?_)
            | fail)
          · intro q u hu
            exact news_block wr (ints [(d : Int) + (j : Int)]) 3 q u hu
          · intro v' w4 hown hgrow _ hob
            have HV4 : Hid (own3 w4 3 w.heap.size v' (M ++ runL (d, j + 1))) := by
              rw [← HLE.out]
              unfold own3
              have := hown
              rw [← HMN.out] at this
              show w4.ownsRow _ _ _ _ _ _
              simpa [ints] using this
            have HB4 : Hid (Below w.heap.size w w4) := (HB.out.alloc HB.out.size _).grown hgrow (by have := HB.out.size; simp; omega) (fun j hj => (HV'.out.lt j hj).1)
            have hxl := (Array.getElem?_eq_some_iff.1 HX.out).1
            have HX4 : Hid (w4.heap[xb]? = some (.cells #[.int .i64 d, .int .i64 m] 199 (0, 0))) := (hgrow.block xb (by simp; omega) (fun e => HN.out xb e.symm rfl)).trans ((Below.heap_alloc _ _ _ hxl).trans HX.out)
            have HN4 : Hid (∀ q, v'.ownBlock = some q → q ≠ xb) := fun q hq => by
              rcases hob with h | h
              · exact HN.out q (h ▸ hq)
              · rw [h] at hq; simp at hq; omega
            clear hown hgrow hob hxl
            go_wp2
            go_roundw
            case rel => exact ⟨j + 1, by omega, by go_num, HV4, HB4, HX4, HN4⟩
            case measure => simp [intOf]; omega
        · have hjm' : ¬ (j : Int) < (m : Int) := by omega
          have hjm2 : j = m := by omega
          have HV5 : Hid (own3 wr 3 w.heap.size (.slice oa8 mn oc8) (chunksL (ps.take (k + 1)))) := by
            rw [HNX.out, ← hjm2, ← HLE0.out]; exact HV.out
          clear hjm2
          go_wp2
          go_roundw
          case rel => exact ⟨k + 1, by omega, by go_num, HV5, HB⟩
          case measure => simp [intOf]; omega
    · have hlt' : ¬ ((k : Int) < (n : Int)) := by omega
      have HV4 : Hid (own3 wr 3 w.heap.size u3 (chunksL ps)) := by
        have := HV.out; rw [List.take_of_length_le (by rw [← HPN.out]; omega)] at this; exact this
      go_wp2
      go_ret
      exact ⟨_, rfl, HV4.out, HB.out⟩
end Go.Proofs.YtcdpnfchmpncjaaGreatDoor

namespace Go.Tr
open Go.RowKit
variable {T : TypeId} {w w1 : World} {F G : Nat → Prop} {g s o a en : Nat} {ps : List (Nat × Nat)}
theorem SpF.put {pv v : Value} (hF : F g) (ho : Only F w w1) (hb : w1.heap[g]? = some (.cells #[.pointer (some ⟨s, 0, none⟩), .int .i64 (o : Nat), pv, .int .i64 (a : Nat), .int .i64 (en : Nat)] T (0, 0))) (hv : OwnO w1 2 v ps.length (pcells ps)) (hn : ∀ k, v.ownBlock = some k → grow F w w1 k ∧ k ≠ g) :
    SpF T (w1.setCell ⟨g, 2, none⟩ v) (grow F w (w1.setCell ⟨g, 2, none⟩ v)) g s o ps a en ∧ Only F w (w1.setCell ⟨g, 2, none⟩ v) := by
  refine ⟨⟨Or.inl hF, v, ?_, hv.kept (fun k hk => Below.heap_setCell _ _ _ _ (hn k hk).2), fun k hk => ⟨?_, (hn k hk).2⟩⟩, ho.setCell (p := ⟨g, 2, none⟩) (Or.inl hF) _⟩
  · simpa using block_setCell hb 2 v
  · have := (hn k hk).1
    unfold grow at this ⊢
    simpa [World.setCell] using this
theorem pcells_cut {ps : List (Nat × Nat)} {k : Nat} {p : Nat × Nat} (h : ps[k]? = some p) (hn : p ∉ ps.take k) : ps.erase p = ps.take k ++ ps.drop (k + 1) := by
  have h2 : ps.drop k = p :: ps.drop (k + 1) := by
    rw [List.drop_eq_getElem_cons (List.getElem?_eq_some_iff.1 h).1, (List.getElem?_eq_some_iff.1 h).2]
  conv => lhs; rw [← List.take_append_drop k ps, h2]
  rw [List.erase_append_right _ hn, List.erase_cons_head]
theorem pcells_drop : ∀ (ps : List (Nat × Nat)) (k : Nat), pcells (ps.drop k) = (pcells ps).drop (k * 2)
  | [], k => by cases k <;> rfl
  | p :: r, 0 => rfl
  | p :: r, k + 1 => by
    rw [List.drop_succ_cons, pcells_drop r k, show (k + 1) * 2 = k * 2 + 1 + 1 by omega]; rfl
theorem pcells_take : ∀ (ps : List (Nat × Nat)) (k : Nat), pcells (ps.take k) = (pcells ps).take (k * 2)
  | [], k => by cases k <;> rfl
  | p :: r, 0 => rfl
  | p :: r, k + 1 => by
    rw [List.take_succ_cons, show (k + 1) * 2 = k * 2 + 1 + 1 by omega]
    show _ :: _ :: pcells (r.take k) = _ :: _ :: (pcells r).take (k * 2)
    rw [pcells_take r k]
theorem pcells_one (ps : List (Nat × Nat)) : ∀ u ∈ pcells ps, u.oneCell' = true := fun u hu => by
  simp only [pcells, ecells, List.mem_flatMap] at hu
  obtain ⟨e, -, hu⟩ := hu
  simp at hu
  rcases hu with rfl | rfl <;> rfl
theorem OwnO.cut2 {b off n pc k : Nat} {xs : List Value} (h : OwnO w 2 (.slice (some ⟨b, off, none⟩) n pc) n xs) (hk : k < n) : OwnO w 2 (.slice (some ⟨b, off, none⟩) k k) k (xs.take (k * 2)) := by
  rcases h with ⟨h0, _⟩ | ⟨g', off', cap', e, g1, g2, g3, g4, g5, g6⟩
  · cases h0
  · cases e
    refine Or.inr ⟨b, off, k, rfl, Nat.le_refl _, by omega, by rw [List.length_take, g3]; omega, g4, fun j hj => g5 j (by omega), fun j hj => ?_⟩
    rw [g6 j (by omega), List.getElem?_take, if_pos hj]
theorem cells_drop2 {b off n pc k : Nat} (h : OwnO w 2 (.slice (some ⟨b, off, none⟩) n pc) n (pcells ps)) : ∀ j u, (pcells (ps.drop (k + 1)))[j]? = some u → w.cell? ⟨b, off + (k + 1) * 2 + j, none⟩ = some u := fun j u hj => by
  have e := pcells_drop ps (k + 1)
  rw [e, List.getElem?_drop] at hj
  have hl := (List.getElem?_eq_some_iff.1 hj).1
  have := h.cells ((k + 1) * 2 + j) (by have := h.length; omega)
  rw [hj] at this
  rw [Nat.add_assoc]; exact this
end Go.Tr
namespace Go.Proofs.YtcdpnfchmpncjaaGreatDoor
open Go.RowKit Go.Tr Go.Shelf
variable {w w' : World} {F G : Nat → Prop} {g s o a en : Nat} {ps : List (Nat × Nat)}
theorem infoSpace : (Tryz.prog.info? 154).map (·.size) = some 5 := by kernel_rfl
theorem infoStore : (Tryz.prog.info? 98).map (·.size) = some 4 := by kernel_rfl
theorem neq_same {P : Program} {tp te : TypeId} {j : TypeInfo} (w : World) (a : Addr) (hp : P.underlying tp = some (.pointer te)) (hte : P.info? te = some j) :
    (binOp .neq tp (.pointer (some a)) (.pointer (some a))).run P w = .ok (.bool false) w := by
  have h : ∀ d : Nat, (Op.equalIn (d + 1) tp (.pointer (some a)) (.pointer (some a))).run P w = .ok true w := fun d => by
    simp [Op.equalIn, run_underlying hp, sizeOf, typeInfo, hte, run_sameAddr_same]
  simp only [binOp]
  simp [Op.equal, Op.maxDepth, h 9999]
set_option maxRecDepth 100000 in
theorem uother_any {g2 o2 a2 en2 : Nat} {ps2 : List (Nat × Nat)} (w : World) (h : SpF 154 w F g s o ps a en) (h2 : SpF 154 w G g2 s o2 ps2 a2 en2) (hne : g2 ≠ g) : Calls Tryz.prog 122 #[.pointer (some ⟨g, 0, none⟩), .pointer (some ⟨g2, 0, none⟩)] w fun e w' => e = .returned (.int .i64 0) ∧ Drawn w w' := by
  obtain ⟨pa, pc, c0, -, -, -, -, -⟩ := h.head
  obtain ⟨qa, qc, d0, -, -, -, -, -⟩ := h2.head
  obtain ⟨-, pv, hb, -⟩ := h
  obtain ⟨-, pv2, hb2, -⟩ := h2
  obtain ⟨j1, hj1, hs1⟩ := Option.map_eq_some_iff.1 infoSpace
  obtain ⟨j2, hj2, hs2⟩ := Option.map_eq_some_iff.1 infoStore
  have e1 : ∀ W : World, W.heap = w.heap → (binOp .eql 28 (.pointer (some ⟨g2, 0, none⟩)) (.pointer (some ⟨g, 0, none⟩))).run Tryz.prog W = .ok (.bool false) W := fun W e => run_eql_ptr_other W Tryz.underlying28 hj1 (by rw [hs1]; decide) (by simp [hne]) (by rw [e]; exact hb2) (by rw [e]; exact hb)
  have e2 : ∀ W : World, (binOp .neq 47 (.pointer (some ⟨s, 0, none⟩)) (.pointer (some ⟨s, 0, none⟩))).run Tryz.prog W = .ok (.bool false) W := fun W => neq_same W _ Tryz.underlying47 hj2
  have e3 := e1 w rfl
  have e4 := e1 w.drew rfl
  clear hb hb2
  go_enter Tryz.func122, Tryz.ntmps122
  go_wp2_with fail
  refine wp_region_held_drew (S := fun W => W.cell? ⟨g, 0, none⟩ = some (.pointer (some ⟨s, 0, none⟩)) ∧ W.cell? ⟨g2, 0, none⟩ = some (.pointer (some ⟨s, 0, none⟩)) ∧ (binOp .eql 28 (.pointer (some ⟨g2, 0, none⟩)) (.pointer (some ⟨g, 0, none⟩))).run Tryz.prog W = .ok (.bool false) W) (by kernel_rfl) ⟨c0, d0, by first | exact e3 | exact e4⟩ (fun hH => ?_)
  refine Go.Tr.tz 0 (v := ?_) rfl ?_ ?_
  rotate_left
  · intro W hW
    go_simp
    try with_reducible rfl
  try simp only [Go.Tr.nz]
  refine Go.Tr.tz 1 (v := ?_) rfl ?_ ?_
  rotate_left
  · intro W hW
    go_simp
    try with_reducible rfl
  try simp only [Go.Tr.nz]
  refine Go.Tr.tz 2 (v := ?_) rfl ?_ ?_
  rotate_left
  · intro W hW
    go_simp
    try with_reducible rfl
  try simp only [Go.Tr.nz]
  refine Go.Tr.tz 3 (v := ?_) rfl ?_ ?_
  rotate_left
  · intro W hW
    go_simp
    try with_reducible rfl
  try simp only [Go.Tr.nz]
  refine Go.Tr.tz 4 (v := ?_) rfl ?_ ?_
  rotate_left
  · intro W hW
    go_simp
    try with_reducible rfl
  try simp only [Go.Tr.nz]
  refine Go.Tr.tz 5 (v := ?_) rfl ?_ ?_
  rotate_left
  · intro W hW
    go_simp
    try with_reducible rfl
  try simp only [Go.Tr.nz]
  refine Go.Tr.tz 6 (v := ?_) rfl ?_ ?_
  rotate_left
  · intro W hW
    go_simp
    try with_reducible rfl
  try simp only [Go.Tr.nz]
  refine Go.Tr.tz 7 (v := ?_) rfl ?_ ?_
  rotate_left
  · intro W hW
    go_simp
    try with_reducible rfl
  try simp only [Go.Tr.nz]
  refine Go.Tr.tz 8 (v := ?_) rfl ?_ ?_
  rotate_left
  · intro W hW
    go_simp
    try with_reducible rfl
  try simp only [Go.Tr.nz]
  refine Go.Tr.tz 9 (v := ?_) rfl ?_ ?_
  rotate_left
  · intro W hW
    go_simp
    try with_reducible rfl
  try simp only [Go.Tr.nz]
  refine Go.Tr.tz 10 (v := ?_) rfl ?_ ?_
  rotate_left
  · intro W hW
    go_simp
    try with_reducible rfl
  try simp only [Go.Tr.nz]
  refine Go.Tr.tz 11 (v := ?_) rfl ?_ ?_
  rotate_left
  · intro W hW
    go_simp
    try with_reducible rfl
  try simp only [Go.Tr.nz]
  refine Go.Tr.tz 12 (v := ?_) rfl ?_ ?_
  rotate_left
  · intro W hW
    go_simp
    try with_reducible rfl
  try simp only [Go.Tr.nz]
  refine Go.Tr.tz 13 (v := ?_) rfl ?_ ?_
  rotate_left
  · intro W hW
    go_simp
    try with_reducible rfl
  try simp only [Go.Tr.nz]
  refine Go.Tr.tz 14 (v := ?_) rfl ?_ ?_
  rotate_left
  · intro W hW
    go_simp
    try with_reducible rfl
  try simp only [Go.Tr.nz]
  refine Go.Tr.tz 15 (v := ?_) rfl ?_ ?_
  rotate_left
  · intro W hW
    go_simp
    try with_reducible rfl
  try simp only [Go.Tr.nz]
  refine Go.Tr.tz 16 (v := ?_) rfl ?_ ?_
  rotate_left
  · intro W hW
    go_simp
    try with_reducible rfl
  try simp only [Go.Tr.nz]
  refine Go.Tr.tz 17 (v := ?_) rfl ?_ ?_
  rotate_left
  · intro W hW
    go_simp
    try with_reducible rfl
  try simp only [Go.Tr.nz]
  refine Go.Tr.tz 18 (v := ?_) rfl ?_ ?_
  rotate_left
  · intro W hW
    go_simp
    try with_reducible rfl
  try simp only [Go.Tr.nz]
  refine wpAnyH_done (by kernel_rfl) ?_ _
  go_wp2
  go_ret
  exact ⟨rfl, ⟨_, rfl⟩⟩
set_option maxRecDepth 100000 in
theorem ucut_any (c x : Nat) (w : World) (h : SpF 154 w F g s o ps a en) (hn : ps.length ≤ 100000) : Calls Tryz.prog 118 #[.pointer (some ⟨g, 0, none⟩), .agg #[.int .i64 c, .int .i64 x]] w fun e w' => e = .returned (.tuple #[]) ∧ SpF 154 w' (grow F w w') g s o (ps.erase (c, x)) a en ∧ Only F w w' := by
  obtain ⟨i0, hi, hz0, hz1, hz2⟩ := info_parts infoPart
  obtain ⟨h1, pv, h2, h3, h4⟩ := h
  obtain ⟨pa, pc, rfl, hs, hpc1, hpc2⟩ := h3.seq
  have HOW := Lib.hid h3
  have HOB := Lib.hid h4
  have HBK := Lib.hid h2
  have HFG := Lib.hid h1
  have HS := Lib.hid hs
  have hgl : g < w.heap.size := (Array.getElem?_eq_some_iff.1 h2).1
  have c0 := (cells_of_block h2 2).1
  simp at c0
  obtain ⟨n, hpn⟩ : ∃ n, n = ps.length := ⟨_, rfl⟩
  rw [← hpn] at c0 hn hpc1
  have HPN := Lib.hid hpn
  have hng : ∀ u, (w.alloc u).cell? ⟨g, 2, none⟩ = some (.slice pa n pc) := fun u => (World.cell?_of_block (a := ⟨g, 2, none⟩) (Below.heap_alloc w u g hgl)).trans c0
  clear h1 h2 h3 h4 hs hpn
  go_enter Tryz.func118, Tryz.ntmps118
  go_wp2_with fail
  clear c0 hng
  obtain ⟨ab, hab⟩ : ∃ ab, ab = w.heap.size := ⟨_, rfl⟩
  rw [← hab]
  have HAB := Lib.hid hab
  go_loopw [11] (fun i wr => ∃ k : Nat, k ≤ n ∧ i = .int .i64 (k : Int) ∧ Hid ((c, x) ∉ ps.take k) ∧ Hid (Below w.heap.size w wr) ∧ Hid (wr.heap[ab]? = some (.cells #[.int .i64 c, .int .i64 x] 199 (0, 0)))) (fun i _ => n - (intOf i).toNat)
  case atStart => exact ⟨0, Nat.zero_le _, rfl, by show _ ∉ _; simp, (Below.refl _ w).alloc (Nat.le_refl _) _, by rw [hab]; exact heap_alloc_new _ _⟩
  case round =>
    clear hab
    obtain ⟨k, hk, rfl, HK, HB, HA⟩ := hrel
    by_cases hlt : k < n
    · have hlt' : (k : Int) < (n : Int) := by omega
      obtain ⟨b, off, d, m, rfl, hc1, hc2, HP⟩ := (HS.out.below HB.out (Nat.le_refl _)).part (k := k) (by rw [← HPN.out]; exact hlt)
      have hal := (Array.getElem?_eq_some_iff.1 HA.out).1
      have hak := fun u => (Below.heap_alloc wr u ab hal).trans HA.out
      have a0 := fun u => (cells_of_block (hak u) 0).1
      have a1 := fun u => (cells_of_block (hak u) 1).1
      simp at a0 a1
      clear hal hak
      have HBA : Hid (Below w.heap.size w (wr.alloc (.cells #[.int .i64 d, .int .i64 m] 199))) := HB.out.alloc HB.out.size _
      have HAA : Hid ((wr.alloc (.cells #[.int .i64 d, .int .i64 m] 199)).heap[ab]? = some (.cells #[.int .i64 c, .int .i64 x] 199 (0, 0))) := (Below.heap_alloc wr _ ab (Array.getElem?_eq_some_iff.1 HA.out).1).trans HA.out
      by_cases he : (d, m) = (c, x)
      · have he1 : d = c := congrArg Prod.fst he
        have he2 : m = x := congrArg Prod.snd he
        subst he1 he2
        have ERS := Lib.hid (pcells_cut HP.out HK.out)
        go_wp2_with fail
        generalize hwa : wr.alloc (.cells #[.int .i64 d, .int .i64 m] 199) = wa at *
        have hgb : wa.heap[g]? = w.heap[g]? := HBA.out.block g hgl
        have HBG := Lib.hid (hgb.trans HBK.out)
        have c2 := (cells_of_block HBG.out 2).1
        simp at c2
        rw [← HPN.out] at c2
        have HOW2 : Hid (OwnO wa 2 (.slice (some ⟨b, off, none⟩) n pc) n (pcells ps)) := by
          have := HOW.out.kept (w' := wa) (fun q hq => HBA.out.block q (HOW.out.lt q hq))
          rw [← HPN.out] at this; exact this
        have HCUT := Lib.hid (HOW2.out.cut2 hlt)
        have HLN : Hid ((pcells (ps.drop (k + 1))).length = (n - (k + 1)) * 2) := by show _ = _; rw [pcells_length, List.length_drop, ← HPN.out]
        have HNW : Hid (∀ j u, (pcells (ps.drop (k + 1)))[j]? = some u → wa.cell? ⟨b, off + (k + 1) * 2 + j, none⟩ = some u) := cells_drop2 HOW2.out
        clear hwa hgb a0 a1 hc1 hc2
        have k1 : (0 : Int) ≤ (k : Int) := by omega
        have k2 : (k : Int) ≤ (pc : Int) := by omega
        have k3 : (k : Int) + 1 ≤ (n : Int) := by omega
        have k4 : (n : Int) ≤ (pc : Int) := by omega
        have k5 : ((k : Int) + 1).toNat = k + 1 := by omega
        have k6 : IntKind.i64.wrap ((k : Int) + 1) = (k : Int) + 1 := by rw [IntWalk.i64_in _ (by omega)]
        have k7 : (0 : Int) ≤ (k : Int) + 1 := by omega
        refine wp_region_lastH (S := fun W => W.cell? ⟨g, 2, none⟩ = some (.slice (some ⟨b, off, none⟩) n pc)) 18 (by kernel_rfl) (by kernel_rfl) c2 (fun hH => ?_)
        simp only [lastOps, nop, List.modify_toArray, List.modify_succ_cons, List.modify_zero_cons]
        refine Go.Tr.tz 0 (v := ?_) rfl ?_ ?_
        rotate_left
        · intro W hW
          go_simp
          try with_reducible rfl
        try simp only [Go.Tr.nz]
        refine Go.Tr.tz 1 (v := ?_) rfl ?_ ?_
        rotate_left
        · intro W hW
          go_simp
          try with_reducible rfl
        try simp only [Go.Tr.nz]
        refine Go.Tr.tz 2 (v := ?_) rfl ?_ ?_
        rotate_left
        · intro W hW
          go_simp
          try with_reducible rfl
        try simp only [Go.Tr.nz]
        refine Go.Tr.tz 3 (v := ?_) rfl ?_ ?_
        rotate_left
        · intro W hW
          go_simp
          try with_reducible rfl
        try simp only [Go.Tr.nz]
        refine Go.Tr.tz 4 (v := ?_) rfl ?_ ?_
        rotate_left
        · intro W hW
          go_simp
          try with_reducible rfl
        try simp only [Go.Tr.nz]
        refine Go.Tr.tz 5 (v := ?_) rfl ?_ ?_
        rotate_left
        · intro W hW
          go_simp
          try with_reducible rfl
        try simp only [Go.Tr.nz]
        refine Go.Tr.tz 6 (v := ?_) rfl ?_ ?_
        rotate_left
        · intro W hW
          go_simp
          try with_reducible rfl
        try simp only [Go.Tr.nz]
        refine Go.Tr.tz 7 (v := ?_) rfl ?_ ?_
        rotate_left
        · intro W hW
          go_simp
          try with_reducible rfl
        try simp only [Go.Tr.nz]
        refine Go.Tr.tz 8 (v := ?_) rfl ?_ ?_
        rotate_left
        · intro W hW
          go_simp
          try with_reducible rfl
        try simp only [Go.Tr.nz]
        refine Go.Tr.tz 9 (v := ?_) rfl ?_ ?_
        rotate_left
        · intro W hW
          go_simp
          try with_reducible rfl
        try simp only [Go.Tr.nz]
        refine Go.Tr.tz 10 (v := ?_) rfl ?_ ?_
        rotate_left
        · intro W hW
          go_simp
          try with_reducible rfl
        try simp only [Go.Tr.nz]
        refine Go.Tr.tz 11 (v := ?_) rfl ?_ ?_
        rotate_left
        · intro W hW
          go_simp
          try with_reducible rfl
        try simp only [Go.Tr.nz]
        refine Go.Tr.tz 12 (v := ?_) rfl ?_ ?_
        rotate_left
        · intro W hW
          go_simp
          try with_reducible rfl
        try simp only [Go.Tr.nz]
        refine Go.Tr.tz 13 (v := ?_) rfl ?_ ?_
        rotate_left
        · intro W hW
          go_simp
          try with_reducible rfl
        try simp only [Go.Tr.nz]
        refine Go.Tr.tz 14 (v := ?_) rfl ?_ ?_
        rotate_left
        · intro W hW
          go_simp
          try with_reducible rfl
        try simp only [Go.Tr.nz]
        obtain ⟨ad, had, hnw⟩ : ∃ ad, (if pc = k + 1 then some (⟨b, off, none⟩ : Addr) else some ⟨b, off + (k + 1) * 2, none⟩) = some ad ∧ ∀ j u, (pcells (ps.drop (k + 1)))[j]? = some u → wa.cell? (ad.add j) = some u := by
          by_cases hpc : pc = k + 1
          · refine ⟨_, if_pos hpc, fun j u hj => ?_⟩
            have h1 := (List.getElem?_eq_some_iff.1 hj).1
            have h2 := HLN.out
            omega
          · refine ⟨_, if_neg hpc, fun j u hj => ?_⟩
            rw [Addr.add_lit]
            exact HNW.out j u hj
        rw [had]
        clear had
        refine wpAnyH_ready (rs := [15]) (by kernel_rfl) (by simp) (readyH rfl (fun K hK => ?_) AllReadyH.nil)
        rw [if_pos (by rfl)]
        refine wpO_appendO _ (.tmp 26) (.tmp 33) 152 rfl 199 i0 _ 2 16 Tryz.underlying152 hi hz0 hz1 hz2 rfl (by decide) (.slice (some ⟨b, off, none⟩) k k) k ((pcells ps).take (k * 2)) rfl (HCUT.out.kept (fun _ _ => rfl)) ad (n - (k + 1)) (pc - (k + 1)) (pcells (ps.drop (k + 1))) rfl HLN.out ?hn ?h1 ?h63 ?hby ?_
        case hn => exact hnw
        case h1 => exact pcells_one _
        case h63 => unfold maxLen; omega
        case hby => omega
        intro v3 w3 r1 r2 r3
        have hlen : k + (n - (k + 1)) = (ps.erase (d, m)).length := by
          rw [ERS.out, List.length_append, List.length_take, List.length_drop, ← HPN.out]; omega
        have hcells : (pcells ps).take (k * 2) ++ pcells (ps.drop (k + 1)) = pcells (ps.erase (d, m)) := by
          rw [ERS.out, pcells_append, pcells_take]
        rw [hlen, hcells] at r1
        have hgl2 : g < wa.heap.size := (Array.getElem?_eq_some_iff.1 HBG.out).1
        have hgb3 : w3.heap[g]? = wa.heap[g]? := r2.block g hgl2 (fun e => (HOB.out g e.symm).2 rfl)
        have HO3 : Hid (Only F w w3) := (Only.of_below HBA.out F).drew.grown r2 (fun q hq => Or.inl (HOB.out q hq).1)
        have HN3 : Hid (∀ q, v3.ownBlock = some q → grow F w w3 q ∧ q ≠ g) := fun q hq => by
          rcases r3 q hq with h' | h'
          · exact ⟨Or.inl (HOB.out q h').1, (HOB.out q h').2⟩
          · have h1 := h'.1
            have h2 : w.heap.size ≤ wa.heap.size := HBA.out.size
            simp at h1
            exact ⟨Or.inr ⟨by omega, h'.2⟩, by omega⟩
        have HV3 := Lib.hid r1
        have HP3 := Lib.hid (SpF.put HFG.out HO3.out (hgb3.trans HBG.out) HV3.out HN3.out)
        obtain ⟨a3, cap3, rfl, -, -, -⟩ := r1.seq
        have d2 := (cells_of_block (hgb3.trans HBG.out) 2)
        simp at d2
        obtain ⟨d2, d2f⟩ := d2
        rw [← HPN.out] at d2
        clear r1 r2 r3 hlen hcells hgb3 hnw
        refine hK.out _ _ d2 (fun hH => ?_)
        clear hK K
        try simp only [Go.Tr.nz]
        refine Go.Tr.tz 16 (v := ?_) rfl ?_ ?_
        rotate_left
        · intro W hW
          go_simp
          try with_reducible rfl
        try simp only [Go.Tr.nz]
        refine Go.Tr.tz 17 (v := ?_) rfl ?_ ?_
        rotate_left
        · intro W hW
          go_simp
          try with_reducible rfl
        try simp only [Go.Tr.nz]
        refine Go.Tr.tz 18 (v := ?_) rfl ?_ ?_
        rotate_left
        · intro W hW
          go_simp
          try with_reducible rfl
        try simp only [Go.Tr.nz]
        refine lastH_done (by kernel_rfl) rfl (by rfl) ?_
        go_simp
        go_wp2
        try simp only [Exit.inBlock, Exit.then]
        exact bodyPost_ret (results_none rfl _ _ _) rfl ⟨rfl, HP3.out.1, HP3.out.2⟩
      · have HK2 : Hid ((c, x) ∉ ps.take (k + 1)) := by
          show _ ∉ _
          rw [take_next HP.out, List.mem_append, List.mem_singleton]
          exact fun h' => h'.elim HK.out (fun e => he e.symm)
        by_cases h1 : d = c
        · have h2 : ((m : Int) == (x : Int)) = false := by
            have : m ≠ x := fun e => he (by rw [h1, e])
            simp; omega
          clear he
          subst h1
          go_wp2_with fail
          go_roundw
          case rel => exact ⟨k + 1, by omega, by go_num, HK2, HBA, HAA⟩
          case measure => simp [intOf]; omega
        · have h2 : ((d : Int) == (c : Int)) = false := by simp; omega
          clear he h1
          go_wp2_with fail
          go_roundw
          case rel => exact ⟨k + 1, by omega, by go_num, HK2, HBA, HAA⟩
          case measure => simp [intOf]; omega
    · have hlt' : ¬ (k : Int) < (n : Int) := by omega
      go_wp2_with fail
      go_end0
      have hne : ps.erase (c, x) = ps := by
        have := HK.out
        rw [List.take_of_length_le (by rw [← HPN.out]; omega)] at this
        exact List.erase_of_not_mem this
      rw [hne]
      refine ⟨rfl, ⟨Or.inl HFG.out, _, (HB.out.block g hgl).trans HBK.out, HOW.out.kept (fun k hk => HB.out.block k (HOW.out.lt k hk)), fun k hk => ⟨Or.inl (HOB.out k hk).1, (HOB.out k hk).2⟩⟩, Only.of_below HB.out F⟩
end Go.Proofs.YtcdpnfchmpncjaaGreatDoor

namespace Go.Tr
open Go.RowKit
variable {T : TypeId} {w w1 : World} {F G : Nat → Prop} {g s o a en : Nat} {ps : List (Nat × Nat)}
theorem SpF.at2 (h : SpF T w F g s o ps a en) (x y : Nat) : SpF T ((w.setCell ⟨g, 3, none⟩ (.int .i64 (x : Nat))).setCell ⟨g, 4, none⟩ (.int .i64 (y : Nat))) F g s o ps x y := by
  obtain ⟨h1, pv, h2, h3, h4⟩ := h
  refine ⟨h1, pv, ?_, h3.kept (fun k hk => (Below.heap_setCell _ _ _ _ (h4 k hk).2).trans (Below.heap_setCell _ _ _ _ (h4 k hk).2)), h4⟩
  simpa using block_setCell (block_setCell h2 3 (.int .i64 (x : Nat))) 4 (.int .i64 (y : Nat))
theorem SpF.at1 (h : SpF T w F g s o ps a en) (x : Nat) : SpF T (w.setCell ⟨g, 3, none⟩ (.int .i64 (x : Nat))) F g s o ps x en := by
  obtain ⟨h1, pv, h2, h3, h4⟩ := h
  refine ⟨h1, pv, ?_, h3.kept (fun k hk => Below.heap_setCell _ _ _ _ (h4 k hk).2), h4⟩
  simpa using block_setCell h2 3 (.int .i64 (x : Nat))
end Go.Tr
namespace Go.Proofs.YtcdpnfchmpncjaaGreatDoor
open Go.RowKit Go.Tr Go.Shelf
variable {w w' : World} {F G : Nat → Prop} {g s o a en C Wd : Nat} {ps : List (Nat × Nat)} {ws own : List Nat}
set_option maxRecDepth 100000 in
theorem uallocR_any (n : Nat) (w : World) (h : SpF 154 w F g s o ps a en) (hn : 1 ≤ n) (h1 : a + n ≤ en) (h2 : en ≤ 1048576) : Calls Tryz.prog 88 #[.pointer (some ⟨g, 0, none⟩), .int .i64 n] w fun e w' => e = .returned (.tuple #[.int .i64 (a : Nat), .int .i64 0]) ∧ SpF 154 w' F g s o ps (a + n) en ∧ Only F w w' ∧ w'.heap.size = w.heap.size := by
  have HR := Lib.hid (uroom_any w h (by omega) h2)
  obtain ⟨pa, pc, -, -, -, c3, -, -⟩ := h.head
  obtain ⟨-, pv, hb, -⟩ := id h
  have f3 := (cells_of_block hb 3).2
  have HS := Lib.hid (h.at1 (a + n))
  have HFG : Hid (F g) := h.1
  clear h hb
  obtain ⟨r, hr⟩ : ∃ r, r = en - a := ⟨_, rfl⟩
  have hnr : (n : Int) ≤ (r : Int) := by omega
  rw [← hr] at HR
  clear hr
  go_enter Tryz.func88, Tryz.ntmps88
  go_wp2_with fail
  refine HR.out.mono ?_
  rintro e w1 ⟨rfl, q, rfl⟩
  have e1 : ((a : Int) + (n : Int) - (n : Int)) = (a : Int) := by omega
  go_wp2_with fail
  go_ret2
  refine ⟨rfl, ?_, ?_, by simp [World.setCell]⟩
  · have := HS.out
    rw [Int.natCast_add] at this
    exact this
  · exact ((Only.refl F w).drawn ⟨q, rfl⟩).setCell (p := ⟨g, 3, none⟩) (Or.inl HFG.out) _
def AllocP (F G : Nat → Prop) (g s o C Wd n q a en : Nat) (ps : List (Nat × Nat)) (ws own : List Nat) (w : World) (e : Ending) (w' : World) : Prop :=
  ∃ c, e = .returned (.tuple #[.int .i64 (c * Wd : Nat), .int .i64 0]) ∧ c + (q + 1) ≤ C ∧ (∀ i, c ≤ i → i < c + (q + 1) → own.getD i 0 = 0) ∧
    SpF 154 w' (grow F w w') g s o (ps ++ [(c, q + 1)]) (if q = 0 then c * Wd + n else a) (if q = 0 then (c + 1) * Wd else en) ∧
    StF w' G s C Wd (putAt ws (c * Wd) (List.replicate ((q + 1) * Wd) 0)) (putAt own c (List.replicate (q + 1) o)) ∧ Only (fun k => F k ∨ G k) w w'
set_option maxRecDepth 100000 in
theorem uallocN_any (n q : Nat) (w : World) (h : SpF 154 w F g s o ps a en) (hS : StF w G s C Wd ws own) (hd : ∀ k, F k → ¬ G k) (hT : Tz w) (hq : q = (n - 1) / Wd) (hn : 1 ≤ n) (hn2 : n ≤ 1048576) (h0 : a ≤ en) (h1 : en < a + n) (h2 : en ≤ 1048576) (ho : 1 ≤ o) (ho2 : o ≤ 9223372036854775807) (hl : ps.length ≤ 100000)
    (hfree : ∃ c, c + (q + 1) ≤ C ∧ ∀ i, c ≤ i → i < c + (q + 1) → own.getD i 0 = 0) : Calls Tryz.prog 88 #[.pointer (some ⟨g, 0, none⟩), .int .i64 n] w fun e w' => AllocP F G g s o C Wd n q a en ps ws own w e w' := by
  obtain ⟨i0, hi, hz0, hz1, hz2⟩ := info_parts infoPart
  have HR := Lib.hid (uroom_any w h h0 h2)
  have HH := Lib.hid h
  have HST := Lib.hid hS
  have HD := Lib.hid hd
  have HTZ := Lib.hid hT
  have HFR := Lib.hid hfree
  obtain ⟨wb, ob, m, Fm, hst, -⟩ := id hS
  obtain ⟨hc1, hc2⟩ := hst.cb
  obtain ⟨hw1, hw2⟩ := hst.wd
  obtain ⟨pa, pc, c0, c1, c2, -, -, -⟩ := h.head
  have hqb : q ≤ n - 1 := by rw [hq]; exact Nat.div_le_self _ _
  have hqi : ((n : Int) - 1) / (Wd : Int) = (q : Int) := by
    rw [hq, show (n : Int) - 1 = ((n - 1 : Nat) : Int) by omega]; push_cast; rfl
  have hwz : ¬ ((Wd : Int) = 0) := by omega
  have HQ := Lib.hid hq
  clear h hst hS hd hT hfree hq
  obtain ⟨r, hr⟩ : ∃ r, r = en - a := ⟨_, rfl⟩
  have hnr : ¬ (n : Int) ≤ (r : Int) := by omega
  rw [← hr] at HR
  clear hr
  go_enter Tryz.func88, Tryz.ntmps88
  go_wp2_with fail
  refine HR.out.mono ?_
  rintro e w1 ⟨rfl, q1, rfl⟩
  go_wp2_with fail
  refine (swords_any (w.drewN q1) (HST.out.kept (fun _ _ _ => rfl))).mono ?_
  rintro e w' ⟨rfl, rfl⟩
  go_wp2_with fail
  refine wp_region_held_drew (S := fun W => W.cell? ⟨g, 0, none⟩ = some (.pointer (some ⟨s, 0, none⟩)) ∧ W.cell? ⟨g, 1, none⟩ = some (.int .i64 o)) (by kernel_rfl) ⟨c0, c1⟩ (fun hH => ?_)
  refine Go.Tr.tz 0 (v := ?_) rfl ?_ ?_
  rotate_left
  · intro W hW
    go_simp
    try with_reducible rfl
  try simp only [Go.Tr.nz]
  refine Go.Tr.tz 1 (v := ?_) rfl ?_ ?_
  rotate_left
  · intro W hW
    go_simp
    try with_reducible rfl
  try simp only [Go.Tr.nz]
  refine Go.Tr.tz 2 (v := ?_) rfl ?_ ?_
  rotate_left
  · intro W hW
    go_simp
    try with_reducible rfl
  try simp only [Go.Tr.nz]
  refine Go.Tr.tz 3 (v := ?_) rfl ?_ ?_
  rotate_left
  · intro W hW
    go_simp
    try with_reducible rfl
  try simp only [Go.Tr.nz]
  refine Go.Tr.tz 4 (v := ?_) rfl ?_ ?_
  rotate_left
  · intro W hW
    go_simp
    try with_reducible rfl
  try simp only [Go.Tr.nz]
  refine Go.Tr.tz 5 (v := ?_) rfl ?_ ?_
  rotate_left
  · intro W hW
    go_simp
    try with_reducible rfl
  try simp only [Go.Tr.nz]
  refine Go.Tr.tz 6 (v := ?_) rfl ?_ ?_
  rotate_left
  · intro W hW
    go_simp
    try with_reducible rfl
  try simp only [Go.Tr.nz]
  refine Go.Tr.tz 7 (v := ?_) rfl ?_ ?_
  rotate_left
  · intro W hW
    go_simp
    try with_reducible rfl
  try simp only [Go.Tr.nz]
  refine Go.Tr.tz 8 (v := ?_) rfl ?_ ?_
  rotate_left
  · intro W hW
    go_simp
    try with_reducible rfl
  try simp only [Go.Tr.nz]
  refine wpAnyH_ready (rs := [9]) (by kernel_rfl) (by simp) (readyH rfl (fun K hK => ?_) AllReadyH.nil)
  rw [if_pos (by rfl)]
  go_simp
  refine (stake_any o (q + 1) (w.drewN (q1 + 1)) (HST.out.kept (fun _ _ _ => rfl)) HTZ.out ho ho2 (by omega) (by omega)).mono ?_
  rintro e w2 ⟨hp, hon, hsz⟩
  rcases hp with ⟨c, rfl, hcC, hoff, hst⟩ | ⟨-, -, hno⟩
  · have hg2 : w2.heap[g]? = w.heap[g]? := hon.block g HH.out.lt (HD.out g HH.out.1)
    have HH2 : Hid (SpF 154 w2 F g s o ps a en) := HH.out.kept (fun k hf hl => hon.block k hl (HD.out k hf))
    have HO2 : Hid (Only G w w2) := hon.undrew
    have HZ2 : Hid (w2.heap.size = w.heap.size) := hsz
    have HST2 := Lib.hid hst
    have HOFF := Lib.hid hoff
    obtain ⟨hfg, pv2, hb2, how2, hob2⟩ := id HH2.out
    obtain ⟨pa2, pc2, rfl, -, -, -⟩ := how2.seq
    have d0 := (cells_of_block hb2 0).1
    have d1 := (cells_of_block hb2 1).1
    have d2 := (cells_of_block hb2 2).1
    simp at d0 d1 d2
    obtain ⟨lp, hlp⟩ : ∃ lp, lp = ps.length := ⟨_, rfl⟩
    rw [← hlp] at d2 hl how2 hob2 hb2
    have HLP := Lib.hid hlp
    have HW2 := Lib.hid how2
    have HB2 := Lib.hid hb2
    have HOB2 := Lib.hid hob2
    have HFG := Lib.hid hfg
    clear hon hsz hst hoff hg2 how2 hb2 hob2 hlp hfg
    refine hK.out _ _ ⟨d0, d1⟩ (fun hH => ?_)
    clear hK K
    try simp only [Go.Tr.nz]
    refine Go.Tr.tz 10 (v := ?_) rfl ?_ ?_
    rotate_left
    · intro W hW
      go_simp
      try with_reducible rfl
    try simp only [Go.Tr.nz]
    refine Go.Tr.tz 11 (v := ?_) rfl ?_ ?_
    rotate_left
    · intro W hW
      go_simp
      try with_reducible rfl
    try simp only [Go.Tr.nz]
    refine Go.Tr.tz 12 (v := ?_) rfl ?_ ?_
    rotate_left
    · intro W hW
      go_simp
      try with_reducible rfl
    try simp only [Go.Tr.nz]
    refine Go.Tr.tz 13 (v := ?_) rfl ?_ ?_
    rotate_left
    · intro W hW
      go_simp
      try with_reducible rfl
    try simp only [Go.Tr.nz]
    refine Go.Tr.tz 14 (v := ?_) rfl ?_ ?_
    rotate_left
    · intro W hW
      go_simp
      try with_reducible rfl
    try simp only [Go.Tr.nz]
    refine wpAnyH_done (by kernel_rfl) ?_ _
    go_wp2_with (first
      | (at_builtin; refine wpList_appendO _ rfl (.tmp 65) (.tmp 69) 152 rfl 199 i0 _ 2 16 Tryz.underlying152 hi hz0 hz1 hz2 rfl (by decide) (.slice pa2 lp pc2) lp (pcells ps) rfl (HW2.out.kept (fun k hk => Below.heap_alloc _ _ _ (HW2.out.lt k hk))) ⟨w2.heap.size, 0, none⟩ 1 1 [.int .i64 (c : Int), .int .i64 ((q : Int) + 1)] rfl rfl ?_ ?_ (by unfold maxLen; omega) (by omega) ?_)
      | fail)
    · intro j u hj
      rcases j with _ | _ | j
      · simp at hj; subst hj; simp [Addr.add]
      · simp at hj; subst hj; simp [Addr.add]
      · simp at hj
    · intro u hu; simp at hu; rcases hu with rfl | rfl <;> rfl
    · intro v4 w4 r1 r2 r3
      have hgl : g < w2.heap.size := (Array.getElem?_eq_some_iff.1 HB2.out).1
      have hlen : lp + 1 = (ps ++ [(c, q + 1)]).length := by rw [List.length_append, ← HLP.out]; rfl
      have hcells : pcells ps ++ [.int .i64 (c : Int), .int .i64 ((q : Int) + 1)] = pcells (ps ++ [(c, q + 1)]) := by rw [pcells_append]; rfl
      rw [hlen, hcells] at r1
      have hg4 : w4.heap[g]? = w2.heap[g]? := (r2.block g (by simp; omega) (fun e => (HOB2.out g e.symm).2 rfl)).trans (Below.heap_alloc _ _ _ hgl)
      have HO4 : Hid (Only F w2 w4) := ((Only.refl F w2).alloc _).grown r2 (fun k hk => Or.inl (HOB2.out k hk).1)
      have HN4 : Hid (∀ k, v4.ownBlock = some k → grow F w2 w4 k ∧ k ≠ g) := fun k hk => by
        rcases r3 k hk with h' | h'
        · exact ⟨Or.inl (HOB2.out k h').1, (HOB2.out k h').2⟩
        · have h1 := h'.1
          try simp at h1
          exact ⟨Or.inr ⟨by omega, h'.2⟩, by omega⟩
      have HP4 := Lib.hid (SpF.put (T := 154) HFG.out HO4.out (hg4.trans HB2.out) r1 HN4.out)
      obtain ⟨a4, cap4, rfl, -, -, -⟩ := r1.seq
      have HB4 := Lib.hid (hg4.trans HB2.out)
      have b2 := cells_of_block HB4.out 2
      have b3 := cells_of_block HB4.out 3
      have b4 := cells_of_block HB4.out 4
      simp at b3 b4
      simp at b2
      obtain ⟨b2, f2⟩ := b2
      obtain ⟨b3, f3⟩ := b3
      obtain ⟨b4, f4⟩ := b4
      clear r1 r2 r3 hlen hcells hg4
      have hcw : c * Wd + Wd ≤ 1048576 := by
        have := Nat.mul_le_mul (show c + 1 ≤ 1024 by omega) hw2
        rw [Nat.add_mul, Nat.one_mul] at this; exact this
      obtain ⟨m1, hm1⟩ : ∃ m1, m1 = c * Wd := ⟨_, rfl⟩
      have hx1 : (c : Int) * (Wd : Int) = (m1 : Int) := by rw [hm1]; push_cast; rfl
      have hx2 : ((c : Int) + 1) * (Wd : Int) = (m1 : Int) + (Wd : Int) := by rw [Int.add_mul, hx1, Int.one_mul]
      have HM1 := Lib.hid hm1
      rw [← hm1] at hcw
      clear hm1
      have HFIN : Hid (∀ W, Only F w4 W → W.heap.size = w4.heap.size → Only (fun k => F k ∨ G k) w W ∧ StF W G s C Wd (putAt ws (c * Wd) (List.replicate ((q + 1) * Wd) 0)) (putAt own c (List.replicate (q + 1) o)) ∧ ∀ k, grow F w2 W k → grow F w W k) := fun W hW hs => by
        have h1 : Only F w2 W := HO4.out.grow (hW.mono (fun k hk => Or.inl hk))
        refine ⟨(HO2.out.mono (fun k hk => Or.inr hk)).trans (h1.mono (fun k hk => Or.inl hk)) (fun k hk => Or.inl hk), HST2.out.kept (fun k hk hl => h1.block k hl (fun hf => HD.out k hf hk)), fun k hk => ?_⟩
        have := HZ2.out
        rcases hk with hk | hk
        · exact Or.inl hk
        · exact Or.inr ⟨by omega, hk.2⟩
      by_cases hq0 : q = 0
      · subst hq0
        go_wp2_with fail
        go_ret2
        have hsp := HP4.out.1.at2 (m1 + n) (m1 + Wd)
        have el : (ps ++ [(c, 0 + 1)]).length = ps.length + 1 := by simp
        rw [Int.natCast_add, Int.natCast_add, el] at hsp
        have hfin := HFIN.out (((w4.setCell ⟨g, 2, none⟩ (.slice a4 (ps.length + 1) cap4)).setCell ⟨g, 3, none⟩ (.int .i64 ((m1 : Int) + (n : Int)))).setCell ⟨g, 4, none⟩ (.int .i64 ((m1 : Int) + (Wd : Int)))) ((((Only.refl F w4).setCell (p := ⟨g, 2, none⟩) (Or.inl HFG.out) _).setCell (p := ⟨g, 3, none⟩) (Or.inl HFG.out) _).setCell (p := ⟨g, 4, none⟩) (Or.inl HFG.out) _) (by simp [World.setCell])
        refine ⟨c, by rw [← HM1.out]; rfl, hcC, HOFF.out, ?_, hfin.2.1, hfin.1⟩
        rw [if_pos rfl, if_pos rfl, ← HM1.out, show (c + 1) * Wd = m1 + Wd by rw [HM1.out, Nat.add_mul, Nat.one_mul]]
        refine hsp.mono (fun k hk => hfin.2.2 k ?_)
        unfold grow at hk ⊢
        simpa [World.setCell] using hk
      · have hq0' : ((q : Int) + 1 == 1) = false := by simp; omega
        go_wp2_with fail
        go_ret2
        have hfin := HFIN.out (w4.setCell ⟨g, 2, none⟩ (.slice a4 (ps.length + 1) cap4)) ((Only.refl F w4).setCell (p := ⟨g, 2, none⟩) (Or.inl HFG.out) _) (by simp [World.setCell])
        refine ⟨c, by rw [← HM1.out]; rfl, hcC, HOFF.out, ?_, hfin.2.1, hfin.1⟩
        rw [if_neg hq0, if_neg hq0]
        have hp4 := HP4.out.1
        have el : (ps ++ [(c, q + 1)]).length = ps.length + 1 := by simp
        rw [el] at hp4
        exact hp4.mono hfin.2.2
  · exact absurd HFR.out (fun ⟨c, h1, h2⟩ => by
      obtain ⟨i, h3, h4, h5⟩ := hno c h1
      exact h5 (h2 i h3 h4))
end Go.Proofs.YtcdpnfchmpncjaaGreatDoor

namespace Go.Tr
open Go.RowKit
theorem set_same {own : List Nat} {i o : Nat} (h : own.getD i 0 = o) (hl : i < own.length) : own.set i o = own := by
  apply List.ext_getElem?
  intro j
  rw [List.getElem?_set]
  by_cases e : i = j
  · subst e
    rw [if_pos rfl, if_pos hl, List.getElem?_eq_getElem hl]
    simp [List.getD, List.getElem?_eq_getElem hl] at h
    rw [h]
  · rw [if_neg e]
end Go.Tr
namespace Go.Proofs.YtcdpnfchmpncjaaGreatDoor
open Go.RowKit Go.Tr Go.Shelf
variable {w w' : World} {F G : Nat → Prop} {g s o a en C Wd : Nat} {ps : List (Nat × Nat)} {ws own : List Nat}
set_option maxRecDepth 100000 in
theorem uget_any (d m : Nat) (w : World) (h : SpF 154 w F g s o ps a en) (hS : StF w G s C Wd ws own) (hd : ∀ k, F k → ¬ G k) (hfs : ∀ k, F k → k < w.heap.size) (hgs : ∀ k, G k → k < w.heap.size) (ho : 1 ≤ o) (ho2 : o ≤ 9223372036854775807) (hl : ps.length ≤ 100000) (hm : d + m ≤ C) (hown : ∀ i, d ≤ i → i < d + m → own.getD i 0 = o) :
    Calls Tryz.prog 123 #[.pointer (some ⟨g, 0, none⟩), .agg #[.int .i64 d, .int .i64 m]] w fun e w' => e = .returned (.tuple #[]) ∧ SpF 154 w' (grow F w w') g s o (ps ++ [(d, m)]) a en ∧ StF w' G s C Wd ws own ∧ Only (fun k => F k ∨ G k) w w' := by
  obtain ⟨i0, hi, hz0, hz1, hz2⟩ := info_parts infoPart
  have HH := Lib.hid h
  have HD := Lib.hid hd
  have HGS := Lib.hid hgs
  have HFX : Hid (¬ F w.heap.size) := fun hf => by have := hfs _ hf; omega
  have HOWN := Lib.hid hown
  have HST := Lib.hid hS
  obtain ⟨wb, ob, mm, Fm, hst, -⟩ := id hS
  obtain ⟨hc1, hc2⟩ := hst.cb
  have holen := hst.olen
  have hgl := h.lt
  clear h hS hd hown hst hgs hfs
  obtain ⟨xb, hxb⟩ : ∃ xb, xb = w.heap.size := ⟨_, rfl⟩
  have HXB := Lib.hid hxb
  rw [← hxb] at HFX
  go_enter Tryz.func123, Tryz.ntmps123
  go_wp2_with fail
  rw [← hxb]
  have HBX : Hid ((w.alloc (.cells #[.int .i64 d, .int .i64 m] 199)).heap[xb]? = some (.cells #[.int .i64 d, .int .i64 m] 199 (0, 0))) := by rw [hxb]; exact heap_alloc_new _ _
  go_loopw [7] (fun i wr => ∃ j : Nat, j ≤ m ∧ i = .int .i64 (j : Int) ∧ Hid (StF wr G s C Wd ws own) ∧ Hid (Only G w wr) ∧ Hid (wr.heap[xb]? = some (.cells #[.int .i64 d, .int .i64 m] 199 (0, 0))) ∧ Hid (wr.heap.size = w.heap.size + 1) ∧ Hid (¬ G xb)) (fun i _ => m - (intOf i).toNat)
  case atStart =>
    exact ⟨0, Nat.zero_le _, rfl, HST.out.kept (fun k _ hl => Below.heap_alloc _ _ _ hl), (Only.refl G w).alloc _, HBX, by simp [Hid], fun hx => by have := HGS.out xb hx; omega⟩
  case round =>
    clear HBX hxb
    obtain ⟨j, hj, rfl, HSt, HO, HX, HZ, HGX⟩ := hrel
    have x0 := (cells_of_block HX.out 0).1
    have x1 := (cells_of_block HX.out 1).1
    simp at x0 x1
    have HHr : Hid (SpF 154 wr F g s o ps a en) := HH.out.kept (fun k hf hl => HO.out.block k hl (HD.out k hf))
    obtain ⟨hfg, pv2, hb2, how2, hob2⟩ := id HHr.out
    obtain ⟨pa2, pc2, rfl, -, -, -⟩ := how2.seq
    have d0 := (cells_of_block hb2 0).1
    have d1 := (cells_of_block hb2 1).1
    have d2 := (cells_of_block hb2 2).1
    simp at d0 d1 d2
    by_cases hjm : j < m
    · have hjm' : (j : Int) < (m : Int) := by omega
      clear hb2 how2 hob2 d2
      have hoj : own.getD (d + j) 0 = o := HOWN.out (d + j) (by omega) (by omega)
      have HGV : Hid (∀ W : World, W.heap = wr.heap → Calls Tryz.prog 170 #[.pointer (some ⟨s, 0, none⟩), .int .i64 ((d : Int) + (j : Int)), .int .i64 o] W fun e w' => e = .returned (.int .i64 0) ∧ StF w' G s C Wd ws own ∧ Only G W w' ∧ w'.heap.size = W.heap.size) := fun W e => by
        have := sgive_any (d + j) o W (HSt.out.kept (fun k _ _ => by rw [e])) (by omega) (by rw [hoj]; omega) ho ho2
        rw [Int.natCast_add, set_same hoj (by omega)] at this
        exact this
      clear hoj
      have hwr : IntKind.i64.wrap ((d : Int) + (j : Int)) = (d : Int) + (j : Int) := by rw [IntWalk.i64_in _ (by omega)]
      go_wp2_with fail
      refine wp_region_held_drew (S := fun W => W.cell? ⟨g, 0, none⟩ = some (.pointer (some ⟨s, 0, none⟩)) ∧ W.cell? ⟨g, 1, none⟩ = some (.int .i64 o) ∧ W.cell? ⟨xb, 0, none⟩ = some (.int .i64 d)) (by kernel_rfl) ⟨d0, d1, x0⟩ (fun hH => ?_)
      refine Go.Tr.tz 0 (v := ?_) rfl ?_ ?_
      rotate_left
      · intro W hW
        go_simp
        try with_reducible rfl
      try simp only [Go.Tr.nz]
      refine Go.Tr.tz 1 (v := ?_) rfl ?_ ?_
      rotate_left
      · intro W hW
        go_simp
        try with_reducible rfl
      try simp only [Go.Tr.nz]
      refine Go.Tr.tz 2 (v := ?_) rfl ?_ ?_
      rotate_left
      · intro W hW
        go_simp
        try with_reducible rfl
      try simp only [Go.Tr.nz]
      refine Go.Tr.tz 3 (v := ?_) rfl ?_ ?_
      rotate_left
      · intro W hW
        go_simp
        try with_reducible rfl
      try simp only [Go.Tr.nz]
      refine Go.Tr.tz 4 (v := ?_) rfl ?_ ?_
      rotate_left
      · intro W hW
        go_simp
        try with_reducible rfl
      try simp only [Go.Tr.nz]
      refine Go.Tr.tz 5 (v := ?_) rfl ?_ ?_
      rotate_left
      · intro W hW
        go_simp
        try with_reducible rfl
      try simp only [Go.Tr.nz]
      refine Go.Tr.tz 6 (v := ?_) rfl ?_ ?_
      rotate_left
      · intro W hW
        go_simp
        try with_reducible rfl
      try simp only [Go.Tr.nz]
      refine Go.Tr.tz 7 (v := ?_) rfl ?_ ?_
      rotate_left
      · intro W hW
        go_simp
        try with_reducible rfl
      try simp only [Go.Tr.nz]
      refine Go.Tr.tz 8 (v := ?_) rfl ?_ ?_
      rotate_left
      · intro W hW
        go_simp
        try with_reducible rfl
      try simp only [Go.Tr.nz]
      refine Go.Tr.tz 9 (v := ?_) rfl ?_ ?_
      rotate_left
      · intro W hW
        go_simp
        try with_reducible rfl
      try simp only [Go.Tr.nz]
      refine Go.Tr.tz 10 (v := ?_) rfl ?_ ?_
      rotate_left
      · intro W hW
        go_simp
        try with_reducible rfl
      try simp only [Go.Tr.nz]
      refine Go.Tr.tz 11 (v := ?_) rfl ?_ ?_
      rotate_left
      · intro W hW
        go_simp
        try with_reducible rfl
      try simp only [Go.Tr.nz]
      refine wpAnyH_ready (rs := [12]) (by kernel_rfl) (by simp) (readyH rfl (fun K hK => ?_) AllReadyH.nil)
      rw [if_pos (by rfl)]
      go_simp
      refine (HGV.out wr.drew rfl).mono ?_
      rintro e w2 ⟨rfl, hst2, hon2, hsz2⟩
      have HS2 := Lib.hid hst2
      have HO2 : Hid (Only G w w2) := HO.out.drew.trans hon2 (fun k hk => Or.inl hk)
      have hkx : w2.heap[xb]? = wr.heap[xb]? := hon2.block xb (Array.getElem?_eq_some_iff.1 HX.out).1 HGX.out
      have HX2 := Lib.hid (hkx.trans HX.out)
      have HZ2 : Hid (w2.heap.size = w.heap.size + 1) := hsz2.trans HZ.out
      have hkg : w2.heap[g]? = wr.heap[g]? := hon2.block g HHr.out.lt (HD.out g HH.out.1)
      have e0 := (World.cell?_of_block (a := ⟨g, 0, none⟩) hkg).trans d0
      have e1 := (World.cell?_of_block (a := ⟨g, 1, none⟩) hkg).trans d1
      have e2 := (World.cell?_of_block (a := ⟨xb, 0, none⟩) hkx).trans x0
      clear hst2 hon2 hsz2 hkx hkg
      refine hK.out _ _ ⟨e0, e1, e2⟩ (fun hH => ?_)
      clear hK K
      try simp only [Go.Tr.nz]
      refine wpAnyH_done (by kernel_rfl) ?_ _
      go_wp2_with fail
      go_roundw
      case rel => exact ⟨j + 1, by omega, by go_num, HS2, HO2, HX2, HZ2, HGX⟩
      case measure => simp [intOf]; omega
    · have hjm' : ¬ (j : Int) < (m : Int) := by omega
      obtain ⟨lp, hlp⟩ : ∃ lp, lp = ps.length := ⟨_, rfl⟩
      rw [← hlp] at d2 hl how2 hob2 hb2
      have HLP := Lib.hid hlp
      have HW2 := Lib.hid how2
      have HB2 := Lib.hid hb2
      have HOB2 := Lib.hid hob2
      have HFG := Lib.hid hfg
      clear how2 hb2 hob2 hlp hfg d0 d1
      go_wp2_with fail
      refine wp_region_lastH (S := fun W => W.cell? ⟨g, 2, none⟩ = some (.slice pa2 lp pc2) ∧ W.cell? ⟨xb, 0, none⟩ = some (.int .i64 d) ∧ W.cell? ⟨xb, 1, none⟩ = some (.int .i64 m)) 10 (by kernel_rfl) (by kernel_rfl) ⟨d2, x0, x1⟩ (fun hH => ?_)
      simp only [lastOps, nop, List.modify_toArray, List.modify_succ_cons, List.modify_zero_cons]
      refine Go.Tr.tz 0 (v := ?_) rfl ?_ ?_
      rotate_left
      · intro W hW
        go_simp
        try with_reducible rfl
      try simp only [Go.Tr.nz]
      refine Go.Tr.tz 1 (v := ?_) rfl ?_ ?_
      rotate_left
      · intro W hW
        go_simp
        try with_reducible rfl
      try simp only [Go.Tr.nz]
      refine Go.Tr.tz 2 (v := ?_) rfl ?_ ?_
      rotate_left
      · intro W hW
        go_simp
        try with_reducible rfl
      try simp only [Go.Tr.nz]
      refine Go.Tr.tz 3 (v := ?_) rfl ?_ ?_
      rotate_left
      · intro W hW
        go_simp
        try with_reducible rfl
      try simp only [Go.Tr.nz]
      refine Go.Tr.tz 4 (v := ?_) rfl ?_ ?_
      rotate_left
      · intro W hW
        go_simp
        try with_reducible rfl
      try simp only [Go.Tr.nz]
      refine Go.Tr.tz 5 (v := ?_) rfl ?_ ?_
      rotate_left
      · intro W hW
        go_simp
        try with_reducible rfl
      try simp only [Go.Tr.nz]
      refine wpAnyH_ready (rs := [6]) (by kernel_rfl) (by simp) (readyH rfl (fun K hK => ?_) AllReadyH.nil)
      rw [if_pos (by rfl)]
      go_simp
      have hgl2 : g < wr.heap.size := (Array.getElem?_eq_some_iff.1 HB2.out).1
      have hxl2 : xb < wr.heap.size := (Array.getElem?_eq_some_iff.1 HX.out).1
      refine hK.out _ _ ⟨(World.cell?_alloc_lt _ _ _ hgl2).trans hH.1, (World.cell?_alloc_lt _ _ _ hxl2).trans hH.2.1, (World.cell?_alloc_lt _ _ _ hxl2).trans hH.2.2⟩ (fun hH => ?_)
      clear hK K
      try simp only [Go.Tr.nz]
      refine wpAnyH_ready (rs := [7]) (by kernel_rfl) (by simp) (readyH rfl (fun K hK => ?_) AllReadyH.nil)
      rw [if_pos (by rfl)]
      refine wpO_appendO _ (.tmp 28) (.tmp 30) 152 rfl 199 i0 _ 2 16 Tryz.underlying152 hi hz0 hz1 hz2 rfl (by decide) (.slice pa2 lp pc2) lp (pcells ps) rfl (HW2.out.kept ?hkept) ⟨wr.heap.size, 0, none⟩ 1 1 [.int .i64 (d : Int), .int .i64 (m : Int)] rfl rfl ?hn ?h1 ?h63 ?hby ?_
      case hkept => exact fun k hk => Below.heap_alloc _ _ _ (HW2.out.lt k hk)
      case hn =>
        intro j u hj
        rcases j with _ | _ | j
        · simp at hj; subst hj; simp [Addr.add]
        · simp at hj; subst hj; simp [Addr.add]
        · simp at hj
      case h1 => intro u hu; simp at hu; rcases hu with rfl | rfl <;> rfl
      case h63 => unfold maxLen; omega
      case hby => omega
      intro v4 w4 r1 r2 r3
      have hlen : lp + 1 = (ps ++ [(d, m)]).length := by rw [List.length_append, ← HLP.out]; rfl
      have hcells : pcells ps ++ [.int .i64 (d : Int), .int .i64 (m : Int)] = pcells (ps ++ [(d, m)]) := by rw [pcells_append]; rfl
      rw [hlen, hcells] at r1
      have hg4 : w4.heap[g]? = wr.heap[g]? := (r2.block g (by simp; omega) (fun e => (HOB2.out g e.symm).2 rfl)).trans (Below.heap_alloc _ _ _ hgl2)
      have HO4 : Hid (Only F wr w4) := ((Only.refl F wr).drew.alloc _).grown r2 (fun k hk => Or.inl (HOB2.out k hk).1)
      have HN4 : Hid (∀ k, v4.ownBlock = some k → grow F wr w4 k ∧ k ≠ g) := fun k hk => by
        rcases r3 k hk with h' | h'
        · exact ⟨Or.inl (HOB2.out k h').1, (HOB2.out k h').2⟩
        · have h1 := h'.1
          try simp at h1
          exact ⟨Or.inr ⟨by omega, h'.2⟩, by omega⟩
      have HP4 := Lib.hid (SpF.put (T := 154) HFG.out HO4.out (hg4.trans HB2.out) r1 HN4.out)
      obtain ⟨a4, cap4, rfl, -, -, -⟩ := r1.seq
      have HB4 := Lib.hid (hg4.trans HB2.out)
      have b2 := cells_of_block HB4.out 2
      simp at b2
      obtain ⟨b2, f2⟩ := b2
      have hx4 : w4.heap[xb]? = wr.heap[xb]? := HO4.out.block xb hxl2 (fun hf => by have := HH.out.lt; have := HZ.out; exact HFX.out hf)
      have y0 := (World.cell?_of_block (a := ⟨xb, 0, none⟩) hx4).trans x0
      have y1 := (World.cell?_of_block (a := ⟨xb, 1, none⟩) hx4).trans x1
      clear r1 r2 r3 hcells hg4 hx4
      refine hK.out _ _ ⟨b2, y0, y1⟩ (fun hH => ?_)
      clear hK K
      try simp only [Go.Tr.nz]
      refine Go.Tr.tz 8 (v := ?_) rfl ?_ ?_
      rotate_left
      · intro W hW
        go_simp
        try with_reducible rfl
      try simp only [Go.Tr.nz]
      refine Go.Tr.tz 9 (v := ?_) rfl ?_ ?_
      rotate_left
      · intro W hW
        go_simp
        try with_reducible rfl
      try simp only [Go.Tr.nz]
      refine Go.Tr.tz 10 (v := ?_) rfl ?_ ?_
      rotate_left
      · intro W hW
        go_simp
        try with_reducible rfl
      try simp only [Go.Tr.nz]
      refine lastH_done (by kernel_rfl) rfl (by rfl) ?_
      go_simp
      go_wp2
      go_end0
      have el : (ps ++ [(d, m)]).length = ps.length + 1 := by simp
      have hp4 := HP4.out.1
      have ho4 : Only F w4 (w4.setCell ⟨g, 2, none⟩ (.slice a4 (ps ++ [(d, m)]).length cap4)) := (Only.refl F w4).setCell (p := ⟨g, 2, none⟩) (Or.inl HFG.out) _
      rw [el] at hp4 ho4
      have hz4 : (w4.setCell ⟨g, 2, none⟩ (.slice a4 (ps.length + 1) cap4)).heap.size = w4.heap.size := by simp [World.setCell]
      have h5 : Only F wr (w4.setCell ⟨g, 2, none⟩ (.slice a4 (ps.length + 1) cap4)) := HO4.out.grow (ho4.mono (fun k hk => Or.inl hk))
      refine ⟨rfl, hp4.mono (fun k hk => ?_), HSt.out.kept (fun k hk hl => h5.block k hl (fun hf => HD.out k hf hk)), (HO.out.mono (fun k hk => Or.inr hk)).trans (h5.mono (fun k hk => Or.inl hk)) (fun k hk => Or.inl hk)⟩
      have := HZ.out
      rcases hk with hk | hk
      · exact Or.inl hk
      · exact Or.inr ⟨by omega, hk.2⟩
end Go.Proofs.YtcdpnfchmpncjaaGreatDoor

namespace Go.Proofs.YtcdpnfchmpncjaaGreatDoor
open Go.RowKit Go.Tr Go.Shelf
variable {w w' : World} {F G H : Nat → Prop} {g s o a en C Wd : Nat} {ps : List (Nat × Nat)} {ws own : List Nat}
theorem join_end {w wr W : World} {g2 a' e' : Nat} {P : List (Nat × Nat)} (hp : SpF 154 W (grow F w wr) g s o P a' e') (hst : StF wr G s C Wd ws own) (ho : Only (fun k => F k ∨ G k) w wr) (hw : Only (grow F w wr) wr W) (hz : W.heap.size = wr.heap.size) (hd : ∀ k, F k → ¬ G k) (hd2 : ∀ k, H k → ¬ F k ∧ ¬ G k) (hgs : ∀ k, G k → k < w.heap.size) (hg2 : H g2) (hl2 : g2 < w.heap.size) :
    SpF 154 (((W.setCell ⟨g2, 2, none⟩ (.slice none 0 0)).setCell ⟨g2, 3, none⟩ (.int .i64 0)).setCell ⟨g2, 4, none⟩ (.int .i64 0)) (grow F w (((W.setCell ⟨g2, 2, none⟩ (.slice none 0 0)).setCell ⟨g2, 3, none⟩ (.int .i64 0)).setCell ⟨g2, 4, none⟩ (.int .i64 0))) g s o P a' e' ∧ StF (((W.setCell ⟨g2, 2, none⟩ (.slice none 0 0)).setCell ⟨g2, 3, none⟩ (.int .i64 0)).setCell ⟨g2, 4, none⟩ (.int .i64 0)) G s C Wd ws own ∧ Only (fun k => F k ∨ G k ∨ H k) w (((W.setCell ⟨g2, 2, none⟩ (.slice none 0 0)).setCell ⟨g2, 3, none⟩ (.int .i64 0)).setCell ⟨g2, 4, none⟩ (.int .i64 0)) := by
  obtain ⟨W3, hW3⟩ : ∃ W3, W3 = (((W.setCell ⟨g2, 2, none⟩ (.slice none 0 0)).setCell ⟨g2, 3, none⟩ (.int .i64 0)).setCell ⟨g2, 4, none⟩ (.int .i64 0)) := ⟨_, rfl⟩
  rw [← hW3]
  have h3 : Only H W W3 := by
    rw [hW3]
    exact (((Only.refl H W).setCell (p := ⟨g2, 2, none⟩) (Or.inl hg2) _).setCell (p := ⟨g2, 3, none⟩) (Or.inl hg2) _).setCell (p := ⟨g2, 4, none⟩) (Or.inl hg2) _
  have hz3 : W3.heap.size = wr.heap.size := by rw [hW3, ← hz]; simp [World.setCell]
  have hk2 : ∀ k, k ≠ g2 → W3.heap[k]? = W.heap[k]? := fun k hk => by rw [hW3, Below.heap_setCell _ _ _ _ hk, Below.heap_setCell _ _ _ _ hk, Below.heap_setCell _ _ _ _ hk]
  refine ⟨(hp.kept (fun k hk _ => hk2 k (fun e => ?_))).mono (fun k hk => ?_), hst.kept (fun k hk hl => (hk2 k (fun e => (hd2 g2 hg2).2 (e ▸ hk))).trans (hw.block k hl (fun hf => ?_))), ?_⟩
  · subst e
    rcases hk with hk | hk
    · exact (hd2 k hg2).1 hk
    · omega
  · rcases hk with hk | hk
    · exact Or.inl hk
    · exact Or.inr ⟨hk.1, by omega⟩
  · rcases hf with hf | hf
    · exact hd k hf hk
    · have := hgs k hk; omega
  · refine ((ho.mono (fun k hk => hk.elim Or.inl (fun h => Or.inr (Or.inl h)))).trans (hw.mono (G := fun k => (F k ∨ G k ∨ H k) ∨ w.heap.size ≤ k) (fun k hk => ?_)) (fun k hk => hk)).trans (h3.mono (fun k hk => Or.inr (Or.inr hk))) (fun k hk => Or.inl hk)
    rcases hk with hk | hk
    · exact Or.inl (Or.inl hk)
    · exact Or.inr hk.1
theorem join_drew {w X : World} {a' e' : Nat} {P : List (Nat × Nat)} {Z : Nat → Prop} (h : SpF 154 X (grow F w X) g s o P a' e' ∧ StF X G s C Wd ws own ∧ Only Z w X) : SpF 154 X.drew (grow F w X.drew) g s o P a' e' ∧ StF X.drew G s C Wd ws own ∧ Only Z w X.drew :=
  ⟨h.1.kept (fun _ _ _ => rfl), h.2.1.kept (fun _ _ _ => rfl), h.2.2.drew⟩
set_option maxRecDepth 100000 in
theorem ujoin_any {g2 a2 en2 : Nat} {ps2 : List (Nat × Nat)} (w : World) (h : SpF 154 w F g s o ps a en) (hS : StF w G s C Wd ws own) (h2 : SpF 154 w H g2 s o ps2 a2 en2) (hd : ∀ k, F k → ¬ G k) (hd2 : ∀ k, H k → ¬ F k ∧ ¬ G k) (hfs : ∀ k, F k → k < w.heap.size) (hgs : ∀ k, G k → k < w.heap.size) (hhs : ∀ k, H k → k < w.heap.size)
    (ho : 1 ≤ o) (ho2 : o ≤ 9223372036854775807) (hl : ps.length + ps2.length ≤ 100000) (hown : ∀ p ∈ ps2, p.1 + p.2 ≤ C ∧ ∀ i, p.1 ≤ i → i < p.1 + p.2 → own.getD i 0 = o) :
    Calls Tryz.prog 72 #[.pointer (some ⟨g, 0, none⟩), .pointer (some ⟨g2, 0, none⟩)] w fun e w' => e = .returned (.int .i64 0) ∧ SpF 154 w' (grow F w w') g s o (ps ++ ps2) (if 0 < en2 then a2 else a) (if 0 < en2 then en2 else en) ∧ StF w' G s C Wd ws own ∧ Only (fun k => F k ∨ G k ∨ H k) w w' := by
  have HH := Lib.hid h
  have HH2 := Lib.hid h2
  have HD := Lib.hid hd
  have HD2 := Lib.hid hd2
  have HGS := Lib.hid hgs
  have HFS := Lib.hid hfs
  have HOWN := Lib.hid hown
  have HST := Lib.hid hS
  have hne : g2 ≠ g := fun e => (hd2 g2 h2.1).1 (e ▸ h.1)
  have HOT := Lib.hid (uother_any w h h2 hne)
  obtain ⟨-, qv, hq2, how, hoq⟩ := id h2
  obtain ⟨qa, qc, rfl, hsq, -, -⟩ := how.seq
  have HSQ := Lib.hid hsq
  have HOQ := Lib.hid hoq
  obtain ⟨n2, hn2⟩ : ∃ n2, n2 = ps2.length := ⟨_, rfl⟩
  rw [← hn2] at hl
  have d2 := (cells_of_block hq2 2).1
  simp at d2
  rw [← hn2] at d2
  have HN2 := Lib.hid hn2
  have hln : n2 ≤ 100000 := by omega
  clear h hS h2 hd hd2 hown hgs hfs hhs hn2 hq2 how hoq hsq
  go_enter Tryz.func72, Tryz.ntmps72
  go_wp2_with fail
  refine HOT.out.mono ?_
  rintro e w1 ⟨rfl, q1, rfl⟩
  go_wp2_with fail
  clear d2
  go_loopw [19] (fun i wr => ∃ k : Nat, k ≤ n2 ∧ i = .int .i64 (k : Int) ∧ Hid (SpF 154 wr (grow F w wr) g s o (ps ++ ps2.take k) a en) ∧ Hid (StF wr G s C Wd ws own) ∧ Hid (Only (fun k => F k ∨ G k) w wr)) (fun i _ => n2 - (intOf i).toNat)
  case atStart =>
    exact ⟨0, Nat.zero_le _, rfl, by show SpF _ _ _ _ _ _ _ _ _; rw [List.take_zero, List.append_nil]; exact (HH.out.kept (w' := w.drewN q1) (fun _ _ _ => rfl)).mono (fun k hk => Or.inl hk), HST.out.kept (fun _ _ _ => rfl), (Only.refl _ w).drawn ⟨q1, rfl⟩⟩
  case round =>
    obtain ⟨k, hk, rfl, HSp, HSt, HO⟩ := hrel
    have hsz := HO.out.size
    by_cases hlt : k < n2
    · have hlt' : (k : Int) < (n2 : Int) := by omega
      obtain ⟨b, off, d, m, rfl, hc1, hc2, HP⟩ := (HSQ.out.only HO.out (fun _ b o e hf => by
        have hb := (HOQ.out b (by rw [e]; rfl)).1
        rcases hf with hf | hf
        · exact (HD2.out b hb).1 hf
        · exact (HD2.out b hb).2 hf)).part (k := k) (by rw [← HN2.out]; exact hlt)
      have hpo := HOWN.out _ (List.mem_of_getElem? HP.out)
      have hlk : (ps ++ ps2.take k).length ≤ 100000 := by rw [List.length_append, List.length_take]; omega
      have HGET := Lib.hid (uget_any d m (wr.alloc (.cells #[.int .i64 d, .int .i64 m] 199)) (HSp.out.kept (fun k _ hl => Below.heap_alloc _ _ _ hl)) (HSt.out.kept (fun k _ hl => Below.heap_alloc _ _ _ hl)) (fun k hk hg => by
          rcases hk with hk | hk
          · exact HD.out k hk hg
          · have := HGS.out k hg; omega) (fun k hk => by
          simp
          rcases hk with hk | hk
          · have := HFS.out k hk; omega
          · omega) (fun k hk => by have := HGS.out k hk; simp; omega) ho ho2 hlk hpo.1 hpo.2)
      clear hpo hlk
      go_wp2_with fail
      refine HGET.out.mono ?_
      rintro e w2 ⟨rfl, hs2, hst2, ho2'⟩
      have HO2 : Hid (Only (fun k => F k ∨ G k) w w2) := (HO.out.alloc _).trans ho2' (fun k hk => by
        rcases hk with (hk | hk) | hk
        · exact Or.inl (Or.inl hk)
        · exact Or.inr hk.1
        · exact Or.inl (Or.inr hk))
      have HS2 : Hid (SpF 154 w2 (grow F w w2) g s o (ps ++ ps2.take (k + 1)) a en) := by
        rw [take_next HP.out, ← List.append_assoc]
        have hz2 := ho2'.size
        simp at hz2
        refine hs2.mono (fun j hj => ?_)
        rcases hj with (hj | hj) | hj
        · exact Or.inl hj
        · exact Or.inr ⟨hj.1, by omega⟩
        · have := hj.1
          simp at this
          exact Or.inr ⟨by omega, hj.2⟩
      have HST2 := Lib.hid hst2
      clear hs2 hst2 ho2'
      go_wp2_with fail
      go_roundw
      case rel => exact ⟨k + 1, by omega, by go_num, HS2, HST2, HO2⟩
      case measure => simp [intOf]; omega
    · have hlt' : ¬ (k : Int) < (n2 : Int) := by omega
      have HQ : Hid (SpF 154 wr H g2 s o ps2 a2 en2) := HH2.out.only HO.out (fun k hk hf => by
        rcases hf with hf | hf
        · exact (HD2.out k hk).1 hf
        · exact (HD2.out k hk).2 hf)
      have HSp2 : Hid (SpF 154 wr (grow F w wr) g s o (ps ++ ps2) a en) := by
        have := HSp.out
        rw [List.take_of_length_le (by rw [← HN2.out]; omega)] at this; exact this
      obtain ⟨-, qv2, hq2, -, -⟩ := id HQ.out
      obtain ⟨-, pv2, hp2, -, -⟩ := id HSp2.out
      have q3 := cells_of_block hq2 3
      have q4 := cells_of_block hq2 4
      have q2 := cells_of_block hq2 2
      have p3 := cells_of_block hp2 3
      have p4 := cells_of_block hp2 4
      simp at q2 q3 q4 p3 p4
      obtain ⟨q2, fq2⟩ := q2
      obtain ⟨q3, fq3⟩ := q3
      obtain ⟨q4, fq4⟩ := q4
      obtain ⟨p3, fp3⟩ := p3
      obtain ⟨p4, fp4⟩ := p4
      clear hq2 hp2
      by_cases he : 0 < en2
      · have he' : (0 : Int) < (en2 : Int) := by omega
        go_wp2_with fail
        go_region
        rename_i K hK
        refine hK _ _ ?_
        go_wp2_with fail
        go_ret
        have hend := join_end (W := (wr.setCell ⟨g, 3, none⟩ (.int .i64 a2)).setCell ⟨g, 4, none⟩ (.int .i64 en2)) (HSp2.out.at2 a2 en2) HSt.out HO.out (((Only.refl (grow F w wr) wr).setCell (p := ⟨g, 3, none⟩) (Or.inl (Or.inl HH.out.1)) _).setCell (p := ⟨g, 4, none⟩) (Or.inl (Or.inl HH.out.1)) _) (by simp [World.setCell]) HD.out HD2.out HGS.out HH2.out.1 HH2.out.lt
        exact ⟨rfl, join_drew hend⟩
      · have he' : ¬ (0 : Int) < (en2 : Int) := by omega
        go_wp2_with fail
        go_ret
        have hend := join_end (W := wr) HSp2.out HSt.out HO.out (Only.refl _ wr) rfl HD.out HD2.out HGS.out HH2.out.1 HH2.out.lt
        exact ⟨rfl, hend⟩
end Go.Proofs.YtcdpnfchmpncjaaGreatDoor

namespace Go.Proofs.YtcdpnfchmpncjaaGreatDoor
open Go.RowKit Go.Tr Go.Shelf
variable {w w' : World} {F G H : Nat → Prop} {g s o a en C Wd : Nat} {ps : List (Nat × Nat)} {ws own : List Nat}
theorem drop_end {w wr : World} {P : List (Nat × Nat)} {x y : Nat} (hp : SpF 154 wr (grow F w wr) g s o P a en) (hst : StF wr G s C Wd ws own) (ho : Only (fun k => F k ∨ G k) w wr) (hF : F g) (hd : ∀ k, F k → ¬ G k) :
    SpF 154 ((wr.setCell ⟨g, 3, none⟩ (.int .i64 (x : Nat))).setCell ⟨g, 4, none⟩ (.int .i64 (y : Nat))) (grow F w ((wr.setCell ⟨g, 3, none⟩ (.int .i64 (x : Nat))).setCell ⟨g, 4, none⟩ (.int .i64 (y : Nat)))) g s o P x y ∧ StF ((wr.setCell ⟨g, 3, none⟩ (.int .i64 (x : Nat))).setCell ⟨g, 4, none⟩ (.int .i64 (y : Nat))) G s C Wd ws own ∧ Only (fun k => F k ∨ G k) w ((wr.setCell ⟨g, 3, none⟩ (.int .i64 (x : Nat))).setCell ⟨g, 4, none⟩ (.int .i64 (y : Nat))) := by
  refine ⟨(hp.at2 x y).mono (fun k hk => ?_), hst.kept (fun k hk _ => ?_), (ho.setCell (p := ⟨g, 3, none⟩) (Or.inl (Or.inl hF)) _).setCell (p := ⟨g, 4, none⟩) (Or.inl (Or.inl hF)) _⟩
  · unfold grow at hk ⊢
    simpa [World.setCell] using hk
  · have hne : k ≠ g := fun e => hd g hF (e ▸ hk)
    rw [Below.heap_setCell _ _ _ _ hne, Below.heap_setCell _ _ _ _ hne]
set_option maxRecDepth 100000 in
theorem udrop_any (c m : Nat) (w : World) (h : SpF 154 w F g s o ps a en) (hS : StF w G s C Wd ws own) (hd : ∀ k, F k → ¬ G k) (hfs : ∀ k, F k → k < w.heap.size) (hgs : ∀ k, G k → k < w.heap.size) (hl : ps.length ≤ 100000) (hf : findPart ps c = some (c, m)) (hm : c + m ≤ C) (hown : ∀ i, c ≤ i → i < c + m → own.getD i 0 ≠ 0) :
    Calls Tryz.prog 70 #[.pointer (some ⟨g, 0, none⟩), .int .i64 c] w fun e w' => e = .returned (.int .i64 0) ∧ SpF 154 w' (grow F w w') g s o (ps.erase (c, m)) (if m = 1 ∧ en = (c + 1) * Wd then 0 else a) (if m = 1 ∧ en = (c + 1) * Wd then 0 else en) ∧ StF w' G s C Wd ws (putAt own c (List.replicate m 0)) ∧ Only (fun k => F k ∨ G k) w w' := by
  have HH := Lib.hid h
  have HD := Lib.hid hd
  have HGS := Lib.hid hgs
  have HFS := Lib.hid hfs
  have HOWN := Lib.hid hown
  have HST := Lib.hid hS
  have HFD := Lib.hid (ufind_any c w h (by omega))
  rw [hf] at HFD
  obtain ⟨wb, ob, mm, Fm, hst, -⟩ := id hS
  obtain ⟨hc1, hc2⟩ := hst.cb
  obtain ⟨hw1, hw2⟩ := hst.wd
  have holen := hst.olen
  obtain ⟨a', ha'⟩ : ∃ a', a' = (if m = 1 ∧ en = (c + 1) * Wd then 0 else a) := ⟨_, rfl⟩
  obtain ⟨en', he'⟩ : ∃ en', en' = (if m = 1 ∧ en = (c + 1) * Wd then 0 else en) := ⟨_, rfl⟩
  obtain ⟨ow, how⟩ : ∃ ow, ow = putAt own c (List.replicate m 0) := ⟨_, rfl⟩
  rw [← ha', ← he', ← how]
  have HA' := Lib.hid ha'
  have HE' := Lib.hid he'
  have HOW := Lib.hid how
  clear h hS hd hown hgs hfs hst hf ha' he' how
  go_enter Tryz.func70, Tryz.ntmps70
  go_wp2_with fail
  refine HFD.out.mono ?_
  rintro e w1 ⟨rfl, hb1⟩
  unfold partV
  have HB1 := Lib.hid hb1
  clear hb1
  go_wp2_with fail
  obtain ⟨xb, hxb⟩ : ∃ xb, xb = w1.heap.size := ⟨_, rfl⟩
  have HBX : Hid ((w1.alloc (.cells #[.int .i64 c, .int .i64 m] 199)).heap[xb]? = some (.cells #[.int .i64 c, .int .i64 m] 199 (0, 0))) := by rw [hxb]; exact heap_alloc_new _ _
  have HBW : Hid (Below w.heap.size w (w1.alloc (.cells #[.int .i64 c, .int .i64 m] 199))) := HB1.out.alloc HB1.out.size _
  have HXG : Hid (w.heap.size ≤ xb) := by rw [hxb]; exact HB1.out.size
  rw [← hxb]
  generalize w1.alloc (.cells #[.int .i64 c, .int .i64 m] 199) = w2 at *
  clear hxb HB1 HFD
  refine (ucut_any c m w2 (HH.out.kept (fun k _ hl => HBW.out.block k hl)) (by omega)).mono ?_
  rintro e w3 ⟨rfl, hsp, hon⟩
  have HSP : Hid (SpF 154 w3 (grow F w w3) g s o (ps.erase (c, m)) a en) := by
    have h1 := HBW.out.size
    exact hsp.mono (fun k hk => hk.imp id (fun h => ⟨by omega, h.2⟩))
  have HO3 : Hid (Only (fun k => F k ∨ G k) w w3) := ((Only.of_below HBW.out (fun k => F k ∨ G k)).trans (hon.mono (fun k hk => Or.inl hk)) (fun k hk => Or.inl hk))
  have HS3 : Hid (StF w3 G s C Wd ws (putAt own c (List.replicate 0 0))) := HST.out.kept (fun k hk hl => (hon.block k (Nat.lt_of_lt_of_le hl HBW.out.size) (fun hf => HD.out k hf hk)).trans (HBW.out.block k hl))
  have HX3 : Hid (w3.heap[xb]? = some (.cells #[.int .i64 c, .int .i64 m] 199 (0, 0))) := (hon.block xb (Array.getElem?_eq_some_iff.1 HBX.out).1 (fun hf => by have := HFS.out xb hf; have := HXG.out; omega)).trans HBX.out
  have HNX : Hid (¬ F xb ∧ ¬ G xb) := ⟨fun hf => by have := HFS.out xb hf; have := HXG.out; omega, fun hf => by have := HGS.out xb hf; have := HXG.out; omega⟩
  have x1 := (cells_of_block HX3.out 1).1
  simp at x1
  clear hsp hon HBW HBX
  go_wp2_with fail
  clear x1
  go_loopw [23] (fun i wr => ∃ j : Nat, j ≤ m ∧ i = .int .i64 (j : Int) ∧ Hid (SpF 154 wr (grow F w wr) g s o (ps.erase (c, m)) a en) ∧ Hid (StF wr G s C Wd ws (putAt own c (List.replicate j 0))) ∧ Hid (Only (fun k => F k ∨ G k) w wr) ∧ Hid (wr.heap[xb]? = some (.cells #[.int .i64 c, .int .i64 m] 199 (0, 0)))) (fun i _ => m - (intOf i).toNat)
  case atStart => exact ⟨0, Nat.zero_le _, rfl, HSP, HS3, HO3, HX3⟩
  case round =>
    clear HSP HS3 HO3 HX3
    obtain ⟨j, hj, rfl, HSp, HSt, HO, HX⟩ := hrel
    have x0 := (cells_of_block HX.out 0).1
    have x1 := (cells_of_block HX.out 1).1
    simp at x0 x1
    obtain ⟨-, pv2, hb2, -, -⟩ := id HSp.out
    have d0 := (cells_of_block hb2 0).1
    have d4 := (cells_of_block hb2 4).1
    have f4 := (cells_of_block hb2 4).2
    have f3 := (cells_of_block hb2 3).2
    have d3 := (cells_of_block hb2 3).1
    simp at d0 d3 d4
    clear hb2
    by_cases hjm : j < m
    · have hjm' : (j : Int) < (m : Int) := by omega
      have hoj : (putAt own c (List.replicate j 0)).getD (c + j) 0 ≠ 0 := by
        rw [putAt_get, if_neg (by simp)]
        exact HOWN.out (c + j) (by omega) (by omega)
      have HGV : Hid (∀ W : World, W.heap = wr.heap → Calls Tryz.prog 119 #[.pointer (some ⟨s, 0, none⟩), .int .i64 ((c : Int) + (j : Int))] W fun e w' => e = .returned (.int .i64 0) ∧ StF w' G s C Wd ws (putAt own c (List.replicate (j + 1) 0)) ∧ Only G W w' ∧ w'.heap.size = W.heap.size) := fun W e => by
        have := srelease_any (c + j) W (HSt.out.kept (fun k _ _ => by rw [e])) (by omega) hoj
        rw [List.replicate_succ', putAt_snoc, List.length_replicate]
        rw [Int.natCast_add] at this
        exact this
      have hwr : IntKind.i64.wrap ((c : Int) + (j : Int)) = (c : Int) + (j : Int) := by rw [IntWalk.i64_in _ (by omega)]
      clear hoj
      go_wp2_with fail
      refine wp_region_held_drew (S := fun W => W.cell? ⟨g, 0, none⟩ = some (.pointer (some ⟨s, 0, none⟩)) ∧ W.cell? ⟨xb, 0, none⟩ = some (.int .i64 c)) (by kernel_rfl) ⟨d0, x0⟩ (fun hH => ?_)
      refine Go.Tr.tz 0 (v := ?_) rfl ?_ ?_
      rotate_left
      · intro W hW
        go_simp
        try with_reducible rfl
      try simp only [Go.Tr.nz]
      refine Go.Tr.tz 1 (v := ?_) rfl ?_ ?_
      rotate_left
      · intro W hW
        go_simp
        try with_reducible rfl
      try simp only [Go.Tr.nz]
      refine Go.Tr.tz 2 (v := ?_) rfl ?_ ?_
      rotate_left
      · intro W hW
        go_simp
        try with_reducible rfl
      try simp only [Go.Tr.nz]
      refine Go.Tr.tz 3 (v := ?_) rfl ?_ ?_
      rotate_left
      · intro W hW
        go_simp
        try with_reducible rfl
      try simp only [Go.Tr.nz]
      refine Go.Tr.tz 4 (v := ?_) rfl ?_ ?_
      rotate_left
      · intro W hW
        go_simp
        try with_reducible rfl
      try simp only [Go.Tr.nz]
      refine Go.Tr.tz 5 (v := ?_) rfl ?_ ?_
      rotate_left
      · intro W hW
        go_simp
        try with_reducible rfl
      try simp only [Go.Tr.nz]
      refine Go.Tr.tz 6 (v := ?_) rfl ?_ ?_
      rotate_left
      · intro W hW
        go_simp
        try with_reducible rfl
      try simp only [Go.Tr.nz]
      refine Go.Tr.tz 7 (v := ?_) rfl ?_ ?_
      rotate_left
      · intro W hW
        go_simp
        try with_reducible rfl
      try simp only [Go.Tr.nz]
      refine wpAnyH_ready (rs := [8]) (by kernel_rfl) (by simp) (readyH rfl (fun K hK => ?_) AllReadyH.nil)
      rw [if_pos (by rfl)]
      go_simp
      refine (HGV.out wr.drew rfl).mono ?_
      rintro e w2' ⟨rfl, hst2, hon2, hsz2⟩
      have HS2 := Lib.hid hst2
      have HO2 : Hid (Only (fun k => F k ∨ G k) w w2') := HO.out.drew.trans (hon2.mono (fun k hk => Or.inr hk)) (fun k hk => Or.inl hk)
      have hkx : w2'.heap[xb]? = wr.heap[xb]? := hon2.block xb (Array.getElem?_eq_some_iff.1 HX.out).1 HNX.out.2
      have HX2 := Lib.hid (hkx.trans HX.out)
      have HSp2 : Hid (SpF 154 w2' (grow F w w2') g s o (ps.erase (c, m)) a en) := by
        refine (HSp.out.kept (fun k hk hl => hon2.block k hl (fun hg => ?_))).mono (fun k hk => hk.imp id (fun h => ⟨h.1, by rw [hsz2]; exact h.2⟩))
        rcases hk with hk | hk
        · exact HD.out k hk hg
        · have := HGS.out k hg; omega
      have hkg : w2'.heap[g]? = wr.heap[g]? := hon2.block g HSp.out.lt (HD.out g HH.out.1)
      have e0 := (World.cell?_of_block (a := ⟨g, 0, none⟩) hkg).trans d0
      have e2 := (World.cell?_of_block (a := ⟨xb, 0, none⟩) hkx).trans x0
      clear hst2 hon2 hsz2 hkx hkg
      refine hK.out _ _ ⟨e0, e2⟩ (fun hH => ?_)
      clear hK K
      try simp only [Go.Tr.nz]
      refine wpAnyH_done (by kernel_rfl) ?_ _
      go_wp2_with fail
      go_roundw
      case rel => exact ⟨j + 1, by omega, by go_num, HSp2, HS2, HO2, HX2⟩
      case measure => simp [intOf]; omega
    · have hjm' : ¬ (j : Int) < (m : Int) := by omega
      have hjm2 : j = m := by omega
      have HSw : Hid (StF wr G s C Wd ws ow) := by rw [HOW.out, ← hjm2]; exact HSt.out
      have HWD : Hid (∀ W : World, W.heap = wr.heap → Calls Tryz.prog 68 #[.pointer (some ⟨s, 0, none⟩)] W fun e w' => e = .returned (.int .i64 Wd) ∧ W = w') := fun W e => swords_any W (HSw.out.kept (fun k _ _ => by rw [e]))
      have hcw : c * Wd + Wd ≤ 1048576 + 1024 := by
        have := Nat.mul_le_mul (show c ≤ 1024 by omega) hw2
        omega
      obtain ⟨m1, hm1⟩ : ∃ m1, m1 = c * Wd := ⟨_, rfl⟩
      have hx1 : (c : Int) * (Wd : Int) = (m1 : Int) := by rw [hm1]; push_cast; rfl
      have hx2 : ((c : Int) + 1) * (Wd : Int) = (m1 : Int) + (Wd : Int) := by rw [Int.add_mul, hx1, Int.one_mul]
      have HM1 : Hid ((c + 1) * Wd = m1 + Wd) := by show _ = _; rw [hm1, Nat.add_mul, Nat.one_mul]
      rw [← hm1] at hcw
      clear hm1 hx1
      clear hjm hjm2 hj
      by_cases hm1 : m = 1
      · subst hm1
        by_cases he : en = m1 + Wd
        · have he' : (en : Int) = (m1 : Int) + (Wd : Int) := by omega
          have ha1 : a' = 0 := by rw [HA'.out, HM1.out, if_pos ⟨rfl, he⟩]
          have he1 : en' = 0 := by rw [HE'.out, HM1.out, if_pos ⟨rfl, he⟩]
          subst ha1 he1
          clear he
          go_wp2_with fail
          go_quiet ((go_at_call 68; exact quiet_same (HWD.out _ rfl)))
          go_wp2
          go_ret
          exact ⟨rfl, drop_end (w := w) (wr := wr.drewN nq) (x := 0) (y := 0) (HSp.out.kept (fun _ _ _ => rfl)) (HSw.out.kept (fun _ _ _ => rfl)) (HO.out.drawn ⟨nq, rfl⟩) HH.out.1 HD.out⟩
        · have he' : ((en : Int) == (m1 : Int) + (Wd : Int)) = false := by simp; omega
          have ha1 : a' = a := by rw [HA'.out, HM1.out, if_neg (fun h => he h.2)]
          have he1 : en' = en := by rw [HE'.out, HM1.out, if_neg (fun h => he h.2)]
          subst ha1 he1
          clear he
          go_wp2_with fail
          go_quiet ((go_at_call 68; exact quiet_same (HWD.out _ rfl)))
          go_wp2
          go_ret
          exact ⟨rfl, HSp.out.kept (fun _ _ _ => rfl), HSw.out.kept (fun _ _ _ => rfl), HO.out.drawn ⟨nq, rfl⟩⟩
      · have hmm : ((m : Int) == 1) = false := by simp; omega
        have ha1 : a' = a := by rw [HA'.out, if_neg (fun h => hm1 h.1)]
        have he1 : en' = en := by rw [HE'.out, if_neg (fun h => hm1 h.1)]
        subst ha1 he1
        go_wp2_with fail
        go_quiet ((go_at_call 68; exact quiet_same (HWD.out _ rfl)))
        go_wp2
        go_ret
        exact ⟨rfl, HSp.out.kept (fun _ _ _ => rfl), HSw.out.kept (fun _ _ _ => rfl), HO.out.drawn ⟨nq, rfl⟩⟩
end Go.Proofs.YtcdpnfchmpncjaaGreatDoor

