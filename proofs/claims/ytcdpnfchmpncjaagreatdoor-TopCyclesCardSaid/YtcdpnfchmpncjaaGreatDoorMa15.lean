/-
  Parts of the proof, one behind the other: KBagAll, TreePlain.
-/
import Derived.Test.YtcdpnfchmpncjaaGreatDoorMa14
set_option linter.unusedSimpArgs false
set_option linter.unusedVariables false
namespace Go.Proofs.YtcdpnfchmpncjaaGreatDoor
open Go.RowKit Go.Shelf Go.Tr
def KeepsB (b : Nat) (W W' : World) : Prop := W'.heap[b]? = W.heap[b]?
theorem keepsB_t {b : Nat} {A B C : World} (h : KeepsB b A B) (k : KeepsB b B C) : KeepsB b A C := Eq.trans k h
set_option maxRecDepth 100000 in
set_option maxHeartbeats 2000000 in
theorem bvalues1 (l Bs b off len cap : Nat) (zs : List Int) (hreach : len ≤ 1000000) (hl : zs.length = len) (J : List Int → World → Prop)
    (hY : ∀ pre x W, J pre W → pre ++ [x] <+: zs → YieldAt Fence.wide 1 Tryz.prog l #[.int .i64 x] W fun e W' => e = .returned (.bool true) ∧ J (pre ++ [x]) W' ∧ KeepsB b W W')
    (W : World) (hBs : W.cell? ⟨Bs, 0, none⟩ = some (.slice (some ⟨b, off, none⟩) len cap)) (hc : ∀ j z, zs[j]? = some z → W.cell? ⟨b, off + j, none⟩ = some (.int .i64 z)) (h0 : J [] W) :
    CallsIn Fence.wide 2 Tryz.prog 146 #[.func (.yield l) #[] #[], .pointer (some ⟨Bs, 0, none⟩)] W fun e W' => (∃ v, e = .returned v) ∧ J zs W' := by
  refine callsIn_of_wp Tryz.func146 rfl trivial ?_ rfl
  simp only [Tryz.ntmps146, List.size_toArray, List.length_cons, List.length_nil, Nat.reduceAdd, Nat.reduceSub, Array.replicate_succ, Array.replicate_zero, List.push_toArray, List.append_toArray, List.nil_append, List.cons_append]
  gi_wp2
  gi_loopw [7] (fun i wr => ∃ k : Nat, k ≤ len ∧ i = .int .i64 k ∧ J (zs.take k) wr ∧ KeepsB b W wr)
    (fun i _ => len - (intOf i).toNat)
  case atStart => exact ⟨0, Nat.zero_le _, rfl, h0, rfl⟩
  case round =>
    obtain ⟨k, hk, rfl, hJs, hnx⟩ := hrel
    by_cases hlt : k < len
    · obtain ⟨z, hz⟩ : ∃ z, zs[k]? = some z := ⟨_, List.getElem?_eq_getElem (by omega)⟩
      have htk : Hid (zs.take (k + 1) = zs.take k ++ [z]) := take_snoc hz
      obtain ⟨fn, tmps, assign, body, hy, hR⟩ := hY _ z wr hJs (by rw [← htk.out]; exact List.take_prefix _ _)
      have hcx' : wr.cell? ⟨b, off + k, none⟩ = some (.int .i64 z) := (World.cell?_of_block (a := ⟨b, off + k, none⟩) hnx).trans (hc k z hz)
      clear hz
      gi_wp2
      refine hR.mono ?_
      rintro e W3 ⟨rfl, hJ3, hk3⟩
      gi_wp2
      go_roundw
      case rel => exact ⟨k + 1, by omega, by simp, by rw [htk.out]; exact hJ3, keepsB_t hnx hk3⟩
      case measure => simp [intOf]; omega
    · obtain rfl : k = len := by omega
      gi_wp2
      go_end0
      exact ⟨⟨_, rfl⟩, by rw [List.take_of_length_le (by omega)] at hJs; exact hJs⟩
set_option maxRecDepth 100000 in
set_option maxHeartbeats 1000000 in
theorem bvalues1_none (l Bs c : Nat) (a : Option Addr) (J : List Int → World → Prop) (W : World) (hBs : W.cell? ⟨Bs, 0, none⟩ = some (.slice a 0 c)) (h0 : J [] W) :
    CallsIn Fence.wide 2 Tryz.prog 146 #[.func (.yield l) #[] #[], .pointer (some ⟨Bs, 0, none⟩)] W fun e W' => (∃ v, e = .returned v) ∧ J [] W' := by
  refine callsIn_of_wp Tryz.func146 rfl trivial ?_ rfl
  simp only [Tryz.ntmps146, List.size_toArray, List.length_cons, List.length_nil, Nat.reduceAdd, Nat.reduceSub, Array.replicate_succ, Array.replicate_zero, List.push_toArray, List.append_toArray, List.nil_append, List.cons_append]
  gi_wp2
  gi_loopw [7] (fun i wr => i = .int .i64 0 ∧ J [] wr) (fun _ _ => 0)
  case atStart => exact ⟨rfl, h0⟩
  case round =>
    obtain ⟨rfl, hJs⟩ := hrel
    gi_wp2
    go_end0
    exact ⟨⟨_, rfl⟩, hJs⟩
theorem bvalues_seq (Bs b cap : Nat) (a : Option Addr) (zs : List Int) (hs : zs.length ≤ 1000000) (w : World) (hBs : Bs < w.heap.size) (hc : w.cell? ⟨Bs, 0, none⟩ = some (.slice a zs.length cap)) (hI : SeqAt w a (ints zs)) (hb : ∀ b' o, a = some ⟨b', o, none⟩ → b' = b) :
    SeqAll (fun _ A B => A = B) (KeepsB b) Tryz.prog 146 #[.pointer (some ⟨Bs, 0, none⟩)] (fun x : Int => #[Value.int .i64 x]) zs w := fun l J W hW _ hY h0 => by
  have hc' := (hW.cell (p := ⟨Bs, 0, none⟩) hBs).trans hc
  by_cases h : zs.length = 0
  · have hz : zs = [] := List.eq_nil_of_length_eq_zero h
    subst hz
    exact bvalues1_none l Bs cap a J W hc' h0
  · have hI' := hI.below hW (Nat.le_refl _)
    obtain ⟨b', off, rfl, hcell⟩ := hI' (by rw [ints_length]; omega)
    obtain rfl := hb b' off rfl
    refine bvalues1 l Bs b' off zs.length cap zs hs rfl J hY W hc' (fun j z hj => ?_) h0
    have hjl := (List.getElem?_eq_some_iff.1 hj).1
    rw [hcell j (by rw [ints_length]; exact hjl)]
    simp [ints, List.getD, hj, iv]
variable {n₀ : Nat} {w w' : World} {g : Nat} {v : Value} {zs : List Int}
theorem vals_any (a : Option Addr) (n c : Nat) (w : World) : Calls Tryz.prog 105 #[.slice a n c] w fun e w' => e = .returned (.func (.func 146) #[] #[.pointer (some ⟨w.heap.size, 0, none⟩)]) ∧ w' = w.alloc (.cells #[.slice a n c] 42) := by
  go_enter Tryz.func105, Tryz.ntmps105
  go_wp2
  go_ret
  exact ⟨rfl, rfl⟩
theorem ball_any (w : World) (h : BagAt n₀ w g v zs) (hs : zs.length ≤ 1000000) : Calls Tryz.prog 55 #[.pointer (some ⟨g, 0, none⟩)] w fun e w' => ∃ Bs b a cap, e = .returned (.func (.func 146) #[] #[.pointer (some ⟨Bs, 0, none⟩)]) ∧ Bs < w'.heap.size ∧ w'.cell? ⟨Bs, 0, none⟩ = some (.slice a zs.length cap) ∧ SeqAt w' a (ints zs) ∧ (∀ b' o, a = some ⟨b', o, none⟩ → b' = b) ∧ w.heap.size ≤ b ∧ b < w'.heap.size ∧ Below w.heap.size w w' := by
  obtain ⟨c0, f0⟩ := h.head
  obtain ⟨a, c, rfl, hsq⟩ := h.seq
  have HC := Lib.hid (clone_any a _ c zs w hsq rfl hs)
  clear h hsq
  go_enter Tryz.func55, Tryz.ntmps55
  go_wp2_with fail
  refine HC.out.mono ?_
  rintro e w1 ⟨v1, rfl, ho, hb⟩
  have HO := Lib.hid ho
  have HB := Lib.hid hb
  obtain ⟨a1, c1, rfl, hq1, -, -⟩ := ownsRow_seq ho
  have HQ := Lib.hid hq1
  clear ho hb HC hq1
  go_wp2_with fail
  refine (vals_any a1 _ c1 _).mono ?_
  rintro e w2 ⟨rfl, rfl⟩
  go_wp2
  go_ret
  have hb2 : Below w1.heap.size w1 (w1.alloc (.cells #[.slice a1 zs.length c1] 42)) := (Below.refl _ w1).alloc (Nat.le_refl _) _
  refine ⟨w1.heap.size, ((Value.slice a1 zs.length c1).ownBlock).getD w1.heap.size, a1, c1, rfl, by simp, cell_of_row _ _ 0 _ 42 (0, 0) (heap_alloc_new w1 _), HQ.out.below hb2 (Nat.le_refl _), fun b' o e => by subst e; rfl, ?_, ?_, HB.out.trans (hb2.mono HB.out.size)⟩
  · cases hh : (Value.slice a1 zs.length c1).ownBlock with
    | none => exact HB.out.size
    | some k => exact (HO.out.lt k hh).1
  · cases hh : (Value.slice a1 zs.length c1).ownBlock with
    | none => simp
    | some k => have := (HO.out.lt k hh).2; simp; omega
theorem ballF_any {F : Nat → Prop} (w : World) (h : Bag w g F zs) (hs : zs.length ≤ 1000000) : Calls Tryz.prog 55 #[.pointer (some ⟨g, 0, none⟩)] w fun e w' => ∃ Bs b, e = .returned (.func (.func 146) #[] #[.pointer (some ⟨Bs, 0, none⟩)]) ∧
    SeqAll (fun _ A B => A = B) (KeepsB b) Tryz.prog 146 #[.pointer (some ⟨Bs, 0, none⟩)] (fun x : Int => #[Value.int .i64 x]) zs w' ∧ w.heap.size ≤ b ∧ b < w'.heap.size ∧ Below w.heap.size w w' := by
  obtain ⟨v, hb, _, _⟩ := h
  refine (ball_any w hb hs).mono ?_
  rintro e w' ⟨Bs, b, a, cap, rfl, h1, h2, h3, h4, h5, h6, h7⟩
  exact ⟨Bs, b, rfl, bvalues_seq Bs b cap a zs hs w' h1 h2 h3 h4, h5, h6, h7⟩
end Go.Proofs.YtcdpnfchmpncjaaGreatDoor
namespace Go.Tr
theorem rises_eq : ∀ {xs ys : List Int}, xs.Pairwise (· < ·) → ys.Pairwise (· < ·) → (∀ z, z ∈ xs ↔ z ∈ ys) → xs = ys
  | [], [], _, _, _ => rfl
  | [], y :: ys, _, _, h => by have := (h y).2 (by simp); cases this
  | x :: xs, [], _, _, h => by have := (h x).1 (by simp); cases this
  | x :: xs, y :: ys, h1, h2, h => by
    obtain ⟨a1, a2⟩ := List.pairwise_cons.1 h1
    obtain ⟨b1, b2⟩ := List.pairwise_cons.1 h2
    have e : x = y := by
      rcases List.mem_cons.1 ((h x).1 (by simp)) with e | e
      · exact e
      · rcases List.mem_cons.1 ((h y).2 (by simp)) with e2 | e2
        · exact e2.symm
        · have := a1 y e2; have := b1 x e; omega
    subst e
    congr 1
    refine rises_eq a2 b2 (fun z => ⟨fun hz => ?_, fun hz => ?_⟩)
    · rcases List.mem_cons.1 ((h z).1 (List.mem_cons_of_mem _ hz)) with e | e
      · have := a1 z hz; omega
      · exact e
    · rcases List.mem_cons.1 ((h z).2 (List.mem_cons_of_mem _ hz)) with e | e
      · have := b1 z hz; omega
      · exact e
theorem rises_nodup {zs : List Int} (h : zs.Pairwise (· < ·)) : zs.Nodup := h.imp (fun {a b} h => by omega)
theorem mem_delA {α : Type} {l : List (Int × α)} {x : Int} {p : Int × α} : p ∈ delA l x ↔ p ∈ l ∧ p.1 ≠ x := by simp [delA]
theorem delA_lt {α : Type} {l : List (Int × α)} {x : Int} {v : α} (h : (x, v) ∈ l) : (delA l x).length < l.length := by
  induction l with
  | nil => cases h
  | cons p r ih =>
    unfold delA at ih ⊢
    have hle := List.length_filter_le (fun p : Int × α => !(p.1 == x)) r
    rw [List.filter_cons]
    split
    · rename_i hp
      rcases List.mem_cons.1 h with h | h
      · subst h; simp at hp
      · have := ih h; simp only [List.length_cons]; omega
    · simp only [List.length_cons]; omega
theorem hasA_some {α : Type} {l : List (Int × α)} {x : Int} : hasA l x = true ↔ ∃ v, lookA l x = some v := by rw [hasA_look, Option.isSome_iff_exists]
theorem hasA_none {α : Type} {l : List (Int × α)} {x : Int} : hasA l x = false ↔ lookA l x = none := by rw [hasA_look]; cases lookA l x <;> simp
structure TS where
  tab : List (Int × Int)
  last : Int
def TS.new : TS := ⟨[], 0⟩
def TS.has (S : TS) (x : Int) : Bool := hasA S.tab x
def TS.par (S : TS) (x : Int) : Int := (lookA S.tab x).getD 0
structure TS.WF (S : TS) : Prop where
  nodup : (keysA S.tab).Nodup
  low : ∀ x p, lookA S.tab x = some p → 0 ≤ p ∧ p < x ∧ x ≤ S.last ∧ (p = 0 ∨ S.has p = true)
  size : S.tab.length ≤ 64
  last0 : 0 ≤ S.last
theorem TS.WF.new : TS.new.WF := ⟨by simp [TS.new, keysA], by simp [TS.new, lookA], by decide, by decide⟩
theorem TS.WF.pos {S : TS} (h : S.WF) {x : Int} (hx : S.has x = true) : 1 ≤ x ∧ x ≤ S.last := by
  obtain ⟨p, hp⟩ := hasA_some.1 hx
  have := h.low x p hp; omega
inductive Desc (tab : List (Int × Int)) (id : Int) : Int → Prop
  | self : Desc tab id id
  | kid {x p : Int} : lookA tab x = some p → Desc tab id p → Desc tab id x
theorem Desc.ge {S : TS} (h : S.WF) {id x : Int} (hd : Desc S.tab id x) : id ≤ x := by
  induction hd with
  | self => exact Int.le_refl _
  | kid hx _ ih => have := h.low _ _ hx; omega
theorem Desc.live {S : TS} {id x : Int} (hi : S.has id = true) (hd : Desc S.tab id x) : S.has x = true := by
  cases hd with
  | self => exact hi
  | kid hx _ => exact hasA_some.2 ⟨_, hx⟩
def KCame (tab : List (Int × Int)) (id : Int) (left : List (Int × Value)) (zs : List Int) : Prop :=
  zs.Nodup ∧ (∀ x, x ∈ zs ↔ lookA tab x = some id ∧ ∀ p ∈ left, p.1 ≠ x) ∧ (∀ p ∈ left, p ∈ mapA iv tab) ∧ (keysA tab).Nodup ∧ ∀ x ∈ zs, x ∈ keysA tab
theorem KCame.start {tab : List (Int × Int)} (id : Int) (hn : (keysA tab).Nodup) : KCame tab id (mapA iv tab) [] := by
  refine ⟨List.nodup_nil, fun x => ⟨fun h => (by cases h), fun ⟨h1, h2⟩ => ?_⟩, fun p hp => hp, hn, by simp⟩
  exfalso
  have h3 : lookA (mapA iv tab) x = none := lookA_none.2 h2
  rw [lookA_mapA, h1] at h3
  simp at h3
theorem KCame.look {tab : List (Int × Int)} {id : Int} {left : List (Int × Value)} {zs : List Int} (h : KCame tab id left zs) {x : Int} {v : Value} (hx : (x, v) ∈ left) : ∃ p, v = .int .i64 p ∧ lookA tab x = some p := by
  obtain ⟨h1, h2, h3, h4, h5⟩ := h
  have h6 := h3 _ hx
  obtain ⟨⟨y, t⟩, ht, he⟩ := List.mem_map.1 h6
  simp at he
  obtain ⟨rfl, rfl⟩ := he
  exact ⟨t, rfl, lookA_of_mem h4 ht⟩
theorem KCame.skip {tab : List (Int × Int)} {id : Int} {left : List (Int × Value)} {zs : List Int} (h : KCame tab id left zs) {x p : Int} (hl : lookA tab x = some p) (hc : p ≠ id) : KCame tab id (delA left x) zs := by
  obtain ⟨h1, h2, h3, h4, h5⟩ := h
  refine ⟨h1, fun y => (h2 y).trans ⟨fun ⟨a, b⟩ => ⟨a, fun p hp => b p (mem_delA.1 hp).1⟩, fun ⟨a, b⟩ => ⟨a, fun q hq e => ?_⟩⟩, fun p hp => h3 p (mem_delA.1 hp).1, h4, h5⟩
  by_cases hpx : q.1 = x
  · rw [← e, hpx, hl] at a; exact hc (by simpa using a)
  · exact b q (mem_delA.2 ⟨hq, hpx⟩) e
theorem KCame.take {tab : List (Int × Int)} {id : Int} {left : List (Int × Value)} {zs : List Int} (h : KCame tab id left zs) {x : Int} {v : Value} (hx : (x, v) ∈ left) (hl : lookA tab x = some id) : KCame tab id (delA left x) (zs ++ [x]) := by
  obtain ⟨h1, h2, h3, h4, h5⟩ := h
  have hxz : x ∉ zs := fun hz => ((h2 x).1 hz).2 _ hx rfl
  refine ⟨List.nodup_append.2 ⟨h1, by simp, fun a ha b hb e => by simp at hb; subst hb; subst e; exact hxz ha⟩, fun y => ?_, fun p hp => h3 p (mem_delA.1 hp).1, h4, fun y hy => ?_⟩
  · rw [List.mem_append, h2, List.mem_singleton]
    constructor
    · rintro (⟨a, b⟩ | rfl)
      · exact ⟨a, fun p hp => b p (mem_delA.1 hp).1⟩
      · exact ⟨hl, fun p hp => (mem_delA.1 hp).2⟩
    · rintro ⟨a, b⟩
      by_cases e : y = x
      · exact Or.inr e
      · exact Or.inl ⟨a, fun p hp e2 => b p (mem_delA.2 ⟨hp, by rw [e2]; exact e⟩) e2⟩
  · rcases List.mem_append.1 hy with hy | hy
    · exact h5 y hy
    · simp at hy; subst hy
      have h6 := h3 _ hx
      rw [← keysA_mapA iv]
      exact List.mem_map.2 ⟨_, h6, rfl⟩
theorem KCame.le {tab : List (Int × Int)} {id : Int} {left : List (Int × Value)} {zs : List Int} (h : KCame tab id left zs) : zs.length ≤ tab.length := by
  have := length_of_sub h.1 h.2.2.2.2
  simpa [keysA] using this
theorem KCame.done {tab : List (Int × Int)} {id : Int} {zs : List Int} (h : KCame tab id [] zs) : ∀ x, x ∈ zs ↔ lookA tab x = some id := fun x => (h.2.1 x).trans (by simp)
structure Bfs (S : TS) (id : Int) (l : List Int) (i : Nat) : Prop where
  nodup : l.Nodup
  desc : ∀ x ∈ l, Desc S.tab id x
  self : id ∈ l
  closed : ∀ j y x, j < i → l[j]? = some x → lookA S.tab y = some x → y ∈ l
  par : ∀ y ∈ l, y ≠ id → ∃ j x, j < i ∧ l[j]? = some x ∧ lookA S.tab y = some x
theorem Bfs.start (S : TS) (id : Int) : Bfs S id [id] 0 := ⟨by simp, fun x hx => by simp at hx; subst hx; exact .self, by simp, by simp, fun y hy hn => by simp at hy; exact absurd hy hn⟩
theorem Bfs.step {S : TS} (hS : S.WF) {id : Int} {l : List Int} {i : Nat} (h : Bfs S id l i) {x : Int} (hx : l[i]? = some x) {ks : List Int} (hk : ks.Nodup) (hm : ∀ y, y ∈ ks ↔ lookA S.tab y = some x) : Bfs S id (l ++ ks) (i + 1) := by
  have hil := (List.getElem?_eq_some_iff.1 hx).1
  have hmx : x ∈ l := List.mem_of_getElem? hx
  have hold : ∀ j, j < i + 1 → (l ++ ks)[j]? = l[j]? := fun j hj => List.getElem?_append_left (by omega)
  refine ⟨List.nodup_append.2 ⟨h.nodup, hk, fun a ha b hb e => ?_⟩, fun y hy => ?_, List.mem_append_left _ h.self, fun j y z hj hz hy => ?_, fun y hy hn => ?_⟩
  · subst e
    have hp := (hm a).1 hb
    by_cases ha' : a = id
    · subst ha'
      have h1 := (h.desc x hmx).ge hS
      have h2 := hS.low _ _ hp
      omega
    · obtain ⟨j, z, hj, hz, hzl⟩ := h.par a ha ha'
      rw [hp] at hzl
      cases hzl
      obtain ⟨hj1, hj2⟩ := List.getElem?_eq_some_iff.1 hz
      obtain ⟨hi1, hi2⟩ := List.getElem?_eq_some_iff.1 hx
      have := (List.getElem_inj (h₀ := hj1) (h₁ := hi1) h.nodup).1 (by rw [hj2, hi2])
      omega
  · rcases List.mem_append.1 hy with hy | hy
    · exact h.desc y hy
    · exact .kid ((hm y).1 hy) (h.desc x hmx)
  · rw [hold j hj] at hz
    rcases Nat.lt_or_ge j i with hji | hji
    · exact List.mem_append_left _ (h.closed j y z hji hz hy)
    · have : j = i := by omega
      subst this
      rw [hx] at hz; cases hz
      exact List.mem_append_right _ ((hm y).2 hy)
  · rcases List.mem_append.1 hy with hy | hy
    · obtain ⟨j, z, hj, hz, hzl⟩ := h.par y hy hn
      exact ⟨j, z, by omega, by rw [hold j (by omega)]; exact hz, hzl⟩
    · exact ⟨i, x, by omega, by rw [hold i (by omega)]; exact hx, (hm y).1 hy⟩
theorem Bfs.live {S : TS} {id : Int} {l : List Int} {i : Nat} (h : Bfs S id l i) (hi : S.has id = true) : ∀ x ∈ l, S.has x = true := fun x hx => (h.desc x hx).live hi
theorem Bfs.length {S : TS} (hS : S.WF) {id : Int} {l : List Int} {i : Nat} (h : Bfs S id l i) (hi : S.has id = true) : l.length ≤ 64 := by
  have h1 := length_of_sub h.nodup (fun x hx => hasA_iff.1 (h.live hi x hx))
  have h2 := hS.size
  simp [keysA] at h1
  omega
theorem Bfs.done {S : TS} {id : Int} {l : List Int} {i : Nat} (h : Bfs S id l i) (hi : l.length ≤ i) : ∀ x, x ∈ l ↔ Desc S.tab id x := fun x => ⟨h.desc x, fun hd => by
  induction hd with
  | self => exact h.self
  | kid hx _ ih =>
    obtain ⟨j, hj, e⟩ := List.mem_iff_getElem.1 ih
    exact h.closed j _ _ (by omega) (List.getElem?_eq_some_iff.2 ⟨hj, e⟩) hx⟩
def TS.add (S : TS) (p : Int) : TS := ⟨putA S.tab (S.last + 1) p, S.last + 1⟩
def TS.free (S : TS) (zs : List Int) : TS := { S with tab := S.tab.filter fun e => !hasL zs e.1 }
def TS.merge (S : TS) (id p : Int) : TS := { S with tab := delA (mapA (fun v => if v = id then p else v) S.tab) id }
theorem TS.WF.fresh {S : TS} (h : S.WF) : S.has (S.last + 1) = false := by
  cases hh : S.has (S.last + 1) with
  | false => rfl
  | true => have := h.pos hh; omega
theorem look_add {S : TS} (h : S.WF) (p x : Int) : lookA (S.add p).tab x = if x = S.last + 1 then some p else lookA S.tab x := by
  unfold TS.add
  by_cases hx : x = S.last + 1
  · rw [if_pos hx, hx]; exact lookA_put_same _ _ _
  · rw [if_neg hx]; exact lookA_put_other _ _ hx
theorem length_add {S : TS} (h : S.WF) (p : Int) : (S.add p).tab.length = S.tab.length + 1 := by
  have := h.fresh
  unfold TS.has at this
  unfold TS.add putA
  simp [this]
theorem TS.WF.add {S : TS} (h : S.WF) {p : Int} (hp : p = 0 ∨ S.has p = true) (hl : S.tab.length < 64) : (S.add p).WF := by
  have h0 := h.last0
  refine ⟨keysA_put_nodup h.nodup _ _, fun x q hx => ?_, by rw [length_add h]; omega, by show 0 ≤ S.last + 1; omega⟩
  rw [look_add h] at hx
  have hmono : ∀ q, S.has q = true → (S.add p).has q = true := fun q hq => by
    obtain ⟨v, hv⟩ := hasA_some.1 hq
    have := h.pos hq
    exact hasA_some.2 ⟨v, by rw [look_add h, if_neg (by omega)]; exact hv⟩
  show 0 ≤ q ∧ q < x ∧ x ≤ S.last + 1 ∧ _
  by_cases hx1 : x = S.last + 1
  · rw [if_pos hx1] at hx
    cases hx
    rcases hp with rfl | hp
    · exact ⟨by omega, by omega, by omega, Or.inl rfl⟩
    · have := h.pos hp
      exact ⟨by omega, by omega, by omega, Or.inr (hmono _ hp)⟩
  · rw [if_neg hx1] at hx
    have := h.low x q hx
    exact ⟨by omega, by omega, by omega, this.2.2.2.imp id (hmono q)⟩
theorem look_free (S : TS) (zs : List Int) (x : Int) : lookA (S.free zs).tab x = if hasL zs x = true then none else lookA S.tab x := by
  unfold TS.free
  simp only []
  induction S.tab with
  | nil => simp [lookA]
  | cons e r ih =>
    simp only [List.filter_cons]
    by_cases hx : e.1 = x
    · by_cases hz : hasL zs x = true
      · rw [if_pos hz] at ih ⊢
        rw [hx, hz]
        simpa using ih
      · have hz' : hasL zs x = false := by simpa using hz
        rw [hx, hz']
        simp [lookA, hx]
    · have hne : (e.1 == x) = false := by simpa using hx
      have hc : lookA (e :: r) x = lookA r x := by simp [lookA, hne]
      rw [hc, ← ih]
      split
      · simp [lookA, hne]
      · rfl
theorem keys_free (S : TS) (zs : List Int) : keysA (S.free zs).tab = (keysA S.tab).filter fun x => !hasL zs x := by simp [TS.free, keysA, List.filter_map, Function.comp_def]
theorem has_free (S : TS) (zs : List Int) (x : Int) : (S.free zs).has x = true ↔ S.has x = true ∧ x ∉ zs := by
  unfold TS.has
  rw [hasA_iff, keys_free, List.mem_filter, ← hasA_iff]
  simp [hasL]
theorem TS.WF.free {S : TS} (h : S.WF) {id : Int} {zs : List Int} (hz : ∀ x, x ∈ zs ↔ Desc S.tab id x) : (S.free zs).WF := by
  refine ⟨by rw [keys_free]; exact h.nodup.filter _, fun x p hx => ?_, Nat.le_trans (List.length_filter_le _ _) h.size, h.last0⟩
  rw [look_free] at hx
  by_cases hd : hasL zs x = true
  · rw [if_pos hd] at hx; cases hx
  · rw [if_neg hd] at hx
    have h1 := h.low x p hx
    refine ⟨h1.1, h1.2.1, h1.2.2.1, h1.2.2.2.imp (fun h => h) (fun hp => (has_free S zs p).2 ⟨hp, fun hpz => hd ?_⟩)⟩
    rw [hasL_iff, hz]
    exact .kid hx ((hz p).1 hpz)
theorem free_take {S : TS} {zs : List Int} {k : Nat} {z : Int} (h : zs[k]? = some z) : (S.free (zs.take (k + 1))).tab = delA (S.free (zs.take k)).tab z := by
  unfold TS.free delA
  rw [take_snoc h, List.filter_filter]
  apply List.filter_congr
  intro p _
  rw [Bool.eq_iff_iff]
  simp [hasL]
  exact ⟨fun ⟨a, b⟩ => ⟨b, a⟩, fun ⟨a, b⟩ => ⟨b, a⟩⟩
theorem free_nil (S : TS) : S.free [] = S := by
  have : S.tab.filter (fun _ => true) = S.tab := List.filter_eq_self.2 (by simp)
  simp [TS.free, hasL, this]
theorem length_free {S : TS} (h : S.WF) {zs : List Int} (hn : zs.Nodup) (hl : ∀ x ∈ zs, S.has x = true) : (S.free zs).tab.length + zs.length = S.tab.length := by
  have h1 : (keysA S.tab).length = ((keysA S.tab).filter fun x => hasL zs x).length + ((keysA S.tab).filter fun x => !hasL zs x).length := by
    induction keysA S.tab with
    | nil => rfl
    | cons a l ih => cases hh : hasL zs a <;> simp [List.filter_cons, hh] <;> omega
  have h2 : ((keysA S.tab).filter fun x => hasL zs x).length = zs.length := by
    have a := length_of_sub (h.nodup.filter (fun x => hasL zs x)) (fun y hy => (hasL_iff _ _).1 (List.mem_filter.1 hy).2)
    have b := length_of_sub hn (m := (keysA S.tab).filter fun x => hasL zs x) (fun y hy => List.mem_filter.2 ⟨hasA_iff.1 (hl y hy), (hasL_iff _ _).2 hy⟩)
    omega
  rw [← keys_free] at h1
  simp [keysA] at h1 h2
  omega
theorem look_merge {S : TS} (id p x : Int) : lookA (S.merge id p).tab x = if x = id then none else (lookA S.tab x).map fun v => if v = id then p else v := by
  unfold TS.merge
  by_cases hx : x = id
  · rw [if_pos hx, hx]; exact lookA_del_same _ _
  · rw [if_neg hx]; rw [lookA_del_other _ hx, lookA_mapA]
theorem has_merge {S : TS} (id p x : Int) : (S.merge id p).has x = true ↔ S.has x = true ∧ x ≠ id := by
  unfold TS.has
  rw [hasA_some, hasA_some]
  constructor
  · rintro ⟨v, hv⟩
    rw [look_merge] at hv
    by_cases hx : x = id
    · rw [if_pos hx] at hv; cases hv
    · rw [if_neg hx] at hv
      obtain ⟨u, hu, _⟩ := Option.map_eq_some_iff.1 hv
      exact ⟨⟨u, hu⟩, hx⟩
  · rintro ⟨⟨u, hu⟩, hx⟩
    exact ⟨_, by rw [look_merge, if_neg hx, hu]; rfl⟩
theorem TS.WF.merge {S : TS} (h : S.WF) {id p : Int} (hp : lookA S.tab id = some p) (h0 : p ≠ 0) : (S.merge id p).WF := by
  have hl := h.low id p hp
  have hhp : S.has p = true := by rcases hl.2.2.2 with e | e; exact absurd e h0; exact e
  refine ⟨?_, fun x q hx => ?_, ?_, h.last0⟩
  · unfold TS.merge; rw [keysA_del, keysA_mapA]; exact h.nodup.filter _
  · rw [look_merge] at hx
    by_cases hxi : x = id
    · rw [if_pos hxi] at hx; cases hx
    · rw [if_neg hxi] at hx
      obtain ⟨u, hu, he⟩ := Option.map_eq_some_iff.1 hx
      have h1 := h.low x u hu
      show 0 ≤ q ∧ q < x ∧ x ≤ S.last ∧ _
      by_cases hui : u = id
      · rw [if_pos hui] at he
        subst he
        exact ⟨by omega, by omega, h1.2.2.1, Or.inr ((has_merge id p p).2 ⟨hhp, by omega⟩)⟩
      · rw [if_neg hui] at he
        subst he
        exact ⟨h1.1, h1.2.1, h1.2.2.1, h1.2.2.2.imp (fun h => h) (fun hh => (has_merge id p u).2 ⟨hh, hui⟩)⟩
  · unfold TS.merge
    have h1 := List.length_filter_le (fun q : Int × Int => !(q.1 == id)) (mapA (fun v => if v = id then p else v) S.tab)
    rw [length_mapA] at h1
    exact Nat.le_trans h1 h.size
def mergeK (tab : List (Int × Int)) (id p : Int) (ks : List Int) : List (Int × Int) := tab.map fun e => if hasL ks e.1 = true ∧ e.2 = id then (e.1, p) else e
theorem keys_mergeK (tab : List (Int × Int)) (id p : Int) (ks : List Int) : keysA (mergeK tab id p ks) = keysA tab := by
  unfold keysA mergeK
  rw [List.map_map]
  apply List.map_congr_left
  intro e _
  simp only [Function.comp_apply]
  split <;> rfl
theorem mergeK_nil (tab : List (Int × Int)) (id p : Int) : mergeK tab id p [] = tab := by
  unfold mergeK
  simp [hasL]
theorem look_mergeK {tab : List (Int × Int)} (id p : Int) (ks : List Int) (x : Int) : lookA (mergeK tab id p ks) x = (lookA tab x).map fun v => if hasL ks x = true ∧ v = id then p else v := by
  unfold mergeK
  induction tab with
  | nil => rfl
  | cons e r ih =>
    simp only [lookA, List.map_cons, List.find?_cons] at ih ⊢
    cases hx : (e.1 == x)
    · have : ((if hasL ks e.1 = true ∧ e.2 = id then (e.1, p) else e).1 == x) = false := by split <;> simpa using hx
      rw [this]; exact ih
    · have hx' : e.1 = x := by simpa using hx
      have : ((if hasL ks e.1 = true ∧ e.2 = id then (e.1, p) else e).1 == x) = true := by split <;> simpa using hx
      rw [this]
      simp only [Option.map_some, hx']
      split <;> simp_all
theorem mergeK_step {tab : List (Int × Int)} (hn : (keysA tab).Nodup) {id p : Int} {ks : List Int} {k : Nat} {x : Int} (h : ks[k]? = some x) (hk : ks.Nodup) (hx : x ∈ keysA tab) :
    ∃ v, lookA (mergeK tab id p (ks.take k)) x = some v ∧ (v = id → mergeK tab id p (ks.take (k + 1)) = putA (mergeK tab id p (ks.take k)) x p) ∧ (v ≠ id → mergeK tab id p (ks.take (k + 1)) = mergeK tab id p (ks.take k)) := by
  obtain ⟨v, hv⟩ := hasA_some.1 (hasA_iff.2 hx)
  have hxk : hasL (ks.take k) x = false := by
    rw [hasL_iff']
    intro hm
    obtain ⟨j, hj, e⟩ := List.mem_iff_getElem.1 hm
    rw [List.getElem_take] at e
    obtain ⟨hk1, hk2⟩ := List.getElem?_eq_some_iff.1 h
    have hj' : j < k := by simp at hj; omega
    have hj2 : j < ks.length := by omega
    have := (List.getElem_inj (h₀ := hj2) (h₁ := hk1) hk).1 (by rw [hk2]; exact e)
    omega
  have hl : lookA (mergeK tab id p (ks.take k)) x = some v := by rw [look_mergeK, hv, Option.map_some, hxk]; simp
  refine ⟨v, hl, fun e => ?_, fun e => ?_⟩
  · have hh : hasA (mergeK tab id p (ks.take k)) x = true := hasA_some.2 ⟨v, hl⟩
    unfold putA
    rw [if_pos hh]
    unfold mergeK
    rw [List.map_map]
    apply List.map_congr_left
    intro q hq
    rw [take_snoc h]
    by_cases hqx : q.1 = x
    · have hq2 : q.2 = v := by
        have := lookA_of_mem hn (x := q.1) (v := q.2) hq
        rw [hqx, hv] at this; simpa using this.symm
      have hnk : x ∉ ks.take k := (hasL_iff' _ _).1 hxk
      simp [hasL, hqx, hq2, e, hnk]
    · simp [hasL, hqx]
      split <;> simp [hqx]
  · unfold mergeK
    apply List.map_congr_left
    intro q hq
    rw [take_snoc h]
    by_cases hqx : q.1 = x
    · have hq2 : q.2 = v := by
        have := lookA_of_mem hn (x := q.1) (v := q.2) hq
        rw [hqx, hv] at this; simpa using this.symm
      simp [hq2, e]
    · simp [hasL, hqx]
theorem mergeK_all {tab : List (Int × Int)} {id p : Int} {ks : List Int} (h : ∀ x ∈ keysA tab, x ∈ ks) : mergeK tab id p ks = mapA (fun v => if v = id then p else v) tab := by
  unfold mergeK mapA
  apply List.map_congr_left
  intro q hq
  have : hasL ks q.1 = true := (hasL_iff _ _).2 (h _ (List.mem_map.2 ⟨q, hq, rfl⟩))
  simp only [this, true_and]
  split <;> rfl
end Go.Tr
