/-
  Parts of the proof, one behind the other: GrayDef, KBits.
-/
import Derived.Test.YtcdpnfchmpncjaaGreatDoorChecked
import Derived.Laws.BitsAllLaws
import Derived.Laws.ShiftsVarLaws
import Derived.IntWalk
import Derived.Test.YtcdpnfchmpncjaaGreatDoorMa3
set_option linter.unusedSimpArgs false
set_option linter.unusedVariables false
namespace Go.Tr
open Go.RowKit
structure GS where
  tab : List (Int × (Int × Int))
  q : List (Int × Int)
  last : Int
  wait : Int
def thingV (t : Int × Int) : Value := .agg #[.int .i64 t.1, .int .i64 t.2]
def GS.at (S : GS) (x : Int) : Int × Int := (lookA S.tab x).getD (0, 0)
def GS.color (S : GS) (x : Int) : Int := (S.at x).1
def GS.enter (S : GS) (x : Int) : GS := { tab := putA S.tab x (1, S.last + 1), q := S.q ++ [(x, S.last + 1)], last := S.last + 1, wait := S.wait + 1 }
def GS.put1 (S : GS) (x : Int) : GS := if S.color x = 0 then S.enter x else S
def GS.put (S : GS) (xs : List Int) : GS := xs.foldl GS.put1 S
def GS.putN (S : GS) : List Int → Int
  | [] => 0
  | x :: xs => (if S.color x = 0 then 1 else 0) + (S.put1 x).putN xs
def GS.again (S : GS) (x : Int) : GS := if S.color x = 2 then S.enter x else S
def GS.paint (S : GS) (x : Int) : GS := if S.color x = 2 then S else { S with tab := putA S.tab x (2, 0), wait := if S.color x = 1 then S.wait - 1 else S.wait }
def GS.pop (S : GS) : GS := { S with q := S.q.drop 1 }
def GS.new : GS := ⟨[], [], 0, 0⟩
def GS.Small (S : GS) (N : Int) : Prop := 0 ≤ S.last ∧ S.last ≤ N ∧ -N ≤ S.wait ∧ S.wait ≤ N ∧ (S.q.length : Int) ≤ N
def GrayAt (T : TypeId) (w : World) (g : Nat) (F : Nat → Prop) (S : GS) : Prop :=
  F g ∧ ∃ bm qv, w.heap[g]? = some (.cells #[.map (some bm), qv, .int .i64 S.last, .int .i64 S.wait] T (0, 0)) ∧ F bm ∧ bm ≠ g ∧ MapI w bm (mapA thingV S.tab) ∧ OwnO w 2 qv S.q.length (ecells S.q) ∧
    ∀ k, qv.ownBlock = some k → F k ∧ k ≠ g ∧ k ≠ bm
theorem GrayAt.mono {T : TypeId} {w : World} {g : Nat} {F G : Nat → Prop} {S : GS} (h : GrayAt T w g F S) (hs : ∀ k, F k → G k) : GrayAt T w g G S := by
  obtain ⟨h1, bm, qv, h2, h3, h4, h5, h6, h7⟩ := h
  exact ⟨hs _ h1, bm, qv, h2, hs _ h3, h4, h5, h6, fun k hk => ⟨hs _ (h7 k hk).1, (h7 k hk).2⟩⟩
theorem GrayAt.lt {T : TypeId} {w : World} {g : Nat} {F : Nat → Prop} {S : GS} (h : GrayAt T w g F S) : g < w.heap.size := by
  obtain ⟨_, bm, qv, h2, _⟩ := h; exact (Array.getElem?_eq_some_iff.1 h2).1
theorem GrayAt.only {T : TypeId} {w w' : World} {g : Nat} {F G : Nat → Prop} {S : GS} (h : GrayAt T w g F S) (ho : Only G w w') (hd : ∀ k, F k → ¬ G k) : GrayAt T w' g F S := by
  have hl := h.lt
  obtain ⟨h1, bm, qv, h2, h3, h4, h5, h6, h7⟩ := h
  exact ⟨h1, bm, qv, (ho.block g hl (hd g h1)).trans h2, h3, h4, h5.kept (ho.block bm h5.lt (hd bm h3)), h6.only ho (fun k hk => hd k (h7 k hk).1), h7⟩
theorem GrayAt.drawn {T : TypeId} {w w' : World} {g : Nat} {F : Nat → Prop} {S : GS} (h : GrayAt T w g F S) (hd : Drawn w w') : GrayAt T w' g F S := by obtain ⟨n, rfl⟩ := hd; exact h
theorem cells_of_block {w : World} {g : Nat} {cs : Array Value} {T : TypeId} (h : w.heap[g]? = some (.cells cs T (0, 0))) (j : Nat) : w.cell? ⟨g, j, none⟩ = cs[j]? ∧ w.frozen? ⟨g, j, none⟩ = false :=
  ⟨cell_of_row w g j cs T (0, 0) h, by simp [World.frozen?, h]⟩
theorem block_setCell {w : World} {g : Nat} {cs : Array Value} {T : TypeId} (h : w.heap[g]? = some (.cells cs T (0, 0))) (j : Nat) (v : Value) : (w.setCell ⟨g, j, none⟩ v).heap[g]? = some (.cells (cs.setIfInBounds j v) T (0, 0)) := by
  simp [World.setCell, Array.getElem?_modify, h]
def nextQ (S : GS) : List (Int × Int) → Option Int × GS
  | [] => (none, { S with q := [] })
  | (x, n) :: r => if S.at x = (1, n) then (some x, { S with q := r }.paint x) else nextQ S r
def GS.next (S : GS) : Option Int × GS := nextQ S S.q
def lenAt (g : Nat) (w : World) : Nat := match w.cell? ⟨g, 1, none⟩ with | some (.slice _ n _) => n | _ => 0
theorem Only.undrew {F : Nat → Prop} {w w' : World} {n : Nat} (h : Only F (w.drewN n) w') : Only F w w' := ⟨h.os, h.tape, h.output, h.size, h.block⟩
theorem GrayAt.painted {T : TypeId} {w w1 w2 : World} {g bm : Nat} {F : Nat → Prop} {S S' : GS} {qv : Value} (f1 : F g) (f3 : F bm) (h4 : bm ≠ g) (hb : w1.heap[g]? = some (.cells #[.map (some bm), qv, .int .i64 S'.last, .int .i64 S'.wait] T (0, 0)))
    (ho : Only F w w1) (hq : OwnO w1 2 qv S'.q.length (ecells S'.q)) (hm : MapI w2 bm (mapA thingV S'.tab)) (hg : w1.grownBy w2 (some bm)) (h7 : ∀ k, qv.ownBlock = some k → F k ∧ k ≠ g ∧ k ≠ bm) : GrayAt T w2 g (grow F w w2) S' ∧ Only F w w2 := by
  have hl : g < w1.heap.size := (Array.getElem?_eq_some_iff.1 hb).1
  refine ⟨⟨Or.inl f1, bm, qv, (hg.block g hl (by simp; exact fun e => h4 e.symm)).trans hb, Or.inl f3, h4, hm, hq.kept (fun k hk => hg.block k (hq.lt k hk) (by simp; exact (h7 k hk).2.2)), fun k hk => ⟨Or.inl (h7 k hk).1, (h7 k hk).2⟩⟩, ho.grown hg (fun k hk => by cases hk; exact Or.inl f3)⟩
theorem exec_lookI {P : Program} {o : Oper} {a : Act} {w : World} (m x : Operand) (t : TypeId) (hop : o.op = Op.lookup t m x false) (k e : TypeId) (ht : P.underlying t = some (.map k e)) (hk : P.underlying k = some (.int .i64))
    (z : Value) (hz : ∀ w, (zeroValue e).run P w = .ok z w) (b : Nat) (l : List (Int × Value)) (hm : a.eval m = .map (some b)) (h : MapI w b l) (y : Int) (hx : a.eval x = .int .i64 y) : (execOp a.eval o).run P w = .ok (.value ((lookA l y).getD z)) w := by
  simp [execOp, hop, hm, hx, h.look ht hk hz false y, Result.andThen]
theorem GrayAt.popped {T T' : TypeId} {w w1 : World} {g bm : Nat} {F : Nat → Prop} {qg qo qc x n : _} {r : List (Int × Int)} {sa : Option Addr} {sc : Nat} {last wait : Int} {tab : List (Int × (Int × Int))} (f1 : grow F w w1 g) (f3 : grow F w w1 bm) (h4 : bm ≠ g)
    (hb : w1.heap[g]? = some (.cells #[.map (some bm), .slice (some ⟨qg, qo, none⟩) (r.length + 1) qc, .int .i64 last, .int .i64 wait] T (0, 0))) (ho : Only F w w1) (hm : MapI w1 bm (mapA thingV tab)) (hq : OwnO w1 2 (.slice sa r.length sc) r.length (List.drop 2 (ecells ((x, n) :: r))))
    (hqb : ∀ k, (Value.slice sa r.length sc).ownBlock = some k → k = qg) (h7 : ∀ k, (Value.slice (some ⟨qg, qo, none⟩) (r.length + 1) qc).ownBlock = some k → grow F w w1 k ∧ k ≠ g ∧ k ≠ bm) :
    Hid (GrayAt T ((w1.setCell ⟨g, 1, none⟩ (.slice sa r.length sc)).alloc (.cells #[.int .i64 x, .int .i64 n] T')) g (fun k => grow F w ((w1.setCell ⟨g, 1, none⟩ (.slice sa r.length sc)).alloc (.cells #[.int .i64 x, .int .i64 n] T')) k ∧ k ≠ w1.heap.size) ⟨tab, r, last, wait⟩) ∧
      Hid (Only F w ((w1.setCell ⟨g, 1, none⟩ (.slice sa r.length sc)).alloc (.cells #[.int .i64 x, .int .i64 n] T'))) ∧
      ((w1.setCell ⟨g, 1, none⟩ (.slice sa r.length sc)).alloc (.cells #[.int .i64 x, .int .i64 n] T')).heap[w1.heap.size]? = some (.cells #[.int .i64 x, .int .i64 n] T' (0, 0)) := by
  have hl : g < w1.heap.size := (Array.getElem?_eq_some_iff.1 hb).1
  have hs : (w1.setCell ⟨g, 1, none⟩ (.slice sa r.length sc)).heap.size = w1.heap.size := by simp [World.setCell]
  generalize hW : (w1.setCell ⟨g, 1, none⟩ (.slice sa r.length sc)).alloc (.cells #[.int .i64 x, .int .i64 n] T') = W
  have hsW : W.heap.size = w1.heap.size + 1 := by rw [← hW]; simp [hs]
  have hk : ∀ k, k ≠ g → k < w1.heap.size → W.heap[k]? = w1.heap[k]? := fun k hk hl' => by rw [← hW, Below.heap_alloc _ _ _ (by rw [hs]; exact hl'), Below.heap_setCell _ _ _ _ hk]
  have hgr : ∀ k, grow F w w1 k → grow F w W k := fun k hk => hk.imp id (fun h => ⟨h.1, by omega⟩)
  refine ⟨⟨⟨hgr _ f1, by omega⟩, bm, .slice sa r.length sc, ?_, ⟨hgr _ f3, Nat.ne_of_lt hm.lt⟩, h4, hm.kept (hk bm h4 hm.lt), ?_, fun k hk' => ?_⟩, ?_, ?_⟩
  · rw [← hW, Below.heap_alloc _ _ _ (by rw [hs]; exact hl)]
    exact block_setCell hb 1 _
  · exact OwnO.kept (n := r.length) (xs := ecells r) hq (fun k hk' => by
      have h := h7 qg rfl
      rw [hqb k hk']
      exact hk qg h.2.1 (by have := hq.lt k hk'; rw [hqb k hk'] at this; exact this))
  · have hlt := hq.lt k hk'
    rw [hqb k hk'] at hlt ⊢
    have h := h7 qg rfl
    exact ⟨⟨hgr _ h.1, by omega⟩, h.2⟩
  · rw [← hW]
    exact ((ho.setCell (by rcases f1 with h | h; exact Or.inl h; exact Or.inr h.1) _).alloc _)
  · rw [← hW, ← hs]
    exact heap_alloc_new _ _
theorem putN_snoc (x : Int) : ∀ (xs : List Int) (S : GS), S.putN (xs ++ [x]) = S.putN xs + if (S.put xs).color x = 0 then 1 else 0
  | [], S => by by_cases h : S.color x = 0 <;> simp [GS.putN, GS.put, h]
  | y :: r, S => by
    simp only [List.cons_append, GS.putN]
    rw [putN_snoc x r (S.put1 y)]
    simp only [GS.put, List.foldl_cons]
    omega
theorem put_snoc (x : Int) (xs : List Int) (S : GS) : S.put (xs ++ [x]) = (S.put xs).put1 x := by simp [GS.put]
theorem GS.Small.enter {S : GS} {N : Int} (h : S.Small N) (x : Int) : (S.enter x).Small (N + 1) := by
  obtain ⟨h1, h2, h3, h4, h5⟩ := h
  refine ⟨?_, ?_, ?_, ?_, ?_⟩ <;> simp [GS.enter] <;> omega
theorem GS.Small.mono {S : GS} {N M : Int} (h : S.Small N) (hm : N ≤ M) : S.Small M := by obtain ⟨h1, h2, h3, h4, h5⟩ := h; exact ⟨h1, by omega, by omega, by omega, by omega⟩
theorem GS.Small.put1 {S : GS} {N : Int} (h : S.Small N) (x : Int) : (S.put1 x).Small (N + 1) := by
  unfold GS.put1; split
  · exact h.enter x
  · exact h.mono (by omega)
theorem GS.Small.put : ∀ (xs : List Int) {S : GS} {N : Int}, S.Small N → (S.put xs).Small (N + xs.length)
  | [], S, N, h => by simpa [GS.put] using h
  | x :: r, S, N, h => by have := GS.Small.put r (h.put1 x); simp only [GS.put, List.foldl_cons] at this ⊢; exact this.mono (by simp; omega)
theorem putN_le : ∀ (xs : List Int) (S : GS), 0 ≤ S.putN xs ∧ S.putN xs ≤ xs.length
  | [], S => by simp [GS.putN]
  | x :: r, S => by have := putN_le r (S.put1 x); simp only [GS.putN, List.length_cons]; split <;> omega
theorem look_thing (S : GS) (x : Int) : (lookA (mapA thingV S.tab) x).getD (.agg #[.int .i64 0, .int .i64 0]) = .agg #[.int .i64 (S.at x).1, .int .i64 (S.at x).2] := by
  rw [lookA_mapA, GS.at]
  cases lookA S.tab x <;> rfl
end Go.Tr
namespace Go.Tr
open Go.RowKit
def uv (x : Nat) : Value := .int .u64 (x : Int)
def us (xs : List Nat) : List Value := xs.map uv
def cntB (B : Nat → Bool) : Nat → Nat
  | 0 => 0
  | n + 1 => cntB B n + if B n then 1 else 0
structure BMap (T U : TypeId) (w : World) (g b : Nat) (n : Nat) (B : Nat → Bool) (ws : List Nat) : Prop where
  block : w.heap[g]? = some (.cells #[.int .i64 n, .slice (some ⟨b, 0, none⟩) ws.length ws.length, .int .i64 (cntB B n)] T (0, 0))
  words : w.heap[b]? = some (.cells (us ws).toArray U (0, 0))
  ne : g ≠ b
  len : ws.length = (n + 63) / 64
  small : ∀ x ∈ ws, x < 18446744073709551616
  bit : ∀ i, B i = (ws.getD (i / 64) 0).testBit (i % 64)
  off : ∀ i, n ≤ i → B i = false
theorem bit_test (x k : Nat) (hx : x < 18446744073709551616) : (bits .and .u64 ((x : Int) / 2 ^ k) 1 == 1) = x.testBit k := by
  have e1 : ((x : Int) / 2 ^ k) = ((x / 2 ^ k : Nat) : Int) := by push_cast; rfl
  have h2 : x / 2 ^ k < 18446744073709551616 := Nat.lt_of_le_of_lt (Nat.div_le_self _ _) hx
  rw [e1, show (1 : Int) = ((1 : Nat) : Int) from rfl, u64_and_nat _ _ h2 (by decide), Nat.and_one_is_mod, Nat.testBit_eq_decide_div_mod_eq]
  rw [Bool.eq_iff_iff]
  simp
  omega
theorem BMap.kept {T U : TypeId} {w w2 : World} {g b n : Nat} {B : Nat → Bool} {ws : List Nat} (h : BMap T U w g b n B ws) (h1 : w2.heap[g]? = w.heap[g]?) (h2 : w2.heap[b]? = w.heap[b]?) : BMap T U w2 g b n B ws := ⟨h1.trans h.block, h2.trans h.words, h.ne, h.len, h.small, h.bit, h.off⟩
theorem BMap.lt {T U : TypeId} {w : World} {g b n : Nat} {B : Nat → Bool} {ws : List Nat} (h : BMap T U w g b n B ws) : g < w.heap.size ∧ b < w.heap.size := ⟨(Array.getElem?_eq_some_iff.1 h.block).1, (Array.getElem?_eq_some_iff.1 h.words).1⟩
theorem BMap.word {T U : TypeId} {w : World} {g b n : Nat} {B : Nat → Bool} {ws : List Nat} (h : BMap T U w g b n B ws) {i : Nat} (hi : i < n) : ∃ x, Hid (ws[i / 64]? = some x) ∧ w.cell? ⟨b, i / 64, none⟩ = some (.int .u64 x) ∧ w.frozen? ⟨b, i / 64, none⟩ = false ∧ x < 18446744073709551616 ∧ i / 64 < ws.length ∧ Hid (B i = x.testBit (i % 64)) := by
  have hlt : i / 64 < ws.length := by rw [h.len]; omega
  have hx : ws[i / 64]? = some ws[i / 64] := List.getElem?_eq_getElem hlt
  refine ⟨ws[i / 64], hx, ?_, by simp [World.frozen?, h.words], h.small _ (List.mem_of_getElem? hx), hlt, ?_⟩
  · rw [cell_of_row w b (i / 64) _ _ (0, 0) h.words]
    simp [us, hx, uv]
  · show _ = _
    rw [h.bit i]
    simp [List.getD, hx]
def setB (B : Nat → Bool) (i : Nat) (on : Bool) : Nat → Bool := fun k => if k = i then on else B k
theorem cntB_le (B : Nat → Bool) : ∀ n, cntB B n ≤ n
  | 0 => Nat.le_refl _
  | n + 1 => by have := cntB_le B n; unfold cntB; split <;> omega
theorem cntB_congr {B C : Nat → Bool} : ∀ {n}, (∀ k, k < n → B k = C k) → cntB B n = cntB C n
  | 0, _ => rfl
  | n + 1, h => by unfold cntB; rw [cntB_congr (fun k hk => h k (by omega)), h n (by omega)]
theorem cntB_set {B : Nat → Bool} {on : Bool} {i : Nat} : ∀ {n}, i < n → B i ≠ on → ((cntB (setB B i on) n : Nat) : Int) = cntB B n - 1 + if on = true then 2 else 0
  | 0, h, _ => by omega
  | n + 1, h, hne => by
    unfold cntB
    by_cases e : i = n
    · subst e
      have e1 : cntB (setB B i on) i = cntB B i := cntB_congr (fun k hk => by unfold setB; rw [if_neg (by omega)])
      rw [e1]
      have e2 : setB B i on i = on := by simp [setB]
      rw [e2]
      cases on <;> cases hb : B i <;> simp_all <;> omega
    · have ih := cntB_set (n := n) (by omega) hne
      have e2 : setB B i on n = B n := by unfold setB; rw [if_neg (by omega)]
      rw [e2]
      push_cast
      rw [ih]
      omega
theorem cntB_pos {B : Nat → Bool} {on : Bool} {i n : Nat} (hi : i < n) (hne : B i ≠ on) : on = false → 1 ≤ cntB B n := fun e => by
  have := cntB_set hi hne
  subst e
  simp at this
  omega
theorem xor_bit_val (x k : Nat) (hx : x < 18446744073709551616) (hk : k < 64) : bits .xor .u64 (x : Int) (IntKind.u64.wrap (2 ^ k)) = ((x ^^^ 2 ^ k : Nat) : Int) := by
  have h2 : (2 : Nat) ^ k < 18446744073709551616 := by have := Nat.pow_lt_pow_right (a := 2) (by decide) hk; simpa using this
  have e1 : IntKind.u64.wrap (2 ^ k) = ((2 ^ k : Nat) : Int) := by
    rw [IntKind.wrap_u64]
    have : ((2 : Int) ^ k) = ((2 ^ k : Nat) : Int) := by push_cast; rfl
    rw [this]
    generalize (2 : Nat) ^ k = p at *
    omega
  rw [e1, u64_xor_nat _ _ hx h2]
theorem setCell_us {w : World} {b : Nat} {ws : List Nat} {U : TypeId} (h : w.heap[b]? = some (.cells (us ws).toArray U (0, 0))) (j y : Nat) : (w.setCell ⟨b, j, none⟩ (.int .u64 (y : Int))).heap[b]? = some (.cells (us (ws.set j y)).toArray U (0, 0)) := by
  simp [World.setCell, Array.getElem?_modify, h, us, List.map_set, uv]
theorem BMap.turned {T U : TypeId} {w w1 : World} {g b n : Nat} {B : Nat → Bool} {ws : List Nat} {x i : Nat} {v on : Bool} (h : BMap T U w g b n B ws) (hi : i < n) (hx : ws[i / 64]? = some x) (hv : v = B i) (hne : on ≠ v)
    (h1 : w1.heap[g]? = some (.cells #[.int .i64 n, .slice (some ⟨b, 0, none⟩) ws.length ws.length, .int .i64 (cntB (setB B i on) n)] T (0, 0))) (h2 : w1.heap[b]? = some (.cells (us (ws.set (i / 64) (x ^^^ 2 ^ (i % 64)))).toArray U (0, 0))) : BMap T U w1 g b n (setB B i on) (ws.set (i / 64) (x ^^^ 2 ^ (i % 64))) := by
  have hil : i / 64 < ws.length := (List.getElem?_eq_some_iff.1 hx).1
  have hsx := h.small x (List.mem_of_getElem? hx)
  refine ⟨by rw [List.length_set]; exact h1, h2, h.ne, by rw [List.length_set]; exact h.len, fun y hy => ?_, fun k => ?_, fun k hk => ?_⟩
  · rcases List.mem_or_eq_of_mem_set hy with hy | rfl
    · exact h.small y hy
    · exact Nat.xor_lt_two_pow (n := 64) (by simpa using hsx) (Nat.pow_lt_pow_right (by decide) (Nat.mod_lt _ (by decide)))
  · unfold setB
    by_cases e : k / 64 = i / 64
    · have e1 : (ws.set (i / 64) (x ^^^ 2 ^ (i % 64))).getD (k / 64) 0 = x ^^^ 2 ^ (i % 64) := by rw [e]; simp [List.getD, hil]
      rw [e1, Nat.testBit_xor, Nat.testBit_two_pow]
      have e2 : ws.getD (k / 64) 0 = x := by rw [e]; simp [List.getD, hx]
      by_cases e3 : k = i
      · subst e3
        rw [if_pos rfl]
        have := h.bit k
        rw [e2] at this
        rw [← this, ← hv]
        simp
        cases on <;> cases v <;> simp_all
      · rw [if_neg e3]
        have := h.bit k
        rw [e2] at this
        rw [this]
        have : ¬ i % 64 = k % 64 := by omega
        simp [this]
    · rw [if_neg (by rintro rfl; exact e rfl)]
      have e1 : (ws.set (i / 64) (x ^^^ 2 ^ (i % 64))).getD (k / 64) 0 = ws.getD (k / 64) 0 := by simp [List.getD, List.getElem?_set_ne (Ne.symm e)]
      rw [e1]; exact h.bit k
  · unfold setB
    rw [if_neg (by omega)]
    exact h.off k hk
end Go.Tr
namespace Go.Proofs.YtcdpnfchmpncjaaGreatDoor
open Go.RowKit Go.Tr
variable {w w' : World} {g b n : Nat} {B : Nat → Bool} {ws : List Nat}
abbrev BM (w : World) (g b n : Nat) (B : Nat → Bool) (ws : List Nat) : Prop := BMap 174 34 w g b n B ws
theorem mlen_any (w : World) (h : BM w g b n B ws) : Calls Tryz.prog 174 #[.pointer (some ⟨g, 0, none⟩)] w fun e w' => e = .returned (.int .i64 n) ∧ w = w' := by
  have c0 := cell_of_row w g 0 _ _ (0, 0) h.block
  simp at c0
  clear h
  go_enter Tryz.func174, Tryz.ntmps174
  go_wp2_with fail
  go_ret
  exact ⟨rfl, rfl⟩
theorem mcount_any (w : World) (h : BM w g b n B ws) : Calls Tryz.prog 42 #[.pointer (some ⟨g, 0, none⟩)] w fun e w' => e = .returned (.int .i64 (cntB B n)) ∧ w = w' := by
  have c0 := cell_of_row w g 2 _ _ (0, 0) h.block
  simp at c0
  clear h
  go_enter Tryz.func42, Tryz.ntmps42
  go_wp2_with fail
  go_ret
  exact ⟨rfl, rfl⟩
set_option maxRecDepth 100000 in
theorem mhasb_any (i : Nat) (w : World) (h : BM w g b n B ws) (hn : n ≤ 1048576) (hi : i < n) : Calls Tryz.prog 209 #[.pointer (some ⟨g, 0, none⟩), .int .i64 i] w fun e w' => e = .returned (.bool (B i)) ∧ w = w' := by
  have c1 := cell_of_row w g 1 _ _ (0, 0) h.block
  simp at c1
  obtain ⟨x, HX, c2, f2, hsm, hwi, HB⟩ := h.word hi
  obtain ⟨wl, hwl⟩ : ∃ wl, wl = ws.length := ⟨_, rfl⟩
  have hwle : wl ≤ 16385 := by rw [hwl, h.len]; omega
  rw [← hwl] at c1 hwi
  have HL := Lib.hid (mlen_any w h)
  have hi0 : (0 : Int) ≤ (i : Int) := by omega
  have hin : (i : Int) < (n : Int) := by omega
  have HT := Lib.hid (bit_test x (i % 64) hsm)
  clear h hwl
  go_enter Tryz.func209, Tryz.ntmps209
  go_wp2_with fail
  refine HL.out.mono ?_
  rintro e w' ⟨rfl, rfl⟩
  go_wp2_with fail
  go_ret
  exact ⟨by rw [HT.out, HB.out]; rfl, rfl⟩
set_option maxRecDepth 100000 in
theorem mturn_any (i : Nat) (on : Bool) (w : World) (h : BM w g b n B ws) (hn : n ≤ 1048576) (hi : i < n) : Calls Tryz.prog 201 #[.pointer (some ⟨g, 0, none⟩), .int .i64 i, .bool on] w fun e w' => e = .returned (.tuple #[]) ∧ ∃ ws', BM w' g b n (setB B i on) ws' ∧ Only (fun k => k = g ∨ k = b) w w' ∧ w'.heap.size = w.heap.size := by
  have HH := Lib.hid (mhasb_any i w h hn hi)
  have c1 := cell_of_row w g 1 _ _ (0, 0) h.block
  have c2 := cell_of_row w g 2 _ _ (0, 0) h.block
  have fg : w.frozen? ⟨g, 2, none⟩ = false := by simp [World.frozen?, h.block]
  simp at c1 c2
  obtain ⟨x, HX, cx, fx, hsm, hwi, HB⟩ := h.word hi
  obtain ⟨wl, hwl⟩ : ∃ wl, wl = ws.length := ⟨_, rfl⟩
  have hwle : wl ≤ 16385 := by rw [hwl, h.len]; omega
  rw [← hwl] at c1 hwi
  have hi0 : (0 : Int) ≤ (i : Int) := by omega
  have hin : (i : Int) < (n : Int) := by omega
  have HM := Lib.hid h
  obtain ⟨v, hv⟩ : ∃ v, v = B i := ⟨_, rfl⟩
  rw [← hv] at HH
  have HV := Lib.hid hv
  clear h hwl hv
  by_cases he : v = on
  · subst he
    have HS : Hid (setB B i v = B) := by show _ = _; funext k; unfold setB; split; (rename_i e; rw [e]; exact HV.out); rfl
    go_enter Tryz.func201, Tryz.ntmps201
    go_wp2_with fail
    refine HH.out.mono ?_
    rintro e w' ⟨rfl, rfl⟩
    go_wp2_with fail
    refine bodyPost_ret (results_none rfl _ _ _) rfl ?_
    exact ⟨rfl, _, by rw [HS.out]; exact HM.out, Only.refl _ _, rfl⟩
  · have hne : (v == on) = false := by simpa using he
    go_enter Tryz.func201, Tryz.ntmps201
    go_wp2_with fail
    refine HH.out.mono ?_
    rintro e w' ⟨rfl, rfl⟩
    go_wp2_with fail
    have HY := Lib.hid (xor_bit_val x (i % 64) hsm (Nat.mod_lt _ (by decide)))
    have hq3 : (0 : Int) ≤ (i : Int) / 64 := by omega
    have hq4 : (i : Int) / 64 < (wl : Int) := by omega
    have hq5 : ((i : Int) / 64).toNat = i / 64 := by omega
    have hq6 : ((i : Int) % 64).toNat = i % 64 := by omega
    have hq7 : (i : Int).tmod 64 = (i : Int) % 64 := rfl
    have hq1 : IntKind.i64.wrap ((i : Int) / 64) = (i : Int) / 64 := by rw [IntWalk.i64_in _ (by omega)]
    refine wp_region_lastH (S := fun W => W.cell? ⟨g, 1, none⟩ = some (.slice (some ⟨b, 0, none⟩) wl wl) ∧ W.cell? ⟨b, i / 64, none⟩ = some (.int .u64 x)) 13 (by kernel_rfl) (by kernel_rfl) ⟨c1, cx⟩ (fun hH => ?_)
    simp only [lastOps, nop, List.modify_toArray, List.modify_succ_cons, List.modify_zero_cons]
    refine takeH 0 (v := ?_) rfl (by kernel_rfl) (by kernel_rfl) (by kernel_rfl) (fun _ _ _ h => h) (by rfl) ?_ (by assumption) ?_
    rotate_left
    · intro W hW
      go_simp
      try with_reducible rfl
    try simp only [Act.put, List.setIfInBounds_toArray, List.set_cons_zero, List.set_cons_succ]
    refine takeH 1 (v := ?_) rfl (by kernel_rfl) (by kernel_rfl) (by kernel_rfl) (fun _ _ _ h => h) (by rfl) ?_ (by assumption) ?_
    rotate_left
    · intro W hW
      go_simp
      try with_reducible rfl
    try simp only [Act.put, List.setIfInBounds_toArray, List.set_cons_zero, List.set_cons_succ]
    refine takeH 2 (v := ?_) rfl (by kernel_rfl) (by kernel_rfl) (by kernel_rfl) (fun _ _ _ h => h) (by rfl) ?_ (by assumption) ?_
    rotate_left
    · intro W hW
      go_simp
      try with_reducible rfl
    try simp only [Act.put, List.setIfInBounds_toArray, List.set_cons_zero, List.set_cons_succ]
    refine takeH 3 (v := ?_) rfl (by kernel_rfl) (by kernel_rfl) (by kernel_rfl) (fun _ _ _ h => h) (by rfl) ?_ (by assumption) ?_
    rotate_left
    · intro W hW
      go_simp
      try with_reducible rfl
    try simp only [Act.put, List.setIfInBounds_toArray, List.set_cons_zero, List.set_cons_succ]
    refine takeH 4 (v := ?_) rfl (by kernel_rfl) (by kernel_rfl) (by kernel_rfl) (fun _ _ _ h => h) (by rfl) ?_ (by assumption) ?_
    rotate_left
    · intro W hW
      go_simp
      try with_reducible rfl
    try simp only [Act.put, List.setIfInBounds_toArray, List.set_cons_zero, List.set_cons_succ]
    refine takeH 5 (v := ?_) rfl (by kernel_rfl) (by kernel_rfl) (by kernel_rfl) (fun _ _ _ h => h) (by rfl) ?_ (by assumption) ?_
    rotate_left
    · intro W hW
      go_simp
      try with_reducible rfl
    try simp only [Act.put, List.setIfInBounds_toArray, List.set_cons_zero, List.set_cons_succ]
    refine takeH 6 (v := ?_) rfl (by kernel_rfl) (by kernel_rfl) (by kernel_rfl) (fun _ _ _ h => h) (by rfl) ?_ (by assumption) ?_
    rotate_left
    · intro W hW
      go_simp
      try with_reducible rfl
    try simp only [Act.put, List.setIfInBounds_toArray, List.set_cons_zero, List.set_cons_succ]
    refine takeH 7 (v := ?_) rfl (by kernel_rfl) (by kernel_rfl) (by kernel_rfl) (fun _ _ _ h => h) (by rfl) ?_ (by assumption) ?_
    rotate_left
    · intro W hW
      go_simp
      try with_reducible rfl
    try simp only [Act.put, List.setIfInBounds_toArray, List.set_cons_zero, List.set_cons_succ]
    refine takeH 8 (v := ?_) rfl (by kernel_rfl) (by kernel_rfl) (by kernel_rfl) (fun _ _ _ h => h) (by rfl) ?_ (by assumption) ?_
    rotate_left
    · intro W hW
      go_simp
      try with_reducible rfl
    try simp only [Act.put, List.setIfInBounds_toArray, List.set_cons_zero, List.set_cons_succ]
    refine takeH 9 (v := ?_) rfl (by kernel_rfl) (by kernel_rfl) (by kernel_rfl) (fun _ _ _ h => h) (by rfl) ?_ (by assumption) ?_
    rotate_left
    · intro W hW
      go_simp
      try with_reducible rfl
    try simp only [Act.put, List.setIfInBounds_toArray, List.set_cons_zero, List.set_cons_succ]
    refine takeH 10 (v := ?_) rfl (by kernel_rfl) (by kernel_rfl) (by kernel_rfl) (fun _ _ _ h => h) (by rfl) ?_ (by assumption) ?_
    rotate_left
    · intro W hW
      go_simp
      try with_reducible rfl
    try simp only [Act.put, List.setIfInBounds_toArray, List.set_cons_zero, List.set_cons_succ]
    refine takeH 11 (v := ?_) rfl (by kernel_rfl) (by kernel_rfl) (by kernel_rfl) (fun _ _ _ h => h) (by rfl) ?_ (by assumption) ?_
    rotate_left
    · intro W hW
      go_simp
      try with_reducible rfl
    try simp only [Act.put, List.setIfInBounds_toArray, List.set_cons_zero, List.set_cons_succ]
    refine takeH 12 (v := ?_) rfl (by kernel_rfl) (by kernel_rfl) (by kernel_rfl) (fun _ _ _ h => h) (by rfl) ?_ (by assumption) ?_
    rotate_left
    · intro W hW
      go_simp
      try with_reducible rfl
    try simp only [Act.put, List.setIfInBounds_toArray, List.set_cons_zero, List.set_cons_succ]
    refine takeH 13 (v := ?_) rfl (by kernel_rfl) (by kernel_rfl) (by kernel_rfl) (fun _ _ _ h => h) (by rfl) ?_ (by assumption) ?_
    rotate_left
    · intro W hW
      go_simp
      try with_reducible rfl
    try simp only [Act.put, List.setIfInBounds_toArray, List.set_cons_zero, List.set_cons_succ]
    refine lastH_done (by kernel_rfl) rfl (by rfl) ?_
    go_simp
    rw [HY.out]
    clear hq1 hq3 hq4 hq5 hq6 hq7 hH c1 cx fx
    have hw1 : (w.setCell ⟨b, i / 64, none⟩ (.int .u64 (x ^^^ 2 ^ (i % 64) : Nat))).drew.heap[b]? = some (.cells (us (ws.set (i / 64) (x ^^^ 2 ^ (i % 64)))).toArray 34 (0, 0)) := setCell_us HM.out.words _ _
    have hw2 : (w.setCell ⟨b, i / 64, none⟩ (.int .u64 (x ^^^ 2 ^ (i % 64) : Nat))).drew.heap[g]? = w.heap[g]? := Below.heap_setCell _ _ _ _ HM.out.ne
    have hw3 : (w.setCell ⟨b, i / 64, none⟩ (.int .u64 (x ^^^ 2 ^ (i % 64) : Nat))).drew.heap.size = w.heap.size := by simp [World.setCell]
    have hw4 : Only (fun k => k = g ∨ k = b) w (w.setCell ⟨b, i / 64, none⟩ (.int .u64 (x ^^^ 2 ^ (i % 64) : Nat))).drew := ((Only.refl _ w).setCell (Or.inl (Or.inr rfl)) _).drew
    generalize (w.setCell ⟨b, i / 64, none⟩ (.int .u64 (x ^^^ 2 ^ (i % 64) : Nat))).drew = w1 at *
    have d2 : w1.cell? ⟨g, 2, none⟩ = some (.int .i64 (cntB B n)) := by rw [World.cell?_of_block (a := ⟨g, 2, none⟩) (w := w) hw2]; exact c2
    have e2 : w1.frozen? ⟨g, 2, none⟩ = false := by rw [World.frozen?_of_block (a := ⟨g, 2, none⟩) (w := w) hw2]; exact fg
    have HW1 := Lib.hid hw1
    have HW2 := Lib.hid (hw2.trans HM.out.block)
    have HW3 := Lib.hid hw3
    have HW4 := Lib.hid hw4
    have HCN := Lib.hid (cntB_set (B := B) (on := on) hi (by rw [← HV.out]; exact he))
    have hcn := cntB_le B n
    have hcn1 := cntB_pos (B := B) (on := on) hi (by rw [← HV.out]; exact he)
    obtain ⟨cn, hcnn⟩ : ∃ cn, cn = cntB B n := ⟨_, rfl⟩
    rw [← hcnn] at d2 hcn hcn1 HCN HW2
    have hgl : g < w1.heap.size := (Array.getElem?_eq_some_iff.1 HW2.out).1
    clear hw1 hw2 hw3 hw4 c2 fg hcnn
    cases on
    · have hcn2 : 1 ≤ cn := hcn1 rfl
      clear hcn1
      go_wp2
      go_end0
      refine ⟨rfl, _, BMap.turned HM.out hi HX.out HV.out (Ne.symm he) ?_ ?_, HW4.out.setCell (Or.inl (Or.inl rfl)) _, by simp [World.setCell]; exact HW3.out⟩
      · have e := HCN.out
        have e' : ((cntB (setB B i false) n : Nat) : Int) = (cn : Int) - 1 := by rw [e]; simp
        rw [e']
        simp [World.setCell, Array.getElem?_modify, HW2.out]
      · exact (Below.heap_setCell _ _ _ _ (Ne.symm HM.out.ne)).trans HW1.out
    · clear hcn1
      go_wp2
      go_end0
      refine ⟨rfl, ⟨_, BMap.turned HM.out hi HX.out HV.out (Ne.symm he) ?_ ?_⟩, (HW4.out.setCell (Or.inl (Or.inl rfl)) _).setCell (Or.inl (Or.inl rfl)) _, by simp [World.setCell]; exact HW3.out⟩
      · have e := HCN.out
        have e' : ((cntB (setB B i true) n : Nat) : Int) = (cn : Int) - 1 + 2 := by rw [e]; simp
        rw [e']
        simp [World.setCell, Array.getElem?_modify, HW2.out]
      · exact (Below.heap_setCell _ _ _ _ (Ne.symm HM.out.ne)).trans ((Below.heap_setCell _ _ _ _ (Ne.symm HM.out.ne)).trans HW1.out)
def BMF (w : World) (F : Nat → Prop) (g n : Nat) (B : Nat → Bool) : Prop := ∃ b ws, BM w g b n B ws ∧ F g ∧ F b
variable {F : Nat → Prop}
theorem BMF.kept (h : BMF w F g n B) (hk : ∀ k, F k → k < w.heap.size → w'.heap[k]? = w.heap[k]?) : BMF w' F g n B := by
  obtain ⟨b, ws, h, h1, h2⟩ := h
  exact ⟨b, ws, h.kept (hk _ h1 h.lt.1) (hk _ h2 h.lt.2), h1, h2⟩
theorem mhasF (i : Nat) (w : World) (h : BMF w F g n B) (hn : n ≤ 1048576) (hi : i < n) : Calls Tryz.prog 209 #[.pointer (some ⟨g, 0, none⟩), .int .i64 i] w fun e w' => e = .returned (.bool (B i)) ∧ w = w' := by
  obtain ⟨b, ws, h, h1, h2⟩ := h
  exact mhasb_any i w h hn hi
theorem mcountF (w : World) (h : BMF w F g n B) : Calls Tryz.prog 42 #[.pointer (some ⟨g, 0, none⟩)] w fun e w' => e = .returned (.int .i64 (cntB B n)) ∧ w = w' := by
  obtain ⟨b, ws, h, h1, h2⟩ := h
  exact mcount_any w h
theorem mturnF (i : Nat) (on : Bool) (w : World) (h : BMF w F g n B) (hn : n ≤ 1048576) (hi : i < n) : Calls Tryz.prog 201 #[.pointer (some ⟨g, 0, none⟩), .int .i64 i, .bool on] w fun e w' => e = .returned (.tuple #[]) ∧ BMF w' F g n (setB B i on) ∧ Only F w w' ∧ w'.heap.size = w.heap.size := by
  obtain ⟨b, ws, h, h1, h2⟩ := h
  refine (mturn_any i on w h hn hi).mono ?_
  rintro e w' ⟨rfl, ws', h', ho, hs⟩
  exact ⟨rfl, ⟨b, ws', h', h1, h2⟩, ho.mono (fun k hk => by rcases hk with rfl | rfl <;> assumption), hs⟩
def fillB (B : Nat → Bool) (f k : Nat) (on : Bool) : Nat → Bool := fun i => if f ≤ i ∧ i < f + k then on else B i
theorem fillB_zero (B : Nat → Bool) (f : Nat) (on : Bool) : fillB B f 0 on = B := by funext i; unfold fillB; rw [if_neg (by omega)]
theorem fillB_succ (B : Nat → Bool) (f k : Nat) (on : Bool) : fillB B f (k + 1) on = setB (fillB B f k on) (f + k) on := by
  funext i
  unfold fillB setB
  by_cases e : i = f + k
  · rw [if_pos e, if_pos (by omega)]
  · rw [if_neg e]
    show _ = if f ≤ i ∧ i < f + k then on else B i
    by_cases h : f ≤ i ∧ i < f + k
    · rw [if_pos h, if_pos (by omega)]
    · rw [if_neg h, if_neg (by omega)]
set_option maxRecDepth 100000 in
theorem mfillF (f k : Nat) (on : Bool) (w : World) (h : BMF w F g n B) (hn : n ≤ 1048576) (hk : f + k ≤ n) : Calls Tryz.prog 173 #[.pointer (some ⟨g, 0, none⟩), .int .i64 f, .int .i64 k, .bool on] w fun e w' => e = .returned (.int .i64 0) ∧ BMF w' F g n (fillB B f k on) ∧ Only F w w' ∧ w'.heap.size = w.heap.size := by
  have c0 : w.cell? ⟨g, 0, none⟩ = some (.int .i64 n) := by
    obtain ⟨b, ws, h, -, -⟩ := h
    have := cell_of_row w g 0 _ _ (0, 0) h.block
    simpa using this
  have HM : Hid (BMF w F g n (fillB B f 0 on)) := by show BMF _ _ _ _ _; rw [fillB_zero]; exact h
  have h1 : ¬ ((n : Int) < (f : Int)) := by omega
  have h2 : ¬ ((n : Int) - (f : Int) < (k : Int)) := by omega
  clear h
  go_enter Tryz.func173, Tryz.ntmps173
  go_wp2_with fail
  go_loopw [9] (fun i wr => ∃ j : Nat, j ≤ k ∧ i = .int .i64 ((f + j : Nat) : Int) ∧ Hid (BMF wr F g n (fillB B f j on)) ∧ Hid (Only F w wr) ∧ Hid (wr.heap.size = w.heap.size)) (fun i _ => f + k - (intOf i).toNat)
  case atStart => exact ⟨0, Nat.zero_le _, by simp, HM, Only.refl _ _, rfl⟩
  case round =>
    clear HM
    obtain ⟨j, hj, rfl, HB, HO, HS⟩ := hrel
    by_cases hlt : j < k
    · have hlt' : f + j < f + k := by omega
      go_wp2_with fail
      rw [← Int.natCast_add]
      refine (mturnF (f + j) on _ HB.out hn (by omega)).mono ?_
      rintro e w1 ⟨rfl, hb, ho, hs⟩
      have HB1 : Hid (BMF w1 F g n (fillB B f (j + 1) on)) := by rw [fillB_succ]; exact hb
      have HO1 := Lib.hid (HO.out.trans ho (fun k hk => Or.inl hk))
      have HS1 := Lib.hid (hs.trans HS.out)
      clear hb ho hs HB HO HS
      go_wp2
      go_roundw
      case rel => exact ⟨j + 1, by omega, by go_num, HB1, HO1, HS1⟩
      case measure => simp [intOf]; omega
    · have e : j = k := by omega
      subst e
      go_wp2
      go_ret
      exact ⟨rfl, HB.out, HO.out, HS.out⟩
theorem msetF (i : Nat) (on : Bool) (w : World) (h : BMF w F g n B) (hn : n ≤ 1048576) (hi : i < n) : Calls Tryz.prog 132 #[.pointer (some ⟨g, 0, none⟩), .int .i64 i, .bool on] w fun e w' => e = .returned (.int .i64 0) ∧ BMF w' F g n (setB B i on) ∧ Only F w w' ∧ w'.heap.size = w.heap.size := by
  have HF := Lib.hid (mfillF i 1 on w h hn (by omega))
  have HE : Hid (fillB B i 1 on = setB B i on) := by show _ = _; rw [fillB_succ, fillB_zero]; rfl
  rw [HE.out] at HF
  clear h HE
  go_enter Tryz.func132, Tryz.ntmps132
  go_wp2_with fail
  refine HF.out.mono ?_
  rintro e w1 ⟨rfl, hb, ho, hs⟩
  have HB := Lib.hid hb
  have HO := Lib.hid ho
  have HS := Lib.hid hs
  clear hb ho hs
  go_wp2
  go_ret
  exact ⟨rfl, HB.out, HO.out, HS.out⟩
end Go.Proofs.YtcdpnfchmpncjaaGreatDoor
