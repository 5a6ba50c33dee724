/-
  Parts of the proof, one behind the other: KChainQ, KChainR, KTopChain, Open.
-/
import Derived.ProofKit
import Derived.OpenShut
import Derived.Deep.SlicePairs
import Derived.Test.YtcdpnfchmpncjaaGreatDoorTopChain5
set_option linter.unusedSimpArgs false
set_option linter.unusedVariables false
namespace Go.Proofs.YtcdpnfchmpncjaaGreatDoor
open Go.RowKit Go.Tr Go.Shelf
variable {S S1 S2 S3 : HS} {ct : Nat → Nat → Nat} {o : Nat → Nat → Option (Nat × Nat)} {P : List (Nat × Nat)} {fr mv : List Int} {k N m : Nat}
theorem not_blM {m : Nat} : (m : Int) ∉ blM m := fun h => by
  obtain ⟨j, h1, h2⟩ := mem_blM.1 h
  omega
theorem tgt_oC (hm : m < k) (hk : k ≤ N) : tgt (refsL L22 0 (oC k N m)) = if m + 1 < k then [((m + 1 : Nat) : Int)] else [] := by
  have e : refsL L22 0 (oC k N m) = [(1, oC k N m 1)] := by unfold refsL; rw [L22_slots]; rfl
  rw [e]
  have e2 : oC k N m 1 = if m + 1 < N ∧ m + 1 ≠ k then some (m + 1, 1) else none := by unfold oC; simp
  rw [e2]
  by_cases h : m + 1 < k
  · rw [if_pos h, if_pos (by omega)]; rfl
  · rw [if_neg h, if_neg (by omega)]; rfl
theorem Ch.next (h : Ch k N P S m) (hm : m < k) {g0 g1 : GS} {x : Sl} (hx : S.sl[m]? = some x) (hmv : MovedSt { S with gs := g0 } m x (S.L.size 0 + 1) S2) (hg : Rep g1 [] (blM m ++ [(m : Int)])) (hs : g1.Small (110 + 20 * m : Nat)) :
    Ch k N P { S2 with gs := g1.put (tgt (refsL S.L 0 (oC k N m))) } (m + 1) := by
  obtain ⟨x0, y1, y2, y3⟩ := h.old m (by have := h.kN; omega)
  rw [hx] at y1
  cases y1
  have hev := (h.ev.gs g0).moved (i := m) (x := x) hx y2 not_blM hmv
  rw [← blM_succ] at hev hg
  obtain ⟨e1, e2, e3, e4, e5, e6, e7, e8⟩ := hmv.same
  rw [h.ev.lay, tgt_oC hm h.kN]
  refine ⟨hev.gs _, ?_, ?_, hm, h.kN, h.n49, e5.trans h.mine, e3.trans h.kk, ?_, fun l hl => ?_, fun l h1 h2 => ?_⟩
  · by_cases hk : m + 1 < k
    · rw [if_pos hk]
      have := hg.put [((m + 1 : Nat) : Int)]
      unfold putW at this
      simp only [List.foldl_cons, List.foldl_nil] at this
      rw [if_neg (fun e => e.elim (fun h => by cases h) (fun h => not_blM h))] at this
      exact this
    · rw [if_neg hk]
      exact hg
  · by_cases hk : m + 1 < k
    · rw [if_pos hk]
      exact (GS.Small.put _ hs).mono (by simp; omega)
    · rw [if_neg hk]
      exact (GS.Small.put _ hs).mono (by simp; omega)
  · have h1 : ∀ j, 60 ≤ j → S2.sl[j]? = none := fun j hj => by
      cases hc : S2.sl[j]? with
      | none => rfl
      | some y =>
        obtain ⟨y0, k1, -⟩ := hmv.back hx hc
        have := (List.getElem?_eq_some_iff.1 k1).1
        have hl : S.sl.length = 60 := h.len
        simp only at this
        omega
    have h2 : ∃ y, S2.sl[59]? = some y := by
      obtain ⟨y, hy⟩ : ∃ y, S.sl[59]? = some y := ⟨_, List.getElem?_eq_getElem (by rw [h.len]; omega)⟩
      obtain ⟨y2, k1, -⟩ := hmv.slot (j := 59) hx hy
      exact ⟨y2, k1⟩
    obtain ⟨y, hy⟩ := h2
    have h3 := (List.getElem?_eq_some_iff.1 hy).1
    have h4 := List.getElem?_eq_none_iff.1 (h1 60 (Nat.le_refl _))
    show S2.sl.length = 60
    omega
  · obtain ⟨y, k1, k2, k3⟩ := h.old l hl
    obtain ⟨y2, j1, j2, j3, -⟩ := hmv.slot (j := l) hx k1
    exact ⟨y2, j1, j2.trans k2, j3.trans k3⟩
  · obtain ⟨y, k1, k2⟩ := h.new l h1 h2
    obtain ⟨y2, j1, j2, -⟩ := hmv.slot (j := l) hx k1
    exact ⟨y2, j1, j2.trans k2⟩
theorem Ch.evJ : EvJ (fun n S => Ch k N P S n) z0 := by
  refine ⟨fun n S h => ?_, fun n S h => ?_, fun n S h => h.ev.good, fun n S h => h.ev.on, fun n S h i x hx hu => ?_⟩
  · refine ⟨h.ev.on, h.sm.mono (by have := h.mle; have := h.kN; have := h.n49; omega), ?_⟩
    by_cases hn : n < k
    · have hr := h.rep
      rw [if_pos hn] at hr
      obtain ⟨n1, n2⟩ := hr.next_some
      obtain ⟨x, k1, k2, k3⟩ := h.old n (by have := h.kN; omega)
      have hsm := Small_next h.sm
      refine Or.inr ⟨n, x, 0, oC k N n, n1, by rw [h.ev.lay, L22_size]; decide, (h.ev.gs S.gs.next.2).lookPre k1 k2 not_blM (hsm.mono (by have := h.mle; have := h.kN; have := h.n49; omega)), fun S2 hm2 => ?_⟩
      have hgs : S2.gs = S.gs.next.2 := hm2.same.2.2.2.2.2.2.2
      rw [hgs, n2.paint_old (by simp)]
      exact h.next hn k1 hm2 n2 (hsm.mono (by omega))
    · have hr := h.rep
      rw [if_neg hn] at hr
      obtain ⟨n1, n2⟩ := hr.next_none
      have e : S.gs.next.2 = { S.gs with q := [] } := by
        unfold GS.next
        rw [nextQ_none hr.live]
      refine Or.inl ⟨n1, by rw [n2.cnt]; rfl, h.ev.gs _, by rw [if_neg hn]; exact n2, ?_, h.mle, h.kN, h.n49, h.mine, h.kk, h.len, h.old, h.new⟩
      show S.gs.next.2.Small _
      rw [e]
      obtain ⟨a1, a2, a3, a4, a5⟩ := h.sm
      exact ⟨a1, a2, a3, a4, by simp; omega⟩
  · have := h.mle; have := h.kN; have := h.n49; omega
  · by_cases hi : i < N
    · obtain ⟨y, k1, -, k2⟩ := h.old i hi
      rw [hx] at k1
      cases k1
      omega
    · have h60 : i < 60 := by rw [← h.len]; exact (List.getElem?_eq_some_iff.1 hx).1
      obtain ⟨y, k1, k2⟩ := h.new i (by omega) h60
      rw [hx] at k1
      cases k1
      rw [hu] at k2
      cases k2
theorem Ch.small (h : Ch k N P S m) : S.gs.Small 399999 := h.sm.mono (by have := h.mle; have := h.kN; have := h.n49; omega)
theorem Ch.touchPre (h : Ch k N P S m) {i : Nat} (hi : i ≤ m) (hik : i < k) {x : Sl} (hx : S.sl[i]? = some x) (hu : x.used = true) : ¬ S.gs.color i = 2 → LookPre { S with gs := S.gs.put1 i } i x 0 (oC k N i) := fun hc => by
  have hi2 : (i : Int) ∉ blM m := fun hb => hc ((h.rep.black _).2 hb)
  exact (h.ev.gs _).lookPre hx hu hi2 ((h.small.put1 _).mono (by decide))
theorem Ch.touched (h : Ch k N P S m) {i : Nat} (hi : i ≤ m) (hik : i < k) {x : Sl} (hx : S.sl[i]? = some x) (hu : x.used = true) {S' : HS} (ht : TouchS S i x 0 (oC k N i) S') :
    Ch k N P S' (max m (i + 1)) ∧ ∀ (j : Nat) (y : Sl), S.sl[j]? = some y → ∃ y2 : Sl, S'.sl[j]? = some y2 ∧ y2.used = y.used ∧ y2.gen = y.gen ∧ y2.held = y.held := by
  by_cases him : i < m
  · have hc : S.gs.color i = 2 := (h.rep.black _).2 (mem_blM.2 ⟨i, rfl, him⟩)
    rcases ht with ⟨-, rfl⟩ | ⟨hn, -⟩
    · rw [show max m (i + 1) = m by omega]
      exact ⟨h, fun j y hy => ⟨y, hy, rfl, rfl, rfl⟩⟩
    · exact absurd hc hn
  · have hm : i = m := by omega
    subst hm
    have hr := h.rep
    rw [if_pos hik] at hr
    have hg : S.gs.color i = 1 := (hr.gray_iff _).2 (by simp)
    rcases ht with ⟨hc, -⟩ | ⟨-, S2, hmv, rfl⟩
    · rw [hg] at hc; cases hc
    · have hp : S.gs.put1 i = S.gs := by unfold GS.put1; rw [hg]; rfl
      have hgs : S2.gs = S.gs.put1 i := hmv.same.2.2.2.2.2.2.2
      rw [show max i (i + 1) = i + 1 by omega]
      refine ⟨?_, fun j y hy => hmv.slot hx hy⟩
      have hpt := hr.paint not_blM
      have hf : [(i : Int)].filter (· != (i : Int)) = [] := by simp
      rw [hf] at hpt
      rw [hgs, hp]
      exact h.next hik hx hmv hpt ((Small_paint h.sm _).mono (by omega))
theorem Ch.mark (h : Ch k N P S m) {i : Nat} {x : Sl} (hx : S.sl[i]? = some x) (hu : x.used = true) (hd : Bool) : Ch k N P { S with sl := S.sl.set i ⟨x.gen, x.used, x.addr, x.region, hd, x.pinned⟩ } m := by
  have hlt := (List.getElem?_eq_some_iff.1 hx).1
  obtain ⟨g1, g2⟩ := h.ev.good.mark hx hu hd
  have hfw : ∀ (j : Nat) (y : Sl), S.sl[j]? = some y → ∃ y2 : Sl, (S.sl.set i ⟨x.gen, x.used, x.addr, x.region, hd, x.pinned⟩)[j]? = some y2 ∧ y2.used = y.used ∧ y2.gen = y.gen ∧ y2.addr = y.addr := fun j y hy => by
    by_cases e : j = i
    · subst e
      rw [hx] at hy
      cases hy
      exact ⟨_, List.getElem?_set_self hlt, rfl, rfl, rfl⟩
    · exact ⟨y, by rw [List.getElem?_set_ne (fun e2 => e e2.symm)]; exact hy, rfl, rfl, rfl⟩
  have hbk : ∀ (j : Nat) (y : Sl), (S.sl.set i ⟨x.gen, x.used, x.addr, x.region, hd, x.pinned⟩)[j]? = some y → ∃ y2 : Sl, S.sl[j]? = some y2 ∧ y2.used = y.used ∧ y2.addr = y.addr := fun j y hy => by
    by_cases e : j = i
    · subst e
      rw [List.getElem?_set_self hlt] at hy
      cases hy
      exact ⟨x, hx, rfl, rfl⟩
    · rw [List.getElem?_set_ne (fun e2 => e e2.symm)] at hy
      exact ⟨y, hy, rfl, rfl⟩
  have hev := h.ev
  refine ⟨⟨g1, g2 _ hev.cont, fun j y hy hyu p hp => ?_, hev.on, hev.wd, hev.lay, hev.ps, hev.one, hev.room, hev.fill, hev.nd, hev.mvu, fun j y hy hyu => ?_⟩, h.rep, h.sm, h.mle, h.kN, h.n49, h.mine, h.kk, by simp only [List.length_set]; exact h.len, fun l hl => ?_, fun l h1 h2 => ?_⟩
  · obtain ⟨y2, k1, k2, -⟩ := hbk j y hy
    obtain ⟨l1, l2, l3⟩ := hev.link j y2 k1 (k2.trans hyu) p hp
    refine ⟨l1, l2, fun q g e => ?_⟩
    obtain ⟨z, z1, z2⟩ := l3 q g e
    obtain ⟨z', w1, w2, -⟩ := hfw q z z1
    exact ⟨z', w1, w2.trans z2⟩
  · obtain ⟨y2, k1, k2, k3⟩ := hbk j y hy
    rw [← k3]
    exact hev.place j y2 k1 (k2.trans hyu)
  · obtain ⟨y, k1, k2, k3⟩ := h.old l hl
    obtain ⟨y2, w1, w2, w3, -⟩ := hfw l y k1
    exact ⟨y2, w1, w2.trans k2, w3.trans k3⟩
  · obtain ⟨y, k1, k2⟩ := h.new l h1 h2
    obtain ⟨y2, w1, w2, -⟩ := hfw l y k1
    exact ⟨y2, w1, w2.trans k2⟩
theorem cntB_below (k : Nat) : ∀ n, cntB (fun j => decide (j < k)) n = min k n
  | 0 => by simp [cntB]
  | n + 1 => by
    have := cntB_below k n
    unfold cntB
    rw [this]
    by_cases h : n < k
    · simp [h]; omega
    · simp [h]; omega
theorem count_above (k : Nat) : ∀ n, ((List.range n).filter (fun j => decide (k ≤ j))).length = n - k
  | 0 => by simp
  | n + 1 => by
    rw [List.range_succ, List.filter_append, List.length_append, count_above k n]
    by_cases h : k ≤ n
    · simp [h]; omega
    · simp [h]; omega
theorem Ch.fin (h : Ch k N P S k) (hf : FinR S z0 S3 fr) : (S.mine.filter (whiteB S)).length = N - k ∧ cntB (usedB S3.sl) 60 = k ∧ (chunksL S3.ps).length = (k + 1) / 2 ∧ S3.K = 60 := by
  have hkN := h.kN
  have hN := h.n49
  have hcol : ∀ j : Nat, S.gs.color j = if j < k then 2 else 0 := fun j => by
    have hr := h.rep
    rw [if_neg (Nat.lt_irrefl _)] at hr
    by_cases hj : j < k
    · rw [if_pos hj]; exact (hr.black _).2 (mem_blM.2 ⟨j, rfl, hj⟩)
    · rw [if_neg hj]
      exact (hr.white_iff _).2 ⟨by simp, fun hb => by obtain ⟨q, h1, h2⟩ := mem_blM.1 hb; omega⟩
  obtain ⟨-, h2⟩ := h.ev.fin hf (fun z hz hc => by
    rw [h.mine] at hz
    obtain ⟨j, rfl, hj⟩ := mem_blM.1 hz
    rw [hcol] at hc
    exact mem_blM.2 ⟨j, rfl, Classical.byContradiction fun hn => hc (if_neg hn)⟩)
  refine ⟨?_, ?_, ?_, hf.fix.2.2.1.trans h.kk⟩
  · rw [h.mine]
    unfold blM
    rw [List.filter_map, List.length_map, ← count_above k N]
    congr 1
    refine List.filter_congr fun j _ => ?_
    show whiteB S (j : Int) = _
    unfold whiteB
    rw [hcol]
    by_cases hj : j < k
    · rw [if_pos hj]; simp; omega
    · rw [if_neg hj]; simp; omega
  · have : ∀ j, j < 60 → usedB S3.sl j = decide (j < k) := fun j hj => by
      unfold usedB
      rw [List.getD_eq_getElem?_getD, hf.sl j, hcol]
      by_cases hjk : j < k
      · rw [if_neg (fun e => by rw [if_pos hjk] at e; cases e.2)]
        obtain ⟨y, k1, k2, -⟩ := h.old j (by omega)
        rw [k1]
        simpa [hjk] using k2
      · rw [if_neg hjk]
        by_cases hjN : j < N
        · rw [if_pos ⟨by rw [h.mine]; exact mem_blM.2 ⟨j, rfl, hjN⟩, rfl⟩]
          obtain ⟨y, k1, -⟩ := h.old j hjN
          rw [k1]
          simp [goneS, hjk]
        · rw [if_neg (fun e => by
            have := e.1
            rw [h.mine] at this
            obtain ⟨q, q1, q2⟩ := mem_blM.1 this
            omega)]
          obtain ⟨y, k1, k2⟩ := h.new j (by omega) hj
          rw [k1]
          simpa [hjk] using k2
    rw [cntB_congr this, cntB_below]
    omega
  · rw [h2, chunksL_one h.ev.fill.2.1, h.ev.fill.1]
    simp [blM]
end Go.Proofs.YtcdpnfchmpncjaaGreatDoor

namespace Go.Proofs.YtcdpnfchmpncjaaGreatDoor
open Go.RowKit Go.Tr Go.Shelf
variable {w w' : World} {F : Nat → Prop} {A : Ad} {S : HS} {P : List (Nat × Nat)} {k N m i : Nat}
theorem TouchC.mono {T T2 : HS → Prop} {gen : Nat} (h : TouchC w F A i gen T) (ht : ∀ S', T S' → T2 S') : TouchC w F A i gen T2 := fun W hb => by
  refine (h W hb).mono ?_
  rintro e w1 ⟨h1, S', h2, h3⟩
  exact ⟨h1, S', ht S' h2, h3⟩
def Held (S : HS) (i : Nat) : Prop := ∃ x : Sl, S.sl[i]? = some x ∧ x.used = true ∧ x.gen = 1 ∧ x.held = true
theorem Held.mark {j : Nat} {y : Sl} {b : Bool} (hd : Held S i) (hy : S.sl[j]? = some y) (hb : j = i → b = true) : Held { S with sl := S.sl.set j ⟨y.gen, y.used, y.addr, y.region, b, y.pinned⟩ } i := by
  obtain ⟨x, x1, x2, x3, x4⟩ := hd
  have hlt := (List.getElem?_eq_some_iff.1 hy).1
  by_cases e : j = i
  · subst e
    rw [hy] at x1
    cases x1
    exact ⟨_, List.getElem?_set_self hlt, x2, x3, hb rfl⟩
  · exact ⟨x, by show (S.sl.set j _)[i]? = _; rw [List.getElem?_set_ne e]; exact x1, x2, x3, x4⟩
theorem Ch.touchC (h : Ch k N P S m) (hh : HeapF w F A S) (hi : i ≤ m) (hik : i < k) (hd : Held S i) : TouchC w F A i 1 (fun S' => Ch k N P S' (max m (i + 1)) ∧ ∀ j, Held S j → Held S' j) := by
  obtain ⟨x, x1, x2, x3, x4⟩ := hd
  have ht := hh.touch (o := oC k N i) (count := 0) h.ev.on x1 x2 x4 (h.ev.good.ent i x x1 x2).reg (h.small.mono (by decide)) (h.touchPre hi hik x1 x2)
  rw [x3] at ht
  refine ht.mono (fun S' hs => ?_)
  obtain ⟨k1, k2⟩ := h.touched hi hik x1 x2 hs
  refine ⟨k1, fun j hj => ?_⟩
  obtain ⟨y, y1, y2, y3, y4⟩ := hj
  obtain ⟨z, z1, z2, z3, z4⟩ := k2 j y y1
  exact ⟨z, z1, z2.trans y2, z3.trans y3, z4.trans y4⟩
theorem chget_any (w : World) (hh : HeapF w F A S) (h : Ch k N P S m) (hi : i ≤ m) (hik : i < k) (hd : Held S i) :
    Calls Tryz.prog 24 #[.pointer (some ⟨A.h, 0, none⟩), .agg #[.int .i64 i, .int .i64 1], .int .i64 0] w fun e w' => e = .returned (.tuple #[.int .u64 (1000 + (i : Int)), .int .i64 0]) ∧ ∃ S', (Ch k N P S' (max m (i + 1)) ∧ Held S' i) ∧ HeapF w' (grow F w w') A S' ∧ Only F w w' := by
  have ht := (h.touchC hh hi hik hd).mono (T2 := fun S' => Ch k N P S' (max m (i + 1)) ∧ Held S' i) (fun S' h2 => ⟨h2.1, h2.2 i hd⟩)
  refine eget_any (p := 0) (val := 1000 + i) w hh ht ?_
  rintro S' ⟨hc, x, x1, x2, x3, x4⟩
  refine ⟨x, 0, hc.ev.good.objOk x1 x2, x3, x4, by rw [hc.ev.lay]; decide, by rw [hc.ev.lay]; decide, ?_⟩
  rw [hc.ev.cont i x x1 x2 0 (by rw [hc.ev.lay, show z0 i = 0 from rfl, L22_size]; decide)]
  rfl
theorem chref0_any (w : World) (hh : HeapF w F A S) (h : Ch k N P S m) (hi : i ≤ m) (hik : i + 1 = k) (hd : Held S i) :
    Calls Tryz.prog 27 #[.pointer (some ⟨A.h, 0, none⟩), .agg #[.int .i64 i, .int .i64 1], .int .i64 1] w fun e w' => e = .returned (.tuple #[linkV 0 0 0, .int .i64 0]) ∧ ∃ S', (Ch k N P S' (max m (i + 1)) ∧ Held S' i) ∧ HeapF w' (grow F w w') A S' ∧ Only F w w' := by
  have ht := (h.touchC hh hi (by omega) hd).mono (T2 := fun S' => Ch k N P S' (max m (i + 1)) ∧ Held S' i) (fun S' h2 => ⟨h2.1, h2.2 i hd⟩)
  refine eref0_any (p := 1) w hh ht ?_
  rintro S' ⟨hc, x, x1, x2, x3, x4⟩
  refine ⟨x, 0, hc.ev.good.objOk x1 x2, x3, x4, by rw [hc.ev.lay]; decide, by rw [hc.ev.lay]; decide, ?_⟩
  rw [hc.ev.cont i x x1 x2 1 (by rw [hc.ev.lay, show z0 i = 0 from rfl, L22_size]; decide)]
  unfold ctB
  rw [if_neg (by decide), if_neg (by omega)]
  rfl
theorem chref2_any (w : World) (hh : HeapF w F A S) (h : Ch k N P S m) (hi : i ≤ m) (hik : i + 1 < k) (hd : Held S i) :
    Calls Tryz.prog 27 #[.pointer (some ⟨A.h, 0, none⟩), .agg #[.int .i64 i, .int .i64 1], .int .i64 1] w fun e w' => e = .returned (.tuple #[linkV 2 (i + 1) 1, .int .i64 0]) ∧ ∃ S', (∃ m', Ch k N P S' m' ∧ i + 1 ≤ m' ∧ Held S' i ∧ Held S' (i + 1)) ∧ HeapF w' (grow F w w') A S' ∧ Only F w w' := by
  have ht := (h.touchC hh hi (by omega) hd).mono (T2 := fun S' => Ch k N P S' (max m (i + 1)) ∧ Held S' i) (fun S' h2 => ⟨h2.1, h2.2 i hd⟩)
  refine eref2_any (p := 1) (j := i + 1) (gj := 1) w hh ht ?_
  rintro S' ⟨hc, hdi⟩
  obtain ⟨x, x1, x2, x3, x4⟩ := id hdi
  obtain ⟨y, y1, y2, y3⟩ := hc.old (i + 1) (by have := hc.kN; omega)
  refine ⟨x, y, 0, hc.ev.good.objOk x1 x2, x3, x4, by rw [hc.ev.lay]; decide, by rw [hc.ev.lay]; decide, y1, y2, y3, by have := hc.kN; have := hc.n49; omega, by decide, by decide, ?_, fun W F1 hw => ?_⟩
  · rw [hc.ev.cont i x x1 x2 1 (by rw [hc.ev.lay, show z0 i = 0 from rfl, L22_size]; decide)]
    unfold ctB
    rw [if_neg (by decide), if_pos (by have := hc.kN; omega)]
  · have hlt := (List.getElem?_eq_some_iff.1 y1).1
    refine ((hc.mark y1 y2 true).touchC hw (by omega) hik ⟨_, List.getElem?_set_self hlt, y2, y3, rfl⟩).mono (fun S2 h2 => ⟨_, h2.1, by omega, h2.2 i (hdi.mark y1 (fun _ => rfl)), h2.2 (i + 1) ⟨_, List.getElem?_set_self hlt, y2, y3, rfl⟩⟩)
theorem chdrop_any (w : World) (hh : HeapF w F A S) (h : Ch k N P S m) (hd : Held S i) :
    Calls Tryz.prog 11 #[.pointer (some ⟨A.c, 0, none⟩), .agg #[.int .i64 i, .int .i64 1]] w fun e w' => e = .returned (.int .i64 0) ∧ ∃ S', (Ch k N P S' m ∧ ∀ j, j ≠ i → Held S j → Held S' j) ∧ HeapF w' (grow F w w') A S' ∧ Only F w w' := by
  obtain ⟨x, x1, x2, x3, x4⟩ := hd
  have hc := cdrop_any (i := i) w hh x1 x2 x4
  rw [x3] at hc
  refine hc.mono ?_
  rintro e w1 ⟨rfl, h2⟩
  have hm := h.mark x1 x2 false
  rw [x3] at hm
  refine ⟨rfl, _, ⟨hm, fun j hj hjd => ?_⟩, h2⟩
  have := hjd.mark (b := false) x1 (fun e => absurd e.symm hj)
  rw [x3] at this
  exact this
theorem ch_stepJ (i : Nat) : StepJ (fun n S => Ch k N P S n ∧ Held S i) := by
  rintro n S ⟨hc, hd⟩
  obtain ⟨h1, h2, h3⟩ := Ch.evJ.step n S hc
  refine ⟨h1, h2, h3.imp (fun h => ⟨h.1, h.2.1, h.2.2, hd⟩) ?_⟩
  rintro ⟨j, x, count, o, k1, k2, k3, k4⟩
  refine ⟨j, x, count, o, k1, k2, k3, fun S2 hmv => ⟨k4 S2 hmv, ?_⟩⟩
  obtain ⟨y, y1, y2, y3, y4⟩ := hd
  obtain ⟨z, z1, z2, z3, z4⟩ := hmv.slot k3.ob.sl y1
  exact ⟨z, z1, z2.trans y2, z3.trans y3, z4.trans y4⟩
theorem chstep_any {b : Nat} (w : World) (hh : HeapF w F A S) (h : Ch k N P S m) (hd : Held S i) (hb : 1 ≤ b) (hb2 : b ≤ 1000000) :
    Calls Tryz.prog 26 #[.pointer (some ⟨A.h, 0, none⟩), .int .i64 b] w fun e w' => (∃ d : Nat, e = .returned (.tuple #[.int .i64 d, .int .i64 0])) ∧ ∃ S' m', (Ch k N P S' m' ∧ m ≤ m' ∧ Held S' i) ∧ HeapF w' (grow F w w') A S' ∧ Only F w w' := by
  refine (estep_any (ch_stepJ i) w hh ⟨h, hd⟩ hb hb2).mono ?_
  rintro e w1 ⟨h1, S', n, ⟨h2, h3⟩, h4, -, h5⟩
  exact ⟨h1, S', n, ⟨h2, h4, h3⟩, h5⟩
end Go.Proofs.YtcdpnfchmpncjaaGreatDoor

namespace Go.Proofs.YtcdpnfchmpncjaaGreatDoor
open Go.RowKit Go.Tr Go.Shelf
variable {w w' : World} {F : Nat → Prop} {A : Ad} {S : HS}
theorem infoTok : (Tryz.prog.info? 38).map (fun i => (i.zero, i.size, i.bytes)) = some (some (.agg #[.int .i64 0, .int .i64 0]), 2, 16) := by kernel_rfl
def tokL (m : Nat) : List (Nat × Nat) := (List.range m).map (fun j => (j, 1))
theorem tokL_succ (m : Nat) : tokL (m + 1) = tokL m ++ [(m, 1)] := by unfold tokL; rw [List.range_succ, List.map_append]; rfl
theorem tokL_get {m p : Nat} (h : p < m) : (tokL m)[p]? = some (p, 1) := by unfold tokL; simp [h]
theorem tokL_length (m : Nat) : (tokL m).length = m := by simp [tokL]
theorem Run.apart {W W' : World} {F1 G : Nat → Prop} (h : Run w F W F1 A S) (ho : Only G W W') (hG : ∀ k, G k → ¬ F1 k ∧ w.heap.size ≤ k) : Run w F W' F1 A S := by
  obtain ⟨⟨h0, tau, ht⟩, h2, h3, h4⟩ := h
  exact ⟨⟨fun k hk => Nat.lt_of_lt_of_le (h0 k hk) ho.size, tau, fun i => (pp_parts A S).kept i W _ _ (ht i) (fun k hk hl => ho.block k hl (fun hg => (hG k hg).1 hk.1))⟩, h2.trans ho (fun k hk => Or.inr (hG k hk).2), h3, h4⟩
def TnSt (w : World) (ah ac k m : Nat) (v : Value) (W : World) : Prop := ∃ F' A S ct, A.h = ah ∧ A.c = ac ∧ Run w (fun _ => False) W F' A S ∧ ChS S m ct (fun _ => true) ∧ LikeB k m ct ∧ OwnO W 2 v m (pcells (tokL m)) ∧ ∀ q, v.ownBlock = some q → ¬ F' q ∧ w.heap.size ≤ q
def TmK (w W : World) (F : Nat → Prop) (N tb : Nat) (v : Value) (a c : Nat) : Prop := OwnO W 2 v N (pcells (tokL N)) ∧ (∀ q, v.ownBlock = some q → ¬ F q ∧ w.heap.size ≤ q ∧ q ≠ tb) ∧ Bx W F tb (.cells #[.int .i64 a, .int .i64 c] 38 (0, 0)) ∧ w.heap.size ≤ tb
theorem TmK.op {W W' : World} {N tb a c : Nat} {v : Value} (h : TmK w W F N tb v a c) (ho : Only F W W') : TmK w W' (grow F W W') N tb v a c :=
  ⟨h.1.kept (fun q hq => ho.block q (h.1.lt q hq) (h.2.1 q hq).1), fun q hq => ⟨fun hg => hg.elim (h.2.1 q hq).1 (fun h2 => absurd (h.1.lt q hq) (by omega)), (h.2.1 q hq).2⟩, h.2.2.1.op ho, h.2.2.2⟩
theorem TmK.below {W W' : World} {N tb a c : Nat} {v : Value} (h : TmK w W F N tb v a c) (hb : Below W.heap.size W W') : TmK w W' F N tb v a c :=
  ⟨h.1.kept (fun q hq => hb.block q (h.1.lt q hq)), h.2.1, h.2.2.1.below hb, h.2.2.2⟩
theorem TmK.store {W : World} {N tb a c : Nat} {v : Value} (h : TmK w W F N tb v a c) (a2 c2 : Nat) : TmK w ((W.setCell ⟨tb, 0, none⟩ (.int .i64 a2)).setCell ⟨tb, 1, none⟩ (.int .i64 c2)) F N tb v a2 c2 :=
  ⟨h.1.kept (fun q hq => (Below.heap_setCell _ _ _ _ (h.2.1 q hq).2.2).trans (Below.heap_setCell _ _ _ _ (h.2.1 q hq).2.2)), h.2.1, ⟨h.2.2.1.1, by simpa using block_setCell (block_setCell h.2.2.1.2 0 (.int .i64 a2)) 1 (.int .i64 c2)⟩, h.2.2.2⟩
def TmSt (w : World) (ah ac k N : Nat) (P : List (Nat × Nat)) (tb i : Nat) (v : Value) (W : World) : Prop := ∃ F' A S m a c, A.h = ah ∧ A.c = ac ∧ Run w (fun _ => False) W F' A S ∧ (Ch k N P S m ∧ i ≤ m ∧ (i < k → Held S i)) ∧ TmK w W F' N tb v a c ∧ (i < k → a = i ∧ c = 1)
def TdSt (w : World) (ah ac k N q : Nat) (v : Value) (W : World) : Prop := ∃ F' A S ct, A.h = ah ∧ A.c = ac ∧ Run w (fun _ => False) W F' A S ∧ ChS S N ct (fun l => decide (l = 0 ∨ q < l)) ∧ LikeB k N ct ∧ OwnO W 2 v N (pcells (tokL N)) ∧ ∀ q, v.ownBlock = some q → ¬ F' q ∧ w.heap.size ≤ q
theorem ChS.hds {m : Nat} {ct : Nat → Nat → Nat} {hd hd2 : Nat → Bool} (h : ChS S m ct hd) (he : ∀ l, l < m → hd l = hd2 l) : ChS S m ct hd2 :=
  ⟨h.m3, h.c, h.kk, h.len, fun l hl => by obtain ⟨x, h1, h2, h3, h4⟩ := h.old l hl; exact ⟨x, h1, h2, h3.trans (he l hl), h4⟩, h.new, h.cont, h.mine⟩
theorem ChS.let_go {m p q : Nat} {ct : Nat → Nat → Nat} {x : Sl} (h : ChS S m ct (fun l => decide (l = 0 ∨ q < l))) (hx : S.sl[p]? = some x) (hu : x.used = true) (hp : p = q + 1) (hi : p < m) : ChS { S with sl := S.sl.set p ⟨x.gen, x.used, x.addr, x.region, false, x.pinned⟩ } m ct (fun l => decide (l = 0 ∨ q + 1 < l)) := by
  refine (h.drop hx hu hi).hds (fun l hl => ?_)
  by_cases e : l = p
  · rw [if_pos e]
    exact (decide_eq_false_iff_not.2 (by omega)).symm
  · rw [if_neg e]
    exact decide_eq_decide.2 (by omega)
theorem slice_tail {v : Value} {n : Nat} {xs : List Value} (h : OwnO w 2 v (n + 1) xs) : ∃ g off cap tp c2, Hid (v = .slice (some ⟨g, off, none⟩) (n + 1) cap) ∧ (∀ wx, (Instr.slice 75 v (some (.int .i64 1)) none none).run Tryz.prog wx = .ok (.slice tp n c2) wx) ∧ (0 < n → tp = some ⟨g, off + 2, none⟩) := by
  obtain ⟨g, off, cap, rfl, h1, h2, -⟩ := h.tail (by decide)
  by_cases hc : cap = 1
  · subst hc
    have hn : n = 0 := by omega
    subst hn
    exact ⟨g, off, 1, some ⟨g, off, none⟩, 0, rfl, fun wx => by go_simp, fun h => absurd h (by decide)⟩
  · exact ⟨g, off, cap, some ⟨g, off + 2, none⟩, cap - 1, rfl, fun wx => by go_simp; intro h; omega, fun h => rfl⟩
theorem tok_cells {g off cap N p L : Nat} {v : Value} (hv : v = .slice (some ⟨g, off, none⟩) L cap) (h : OwnO w 2 v N (pcells (tokL N))) (hp : p < N) : w.cell? ⟨g, off + p * 2, none⟩ = some (.int .i64 (p : Nat)) ∧ w.cell? ⟨g, off + p * 2 + 1, none⟩ = some (.int .i64 1) := by
  subst hv
  obtain ⟨a, c, e, hs, -, -⟩ := h.seq
  cases e
  obtain ⟨b, o, x, y, e, h1, h2, h3⟩ := hs.part (k := p) (by rw [tokL_length]; exact hp)
  cases e
  have h4 := h3.out
  rw [tokL_get hp] at h4
  cases h4
  exact ⟨h1, h2⟩
set_option maxRecDepth 100000 in
set_option maxHeartbeats 8000000 in
theorem topchain_any (x y z : Int) (w : World) (hT : TzB w) : Calls Tryz.prog 5 #[.int .i64 x, .int .i64 y, .int .i64 z] w fun e w' => e = .returned (.bool true) ∧ Below w.heap.size w w' := by
  have HT := Lib.hid hT
  clear hT
  obtain ⟨i0, hi0, hz0, hz1, hz2⟩ := info_parts infoTok
  have HI0 := Lib.hid (And.intro hi0 (And.intro hz0 (And.intro hz1 hz2)))
  obtain ⟨k, hk, hk1, hk2⟩ : ∃ k : Nat, 1 + max 0 x % 30 = (k : Int) ∧ 1 ≤ k ∧ k ≤ 30 := by
    refine ⟨(1 + max 0 x % 30).toNat, ?_, ?_, ?_⟩ <;> omega
  obtain ⟨b, hb, hb1, hb2⟩ : ∃ b : Nat, 1 + max 0 y % 20 = (b : Int) ∧ 1 ≤ b ∧ b ≤ 20 := by
    refine ⟨(1 + max 0 y % 20).toNat, ?_, ?_, ?_⟩ <;> omega
  obtain ⟨g, hg, hg2⟩ : ∃ g : Nat, (max 0 z).tmod 20 = (g : Int) ∧ g ≤ 19 := by
    have h1 : 0 ≤ (max 0 z) := by omega
    have h2 := Int.tmod_eq_emod_of_nonneg (b := 20) h1
    refine ⟨((max 0 z).tmod 20).toNat, ?_, ?_⟩ <;> omega
  obtain ⟨N, hN⟩ : ∃ N : Nat, (k : Int) + (g : Int) = (N : Int) := ⟨k + g, by push_cast; rfl⟩
  have HNE : Hid (N = k + g) := by show _ = _; omega
  have hN2 : N ≤ 49 := by omega
  have hKN : k ≤ N := by omega
  clear hi0 hz0 hz1 hz2
  go_enter Tryz.func5, Tryz.ntmps5
  go_wp2_with fail
  clear hb hk hg
  refine (enew_any 60 8 60 w (by omega) (by omega) (by omega) (by omega) (by omega) (by omega)).mono ?_
  rintro e w1 ⟨A, rfl, h1, hb1'⟩
  have HB1 := Lib.hid hb1'
  have HRX1 : Hid (RunX (P0 A 60 8 60 none TS.new [] [] true false false) w (fun _ => False) w1 (Nw w w1)) := ⟨h1, Only.of_below hb1' _, fun k hk => Or.inr hk.1⟩
  clear h1 hb1'
  go_wp2_with fail
  refine (alive_any w1 (HT.out.below HB1.out)).mono ?_
  rintro e w1' ⟨rfl, hb1'⟩
  have HRX1' := Lib.hid (HRX1.out.below (p0_parts _ _ _ _ _ _ _ _ _ _ _) hb1')
  have e0 := p0_ev HRX1'.out.1 (Below.refl _ _)
  have hba : Below w1'.heap.size w1' (w1'.alloc (.cells #[.int .u64 2, .int .u64 2, .int .u64 0] 34)) := (Below.refl _ w1').alloc (Nat.le_refl _) _
  have HRX2 := Lib.hid (HRX1'.out.below (p0_parts _ _ _ _ _ _ _ _ _ _ _) hba)
  have HSQ : Hid (SeqAt (w1'.alloc (.cells #[.int .u64 2, .int .u64 2, .int .u64 0] 34)) (some ⟨w1'.heap.size, 0, none⟩) (us [L22.fixed + L22.record * 256, 2, 0])) := SeqAt.of_block (cs := [.int .u64 2, .int .u64 2, .int .u64 0]) (heap_alloc_new w1' _)
  clear hba hb1' HRX1
  go_wp2_with fail
  clear e0
  generalize w1'.alloc (.cells #[.int .u64 2, .int .u64 2, .int .u64 0] 34) = w2 at *
  refine (cdefine_any (L := L22) 2 0 _ 3 w2 HRX2.out.1 (HRX2.out.tz HT.out).at HSQ.out L22_right (by decide) (by decide) spread2 spread0).mono ?_
  rintro e w3 ⟨rfl, h3⟩
  have HRX3 := Lib.hid (HRX2.out.op h3)
  have e0 := p0_ev h3.1 (Below.refl _ _)
  clear h3 HSQ
  go_wp2_with fail
  clear e0
  refine (copen_any w3 HRX3.out.1 (HRX3.out.tz HT.out)).mono ?_
  rintro e w4 ⟨rfl, u, bg, h4⟩
  have HRN4 := Lib.hid (HRX3.out.opened HT.out h4)
  obtain ⟨ah, hah⟩ : ∃ ah, ah = A.h := ⟨_, rfl⟩
  obtain ⟨ac, hac⟩ : ∃ ac, ac = A.c := ⟨_, rfl⟩
  have HST : Hid (TnSt w ah ac k 0 (.slice none 0 0) w4) := ⟨_, { A with u := u, bg := bg }, _, _, hah.symm, hac.symm, HRN4.out, ChS.start, fun i hi => by omega, OwnO.nil _ _, fun q hq => by simp [Value.ownBlock] at hq⟩
  rw [← hah]
  clear h4 HRX3 HRX2 HRX1' HRN4 hah hac
  go_wp2_with fail
  go_loopw [12, 76] (fun v i wr => ∃ m : Nat, i = .int .i64 (m : Int) ∧ m ≤ N ∧ Hid (TnSt w ah ac k m v wr)) (fun _ i _ => N - (intOf i).toNat)
  case atStart => exact ⟨0, rfl, Nat.zero_le _, HST.out⟩
  case round =>
    clear HST
    obtain ⟨m, rfl, hm, HR⟩ := hrel
    by_cases hlt : m < N
    ·
      have hlt2 : (m : Int) < (N : Int) := by omega
      obtain ⟨F', A', S, ct, hah, hac, hrun, hc, hlk, how, hnb⟩ := HR.out
      have hmk := hc.makeOk (by omega)
      have HMK := Lib.hid (emake_any wr hrun.heap hc.m3.on hmk)
      rw [hah] at HMK
      have HMK' : Hid (Calls Tryz.prog 10 #[.pointer (some ⟨ah, 0, none⟩), .int .i64 1, .int .i64 1, .int .i64 0] wr fun e w' => e = .returned (.tuple #[.agg #[.int .i64 m, .int .i64 1], .int .i64 0]) ∧ ∃ addr S1, AllocSt S (S.L.size 0 + 1) addr S1 ∧ HeapF w' (grow F' wr w') A' (mkS S1 m 1 addr 0) ∧ Only F' wr w') := HMK.out
      have HRN := Lib.hid hrun
      have HC := Lib.hid hc
      have HLK := Lib.hid hlk
      have HOW := Lib.hid how
      have HNB := Lib.hid hnb
      have HAC := Lib.hid (And.intro hah hac)
      obtain ⟨oa, oc, rfl, -, hoc, -⟩ := how.seq
      clear hmk hrun hc hlk how hnb hah hac HR HMK
      go_wp2_with fail
      refine HMK'.out.mono ?_
      rintro e w5 ⟨rfl, ad, S1, ha, h5⟩
      have HRN5 := Lib.hid (HRN.out.op h5)
      have hm5 := HC.out.made (by omega) ha
      have hsz : wr.heap.size ≤ w5.heap.size := h5.2.size
      have HC5 := Lib.hid hm5
      have HOW5 : Hid (OwnO w5 2 (.slice oa m oc) m (pcells (tokL m))) := HOW.out.kept (fun k hk => h5.2.block k (HOW.out.lt k hk) (HNB.out k hk).1)
      have HNB5 : Hid (∀ q, (Value.slice oa m oc).ownBlock = some q → ¬ grow F' wr w5 q ∧ w.heap.size ≤ q) := fun q hq => ⟨fun hg => hg.elim (HNB.out q hq).1 (fun h => absurd (HOW.out.lt q hq) (by omega)), (HNB.out q hq).2⟩
      have hba : Below w5.heap.size w5 (w5.alloc (.cells #[.int .i64 m, .int .i64 1] 38)) := (Below.refl _ w5).alloc (Nat.le_refl _) _
      have HX6 : Hid (Bx (w5.alloc (.cells #[.int .i64 m, .int .i64 1] 38)) (grow F' wr w5) w5.heap.size (.cells #[.int .i64 m, .int .i64 1] 38 (0, 0))) := Bx.new HRN5.out.heap.lt
      obtain ⟨ta, hta⟩ : ∃ ta, ta = w5.heap.size := ⟨_, rfl⟩
      have HTA : Hid (∀ q, (Value.slice oa m oc).ownBlock = some q → q ≠ ta) := fun q hq e => by
        have := HOW5.out.lt q hq
        omega
      have HOW6 : Hid (OwnO (w5.alloc (.cells #[.int .i64 m, .int .i64 1] 38)) 2 (.slice oa m oc) m (pcells (tokL m))) := HOW5.out.kept (fun k hk => hba.block k (HOW5.out.lt k hk))
      rw [← hta] at HX6
      have HRN6 := Lib.hid (HRN5.out.below hba)
      clear h5 ha hm5 hsz HMK' hba HOW HOW5 HRN5 HNB HRN
      go_wp2_with fail
      rw [← hta]
      clear hta
      generalize w5.alloc (.cells #[.int .i64 m, .int .i64 1] 38) = w6 at *
      generalize grow F' wr w5 = F6 at *
      obtain ⟨xm, x1, x2, x3, x4⟩ := HC5.out.old m (by omega)
      have HST6 : Hid (Calls Tryz.prog 21 #[.pointer (some ⟨ah, 0, none⟩), .agg #[.int .i64 m, .int .i64 1], .int .i64 0, .int .u64 (1000 + (m : Int))] w6 fun e w' => e = .returned (.int .i64 0) ∧ HeapF w' (grow F6 w6 w') A' { (mkS S1 m 1 ad 0) with ws := (mkS S1 m 1 ad 0).ws.set (xm.addr + 1 + 0) (1000 + m) } ∧ Only F6 w6 w') := by
        have := eset0_any (p := 0) (v := 1000 + m) w6 HRN6.out.heap HC5.out.m3.on (HC5.out.obj x1 x2) x3 (by rw [HC5.out.m3.lay]; decide) (by rw [HC5.out.m3.lay]; decide) (by omega)
        rw [x4, HAC.out.1] at this
        exact this
      have HC7 := Lib.hid (HC5.out.word (p := 0) (v := 1000 + m) x1 x2 (by decide))
      refine HST6.out.mono ?_
      rintro e w7 ⟨rfl, h7⟩
      have HRN7 := Lib.hid (HRN6.out.op h7)
      have HX7 := Lib.hid (HX6.out.op h7.2)
      have HOW7 : Hid (OwnO w7 2 (.slice oa m oc) m (pcells (tokL m))) := HOW6.out.kept (fun k hk => h7.2.block k (HOW6.out.lt k hk) (HNB5.out k hk).1)
      have HNB7 : Hid (∀ q, (Value.slice oa m oc).ownBlock = some q → ¬ grow F6 w6 w7 q ∧ w.heap.size ≤ q ∧ q ≠ ta) := fun q hq => ⟨fun hg => hg.elim (HNB5.out q hq).1 (fun h => absurd (HOW6.out.lt q hq) (by omega)), (HNB5.out q hq).2, HTA.out q hq⟩
      generalize mkS S1 m 1 ad 0 = S5 at *
      generalize hS7 : ({ S5 with ws := S5.ws.set (xm.addr + 1 + 0) (1000 + m) } : HS) = S7 at *
      generalize grow F6 w6 w7 = F7 at *
      have d0 := (cells_of_block HX7.out.2 0).1
      have d1 := (cells_of_block HX7.out.2 1).1
      simp at d0 d1
      clear h7 HST6 x1 x2 x3 x4 HC5 hS7 HOW6 HNB5 HTA HX6 HRN6
      obtain ⟨hi0, hz0, hz1, hz2⟩ := HI0.out
      go_wp2_with (first
        | (at_builtin; refine wpList_appendO _ rfl (.tmp 95) (.tmp 97) 75 rfl 38 i0 _ 2 16 Tryz.underlying75 hi0 hz0 hz1 hz2 rfl (by decide) (.slice oa m oc) m (pcells (tokL m)) rfl (HOW7.out.kept (fun k hk => Below.heap_alloc _ _ _ (HOW7.out.lt k hk))) ⟨w7.heap.size, 0, none⟩ 1 1 [.int .i64 (m : Int), .int .i64 1] rfl rfl ?_ ?_ (by unfold maxLen; omega) (by omega) ?_)
        | fail)
      · intro j u hj
        rcases j with _ | _ | j
        · simp at hj; subst hj; simp [Addr.add]
        · simp at hj; subst hj; simp [Addr.add]
        · simp at hj
      · intro u hu; simp at hu; rcases hu with rfl | rfl <;> rfl
      · intro v8 w8 r1 r2 r3
        have hcells : pcells (tokL m) ++ [.int .i64 (m : Int), .int .i64 1] = pcells (tokL (m + 1)) := by rw [tokL_succ, pcells_append]; rfl
        rw [hcells] at r1
        have hba : Below w7.heap.size w7 (w7.alloc (.cells #[.int .i64 m, .int .i64 1] 38)) := (Below.refl _ w7).alloc (Nat.le_refl _) _
        have hsz : w7.heap.size ≤ (w7.alloc (.cells #[.int .i64 m, .int .i64 1] 38)).heap.size := hba.size
        have hws : w.heap.size ≤ w7.heap.size := HRN7.out.2.1.size
        have HRN8 : Hid (Run w (fun _ => False) w8 F7 A' S7) := (HRN7.out.below hba).apart (G := fun q => (Value.slice oa m oc).ownBlock = some q) ⟨r2.os, r2.tape, r2.output, r2.size, fun q hl hn => r2.block q hl (fun e => hn e.symm)⟩ (fun q hq => ⟨(HNB7.out q hq).1, (HNB7.out q hq).2.1⟩)
        have HX8 : Hid (Bx w8 F7 ta (.cells #[.int .i64 m, .int .i64 1] 38 (0, 0))) := ⟨HX7.out.1, (r2.block ta (Nat.lt_of_lt_of_le (block_lt HX7.out.2) hsz) (fun e => (HNB7.out ta e.symm).2.2 rfl)).trans ((hba.block ta (block_lt HX7.out.2)).trans HX7.out.2)⟩
        have HNB8 : Hid (∀ q, v8.ownBlock = some q → ¬ F7 q ∧ w.heap.size ≤ q ∧ q ≠ ta) := fun q hq => (r3 q hq).elim (HNB7.out q) (fun h => ⟨fun hf => by have := HRN7.out.heap.lt q hf; omega, by omega, fun e => by have := block_lt HX7.out.2; omega⟩)
        have HOW8 := Lib.hid r1
        obtain ⟨oa8, oc8, rfl, hq8, hoc8, -⟩ := r1.seq
        have d0 := (cells_of_block HX8.out.2 0).1
        have d1 := (cells_of_block HX8.out.2 1).1
        simp at d0 d1
        clear r1 r2 r3 hcells hba hsz hws HRN7 HX7 HNB7 HOW7 hi0 hz0 hz1 hz2
        go_wp2_with fail
        clear d0 d1
        have hnx := HLK.out.next
        by_cases hm0 : 0 < m ∧ m ≠ k
        · rw [if_pos hm0] at hnx
          obtain ⟨hm0, hmk⟩ := hm0
          obtain ⟨p, hp⟩ : ∃ p, m = p + 1 := ⟨m - 1, by omega⟩
          have hp1 : (m : Int) - 1 = (p : Int) := by omega
          have hp2 : IntKind.i64.wrap ((m : Int) - 1) = (p : Int) := by rw [hp1]; exact IntWalk.i64_in _ (by omega)
          have hp3 : IntKind.i64.wrap (p : Int) = (p : Int) := IntWalk.i64_in _ (by omega)
          have hm0' : (0 : Int) < (m : Int) := by omega
          have hmk' : ¬ (m : Int) = (k : Int) := by omega
          have hmk2 : ((m : Int) != (k : Int)) = true := by simpa using hmk'
          have hmk3 : ((m : Int) == (k : Int)) = false := by simpa using hmk'
          have hm0n : ¬ (m : Int) ≤ 0 := by omega
          have hp4 : (p : Int) < (m : Int) + 1 := by omega
          obtain ⟨bb, off, c0, n0, rfl, l1, l2, l3⟩ := hq8.part (k := p) (by rw [tokL_length]; omega)
          have hl3 := l3.out
          rw [tokL_get (by omega)] at hl3
          cases hl3
          obtain ⟨x, x1, x2, x3, x4⟩ := HC7.out.old p (by omega)
          obtain ⟨ym, y1, y2, y3, y4⟩ := HC7.out.old m (by omega)
          have hup : upC (newC ct m) m 0 (1000 + m) p 1 = 0 := by
            unfold upC newC
            rw [if_neg (by omega), if_neg (by omega), HLK.out p (by omega) 1 (by decide)]
            unfold ctB
            rw [if_neg (by decide), if_neg (by omega)]
          have hcw := HC7.out.cont p x x1 x2 1 (by rw [HC7.out.m3.lay, show z0 p = 0 from rfl, L22_size]; decide)
          rw [hup] at hcw
          have HTI : Hid (Calls Tryz.prog 20 #[.pointer (some ⟨ac, 0, none⟩), .agg #[.int .i64 p, .int .i64 1], .int .i64 1, .agg #[.int .i64 m, .int .i64 1]] w8.drew fun e w' => e = .returned (.int .i64 0) ∧ HeapF w' (grow F7 w8.drew w') A' { S7 with ws := S7.ws.set (x.addr + 1 + 1) (linkN m 1) } ∧ Only F7 w8.drew w') := by
            have := cTie_any (p := 1) none w8.drew (HRN8.out.below (Below.refl _ _).drew).heap (HC7.out.obj x1 x2) x3 (HC7.out.m3.good.ent p x x1 x2).reg y1 y2 y3 (HC7.out.m3.good.ent m ym y1 y2).reg (by rw [HC7.out.m3.lay]; decide) (by rw [HC7.out.m3.lay]; decide) (by omega) (by omega) (by omega) (fun i g e => by cases e) hcw
            rw [x4, y4, HAC.out.2] at this
            exact this
          have hc9 := HC7.out.word (p := 1) (v := linkN m 1) x1 x2 (by decide)
          have hmp : m - 1 = p := by omega
          rw [hmp] at hnx
          have HNX : Hid (∀ w', HeapF w' (grow F7 w8.drew w') A' { S7 with ws := S7.ws.set (x.addr + 1 + 1) (linkN m 1) } ∧ Only F7 w8.drew w' → TnSt w ah ac k (m + 1) (.slice (some ⟨bb, off, none⟩) (m + 1) oc8) w') := fun w' h9 => ⟨_, A', _, _, HAC.out.1, HAC.out.2, (HRN8.out.below (Below.refl _ _).drew).op h9, hc9, hnx, HOW8.out.kept (fun q hq => h9.2.block q (HOW8.out.lt q hq) (HNB8.out q hq).1), fun q hq => ⟨fun hg => hg.elim (HNB8.out q hq).1 (fun h => absurd (HOW8.out.lt q hq) (by have h2 : w8.drew.heap.size = w8.heap.size := rfl; omega)), (HNB8.out q hq).2.1⟩⟩
          have HCF : Hid (∀ w', HeapF w' (grow F7 w8.drew w') A' { S7 with ws := S7.ws.set (x.addr + 1 + 1) (linkN m 1) } ∧ Only F7 w8.drew w' → w'.cell? ⟨ah, 0, none⟩ = some (.pointer (some ⟨ac, 0, none⟩)) ∧ w'.cell? ⟨ta, 0, none⟩ = some (.int .i64 m) ∧ w'.cell? ⟨ta, 1, none⟩ = some (.int .i64 1) ∧ w'.cell? ⟨bb, off + p * 2, none⟩ = some (.int .i64 (p : Nat)) ∧ w'.cell? ⟨bb, off + p * 2 + 1, none⟩ = some (.int .i64 (1 : Nat))) := fun w' h9 => by
            have e0 := h9.1.evc (Below.refl _ _)
            rw [HAC.out.1, HAC.out.2] at e0
            have hbb := h9.2.block bb (HOW8.out.lt bb rfl) (HNB8.out bb rfl).1
            have hx9 := (HX8.out.below (Below.refl _ _).drew).op h9.2
            exact ⟨e0, (cells_of_block hx9.2 0).1, (cells_of_block hx9.2 1).1, (World.cell?_of_block (a := ⟨bb, _, none⟩) hbb).trans l1, (World.cell?_of_block (a := ⟨bb, _, none⟩) hbb).trans l2⟩
          have e0 := HRN8.out.heap.evc (Below.refl _ _)
          rw [HAC.out.1, HAC.out.2] at e0
          refine wp_region_held_drew (S := fun W => W.cell? ⟨ah, 0, none⟩ = some (.pointer (some ⟨ac, 0, none⟩)) ∧ W.cell? ⟨ta, 0, none⟩ = some (.int .i64 m) ∧ W.cell? ⟨ta, 1, none⟩ = some (.int .i64 1) ∧ W.cell? ⟨bb, off + p * 2, none⟩ = some (.int .i64 (p : Nat)) ∧ W.cell? ⟨bb, off + p * 2 + 1, none⟩ = some (.int .i64 (1 : Nat))) (by kernel_rfl) ⟨e0, (cells_of_block HX8.out.2 0).1, (cells_of_block HX8.out.2 1).1, l1, l2⟩ (fun hH => ?_)
          clear e0 l1 l2 l3 hcw hup hc9 hnx hq8 x1 x2 x3 x4 y1 y2 y3 y4 hmp hp
          refine tk 0 (v := ?_) rfl ?_ ?_; rotate_left; · intro W hW; obtain ⟨d0, d1, d2, d3, d4⟩ := hW; go_simp; try with_reducible rfl
          try simp only [Go.Tr.nz]
          refine tk 1 (v := ?_) rfl ?_ ?_; rotate_left; · intro W hW; obtain ⟨d0, d1, d2, d3, d4⟩ := hW; go_simp; try with_reducible rfl
          try simp only [Go.Tr.nz]
          refine tk 2 (v := ?_) rfl ?_ ?_; rotate_left; · intro W hW; obtain ⟨d0, d1, d2, d3, d4⟩ := hW; go_simp; try with_reducible rfl
          try simp only [Go.Tr.nz]
          refine tk 3 (v := ?_) rfl ?_ ?_; rotate_left; · intro W hW; obtain ⟨d0, d1, d2, d3, d4⟩ := hW; go_simp; try with_reducible rfl
          try simp only [Go.Tr.nz]
          refine tk 4 (v := ?_) rfl ?_ ?_; rotate_left; · intro W hW; obtain ⟨d0, d1, d2, d3, d4⟩ := hW; go_simp; try with_reducible rfl
          try simp only [Go.Tr.nz]
          refine tk 5 (v := ?_) rfl ?_ ?_; rotate_left; · intro W hW; obtain ⟨d0, d1, d2, d3, d4⟩ := hW; go_simp; try with_reducible rfl
          try simp only [Go.Tr.nz]
          refine tk 6 (v := ?_) rfl ?_ ?_; rotate_left; · intro W hW; obtain ⟨d0, d1, d2, d3, d4⟩ := hW; go_simp; try with_reducible rfl
          try simp only [Go.Tr.nz]
          refine tk 7 (v := ?_) rfl ?_ ?_; rotate_left; · intro W hW; obtain ⟨d0, d1, d2, d3, d4⟩ := hW; go_simp; try with_reducible rfl
          try simp only [Go.Tr.nz]
          refine tk 8 (v := ?_) rfl ?_ ?_; rotate_left; · intro W hW; obtain ⟨d0, d1, d2, d3, d4⟩ := hW; go_simp; try with_reducible rfl
          try simp only [Go.Tr.nz]
          refine tk 9 (v := ?_) rfl ?_ ?_; rotate_left; · intro W hW; obtain ⟨d0, d1, d2, d3, d4⟩ := hW; go_simp; try with_reducible rfl
          try simp only [Go.Tr.nz]
          refine tk 10 (v := ?_) rfl ?_ ?_; rotate_left; · intro W hW; obtain ⟨d0, d1, d2, d3, d4⟩ := hW; go_simp; try with_reducible rfl
          try simp only [Go.Tr.nz]
          refine tk 11 (v := ?_) rfl ?_ ?_; rotate_left; · intro W hW; obtain ⟨d0, d1, d2, d3, d4⟩ := hW; go_simp; try with_reducible rfl
          try simp only [Go.Tr.nz]
          refine tk 12 (v := ?_) rfl ?_ ?_; rotate_left; · intro W hW; obtain ⟨d0, d1, d2, d3, d4⟩ := hW; go_simp; try with_reducible rfl
          try simp only [Go.Tr.nz]
          refine tk 13 (v := ?_) rfl ?_ ?_; rotate_left; · intro W hW; obtain ⟨d0, d1, d2, d3, d4⟩ := hW; go_simp; try with_reducible rfl
          try simp only [Go.Tr.nz]
          refine tk 14 (v := ?_) rfl ?_ ?_; rotate_left; · intro W hW; obtain ⟨d0, d1, d2, d3, d4⟩ := hW; go_simp; try with_reducible rfl
          try simp only [Go.Tr.nz]
          refine tk 15 (v := ?_) rfl ?_ ?_; rotate_left; · intro W hW; obtain ⟨d0, d1, d2, d3, d4⟩ := hW; go_simp; try with_reducible rfl
          try simp only [Go.Tr.nz]
          refine tk 16 (v := ?_) rfl ?_ ?_; rotate_left; · intro W hW; obtain ⟨d0, d1, d2, d3, d4⟩ := hW; go_simp; try with_reducible rfl
          try simp only [Go.Tr.nz]
          refine tk 17 (v := ?_) rfl ?_ ?_; rotate_left; · intro W hW; obtain ⟨d0, d1, d2, d3, d4⟩ := hW; go_simp; try with_reducible rfl
          try simp only [Go.Tr.nz]
          refine rd 18 rfl (fun K hK => ?_)
          go_simp
          refine HTI.out.mono ?_
          rintro e w9 ⟨rfl, h9⟩
          have HN9 := Lib.hid (HNX.out w9 h9)
          refine hK.out _ _ (HCF.out w9 h9) (fun hH => ?_)
          clear h9 hK K HNX HCF HTI
          refine tk 19 (v := ?_) rfl ?_ ?_; rotate_left; · intro W hW; go_simp; try with_reducible rfl
          try simp only [Go.Tr.nz]
          refine tk 20 (v := ?_) rfl ?_ ?_; rotate_left; · intro W hW; go_simp; try with_reducible rfl
          try simp only [Go.Tr.nz]
          refine wpAnyH_done (by kernel_rfl) ?_ _
          go_wp2_with fail
          go_roundw
          case rel => exact ⟨m + 1, by go_num, by omega, HN9.out⟩
          case measure => simp [intOf]; omega
        · rw [if_neg hm0] at hnx
          have HNX : Hid (TnSt w ah ac k (m + 1) (.slice oa8 (m + 1) oc8) w8.drew) := ⟨F7, A', S7, _, HAC.out.1, HAC.out.2, HRN8.out.below (Below.refl _ _).drew, HC7.out, hnx, HOW8.out.kept (fun q hq => rfl), fun q hq => ⟨(HNB8.out q hq).1, (HNB8.out q hq).2.1⟩⟩
          clear hnx
          by_cases h0 : m = 0
          · have hm0' : ¬ (0 : Int) < (m : Int) := by omega
            have hm0n : (m : Int) ≤ 0 := by omega
            have hz : ¬ 0 < m := by omega
            clear hm0 h0
            refine wp_region_held_drew (S := fun _ => True) (by kernel_rfl) trivial (fun hH => ?_)
            refine tk 0 (v := ?_) rfl ?_ ?_; rotate_left; · intro W hW; go_simp; try with_reducible rfl
            try simp only [Go.Tr.nz]
            refine tk 1 (v := ?_) rfl ?_ ?_; rotate_left; · intro W hW; go_simp; try with_reducible rfl
            try simp only [Go.Tr.nz]
            refine tk 2 (v := ?_) rfl ?_ ?_; rotate_left; · intro W hW; go_simp; try with_reducible rfl
            try simp only [Go.Tr.nz]
            refine tku 3 rfl ?_
            try simp only [Go.Tr.nz]
            refine tku 4 rfl ?_
            try simp only [Go.Tr.nz]
            refine tku 5 rfl ?_
            try simp only [Go.Tr.nz]
            refine tk 6 (v := ?_) rfl ?_ ?_; rotate_left; · intro W hW; go_simp; try with_reducible rfl
            try simp only [Go.Tr.nz]
            refine tk 7 (v := ?_) rfl ?_ ?_; rotate_left; · intro W hW; go_simp; try with_reducible rfl
            try simp only [Go.Tr.nz]
            refine tku 8 rfl ?_
            try simp only [Go.Tr.nz]
            refine tku 9 rfl ?_
            try simp only [Go.Tr.nz]
            refine tku 10 rfl ?_
            try simp only [Go.Tr.nz]
            refine tku 11 rfl ?_
            try simp only [Go.Tr.nz]
            refine tku 12 rfl ?_
            try simp only [Go.Tr.nz]
            refine tku 13 rfl ?_
            try simp only [Go.Tr.nz]
            refine tku 14 rfl ?_
            try simp only [Go.Tr.nz]
            refine tku 15 rfl ?_
            try simp only [Go.Tr.nz]
            refine tku 16 rfl ?_
            try simp only [Go.Tr.nz]
            refine tku 17 rfl ?_
            try simp only [Go.Tr.nz]
            refine tku 18 rfl ?_
            try simp only [Go.Tr.nz]
            refine tku 19 rfl ?_
            try simp only [Go.Tr.nz]
            refine tk 20 (v := ?_) rfl ?_ ?_; rotate_left; · intro W hW; go_simp; try with_reducible rfl
            try simp only [Go.Tr.nz]
            refine wpAnyH_done (by kernel_rfl) ?_ _
            go_wp2_with fail
            go_roundw
            case rel => exact ⟨m + 1, by go_num, by omega, HNX.out⟩
            case measure => simp [intOf]; omega
          · have hmk : m = k := by omega
            have hm0' : (0 : Int) < (k : Int) := by omega
            have hk0 : 0 < k := by omega
            have hm0n : ¬ (m : Int) ≤ 0 := by omega
            have hmk' : (m : Int) = (k : Int) := by omega
            clear hm0 h0
            refine wp_region_held_drew (S := fun _ => True) (by kernel_rfl) trivial (fun hH => ?_)
            refine tk 0 (v := ?_) rfl ?_ ?_; rotate_left; · intro W hW; go_simp; try with_reducible rfl
            try simp only [Go.Tr.nz]
            refine tk 1 (v := ?_) rfl ?_ ?_; rotate_left; · intro W hW; go_simp; try with_reducible rfl
            try simp only [Go.Tr.nz]
            refine tk 2 (v := ?_) rfl ?_ ?_; rotate_left; · intro W hW; go_simp; try with_reducible rfl
            try simp only [Go.Tr.nz]
            refine tk 3 (v := ?_) rfl ?_ ?_; rotate_left; · intro W hW; go_simp; try with_reducible rfl
            try simp only [Go.Tr.nz]
            refine tk 4 (v := ?_) rfl ?_ ?_; rotate_left; · intro W hW; go_simp; try with_reducible rfl
            try simp only [Go.Tr.nz]
            refine tk 5 (v := ?_) rfl ?_ ?_; rotate_left; · intro W hW; go_simp; try with_reducible rfl
            try simp only [Go.Tr.nz]
            refine tk 6 (v := ?_) rfl ?_ ?_; rotate_left; · intro W hW; go_simp; try with_reducible rfl
            try simp only [Go.Tr.nz]
            refine tk 7 (v := ?_) rfl ?_ ?_; rotate_left; · intro W hW; go_simp; try with_reducible rfl
            try simp only [Go.Tr.nz]
            refine tku 8 rfl ?_
            try simp only [Go.Tr.nz]
            refine tku 9 rfl ?_
            try simp only [Go.Tr.nz]
            refine tku 10 rfl ?_
            try simp only [Go.Tr.nz]
            refine tku 11 rfl ?_
            try simp only [Go.Tr.nz]
            refine tku 12 rfl ?_
            try simp only [Go.Tr.nz]
            refine tku 13 rfl ?_
            try simp only [Go.Tr.nz]
            refine tku 14 rfl ?_
            try simp only [Go.Tr.nz]
            refine tku 15 rfl ?_
            try simp only [Go.Tr.nz]
            refine tku 16 rfl ?_
            try simp only [Go.Tr.nz]
            refine tku 17 rfl ?_
            try simp only [Go.Tr.nz]
            refine tku 18 rfl ?_
            try simp only [Go.Tr.nz]
            refine tku 19 rfl ?_
            try simp only [Go.Tr.nz]
            refine tk 20 (v := ?_) rfl ?_ ?_; rotate_left; · intro W hW; go_simp; try with_reducible rfl
            try simp only [Go.Tr.nz]
            refine wpAnyH_done (by kernel_rfl) ?_ _
            go_wp2_with fail
            go_roundw
            case rel => exact ⟨m + 1, by go_num, by omega, HNX.out⟩
            case measure => simp [intOf]; omega
    · have hlt2 : ¬ ((m : Int) < (N : Int)) := by omega
      have hmN : m = N := by omega
      obtain ⟨n1, hn1⟩ : ∃ n1, N = n1 + 1 := ⟨N - 1, by omega⟩
      obtain ⟨F', A', S, ct, hah, hac, hrun, hc, hlk, how, hnb⟩ := HR.out
      rw [hmN] at hc hlk
      have HST1 : Hid (TdSt w ah ac k N 0 u12 wr) := ⟨F', A', S, ct, hah, hac, hrun, hc.hds (fun l _ => by simp; omega), hlk, hmN ▸ how, hnb⟩
      obtain ⟨gq, off, cap, tp, c2, HV, hsl, htp⟩ := slice_tail (w := wr) (v := u12) (n := n1) (xs := pcells (tokL m)) (by rw [← hn1, ← hmN]; exact how)
      have HTP := Lib.hid htp
      have HN1 := Lib.hid hn1
      have hmN' : (N : Int) ≤ (m : Int) := by omega
      clear HR hah hac hrun hc hlk how hnb htp hn1 hmN
      go_wp2_with fail
      go_loopw [124] (fun i wr => ∃ q : Nat, i = .int .i64 (q : Int) ∧ q ≤ n1 ∧ Hid (TdSt w ah ac k N q u12 wr)) (fun i _ => n1 - (intOf i).toNat)
      case atStart => exact ⟨0, rfl, Nat.zero_le _, HST1.out⟩
      case round =>
        clear HST1
        obtain ⟨q, rfl, hq, HR⟩ := hrel
        by_cases hqt : q < n1
        ·
          have hqt2 : (q : Int) < (n1 : Int) := by omega
          have hqb : q < 50 := by have := HN1.out; omega
          have htp := HTP.out (by omega)
          subst htp
          obtain ⟨F', A', S, ct, hah, hac, hrun, hc, hlk, how, hnb⟩ := HR.out
          have hq1 : q + 1 < N := by rw [HN1.out]; omega
          obtain ⟨t0, t1⟩ := tok_cells HV.out how (p := q + 1) hq1
          rw [show off + (q + 1) * 2 = off + 2 + q * 2 by omega] at t0 t1
          obtain ⟨p, hp⟩ : ∃ p, p = q + 1 := ⟨_, rfl⟩
          rw [← hp] at t0 hq1
          obtain ⟨x, x1, x2, x3, x4⟩ := hc.old p hq1
          have HDR := Lib.hid (fun W hb => cdrop_any (i := p) W (hrun.below hb).heap x1 x2 (x3.trans (by rw [hp]; simp)))
          rw [x4, hac] at HDR
          have hc2 := hc.let_go x1 x2 hp hq1
          rw [x4] at hc2
          have HRN := Lib.hid hrun
          have HC2 := Lib.hid hc2
          have HLK := Lib.hid hlk
          have HOW := Lib.hid how
          have HNB := Lib.hid hnb
          have HAC := Lib.hid (And.intro hah hac)
          have HP := Lib.hid hp
          have hba : Below wr.heap.size wr (wr.alloc (.cells #[.int .i64 p, .int .i64 1] 38)) := (Below.refl _ wr).alloc (Nat.le_refl _) _
          have HX6 : Hid (Bx (wr.alloc (.cells #[.int .i64 p, .int .i64 1] 38)) F' wr.heap.size (.cells #[.int .i64 p, .int .i64 1] 38 (0, 0))) := Bx.new hrun.heap.lt
          have e0 := (hrun.below hba).heap.evc (Below.refl _ _)
          rw [hah, hac] at e0
          have HBA := Lib.hid hba
          obtain ⟨ta, hta⟩ : ∃ ta, ta = wr.heap.size := ⟨_, rfl⟩
          rw [← hta] at HX6
          have HTA : Hid (∀ q, u12.ownBlock = some q → q < wr.heap.size) := how.lt
          have HOW6 : Hid (OwnO (wr.alloc (.cells #[.int .i64 p, .int .i64 1] 38)) 2 u12 N (pcells (tokL N))) := how.kept (fun k hk => hba.block k (how.lt k hk))
          have HRN6 := Lib.hid (hrun.below hba)
          clear hah hac hrun hc hlk how hnb HR x1 x2 x3 x4 hc2 hp
          go_wp2_with fail
          rw [← hta]
          clear hta t0 t1 e0 hba
          generalize wr.alloc (.cells #[.int .i64 p, .int .i64 1] 38) = w6 at *
          have hfc : w6.cell? ⟨ah, 0, none⟩ = some (.pointer (some ⟨ac, 0, none⟩)) ∧ w6.cell? ⟨ta, 0, none⟩ = some (.int .i64 p) ∧ w6.cell? ⟨ta, 1, none⟩ = some (.int .i64 1) := by
            have := HRN6.out.heap.evc (Below.refl _ _)
            rw [HAC.out.1, HAC.out.2] at this
            exact ⟨this, (cells_of_block HX6.out.2 0).1, (cells_of_block HX6.out.2 1).1⟩
          refine wp_region_held_drew (S := fun W => W.cell? ⟨ah, 0, none⟩ = some (.pointer (some ⟨ac, 0, none⟩)) ∧ W.cell? ⟨ta, 0, none⟩ = some (.int .i64 p) ∧ W.cell? ⟨ta, 1, none⟩ = some (.int .i64 1)) (by kernel_rfl) hfc (fun hH => ?_)
          clear hfc
          refine tk 0 (v := ?_) rfl ?_ ?_; rotate_left; · intro W hW; obtain ⟨d0, d1, d2⟩ := hW; go_simp; try with_reducible rfl
          try simp only [Go.Tr.nz]
          refine tk 1 (v := ?_) rfl ?_ ?_; rotate_left; · intro W hW; obtain ⟨d0, d1, d2⟩ := hW; go_simp; try with_reducible rfl
          try simp only [Go.Tr.nz]
          refine tk 2 (v := ?_) rfl ?_ ?_; rotate_left; · intro W hW; obtain ⟨d0, d1, d2⟩ := hW; go_simp; try with_reducible rfl
          try simp only [Go.Tr.nz]
          refine tk 3 (v := ?_) rfl ?_ ?_; rotate_left; · intro W hW; obtain ⟨d0, d1, d2⟩ := hW; go_simp; try with_reducible rfl
          try simp only [Go.Tr.nz]
          refine tk 4 (v := ?_) rfl ?_ ?_; rotate_left; · intro W hW; obtain ⟨d0, d1, d2⟩ := hW; go_simp; try with_reducible rfl
          try simp only [Go.Tr.nz]
          have HDR2 := Lib.hid (HDR.out w6.drew HBA.out.drew)
          clear HDR
          refine rd 5 rfl (fun K hK => ?_)
          go_simp
          refine HDR2.out.mono ?_
          rintro e w7 ⟨rfl, h7⟩
          have HRN7 := Lib.hid ((HRN6.out.below (Below.refl _ _).drew).op h7)
          have HX7 := Lib.hid ((HX6.out.below (Below.refl _ _).drew).op h7.2)
          have hfc : w7.cell? ⟨ah, 0, none⟩ = some (.pointer (some ⟨ac, 0, none⟩)) ∧ w7.cell? ⟨ta, 0, none⟩ = some (.int .i64 p) ∧ w7.cell? ⟨ta, 1, none⟩ = some (.int .i64 1) := by
            have := HRN7.out.heap.evc (Below.refl _ _)
            rw [HAC.out.1, HAC.out.2] at this
            exact ⟨this, (cells_of_block HX7.out.2 0).1, (cells_of_block HX7.out.2 1).1⟩
          have HNX : Hid (TdSt w ah ac k N (q + 1) u12 w7) := ⟨_, A', _, _, HAC.out.1, HAC.out.2, HRN7.out, HC2.out, HLK.out, HOW6.out.kept (fun k hk => h7.2.block k (HOW6.out.lt k hk) (HNB.out k hk).1), fun k hk => ⟨fun hg => hg.elim (HNB.out k hk).1 (fun h => absurd (HOW6.out.lt k hk) (by have h2 : w6.drew.heap.size = w6.heap.size := rfl; omega)), (HNB.out k hk).2⟩⟩
          refine hK.out _ _ hfc (fun hH => ?_)
          clear h7 hK K hfc HDR2
          refine tk 6 (v := ?_) rfl ?_ ?_; rotate_left; · intro W hW; go_simp; try with_reducible rfl
          try simp only [Go.Tr.nz]
          refine wpAnyH_done (by kernel_rfl) ?_ _
          go_wp2_with fail
          go_roundw
          case rel => exact ⟨q + 1, by go_num, by omega, HNX.out⟩
          case measure => simp [intOf]; omega
        · have hqt2 : (n1 : Int) ≤ (q : Int) := by omega
          go_wp2_with fail
          obtain ⟨F', A', S, ct, hah, hac, hrun, hc, hlk, how, hnb⟩ := HR.out
          have hqn : q + 1 = N := by rw [HN1.out]; omega
          have hbg := (hc.hds (hd2 := fun l => decide (l = 0)) (fun l hl => decide_eq_decide.2 (by omega))).begin hlk hk1 hKN hN2
          have HBG := Lib.hid (ebegin_good wr hrun.heap hc.m3.good hc.m3.on)
          rw [hah] at HBG
          have HH0 : Hid (Held (begS S) 0) := by
            obtain ⟨x, x1, x2, x3, x4⟩ := hc.old 0 (by omega)
            exact ⟨x, x1, x2, x4, by simpa using x3⟩
          obtain ⟨P, hP⟩ : ∃ P, P = S.ps := ⟨_, rfl⟩
          rw [← hP] at hbg
          have HBC := Lib.hid hbg
          have HRN := Lib.hid hrun
          have HOW := Lib.hid how
          have HNB := Lib.hid hnb
          have HAC := Lib.hid (And.intro hah hac)
          clear hqn hbg hah hac hrun hc hlk how hnb HR hP HTP hsl
          refine HBG.out.mono ?_
          rintro e w5 ⟨rfl, u2, gl, h5⟩
          have HRN5 := Lib.hid (HRN.out.op h5)
          have HOW5 : Hid (OwnO w5 2 u12 N (pcells (tokL N))) := HOW.out.kept (fun q hq => h5.2.block q (HOW.out.lt q hq) (HNB.out q hq).1)
          have HNB5 : Hid (∀ q, u12.ownBlock = some q → ¬ grow F' wr w5 q ∧ w.heap.size ≤ q) := fun q hq => ⟨fun hg => hg.elim (HNB.out q hq).1 (fun h => absurd (HOW.out.lt q hq) (by omega)), (HNB.out q hq).2⟩
          obtain ⟨t0, t1⟩ := tok_cells HV.out HOW5.out (p := 0) (by omega)
          simp at t0 t1
          obtain ⟨tb, htb⟩ : ∃ tb, tb = w5.heap.size := ⟨_, rfl⟩
          have hba : Below w5.heap.size w5 (w5.alloc (.cells #[.int .i64 0, .int .i64 1] 38)) := (Below.refl _ w5).alloc (Nat.le_refl _) _
          have HX6 : Hid (Bx (w5.alloc (.cells #[.int .i64 0, .int .i64 1] 38)) (grow F' wr w5) w5.heap.size (.cells #[.int .i64 0, .int .i64 1] 38 (0, 0))) := Bx.new HRN5.out.heap.lt
          rw [← htb] at HX6
          have hws : w.heap.size ≤ w5.heap.size := HRN5.out.2.1.size
          have HST2 : Hid (TmSt w ah ac k N P tb 0 u12 (w5.alloc (.cells #[.int .i64 0, .int .i64 1] 38))) :=
            ⟨_, { A' with h := ah, u2 := u2, gl := gl }, _, 0, 0, 1, rfl, HAC.out.2, HRN5.out.below hba, ⟨HBC.out, Nat.zero_le _, fun _ => HH0.out⟩, ⟨HOW5.out.kept (fun q hq => hba.block q (HOW5.out.lt q hq)), fun q hq => ⟨(HNB5.out q hq).1, (HNB5.out q hq).2, fun e => by have := HOW5.out.lt q hq; omega⟩, HX6.out, by omega⟩, fun _ => ⟨rfl, rfl⟩⟩
          have hv := HV.out
          clear h5 HBG HX6 hba hws HOW5 HNB5 HRN5 HRN HOW HNB HV
          subst hv
          go_wp2_with fail
          rw [← htb]
          clear htb t0 t1 HH0 HBC HAC
          generalize w5.alloc (.cells #[.int .i64 0, .int .i64 1] 38) = w6 at *
          go_loopw [143] (fun v wr => ∃ i : Nat, v = .int .i64 (i : Int) ∧ i ≤ k ∧ Hid (TmSt w ah ac k N P tb i (.slice (some ⟨gq, off, none⟩) (n1 + 1) cap) wr)) (fun v _ => k - (intOf v).toNat)
          case atStart => exact ⟨0, rfl, Nat.zero_le _, HST2.out⟩
          case round =>
            clear HST2
            obtain ⟨i, rfl, hi, HR⟩ := hrel
            by_cases hit : i < k
            ·
              have hit2 : (i : Int) < (k : Int) := by omega
              obtain ⟨F', A', S, m0, a0, c0, hah, hac, hrun, ⟨hch, him, hhd⟩, hkp, hac0⟩ := HR.out
              obtain ⟨e1, e2⟩ := hac0 hit
              subst e2
              subst e1
              have HGT := Lib.hid (chget_any wr hrun.heap hch him hit (hhd hit))
              rw [hah] at HGT
              have t0 := (cells_of_block hkp.2.2.1.2 0).1
              have t1 := (cells_of_block hkp.2.2.1.2 1).1
              simp at t0 t1
              have HRN := Lib.hid hrun
              have HKP := Lib.hid hkp
              have HAC := Lib.hid (And.intro hah hac)
              clear hah hac hrun hch him hhd hkp hac0 HR
              go_wp2_with fail
              refine HGT.out.mono ?_
              rintro e w7 ⟨rfl, S2, hs2, h7⟩
              have HST := Lib.hid (chstep_any (b := b) w7 h7.1 hs2.1 hs2.2 hb1 (by omega))
              rw [HAC.out.1] at HST
              have HRN7 := Lib.hid (HRN.out.op h7)
              have HKP7 := Lib.hid (HKP.out.op h7.2)
              generalize grow F' wr w7 = F7 at *
              clear h7 hs2 HRN HKP HGT t0 t1
              go_wp2_with fail
              refine HST.out.mono ?_
              rintro e w8 ⟨⟨d, rfl⟩, S3, m3, hs3, h8⟩
              have HRN8 := Lib.hid (HRN7.out.op h8)
              have HKP8 := Lib.hid (HKP7.out.op h8.2)
              have t0 := (cells_of_block HKP8.out.2.2.1.2 0).1
              have t1 := (cells_of_block HKP8.out.2.2.1.2 1).1
              simp at t0 t1
              by_cases hlast : a0 + 1 < k
              case' pos =>
                have HRF := Lib.hid (chref2_any w8 h8.1 hs3.1 (by omega) hlast hs3.2.2)
                rw [HAC.out.1] at HRF
                generalize grow F7 w7 w8 = F8 at *
                clear h8 hs3 HRN7 HKP7 HST
                unfold linkV at HRF
                go_wp2_with fail
                refine HRF.out.mono ?_
                rintro e w9 ⟨rfl, S4, ⟨m4, hc4, hm4, hd4, hd5⟩, h9⟩
                have HRN9 := Lib.hid (HRN8.out.op h9)
                have HKP9 := Lib.hid (HKP8.out.op h9.2)
                have HC4 : Hid (Ch k N P S4 m4 ∧ a0 + 1 ≤ m4 ∧ Held S4 a0 ∧ (a0 + 1 < k → Held S4 (a0 + 1))) := ⟨hc4, hm4, hd4, fun _ => hd5⟩
                have H9 := Lib.hid h9
                generalize grow F8 w8 w9 = F9 at *
                clear h9 hc4 hm4 hd4 hd5 HRN8 HKP8 HRF t0 t1
                have hba : Below w9.heap.size w9 (w9.alloc (.cells #[.int .i64 2, .int .i64 ((a0 : Int) + 1), .int .i64 1] 69)) := (Below.refl _ w9).alloc (Nat.le_refl _) _
                have hnk : a0 + 1 < n1 + 1 := by have := HN1.out; omega
                obtain ⟨t0, t1⟩ := tok_cells rfl (HKP9.out.below hba).1 (p := a0 + 1) (by omega)
                have HRN10 := Lib.hid (HRN9.out.below hba)
                have HKP10 := Lib.hid (HKP9.out.below hba)
                obtain ⟨yb, hyb⟩ : ∃ yb, yb = w9.heap.size := ⟨_, rfl⟩
                have HY : Hid (Bx (w9.alloc (.cells #[.int .i64 2, .int .i64 ((a0 : Int) + 1), .int .i64 1] 69)) F9 w9.heap.size (.cells #[.int .i64 2, .int .i64 ((a0 : Int) + 1), .int .i64 1] 69 (0, 0))) := Bx.new HRN9.out.heap.lt
                rw [← hyb] at HY
                have HYT : Hid (yb ≠ tb) := fun e => by have := block_lt HKP9.out.2.2.1.2; omega
                clear hba HRN9 HKP9 H9
                go_wp2_with fail
                rw [← hyb]
                clear hyb
                generalize w9.alloc (.cells #[.int .i64 2, .int .i64 ((a0 : Int) + 1), .int .i64 1] 69) = w10 at *
                have hk1' : (a0 : Int) < (k : Int) - 1 := by omega
                have hw1 : IntKind.i64.wrap ((k : Int) - 1) = (k : Int) - 1 := IntWalk.i64_in _ (by omega)
                have hw2 : IntKind.i64.wrap ((a0 : Int) + 1) = (a0 : Int) + 1 := IntWalk.i64_in _ (by omega)
                have hnk2 : (a0 : Int) + 1 < (n1 : Int) + 1 := by omega
                have hnk3 : (a0 : Int) < (n1 : Int) := by omega
                have hne : (0 : Int) ≤ (a0 : Int) + 1 := by omega
                have y0 := (cells_of_block HY.out.2 0).1
                have y1 := (cells_of_block HY.out.2 1).1
                have y2 := (cells_of_block HY.out.2 2).1
                simp at y0 y1 y2
                have ht0 : (((a0 + 1 : Nat)) : Int) = (a0 : Int) + 1 := by omega
                rw [ht0] at t0
                refine wp_region_held_drew (S := fun W => W.cell? ⟨yb, 0, none⟩ = some (.int .i64 2) ∧ W.cell? ⟨yb, 1, none⟩ = some (.int .i64 ((a0 : Int) + 1)) ∧ W.cell? ⟨yb, 2, none⟩ = some (.int .i64 1) ∧ W.cell? ⟨gq, off + (a0 + 1) * 2, none⟩ = some (.int .i64 ((a0 : Int) + 1)) ∧ W.cell? ⟨gq, off + (a0 + 1) * 2 + 1, none⟩ = some (.int .i64 1)) (by kernel_rfl) ⟨y0, y1, y2, t0, t1⟩ (fun hH => ?_)
                clear y0 y1 y2 t0 t1 ht0
                refine tk 0 (v := ?_) rfl ?_ ?_; rotate_left; · intro W hW; obtain ⟨d0, d1, d2, d3, d4⟩ := hW; go_simp; try with_reducible rfl
                try simp only [Go.Tr.nz]
                refine tk 1 (v := ?_) rfl ?_ ?_; rotate_left; · intro W hW; obtain ⟨d0, d1, d2, d3, d4⟩ := hW; go_simp; try with_reducible rfl
                try simp only [Go.Tr.nz]
                refine tk 2 (v := ?_) rfl ?_ ?_; rotate_left; · intro W hW; obtain ⟨d0, d1, d2, d3, d4⟩ := hW; go_simp; try with_reducible rfl
                try simp only [Go.Tr.nz]
                refine tk 3 (v := ?_) rfl ?_ ?_; rotate_left; · intro W hW; obtain ⟨d0, d1, d2, d3, d4⟩ := hW; go_simp; try with_reducible rfl
                try simp only [Go.Tr.nz]
                refine tk 4 (v := ?_) rfl ?_ ?_; rotate_left; · intro W hW; obtain ⟨d0, d1, d2, d3, d4⟩ := hW; go_simp; try with_reducible rfl
                try simp only [Go.Tr.nz]
                refine tk 5 (v := ?_) rfl ?_ ?_; rotate_left; · intro W hW; obtain ⟨d0, d1, d2, d3, d4⟩ := hW; go_simp; try with_reducible rfl
                try simp only [Go.Tr.nz]
                refine tk 6 (v := ?_) rfl ?_ ?_; rotate_left; · intro W hW; obtain ⟨d0, d1, d2, d3, d4⟩ := hW; go_simp; try with_reducible rfl
                try simp only [Go.Tr.nz]
                refine tk 7 (v := ?_) rfl ?_ ?_; rotate_left; · intro W hW; obtain ⟨d0, d1, d2, d3, d4⟩ := hW; go_simp; try with_reducible rfl
                try simp only [Go.Tr.nz]
                refine tk 8 (v := ?_) rfl ?_ ?_; rotate_left; · intro W hW; obtain ⟨d0, d1, d2, d3, d4⟩ := hW; go_simp; try with_reducible rfl
                try simp only [Go.Tr.nz]
                refine tk 9 (v := ?_) rfl ?_ ?_; rotate_left; · intro W hW; obtain ⟨d0, d1, d2, d3, d4⟩ := hW; go_simp; try with_reducible rfl
                try simp only [Go.Tr.nz]
                refine tk 10 (v := ?_) rfl ?_ ?_; rotate_left; · intro W hW; obtain ⟨d0, d1, d2, d3, d4⟩ := hW; go_simp; try with_reducible rfl
                try simp only [Go.Tr.nz]
                refine tk 11 (v := ?_) rfl ?_ ?_; rotate_left; · intro W hW; obtain ⟨d0, d1, d2, d3, d4⟩ := hW; go_simp; try with_reducible rfl
                try simp only [Go.Tr.nz]
                refine tk 12 (v := ?_) rfl ?_ ?_; rotate_left; · intro W hW; obtain ⟨d0, d1, d2, d3, d4⟩ := hW; go_simp; try with_reducible rfl
                try simp only [Go.Tr.nz]
                refine tk 13 (v := ?_) rfl ?_ ?_; rotate_left; · intro W hW; obtain ⟨d0, d1, d2, d3, d4⟩ := hW; go_simp; try with_reducible rfl
                try simp only [Go.Tr.nz]
                refine tk 14 (v := ?_) rfl ?_ ?_; rotate_left; · intro W hW; obtain ⟨d0, d1, d2, d3, d4⟩ := hW; go_simp; try with_reducible rfl
                try simp only [Go.Tr.nz]
                refine tk 15 (v := ?_) rfl ?_ ?_; rotate_left; · intro W hW; obtain ⟨d0, d1, d2, d3, d4⟩ := hW; go_simp; try with_reducible rfl
                try simp only [Go.Tr.nz]
                refine tk 16 (v := ?_) rfl ?_ ?_; rotate_left; · intro W hW; obtain ⟨d0, d1, d2, d3, d4⟩ := hW; go_simp; try with_reducible rfl
                try simp only [Go.Tr.nz]
                refine tk 17 (v := ?_) rfl ?_ ?_; rotate_left; · intro W hW; obtain ⟨d0, d1, d2, d3, d4⟩ := hW; go_simp; try with_reducible rfl
                try simp only [Go.Tr.nz]
                refine tk 18 (v := ?_) rfl ?_ ?_; rotate_left; · intro W hW; obtain ⟨d0, d1, d2, d3, d4⟩ := hW; go_simp; try with_reducible rfl
                try simp only [Go.Tr.nz]
                refine tk 19 (v := ?_) rfl ?_ ?_; rotate_left; · intro W hW; obtain ⟨d0, d1, d2, d3, d4⟩ := hW; go_simp; try with_reducible rfl
                try simp only [Go.Tr.nz]
                refine tk 20 (v := ?_) rfl ?_ ?_; rotate_left; · intro W hW; obtain ⟨d0, d1, d2, d3, d4⟩ := hW; go_simp; try with_reducible rfl
                try simp only [Go.Tr.nz]
                refine tk 21 (v := ?_) rfl ?_ ?_; rotate_left; · intro W hW; obtain ⟨d0, d1, d2, d3, d4⟩ := hW; go_simp; try with_reducible rfl
                try simp only [Go.Tr.nz]
                refine tk 22 (v := ?_) rfl ?_ ?_; rotate_left; · intro W hW; obtain ⟨d0, d1, d2, d3, d4⟩ := hW; go_simp; try with_reducible rfl
                try simp only [Go.Tr.nz]
                refine tk 23 (v := ?_) rfl ?_ ?_; rotate_left; · intro W hW; obtain ⟨d0, d1, d2, d3, d4⟩ := hW; go_simp; try with_reducible rfl
                try simp only [Go.Tr.nz]
                refine tk 24 (v := ?_) rfl ?_ ?_; rotate_left; · intro W hW; obtain ⟨d0, d1, d2, d3, d4⟩ := hW; go_simp; try with_reducible rfl
                try simp only [Go.Tr.nz]
                refine tk 25 (v := ?_) rfl ?_ ?_; rotate_left; · intro W hW; obtain ⟨d0, d1, d2, d3, d4⟩ := hW; go_simp; try with_reducible rfl
                try simp only [Go.Tr.nz]
                refine tk 26 (v := ?_) rfl ?_ ?_; rotate_left; · intro W hW; obtain ⟨d0, d1, d2, d3, d4⟩ := hW; go_simp; try with_reducible rfl
                try simp only [Go.Tr.nz]
                refine wpAnyH_done (by kernel_rfl) ?_ _
                clear hH
                go_wp2_with fail
                have HYB : Hid (∃ (ja jc : Nat) (v0 : Value), Bx w10 F9 yb (.cells #[v0, .int .i64 ja, .int .i64 jc] 69 (0, 0)) ∧ (a0 + 1 < k → ja = a0 + 1 ∧ jc = 1)) := ⟨a0 + 1, 1, _, HY.out, fun _ => ⟨rfl, rfl⟩⟩
                clear HY hk1' hw1 hw2 hnk hnk2 hnk3 hne
              case' neg =>
                have hlk : a0 + 1 = k := by omega
                have HRF := Lib.hid (chref0_any w8 h8.1 hs3.1 (by omega) hlk hs3.2.2)
                rw [HAC.out.1] at HRF
                generalize grow F7 w7 w8 = F8 at *
                have HM3 := Lib.hid hs3.2.1
                clear h8 hs3 HRN7 HKP7 HST hlk
                unfold linkV at HRF
                go_wp2_with fail
                refine HRF.out.mono ?_
                rintro e w9 ⟨rfl, S4, ⟨hc4, hd4⟩, h9⟩
                have HRN9 := Lib.hid (HRN8.out.op h9)
                have HKP9 := Lib.hid (HKP8.out.op h9.2)
                obtain ⟨m4, hm4⟩ : ∃ m4, m4 = max m3 (a0 + 1) := ⟨_, rfl⟩
                rw [← hm4] at hc4
                have HC4 : Hid (Ch k N P S4 m4 ∧ a0 + 1 ≤ m4 ∧ Held S4 a0 ∧ (a0 + 1 < k → Held S4 (a0 + 1))) := ⟨hc4, by omega, hd4, fun h => absurd h hlast⟩
                generalize grow F8 w8 w9 = F9 at *
                clear h9 hc4 hd4 hm4 HRN8 HKP8 HRF t0 t1
                have hba : Below w9.heap.size w9 (w9.alloc (.cells #[.int .i64 0, .int .i64 0, .int .i64 0] 69)) := (Below.refl _ w9).alloc (Nat.le_refl _) _
                have HRN10 := Lib.hid (HRN9.out.below hba)
                have HKP10 := Lib.hid (HKP9.out.below hba)
                obtain ⟨yb, hyb⟩ : ∃ yb, yb = w9.heap.size := ⟨_, rfl⟩
                have HY : Hid (Bx (w9.alloc (.cells #[.int .i64 0, .int .i64 0, .int .i64 0] 69)) F9 w9.heap.size (.cells #[.int .i64 0, .int .i64 0, .int .i64 0] 69 (0, 0))) := Bx.new HRN9.out.heap.lt
                rw [← hyb] at HY
                have HYT : Hid (yb ≠ tb) := fun e => by have := block_lt HKP9.out.2.2.1.2; omega
                clear hba HRN9 HKP9
                go_wp2_with fail
                rw [← hyb]
                clear hyb
                generalize w9.alloc (.cells #[.int .i64 0, .int .i64 0, .int .i64 0] 69) = w10 at *
                have hk1' : ¬ (a0 : Int) < (k : Int) - 1 := by omega
                have hw1 : IntKind.i64.wrap ((k : Int) - 1) = (k : Int) - 1 := IntWalk.i64_in _ (by omega)
                have y0 := (cells_of_block HY.out.2 0).1
                simp at y0
                refine wp_region_held_drew (S := fun W => W.cell? ⟨yb, 0, none⟩ = some (.int .i64 0)) (by kernel_rfl) y0 (fun hH => ?_)
                clear y0
                refine tk 0 (v := ?_) rfl ?_ ?_; rotate_left; · intro W hW; go_simp; try with_reducible rfl
                try simp only [Go.Tr.nz]
                refine tk 1 (v := ?_) rfl ?_ ?_; rotate_left; · intro W hW; go_simp; try with_reducible rfl
                try simp only [Go.Tr.nz]
                refine tk 2 (v := ?_) rfl ?_ ?_; rotate_left; · intro W hW; go_simp; try with_reducible rfl
                try simp only [Go.Tr.nz]
                refine tk 3 (v := ?_) rfl ?_ ?_; rotate_left; · intro W hW; go_simp; try with_reducible rfl
                try simp only [Go.Tr.nz]
                refine tk 4 (v := ?_) rfl ?_ ?_; rotate_left; · intro W hW; go_simp; try with_reducible rfl
                try simp only [Go.Tr.nz]
                refine tk 5 (v := ?_) rfl ?_ ?_; rotate_left; · intro W hW; go_simp; try with_reducible rfl
                try simp only [Go.Tr.nz]
                refine tk 6 (v := ?_) rfl ?_ ?_; rotate_left; · intro W hW; go_simp; try with_reducible rfl
                try simp only [Go.Tr.nz]
                refine tk 7 (v := ?_) rfl ?_ ?_; rotate_left; · intro W hW; go_simp; try with_reducible rfl
                try simp only [Go.Tr.nz]
                refine tk 8 (v := ?_) rfl ?_ ?_; rotate_left; · intro W hW; go_simp; try with_reducible rfl
                try simp only [Go.Tr.nz]
                refine tk 9 (v := ?_) rfl ?_ ?_; rotate_left; · intro W hW; go_simp; try with_reducible rfl
                try simp only [Go.Tr.nz]
                refine tk 10 (v := ?_) rfl ?_ ?_; rotate_left; · intro W hW; go_simp; try with_reducible rfl
                try simp only [Go.Tr.nz]
                refine tk 11 (v := ?_) rfl ?_ ?_; rotate_left; · intro W hW; go_simp; try with_reducible rfl
                try simp only [Go.Tr.nz]
                refine tk 12 (v := ?_) rfl ?_ ?_; rotate_left; · intro W hW; go_simp; try with_reducible rfl
                try simp only [Go.Tr.nz]
                refine tk 13 (v := ?_) rfl ?_ ?_; rotate_left; · intro W hW; go_simp; try with_reducible rfl
                try simp only [Go.Tr.nz]
                refine tk 14 (v := ?_) rfl ?_ ?_; rotate_left; · intro W hW; go_simp; try with_reducible rfl
                try simp only [Go.Tr.nz]
                refine tk 15 (v := ?_) rfl ?_ ?_; rotate_left; · intro W hW; go_simp; try with_reducible rfl
                try simp only [Go.Tr.nz]
                refine tk 16 (v := ?_) rfl ?_ ?_; rotate_left; · intro W hW; go_simp; try with_reducible rfl
                try simp only [Go.Tr.nz]
                refine tku 17 rfl ?_
                try simp only [Go.Tr.nz]
                refine tku 18 rfl ?_
                try simp only [Go.Tr.nz]
                refine tku 19 rfl ?_
                try simp only [Go.Tr.nz]
                refine tku 20 rfl ?_
                try simp only [Go.Tr.nz]
                refine tku 21 rfl ?_
                try simp only [Go.Tr.nz]
                refine tku 22 rfl ?_
                try simp only [Go.Tr.nz]
                refine tku 23 rfl ?_
                try simp only [Go.Tr.nz]
                refine tku 24 rfl ?_
                try simp only [Go.Tr.nz]
                refine tk 25 (v := ?_) rfl ?_ ?_; rotate_left; · intro W hW; go_simp; try with_reducible rfl
                try simp only [Go.Tr.nz]
                refine tk 26 (v := ?_) rfl ?_ ?_; rotate_left; · intro W hW; go_simp; try with_reducible rfl
                try simp only [Go.Tr.nz]
                refine wpAnyH_done (by kernel_rfl) ?_ _
                clear hH
                go_wp2_with fail
                have HYB : Hid (∃ (ja jc : Nat) (v0 : Value), Bx w10 F9 yb (.cells #[v0, .int .i64 ja, .int .i64 jc] 69 (0, 0)) ∧ (a0 + 1 < k → ja = a0 + 1 ∧ jc = 1)) := ⟨0, 0, _, HY.out, fun h => absurd h hlast⟩
                clear HY hk1' hw1
              all_goals
                obtain ⟨ja, jc, v0, hby, hj⟩ := HYB.out
                have HY := Lib.hid hby
                have HNX : Hid (∀ W S5 F5, Run w (fun _ => False) W F5 A' S5 → (Ch k N P S5 m4 ∧ (a0 + 1 < k → Held S5 (a0 + 1))) → TmK w W F5 N tb (.slice (some ⟨gq, off, none⟩) (n1 + 1) cap) a0 1 → TmSt w ah ac k N P tb (a0 + 1) (.slice (some ⟨gq, off, none⟩) (n1 + 1) cap) ((W.setCell ⟨tb, 0, none⟩ (.int .i64 ja)).setCell ⟨tb, 1, none⟩ (.int .i64 jc))) := fun W S5 F5 r1 r2 r3 =>
                  ⟨F5, A', S5, m4, ja, jc, HAC.out.1, HAC.out.2, (r1.loc r3.2.2.2 r3.2.2.1.1).loc r3.2.2.2 r3.2.2.1.1, ⟨r2.1, HC4.out.2.1, r2.2⟩, r3.store ja jc, hj⟩
                clear hby hj HYB
                by_cases h0 : a0 = 0
                · have hz1 : ¬ (0 : Int) < (a0 : Int) := by omega
                  have hz2 : (a0 : Int) ≤ 0 := by omega
                  have hz3 : ¬ 0 < a0 := by omega
                  clear h0
                  refine wp_region_held_drew (S := fun _ => True) (by kernel_rfl) trivial (fun hH => ?_)
                  refine tk 0 (v := ?_) rfl ?_ ?_; rotate_left; · intro W hW; go_simp; try with_reducible rfl
                  try simp only [Go.Tr.nz]
                  refine tk 1 (v := ?_) rfl ?_ ?_; rotate_left; · intro W hW; go_simp; try with_reducible rfl
                  try simp only [Go.Tr.nz]
                  refine tk 2 (v := ?_) rfl ?_ ?_; rotate_left; · intro W hW; go_simp; try with_reducible rfl
                  try simp only [Go.Tr.nz]
                  refine tku 3 rfl ?_
                  try simp only [Go.Tr.nz]
                  refine tku 4 rfl ?_
                  try simp only [Go.Tr.nz]
                  refine tku 5 rfl ?_
                  try simp only [Go.Tr.nz]
                  refine tku 6 rfl ?_
                  try simp only [Go.Tr.nz]
                  refine tku 7 rfl ?_
                  try simp only [Go.Tr.nz]
                  refine tku 8 rfl ?_
                  try simp only [Go.Tr.nz]
                  refine tku 9 rfl ?_
                  try simp only [Go.Tr.nz]
                  refine tk 10 (v := ?_) rfl ?_ ?_; rotate_left; · intro W hW; go_simp; try with_reducible rfl
                  try simp only [Go.Tr.nz]
                  refine wpAnyH_done (by kernel_rfl) ?_ _
                  have HN := Lib.hid (HNX.out w10.drew.drew S4 F9 ((HRN10.out.below (Below.refl _ _).drew).below (Below.refl _ _).drew) ⟨HC4.out.1, HC4.out.2.2.2⟩ ((HKP10.out.below (Below.refl _ _).drew).below (Below.refl _ _).drew))
                  have y1 := (cells_of_block ((HY.out.below (Below.refl _ _).drew).below (Below.refl _ _).drew).2 1).1
                  have y2 := (cells_of_block ((HY.out.below (Below.refl _ _).drew).below (Below.refl _ _).drew).2 2).1
                  have t0 := cells_of_block ((HKP10.out.below (Below.refl _ _).drew).below (Below.refl _ _).drew).2.2.1.2 0
                  have t1 := cells_of_block ((HKP10.out.below (Below.refl _ _).drew).below (Below.refl _ _).drew).2.2.1.2 1
                  simp at y1 y2 t0 t1
                  obtain ⟨t0, f0⟩ := t0
                  obtain ⟨t1, f1⟩ := t1
                  clear HNX hH
                  go_wp2_with fail
                  go_roundw
                  case rel => exact ⟨a0 + 1, by go_num, by omega, HN.out⟩
                  case measure => simp [intOf]; omega
                · have hz1 : (0 : Int) < (a0 : Int) := by omega
                  have hz3 : 0 < a0 := by omega
                  clear h0
                  have HDR := Lib.hid (chdrop_any (i := a0) w10.drew.drew ((HRN10.out.below (Below.refl _ _).drew).below (Below.refl _ _).drew).heap HC4.out.1 HC4.out.2.2.1)
                  rw [HAC.out.2] at HDR
                  have HRN11 := Lib.hid ((HRN10.out.below (Below.refl _ _).drew).below (Below.refl _ _).drew)
                  have HKP11 := Lib.hid ((HKP10.out.below (Below.refl _ _).drew).below (Below.refl _ _).drew)
                  have HY11 := Lib.hid ((HY.out.below (Below.refl _ _).drew).below (Below.refl _ _).drew)
                  have e0 := HRN11.out.heap.evc (Below.refl _ _)
                  rw [HAC.out.1, HAC.out.2] at e0
                  refine wp_region_held_drew (S := fun W => W.cell? ⟨ah, 0, none⟩ = some (.pointer (some ⟨ac, 0, none⟩)) ∧ W.cell? ⟨tb, 0, none⟩ = some (.int .i64 a0) ∧ W.cell? ⟨tb, 1, none⟩ = some (.int .i64 (1 : Nat))) (by kernel_rfl) ⟨e0, (cells_of_block HKP11.out.2.2.1.2 0).1, (cells_of_block HKP11.out.2.2.1.2 1).1⟩ (fun hH => ?_)
                  clear e0
                  refine tk 0 (v := ?_) rfl ?_ ?_; rotate_left; · intro W hW; obtain ⟨d0, d1, d2⟩ := hW; go_simp; try with_reducible rfl
                  try simp only [Go.Tr.nz]
                  refine tk 1 (v := ?_) rfl ?_ ?_; rotate_left; · intro W hW; obtain ⟨d0, d1, d2⟩ := hW; go_simp; try with_reducible rfl
                  try simp only [Go.Tr.nz]
                  refine tk 2 (v := ?_) rfl ?_ ?_; rotate_left; · intro W hW; obtain ⟨d0, d1, d2⟩ := hW; go_simp; try with_reducible rfl
                  try simp only [Go.Tr.nz]
                  refine tk 3 (v := ?_) rfl ?_ ?_; rotate_left; · intro W hW; obtain ⟨d0, d1, d2⟩ := hW; go_simp; try with_reducible rfl
                  try simp only [Go.Tr.nz]
                  refine tk 4 (v := ?_) rfl ?_ ?_; rotate_left; · intro W hW; obtain ⟨d0, d1, d2⟩ := hW; go_simp; try with_reducible rfl
                  try simp only [Go.Tr.nz]
                  refine tk 5 (v := ?_) rfl ?_ ?_; rotate_left; · intro W hW; obtain ⟨d0, d1, d2⟩ := hW; go_simp; try with_reducible rfl
                  try simp only [Go.Tr.nz]
                  refine tk 6 (v := ?_) rfl ?_ ?_; rotate_left; · intro W hW; obtain ⟨d0, d1, d2⟩ := hW; go_simp; try with_reducible rfl
                  try simp only [Go.Tr.nz]
                  refine tk 7 (v := ?_) rfl ?_ ?_; rotate_left; · intro W hW; obtain ⟨d0, d1, d2⟩ := hW; go_simp; try with_reducible rfl
                  try simp only [Go.Tr.nz]
                  refine rd 8 rfl (fun K hK => ?_)
                  go_simp
                  refine HDR.out.mono ?_
                  rintro e w11 ⟨rfl, S5, ⟨hc5, hd5⟩, h11⟩
                  have HRN12 := Lib.hid (HRN11.out.op h11)
                  have HKP12 := Lib.hid (HKP11.out.op h11.2)
                  have HY12 := Lib.hid (HY11.out.op h11.2)
                  have HN := Lib.hid (HNX.out w11 S5 _ HRN12.out ⟨hc5, fun hh => hd5 (a0 + 1) (by omega) (HC4.out.2.2.2 hh)⟩ HKP12.out)
                  have e0 := HRN12.out.heap.evc (Below.refl _ _)
                  rw [HAC.out.1, HAC.out.2] at e0
                  refine hK.out _ _ ⟨e0, (cells_of_block HKP12.out.2.2.1.2 0).1, (cells_of_block HKP12.out.2.2.1.2 1).1⟩ (fun hH => ?_)
                  clear e0 h11 hK K hc5 hd5 HDR
                  refine tk 9 (v := ?_) rfl ?_ ?_; rotate_left; · intro W hW; go_simp; try with_reducible rfl
                  try simp only [Go.Tr.nz]
                  refine tk 10 (v := ?_) rfl ?_ ?_; rotate_left; · intro W hW; go_simp; try with_reducible rfl
                  try simp only [Go.Tr.nz]
                  refine wpAnyH_done (by kernel_rfl) ?_ _
                  have y1 := (cells_of_block HY12.out.2 1).1
                  have y2 := (cells_of_block HY12.out.2 2).1
                  have t0 := cells_of_block HKP12.out.2.2.1.2 0
                  have t1 := cells_of_block HKP12.out.2.2.1.2 1
                  simp at y1 y2 t0 t1
                  obtain ⟨t0, f0⟩ := t0
                  obtain ⟨t1, f1⟩ := t1
                  clear HNX hH
                  go_wp2_with fail
                  go_roundw
                  case rel => exact ⟨a0 + 1, by go_num, by omega, HN.out⟩
                  case measure => simp [intOf]; omega
            · have hit2 : (k : Int) ≤ (i : Int) := by omega
              have hik : i = k := by omega
              rw [hik] at HR
              go_wp2_with fail
              go_loopw [216] (fun v wr => v = .int .i64 0 ∧ Hid (TmSt w ah ac k N P tb k (.slice (some ⟨gq, off, none⟩) (n1 + 1) cap) wr)) (fun _ _ => 0)
              case atStart => exact ⟨rfl, HR.out⟩
              case round =>
                clear HR
                obtain ⟨rfl, HR⟩ := hrel
                obtain ⟨F', A', S, m0, a0, c0, hah, hac, hrun, ⟨hch, him, -⟩, hkp, -⟩ := HR.out
                have hm0 : m0 = k := by have := hch.mle; omega
                subst hm0
                have hw0 : S.gs.wait = 0 := by
                  have hr := hch.rep
                  rw [if_neg (Nat.lt_irrefl _)] at hr
                  rw [hr.cnt]
                  rfl
                have HRD := Lib.hid (eready_any wr hrun.heap hch.ev.on)
                rw [hah, hw0] at HRD
                have HFI := Lib.hid (fun W hb => efinish_good W (hrun.below hb).heap hch.ev.good hch.ev.on hw0 (Ch.evJ.gen _ S hch))
                rw [hah] at HFI
                have HRN := Lib.hid hrun
                have HCH := Lib.hid hch
                have HAC := Lib.hid (And.intro hah hac)
                clear hah hac hrun hch him hkp hw0 HR
                go_wp2_with fail
                refine HRD.out.mono ?_
                rintro e w7 ⟨rfl, rfl⟩
                go_wp2_with fail
                refine (HFI.out wr (Below.refl _ _)).mono ?_
                rintro e w8 ⟨v, fr, S3, rfl, ⟨va, vc, rfl⟩, hfr, h8⟩
                obtain ⟨g1, g2, g3, g4⟩ := HCH.out.fin hfr
                rw [g1, show N - m0 = g by have := HNE.out; omega]
                have HRN8 := Lib.hid (HRN.out.op h8)
                have HSP : Hid (SpOk S3.ps) := hfr.good.spOk
                have HOFF : Hid (S3.on = false) := hfr.on
                generalize grow F' wr w8 = F8 at *
                generalize fr.length = fl at *
                have hba : Below w8.heap.size w8 (w8.alloc (.cells #[.slice va fl vc, .int .i64 g] 44)) := (Below.refl _ w8).alloc (Nat.le_refl _) _
                have HRN9 := Lib.hid (HRN8.out.below hba)
                obtain ⟨h2, hh2⟩ : ∃ h2, h2 = (m0 + 1) / 2 := ⟨_, rfl⟩
                rw [← hh2] at g3
                have HSF : Hid (∀ W, Below (w8.alloc (.cells #[.slice va fl vc, .int .i64 g] 44)).heap.size (w8.alloc (.cells #[.slice va fl vc, .int .i64 g] 44)) W → W.cell? ⟨ah, 0, none⟩ = some (.pointer (some ⟨ac, 0, none⟩)) ∧ W.cell? ⟨ac, 3, none⟩ = some (.pointer (some ⟨A'.t, 0, none⟩)) ∧
                    Calls Tryz.prog 14 #[.pointer (some ⟨A'.t, 0, none⟩)] W (fun e w' => e = .returned (.int .i64 m0) ∧ Drawn W w') ∧ Calls Tryz.prog 30 #[.pointer (some ⟨ah, 0, none⟩), .int .i64 1] W (fun e w' => ∃ a c, e = .returned (.slice a h2 c) ∧ Below W.heap.size W w') ∧ Below w.heap.size w W) := fun W hb => by
                  have k0 := HRN9.out.heap.evc hb
                  obtain ⟨-, -, -, k2, -⟩ := HRN9.out.heap.fields hb
                  have k4 := HRN9.out.heap.tused hb
                  have k5 := echunks0_any W (HRN9.out.heap.below hb) HOFF.out HSP.out
                  rw [g4, g2] at k4
                  rw [g3, HAC.out.1] at k5
                  rw [HAC.out.1, HAC.out.2] at k0
                  rw [HAC.out.2] at k2
                  exact ⟨k0, k2, k4, k5, (HRN9.out.below hb).fin0⟩
                have hq2 : ((m0 : Int) + 1).tdiv 2 = (h2 : Int) := by
                  rw [Int.tdiv_eq_ediv_of_nonneg (by omega)]
                  omega
                have hq3 : IntKind.i64.wrap ((m0 : Int) + 1) = (m0 : Int) + 1 := IntWalk.i64_in _ (by omega)
                have hq4 : IntKind.i64.wrap (h2 : Int) = (h2 : Int) := IntWalk.i64_in _ (by omega)
                clear h8 hfr g1 g2 g3 g4 HFI HRD HRN HRN8 hba HRN9 HSP HOFF hh2
                obtain ⟨e0, c3, -⟩ := HSF.out _ (Below.refl _ _)
                go_wp2_with fail
                clear e0 c3
                generalize w8.alloc (.cells #[.slice va fl vc, .int .i64 g] 44) = w9 at *
                refine (HSF.out w9 (Below.refl _ _)).2.2.1.mono ?_
                rintro e w10 ⟨rfl, hd10⟩
                have HB10 := Lib.hid (hd10.below w9.heap.size)
                clear hd10
                go_wp2_with fail
                refine (HSF.out w10 HB10.out).2.2.2.1.mono ?_
                rintro e w11 ⟨a2, c2', rfl, hb11⟩
                have HB11 : Hid (Below w9.heap.size w9 w11) := HB10.out.trans (hb11.mono HB10.out.size)
                have HFN := Lib.hid (HSF.out w11 HB11.out).2.2.2.2
                clear hb11 HSF
                go_wp2_with fail
                go_ret
                exact ⟨rfl, HFN.out⟩
end Go.Proofs.YtcdpnfchmpncjaaGreatDoor

namespace Go.Tr
open Go.ChangeShapes Go.WideShapes Go.RowKit Go.Deep
section
variable {H : Type} {enc : TypeId × Value → H} {P : Program} {w : World} {base : Nat} {sp : Nat → Bool} {held : Bool}
end
end Go.Tr

