/-
  Parts of the proof, one behind the other: KGoodF, GrayPlain, KGoodL.
-/
import Derived.Test.YtcdpnfchmpncjaaGreatDoorMa39
set_option linter.unusedSimpArgs false
set_option linter.unusedVariables false
namespace Go.Proofs.YtcdpnfchmpncjaaGreatDoor
open Go.RowKit Go.Tr Go.Shelf
variable {w w' : World} {F : Nat → Prop} {A : Ad} {S S1 : HS} {cnt : Nat → Nat} {ct : Nat → Nat → Nat}
def goneS (x : Sl) : Sl := ⟨x.gen, false, 0, 0, false, false⟩
theorem Good.lose1 (h : Good S cnt) {z : Int} (hz : z ∈ S.mine) : Good (lose1 S z) cnt ∧ (∀ ct, Cont S cnt ct → Cont (lose1 S z) cnt ct) ∧ lose1 S z = { S with mine := outL S.mine z, sl := (lose1 S z).sl } ∧ ∀ j : Nat, (lose1 S z).sl[j]? = if (j : Int) = z then (S.sl[j]?).map goneS else S.sl[j]? := by
  obtain ⟨i, x, rfl, hx, hu⟩ := (h.mine z).1 hz
  have e : Go.Proofs.YtcdpnfchmpncjaaGreatDoor.lose1 S (i : Int) = { S with mine := outL S.mine i, sl := S.sl.set i (goneS x) } := by
    unfold Go.Proofs.YtcdpnfchmpncjaaGreatDoor.lose1
    rw [show ((i : Int).toNat) = i from Int.toNat_natCast i, hx]
    rfl
  obtain ⟨h1, h2⟩ := h.lose hx hu
  rw [e]
  refine ⟨h1, h2, rfl, fun j => ?_⟩
  by_cases hj : (j : Int) = (i : Int)
  · have : j = i := by omega
    subst this
    rw [if_pos rfl, hx]
    exact List.getElem?_set_self (List.getElem?_eq_some_iff.1 hx).1
  · rw [if_neg hj]
    exact List.getElem?_set_ne (fun e => hj (by rw [e]))
theorem Good.loseL : ∀ (zs : List Int) {S : HS}, Good S cnt → zs.Nodup → (∀ z ∈ zs, z ∈ S.mine) → Good (loseL S zs) cnt ∧ (∀ ct, Cont S cnt ct → Cont (loseL S zs) cnt ct) ∧ loseL S zs = { S with mine := (loseL S zs).mine, sl := (loseL S zs).sl } ∧
    (∀ z, z ∈ (loseL S zs).mine ↔ z ∈ S.mine ∧ ¬ (z ∈ zs ∧ S.gs.color z = 0)) ∧ ∀ j : Nat, (loseL S zs).sl[j]? = if (j : Int) ∈ zs ∧ S.gs.color j = 0 then (S.sl[j]?).map goneS else S.sl[j]?
  | [], S, h, _, _ => ⟨h, fun ct h => h, rfl, fun z => by simp [Go.Proofs.YtcdpnfchmpncjaaGreatDoor.loseL], fun j => by simp [Go.Proofs.YtcdpnfchmpncjaaGreatDoor.loseL]⟩
  | z :: zs, S, h, hn, hs => by
    obtain ⟨n1, n2⟩ := List.nodup_cons.1 hn
    rw [show Go.Proofs.YtcdpnfchmpncjaaGreatDoor.loseL S (z :: zs) = Go.Proofs.YtcdpnfchmpncjaaGreatDoor.loseL (if S.gs.color z = 0 then Go.Proofs.YtcdpnfchmpncjaaGreatDoor.lose1 S z else S) zs from rfl]
    by_cases hc : S.gs.color z = 0
    · rw [if_pos hc]
      obtain ⟨h1, h2, h3, h4⟩ := h.lose1 (hs z (List.mem_cons_self ..))
      have hm : ∀ y, y ∈ (Go.Proofs.YtcdpnfchmpncjaaGreatDoor.lose1 S z).mine ↔ y ∈ S.mine ∧ y ≠ z := fun y => by rw [h3]; exact mem_outL
      have hg : (Go.Proofs.YtcdpnfchmpncjaaGreatDoor.lose1 S z).gs = S.gs := by rw [h3]
      obtain ⟨k1, k2, k3, k4, k5⟩ := Good.loseL zs h1 n2 (fun y hy => (hm y).2 ⟨hs y (List.mem_cons_of_mem _ hy), fun e => n1 (e ▸ hy)⟩)
      refine ⟨k1, fun ct hct => k2 ct (h2 ct hct), by rw [k3]; simp only; rw [h3], fun y => ?_, fun j => ?_⟩
      · rw [k4, hm, hg, List.mem_cons]
        constructor
        · rintro ⟨⟨e1, e2⟩, e3⟩
          exact ⟨e1, fun e => e.1.elim e2 (fun e4 => e3 ⟨e4, e.2⟩)⟩
        · rintro ⟨e1, e2⟩
          exact ⟨⟨e1, fun e => e2 ⟨Or.inl e, e ▸ hc⟩⟩, fun e => e2 ⟨Or.inr e.1, e.2⟩⟩
      · rw [k5, h4, hg]
        by_cases hj : (j : Int) = z
        · have hnj : ¬ ((j : Int) ∈ zs ∧ S.gs.color j = 0) := fun e => n1 (hj ▸ e.1)
          rw [if_neg hnj, if_pos hj, if_pos ⟨by rw [hj]; exact List.mem_cons_self .., by rw [hj]; exact hc⟩]
        · rw [if_neg hj]
          by_cases hz : (j : Int) ∈ zs ∧ S.gs.color j = 0
          · rw [if_pos hz, if_pos ⟨List.mem_cons_of_mem _ hz.1, hz.2⟩]
          · rw [if_neg hz, if_neg (fun e => hz ⟨(List.mem_cons.1 e.1).resolve_left hj, e.2⟩)]
    · rw [if_neg hc]
      obtain ⟨k1, k2, k3, k4, k5⟩ := Good.loseL zs h n2 (fun y hy => hs y (List.mem_cons_of_mem _ hy))
      refine ⟨k1, k2, k3, fun y => ?_, fun j => ?_⟩
      · rw [k4, List.mem_cons]
        constructor
        · rintro ⟨e1, e2⟩
          exact ⟨e1, fun e => e.1.elim (fun e4 => hc (e4 ▸ e.2)) (fun e4 => e2 ⟨e4, e.2⟩)⟩
        · rintro ⟨e1, e2⟩
          exact ⟨e1, fun e => e2 ⟨Or.inr e.1, e.2⟩⟩
      · rw [k5]
        by_cases hz : (j : Int) ∈ zs ∧ S.gs.color j = 0
        · rw [if_pos hz, if_pos ⟨List.mem_cons_of_mem _ hz.1, hz.2⟩]
        · have hz2 : ¬ ((j : Int) ∈ z :: zs ∧ S.gs.color j = 0) := fun e => (List.mem_cons.1 e.1).elim (fun e4 => hc (by rw [← e4]; exact e.2)) (fun e4 => hz ⟨e4, e.2⟩)
          rw [if_neg hz, if_neg hz2]
def cntI (cnt : Nat → Nat) (z : Int) : Nat := cnt z.toNat
def stayL (S : HS) (cnt : Nat → Nat) : List Int := S.mine.flatMap (stayC S (cntI cnt))
theorem Good.mem_stayL (h : Good S cnt) (c : Int) : c ∈ stayL S cnt ↔ ∃ (i : Nat) (x : Sl) (k : Nat), S.sl[i]? = some x ∧ x.used = true ∧ c = (k : Int) ∧ x.addr / S.Wd ≤ k ∧ k ≤ (x.addr + S.L.size (cnt i)) / S.Wd := by
  unfold stayL
  rw [List.mem_flatMap]
  constructor
  · rintro ⟨z, hz, hc⟩
    obtain ⟨i, x, rfl, hx, hu⟩ := (h.mine z).1 hz
    unfold stayC cntI at hc
    rw [show ((i : Int).toNat) = i from Int.toNat_natCast i, hx] at hc
    obtain ⟨j, hj, rfl⟩ := List.mem_map.1 hc
    have := List.mem_range.1 hj
    exact ⟨i, x, _, hx, hu, rfl, by omega, by have := Nat.div_le_div_right (c := S.Wd) (show x.addr ≤ x.addr + S.L.size (cnt i) by omega); omega⟩
  · rintro ⟨i, x, k, hx, hu, rfl, h1, h2⟩
    refine ⟨(i : Int), (h.mine _).2 ⟨i, x, rfl, hx, hu⟩, ?_⟩
    unfold stayC cntI
    rw [show ((i : Int).toNat) = i from Int.toNat_natCast i, hx]
    exact List.mem_map.2 ⟨k - x.addr / S.Wd, List.mem_range.2 (by omega), by congr 1; omega⟩
def keepP (cs stay : List Int) (p : Nat × Nat) : Bool := !(decide ((p.1 : Int) ∈ cs) && !decide ((p.1 : Int) ∈ stay))
structure FinG (S1 : HS) (cnt : Nat → Nat) (k : Nat) (S' : HS) (fr : List Int) : Prop where
  good : Good S' cnt
  cont : ∀ ct, Cont S1 cnt ct → Cont S' cnt ct
  same : S' = { S1 with ps := S'.ps, a := S'.a, en := S'.en, own := S'.own }
  ps : S'.ps = S1.ps.filter (keepP ((chunksL S1.ps).take k) (stayL S1 cnt))
  fr : fr = ((chunksL S1.ps).take k).filter (fun c => !decide (c ∈ stayL S1 cnt))
theorem filter_all {α : Type} {f : α → Bool} : ∀ {l : List α}, (∀ x ∈ l, f x = true) → l.filter f = l := fun h => List.filter_eq_self.2 h
theorem findPart_some {ps : List (Nat × Nat)} {c : Nat} {p : Nat × Nat} (h : findPart ps c = some p) : p ∈ ps ∧ p.1 = c := by
  unfold findPart at h
  exact ⟨List.mem_of_find?_eq_some h, by simpa using List.find?_some h⟩
theorem FinG.fin (hg : Good S1 cnt) (hon : S1.on = true) : FinJ (FinG S1 cnt) (chunksL S1.ps) (stayL S1 cnt) := by
  intro k S fr c hJ hc
  have ht := take_snoc hc
  have hcm : c ∈ chunksL S1.ps := List.mem_of_getElem? hc
  obtain ⟨p0, hp0, q, rfl, hq1, hq2⟩ := mem_chunksL.1 hcm
  have hon' : S.on = true := by rw [hJ.same]; exact hon
  have hsub : ∀ p ∈ S.ps, p ∈ S1.ps := fun p hp => by rw [hJ.ps] at hp; exact (List.mem_filter.1 hp).1
  by_cases hs : (q : Int) ∈ stayL S1 cnt
  · refine Or.inl ⟨hs, hJ.good, hJ.cont, hJ.same, ?_, ?_⟩
    · rw [hJ.ps, ht]
      refine List.filter_congr fun p hp => ?_
      unfold keepP
      by_cases e : (p.1 : Int) = (q : Int)
      · simp [e, hs]
      · simp [e]
    · rw [hJ.fr, ht, List.filter_append]
      simp [hs]
  · refine Or.inr ⟨hs, q, ?_⟩
    have hfr : fr ++ [(q : Int)] = ((chunksL S1.ps).take (k + 1)).filter (fun c => !decide (c ∈ stayL S1 cnt)) := by
      rw [hJ.fr, ht, List.filter_append]
      simp [hs]
    have hlen : S.ps.length ≤ 100000 := by have := hJ.good.ps_len; omega
    cases hf : findPart S.ps q with
    | none =>
      refine ⟨S, rfl, ⟨hlen, Or.inr ⟨hf, rfl⟩⟩, hJ.good, hJ.cont, hJ.same, ?_, hfr⟩
      rw [hJ.ps, ht]
      refine List.filter_congr fun p hp => ?_
      by_cases e : p.1 = q
      · have h1 : keepP ((chunksL S1.ps).take k) (stayL S1 cnt) p = false := by
          refine Bool.eq_false_iff.2 fun h1 => ?_
          have h2 : p ∈ S.ps := by rw [hJ.ps]; exact List.mem_filter.2 ⟨hp, h1⟩
          unfold findPart at hf
          have := List.find?_eq_none.1 hf p h2
          simp [e] at this
        rw [h1]
        symm
        unfold keepP
        simp [e, hs]
      · unfold keepP
        have : ¬ (p.1 : Int) = (q : Int) := by omega
        simp [this]
    | some p =>
      obtain ⟨hp, hpq⟩ := findPart_some hf
      obtain ⟨p1, m⟩ := p
      simp only at hpq
      subst hpq
      obtain ⟨hm1, hmC, hown⟩ := hJ.good.parts _ (ps_sub S _ hp)
      simp only at hm1 hmC hown
      have hno : ∀ i a n, ObjIn S cnt i a n → a + n ≤ p1 * S.Wd ∨ (p1 + m) * S.Wd ≤ a := fun i a n ho => by
        obtain ⟨x, hx, hu, rfl, rfl⟩ := ho
        have hx1 : S1.sl[i]? = some x := by rw [hJ.same] at hx; exact hx
        have hL : S.L = S1.L := by rw [hJ.same]
        have hW : S.Wd = S1.Wd := by rw [hJ.same]
        obtain ⟨r, hr, h1, h2, h3⟩ := (hJ.good.ent i x hx hu).ap
        have hne : r ≠ (p1, m) := fun e => by
          subst e
          simp only at h1 h2 h3
          refine hs ((hg.mem_stayL _).2 ⟨i, x, p1, hx1, hu, rfl, ?_⟩)
          rw [← hW, ← hL]
          have hw := hJ.good.wd.1
          have e1 : p1 ≤ x.addr / S.Wd := (Nat.le_div_iff_mul_le hw).2 h1
          have e2 : x.addr / S.Wd ≤ (x.addr + S.L.size (cnt i)) / S.Wd := Nat.div_le_div_right (by omega)
          rcases h3 with h3 | h3
          · subst h3
            have e3 : x.addr / S.Wd < p1 + 1 := (Nat.div_lt_iff_lt_mul hw).2 (by omega)
            omega
          · have e3 : x.addr / S.Wd = p1 := by rw [h3]; exact Nat.mul_div_cancel _ hw
            omega
        have hap := pairwise_mem (fun x y => PApart.symm) hJ.good.pap _ hr _ (ps_sub S _ hp) hne
        rcases hap with hap | hap
        · have := Nat.mul_le_mul_right S.Wd hap; simp only at this; omega
        · have := Nat.mul_le_mul_right S.Wd hap; simp only at this; omega
      obtain ⟨g1, g2⟩ := hJ.good.dropPart hp hno
      refine ⟨dropS S p1 m, rfl, ⟨hlen, Or.inl ⟨m, hf, hmC, fun i h1 h2 => by rw [hown i h1 h2]; decide, rfl⟩⟩, g1, fun ct hct => g2 ct (hJ.cont ct hct), ?_, ?_, hfr⟩
      · unfold dropS
        simp only
        rw [hJ.same]
      · have hnd : S.ps.Nodup := hJ.good.pap1.imp_of_mem (fun {p r} hp' hq hpq e => by
          subst e
          have := (hJ.good.parts p (ps_sub S _ hp')).1
          unfold PApart at hpq
          omega)
        show S.ps.erase (p1, m) = _
        rw [hnd.erase_eq_filter, hJ.ps, List.filter_filter, ht]
        refine List.filter_congr fun r hr => ?_
        by_cases e : r = (p1, m)
        · subst e
          unfold keepP
          simp [hs]
        · have hne : ¬ (r.1 : Int) = (p1 : Int) := fun e2 => by
            have hap := pairwise_mem (fun x y => PApart.symm) hg.pap _ (ps_sub S1 _ hr) _ (ps_sub S1 _ (hsub _ hp)) e
            have h1 := (hg.parts r (ps_sub S1 _ hr)).1
            have h2 : r.1 = p1 := by omega
            unfold PApart at hap
            simp only at hap
            omega
          unfold keepP
          simp [e, hne]
structure FinR (S : HS) (cnt : Nat → Nat) (S3 : HS) (fr : List Int) : Prop where
  good : Good S3 cnt
  cont : ∀ ct, Cont S cnt ct → Cont S3 cnt ct
  on : S3.on = false
  fix : S3.C = S.C ∧ S3.Wd = S.Wd ∧ S3.K = S.K ∧ S3.L = S.L
  mine : ∀ z, z ∈ S3.mine ↔ z ∈ S.mine ∧ ¬ S.gs.color z = 0
  sl : ∀ j : Nat, S3.sl[j]? = if (j : Int) ∈ S.mine ∧ S.gs.color j = 0 then (S.sl[j]?).map goneS else S.sl[j]?
  ps : ∃ stay : List Int, S3.ps = S.ps.filter (fun p => decide ((p.1 : Int) ∈ stay)) ++ S.ps2 ∧ fr = (chunksL S.ps).filter (fun c => !decide (c ∈ stay)) ∧ ∀ c : Int, c ∈ stay ↔ ∃ (i : Nat) (x : Sl) (k : Nat), S3.sl[i]? = some x ∧ x.used = true ∧ c = (k : Int) ∧ x.addr / S.Wd ≤ k ∧ k ≤ (x.addr + S.L.size (cnt i)) / S.Wd
theorem efinish_good (w : World) (h : HeapF w F A S) (hg : Good S cnt) (hon : S.on = true) (hw : S.gs.wait = 0) (hgen : ∀ (i : Nat) (x : Sl), S.sl[i]? = some x → x.used = true → x.gen < 255) :
    Calls Tryz.prog 29 #[.pointer (some ⟨A.h, 0, none⟩)] w fun e w' => ∃ v fr S3, e = .returned (.tuple #[.agg #[v, .int .i64 ((S.mine.filter (whiteB S)).length : Nat)], .int .i64 0]) ∧ (∃ a c, v = .slice a fr.length c) ∧ FinR S cnt S3 fr ∧ HeapF w' (grow F w w') A S3 ∧ Only F w w' := by
  have hnd : S.mine.Nodup := hg.rise.imp (fun h e => by omega)
  obtain ⟨k1, k2, k3, k4, k5⟩ := Good.loseL S.mine hg hnd (fun z hz => hz)
  obtain ⟨S1, hS1⟩ : ∃ S1, S1 = loseL S S.mine := ⟨_, rfl⟩
  have hml := hg.mine_len
  have hps : S1.ps = S.ps := by rw [hS1, k3]
  rw [← hS1] at k1 k2 k3 k4 k5
  have hon1 : S1.on = true := by rw [k3]; exact hon
  refine (efin1_any (J := FinG S1 cnt) (cntI cnt) w h hon hw (by omega) hnd (fun z hz => ?_) (fun z hz => ?_) ?_ ?_ ?_ ?_).mono ?_
  · obtain ⟨i, x, rfl, hx, hu⟩ := (hg.mine z).1 hz
    exact ⟨i, x, rfl, hx, hu, (hg.ent i x hx hu).reg, hgen i x hx hu⟩
  · rw [← hS1] at hz ⊢
    obtain ⟨i, x, rfl, hx, hu⟩ := (k1.mine z).1 hz
    exact ⟨i, x, rfl, k1.objOk hx hu⟩
  · rw [← hS1]; exact k1.spOk
  · rw [← hS1]; exact FinG.fin k1 hon1
  · rw [← hS1]
    refine ⟨k1, fun ct h => h, rfl, ?_, rfl⟩
    rw [filter_all]
    intro p _
    simp [keepP]
  · rw [← hS1]
    intro S' fr hJ
    have hon' : S'.on = true := by rw [hJ.same]; exact hon1
    have h1 := hJ.good.all_len.1
    unfold HS.all at h1
    rw [if_pos hon', List.length_append] at h1
    exact ⟨hon', by omega, fun p hp => (hJ.good.parts p (ps2_sub hon' p hp)).2⟩
  · rintro e w' ⟨v, fr, S', rfl, hv, hJ, h1, h2⟩
    rw [← hS1] at hJ
    have hon' : S'.on = true := by rw [hJ.same]; exact hon1
    obtain ⟨j1, j2⟩ := hJ.good.join hon'
    have hfix : S'.C = S.C ∧ S'.Wd = S.Wd ∧ S'.K = S.K ∧ S'.L = S.L ∧ S'.mine = S1.mine ∧ S'.sl = S1.sl ∧ S'.ps2 = S.ps2 := by
      rw [hJ.same, k3]; exact ⟨rfl, rfl, rfl, rfl, rfl, rfl, rfl⟩
    obtain ⟨f1, f2, f3, f4, f5, f6, f7⟩ := hfix
    refine ⟨v, fr, endS S', rfl, hv, ⟨j1, fun ct hct => j2 ct (hJ.cont ct (k2 ct hct)), rfl, ⟨f1, f2, f3, f4⟩, fun z => ?_, fun j => ?_, stayL S1 cnt, ?_, ?_, fun c => ?_⟩, h1, h2⟩
    · show z ∈ S'.mine ↔ _
      rw [f5, k4]
      exact ⟨fun ⟨e1, e2⟩ => ⟨e1, fun e => e2 ⟨e1, e⟩⟩, fun ⟨e1, e2⟩ => ⟨e1, fun e => e2 e.2⟩⟩
    · show S'.sl[j]? = _
      rw [f6]; exact k5 j
    · show S'.ps ++ S'.ps2 = _
      rw [f7, hJ.ps, hps, List.take_length]
      congr 1
      refine List.filter_congr fun p hp => ?_
      have : (p.1 : Int) ∈ chunksL S.ps := mem_chunksL.2 ⟨p, hp, p.1, rfl, Nat.le_refl _, by have := (hg.parts p (ps_sub S _ hp)).1; omega⟩
      unfold keepP
      simp [this]
    · rw [hJ.fr, hps, List.take_length]
    · rw [k1.mem_stayL]
      show _ ↔ ∃ (i : Nat) (x : Sl) (k : Nat), S'.sl[i]? = some x ∧ _
      rw [f6]
      have e1 : S1.Wd = S.Wd := by rw [k3]
      have e2 : S1.L = S.L := by rw [k3]
      rw [e1, e2]
end Go.Proofs.YtcdpnfchmpncjaaGreatDoor
namespace Go.Tr
def lv (S : GS) (q : List (Int × Int)) : List Int := (q.filter fun p => decide (S.at p.1 = (1, p.2))).map (·.1)
structure Rep (S : GS) (wl bl : List Int) : Prop where
  turn : ∀ p ∈ S.q, p.2 ≤ S.last
  once : S.q.Pairwise (fun p p' => p.2 ≠ p'.2)
  gray : ∀ x n, S.at x = (1, n) → (x, n) ∈ S.q
  live : lv S S.q = wl
  cnt : S.wait = wl.length
  black : ∀ y, S.color y = 2 ↔ y ∈ bl
  three : ∀ y, S.color y = 0 ∨ S.color y = 1 ∨ S.color y = 2
theorem mem_lv {S : GS} {q : List (Int × Int)} {y : Int} : y ∈ lv S q ↔ ∃ n, (y, n) ∈ q ∧ S.at y = (1, n) := by
  unfold lv
  simp only [List.mem_map, List.mem_filter, decide_eq_true_eq]
  constructor
  · rintro ⟨⟨a, n⟩, ⟨h1, h2⟩, rfl⟩; exact ⟨n, h1, h2⟩
  · rintro ⟨n, h1, h2⟩; exact ⟨(y, n), ⟨h1, h2⟩, rfl⟩
theorem Rep.gray_iff {S : GS} {wl bl : List Int} (h : Rep S wl bl) (y : Int) : S.color y = 1 ↔ y ∈ wl := by
  rw [← h.live, mem_lv]
  constructor
  · intro hc
    have : S.at y = (1, (S.at y).2) := by rw [← hc]; rfl
    exact ⟨_, h.gray y _ this, this⟩
  · rintro ⟨n, _, h2⟩; unfold GS.color; rw [h2]
theorem Rep.white_iff {S : GS} {wl bl : List Int} (h : Rep S wl bl) (y : Int) : S.color y = 0 ↔ y ∉ wl ∧ y ∉ bl := by
  rw [← h.gray_iff, ← h.black]
  rcases h.three y with h' | h' | h' <;> simp [h']
theorem lv_nodup {S : GS} {q : List (Int × Int)} (h : q.Pairwise (fun p p' => p.2 ≠ p'.2)) : (lv S q).Nodup := by
  unfold lv List.Nodup
  rw [List.pairwise_map]
  refine (h.filter _).imp_of_mem ?_
  intro p p' hp hp' hne e
  simp only [List.mem_filter, decide_eq_true_eq] at hp hp'
  have h1 := hp.2
  rw [e, hp'.2] at h1
  exact hne (by simpa using congrArg Prod.snd h1.symm)
theorem Rep.nodup {S : GS} {wl bl : List Int} (h : Rep S wl bl) : wl.Nodup := by rw [← h.live]; exact lv_nodup h.once
theorem Rep.apart {S : GS} {wl bl : List Int} (h : Rep S wl bl) {y : Int} (h1 : y ∈ wl) (h2 : y ∈ bl) : False := by
  have a := (h.gray_iff y).2 h1
  have b := (h.black y).2 h2
  omega
theorem Rep.mono {S : GS} {wl bl bl' : List Int} (h : Rep S wl bl) (hb : ∀ y, y ∈ bl ↔ y ∈ bl') : Rep S wl bl' := ⟨h.turn, h.once, h.gray, h.live, h.cnt, fun y => (h.black y).trans (hb y), h.three⟩
theorem Rep.new : Rep GS.new [] [] := by
  refine ⟨by simp [GS.new], by simp [GS.new], ?_, rfl, rfl, ?_, ?_⟩ <;> simp [GS.at, GS.new, lookA, GS.color]
theorem at_put (tab : List (Int × (Int × Int))) (q : List (Int × Int)) (l w : Int) (x y : Int) (v : Int × Int) : (GS.mk (putA tab x v) q l w).at y = if y = x then v else (lookA tab y).getD (0, 0) := by
  unfold GS.at
  by_cases h : y = x
  · subst h; rw [if_pos rfl, lookA_put_same]; rfl
  · rw [if_neg h, lookA_put_other _ _ h]
theorem at_enter (S : GS) (x y : Int) : (S.enter x).at y = if y = x then (1, S.last + 1) else S.at y := at_put _ _ _ _ _ _ _
theorem color_enter (S : GS) (x y : Int) : (S.enter x).color y = if y = x then 1 else S.color y := by unfold GS.color; rw [at_enter]; split <;> rfl
theorem at_paint {S : GS} {x : Int} (h : S.color x ≠ 2) (y : Int) : (S.paint x).at y = if y = x then (2, 0) else S.at y := by
  unfold GS.paint; rw [if_neg h]; exact at_put _ _ _ _ _ _ _
theorem color_paint {S : GS} {x : Int} (h : S.color x ≠ 2) (y : Int) : (S.paint x).color y = if y = x then 2 else S.color y := by unfold GS.color; rw [at_paint h]; split <;> rfl
theorem lv_append (S : GS) (q q' : List (Int × Int)) : lv S (q ++ q') = lv S q ++ lv S q' := by simp [lv]
theorem lv_congr {S S' : GS} {q : List (Int × Int)} (h : ∀ p ∈ q, S.at p.1 = (1, p.2) ↔ S'.at p.1 = (1, p.2)) : lv S q = lv S' q := by
  unfold lv
  congr 1
  exact List.filter_congr (fun p hp => by simp only [decide_eq_decide]; exact h p hp)
theorem Rep.enter {S : GS} {wl bl : List Int} (h : Rep S wl bl) {x : Int} (hx : x ∉ wl) : Rep (S.enter x) (wl ++ [x]) (bl.filter (· != x)) := by
  have hc : S.color x ≠ 1 := fun e => hx ((h.gray_iff x).1 e)
  refine ⟨?_, ?_, ?_, ?_, ?_, ?_, ?_⟩
  · intro p hp
    rcases List.mem_append.1 hp with hp | hp
    · have := h.turn p hp; show p.2 ≤ S.last + 1; omega
    · simp at hp; subst hp; exact Int.le_refl _
  · show (S.q ++ [(x, S.last + 1)]).Pairwise _
    rw [List.pairwise_append]
    refine ⟨h.once, by simp, fun p hp p' hp' e => ?_⟩
    simp at hp'; subst hp'
    have := h.turn p hp
    simp at e; omega
  · intro y n hy
    rw [at_enter] at hy
    show (y, n) ∈ S.q ++ [(x, S.last + 1)]
    split at hy
    · rename_i e; subst e; cases hy; simp
    · exact List.mem_append_left _ (h.gray y n hy)
  · show lv (S.enter x) (S.q ++ [(x, S.last + 1)]) = wl ++ [x]
    rw [lv_append]
    congr 1
    · rw [← h.live]
      refine lv_congr (fun p hp => ?_)
      rw [at_enter]
      split
      · rename_i e
        have := h.turn p hp
        constructor
        · intro e2; have := congrArg Prod.snd e2; simp at this; omega
        · intro e2; exfalso; apply hc; rw [← e]; unfold GS.color; rw [e2]
      · exact Iff.rfl
    · simp [lv, at_enter]
  · show S.wait + 1 = _
    rw [h.cnt]; simp
  · intro y
    rw [color_enter]
    split
    · rename_i e; subst e; simp
    · rename_i e; rw [h.black]; simp [e]
  · intro y
    rw [color_enter]
    split
    · simp
    · exact h.three y
theorem Rep.put1 {S : GS} {wl bl : List Int} (h : Rep S wl bl) (x : Int) : Rep (S.put1 x) (if x ∈ wl ∨ x ∈ bl then wl else wl ++ [x]) bl := by
  unfold GS.put1
  by_cases hc : S.color x = 0
  · obtain ⟨h1, h2⟩ := (h.white_iff x).1 hc
    rw [if_pos hc, if_neg (by simp [h1, h2])]
    exact (h.enter h1).mono (fun y => by simp; exact fun hy e => h2 (e ▸ hy))
  · rw [if_neg hc, if_pos (by rw [h.white_iff] at hc; by_cases h1 : x ∈ wl <;> simp_all)]
    exact h
theorem Rep.again {S : GS} {wl bl : List Int} (h : Rep S wl bl) (x : Int) : Rep (S.again x) (if x ∈ bl then wl ++ [x] else wl) (if x ∈ bl then bl.filter (· != x) else bl) := by
  unfold GS.again
  by_cases hb : x ∈ bl
  · rw [if_pos ((h.black x).2 hb), if_pos hb, if_pos hb]
    exact h.enter (fun hw => h.apart hw hb)
  · rw [if_neg (fun e => hb ((h.black x).1 e)), if_neg hb, if_neg hb]
    exact h
theorem filter_ne_length {l : List Int} (h : l.Nodup) {x : Int} (hx : x ∈ l) : ((l.filter (· != x)).length : Int) = l.length - 1 := by
  rw [← h.erase_eq_filter, List.length_erase_of_mem hx]
  have := List.length_pos_of_mem hx
  omega
theorem lv_paint {S : GS} {x : Int} (h : S.color x ≠ 2) (q : List (Int × Int)) : lv (S.paint x) q = (lv S q).filter (· != x) := by
  unfold lv
  rw [List.filter_map, List.filter_filter]
  congr 1
  refine List.filter_congr (fun p hp => ?_)
  rw [at_paint h]
  by_cases e : p.1 = x <;> simp [e, Function.comp_def]
theorem Rep.paint {S : GS} {wl bl : List Int} (h : Rep S wl bl) {x : Int} (hx : x ∉ bl) : Rep (S.paint x) (wl.filter (· != x)) (bl ++ [x]) := by
  have hc : S.color x ≠ 2 := fun e => hx ((h.black x).1 e)
  have hq : (S.paint x).q = S.q := by unfold GS.paint; rw [if_neg hc]
  have hl : (S.paint x).last = S.last := by unfold GS.paint; rw [if_neg hc]
  refine ⟨by rw [hq, hl]; exact h.turn, by rw [hq]; exact h.once, ?_, ?_, ?_, ?_, ?_⟩
  · intro y n hy
    rw [at_paint hc] at hy
    rw [hq]
    split at hy
    · cases hy
    · exact h.gray y n hy
  · rw [hq, lv_paint hc, h.live]
  · have hw : (S.paint x).wait = if S.color x = 1 then S.wait - 1 else S.wait := by unfold GS.paint; rw [if_neg hc]
    rw [hw, h.cnt]
    by_cases h1 : x ∈ wl
    · rw [if_pos ((h.gray_iff x).2 h1), filter_ne_length h.nodup h1]
    · rw [if_neg (fun e => h1 ((h.gray_iff x).1 e)), List.filter_eq_self.2 (fun y hy => by simp; exact fun e => h1 (e ▸ hy))]
  · intro y
    rw [color_paint hc]
    split
    · rename_i e; simp [e]
    · rename_i e; rw [h.black]; simp [e]
  · intro y
    rw [color_paint hc]
    split
    · simp
    · exact h.three y
theorem Rep.paint_old {S : GS} {wl bl : List Int} (h : Rep S wl bl) {x : Int} (hx : x ∈ bl) : S.paint x = S := by unfold GS.paint; rw [if_pos ((h.black x).2 hx)]
theorem nextQ_none {S : GS} : ∀ {q : List (Int × Int)}, lv S q = [] → nextQ S q = (none, { S with q := [] })
  | [], _ => rfl
  | (x, n) :: r, h => by
    have hn : S.at x ≠ (1, n) := fun e => by simp [lv, e] at h
    rw [nextQ, if_neg hn]
    exact nextQ_none (by simpa [lv, hn] using h)
theorem nextQ_some {S : GS} {x : Int} {t : List Int} : ∀ {q : List (Int × Int)}, lv S q = x :: t → ∃ n r p, nextQ S q = (some x, ({ S with q := r } : GS).paint x) ∧ S.at x = (1, n) ∧ lv S r = t ∧ q = p ++ (x, n) :: r ∧ lv S p = []
  | [], h => by simp [lv] at h
  | (y, n) :: r, h => by
    by_cases hn : S.at y = (1, n)
    · have h2 : y = x ∧ lv S r = t := by simpa [lv, hn] using h
      obtain ⟨rfl, h2⟩ := h2
      exact ⟨n, r, [], by rw [nextQ, if_pos hn], hn, h2, rfl, rfl⟩
    · obtain ⟨m, r', p, h1, h2, h3, h4, h5⟩ := nextQ_some (q := r) (by simpa [lv, hn] using h)
      refine ⟨m, r', (y, n) :: p, by rw [nextQ, if_neg hn, h1], h2, h3, by rw [h4]; rfl, by simpa [lv, hn] using h5⟩
theorem Rep.next_none {S : GS} {bl : List Int} (h : Rep S [] bl) : S.next.1 = none ∧ Rep S.next.2 [] bl := by
  have he : S.next = (none, { S with q := [] }) := nextQ_none h.live
  rw [he]
  refine ⟨rfl, ⟨by simp, by simp, ?_, by simp [lv], h.cnt, h.black, h.three⟩⟩
  intro x n hx
  have : S.color x = 1 := by have : S.at x = (1, n) := hx; unfold GS.color; rw [this]
  rw [h.gray_iff] at this
  cases this
theorem Rep.next_some {S : GS} {x : Int} {t bl : List Int} (h : Rep S (x :: t) bl) : S.next.1 = some x ∧ Rep S.next.2 t (bl ++ [x]) := by
  obtain ⟨n, r, p, h1, h2, h3, h4, h5⟩ := nextQ_some h.live
  have he : S.next = (some x, ({ S with q := r } : GS).paint x) := h1
  have hnd := h.nodup
  have hc1 : S.color x = 1 := by unfold GS.color; rw [h2]
  rw [he]
  refine ⟨rfl, ?_⟩
  have hc : ({ S with q := r } : GS).color x ≠ 2 := by show S.color x ≠ 2; omega
  have hp : (({ S with q := r } : GS).paint x) = { S with q := r, tab := putA S.tab x (2, 0), wait := S.wait - 1 } := by
    have : ({ S with q := r } : GS).color x = 1 := hc1
    unfold GS.paint; rw [if_neg hc, if_pos this]
  have hat : ∀ y, (({ S with q := r } : GS).paint x).at y = if y = x then (2, 0) else S.at y := fun y => at_paint hc y
  have hco : ∀ y, (({ S with q := r } : GS).paint x).color y = if y = x then 2 else S.color y := fun y => color_paint hc y
  have hxt : x ∉ t := (List.nodup_cons.1 hnd).1
  refine ⟨?_, ?_, ?_, ?_, ?_, ?_, ?_⟩
  · rw [hp]; intro p' hp'; exact h.turn p' (by rw [h4]; simp; exact Or.inr (Or.inr hp'))
  · rw [hp]
    have := h.once
    rw [h4, List.pairwise_append] at this
    exact (List.pairwise_cons.1 this.2.1).2
  · intro y m hy
    rw [hat] at hy
    rw [hp]
    split at hy
    · cases hy
    · rename_i hne
      have h6 := h.gray y m hy
      rw [h4] at h6
      rcases List.mem_append.1 h6 with h6 | h6
      · have : y ∈ lv S p := mem_lv.2 ⟨m, h6, hy⟩
        rw [h5] at this; cases this
      · rcases List.mem_cons.1 h6 with h6 | h6
        · cases h6; exact absurd rfl hne
        · exact h6
  · rw [show (({ S with q := r } : GS).paint x).q = r by rw [hp], lv_paint hc]
    show (lv S r).filter _ = t
    rw [h3]
    exact List.filter_eq_self.2 (fun y hy => by simp; exact fun e => hxt (e ▸ hy))
  · rw [hp]
    have := h.cnt
    simp at this ⊢
    omega
  · intro y
    rw [hco]
    split
    · rename_i e; simp [e]
    · rename_i e; rw [h.black]; simp [e]
  · intro y
    rw [hco]
    split
    · simp
    · exact h.three y
theorem Small_paint {S : GS} {N : Int} (h : S.Small N) (x : Int) : (S.paint x).Small (N + 1) := by
  obtain ⟨h1, h2, h3, h4, h5⟩ := h
  unfold GS.paint
  split
  · exact ⟨h1, by omega, by omega, by omega, by omega⟩
  · refine ⟨h1, ?_, ?_, ?_, ?_⟩ <;> simp only [] <;> (try split) <;> omega
theorem Small_next {S : GS} {N : Int} (h : S.Small N) : S.next.2.Small (N + 1) := by
  have : ∀ q : List (Int × Int), (q.length : Int) ≤ N → (nextQ S q).2.Small (N + 1) := by
    intro q
    induction q with
    | nil => intro _; obtain ⟨h1, h2, h3, h4, h5⟩ := h; exact ⟨h1, by show S.last ≤ _; omega, by show _ ≤ S.wait; omega, by show S.wait ≤ _; omega, by show ((0 : Nat) : Int) ≤ N + 1; omega⟩
    | cons p r ih =>
      obtain ⟨x, n⟩ := p
      intro hq
      simp at hq
      rw [nextQ]
      split
      · exact Small_paint (S := { S with q := r }) ⟨h.1, h.2.1, h.2.2.1, h.2.2.2.1, by show (r.length : Int) ≤ N; omega⟩ x
      · exact ih (by omega)
  exact this S.q h.2.2.2.2
theorem Small_again {S : GS} {N : Int} (h : S.Small N) (x : Int) : (S.again x).Small (N + 1) := by
  unfold GS.again; split
  · exact h.enter x
  · exact h.mono (by omega)
def putW (bl : List Int) (wl : List Int) (xs : List Int) : List Int := xs.foldl (fun l x => if x ∈ l ∨ x ∈ bl then l else l ++ [x]) wl
theorem Rep.put : ∀ (xs : List Int) {S : GS} {wl bl : List Int}, Rep S wl bl → Rep (S.put xs) (putW bl wl xs) bl
  | [], _, _, _, h => h
  | x :: r, S, wl, bl, h => by
    have := Rep.put r (h.put1 x)
    simpa [GS.put, putW] using this
theorem putN_length : ∀ (xs : List Int) {S : GS} {wl bl : List Int}, Rep S wl bl → S.putN xs = (putW bl wl xs).length - wl.length
  | [], _, _, _, h => by simp [GS.putN, putW]
  | x :: r, S, wl, bl, h => by
    have := putN_length r (h.put1 x)
    rw [GS.putN, this]
    simp only [putW, List.foldl_cons]
    by_cases hc : S.color x = 0
    · obtain ⟨h1, h2⟩ := (h.white_iff x).1 hc
      rw [if_pos hc, if_neg (by simp [h1, h2])]
      simp; omega
    · rw [if_neg hc, if_pos (by rw [h.white_iff] at hc; by_cases h1 : x ∈ wl <;> simp_all)]
      simp
end Go.Tr
namespace Go.Proofs.YtcdpnfchmpncjaaGreatDoor
open Go.RowKit Go.Tr Go.Shelf
variable {S S1 : HS} {cnt : Nat → Nat} {ct : Nat → Nat → Nat} {o : Nat → Nat → Option (Nat × Nat)}
def Linked (S : HS) (cnt : Nat → Nat) (ct : Nat → Nat → Nat) (o : Nat → Nat → Option (Nat × Nat)) : Prop := ∀ (i : Nat) (x : Sl), S.sl[i]? = some x → x.used = true → ∀ p ∈ slotsL S.L (cnt i), LkOk (o i p) ∧ ct i p = lkN (o i p) ∧ ∀ j g, o i p = some (j, g) → ∃ y : Sl, S.sl[j]? = some y ∧ y.used = true
theorem MovedSt.slot {i n : Nat} {x : Sl} {S2 : HS} (hm : MovedSt S i x n S2) (hx : S.sl[i]? = some x) {j : Nat} {y : Sl} (hy : S.sl[j]? = some y) : ∃ y2 : Sl, S2.sl[j]? = some y2 ∧ y2.used = y.used ∧ y2.gen = y.gen ∧ y2.held = y.held := by
  rcases hm with ⟨-, rfl⟩ | ⟨-, ad, S1, ha, rfl⟩
  · exact ⟨y, hy, rfl, rfl, rfl⟩
  · obtain ⟨-, -, -, -, e5, -⟩ := ha.same
    by_cases hj : j = i
    · subst hj
      rw [hx] at hy
      cases hy
      exact ⟨_, List.getElem?_set_self (by rw [e5]; exact (List.getElem?_eq_some_iff.1 hx).1), rfl, rfl, rfl⟩
    · refine ⟨y, ?_, rfl, rfl, rfl⟩
      show (S1.sl.set i _)[j]? = _
      rw [List.getElem?_set_ne (fun e => hj e.symm), e5]
      exact hy
theorem MovedSt.back {i n : Nat} {x : Sl} {S2 : HS} (hm : MovedSt S i x n S2) (hx : S.sl[i]? = some x) {j : Nat} {y2 : Sl} (hy : S2.sl[j]? = some y2) : ∃ y : Sl, S.sl[j]? = some y ∧ y2.used = y.used ∧ y2.gen = y.gen ∧ y2.held = y.held := by
  rcases hm with ⟨-, rfl⟩ | ⟨-, ad, S1, ha, rfl⟩
  · exact ⟨y2, hy, rfl, rfl, rfl⟩
  · obtain ⟨-, -, -, -, e5, -⟩ := ha.same
    have hy' : (S1.sl.set i ⟨x.gen, x.used, ad, x.region, x.held, x.pinned⟩)[j]? = some y2 := hy
    by_cases hj : j = i
    · subst hj
      rw [List.getElem?_set_self (by rw [e5]; exact (List.getElem?_eq_some_iff.1 hx).1)] at hy'
      cases hy'
      exact ⟨x, hx, rfl, rfl, rfl⟩
    · rw [List.getElem?_set_ne (fun e => hj e.symm), e5] at hy'
      exact ⟨y2, hy', rfl, rfl, rfl⟩
theorem Linked.moved {i n : Nat} {x : Sl} {S2 : HS} (h : Linked S cnt ct o) (hm : MovedSt S i x n S2) (hx : S.sl[i]? = some x) : Linked S2 cnt ct o := fun j y2 hy hu p hp => by
  obtain ⟨y, hy1, hu1, -⟩ := hm.back hx hy
  have hL : S2.L = S.L := hm.same.2.2.2.1
  rw [hL] at hp
  obtain ⟨h1, h2, h3⟩ := h j y hy1 (hu1 ▸ hu) p hp
  refine ⟨h1, h2, fun k g e => ?_⟩
  obtain ⟨z, hz, hzu⟩ := h3 k g e
  obtain ⟨z2, k1, k2, -⟩ := hm.slot hx hz
  exact ⟨z2, k1, k2.trans hzu⟩
theorem mem_tgt {L : Lay} {count : Nat} {q : Nat → Option (Nat × Nat)} {z : Int} : z ∈ tgt (refsL L count q) ↔ ∃ p ∈ slotsL L count, ∃ j g, q p = some (j, g) ∧ z = (j : Nat) := by
  unfold tgt refsL
  rw [List.mem_filterMap]
  constructor
  · rintro ⟨⟨p, r⟩, hp, hz⟩
    obtain ⟨p', hp', e⟩ := List.mem_map.1 hp
    cases e
    simp only at hz
    cases hq : q p with
    | none => rw [hq] at hz; cases hz
    | some jg => rw [hq] at hz; cases hz; exact ⟨p, hp', jg.1, jg.2, hq, rfl⟩
  · rintro ⟨p, hp, j, g, hq, rfl⟩
    exact ⟨(p, q p), List.mem_map.2 ⟨p, hp, rfl⟩, by simp [hq]⟩
theorem Good.lookPre (h : Good S cnt) (hc : Cont S cnt ct) (hl : Linked S cnt ct o) (hon : S.on = true) {i : Nat} {x : Sl} (hx : S.sl[i]? = some x) (hu : x.used = true) (hsm : S.gs.Small 500000)
    (hroom : (bigPart S.ps (x.addr / S.Wd) || !hasL (chunksL S.ps) ((x.addr / S.Wd : Nat) : Int)) = false → S.a2 + (S.L.size (cnt i) + 1) ≤ S.en2 ∨ ∃ c, c + (S.L.size (cnt i) / S.Wd + 1) ≤ S.C ∧ ∀ k, c ≤ k → k < c + (S.L.size (cnt i) / S.Wd + 1) → S.own.getD k 0 = 0) :
    LookPre S i x (cnt i) (o i) := by
  have e := h.ent i x hx hu
  refine ⟨hon, h.spOk, h.objOk hx hu, e.pin, hsm, fun hb => h.roomTo hon (by omega) (by have := e.size; omega) ?_, fun ad S1 ha => h.mvOk hon hx hu ha, fun S2 hm => ?_⟩
  · rw [show S.L.size (cnt i) + 1 - 1 = S.L.size (cnt i) by omega]
    exact hroom hb
  · obtain ⟨g1, g2⟩ := h.moved hon hx hu hm
    have hL : S2.L = S.L := hm.same.2.2.2.1
    obtain ⟨x2, k1, k2, -⟩ := hm.slot hx hx
    have hu2 : x2.used = true := k2.trans hu
    refine ⟨x2, g1.objOk k1 hu2, fun p hp => ?_, fun z hz => ?_⟩
    · obtain ⟨l1, l2, -⟩ := hl i x hx hu p hp
      refine ⟨l1, ?_⟩
      rw [← l2]
      exact g2 ct hc i x2 k1 hu2 p (by rw [hL]; exact (mem_slots h.right hp).1)
    · obtain ⟨p, hp, j, g, hq, rfl⟩ := mem_tgt.1 hz
      obtain ⟨-, -, l3⟩ := hl i x hx hu p hp
      obtain ⟨y, hy, hyu⟩ := l3 j g hq
      obtain ⟨y2, m1, m2, -⟩ := hm.slot hx hy
      exact ⟨j, y2, rfl, m1, m2.trans hyu, (g1.ent j y2 m1 (m2.trans hyu)).reg⟩
end Go.Proofs.YtcdpnfchmpncjaaGreatDoor
