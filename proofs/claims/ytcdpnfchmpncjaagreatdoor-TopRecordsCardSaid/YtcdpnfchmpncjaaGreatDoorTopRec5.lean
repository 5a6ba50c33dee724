/-
  Parts of the proof, one behind the other: KEvac8, KGoodF, GrayPlain, KGoodL, KNew1, KNew2, KNew3, KTop1, KTop2, KThree, KAliveP, KCyc, KMade3, KAlive, KTopCyc, KLaid, KRecP, KRef04, KRef04B, KRef04C.
-/
import Derived.Test.YtcdpnfchmpncjaaGreatDoorRows
import Derived.ProofKit
import Derived.LaidMore
import Derived.OpenShut
import Derived.Stop.Joined
import Derived.Test.YtcdpnfchmpncjaaGreatDoorTopRec4
set_option linter.unusedSimpArgs false
set_option linter.unusedVariables false
namespace Go.Proofs.YtcdpnfchmpncjaaGreatDoor
open Go.RowKit Go.Tr Go.Shelf
variable {w w' : World} {F G : Nat → Prop} {A : Ad} {S S1 : HS}
def lose1 (S : HS) (z : Int) : HS := match S.sl[z.toNat]? with | some x => { S with mine := outL S.mine z, sl := S.sl.set z.toNat ⟨x.gen, false, 0, 0, false, false⟩ } | none => S
def whiteB (S : HS) (z : Int) : Bool := decide (S.gs.color z = 0)
def loseL (S : HS) (zs : List Int) : HS := zs.foldl (fun S z => if S.gs.color z = 0 then lose1 S z else S) S
theorem lose1_gs (S : HS) (z : Int) : (lose1 S z).gs = S.gs ∧ (lose1 S z).on = S.on ∧ (lose1 S z).mine.length ≤ S.mine.length ∧ (lose1 S z).L = S.L ∧ (lose1 S z).Wd = S.Wd := by
  unfold lose1
  split
  · refine ⟨rfl, rfl, ?_, rfl, rfl⟩
    exact List.length_filter_le _ _
  · exact ⟨rfl, rfl, Nat.le_refl _, rfl, rfl⟩
theorem loseL_gs (zs : List Int) : ∀ S : HS, (loseL S zs).gs = S.gs ∧ (loseL S zs).on = S.on ∧ (loseL S zs).mine.length ≤ S.mine.length ∧ (loseL S zs).L = S.L ∧ (loseL S zs).Wd = S.Wd := by
  induction zs with
  | nil => intro S; exact ⟨rfl, rfl, Nat.le_refl _, rfl, rfl⟩
  | cons z zs ih =>
    intro S
    have h := ih (if S.gs.color z = 0 then lose1 S z else S)
    obtain ⟨h1, h2, h3, h4, h5⟩ := h
    rw [show loseL S (z :: zs) = loseL (if S.gs.color z = 0 then lose1 S z else S) zs from rfl]
    by_cases hc : S.gs.color z = 0
    · obtain ⟨k1, k2, k3, k4, k5⟩ := lose1_gs S z
      simp only [if_pos hc] at h1 h2 h3 h4 h5 ⊢
      exact ⟨h1.trans k1, h2.trans k2, Nat.le_trans h3 k3, h4.trans k4, h5.trans k5⟩
    · simp only [if_neg hc] at h1 h2 h3 h4 h5 ⊢
      exact ⟨h1, h2, h3, h4, h5⟩
theorem loseL_snoc (S : HS) (zs : List Int) (z : Int) : loseL S (zs ++ [z]) = if (loseL S zs).gs.color z = 0 then lose1 (loseL S zs) z else loseL S zs := by
  unfold loseL
  rw [List.foldl_append]
  rfl
theorem lose1_sl (S : HS) (z : Int) {j : Nat} (hz : 0 ≤ z) (h : z ≠ (j : Int)) : (lose1 S z).sl[j]? = S.sl[j]? := by
  unfold lose1
  split
  · have : z.toNat ≠ j := by omega
    simp only
    rw [List.getElem?_set_ne this]
  · rfl
theorem loseL_sl {j : Nat} (zs : List Int) : ∀ S : HS, (∀ z ∈ zs, 0 ≤ z) → (j : Int) ∉ zs → (loseL S zs).sl[j]? = S.sl[j]? := by
  induction zs with
  | nil => intro S _ _; rfl
  | cons z zs ih =>
    intro S h1 h2
    have h := ih (if S.gs.color z = 0 then lose1 S z else S) (fun y hy => h1 y (List.mem_cons_of_mem _ hy)) (fun hm => h2 (List.mem_cons_of_mem _ hm))
    refine Eq.trans h ?_
    split
    · exact lose1_sl S z (h1 z (List.mem_cons_self ..)) (fun e => h2 (by rw [← e]; exact List.mem_cons_self ..))
    · rfl
def FnSt (w : World) (F : Nat → Prop) (A : Ad) (S : HS) (bx zb rb b lb : Nat) (pre : List Int) (W : World) : Prop :=
  ∃ F', Run w F W F' A (loseL S pre) ∧ Bx W F' bx (.cells #[.pointer (some ⟨A.h, 0, none⟩)] 22 (0, 0)) ∧ Bx W F' zb (.cells #[.slice none 0 0, .int .i64 0] 44 (0, 0)) ∧
    Bx W F' rb (.cells #[.slice none 0 0, .int .i64 ((pre.filter (whiteB S)).length : Nat)] 44 (0, 0)) ∧ ¬ F' b ∧ ¬ F' lb ∧ ¬ F' (lb + 1)
theorem Run.aside {b : Nat} {W W' : World} {F1 : Nat → Prop} (h : Run w F W F1 A S) (hb : w.heap.size ≤ b) (hn : ¬ F1 b) (ho : Only (fun k => k = b) W W') : Run w F W' F1 A S := by
  obtain ⟨⟨h0, tau, ht⟩, h2, h3, h4⟩ := h
  exact ⟨⟨fun k hk => Nat.lt_of_lt_of_le (h0 k hk) ho.size, tau, fun i => (pp_parts A S).kept i W _ _ (ht i) (fun k hk hl => ho.block k hl (fun e => hn (by rw [← show k = b from e]; exact hk.1)))⟩, h2.trans ho (fun k hk => Or.inr (by rw [show k = b from hk]; exact hb)), h3, h4⟩
theorem HeapF.cb (h : HeapF w F A S) : S.C * S.Wd ≤ 1073741824 := by
  obtain ⟨G, hG, h1⟩ := h.1.read 1
  obtain ⟨wb, ob, m, Fm, h2, -⟩ : StF w G A.s S.C S.Wd S.ws S.own := h1
  have h3 := h2.cb
  have h4 := h2.wd
  exact Nat.le_trans (Nat.mul_le_mul h3.2 h4.2) (by decide)
def stayC (S : HS) (cnt : Int → Nat) (z : Int) : List Int := match S.sl[z.toNat]? with | some x => (List.range ((x.addr + S.L.size (cnt z)) / S.Wd - x.addr / S.Wd + 1)).map (fun i => ((x.addr / S.Wd + i : Nat) : Int)) | none => []
def stayM (l : List Int) : List (Int × Value) := l.foldl (fun m c => putA m c (.int .i64 1)) []
theorem stayM_snoc (l : List Int) (c : Int) : stayM (l ++ [c]) = putA (stayM l) c (.int .i64 1) := by unfold stayM; rw [List.foldl_append]; rfl
theorem look_stay (c : Int) (l : List Int) : ∀ m : List (Int × Value), lookA (l.foldl (fun m c => putA m c (.int .i64 1)) m) c = if c ∈ l then some (.int .i64 1) else lookA m c := by
  induction l with
  | nil => intro m; simp
  | cons x l ih =>
    intro m
    rw [List.foldl_cons, ih]
    by_cases h : c ∈ l
    · simp [h]
    · by_cases e : c = x
      · subst e; simp [h, lookA_put_same]
      · simp [h, e, lookA_put_other _ _ e]
theorem stayM_look (l : List Int) (c : Int) : (lookA (stayM l) c).getD (.int .i64 0) = .int .i64 (if c ∈ l then 1 else 0) := by
  unfold stayM
  rw [look_stay]
  by_cases h : c ∈ l
  · simp [h]
  · simp [h, lookA]
def dropS (S : HS) (q m : Nat) : HS := { S with ps := S.ps.erase (q, m), a := if m = 1 ∧ S.en = (q + 1) * S.Wd then 0 else S.a, en := if m = 1 ∧ S.en = (q + 1) * S.Wd then 0 else S.en, own := putAt S.own q (List.replicate m 0) }
def DropTo (S : HS) (q : Nat) (S' : HS) : Prop := S.ps.length ≤ 100000 ∧ ((∃ m, findPart S.ps q = some (q, m) ∧ q + m ≤ S.C ∧ (∀ i, q ≤ i → i < q + m → S.own.getD i 0 ≠ 0) ∧ S' = dropS S q m) ∨ (findPart S.ps q = none ∧ S' = S))
theorem HeapF.dropTo (h : HeapF w F A S) {q : Nat} (hd : DropTo S q S1) : Calls Tryz.prog 70 #[.pointer (some ⟨A.u, 0, none⟩), .int .i64 q] w fun e w' => (∃ k, e = .returned (.int .i64 k)) ∧ HeapF w' (grow F w w') A S1 ∧ Only F w w' := by
  obtain ⟨hl, ⟨m, hf, hm, hown, rfl⟩ | ⟨hf, rfl⟩⟩ := hd
  · exact (h.drop q m hl hf hm hown).mono fun e w' ⟨e1, e2⟩ => ⟨⟨_, e1⟩, e2⟩
  · obtain ⟨G, hG, h1⟩ := h.1.read 6
    have h2 : SpF 154 w G A.u A.s 1 S1.ps S1.a S1.en := h1
    exact (udropN_any q w h2 hl hf).mono fun e w' ⟨e1, hb⟩ => ⟨⟨_, e1⟩, ((Run.start h).below hb).fin h.lt⟩
theorem Run.asideU {U : Nat → Prop} {W W' : World} {F1 : Nat → Prop} (h : Run w F W F1 A S) (hU : ∀ k, U k → w.heap.size ≤ k ∧ ¬ F1 k) (ho : Only U W W') : Run w F W' F1 A S := by
  obtain ⟨⟨h0, tau, ht⟩, h2, h3, h4⟩ := h
  exact ⟨⟨fun k hk => Nat.lt_of_lt_of_le (h0 k hk) ho.size, tau, fun i => (pp_parts A S).kept i W _ _ (ht i) (fun k hk hl => ho.block k hl (fun e => (hU k e).2 hk.1))⟩, h2.trans ho (fun k hk => Or.inr (hU k hk).1), h3, h4⟩
def FinJ (J : Nat → HS → List Int → Prop) (cs stay : List Int) : Prop := ∀ k S fr c, J k S fr → cs[k]? = some c →
  (c ∈ stay ∧ J (k + 1) S fr) ∨ (c ∉ stay ∧ ∃ (q : Nat) (S' : HS), c = (q : Int) ∧ DropTo S q S' ∧ J (k + 1) S' (fr ++ [c]))
def endS (S : HS) : HS := { S with ps := S.ps ++ S.ps2, a := if 0 < S.en2 then S.a2 else S.a, en := if 0 < S.en2 then S.en2 else S.en, on := false }
def FrSt (w : World) (F : Nat → Prop) (A : Ad) (J : Nat → HS → List Int → Prop) (nl bx zb rb sb mb d1 d2 : Nat) (stay : List (Int × Value)) (cs : List Int) (a1 : Option Addr) (k : Nat) (W : World) : Prop :=
  ∃ F' S' fr v, Run w F W F' A S' ∧ J k S' fr ∧ fr.length ≤ k ∧ Bx W F' d1 (.deferred (some [])) ∧ Bx W F' d2 (.deferred (some [])) ∧ Bx W F' bx (.cells #[.pointer (some ⟨A.h, 0, none⟩)] 22 (0, 0)) ∧ Bx W F' zb (.cells #[.slice none 0 0, .int .i64 0] 44 (0, 0)) ∧
    Bx W F' rb (.cells #[v, .int .i64 nl] 44 (0, 0)) ∧ Bx W F' sb (.cells #[.map (some mb)] 102 (0, 0)) ∧ ¬ F' mb ∧ MapI W mb stay ∧ SeqAt W a1 (ints cs) ∧ (∀ b o, a1 = some ⟨b, o, none⟩ → ¬ F' b ∧ b ≠ rb) ∧ own3 W 3 w.heap.size v fr ∧
    ∀ q, v.ownBlock = some q → ¬ F' q ∧ q ≠ d1 ∧ q ≠ d2 ∧ q ≠ bx ∧ q ≠ zb ∧ q ≠ rb ∧ q ≠ sb ∧ q ≠ mb ∧ ∀ b o, a1 = some ⟨b, o, none⟩ → q ≠ b
def SySt (w : World) (F : Nat → Prop) (A : Ad) (S : HS) (cnt : Int → Nat) (nl bx zb rb sb mb d1 b lb : Nat) (l : List Int) (W : World) : Prop :=
  ∃ F', Run w F W F' A S ∧ Bx W F' d1 (.deferred (some [])) ∧ Bx W F' bx (.cells #[.pointer (some ⟨A.h, 0, none⟩)] 22 (0, 0)) ∧ Bx W F' zb (.cells #[.slice none 0 0, .int .i64 0] 44 (0, 0)) ∧
    Bx W F' rb (.cells #[.slice none 0 0, .int .i64 nl] 44 (0, 0)) ∧ Bx W F' sb (.cells #[.map (some mb)] 102 (0, 0)) ∧ ¬ F' mb ∧ MapI W mb (stayM l) ∧ ¬ F' b ∧ ¬ F' lb ∧ ¬ F' (lb + 1)
set_option maxRecDepth 100000 in
set_option maxHeartbeats 4000000 in
theorem efin1_any (cnt : Int → Nat) (w : World) (h : HeapF w F A S) (hon : S.on = true) (hw : S.gs.wait = 0) (hl : S.mine.length ≤ 900000) (hnd : S.mine.Nodup) (hm : ∀ z ∈ S.mine, ∃ (j : Nat) (y : Sl), z = (j : Int) ∧ S.sl[j]? = some y ∧ y.used = true ∧ y.region = 1 ∧ y.gen < 255)
    (hob : ∀ z ∈ (loseL S S.mine).mine, ∃ (j : Nat) (x : Sl), z = (j : Int) ∧ ObjOk (loseL S S.mine) j x (cnt z)) (hsp : SpOk (loseL S S.mine).ps)
    {J : Nat → HS → List Int → Prop} (hJ : FinJ J (chunksL (loseL S S.mine).ps) ((loseL S S.mine).mine.flatMap (stayC (loseL S S.mine) cnt))) (hJ0 : J 0 (loseL S S.mine) [])
    (hJE : ∀ S' fr, J (chunksL (loseL S S.mine).ps).length S' fr → S'.on = true ∧ S'.ps.length + S'.ps2.length ≤ 100000 ∧ ∀ p ∈ S'.ps2, p.1 + p.2 ≤ S'.C ∧ ∀ i, p.1 ≤ i → i < p.1 + p.2 → S'.own.getD i 0 = 1) :
    Calls Tryz.prog 29 #[.pointer (some ⟨A.h, 0, none⟩)] w fun e w' => ∃ v fr S', e = .returned (.tuple #[.agg #[v, .int .i64 ((S.mine.filter (whiteB S)).length : Nat)], .int .i64 0]) ∧ (∃ a c, v = .slice a fr.length c) ∧ J (chunksL (loseL S S.mine).ps).length S' fr ∧ HeapF w' (grow F w w') A (endS S') ∧ Only F w w' := by
  have HLT := Lib.hid h.lt
  have HM := Lib.hid hm
  have HND := Lib.hid hnd
  have HL := Lib.hid hl
  have HE1 := Lib.hid (fun W F1 (S1 : HS) (ho : S1.on = true) (hr : HeapF W F1 A S1) => hr.evf ho (Below.refl _ _))
  have HF1 := Lib.hid (fun W F1 S1 (hr : HeapF W F1 A S1) => hr.fields (Below.refl _ _))
  have HLM := Lib.hid (fun W F1 S1 (hr : HeapF W F1 A S1) => hr.lookMine (Below.refl _ _))
  have HON := Lib.hid hon
  have HOB := Lib.hid hob
  have HSP := Lib.hid hsp
  have HJ := Lib.hid hJ
  have HJ0 := Lib.hid hJ0
  have HJE := Lib.hid hJE
  obtain ⟨bx, hbx⟩ : ∃ bx, bx = w.heap.size := ⟨_, rfl⟩
  obtain ⟨zb, hzb⟩ : ∃ zb, zb = w.heap.size + 1 := ⟨_, rfl⟩
  obtain ⟨rb, hrb⟩ : ∃ rb, rb = w.heap.size + 1 + 1 := ⟨_, rfl⟩
  have h2 := al2 w (.cells #[.pointer (some ⟨A.h, 0, none⟩)] 22) (.cells #[.slice none 0 0, .int .i64 0] 44)
  have h3 := al3 w (.cells #[.pointer (some ⟨A.h, 0, none⟩)] 22) (.cells #[.slice none 0 0, .int .i64 0] 44) (.cells #[.slice none 0 0, .int .i64 0] 44)
  have HRDY := Lib.hid (eready_any _ (h.below h2.1) hon)
  rw [hw] at HRDY
  have hxf : ∀ b, w.heap.size ≤ b → ¬ F b := fun b hb hf => by have := h.lt b hf; omega
  have HRN0 := Lib.hid ((Run.start h).below h3.1)
  have HX0 : Hid (Bx _ F bx _) := ⟨hxf bx (by omega), by rw [hbx]; exact h3.2.1⟩
  have HZ0 : Hid (Bx _ F zb _) := ⟨hxf zb (by omega), by rw [hzb]; exact h3.2.2.1⟩
  have HR0 : Hid (Bx _ F rb _) := ⟨hxf rb (by omega), by rw [hrb]; exact h3.2.2.2⟩
  have x0 : ((w.alloc (.cells #[.pointer (some ⟨A.h, 0, none⟩)] 22)).alloc (.cells #[.slice none 0 0, .int .i64 0] 44)).cell? ⟨bx, 0, none⟩ = some (.pointer (some ⟨A.h, 0, none⟩)) := by
    have := h2.2.1
    rw [← hbx] at this
    exact (cells_of_block this 0).1
  have HNE : Hid (w.heap.size ≤ rb ∧ rb ≠ bx ∧ rb ≠ zb) := ⟨by omega, by omega, by omega⟩
  have HZW : Hid (w.heap.size ≤ zb) := by show _ ≤ _; omega
  clear h h2 h3 hxf hm hnd hl hon hw hob hsp hJ hJ0 hJE
  refine (callsIn_wide (n := 2)).1 ?_
  refine callsIn_of_wp_marks Tryz.func29 rfl trivial ?_ rfl
  refine wpIn_wide.2 (wp_noPanic ?_)
  simp only [Tryz.ntmps29, List.size_toArray, List.length_cons, List.length_nil, Nat.reduceAdd, Nat.reduceSub, Array.replicate_succ, Array.replicate_zero, List.push_toArray, List.append_toArray, List.nil_append, List.cons_append]
  go_wp2_with fail
  refine HRDY.out.mono ?_
  rintro e w1 ⟨rfl, rfl⟩
  go_wp2_with fail
  rw [← hrb, ← hzb, ← hbx]
  clear x0 hbx hzb hrb HRDY
  generalize (((w.alloc (.cells #[.pointer (some ⟨A.h, 0, none⟩)] 22)).alloc (.cells #[.slice none 0 0, .int .i64 0] 44)).alloc (.cells #[.slice none 0 0, .int .i64 0] 44)) = w2 at *
  obtain ⟨e0, e1, e2, e3⟩ := HE1.out _ _ _ HON.out HRN0.out.heap
  obtain ⟨-, -, -, -, -, -, -, c7⟩ := HF1.out _ _ _ HRN0.out.heap
  have x0 := (cells_of_block HX0.out.2 0).1
  simp at x0
  go_still_tail 12, (by kernel_rfl)
  refine still_look (.tmp 32) (.tmp 36) 54 rfl _ _ _ rfl rfl (HLM.out _ _ _ (HRN0.out.below (Below.refl _ _).drew).heap) ?_
  repeat still_step
  refine wpStill_nil ?_
  have HRN1 := Lib.hid (HRN0.out.below (Below.refl _ _).drew)
  have HX1 := Lib.hid (HX0.out.below (Below.refl _ _).drew)
  have HZ1 := Lib.hid (HZ0.out.below (Below.refl _ _).drew)
  have HR1 := Lib.hid (HR0.out.below (Below.refl _ _).drew)
  change wpList _ _ _ _ _ w2.drew
  clear e0 e1 e2 e3 c7 x0 HX0 HZ0 HR0 HRN0
  generalize w2.drew = w3 at *
  go_wp2_with fail
  refine (HRN1.out.heap.all (by have := HL.out; omega) (Below.refl _ _)).mono ?_
  rintro e w7 ⟨Bs, b, rfl, hseq, hb1, hb2, hb3⟩
  have HSEQ := Lib.hid hseq
  have HRN7 := Lib.hid (HRN1.out.below hb3)
  have HX7 := Lib.hid (HX1.out.below hb3)
  have HZ7 := Lib.hid (HZ1.out.below hb3)
  have HR7 := Lib.hid (HR1.out.below hb3)
  have HN7 : Hid (¬ F b ∧ b < w7.heap.size ∧ w.heap.size ≤ w7.heap.size ∧ (∀ k, F k → k < w7.heap.size) ∧ bx < w7.heap.size ∧ zb < w7.heap.size ∧ rb < w7.heap.size ∧ w.heap.size ≤ rb ∧ rb ≠ b ∧ rb ≠ bx ∧ rb ≠ zb ∧ bx < b ∧ zb < b ∧ rb < b) := by
    have h1 := HRN1.out.heap.lt
    have h2 := hb3.size
    have h3 := HRN1.out.2.1.size
    have h4 := block_lt HX1.out.2
    have h5 := block_lt HZ1.out.2
    have h6 := block_lt HR1.out.2
    have h7 := HNE.out
    exact ⟨fun hf => by have := h1 b hf; omega, hb2, by omega, fun k hk => by have := h1 k hk; omega, by omega, by omega, by omega, by omega, by omega, by omega, by omega, by omega, by omega, by omega⟩
  have HLW : Hid (w.heap.size ≤ w7.heap.size) := HN7.out.2.2.1
  clear hseq hb1 hb2 hb3
  go_wp2_with fail
  have hIB : ∀ pre W (r : Loop), FnSt w F A S bx zb rb b w7.heap.size pre W → FnSt w F A S bx zb rb b w7.heap.size pre (W.putObj (w7.heap.size + 1) (.loop r)) := fun pre W r ⟨F', h1, h2, h3, h4, h5, h6, h7⟩ => by
    obtain ⟨-, -, n1, -, n2, n3, n4, -⟩ := HN7.out
    exact ⟨F', h1.putObj (by omega) h7, ⟨h2.1, (World.putObj_heap_other (by omega)).trans h2.2⟩, ⟨h3.1, (World.putObj_heap_other (by omega)).trans h3.2⟩, ⟨h4.1, (World.putObj_heap_other (by omega)).trans h4.2⟩, h5, h6, h7⟩
  have HIB := Lib.hid hIB
  clear hIB
  refine (wpIn_wide (n := 2)).1 ?_
  refine range_all (m := 0) (gf := 146) (lb := #[.pointer (some ⟨Bs, 0, none⟩)]) rfl (enters_of Tryz.func146 (by kernel_rfl) rfl) HSEQ.out (Below.refl _ _) (fun x => rfl) (fun h k => keepsB_t h k) ?hkb
    (fun pre W => FnSt w F A S bx zb rb b w7.heap.size pre W) ?hib ?hst ?hsk ?h0 ?round ?done
  case hkb => exact fun W r r' _ => World.putObj_heap_other (by have := HN7.out.2.1; omega)
  case hib => exact fun pre W r r' h _ => HIB.out pre W r' h
  case hst => rintro pre A B h rfl; exact h
  case hsk => rintro A B k rfl _ _; rfl
  case h0 =>
    intro r
    have hb : Below w7.heap.size w7 ((w7.alloc (.deferred (some []))).alloc (.loop r)) := ((Below.refl _ w7).alloc (Nat.le_refl _) _).alloc (by simp) _
    obtain ⟨h1, h2, h3, h4, -⟩ := HN7.out
    exact ⟨F, HRN7.out.below hb, HX7.out.below hb, HZ7.out.below hb, HR7.out.below hb, h1, fun h => by have := h4 _ h; omega, fun h => by have := h4 _ h; omega⟩
  case round =>
    intro pre x W hI hpre hlt
    obtain ⟨j, y, rfl, hy, hu, hr, hgn⟩ := HM.out x (hpre.subset (by simp))
    have hjn : (j : Int) ∉ pre := fun hm => by
      have h1 := HND.out.sublist hpre.sublist
      rw [List.nodup_append] at h1
      exact h1.2.2 _ hm _ (List.mem_singleton.2 rfl) rfl
    have hpl : pre.length + 1 ≤ 900000 := by
      have h1 := hpre.length_le
      have h2 := HL.out
      rw [List.length_append] at h1
      simp at h1
      omega
    have hp0 : ∀ z ∈ pre, 0 ≤ z := fun z hz => by
      obtain ⟨j2, y2, rfl, -⟩ := HM.out z (hpre.subset (by simp [hz]))
      omega
    have hsem := @Oper.semAt_some
    gi_wp2_with fail
    refine ⟨trivial, trivial, rfl, fun r hkr => ?_⟩
    obtain ⟨F', h1, h2, h3, h4, h5, h6, h7⟩ := HIB.out pre W r hI
    have hsz : w7.heap.size + 1 < (W.putObj (w7.heap.size + 1) (.loop r)).heap.size := by simpa using hlt
    clear hI hkr hlt
    generalize W.putObj (w7.heap.size + 1) (.loop r) = W2 at *
    have hsn := loseL_snoc S pre (j : Int)
    have hsl := loseL_sl pre S hp0 hjn
    rw [hy] at hsl
    obtain ⟨g1, g2, g3, g4, g5⟩ := loseL_gs pre S
    have hml : (loseL S pre).mine.length ≤ 1000000 := by have := HL.out; omega
    rw [g1] at hsn
    have hon1 : (loseL S pre).on = true := g2.trans HON.out
    obtain ⟨nw, hnw⟩ : ∃ nw, nw = (pre.filter (whiteB S)).length := ⟨_, rfl⟩
    have hnw2 : nw ≤ 900000 := by have := List.length_filter_le (whiteB S) pre; omega
    rw [← hnw] at h4
    have hft : ((pre ++ [(j : Int)]).filter (whiteB S)).length = if S.gs.color j = 0 then nw + 1 else nw := by
      rw [List.filter_append, List.length_append, ← hnw]
      by_cases hc : S.gs.color j = 0 <;> simp [whiteB, hc]
    have hCOL := CallsIn.inRound (w7.heap.size + 1) (callsIn_wide (n := 0).2 (h1.heap.color hon1 (j : Int)))
    rw [g1] at hCOL
    have hCL := CallsIn.inRound (w7.heap.size + 1) (callsIn_wide (n := 0).2 (close_any (A := A) (i := j) (x := y) W2 h1.heap hsl hu hr hgn hml))
    have hl1 : lose1 (loseL S pre) (j : Int) = { loseL S pre with mine := outL (loseL S pre).mine j, sl := (loseL S pre).sl.set j ⟨y.gen, false, 0, 0, false, false⟩ } := by
      unfold lose1
      rw [show ((j : Int).toNat) = j from Int.toNat_natCast j, hsl]
    rw [← hl1] at hCL
    obtain ⟨e0, e1, e2, e3⟩ := HE1.out _ _ _ hon1 h1.heap
    have HCOL := Lib.hid hCOL
    have HCL := Lib.hid hCL
    have HRN2 := Lib.hid h1
    have HX2 := Lib.hid h2
    have HZ2 := Lib.hid h3
    have HR2 := Lib.hid h4
    have HN2 := Lib.hid (And.intro h5 (And.intro h6 h7))
    have HSZ2 := Lib.hid hsz
    have HSN := Lib.hid hsn
    have HFT := Lib.hid hft
    have x0 := (cells_of_block HX2.out.2 0).1
    simp at x0
    obtain ⟨cz, hcz⟩ : ∃ cz, cz = S.gs.color j := ⟨_, rfl⟩
    rw [← hcz] at HCOL HSN HFT
    clear h1 h2 h3 h4 h5 h6 h7 hCOL hCL hsz hy hu hr hgn hpre hjn hp0 hsn hsl g1 g2 g3 g4 g5 hml hon1 hnw hft hl1 hcz
    by_cases hc : cz = 0
    · subst hc
      simp only [if_true] at HSN HFT
      gi_wp2_with fail
      refine ⟨trivial, rfl, HCOL.out.mono ?_⟩
      rintro e w8 ⟨rfl, rfl⟩
      gi_wp2_with fail
      refine ⟨trivial, rfl, HCL.out.mono ?_⟩
      rintro e w9 ⟨rfl, h9⟩
      have HRN9 := Lib.hid (HRN2.out.op h9)
      have HX9 := Lib.hid (HX2.out.op h9.2)
      have HZ9 := Lib.hid (HZ2.out.op h9.2)
      have HR9 := Lib.hid (HR2.out.op h9.2)
      have HO9 := Lib.hid h9.2
      have HR10 := Lib.hid HR9.out.2
      clear h9 e0 e1 e2 e3 x0
      have r0 := cells_of_block HR10.out 0
      have r1 := cells_of_block HR10.out 1
      simp at r0 r1
      obtain ⟨r0, f0⟩ := r0
      obtain ⟨r1, f1⟩ := r1
      gi_wp2_with fail
      have k1 := HSZ2.out
      obtain ⟨-, k2, k0, -, k3, k4, k5, k6, k7, k8, k9, k10, k11, k12⟩ := HN7.out
      obtain ⟨m1, m2, m3⟩ := HN2.out
      have hk : ∀ k, k < W2.heap.size → ¬ F' k → k ≠ rb → (w9.setCell ⟨rb, 1, none⟩ (.int .i64 ((nw : Int) + 1))).heap[k]? = W2.heap[k]? := fun k hk hn hne => (Below.heap_setCell _ _ _ _ hne).trans (HO9.out.block k hk hn)
      have hg : ∀ k, k < W2.heap.size → ¬ F' k → ¬ grow F' W2 w9 k := fun k hk hn hg => hg.elim hn (fun hg => by have := hg.1; omega)
      have hrb : (w9.setCell ⟨rb, 1, none⟩ (.int .i64 ((nw : Int) + 1))).heap[rb]? = some (.cells #[.slice none 0 0, .int .i64 ((nw + 1 : Nat) : Int)] 44 (0, 0)) := by
        simpa using block_setCell HR9.out.2 1 (.int .i64 ((nw : Int) + 1))
      exact ⟨hk _ k1 m3 (by omega), hk _ (by omega) m2 (by omega), hk _ (by omega) m1 (by omega), _, by rw [HSN.out]; exact HRN9.out.loc k6 HR9.out.1,
        ⟨HX9.out.1, (Below.heap_setCell _ _ _ _ k8.symm).trans HX9.out.2⟩, ⟨HZ9.out.1, (Below.heap_setCell _ _ _ _ k9.symm).trans HZ9.out.2⟩, ⟨HR9.out.1, by rw [HFT.out]; exact hrb⟩, hg _ (by omega) m1, hg _ (by omega) m2, hg _ k1 m3⟩
    · have hcb : (cz == 0) = false := by simpa using hc
      simp only [if_neg hc] at HSN HFT
      clear hc
      gi_wp2_with fail
      refine ⟨trivial, rfl, HCOL.out.mono ?_⟩
      rintro e w8 ⟨rfl, rfl⟩
      gi_wp2_with fail
      obtain ⟨m1, m2, m3⟩ := HN2.out
      exact ⟨rfl, rfl, rfl, F', by rw [HSN.out]; exact HRN2.out, HX2.out, HZ2.out, by rw [HFT.out]; exact HR2.out, m1, m2, m3⟩
  case done =>
    rintro W ⟨F1, h1, h2, h3, h4, -, h6, -⟩ hD
    obtain ⟨g1, g2, g3, g4, g5⟩ := loseL_gs S.mine S
    obtain ⟨S1, hS1⟩ : ∃ S1, S1 = loseL S S.mine := ⟨_, rfl⟩
    obtain ⟨nl, hnl⟩ : ∃ nl, nl = (S.mine.filter (whiteB S)).length := ⟨_, rfl⟩
    rw [← hS1] at h1 g1 g2 g3 g4 g5
    rw [← hnl] at h4
    have HRA := Lib.hid h1
    have HXA := Lib.hid h2
    have HZA := Lib.hid h3
    have HRB := Lib.hid h4
    have HG := Lib.hid (And.intro g1 (And.intro g2 (And.intro g3 (And.intro g4 g5))))
    have HS1 := Lib.hid hS1
    have HNL := Lib.hid hnl
    have HD1 : Hid (Bx W F1 w7.heap.size (.deferred (some []))) := ⟨h6, hD⟩
    clear h1 h2 h3 h4 h6 g1 g2 g3 g4 g5 hS1 hnl hD HSEQ HIB HRN7 HX7 HZ7 HR7
    have hmm := @run_makeMap Tryz.prog
    go_wp2_with fail
    rw [← HS1.out] at HOB HSP HJ HJ0 HJE
    have hmb : Below W.heap.size W ((W.alloc (.map #[] 0)).alloc (.cells #[.map (some W.heap.size)] 102)) := ((Below.refl _ W).alloc (Nat.le_refl _) _).alloc (by simp) _
    have HRC := Lib.hid (HRA.out.below hmb)
    have HXC := Lib.hid (HXA.out.below hmb)
    have HZC := Lib.hid (HZA.out.below hmb)
    have HRD := Lib.hid (HRB.out.below hmb)
    have hlF : ∀ k, F1 k → k < W.heap.size := HRA.out.heap.lt
    obtain ⟨mb, hmbe⟩ : ∃ mb, mb = W.heap.size := ⟨_, rfl⟩
    obtain ⟨sb, hsbe⟩ : ∃ sb, sb = W.heap.size + 1 := ⟨_, rfl⟩
    have HSC : Hid (Bx ((W.alloc (.map #[] 0)).alloc (.cells #[.map (some W.heap.size)] 102)) F1 sb (.cells #[.map (some mb)] 102 (0, 0))) := ⟨fun hf => by have := hlF _ hf; omega, by
      rw [hsbe, hmbe]
      have := heap_alloc_new (W.alloc (.map #[] 0)) (.cells #[.map (some W.heap.size)] 102)
      rwa [World.size_alloc] at this⟩
    have HMC : Hid (MapI ((W.alloc (.map #[] 0)).alloc (.cells #[.map (some W.heap.size)] 102)) mb (stayM [])) := by
      rw [hmbe]
      exact (MapI.made W).kept (Below.heap_alloc _ _ _ (by simp))
    have HME : Hid (¬ F1 mb ∧ W.heap.size ≤ mb ∧ sb = mb + 1 ∧ w7.heap.size < W.heap.size ∧ w.heap.size ≤ W.heap.size ∧ bx < W.heap.size ∧ zb < W.heap.size ∧ rb < W.heap.size) :=
      ⟨fun hf => by have := hlF _ hf; omega, by omega, by omega, block_lt HD1.out.2, HRA.out.2.1.size, block_lt HXA.out.2, block_lt HZA.out.2, block_lt HRB.out.2⟩
    have HDC := Lib.hid (HD1.out.below hmb)
    rw [← hmbe]
    rw [← hmbe] at HRC HXC HZC HRD HSC HMC HDC hmb
    clear hmb hlF hsbe
    generalize hwc : (W.alloc (.map #[] 0)).alloc (.cells #[.map (some mb)] 102) = wc at *
    clear hwc hmbe
    obtain ⟨e0, e1, e2, e3⟩ := HE1.out _ _ _ (HG.out.2.1.trans HON.out) HRC.out.heap
    obtain ⟨-, -, -, -, -, -, -, c7⟩ := HF1.out _ _ _ HRC.out.heap
    have x0 := (cells_of_block HXC.out.2 0).1
    simp at x0
    go_still_tail 12, (by kernel_rfl)
    refine still_look (.tmp 64) (.tmp 68) 54 rfl _ _ _ rfl rfl (HLM.out _ _ _ (HRC.out.below (Below.refl _ _).drew).heap) ?_
    repeat still_step
    refine wpStill_nil ?_
    have hdr : Below wc.heap.size wc wc.drew := (Below.refl _ _).drew
    have HRE := Lib.hid (HRC.out.below hdr)
    have HXE := Lib.hid (HXC.out.below hdr)
    have HZE := Lib.hid (HZC.out.below hdr)
    have HQE := Lib.hid (HRD.out.below hdr)
    have HSE := Lib.hid (HSC.out.below hdr)
    have HDE := Lib.hid (HDC.out.below hdr)
    have HMP : Hid (MapI wc.drew mb (stayM [])) := HMC.out.kept (hdr.block _ HMC.out.lt)
    change wpList _ _ _ _ _ wc.drew
    clear e0 e1 e2 e3 c7 x0 HRC HXC HZC HRD HSC HMC HDC hdr
    generalize wc.drew = wd at *
    go_wp2_with fail
    refine (HRE.out.heap.all (by have := HL.out; have := HG.out.2.2.1; omega) (Below.refl _ _)).mono ?_
    rintro e wf ⟨Bs2, b2, rfl, hseq, hb1, hb2, hb3⟩
    have HSEQ2 := Lib.hid hseq
    have HRF := Lib.hid (HRE.out.below hb3)
    have HXF := Lib.hid (HXE.out.below hb3)
    have HZF := Lib.hid (HZE.out.below hb3)
    have HQF := Lib.hid (HQE.out.below hb3)
    have HSF := Lib.hid (HSE.out.below hb3)
    have HDF := Lib.hid (HDE.out.below hb3)
    have HMF : Hid (MapI wf mb (stayM [])) := HMP.out.kept (hb3.block _ HMP.out.lt)
    have HNF : Hid (¬ F1 b2 ∧ b2 < wf.heap.size ∧ w.heap.size ≤ wf.heap.size ∧ (∀ k, F1 k → k < wf.heap.size) ∧ (bx < b2 ∧ zb < b2 ∧ rb < b2 ∧ sb < b2 ∧ mb < b2 ∧ w7.heap.size < b2)) := by
      have h1 := HRE.out.heap.lt
      have h2 := hb3.size
      have h3 := HRE.out.2.1.size
      have i1 := block_lt HXE.out.2
      have i2 := block_lt HZE.out.2
      have i3 := block_lt HQE.out.2
      have i4 := block_lt HSE.out.2
      have i5 := HMP.out.lt
      have i6 := block_lt HDE.out.2
      exact ⟨fun hf => by have := h1 _ hf; omega, hb2, by omega, fun k hk => by have := h1 k hk; omega, by omega, by omega, by omega, by omega, by omega, by omega⟩
    clear hseq hb1 hb2 hb3 HRE HXE HZE HQE HSE HDE HMP
    go_wp2_with fail
    have hIB : ∀ (pre : List Int) W (r : Loop), SySt w F A S1 cnt nl bx zb rb sb mb w7.heap.size b2 wf.heap.size (pre.flatMap (stayC S1 cnt)) W → SySt w F A S1 cnt nl bx zb rb sb mb w7.heap.size b2 wf.heap.size (pre.flatMap (stayC S1 cnt)) (W.putObj (wf.heap.size + 1) (.loop r)) := fun (pre : List Int) W r ⟨F', h1, h2, h3, h4, h5, h6, h7, h8, h9, h10, h11⟩ => by
      obtain ⟨-, n0, n1, -, i1, i2, i3, i4, i5, i6⟩ := HNF.out
      exact ⟨F', h1.putObj (by omega) h11, ⟨h2.1, (World.putObj_heap_other (by omega)).trans h2.2⟩, ⟨h3.1, (World.putObj_heap_other (by omega)).trans h3.2⟩, ⟨h4.1, (World.putObj_heap_other (by omega)).trans h4.2⟩, ⟨h5.1, (World.putObj_heap_other (by omega)).trans h5.2⟩, ⟨h6.1, (World.putObj_heap_other (by omega)).trans h6.2⟩, h7, h8.kept (World.putObj_heap_other (by omega)), h9, h10, h11⟩
    have HIB := Lib.hid hIB
    clear hIB
    refine (wpIn_wide (n := 2)).1 ?_
    refine range_all (m := 0) (gf := 146) (lb := #[.pointer (some ⟨Bs2, 0, none⟩)]) rfl (enters_of Tryz.func146 (by kernel_rfl) rfl) HSEQ2.out (Below.refl _ _) (fun x => rfl) (fun h k => keepsB_t h k) ?hkb2
      (fun pre W => SySt w F A S1 cnt nl bx zb rb sb mb w7.heap.size b2 wf.heap.size (pre.flatMap (stayC S1 cnt)) W) ?hib2 ?hst2 ?hsk2 ?h02 ?round2 ?done2
    case hkb2 => exact fun W r r' _ => World.putObj_heap_other (by have := HNF.out.2.1; omega)
    case hib2 => exact fun pre W r r' h _ => HIB.out pre W r' h
    case hst2 => rintro pre A B h rfl; exact h
    case hsk2 => rintro A B k rfl _ _; rfl
    case h02 =>
      intro r
      have hb : Below wf.heap.size wf ((wf.alloc (.deferred (some []))).alloc (.loop r)) := ((Below.refl _ wf).alloc (Nat.le_refl _) _).alloc (by simp) _
      obtain ⟨h1, h2, h3, h4, -⟩ := HNF.out
      exact ⟨F1, HRF.out.below hb, HDF.out.below hb, HXF.out.below hb, HZF.out.below hb, HQF.out.below hb, HSF.out.below hb, HME.out.1, HMF.out.kept (hb.block _ HMF.out.lt), h1, fun h => by have := h4 _ h; omega, fun h => by have := h4 _ h; omega⟩
    case round2 =>
      intro pre x W hI hpre hlt
      obtain ⟨j, y, rfl, hok⟩ := HOB.out x (hpre.subset (by simp))
      have hsem := @Oper.semAt_some
      gi_wp2_with fail
      refine ⟨trivial, trivial, rfl, fun r hkr => ?_⟩
      obtain ⟨F', h1, h2, h3, h4, h5, h6, h7, h8, h9, h10, h11⟩ := HIB.out pre W r hI
      have hsz : wf.heap.size + 1 < (W.putObj (wf.heap.size + 1) (.loop r)).heap.size := by simpa using hlt
      clear hI hkr hlt hpre
      generalize W.putObj (wf.heap.size + 1) (.loop r) = W2 at *
      obtain ⟨yg, yu, ya, yr, yh, yp⟩ := y
      have hENT := CallsIn.inRound (wf.heap.size + 1) (callsIn_wide (n := 0).2 (eentry_any W2 h1.heap hok.sl hok.used))
      simp only [entryV] at hENT
      have HAT := Lib.hid (fun V (hb : Below W2.heap.size W2 V) => h1.heap.iat hok hb)
      have HWD := Lib.hid (fun V (hb : Below W2.heap.size W2 V) => h1.heap.words hb)
      have HCF := Lib.hid (fun V (hb : Below W2.heap.size W2 V) => And.intro (h1.heap.evf (HG.out.2.1.trans HON.out) hb) (h1.heap.fields hb))
      have hst : stayC S1 cnt (j : Int) = (List.range ((ya + S1.L.size (cnt j)) / S1.Wd - ya / S1.Wd + 1)).map (fun i => ((ya / S1.Wd + i : Nat) : Int)) := by
        unfold stayC
        rw [show ((j : Int).toNat) = j from Int.toNat_natCast j, hok.sl]
      have hfm : ∀ l : List Int, (pre ++ [(j : Int)]).flatMap (stayC S1 cnt) = pre.flatMap (stayC S1 cnt) ++ stayC S1 cnt j := fun _ => by simp
      have hwd := h1.heap.wd
      obtain ⟨wd, hwdd⟩ : ∃ wd, wd = S1.Wd := ⟨_, rfl⟩
      obtain ⟨z, hz⟩ : ∃ z, z = S1.L.size (cnt j) := ⟨_, rfl⟩
      obtain ⟨q0, hq0⟩ : ∃ q0, q0 = ya / wd := ⟨_, rfl⟩
      obtain ⟨q1, hq1⟩ : ∃ q1, q1 = (ya + z) / wd := ⟨_, rfl⟩
      rw [← hwdd, ← hz, ← hq0, ← hq1] at hst
      rw [← hwdd] at HWD
      rw [← hz] at HAT
      have hw0 : ¬ (wd = 0) := by rw [hwdd]; omega
      have hq : (ya : Int) / (wd : Int) = (q0 : Int) := by rw [hq0]; push_cast; rfl
      have hyb : ya ≤ 1048576 := hok.big
      have hq0b : q0 ≤ 1048576 := by rw [hq0]; exact Nat.le_trans (Nat.div_le_self _ _) hyb
      have hwr : IntKind.i64.wrap (q0 : Int) = (q0 : Int) := by rw [IntWalk.i64_in _ (by omega)]
      have hcb := h1.heap.cb
      have hft := hok.fit
      have hzb : ya + z < 1073741824 := by rw [hz]; simp only at hft; omega
      obtain ⟨s1, hs1⟩ : ∃ s1, s1 = ya + z + 1 := ⟨_, rfl⟩
      obtain ⟨yz, hyz⟩ : ∃ yz, yz = ya + z := ⟨_, rfl⟩
      have hr1 : IntKind.i64.wrap ((ya : Int) + ((z : Int) + 1)) = (s1 : Int) := by rw [IntWalk.i64_in _ (by omega)]; omega
      have hr2 : IntKind.i64.wrap ((s1 : Int) - 1) = (yz : Int) := by rw [IntWalk.i64_in _ (by omega)]; omega
      have hr3 : (yz : Int) / (wd : Int) = (q1 : Int) := by rw [hq1, ← hyz]; push_cast; rfl
      have hq1b : q1 < 1073741824 := by rw [hq1]; exact Nat.lt_of_le_of_lt (Nat.div_le_self _ _) hzb
      have hr4 : IntKind.i64.wrap (q1 : Int) = (q1 : Int) := by rw [IntWalk.i64_in _ (by omega)]
      have HR4 := Lib.hid (And.intro hr1 (And.intro hr2 (And.intro hr3 hr4)))
      have HQB : Hid (q1 < 1073741824) := hq1b
      clear hr1 hr2 hr3 hr4 hs1 hyz hcb hft hzb hq1b
      have HQ1 := Lib.hid (And.intro hq1 (And.intro hz hwdd))
      have HQ2 : Hid (q0 ≤ q1) := by
        have := Nat.div_le_div_right (c := wd) (show ya ≤ ya + z by omega)
        rw [← hq0, ← hq1] at this
        exact this
      clear hwd hwdd hz hq0 hq1 hq0b
      have HENT := Lib.hid hENT
      have HRN2 := Lib.hid h1
      have HN2 := Lib.hid (And.intro h7 (And.intro h9 (And.intro h10 h11)))
      have HX2 := Lib.hid (And.intro h2 (And.intro h3 (And.intro h4 (And.intro h5 h6))))
      have HM2 := Lib.hid h8
      have HSZ2 := Lib.hid hsz
      have HST := Lib.hid hst
      have HFM := Lib.hid (hfm [])
      have HOK := Lib.hid hok
      have x0 := (cells_of_block HX2.out.2.1.2 0).1
      simp at x0
      clear h1 h2 h3 h4 h5 h6 h7 h8 h9 h10 h11 hENT hsz hst hfm hok
      gi_wp2_with fail
      refine ⟨trivial, rfl, HENT.out.mono ?_⟩
      rintro e w8 ⟨rfl, hb8⟩
      have k2 := al2 w8 (.cells #[.int .i64 j, .int .i64 yg] 38) (.cells #[.int .i64 ya, .int .i64 yr, .bool yh, .bool yp] 93)
      have HB9 : Hid (Below W2.heap.size W2 ((w8.alloc (.cells #[.int .i64 j, .int .i64 yg] 38)).alloc (.cells #[.int .i64 ya, .int .i64 yr, .bool yh, .bool yp] 93))) := hb8.trans (k2.1.mono hb8.size)
      have HE9 := Lib.hid k2.2.2
      obtain ⟨qb, hqb⟩ : ∃ qb, qb = w8.heap.size + 1 := ⟨_, rfl⟩
      obtain ⟨pb, hpb⟩ : ∃ pb, pb = w8.heap.size := ⟨_, rfl⟩
      rw [← hqb] at HE9
      clear hb8 k2 x0
      gi_wp2_with fail
      rw [← hqb, ← hpb]
      clear hqb hpb
      generalize (w8.alloc (.cells #[.int .i64 j, .int .i64 yg] 38)).alloc (.cells #[.int .i64 ya, .int .i64 yr, .bool yh, .bool yp] 93) = w9 at *
      obtain ⟨n9, hn9⟩ : ∃ n, n = w9.heap.size := ⟨_, rfl⟩
      have HN9 : Hid (n9 = w9.heap.size) := hn9
      have HW9 : Hid (∀ W, Below n9 w9 W → Below W2.heap.size W2 W) := fun W hb => by rw [hn9] at hb; exact HB9.out.trans (hb.mono HB9.out.size)
      clear hn9
      have HDB : Hid (∀ V, Below n9 w9 V → V.cell? ⟨bx, 0, none⟩ = some (.pointer (some ⟨A.h, 0, none⟩)) ∧ V.cell? ⟨A.h, 0, none⟩ = some (.pointer (some ⟨A.c, 0, none⟩)) ∧ V.cell? ⟨A.c, 0, none⟩ = some (.pointer (some ⟨A.s, 0, none⟩)) ∧ V.cell? ⟨A.c, 2, none⟩ = some (.pointer (some ⟨A.m, 0, none⟩)) ∧ V.cell? ⟨qb, 0, none⟩ = some (.int .i64 ya)) := fun V hb => by
        have h1 := HW9.out V hb
        have h2 := (h1.block bx (block_lt HX2.out.2.1.2)).trans HX2.out.2.1.2
        have h3 := (hb.block qb (by rw [HN9.out]; exact block_lt HE9.out)).trans HE9.out
        have h4 := HCF.out V h1
        exact ⟨(cells_of_block h2 0).1, h4.1.1, h4.2.1, h4.2.2.2.1, (cells_of_block h3 0).1⟩
      refine wpIn_region_held_drew (S := Below n9 w9) (by kernel_rfl) (fun ⟨_, _, h⟩ => h) (by kernel_rfl) (Below.refl n9 w9).drew (fun hH => ?_)
      refine tk 0 (v := ?_) rfl ?_ ?_; rotate_left; · intro W hW; obtain ⟨d0, d1, d2, d3, d4⟩ := HDB.out W hW; go_simp; try with_reducible rfl
      try simp only [Go.Tr.nz]
      refine tk 1 (v := ?_) rfl ?_ ?_; rotate_left; · intro W hW; obtain ⟨d0, d1, d2, d3, d4⟩ := HDB.out W hW; go_simp; try with_reducible rfl
      try simp only [Go.Tr.nz]
      refine tk 2 (v := ?_) rfl ?_ ?_; rotate_left; · intro W hW; obtain ⟨d0, d1, d2, d3, d4⟩ := HDB.out W hW; go_simp; try with_reducible rfl
      try simp only [Go.Tr.nz]
      refine tk 3 (v := ?_) rfl ?_ ?_; rotate_left; · intro W hW; obtain ⟨d0, d1, d2, d3, d4⟩ := HDB.out W hW; go_simp; try with_reducible rfl
      try simp only [Go.Tr.nz]
      refine tk 4 (v := ?_) rfl ?_ ?_; rotate_left; · intro W hW; obtain ⟨d0, d1, d2, d3, d4⟩ := HDB.out W hW; go_simp; try with_reducible rfl
      try simp only [Go.Tr.nz]
      refine tk 5 (v := ?_) rfl ?_ ?_; rotate_left; · intro W hW; obtain ⟨d0, d1, d2, d3, d4⟩ := HDB.out W hW; go_simp; try with_reducible rfl
      try simp only [Go.Tr.nz]
      refine tk 6 (v := ?_) rfl ?_ ?_; rotate_left; · intro W hW; obtain ⟨d0, d1, d2, d3, d4⟩ := HDB.out W hW; go_simp; try with_reducible rfl
      try simp only [Go.Tr.nz]
      refine tk 7 (v := ?_) rfl ?_ ?_; rotate_left; · intro W hW; obtain ⟨d0, d1, d2, d3, d4⟩ := HDB.out W hW; go_simp; try with_reducible rfl
      try simp only [Go.Tr.nz]
      refine tk 8 (v := ?_) rfl ?_ ?_; rotate_left; · intro W hW; obtain ⟨d0, d1, d2, d3, d4⟩ := HDB.out W hW; go_simp; try with_reducible rfl
      try simp only [Go.Tr.nz]
      refine rd2 9 14 rfl rfl (fun K hK => ?_) (fun K hK => ?_)
      focus
        go_simp
        refine (HAT.out _ (HW9.out _ hH)).mono ?_
        rintro e wg ⟨rfl, hb3⟩
        have HB3 : Hid (Below n9 w9 wg) := hH.trans (hb3.mono (by rw [HN9.out]; exact hH.size))
        refine hK.out _ _ HB3.out (fun hH => ?_)
        clear hK K hb3
        refine tk 10 (v := ?_) rfl ?_ ?_; rotate_left; · intro W hW; go_simp; try with_reducible rfl
        try simp only [Go.Tr.nz]
        refine tk 11 (v := ?_) rfl ?_ ?_; rotate_left; · intro W hW; go_simp; try with_reducible rfl
        try simp only [Go.Tr.nz]
        refine tk 12 (v := ?_) rfl ?_ ?_; rotate_left; · intro W hW; go_simp; try with_reducible rfl
        try simp only [Go.Tr.nz]
        refine tk 13 (v := ?_) rfl ?_ ?_; rotate_left; · intro W hW; go_simp; try with_reducible rfl
        try simp only [Go.Tr.nz]
        refine rd 14 rfl (fun K hK => ?_)
        go_simp
        have HBh : Hid (Below n9 w9 (wg.alloc (.cells #[.int .i64 1, .int .i64 (cnt j), .int .i64 j] 128))) := HB3.out.alloc (by rw [HN9.out]; exact HB3.out.size) _
        refine hK.out _ _ (HB3.out.alloc (by rw [HN9.out]; exact HB3.out.size) _) (fun hH => ?_)
        clear hK K
        refine rd 15 rfl (fun K hK => ?_)
        go_simp
        refine hK.out _ _ HBh.out (fun hH => ?_)
        clear hK K
        obtain ⟨hdb, hxb⟩ : ∃ xb, xb = wg.heap.size := ⟨_, rfl⟩
        have HXh : Hid ((wg.alloc (.cells #[.int .i64 1, .int .i64 (cnt j), .int .i64 j] 128)).heap[hdb]? = some (.cells #[.int .i64 1, .int .i64 (cnt j), .int .i64 j] 128 (0, 0))) := by rw [hxb]; exact heap_alloc_new wg _
        have HXE : Hid (n9 ≤ hdb) := by show _ ≤ _; rw [hxb, HN9.out]; exact HB3.out.size
        rw [← hxb]
        clear hxb
        generalize wg.alloc (.cells #[.int .i64 1, .int .i64 (cnt j), .int .i64 j] 128) = wh at *
      rotate_left
      focus
        go_simp
        have hb3 : Below n9 w9 (w9.alloc (.cells #[.int .i64 0, .int .i64 0, .int .i64 0] 128)).drew := ((Below.refl n9 w9).alloc (Nat.le_of_eq HN9.out) _).drew
        refine hK.out _ _ hb3 (fun hH => ?_)
        clear hK K
        refine rd 9 rfl (fun K hK => ?_)
        go_simp
        refine (HAT.out _ (HW9.out _ hH)).mono ?_
        rintro e wg ⟨rfl, hbc⟩
        have HB3 : Hid (Below n9 w9 wg) := hb3.trans (hbc.mono (by rw [HN9.out]; exact hb3.size))
        obtain ⟨hdb, hxb⟩ : ∃ xb, xb = w9.heap.size := ⟨_, rfl⟩
        have HX3 : Hid (wg.heap[hdb]? = some (.cells #[.int .i64 0, .int .i64 0, .int .i64 0] 128 (0, 0))) := by rw [hxb]; exact (hbc.block _ (by simp)).trans (heap_alloc_new w9 _)
        refine hK.out _ _ HB3.out (fun hH => ?_)
        rw [← hxb]
        have hxw : n9 ≤ hdb := by rw [HN9.out]; exact Nat.le_of_eq hxb.symm
        have HXE : Hid (n9 ≤ hdb) := hxw
        clear hK K hb3 hbc hxb
        refine tk 10 (v := ?_) rfl ?_ ?_; rotate_left; · intro W hW; go_simp; try with_reducible rfl
        try simp only [Go.Tr.nz]
        refine tk 11 (v := ?_) rfl ?_ ?_; rotate_left; · intro W hW; go_simp; try with_reducible rfl
        try simp only [Go.Tr.nz]
        refine tk 12 (v := ?_) rfl ?_ ?_; rotate_left; · intro W hW; go_simp; try with_reducible rfl
        try simp only [Go.Tr.nz]
        refine tk 13 (v := ?_) rfl ?_ ?_; rotate_left; · intro W hW; go_simp; try with_reducible rfl
        try simp only [Go.Tr.nz]
        have z0 := cells_of_block HX3.out 0
        have z1 := cells_of_block HX3.out 1
        have z2 := cells_of_block HX3.out 2
        simp at z0 z1 z2
        obtain ⟨z0, f0⟩ := z0
        obtain ⟨z1, f1⟩ := z1
        obtain ⟨z2, f2⟩ := z2
        refine rd 15 rfl (fun K hK => ?_)
        go_simp
        have HBh : Hid (Below n9 w9 (((wg.setCell ⟨hdb, 0, none⟩ (.int .i64 1)).setCell ⟨hdb, 1, none⟩ (.int .i64 (cnt j))).setCell ⟨hdb, 2, none⟩ (.int .i64 j))) := (((HB3.out).setCell hxw _).setCell hxw _).setCell hxw _
        refine hK.out _ _ HBh.out (fun hH => ?_)
        clear hK K hxw z0 f0 z1 f1 z2 f2
        have HXh : Hid ((((wg.setCell ⟨hdb, 0, none⟩ (.int .i64 1)).setCell ⟨hdb, 1, none⟩ (.int .i64 (cnt j))).setCell ⟨hdb, 2, none⟩ (.int .i64 j)).heap[hdb]? = some (.cells #[.int .i64 1, .int .i64 (cnt j), .int .i64 j] 128 (0, 0))) := by
          show _ = _
          simpa using block_setCell (block_setCell (block_setCell (HX3.out) 0 (.int .i64 1)) 1 (.int .i64 (cnt j))) 2 (.int .i64 j)
        generalize ((wg.setCell ⟨hdb, 0, none⟩ (.int .i64 1)).setCell ⟨hdb, 1, none⟩ (.int .i64 (cnt j))).setCell ⟨hdb, 2, none⟩ (.int .i64 j) = wh at *
        clear HX3
      all_goals
        refine tk 16 (v := ?_) rfl ?_ ?_; rotate_left; · intro W hW; go_simp; try with_reducible rfl
        try simp only [Go.Tr.nz]
        refine tk 17 (v := ?_) rfl ?_ ?_; rotate_left; · intro W hW; go_simp; try with_reducible rfl
        try simp only [Go.Tr.nz]
        refine wpAnyH_done (by kernel_rfl) ?_ _
        gi_wp2_with fail
        refine wpIn_region_held_drew (S := Below n9 w9) (by kernel_rfl) (fun ⟨_, _, h⟩ => h) (by kernel_rfl) HBh.out.drew (fun hH => ?_)
        refine tk 0 (v := ?_) rfl ?_ ?_; rotate_left; · intro W hW; obtain ⟨d0, d1, d2, d3, d4⟩ := HDB.out W hW; go_simp; try with_reducible rfl
        try simp only [Go.Tr.nz]
        refine tk 1 (v := ?_) rfl ?_ ?_; rotate_left; · intro W hW; obtain ⟨d0, d1, d2, d3, d4⟩ := HDB.out W hW; go_simp; try with_reducible rfl
        try simp only [Go.Tr.nz]
        refine tk 2 (v := ?_) rfl ?_ ?_; rotate_left; · intro W hW; obtain ⟨d0, d1, d2, d3, d4⟩ := HDB.out W hW; go_simp; try with_reducible rfl
        try simp only [Go.Tr.nz]
        refine tk 3 (v := ?_) rfl ?_ ?_; rotate_left; · intro W hW; obtain ⟨d0, d1, d2, d3, d4⟩ := HDB.out W hW; go_simp; try with_reducible rfl
        try simp only [Go.Tr.nz]
        refine tk 4 (v := ?_) rfl ?_ ?_; rotate_left; · intro W hW; obtain ⟨d0, d1, d2, d3, d4⟩ := HDB.out W hW; go_simp; try with_reducible rfl
        try simp only [Go.Tr.nz]
        refine tk 5 (v := ?_) rfl ?_ ?_; rotate_left; · intro W hW; obtain ⟨d0, d1, d2, d3, d4⟩ := HDB.out W hW; go_simp; try with_reducible rfl
        try simp only [Go.Tr.nz]
        refine tk 6 (v := ?_) rfl ?_ ?_; rotate_left; · intro W hW; obtain ⟨d0, d1, d2, d3, d4⟩ := HDB.out W hW; go_simp; try with_reducible rfl
        try simp only [Go.Tr.nz]
        refine tk 7 (v := ?_) rfl ?_ ?_; rotate_left; · intro W hW; obtain ⟨d0, d1, d2, d3, d4⟩ := HDB.out W hW; go_simp; try with_reducible rfl
        try simp only [Go.Tr.nz]
        refine tk 8 (v := ?_) rfl ?_ ?_; rotate_left; · intro W hW; obtain ⟨d0, d1, d2, d3, d4⟩ := HDB.out W hW; go_simp; try with_reducible rfl
        try simp only [Go.Tr.nz]
        refine rd 9 rfl (fun K hK => ?_)
        go_simp
        refine (HWD.out _ (HW9.out _ hH)).mono ?_
        rintro e wi ⟨rfl, rfl⟩
        refine hK.out _ _ hH (fun hH => ?_)
        clear hK K
        refine tk 10 (v := ?_) rfl ?_ ?_; rotate_left; · intro W hW; go_simp; try with_reducible rfl
        try simp only [Go.Tr.nz]
        refine tk 11 (v := ?_) rfl ?_ ?_; rotate_left; · intro W hW; go_simp; try with_reducible rfl
        try simp only [Go.Tr.nz]
        refine wpAnyH_done (by kernel_rfl) ?_ _
        gi_wp2_with fail
        have HEH : Hid (Only (fun k => k = mb) W2 wh.drew ∧ wh.drew.heap[qb]? = some (.cells #[.int .i64 ya, .int .i64 yr, .bool yh, .bool yp] 93 (0, 0)) ∧ MapI wh.drew mb (stayM (pre.flatMap (stayC S1 cnt) ++ (List.range 0).map (fun i => ((q0 + i : Nat) : Int))))) := by
          have h1 := HW9.out _ HBh.out.drew
          have h2 := (HBh.out.drew.block qb (by rw [HN9.out]; exact block_lt HE9.out)).trans HE9.out
          refine ⟨Only.of_below h1 _, h2, ?_⟩
          simp only [List.range_zero, List.map_nil, List.append_nil]
          exact HM2.out.kept (h1.block _ HM2.out.lt)
        clear HAT
        gi_loopw [13] (fun v wr => ∃ k : Nat, v = .int .i64 ((q0 + k : Nat) : Int) ∧ q0 + k ≤ q1 + 1 ∧ Hid (Only (fun k => k = mb) W2 wr ∧ wr.heap[qb]? = some (.cells #[.int .i64 ya, .int .i64 yr, .bool yh, .bool yp] 93 (0, 0)) ∧ MapI wr mb (stayM (pre.flatMap (stayC S1 cnt) ++ (List.range k).map (fun i => ((q0 + i : Nat) : Int)))))) (fun v _ => q1 + 1 - (intOf v).toNat)
        case atStart => exact ⟨0, rfl, by have := HQ2.out; omega, HEH.out⟩
        case round =>
          obtain ⟨k, rfl, hk, HL1⟩ := hrel
          have hmb : w.heap.size ≤ mb := by have h1 := HME.out.2.1; have h2 := HME.out.2.2.2.2.1; omega
          have hbm : bx ≠ mb := by have h1 := HME.out.2.1; have h2 := HME.out.2.2.2.2.2.1; omega
          have HRW := Lib.hid (HRN2.out.aside hmb HN2.out.1 HL1.out.1)
          have HDW : Hid (∀ V, Below wr.heap.size wr V → V.cell? ⟨bx, 0, none⟩ = some (.pointer (some ⟨A.h, 0, none⟩)) ∧ V.cell? ⟨A.h, 0, none⟩ = some (.pointer (some ⟨A.c, 0, none⟩)) ∧ V.cell? ⟨A.c, 0, none⟩ = some (.pointer (some ⟨A.s, 0, none⟩)) ∧ V.cell? ⟨qb, 0, none⟩ = some (.int .i64 ya)) := fun V hb => by
            have i1 := (HL1.out.1.block bx (block_lt HX2.out.2.1.2) hbm).trans HX2.out.2.1.2
            have i2 := (hb.block bx (block_lt i1)).trans i1
            have i3 := (hb.block qb (block_lt HL1.out.2.1)).trans HL1.out.2.1
            have i4 := HE1.out _ _ _ (HG.out.2.1.trans HON.out) (HRW.out.below hb).heap
            have i5 := HF1.out _ _ _ (HRW.out.below hb).heap
            exact ⟨(cells_of_block i2 0).1, i4.1, i5.1, (cells_of_block i3 0).1⟩
          have HWW := Lib.hid (fun V (hb : Below wr.heap.size wr V) => HRW.out.heap.words hb)
          rw [← HQ1.out.2.2] at HWW
          obtain ⟨nr, hnr⟩ : ∃ nr, nr = wr.heap.size := ⟨_, rfl⟩
          rw [← hnr] at HDW HWW
          have HNR := Lib.hid hnr
          obtain ⟨hr1, hr2, hr3, hr4⟩ := HR4.out
          have hb0 : Below nr wr wr.drew := by rw [hnr]; exact (Below.refl _ wr).drew
          clear hmb hbm hnr
          gi_wp2_with fail
          refine wpIn_region_held_drew (S := Below nr wr) (by kernel_rfl) (fun ⟨_, _, h⟩ => h) (by kernel_rfl) hb0 (fun hH => ?_)
          refine tk 0 (v := ?_) rfl ?_ ?_; rotate_left; · intro W hW; obtain ⟨d0, d1, d2, d4⟩ := HDW.out W hW; go_simp; try with_reducible rfl
          try simp only [Go.Tr.nz]
          refine tk 1 (v := ?_) rfl ?_ ?_; rotate_left; · intro W hW; obtain ⟨d0, d1, d2, d4⟩ := HDW.out W hW; go_simp; try with_reducible rfl
          try simp only [Go.Tr.nz]
          refine tk 2 (v := ?_) rfl ?_ ?_; rotate_left; · intro W hW; obtain ⟨d0, d1, d2, d4⟩ := HDW.out W hW; go_simp; try with_reducible rfl
          try simp only [Go.Tr.nz]
          refine tk 3 (v := ?_) rfl ?_ ?_; rotate_left; · intro W hW; obtain ⟨d0, d1, d2, d4⟩ := HDW.out W hW; go_simp; try with_reducible rfl
          try simp only [Go.Tr.nz]
          refine tk 4 (v := ?_) rfl ?_ ?_; rotate_left; · intro W hW; obtain ⟨d0, d1, d2, d4⟩ := HDW.out W hW; go_simp; try with_reducible rfl
          try simp only [Go.Tr.nz]
          refine tk 5 (v := ?_) rfl ?_ ?_; rotate_left; · intro W hW; obtain ⟨d0, d1, d2, d4⟩ := HDW.out W hW; go_simp; try with_reducible rfl
          try simp only [Go.Tr.nz]
          refine tk 6 (v := ?_) rfl ?_ ?_; rotate_left; · intro W hW; obtain ⟨d0, d1, d2, d4⟩ := HDW.out W hW; go_simp; try with_reducible rfl
          try simp only [Go.Tr.nz]
          refine tk 7 (v := ?_) rfl ?_ ?_; rotate_left; · intro W hW; obtain ⟨d0, d1, d2, d4⟩ := HDW.out W hW; go_simp; try with_reducible rfl
          try simp only [Go.Tr.nz]
          refine tk 8 (v := ?_) rfl ?_ ?_; rotate_left; · intro W hW; obtain ⟨d0, d1, d2, d4⟩ := HDW.out W hW; go_simp; try with_reducible rfl
          try simp only [Go.Tr.nz]
          refine tk 9 (v := ?_) rfl ?_ ?_; rotate_left; · intro W hW; obtain ⟨d0, d1, d2, d4⟩ := HDW.out W hW; go_simp; try with_reducible rfl
          try simp only [Go.Tr.nz]
          refine tk 10 (v := ?_) rfl ?_ ?_; rotate_left; · intro W hW; obtain ⟨d0, d1, d2, d4⟩ := HDW.out W hW; go_simp; try with_reducible rfl
          try simp only [Go.Tr.nz]
          refine tk 11 (v := ?_) rfl ?_ ?_; rotate_left; · intro W hW; obtain ⟨d0, d1, d2, d4⟩ := HDW.out W hW; go_simp; try with_reducible rfl
          try simp only [Go.Tr.nz]
          refine tk 12 (v := ?_) rfl ?_ ?_; rotate_left; · intro W hW; obtain ⟨d0, d1, d2, d4⟩ := HDW.out W hW; go_simp; try with_reducible rfl
          try simp only [Go.Tr.nz]
          refine rd 13 rfl (fun K hK => ?_)
          go_simp
          refine (HWW.out _ hH).mono ?_
          rintro e wi ⟨rfl, rfl⟩
          refine hK.out _ _ hH (fun hH => ?_)
          clear hK K
          have HSB : Hid (wr.drew.heap[sb]? = some (.cells #[.map (some mb)] 102 (0, 0))) := (HL1.out.1.block sb (block_lt HX2.out.2.2.2.2.2) (by show ¬ sb = mb; have := HME.out.2.2.1; omega)).trans HX2.out.2.2.2.2.2
          by_cases hle : q0 + k ≤ q1
          · have hle2 : (q0 : Int) + (k : Int) ≤ (q1 : Int) := by omega
            refine tk 14 (v := ?_) rfl ?_ ?_; rotate_left; · intro W hW; go_simp; try with_reducible rfl
            try simp only [Go.Tr.nz]
            refine tk 15 (v := ?_) rfl ?_ ?_; rotate_left; · intro W hW; go_simp; try with_reducible rfl
            try simp only [Go.Tr.nz]
            refine wpAnyH_done (by kernel_rfl) ?_ _
            have hmd : MapI wr.drew mb (stayM (pre.flatMap (stayC S1 cnt) ++ (List.range k).map (fun i => ((q0 + i : Nat) : Int)))) := HL1.out.2.2
            obtain ⟨wp, hrun, hm1, hgr, hsz⟩ := hmd.put (P := Tryz.prog) Tryz.underlying102 Tryz.underlying3 ((q0 : Int) + (k : Int)) (.int .i64 1)
            have s0 := (cells_of_block HSB.out 0).1
            rw [HME.out.2.2.1] at s0
            simp at s0
            have hqb := HQB.out
            have HMP : Hid (MapI wp mb (stayM (pre.flatMap (stayC S1 cnt) ++ (List.range (k + 1)).map (fun i => ((q0 + i : Nat) : Int))))) := by
              show MapI _ _ _
              rw [List.range_succ, List.map_append, ← List.append_assoc]
              simp only [List.map_cons, List.map_nil]
              rw [stayM_snoc]
              push_cast
              exact hm1
            have HOP : Hid (Only (fun k => k = mb) W2 wp) := (HL1.out.1.drew).grown hgr (fun k hk => Or.inl (by cases hk; rfl))
            have HEP : Hid (wp.heap[qb]? = some (.cells #[.int .i64 ya, .int .i64 yr, .bool yh, .bool yp] 93 (0, 0))) := by
              have hne : qb ≠ mb := fun e => by
                have h1 := HL1.out.2.1
                obtain ⟨es, ck, h2, -⟩ := HL1.out.2.2
                rw [e, h2] at h1
                cases h1
              exact (hgr.block qb (block_lt HL1.out.2.1) (fun e => hne (by cases e; rfl))).trans HL1.out.2.1
            clear hmd hm1 hgr hsz
            gi_wp2_with fail
            go_roundw
            case rel => exact ⟨k + 1, by go_num, by omega, HOP.out, HEP.out, HMP.out⟩
            case measure => simp [intOf]; omega
          · have hle2 : ¬ ((q0 : Int) + (k : Int) ≤ (q1 : Int)) := by omega
            refine tk 14 (v := ?_) rfl ?_ ?_; rotate_left; · intro W hW; go_simp; try with_reducible rfl
            try simp only [Go.Tr.nz]
            refine tk 15 (v := ?_) rfl ?_ ?_; rotate_left; · intro W hW; go_simp; try with_reducible rfl
            try simp only [Go.Tr.nz]
            refine wpAnyH_done (by kernel_rfl) ?_ _
            have hk1 : k = q1 - q0 + 1 := by have := HQ2.out; omega
            have HEN : Hid (MapI wr.drew mb (stayM (pre.flatMap (stayC S1 cnt) ++ stayC S1 cnt j))) := by
              show MapI _ _ _
              rw [HST.out, ← hk1]
              exact HL1.out.2.2
            have HOD : Hid (Only (fun k => k = mb) W2 wr.drew) := HL1.out.1.drew
            clear hk1
            gi_wp2_with fail
            obtain ⟨-, n0, n1, -, i1, i2, i3, i4, i5, i6⟩ := HNF.out
            have m0 := HME.out
            obtain ⟨m1, m2, m3, m4⟩ := HN2.out
            have k1 := HSZ2.out
            have hmw : w.heap.size ≤ mb := by have h1 := m0.2.1; have h2 := m0.2.2.2.2.1; omega
            have hk : ∀ k, k < W2.heap.size → k ≠ mb → wr.drew.heap[k]? = W2.heap[k]? := fun k hk hn => HOD.out.block k hk hn
            have bx1 : ∀ {b : Nat} {o : Obj}, b ≠ mb → Bx W2 F' b o → Bx wr.drew F' b o := fun hn hb => ⟨hb.1, (hk _ (block_lt hb.2) hn).trans hb.2⟩
            obtain ⟨b1, b2', b3, b4, b5⟩ := HX2.out
            exact ⟨hk _ k1 (by omega), hk _ (by omega) (by omega), hk _ (by omega) (by omega), F', HRN2.out.aside hmw m1 HOD.out, bx1 (by omega) b1, bx1 (by omega) b2', bx1 (by omega) b3, bx1 (by omega) b4, bx1 (by omega) b5, m1, HEN.out, m2, m3, m4⟩
    case done2 =>
      rintro V ⟨F2, h1, h2, h3, h4, h5, h6, h7, h8, -, h10, -⟩ hD2
      have HDV : Hid (Bx V F2 wf.heap.size (.deferred (some []))) := ⟨h10, hD2⟩
      have HRV := Lib.hid h1
      have HD1V := Lib.hid h2
      have HXV := Lib.hid h3
      have HZV := Lib.hid h4
      have HQV := Lib.hid h5
      have HSV := Lib.hid h6
      have HMV := Lib.hid (And.intro h7 h8)
      clear h1 h2 h3 h4 h5 h6 h7 h8 h10 hD2 HSEQ2 HIB HRF HXF HZF HQF HSF HDF HMF hmm
      obtain ⟨e0, e1, e2, e3⟩ := HE1.out _ _ _ (HG.out.2.1.trans HON.out) HRV.out.heap
      obtain ⟨-, -, -, -, -, -, c6, -⟩ := HF1.out _ _ _ HRV.out.heap
      have x0 := (cells_of_block HXV.out.2 0).1
      simp at x0
      go_wp2_with fail
      refine wp_region_still_lit (by kernel_rfl) (by kernel_rfl) ?_
      repeat still_step
      refine still_look (.tmp 129) (.tmp 133) 53 rfl _ _ _ rfl rfl (HRV.out.heap.lookSpace (Below.refl _ _).drew) ?_
      repeat still_step
      refine wpStill_nil ?_
      have hdv : Below V.heap.size V V.drew := (Below.refl _ _).drew
      have HRU := Lib.hid (HRV.out.below hdv)
      have HD1U := Lib.hid (HD1V.out.below hdv)
      have HDU := Lib.hid (HDV.out.below hdv)
      have HXU := Lib.hid (HXV.out.below hdv)
      have HZU := Lib.hid (HZV.out.below hdv)
      have HQU := Lib.hid (HQV.out.below hdv)
      have HSU := Lib.hid (HSV.out.below hdv)
      have HMU : Hid (¬ F2 mb ∧ MapI V.drew mb (stayM (S1.mine.flatMap (stayC S1 cnt)))) := HMV.out
      rw [show ({ heap := V.heap, tape := V.tape, drawn := V.drawn + 1, os := V.os, output := V.output } : World) = V.drew from rfl]
      clear hdv HRV HD1V HDV HXV HZV HQV HSV HMV e0 e1 e2 e3 c6 x0
      generalize V.drew = U at *
      have HCH := Lib.hid (HRU.out.heap.chunks HSP.out (Below.refl _ _))
      go_wp2_with fail
      refine HCH.out.mono ?_
      rintro e U1 ⟨v, rfl, hrow, hb⟩
      have HRY := Lib.hid (HRU.out.below hb)
      have HD1Y := Lib.hid (HD1U.out.below hb)
      have HDY := Lib.hid (HDU.out.below hb)
      have HXY := Lib.hid (HXU.out.below hb)
      have HZY := Lib.hid (HZU.out.below hb)
      have HQY := Lib.hid (HQU.out.below hb)
      have HSY := Lib.hid (HSU.out.below hb)
      have HMY : Hid (¬ F2 mb ∧ MapI U1 mb (stayM (S1.mine.flatMap (stayC S1 cnt)))) := ⟨HMU.out.1, HMU.out.2.kept (hb.block _ HMU.out.2.lt)⟩
      have hlt := hrow.lt
      have HQU2 : Hid (rb < U.heap.size) := block_lt HQU.out.2
      obtain ⟨a1, cp, rfl, hsq, -, -⟩ := ownsRow_seq hrow
      have HSQ := Lib.hid hsq
      have HNB : Hid (∀ b o, a1 = some ⟨b, o, none⟩ → U.heap.size ≤ b ∧ ¬ F2 b) := fun b o e => by
        have h1 := (hlt b (by rw [e]; rfl)).1
        exact ⟨h1, fun hf => by have h2 := HRU.out.heap.lt b hf; omega⟩
      obtain ⟨zl, hzl⟩ : ∃ zl, zl = (chunksL S1.ps).length := ⟨_, rfl⟩
      rw [← hzl]
      have HZL := Lib.hid hzl
      clear hlt hrow hsq hb hzl HRU HD1U HDU HXU HZU HQU HSU HMU HCH
      go_wp2_with fail
      have HDZ : Hid (bx < U1.heap.size ∧ w.heap.size ≤ U1.heap.size ∧ w.heap.size ≤ rb ∧ rb ≠ bx ∧ rb ≠ zb) := ⟨block_lt HXY.out.2, HRY.out.2.1.size, HNE.out.1, HNE.out.2.1, HNE.out.2.2⟩
      go_loopw [138] (fun iv wr => ∃ k : Nat, k ≤ zl ∧ iv = .int .i64 (k : Int) ∧ Hid (FrSt w F A J nl bx zb rb sb mb w7.heap.size wf.heap.size (stayM (S1.mine.flatMap (stayC S1 cnt))) (chunksL S1.ps) a1 k wr)) (fun iv _ => zl - (intOf iv).toNat)
      case atStart => exact ⟨0, Nat.zero_le _, rfl, F2, S1, [], .slice none 0 0, HRY.out, HJ0.out, Nat.zero_le _, HD1Y.out, HDY.out, HXY.out, HZY.out, HQY.out, HSY.out, HMY.out.1, HMY.out.2, HSQ.out, fun b o e => ⟨(HNB.out b o e).2, fun e2 => by have h1 := (HNB.out b o e).1; have h2 := HQU2.out; omega⟩, World.ownsRow_nil _ _ _ _, fun q hq => by simp [Value.ownBlock] at hq⟩
      case round =>
        obtain ⟨k, hk, rfl, HR⟩ := hrel
        by_cases hlt : k < zl
        · obtain ⟨F', S', fr, v, h1, h2, hfl, d1, d2, b1, b2', b3, b4, h3, h4, h5, h6, h7, h8⟩ := HR.out
          obtain ⟨b, off, c, rfl, hc, HX⟩ := h5.ints (k := k) (by rw [← HZL.out]; exact hlt)
          have hi : (k : Int) < (zl : Int) := by omega
          have hzl : zl ≤ 100000 := by rw [HZL.out]; exact HSP.out.l
          have hlk := stayM_look (S1.mine.flatMap (stayC S1 cnt)) c
          have s0 := (cells_of_block b4.2 0).1
          rw [HME.out.2.2.1] at s0
          simp at s0
          rcases HJ.out k S' fr c h2 HX.out with ⟨hm, hj⟩ | ⟨hm, q, S9, rfl, hdt, hj⟩
          · rw [if_pos hm] at hlk
            have HNXT : Hid (FrSt w F A J nl bx zb rb sb mb w7.heap.size wf.heap.size (stayM (S1.mine.flatMap (stayC S1 cnt))) (chunksL S1.ps) (some ⟨b, off, none⟩) (k + 1) wr)   := ⟨F', S', fr, v, h1, hj, by omega, d1, d2, b1, b2', b3, b4, h3, h4, h5, h6, h7, h8⟩
            have HMAP := Lib.hid h4
            clear h1 h2 hfl d1 d2 b1 b2' b3 b4 h3 h4 h5 h6 h7 h8 hm hj
            have hrun : (Instr.lookup 102 (.map (some mb)) (.int .i64 c) false).run Tryz.prog wr = .ok (.int .i64 1) wr := by
              rw [MapI.look (P := Tryz.prog) HMAP.out Tryz.underlying102 Tryz.underlying3 (z := .int .i64 0) (fun _ => rfl) false c]
              show Result.ok ((lookA _ c).getD _) wr = _
              rw [hlk]
            clear hlk
            go_wp2
            go_roundw
            case rel => exact ⟨k + 1, by omega, by go_num, HNXT.out⟩
            case measure => simp [intOf]; omega
          · rw [if_neg hm] at hlk
            have HMAP := Lib.hid h4
            have hrun : (Instr.lookup 102 (.map (some mb)) (.int .i64 (q : Int)) false).run Tryz.prog wr = .ok (.int .i64 0) wr := by
              rw [MapI.look (P := Tryz.prog) HMAP.out Tryz.underlying102 Tryz.underlying3 (z := .int .i64 0) (fun _ => rfl) false (q : Int)]
              show Result.ok ((lookA _ (q : Int)).getD _) wr = _
              rw [hlk]
            clear hlk HMAP
            obtain ⟨i0, hi0, hz0, hz1, hz2⟩ := info_parts infoIntC
            obtain ⟨fn, hfn⟩ : ∃ fn, fn = fr.length := ⟨_, rfl⟩
            have HV' : Hid (wr.ownsRow w.heap.size 3 1 v fn (ints fr)) := by rw [hfn]; exact h7
            rw [← hfn] at hfl
            have HFN := Lib.hid hfn
            obtain ⟨oa8, oc8, rfl, -, hoc8, -⟩ := ownsRow_seq HV'.out
            have r0 := (cells_of_block b3.2 0).1
            simp at r0
            have HRW := Lib.hid h1
            have HJJ := Lib.hid (And.intro hdt hj)
            have HBB := Lib.hid (And.intro d1 (And.intro d2 (And.intro b1 (And.intro b2' (And.intro b3 b4)))))
            have HMM := Lib.hid (And.intro h3 h4)
            have HSS := Lib.hid (And.intro h5 h6)
            have HNN := Lib.hid h8
            have HWS : Hid (w.heap.size ≤ wr.heap.size) := h1.2.1.size
            clear h1 h2 hdt hj d1 d2 b1 b2' b3 b4 h3 h4 h5 h6 h7 h8 hm hfn
            go_wp2_with (first
              | (at_builtin; refine wpList_append_own_at _ rfl (.tmp 147) (.tmp 149) 42 rfl w.heap.size 3 i0 _ 1 8 Tryz.underlying42 hi0 hz0 hz1 hz2 rfl (by decide) _ _ _ rfl (HV'.out.alloc _) ⟨wr.heap.size, 0, none⟩ 1 1 (ints [(q : Int)]) rfl rfl ?_ (ints_oneCell .i64 [(q : Int)]) (by unfold maxLen; omega) (by omega) (by have := HWS.out; simp; omega) ?_)
              | fail)
            · intro j u hu
              exact news_block wr (ints [(q : Int)]) 3 j u hu
            · intro v' w4 hown hgrow _ hob
              have HO4 : Hid (Only (fun k => (Value.slice oa8 fn oc8).ownBlock = some k) wr w4) := (Only.of_below ((Below.refl _ wr).alloc (Nat.le_refl _) _) _).grown hgrow (fun k hk => Or.inl hk)
              have HV4 : Hid (own3 w4 3 w.heap.size v' (fr ++ [(q : Int)])) := by
                show w4.ownsRow _ _ _ _ _ _
                have := hown
                rw [HFN.out] at this
                simpa [ints] using this
              have HB4 : Hid (v'.ownBlock = (Value.slice oa8 fn oc8).ownBlock ∨ v'.ownBlock = some (wr.heap.size + 1)) := by
                show _ ∨ _
                simpa using hob
              obtain ⟨oa9, oc9, rfl, -, -, -⟩ := ownsRow_seq hown
              have HR4 : Hid (w4.heap[rb]? = some (.cells #[.slice oa8 fn oc8, .int .i64 nl] 44 (0, 0))) := (HO4.out.block rb (block_lt HBB.out.2.2.2.2.1.2) (fun e => (HNN.out rb e).2.2.2.2.2.1 rfl)).trans HBB.out.2.2.2.2.1.2
              clear hown hgrow hob r0
              have r0 := cells_of_block HR4.out 0
              have r1 := cells_of_block HR4.out 1
              simp at r0 r1
              obtain ⟨r0, f0⟩ := r0
              obtain ⟨r1, f1⟩ := r1
              go_wp2_with fail
              have HR5 : Hid ((w4.setCell ⟨rb, 0, none⟩ (.slice oa9 (fn + 1) oc9)).heap[rb]? = some (.cells #[.slice oa9 (fn + 1) oc9, .int .i64 nl] 44 (0, 0))) := by
                show _ = _
                simpa using block_setCell HR4.out 0 (.slice oa9 (fn + 1) oc9)
              have HO5 : Hid (Only (fun k => (Value.slice oa8 fn oc8).ownBlock = some k ∨ k = rb) wr (w4.setCell ⟨rb, 0, none⟩ (.slice oa9 (fn + 1) oc9))) := (HO4.out.mono (G := fun k => (Value.slice oa8 fn oc8).ownBlock = some k ∨ k = rb) (fun k hk => Or.inl hk)).setCell (p := ⟨rb, 0, none⟩) (Or.inl (Or.inr rfl)) _
              have hbr : ∀ b, (Value.slice oa9 (fn + 1) oc9).ownBlock = some b → b ≠ rb := fun b hb e => by
                subst e
                rcases HB4.out with h | h
                · exact (HNN.out b (h ▸ hb)).2.2.2.2.2.1 rfl
                · rw [h] at hb; cases hb; have := block_lt HBB.out.2.2.2.2.1.2; omega
              have HV5 : Hid (own3 (w4.setCell ⟨rb, 0, none⟩ (.slice oa9 (fn + 1) oc9)) 3 w.heap.size (.slice oa9 (fn + 1) oc9) (fr ++ [(q : Int)])) := ownsRow_kept HV4.out (fun k hk => Below.heap_setCell _ _ _ _ (hbr k hk))
              clear r0 f0 r1 f1 HR4 HO4 HV4
              generalize w4.setCell ⟨rb, 0, none⟩ (.slice oa9 (fn + 1) oc9) = w5 at *
              have hU : ∀ k, ((Value.slice oa8 fn oc8).ownBlock = some k ∨ k = rb) → w.heap.size ≤ k ∧ ¬ F' k := fun k hk => by
                rcases hk with hk | rfl
                · exact ⟨(HV'.out.lt k hk).1, (HNN.out k hk).1⟩
                · exact ⟨HDZ.out.2.2.1, HBB.out.2.2.2.2.1.1⟩
              have HRN5 := Lib.hid (HRW.out.asideU hU HO5.out)
              clear hU
              refine (HRN5.out.heap.dropTo HJJ.out.1).mono ?_
              rintro e w6 ⟨⟨kk, rfl⟩, h6⟩
              have HRN6 := Lib.hid (HRN5.out.op h6)
              have HO6 := Lib.hid h6.2
              have HNXT : Hid (FrSt w F A J nl bx zb rb sb mb w7.heap.size wf.heap.size (stayM (S1.mine.flatMap (stayC S1 cnt))) (chunksL S1.ps) (some ⟨b, off, none⟩) (k + 1) w6) := by
                obtain ⟨d1, d2, b1, b2', b3, b4⟩ := HBB.out
                have hN := HNN.out
                have hlF := HRW.out.heap.lt
                have hs5 := HO5.out.size
                have ne : ∀ {a : Nat} {o : Obj}, Bx wr F' a o → o ≠ .cells #[.slice oa8 fn oc8, .int .i64 nl] 44 (0, 0) → a ≠ rb := fun h hn e => by
                  subst e
                  have := h.2
                  rw [b3.2] at this
                  exact hn (Option.some.inj this).symm
                have go5 : ∀ {a : Nat} {o : Obj}, Bx wr F' a o → a ≠ rb → (∀ q, (Value.slice oa8 fn oc8).ownBlock = some q → q ≠ a) → Bx w6 (grow F' w5 w6) a o := fun {a o} h hn hq =>
                  Bx.op (W := w5) ⟨h.1, (HO5.out.block _ (block_lt h.2) (fun e => e.elim (fun e => hq _ e rfl) hn)).trans h.2⟩ HO6.out
                have ng : ∀ k, k < w5.heap.size → ¬ F' k → ¬ grow F' w5 w6 k := fun k hk hn hg => hg.elim hn (fun hg => by have := hg.1; omega)
                obtain ⟨es, ck, hmb, -⟩ := id HMM.out.2
                have hmr : mb ≠ rb := fun e => by
                  rw [e, b3.2] at hmb
                  cases hmb
                have hmq : ∀ q, (Value.slice oa8 fn oc8).ownBlock = some q → q ≠ mb := fun q hq => (hN q hq).2.2.2.2.2.2.2.1
                have hcq : ∀ q, (Value.slice oa8 fn oc8).ownBlock = some q → q ≠ b := fun q hq => (hN q hq).2.2.2.2.2.2.2.2 b off rfl
                have hbl : b < wr.heap.size := World.block_lt_of_cell? wr _ hc
                have hF5 : ∀ k, (Value.slice oa9 (fn + 1) oc9).ownBlock = some k → ¬ F' k ∧ k < w5.heap.size := fun k hk => by
                  refine ⟨?_, (HV5.out.lt k hk).2⟩
                  rcases HB4.out with h | h
                  · exact (hN k (h ▸ hk)).1
                  · rw [h] at hk; cases hk; exact fun hf => by have := hlF _ hf; omega
                have hcr : b ≠ rb := (HSS.out.2 b off rfl).2
                refine ⟨_, S9, fr ++ [(q : Int)], .slice oa9 (fn + 1) oc9, HRN6.out, HJJ.out.2, by rw [List.length_append, ← HFN.out]; simp; omega, go5 d1 (ne d1 (by simp)) (fun q hq => (hN q hq).2.1), go5 d2 (ne d2 (by simp)) (fun q hq => (hN q hq).2.2.1), go5 b1 (ne b1 (by simp)) (fun q hq => (hN q hq).2.2.2.1), go5 b2' HDZ.out.2.2.2.2.symm (fun q hq => (hN q hq).2.2.2.2.1),
                  Bx.op (W := w5) ⟨b3.1, HR5.out⟩ HO6.out, go5 b4 (ne b4 (by simp)) (fun q hq => (hN q hq).2.2.2.2.2.2.1), ng mb (by have := block_lt hmb; omega) HMM.out.1, ?_, ?_, fun b' o' e => by cases e; exact ⟨ng b (by omega) (HSS.out.2 b off rfl).1, hcr⟩, ?_, fun k hk => ?_⟩
                · exact HMM.out.2.kept ((HO6.out.block mb (by have := block_lt hmb; omega) HMM.out.1).trans (HO5.out.block mb (block_lt hmb) (fun e => e.elim (fun e => hmq _ e rfl) hmr)))
                · exact (HSS.out.1.only HO5.out (fun _ b' o' e hU => by cases e; exact hU.elim (fun e => hcq _ e rfl) hcr)).only HO6.out (fun _ b' o' e hf => by cases e; exact (HSS.out.2 b off rfl).1 hf)
                · exact ownsRow_kept HV5.out (fun k hk => HO6.out.block k (hF5 k hk).2 (hF5 k hk).1)
                · have h5 := hF5 k hk
                  refine ⟨ng k h5.2 h5.1, ?_⟩
                  rcases HB4.out with h | h
                  · have := hN k (h ▸ hk)
                    exact this.2
                  · rw [h] at hk
                    cases hk
                    have e1 := block_lt d1.2
                    have e2 := block_lt d2.2
                    have e3 := block_lt b1.2
                    have e4 := block_lt b2'.2
                    have e5 := block_lt b3.2
                    have e6 := block_lt b4.2
                    have e7 := block_lt hmb
                    exact ⟨by omega, by omega, by omega, by omega, by omega, by omega, by omega, fun b' o' e => by cases e; omega⟩
              clear h6 hbr HB4 HV5 HR5 HO5 HRN5 HRN6 HO6
              go_wp2
              go_roundw
              case rel => exact ⟨k + 1, by omega, by go_num, HNXT.out⟩
              case measure => simp [intOf]; omega
        · have hi : ¬ ((k : Int) < (zl : Int)) := by omega
          have hkz : k = zl := by omega
          obtain ⟨F', S', fr, v, h1, h2, hfl, d1, d2, b1, b2', b3, -, -, -, -, -, h7, h8⟩ := HR.out
          rw [hkz, HZL.out] at h2
          obtain ⟨je1, je2, je3⟩ := HJE.out S' fr h2
          have hzl : zl ≤ 100000 := by rw [HZL.out]; exact HSP.out.l
          obtain ⟨fn, hfn⟩ : ∃ fn, fn = fr.length := ⟨_, rfl⟩
          have HV' : Hid (wr.ownsRow w.heap.size 3 1 v fn (ints fr)) := by rw [hfn]; exact h7
          rw [← hfn] at hfl
          have HFN := Lib.hid hfn
          obtain ⟨oa8, oc8, rfl, -, -, -⟩ := ownsRow_seq HV'.out
          have r0 := (cells_of_block b3.2 0).1
          simp at r0
          have HSO := Lib.hid (sort_own w.heap.size _ fr wr h7 (by rw [← hfn]; omega))
          have HJX := Lib.hid h2
          have HJA := Lib.hid (And.intro je1 (And.intro je2 je3))
          have HRW := Lib.hid h1
          have HBB := Lib.hid (And.intro d1 (And.intro d2 (And.intro b1 (And.intro b2' b3))))
          have HNN := Lib.hid h8
          clear h1 h2 je1 je2 je3 d1 d2 b1 b2' b3 h7 h8 hfn hkz
          go_wp2_with fail
          refine HSO.out.mono ?_
          rintro e wa ⟨rfl, hso, hgr⟩
          have hoa : Only (fun k => (Value.slice oa8 fn oc8).ownBlock = some k) wr wa := (Only.refl _ wr).grown hgr (fun k hk => Or.inl hk)
          have HRA2 := Lib.hid (HRW.out.asideU (fun k hk => ⟨(HV'.out.lt k hk).1, (HNN.out k hk).1⟩) hoa)
          have goA : ∀ {a : Nat} {o : Obj}, Bx wr F' a o → (∀ q, (Value.slice oa8 fn oc8).ownBlock = some q → q ≠ a) → Bx wa F' a o := fun {a o} h hq => ⟨h.1, (hoa.block _ (block_lt h.2) (fun e => hq _ e rfl)).trans h.2⟩
          have HBA := Lib.hid (And.intro (goA HBB.out.1 (fun q hq => (HNN.out q hq).2.1)) (And.intro (goA HBB.out.2.1 (fun q hq => (HNN.out q hq).2.2.1)) (And.intro (goA HBB.out.2.2.1 (fun q hq => (HNN.out q hq).2.2.2.1)) (And.intro (goA HBB.out.2.2.2.1 (fun q hq => (HNN.out q hq).2.2.2.2.1)) (goA HBB.out.2.2.2.2 (fun q hq => (HNN.out q hq).2.2.2.2.2.1))))))
          clear hso hgr hoa goA r0 HSO HBB HRW HR
          obtain ⟨e0, e1, e2, e3⟩ := HE1.out _ _ _ HJA.out.1 HRA2.out.heap
          have x0 := (cells_of_block HBA.out.2.2.1.2 0).1
          simp at x0
          go_wp2_with fail
          refine (HRA2.out.heap.join HJA.out.1 HJA.out.2.1 HJA.out.2.2).mono ?_
          rintro e wb ⟨rfl, hob, hah, hfin⟩
          have HFIN := Lib.hid hfin
          have HOB := Lib.hid hob
          have HVB : Hid (wb.heap[A.h]? = some (.cells #[.pointer (some ⟨A.c, 0, none⟩), .int .i64 1, .pointer (some ⟨A.u2, 0, none⟩), .pointer (some ⟨A.gl, 0, none⟩)] 31 (0, 0))) := by
            have := HRA2.out.heap.ev.1
            rw [HJA.out.1] at this
            exact hah.trans this
          have HAF : Hid (F' A.h) := HRA2.out.heap.ev.2
          have HXW : Hid (wb.heap[bx]? = some (.cells #[.pointer (some ⟨A.h, 0, none⟩)] 22 (0, 0)) ∧ bx ≠ A.h) := ⟨(hob.block _ (block_lt HBA.out.2.2.1.2) HBA.out.2.2.1.1).trans HBA.out.2.2.1.2, fun e => HBA.out.2.2.1.1 (by rw [e]; exact HAF.out)⟩
          clear hfin hob hah e0 e1 e2 e3 x0
          go_wp2_with fail
          have HDX : Hid (∀ W, Only (fun k => k = A.h) wb W → W.cell? ⟨bx, 0, none⟩ = some (.pointer (some ⟨A.h, 0, none⟩))) := fun W ho => by
            have h1 := (ho.block bx (block_lt HXW.out.1) HXW.out.2).trans HXW.out.1
            exact (cells_of_block h1 0).1
          refine wp_region_held_drew (S := Only (fun k => k = A.h) wb) (by kernel_rfl) (Only.refl _ wb).drew (fun hH => ?_)
          have HVB0 : Hid (wb.drew.heap[A.h]? = some (.cells #[.pointer (some ⟨A.c, 0, none⟩), .int .i64 1, .pointer (some ⟨A.u2, 0, none⟩), .pointer (some ⟨A.gl, 0, none⟩)] 31 (0, 0))) := HVB.out
          refine tk 0 (v := ?_) rfl ?_ ?_; rotate_left; · intro W hW; have d0 := HDX.out W hW; go_simp; try with_reducible rfl
          try simp only [Go.Tr.nz]
          refine tk 1 (v := ?_) rfl ?_ ?_; rotate_left; · intro W hW; have d0 := HDX.out W hW; go_simp; try with_reducible rfl
          try simp only [Go.Tr.nz]
          refine tk 2 (v := ?_) rfl ?_ ?_; rotate_left; · intro W hW; have d0 := HDX.out W hW; go_simp; try with_reducible rfl
          try simp only [Go.Tr.nz]
          refine tk 3 (v := ?_) rfl ?_ ?_; rotate_left; · intro W hW; have d0 := HDX.out W hW; go_simp; try with_reducible rfl
          try simp only [Go.Tr.nz]
          refine tk 4 (v := ?_) rfl ?_ ?_; rotate_left; · intro W hW; have d0 := HDX.out W hW; go_simp; try with_reducible rfl
          try simp only [Go.Tr.nz]
          have wc0s : Hid (wb.drew.heap.size = wb.heap.size) := rfl
          have HOC0 : Hid (Only (fun k => k = A.h) wb wb.drew) := (Only.refl _ wb).drew
          generalize wb.drew = wc0 at *
          refine rd 5 rfl (fun K hK => ?_)
          have v0 := cells_of_block HVB0.out 0
          have v1 := cells_of_block HVB0.out 1
          have v2 := cells_of_block HVB0.out 2
          have v3 := cells_of_block HVB0.out 3
          simp at v0 v1 v2 v3
          obtain ⟨v0, f0⟩ := v0
          obtain ⟨v1, f1⟩ := v1
          obtain ⟨v2, f2⟩ := v2
          obtain ⟨v3, f3⟩ := v3
          go_simp
          have HOC1' : Only (fun k => k = A.h) wb (wc0.setCell ⟨A.h, 1, none⟩ (.int .i64 0)) := HOC0.out.setCell (p := ⟨A.h, 1, none⟩) (Or.inl rfl) _
          refine hK.out _ _ HOC1' (fun hH => ?_)
          clear hK K v0 v1 v2 v3 f0 f1 f2 f3
          have HVB1 : Hid ((wc0.setCell ⟨A.h, 1, none⟩ (.int .i64 0)).heap[A.h]? = some (.cells #[.pointer (some ⟨A.c, 0, none⟩), .int .i64 0, .pointer (some ⟨A.u2, 0, none⟩), .pointer (some ⟨A.gl, 0, none⟩)] 31 (0, 0))) := by
            show _ = _
            simpa using block_setCell HVB0.out 1 (.int .i64 0)
          have HOC1 := Lib.hid HOC1'
          have wc1s : Hid ((wc0.setCell ⟨A.h, 1, none⟩ (.int .i64 0)).heap.size = wb.heap.size) := by
            show _ = _
            simp [wc0s.out]
          clear HOC1'
          generalize wc0.setCell ⟨A.h, 1, none⟩ (.int .i64 0) = wc1 at *
          refine tk 6 (v := ?_) rfl ?_ ?_; rotate_left; · intro W hW; go_simp; try with_reducible rfl
          try simp only [Go.Tr.nz]
          refine tk 7 (v := ?_) rfl ?_ ?_; rotate_left; · intro W hW; go_simp; try with_reducible rfl
          try simp only [Go.Tr.nz]
          refine rd 8 rfl (fun K hK => ?_)
          have v0 := cells_of_block HVB1.out 0
          have v1 := cells_of_block HVB1.out 1
          have v2 := cells_of_block HVB1.out 2
          have v3 := cells_of_block HVB1.out 3
          simp at v0 v1 v2 v3
          obtain ⟨v0, f0⟩ := v0
          obtain ⟨v1, f1⟩ := v1
          obtain ⟨v2, f2⟩ := v2
          obtain ⟨v3, f3⟩ := v3
          go_simp
          have HOC2' : Only (fun k => k = A.h) wb (wc1.setCell ⟨A.h, 2, none⟩ (.pointer none)) := HOC1.out.setCell (p := ⟨A.h, 2, none⟩) (Or.inl rfl) _
          refine hK.out _ _ HOC2' (fun hH => ?_)
          clear hK K v0 v1 v2 v3 f0 f1 f2 f3
          have HVB2 : Hid ((wc1.setCell ⟨A.h, 2, none⟩ (.pointer none)).heap[A.h]? = some (.cells #[.pointer (some ⟨A.c, 0, none⟩), .int .i64 0, .pointer none, .pointer (some ⟨A.gl, 0, none⟩)] 31 (0, 0))) := by
            show _ = _
            simpa using block_setCell HVB1.out 2 (.pointer none)
          have HOC2 := Lib.hid HOC2'
          have wc2s : Hid ((wc1.setCell ⟨A.h, 2, none⟩ (.pointer none)).heap.size = wb.heap.size) := by
            show _ = _
            simp [wc1s.out]
          clear HOC2'
          generalize wc1.setCell ⟨A.h, 2, none⟩ (.pointer none) = wc2 at *
          refine tk 9 (v := ?_) rfl ?_ ?_; rotate_left; · intro W hW; go_simp; try with_reducible rfl
          try simp only [Go.Tr.nz]
          refine tk 10 (v := ?_) rfl ?_ ?_; rotate_left; · intro W hW; go_simp; try with_reducible rfl
          try simp only [Go.Tr.nz]
          refine rd 11 rfl (fun K hK => ?_)
          have v0 := cells_of_block HVB2.out 0
          have v1 := cells_of_block HVB2.out 1
          have v2 := cells_of_block HVB2.out 2
          have v3 := cells_of_block HVB2.out 3
          simp at v0 v1 v2 v3
          obtain ⟨v0, f0⟩ := v0
          obtain ⟨v1, f1⟩ := v1
          obtain ⟨v2, f2⟩ := v2
          obtain ⟨v3, f3⟩ := v3
          go_simp
          have HOC3' : Only (fun k => k = A.h) wb (wc2.setCell ⟨A.h, 3, none⟩ (.pointer none)) := HOC2.out.setCell (p := ⟨A.h, 3, none⟩) (Or.inl rfl) _
          refine hK.out _ _ HOC3' (fun hH => ?_)
          clear hK K v0 v1 v2 v3 f0 f1 f2 f3
          have HVB3 : Hid ((wc2.setCell ⟨A.h, 3, none⟩ (.pointer none)).heap[A.h]? = some (.cells #[.pointer (some ⟨A.c, 0, none⟩), .int .i64 0, .pointer none, .pointer none] 31 (0, 0))) := by
            show _ = _
            simpa using block_setCell HVB2.out 3 (.pointer none)
          have HOC3 := Lib.hid HOC3'
          have wc3s : Hid ((wc2.setCell ⟨A.h, 3, none⟩ (.pointer none)).heap.size = wb.heap.size) := by
            show _ = _
            simp [wc2s.out]
          clear HOC3'
          generalize wc2.setCell ⟨A.h, 3, none⟩ (.pointer none) = wc3 at *
          refine wpAnyH_done (by kernel_rfl) ?_ _
          have HHC := Lib.hid (HFIN.out wc3 HOC3.out wc3s.out HVB3.out)
          have HRC := Lib.hid (HRA2.out.op HHC.out)
          have goC : ∀ {a : Nat} {o : Obj}, Bx wa F' a o → Bx wc3 (grow F' wa wc3) a o := fun h => h.op HHC.out.2
          have HD1C := Lib.hid (goC HBA.out.1)
          have HD2C := Lib.hid (goC HBA.out.2.1)
          have HZC3 := Lib.hid (goC HBA.out.2.2.2.1)
          have HRC3 := Lib.hid (goC HBA.out.2.2.2.2)
          clear goC HHC HFIN HOC0 HOC1 HOC2 HOC3 HVB0 HVB1 HVB2 HVB3 HVB wc0s wc1s wc2s wc3s
          have HZB := Lib.hid HZC3.out.2
          have HRB2 := Lib.hid HRC3.out.2
          have z0 := cells_of_block HZB.out 0
          have z1 := cells_of_block HZB.out 1
          simp at z0 z1
          obtain ⟨z0, g0⟩ := z0
          obtain ⟨z1, g1⟩ := z1
          have r0 := (cells_of_block HRB2.out 0).1
          have r1 := (cells_of_block HRB2.out 1).1
          simp at r0 r1
          go_wp2_with fail
          have hbk : ((wc3.setCell ⟨zb, 0, none⟩ (.slice oa8 fn oc8)).setCell ⟨zb, 1, none⟩ (.int .i64 nl)).heap[zb]? = some (.cells #[.slice oa8 fn oc8, .int .i64 nl] 44 (0, 0)) := by
            simpa using block_setCell (block_setCell HZB.out 0 (.slice oa8 fn oc8)) 1 (.int .i64 nl)
          have hrn := (HRC.out.loc (j := 0) (v := .slice oa8 fn oc8) HZW.out HZC3.out.1).loc (j := 1) (v := .int .i64 nl) HZW.out HZC3.out.1
          have n2 : wf.heap.size ≠ zb := fun e => by
            have h1 := HD2C.out.2
            rw [e, HZB.out] at h1
            cases h1
          have n1 : w7.heap.size ≠ zb := fun e => by
            have h1 := HD1C.out.2
            rw [e, HZB.out] at h1
            cases h1
          have n12 : w7.heap.size ≠ wf.heap.size := by
            obtain ⟨-, m1, -, -, -, -, -, -, -, m2⟩ := HNF.out
            omega
          have hk2 : ((wc3.setCell ⟨zb, 0, none⟩ (.slice oa8 fn oc8)).setCell ⟨zb, 1, none⟩ (.int .i64 nl)).heap[wf.heap.size]? = some (.deferred (some [])) := (Below.heap_setCell _ _ _ _ n2).trans ((Below.heap_setCell _ _ _ _ n2).trans HD2C.out.2)
          have hk1 : ((wc3.setCell ⟨zb, 0, none⟩ (.slice oa8 fn oc8)).setCell ⟨zb, 1, none⟩ (.int .i64 nl)).heap[w7.heap.size]? = some (.deferred (some [])) := (Below.heap_setCell _ _ _ _ n1).trans ((Below.heap_setCell _ _ _ _ n1).trans HD1C.out.2)
          generalize (wc3.setCell ⟨zb, 0, none⟩ (.slice oa8 fn oc8)).setCell ⟨zb, 1, none⟩ (.int .i64 nl) = we at *
          have hk1' : (we.putObj wf.heap.size (.deferred none)).heap[w7.heap.size]? = some (.deferred (some [])) := (World.putObj_heap_other n12).trans hk1
          have hbk2 : ((we.putObj wf.heap.size (.deferred none)).putObj w7.heap.size (.deferred none)).heap[zb]? = some (.cells #[.slice oa8 fn oc8, .int .i64 nl] 44 (0, 0)) := (World.putObj_heap_other n1.symm).trans ((World.putObj_heap_other n2.symm).trans hbk)
          have hrf := (hrn.putObj (o := .deferred none) HNF.out.2.2.1 HD2C.out.1).putObj (o := .deferred none) HLW.out HD1C.out.1
          refine ⟨by simp, .inl ⟨_, _, rfl, run_takeDeferred hk2, by simp, .inl ⟨_, _, rfl, run_takeDeferred hk1', ?_⟩⟩⟩
          refine ⟨_, results_blk rfl _ _ zb _ _ _ _ rfl hbk2 Tryz.underlying44 rfl rfl, .slice oa8 fn oc8, fr, S', ?_, ⟨oa8, oc8, by rw [HFN.out]⟩, by rw [← HS1.out]; exact HJX.out, hrf.fin HLT.out⟩
          rw [← HNL.out]
          rfl
end Go.Proofs.YtcdpnfchmpncjaaGreatDoor

namespace Go.Proofs.YtcdpnfchmpncjaaGreatDoor
open Go.RowKit Go.Tr Go.Shelf
variable {w w' : World} {F : Nat → Prop} {A : Ad} {S S1 : HS} {cnt : Nat → Nat} {ct : Nat → Nat → Nat}
def goneS (x : Sl) : Sl := ⟨x.gen, false, 0, 0, false, false⟩
theorem Good.lose1 (h : Good S cnt) {z : Int} (hz : z ∈ S.mine) : Good (lose1 S z) cnt ∧ (∀ ct, Cont S cnt ct → Cont (lose1 S z) cnt ct) ∧ lose1 S z = { S with mine := outL S.mine z, sl := (lose1 S z).sl } ∧ ∀ j : Nat, (lose1 S z).sl[j]? = if (j : Int) = z then (S.sl[j]?).map goneS else S.sl[j]? := by
  obtain ⟨i, x, rfl, hx, hu⟩ := (h.mine z).1 hz
  have e : Go.Proofs.YtcdpnfchmpncjaaGreatDoor.lose1 S (i : Int) = { S with mine := outL S.mine i, sl := S.sl.set i (goneS x) } := by
    unfold Go.Proofs.YtcdpnfchmpncjaaGreatDoor.lose1
    rw [show ((i : Int).toNat) = i from Int.toNat_natCast i, hx]
    rfl
  obtain ⟨h1, h2⟩ := h.lose hx hu
  rw [e]
  refine ⟨h1, h2, rfl, fun j => ?_⟩
  by_cases hj : (j : Int) = (i : Int)
  · have : j = i := by omega
    subst this
    rw [if_pos rfl, hx]
    exact List.getElem?_set_self (List.getElem?_eq_some_iff.1 hx).1
  · rw [if_neg hj]
    exact List.getElem?_set_ne (fun e => hj (by rw [e]))
theorem Good.loseL : ∀ (zs : List Int) {S : HS}, Good S cnt → zs.Nodup → (∀ z ∈ zs, z ∈ S.mine) → Good (loseL S zs) cnt ∧ (∀ ct, Cont S cnt ct → Cont (loseL S zs) cnt ct) ∧ loseL S zs = { S with mine := (loseL S zs).mine, sl := (loseL S zs).sl } ∧
    (∀ z, z ∈ (loseL S zs).mine ↔ z ∈ S.mine ∧ ¬ (z ∈ zs ∧ S.gs.color z = 0)) ∧ ∀ j : Nat, (loseL S zs).sl[j]? = if (j : Int) ∈ zs ∧ S.gs.color j = 0 then (S.sl[j]?).map goneS else S.sl[j]?
  | [], S, h, _, _ => ⟨h, fun ct h => h, rfl, fun z => by simp [Go.Proofs.YtcdpnfchmpncjaaGreatDoor.loseL], fun j => by simp [Go.Proofs.YtcdpnfchmpncjaaGreatDoor.loseL]⟩
  | z :: zs, S, h, hn, hs => by
    obtain ⟨n1, n2⟩ := List.nodup_cons.1 hn
    rw [show Go.Proofs.YtcdpnfchmpncjaaGreatDoor.loseL S (z :: zs) = Go.Proofs.YtcdpnfchmpncjaaGreatDoor.loseL (if S.gs.color z = 0 then Go.Proofs.YtcdpnfchmpncjaaGreatDoor.lose1 S z else S) zs from rfl]
    by_cases hc : S.gs.color z = 0
    · rw [if_pos hc]
      obtain ⟨h1, h2, h3, h4⟩ := h.lose1 (hs z (List.mem_cons_self ..))
      have hm : ∀ y, y ∈ (Go.Proofs.YtcdpnfchmpncjaaGreatDoor.lose1 S z).mine ↔ y ∈ S.mine ∧ y ≠ z := fun y => by rw [h3]; exact mem_outL
      have hg : (Go.Proofs.YtcdpnfchmpncjaaGreatDoor.lose1 S z).gs = S.gs := by rw [h3]
      obtain ⟨k1, k2, k3, k4, k5⟩ := Good.loseL zs h1 n2 (fun y hy => (hm y).2 ⟨hs y (List.mem_cons_of_mem _ hy), fun e => n1 (e ▸ hy)⟩)
      refine ⟨k1, fun ct hct => k2 ct (h2 ct hct), by rw [k3]; simp only; rw [h3], fun y => ?_, fun j => ?_⟩
      · rw [k4, hm, hg, List.mem_cons]
        constructor
        · rintro ⟨⟨e1, e2⟩, e3⟩
          exact ⟨e1, fun e => e.1.elim e2 (fun e4 => e3 ⟨e4, e.2⟩)⟩
        · rintro ⟨e1, e2⟩
          exact ⟨⟨e1, fun e => e2 ⟨Or.inl e, e ▸ hc⟩⟩, fun e => e2 ⟨Or.inr e.1, e.2⟩⟩
      · rw [k5, h4, hg]
        by_cases hj : (j : Int) = z
        · have hnj : ¬ ((j : Int) ∈ zs ∧ S.gs.color j = 0) := fun e => n1 (hj ▸ e.1)
          rw [if_neg hnj, if_pos hj, if_pos ⟨by rw [hj]; exact List.mem_cons_self .., by rw [hj]; exact hc⟩]
        · rw [if_neg hj]
          by_cases hz : (j : Int) ∈ zs ∧ S.gs.color j = 0
          · rw [if_pos hz, if_pos ⟨List.mem_cons_of_mem _ hz.1, hz.2⟩]
          · rw [if_neg hz, if_neg (fun e => hz ⟨(List.mem_cons.1 e.1).resolve_left hj, e.2⟩)]
    · rw [if_neg hc]
      obtain ⟨k1, k2, k3, k4, k5⟩ := Good.loseL zs h n2 (fun y hy => hs y (List.mem_cons_of_mem _ hy))
      refine ⟨k1, k2, k3, fun y => ?_, fun j => ?_⟩
      · rw [k4, List.mem_cons]
        constructor
        · rintro ⟨e1, e2⟩
          exact ⟨e1, fun e => e.1.elim (fun e4 => hc (e4 ▸ e.2)) (fun e4 => e2 ⟨e4, e.2⟩)⟩
        · rintro ⟨e1, e2⟩
          exact ⟨e1, fun e => e2 ⟨Or.inr e.1, e.2⟩⟩
      · rw [k5]
        by_cases hz : (j : Int) ∈ zs ∧ S.gs.color j = 0
        · rw [if_pos hz, if_pos ⟨List.mem_cons_of_mem _ hz.1, hz.2⟩]
        · have hz2 : ¬ ((j : Int) ∈ z :: zs ∧ S.gs.color j = 0) := fun e => (List.mem_cons.1 e.1).elim (fun e4 => hc (by rw [← e4]; exact e.2)) (fun e4 => hz ⟨e4, e.2⟩)
          rw [if_neg hz, if_neg hz2]
def cntI (cnt : Nat → Nat) (z : Int) : Nat := cnt z.toNat
def stayL (S : HS) (cnt : Nat → Nat) : List Int := S.mine.flatMap (stayC S (cntI cnt))
theorem Good.mem_stayL (h : Good S cnt) (c : Int) : c ∈ stayL S cnt ↔ ∃ (i : Nat) (x : Sl) (k : Nat), S.sl[i]? = some x ∧ x.used = true ∧ c = (k : Int) ∧ x.addr / S.Wd ≤ k ∧ k ≤ (x.addr + S.L.size (cnt i)) / S.Wd := by
  unfold stayL
  rw [List.mem_flatMap]
  constructor
  · rintro ⟨z, hz, hc⟩
    obtain ⟨i, x, rfl, hx, hu⟩ := (h.mine z).1 hz
    unfold stayC cntI at hc
    rw [show ((i : Int).toNat) = i from Int.toNat_natCast i, hx] at hc
    obtain ⟨j, hj, rfl⟩ := List.mem_map.1 hc
    have := List.mem_range.1 hj
    exact ⟨i, x, _, hx, hu, rfl, by omega, by have := Nat.div_le_div_right (c := S.Wd) (show x.addr ≤ x.addr + S.L.size (cnt i) by omega); omega⟩
  · rintro ⟨i, x, k, hx, hu, rfl, h1, h2⟩
    refine ⟨(i : Int), (h.mine _).2 ⟨i, x, rfl, hx, hu⟩, ?_⟩
    unfold stayC cntI
    rw [show ((i : Int).toNat) = i from Int.toNat_natCast i, hx]
    exact List.mem_map.2 ⟨k - x.addr / S.Wd, List.mem_range.2 (by omega), by congr 1; omega⟩
def keepP (cs stay : List Int) (p : Nat × Nat) : Bool := !(decide ((p.1 : Int) ∈ cs) && !decide ((p.1 : Int) ∈ stay))
structure FinG (S1 : HS) (cnt : Nat → Nat) (k : Nat) (S' : HS) (fr : List Int) : Prop where
  good : Good S' cnt
  cont : ∀ ct, Cont S1 cnt ct → Cont S' cnt ct
  same : S' = { S1 with ps := S'.ps, a := S'.a, en := S'.en, own := S'.own }
  ps : S'.ps = S1.ps.filter (keepP ((chunksL S1.ps).take k) (stayL S1 cnt))
  fr : fr = ((chunksL S1.ps).take k).filter (fun c => !decide (c ∈ stayL S1 cnt))
theorem filter_all {α : Type} {f : α → Bool} : ∀ {l : List α}, (∀ x ∈ l, f x = true) → l.filter f = l := fun h => List.filter_eq_self.2 h
theorem findPart_some {ps : List (Nat × Nat)} {c : Nat} {p : Nat × Nat} (h : findPart ps c = some p) : p ∈ ps ∧ p.1 = c := by
  unfold findPart at h
  exact ⟨List.mem_of_find?_eq_some h, by simpa using List.find?_some h⟩
theorem FinG.fin (hg : Good S1 cnt) (hon : S1.on = true) : FinJ (FinG S1 cnt) (chunksL S1.ps) (stayL S1 cnt) := by
  intro k S fr c hJ hc
  have ht := take_snoc hc
  have hcm : c ∈ chunksL S1.ps := List.mem_of_getElem? hc
  obtain ⟨p0, hp0, q, rfl, hq1, hq2⟩ := mem_chunksL.1 hcm
  have hon' : S.on = true := by rw [hJ.same]; exact hon
  have hsub : ∀ p ∈ S.ps, p ∈ S1.ps := fun p hp => by rw [hJ.ps] at hp; exact (List.mem_filter.1 hp).1
  by_cases hs : (q : Int) ∈ stayL S1 cnt
  · refine Or.inl ⟨hs, hJ.good, hJ.cont, hJ.same, ?_, ?_⟩
    · rw [hJ.ps, ht]
      refine List.filter_congr fun p hp => ?_
      unfold keepP
      by_cases e : (p.1 : Int) = (q : Int)
      · simp [e, hs]
      · simp [e]
    · rw [hJ.fr, ht, List.filter_append]
      simp [hs]
  · refine Or.inr ⟨hs, q, ?_⟩
    have hfr : fr ++ [(q : Int)] = ((chunksL S1.ps).take (k + 1)).filter (fun c => !decide (c ∈ stayL S1 cnt)) := by
      rw [hJ.fr, ht, List.filter_append]
      simp [hs]
    have hlen : S.ps.length ≤ 100000 := by have := hJ.good.ps_len; omega
    cases hf : findPart S.ps q with
    | none =>
      refine ⟨S, rfl, ⟨hlen, Or.inr ⟨hf, rfl⟩⟩, hJ.good, hJ.cont, hJ.same, ?_, hfr⟩
      rw [hJ.ps, ht]
      refine List.filter_congr fun p hp => ?_
      by_cases e : p.1 = q
      · have h1 : keepP ((chunksL S1.ps).take k) (stayL S1 cnt) p = false := by
          refine Bool.eq_false_iff.2 fun h1 => ?_
          have h2 : p ∈ S.ps := by rw [hJ.ps]; exact List.mem_filter.2 ⟨hp, h1⟩
          unfold findPart at hf
          have := List.find?_eq_none.1 hf p h2
          simp [e] at this
        rw [h1]
        symm
        unfold keepP
        simp [e, hs]
      · unfold keepP
        have : ¬ (p.1 : Int) = (q : Int) := by omega
        simp [this]
    | some p =>
      obtain ⟨hp, hpq⟩ := findPart_some hf
      obtain ⟨p1, m⟩ := p
      simp only at hpq
      subst hpq
      obtain ⟨hm1, hmC, hown⟩ := hJ.good.parts _ (ps_sub S _ hp)
      simp only at hm1 hmC hown
      have hno : ∀ i a n, ObjIn S cnt i a n → a + n ≤ p1 * S.Wd ∨ (p1 + m) * S.Wd ≤ a := fun i a n ho => by
        obtain ⟨x, hx, hu, rfl, rfl⟩ := ho
        have hx1 : S1.sl[i]? = some x := by rw [hJ.same] at hx; exact hx
        have hL : S.L = S1.L := by rw [hJ.same]
        have hW : S.Wd = S1.Wd := by rw [hJ.same]
        obtain ⟨r, hr, h1, h2, h3⟩ := (hJ.good.ent i x hx hu).ap
        have hne : r ≠ (p1, m) := fun e => by
          subst e
          simp only at h1 h2 h3
          refine hs ((hg.mem_stayL _).2 ⟨i, x, p1, hx1, hu, rfl, ?_⟩)
          rw [← hW, ← hL]
          have hw := hJ.good.wd.1
          have e1 : p1 ≤ x.addr / S.Wd := (Nat.le_div_iff_mul_le hw).2 h1
          have e2 : x.addr / S.Wd ≤ (x.addr + S.L.size (cnt i)) / S.Wd := Nat.div_le_div_right (by omega)
          rcases h3 with h3 | h3
          · subst h3
            have e3 : x.addr / S.Wd < p1 + 1 := (Nat.div_lt_iff_lt_mul hw).2 (by omega)
            omega
          · have e3 : x.addr / S.Wd = p1 := by rw [h3]; exact Nat.mul_div_cancel _ hw
            omega
        have hap := pairwise_mem (fun x y => PApart.symm) hJ.good.pap _ hr _ (ps_sub S _ hp) hne
        rcases hap with hap | hap
        · have := Nat.mul_le_mul_right S.Wd hap; simp only at this; omega
        · have := Nat.mul_le_mul_right S.Wd hap; simp only at this; omega
      obtain ⟨g1, g2⟩ := hJ.good.dropPart hp hno
      refine ⟨dropS S p1 m, rfl, ⟨hlen, Or.inl ⟨m, hf, hmC, fun i h1 h2 => by rw [hown i h1 h2]; decide, rfl⟩⟩, g1, fun ct hct => g2 ct (hJ.cont ct hct), ?_, ?_, hfr⟩
      · unfold dropS
        simp only
        rw [hJ.same]
      · have hnd : S.ps.Nodup := hJ.good.pap1.imp_of_mem (fun {p r} hp' hq hpq e => by
          subst e
          have := (hJ.good.parts p (ps_sub S _ hp')).1
          unfold PApart at hpq
          omega)
        show S.ps.erase (p1, m) = _
        rw [hnd.erase_eq_filter, hJ.ps, List.filter_filter, ht]
        refine List.filter_congr fun r hr => ?_
        by_cases e : r = (p1, m)
        · subst e
          unfold keepP
          simp [hs]
        · have hne : ¬ (r.1 : Int) = (p1 : Int) := fun e2 => by
            have hap := pairwise_mem (fun x y => PApart.symm) hg.pap _ (ps_sub S1 _ hr) _ (ps_sub S1 _ (hsub _ hp)) e
            have h1 := (hg.parts r (ps_sub S1 _ hr)).1
            have h2 : r.1 = p1 := by omega
            unfold PApart at hap
            simp only at hap
            omega
          unfold keepP
          simp [e, hne]
structure FinR (S : HS) (cnt : Nat → Nat) (S3 : HS) (fr : List Int) : Prop where
  good : Good S3 cnt
  cont : ∀ ct, Cont S cnt ct → Cont S3 cnt ct
  on : S3.on = false
  fix : S3.C = S.C ∧ S3.Wd = S.Wd ∧ S3.K = S.K ∧ S3.L = S.L
  mine : ∀ z, z ∈ S3.mine ↔ z ∈ S.mine ∧ ¬ S.gs.color z = 0
  sl : ∀ j : Nat, S3.sl[j]? = if (j : Int) ∈ S.mine ∧ S.gs.color j = 0 then (S.sl[j]?).map goneS else S.sl[j]?
  ps : ∃ stay : List Int, S3.ps = S.ps.filter (fun p => decide ((p.1 : Int) ∈ stay)) ++ S.ps2 ∧ fr = (chunksL S.ps).filter (fun c => !decide (c ∈ stay)) ∧ ∀ c : Int, c ∈ stay ↔ ∃ (i : Nat) (x : Sl) (k : Nat), S3.sl[i]? = some x ∧ x.used = true ∧ c = (k : Int) ∧ x.addr / S.Wd ≤ k ∧ k ≤ (x.addr + S.L.size (cnt i)) / S.Wd
theorem efinish_good (w : World) (h : HeapF w F A S) (hg : Good S cnt) (hon : S.on = true) (hw : S.gs.wait = 0) (hgen : ∀ (i : Nat) (x : Sl), S.sl[i]? = some x → x.used = true → x.gen < 255) :
    Calls Tryz.prog 29 #[.pointer (some ⟨A.h, 0, none⟩)] w fun e w' => ∃ v fr S3, e = .returned (.tuple #[.agg #[v, .int .i64 ((S.mine.filter (whiteB S)).length : Nat)], .int .i64 0]) ∧ (∃ a c, v = .slice a fr.length c) ∧ FinR S cnt S3 fr ∧ HeapF w' (grow F w w') A S3 ∧ Only F w w' := by
  have hnd : S.mine.Nodup := hg.rise.imp (fun h e => by omega)
  obtain ⟨k1, k2, k3, k4, k5⟩ := Good.loseL S.mine hg hnd (fun z hz => hz)
  obtain ⟨S1, hS1⟩ : ∃ S1, S1 = loseL S S.mine := ⟨_, rfl⟩
  have hml := hg.mine_len
  have hps : S1.ps = S.ps := by rw [hS1, k3]
  rw [← hS1] at k1 k2 k3 k4 k5
  have hon1 : S1.on = true := by rw [k3]; exact hon
  refine (efin1_any (J := FinG S1 cnt) (cntI cnt) w h hon hw (by omega) hnd (fun z hz => ?_) (fun z hz => ?_) ?_ ?_ ?_ ?_).mono ?_
  · obtain ⟨i, x, rfl, hx, hu⟩ := (hg.mine z).1 hz
    exact ⟨i, x, rfl, hx, hu, (hg.ent i x hx hu).reg, hgen i x hx hu⟩
  · rw [← hS1] at hz ⊢
    obtain ⟨i, x, rfl, hx, hu⟩ := (k1.mine z).1 hz
    exact ⟨i, x, rfl, k1.objOk hx hu⟩
  · rw [← hS1]; exact k1.spOk
  · rw [← hS1]; exact FinG.fin k1 hon1
  · rw [← hS1]
    refine ⟨k1, fun ct h => h, rfl, ?_, rfl⟩
    rw [filter_all]
    intro p _
    simp [keepP]
  · rw [← hS1]
    intro S' fr hJ
    have hon' : S'.on = true := by rw [hJ.same]; exact hon1
    have h1 := hJ.good.all_len.1
    unfold HS.all at h1
    rw [if_pos hon', List.length_append] at h1
    exact ⟨hon', by omega, fun p hp => (hJ.good.parts p (ps2_sub hon' p hp)).2⟩
  · rintro e w' ⟨v, fr, S', rfl, hv, hJ, h1, h2⟩
    rw [← hS1] at hJ
    have hon' : S'.on = true := by rw [hJ.same]; exact hon1
    obtain ⟨j1, j2⟩ := hJ.good.join hon'
    have hfix : S'.C = S.C ∧ S'.Wd = S.Wd ∧ S'.K = S.K ∧ S'.L = S.L ∧ S'.mine = S1.mine ∧ S'.sl = S1.sl ∧ S'.ps2 = S.ps2 := by
      rw [hJ.same, k3]; exact ⟨rfl, rfl, rfl, rfl, rfl, rfl, rfl⟩
    obtain ⟨f1, f2, f3, f4, f5, f6, f7⟩ := hfix
    refine ⟨v, fr, endS S', rfl, hv, ⟨j1, fun ct hct => j2 ct (hJ.cont ct (k2 ct hct)), rfl, ⟨f1, f2, f3, f4⟩, fun z => ?_, fun j => ?_, stayL S1 cnt, ?_, ?_, fun c => ?_⟩, h1, h2⟩
    · show z ∈ S'.mine ↔ _
      rw [f5, k4]
      exact ⟨fun ⟨e1, e2⟩ => ⟨e1, fun e => e2 ⟨e1, e⟩⟩, fun ⟨e1, e2⟩ => ⟨e1, fun e => e2 e.2⟩⟩
    · show S'.sl[j]? = _
      rw [f6]; exact k5 j
    · show S'.ps ++ S'.ps2 = _
      rw [f7, hJ.ps, hps, List.take_length]
      congr 1
      refine List.filter_congr fun p hp => ?_
      have : (p.1 : Int) ∈ chunksL S.ps := mem_chunksL.2 ⟨p, hp, p.1, rfl, Nat.le_refl _, by have := (hg.parts p (ps_sub S _ hp)).1; omega⟩
      unfold keepP
      simp [this]
    · rw [hJ.fr, hps, List.take_length]
    · rw [k1.mem_stayL]
      show _ ↔ ∃ (i : Nat) (x : Sl) (k : Nat), S'.sl[i]? = some x ∧ _
      rw [f6]
      have e1 : S1.Wd = S.Wd := by rw [k3]
      have e2 : S1.L = S.L := by rw [k3]
      rw [e1, e2]
end Go.Proofs.YtcdpnfchmpncjaaGreatDoor

namespace Go.Tr
def lv (S : GS) (q : List (Int × Int)) : List Int := (q.filter fun p => decide (S.at p.1 = (1, p.2))).map (·.1)
structure Rep (S : GS) (wl bl : List Int) : Prop where
  turn : ∀ p ∈ S.q, p.2 ≤ S.last
  once : S.q.Pairwise (fun p p' => p.2 ≠ p'.2)
  gray : ∀ x n, S.at x = (1, n) → (x, n) ∈ S.q
  live : lv S S.q = wl
  cnt : S.wait = wl.length
  black : ∀ y, S.color y = 2 ↔ y ∈ bl
  three : ∀ y, S.color y = 0 ∨ S.color y = 1 ∨ S.color y = 2
theorem mem_lv {S : GS} {q : List (Int × Int)} {y : Int} : y ∈ lv S q ↔ ∃ n, (y, n) ∈ q ∧ S.at y = (1, n) := by
  unfold lv
  simp only [List.mem_map, List.mem_filter, decide_eq_true_eq]
  constructor
  · rintro ⟨⟨a, n⟩, ⟨h1, h2⟩, rfl⟩; exact ⟨n, h1, h2⟩
  · rintro ⟨n, h1, h2⟩; exact ⟨(y, n), ⟨h1, h2⟩, rfl⟩
theorem Rep.gray_iff {S : GS} {wl bl : List Int} (h : Rep S wl bl) (y : Int) : S.color y = 1 ↔ y ∈ wl := by
  rw [← h.live, mem_lv]
  constructor
  · intro hc
    have : S.at y = (1, (S.at y).2) := by rw [← hc]; rfl
    exact ⟨_, h.gray y _ this, this⟩
  · rintro ⟨n, _, h2⟩; unfold GS.color; rw [h2]
theorem Rep.white_iff {S : GS} {wl bl : List Int} (h : Rep S wl bl) (y : Int) : S.color y = 0 ↔ y ∉ wl ∧ y ∉ bl := by
  rw [← h.gray_iff, ← h.black]
  rcases h.three y with h' | h' | h' <;> simp [h']
theorem lv_nodup {S : GS} {q : List (Int × Int)} (h : q.Pairwise (fun p p' => p.2 ≠ p'.2)) : (lv S q).Nodup := by
  unfold lv List.Nodup
  rw [List.pairwise_map]
  refine (h.filter _).imp_of_mem ?_
  intro p p' hp hp' hne e
  simp only [List.mem_filter, decide_eq_true_eq] at hp hp'
  have h1 := hp.2
  rw [e, hp'.2] at h1
  exact hne (by simpa using congrArg Prod.snd h1.symm)
theorem Rep.nodup {S : GS} {wl bl : List Int} (h : Rep S wl bl) : wl.Nodup := by rw [← h.live]; exact lv_nodup h.once
theorem Rep.apart {S : GS} {wl bl : List Int} (h : Rep S wl bl) {y : Int} (h1 : y ∈ wl) (h2 : y ∈ bl) : False := by
  have a := (h.gray_iff y).2 h1
  have b := (h.black y).2 h2
  omega
theorem Rep.mono {S : GS} {wl bl bl' : List Int} (h : Rep S wl bl) (hb : ∀ y, y ∈ bl ↔ y ∈ bl') : Rep S wl bl' := ⟨h.turn, h.once, h.gray, h.live, h.cnt, fun y => (h.black y).trans (hb y), h.three⟩
theorem Rep.new : Rep GS.new [] [] := by
  refine ⟨by simp [GS.new], by simp [GS.new], ?_, rfl, rfl, ?_, ?_⟩ <;> simp [GS.at, GS.new, lookA, GS.color]
theorem at_put (tab : List (Int × (Int × Int))) (q : List (Int × Int)) (l w : Int) (x y : Int) (v : Int × Int) : (GS.mk (putA tab x v) q l w).at y = if y = x then v else (lookA tab y).getD (0, 0) := by
  unfold GS.at
  by_cases h : y = x
  · subst h; rw [if_pos rfl, lookA_put_same]; rfl
  · rw [if_neg h, lookA_put_other _ _ h]
theorem at_enter (S : GS) (x y : Int) : (S.enter x).at y = if y = x then (1, S.last + 1) else S.at y := at_put _ _ _ _ _ _ _
theorem color_enter (S : GS) (x y : Int) : (S.enter x).color y = if y = x then 1 else S.color y := by unfold GS.color; rw [at_enter]; split <;> rfl
theorem at_paint {S : GS} {x : Int} (h : S.color x ≠ 2) (y : Int) : (S.paint x).at y = if y = x then (2, 0) else S.at y := by
  unfold GS.paint; rw [if_neg h]; exact at_put _ _ _ _ _ _ _
theorem color_paint {S : GS} {x : Int} (h : S.color x ≠ 2) (y : Int) : (S.paint x).color y = if y = x then 2 else S.color y := by unfold GS.color; rw [at_paint h]; split <;> rfl
theorem lv_append (S : GS) (q q' : List (Int × Int)) : lv S (q ++ q') = lv S q ++ lv S q' := by simp [lv]
theorem lv_congr {S S' : GS} {q : List (Int × Int)} (h : ∀ p ∈ q, S.at p.1 = (1, p.2) ↔ S'.at p.1 = (1, p.2)) : lv S q = lv S' q := by
  unfold lv
  congr 1
  exact List.filter_congr (fun p hp => by simp only [decide_eq_decide]; exact h p hp)
theorem Rep.enter {S : GS} {wl bl : List Int} (h : Rep S wl bl) {x : Int} (hx : x ∉ wl) : Rep (S.enter x) (wl ++ [x]) (bl.filter (· != x)) := by
  have hc : S.color x ≠ 1 := fun e => hx ((h.gray_iff x).1 e)
  refine ⟨?_, ?_, ?_, ?_, ?_, ?_, ?_⟩
  · intro p hp
    rcases List.mem_append.1 hp with hp | hp
    · have := h.turn p hp; show p.2 ≤ S.last + 1; omega
    · simp at hp; subst hp; exact Int.le_refl _
  · show (S.q ++ [(x, S.last + 1)]).Pairwise _
    rw [List.pairwise_append]
    refine ⟨h.once, by simp, fun p hp p' hp' e => ?_⟩
    simp at hp'; subst hp'
    have := h.turn p hp
    simp at e; omega
  · intro y n hy
    rw [at_enter] at hy
    show (y, n) ∈ S.q ++ [(x, S.last + 1)]
    split at hy
    · rename_i e; subst e; cases hy; simp
    · exact List.mem_append_left _ (h.gray y n hy)
  · show lv (S.enter x) (S.q ++ [(x, S.last + 1)]) = wl ++ [x]
    rw [lv_append]
    congr 1
    · rw [← h.live]
      refine lv_congr (fun p hp => ?_)
      rw [at_enter]
      split
      · rename_i e
        have := h.turn p hp
        constructor
        · intro e2; have := congrArg Prod.snd e2; simp at this; omega
        · intro e2; exfalso; apply hc; rw [← e]; unfold GS.color; rw [e2]
      · exact Iff.rfl
    · simp [lv, at_enter]
  · show S.wait + 1 = _
    rw [h.cnt]; simp
  · intro y
    rw [color_enter]
    split
    · rename_i e; subst e; simp
    · rename_i e; rw [h.black]; simp [e]
  · intro y
    rw [color_enter]
    split
    · simp
    · exact h.three y
theorem Rep.put1 {S : GS} {wl bl : List Int} (h : Rep S wl bl) (x : Int) : Rep (S.put1 x) (if x ∈ wl ∨ x ∈ bl then wl else wl ++ [x]) bl := by
  unfold GS.put1
  by_cases hc : S.color x = 0
  · obtain ⟨h1, h2⟩ := (h.white_iff x).1 hc
    rw [if_pos hc, if_neg (by simp [h1, h2])]
    exact (h.enter h1).mono (fun y => by simp; exact fun hy e => h2 (e ▸ hy))
  · rw [if_neg hc, if_pos (by rw [h.white_iff] at hc; by_cases h1 : x ∈ wl <;> simp_all)]
    exact h
theorem filter_ne_length {l : List Int} (h : l.Nodup) {x : Int} (hx : x ∈ l) : ((l.filter (· != x)).length : Int) = l.length - 1 := by
  rw [← h.erase_eq_filter, List.length_erase_of_mem hx]
  have := List.length_pos_of_mem hx
  omega
theorem lv_paint {S : GS} {x : Int} (h : S.color x ≠ 2) (q : List (Int × Int)) : lv (S.paint x) q = (lv S q).filter (· != x) := by
  unfold lv
  rw [List.filter_map, List.filter_filter]
  congr 1
  refine List.filter_congr (fun p hp => ?_)
  rw [at_paint h]
  by_cases e : p.1 = x <;> simp [e, Function.comp_def]
theorem Rep.paint {S : GS} {wl bl : List Int} (h : Rep S wl bl) {x : Int} (hx : x ∉ bl) : Rep (S.paint x) (wl.filter (· != x)) (bl ++ [x]) := by
  have hc : S.color x ≠ 2 := fun e => hx ((h.black x).1 e)
  have hq : (S.paint x).q = S.q := by unfold GS.paint; rw [if_neg hc]
  have hl : (S.paint x).last = S.last := by unfold GS.paint; rw [if_neg hc]
  refine ⟨by rw [hq, hl]; exact h.turn, by rw [hq]; exact h.once, ?_, ?_, ?_, ?_, ?_⟩
  · intro y n hy
    rw [at_paint hc] at hy
    rw [hq]
    split at hy
    · cases hy
    · exact h.gray y n hy
  · rw [hq, lv_paint hc, h.live]
  · have hw : (S.paint x).wait = if S.color x = 1 then S.wait - 1 else S.wait := by unfold GS.paint; rw [if_neg hc]
    rw [hw, h.cnt]
    by_cases h1 : x ∈ wl
    · rw [if_pos ((h.gray_iff x).2 h1), filter_ne_length h.nodup h1]
    · rw [if_neg (fun e => h1 ((h.gray_iff x).1 e)), List.filter_eq_self.2 (fun y hy => by simp; exact fun e => h1 (e ▸ hy))]
  · intro y
    rw [color_paint hc]
    split
    · rename_i e; simp [e]
    · rename_i e; rw [h.black]; simp [e]
  · intro y
    rw [color_paint hc]
    split
    · simp
    · exact h.three y
theorem Rep.paint_old {S : GS} {wl bl : List Int} (h : Rep S wl bl) {x : Int} (hx : x ∈ bl) : S.paint x = S := by unfold GS.paint; rw [if_pos ((h.black x).2 hx)]
theorem nextQ_none {S : GS} : ∀ {q : List (Int × Int)}, lv S q = [] → nextQ S q = (none, { S with q := [] })
  | [], _ => rfl
  | (x, n) :: r, h => by
    have hn : S.at x ≠ (1, n) := fun e => by simp [lv, e] at h
    rw [nextQ, if_neg hn]
    exact nextQ_none (by simpa [lv, hn] using h)
theorem nextQ_some {S : GS} {x : Int} {t : List Int} : ∀ {q : List (Int × Int)}, lv S q = x :: t → ∃ n r p, nextQ S q = (some x, ({ S with q := r } : GS).paint x) ∧ S.at x = (1, n) ∧ lv S r = t ∧ q = p ++ (x, n) :: r ∧ lv S p = []
  | [], h => by simp [lv] at h
  | (y, n) :: r, h => by
    by_cases hn : S.at y = (1, n)
    · have h2 : y = x ∧ lv S r = t := by simpa [lv, hn] using h
      obtain ⟨rfl, h2⟩ := h2
      exact ⟨n, r, [], by rw [nextQ, if_pos hn], hn, h2, rfl, rfl⟩
    · obtain ⟨m, r', p, h1, h2, h3, h4, h5⟩ := nextQ_some (q := r) (by simpa [lv, hn] using h)
      refine ⟨m, r', (y, n) :: p, by rw [nextQ, if_neg hn, h1], h2, h3, by rw [h4]; rfl, by simpa [lv, hn] using h5⟩
theorem Rep.next_none {S : GS} {bl : List Int} (h : Rep S [] bl) : S.next.1 = none ∧ Rep S.next.2 [] bl := by
  have he : S.next = (none, { S with q := [] }) := nextQ_none h.live
  rw [he]
  refine ⟨rfl, ⟨by simp, by simp, ?_, by simp [lv], h.cnt, h.black, h.three⟩⟩
  intro x n hx
  have : S.color x = 1 := by have : S.at x = (1, n) := hx; unfold GS.color; rw [this]
  rw [h.gray_iff] at this
  cases this
theorem Rep.next_some {S : GS} {x : Int} {t bl : List Int} (h : Rep S (x :: t) bl) : S.next.1 = some x ∧ Rep S.next.2 t (bl ++ [x]) := by
  obtain ⟨n, r, p, h1, h2, h3, h4, h5⟩ := nextQ_some h.live
  have he : S.next = (some x, ({ S with q := r } : GS).paint x) := h1
  have hnd := h.nodup
  have hc1 : S.color x = 1 := by unfold GS.color; rw [h2]
  rw [he]
  refine ⟨rfl, ?_⟩
  have hc : ({ S with q := r } : GS).color x ≠ 2 := by show S.color x ≠ 2; omega
  have hp : (({ S with q := r } : GS).paint x) = { S with q := r, tab := putA S.tab x (2, 0), wait := S.wait - 1 } := by
    have : ({ S with q := r } : GS).color x = 1 := hc1
    unfold GS.paint; rw [if_neg hc, if_pos this]
  have hat : ∀ y, (({ S with q := r } : GS).paint x).at y = if y = x then (2, 0) else S.at y := fun y => at_paint hc y
  have hco : ∀ y, (({ S with q := r } : GS).paint x).color y = if y = x then 2 else S.color y := fun y => color_paint hc y
  have hxt : x ∉ t := (List.nodup_cons.1 hnd).1
  refine ⟨?_, ?_, ?_, ?_, ?_, ?_, ?_⟩
  · rw [hp]; intro p' hp'; exact h.turn p' (by rw [h4]; simp; exact Or.inr (Or.inr hp'))
  · rw [hp]
    have := h.once
    rw [h4, List.pairwise_append] at this
    exact (List.pairwise_cons.1 this.2.1).2
  · intro y m hy
    rw [hat] at hy
    rw [hp]
    split at hy
    · cases hy
    · rename_i hne
      have h6 := h.gray y m hy
      rw [h4] at h6
      rcases List.mem_append.1 h6 with h6 | h6
      · have : y ∈ lv S p := mem_lv.2 ⟨m, h6, hy⟩
        rw [h5] at this; cases this
      · rcases List.mem_cons.1 h6 with h6 | h6
        · cases h6; exact absurd rfl hne
        · exact h6
  · rw [show (({ S with q := r } : GS).paint x).q = r by rw [hp], lv_paint hc]
    show (lv S r).filter _ = t
    rw [h3]
    exact List.filter_eq_self.2 (fun y hy => by simp; exact fun e => hxt (e ▸ hy))
  · rw [hp]
    have := h.cnt
    simp at this ⊢
    omega
  · intro y
    rw [hco]
    split
    · rename_i e; simp [e]
    · rename_i e; rw [h.black]; simp [e]
  · intro y
    rw [hco]
    split
    · simp
    · exact h.three y
theorem Small_paint {S : GS} {N : Int} (h : S.Small N) (x : Int) : (S.paint x).Small (N + 1) := by
  obtain ⟨h1, h2, h3, h4, h5⟩ := h
  unfold GS.paint
  split
  · exact ⟨h1, by omega, by omega, by omega, by omega⟩
  · refine ⟨h1, ?_, ?_, ?_, ?_⟩ <;> simp only [] <;> (try split) <;> omega
theorem Small_next {S : GS} {N : Int} (h : S.Small N) : S.next.2.Small (N + 1) := by
  have : ∀ q : List (Int × Int), (q.length : Int) ≤ N → (nextQ S q).2.Small (N + 1) := by
    intro q
    induction q with
    | nil => intro _; obtain ⟨h1, h2, h3, h4, h5⟩ := h; exact ⟨h1, by show S.last ≤ _; omega, by show _ ≤ S.wait; omega, by show S.wait ≤ _; omega, by show ((0 : Nat) : Int) ≤ N + 1; omega⟩
    | cons p r ih =>
      obtain ⟨x, n⟩ := p
      intro hq
      simp at hq
      rw [nextQ]
      split
      · exact Small_paint (S := { S with q := r }) ⟨h.1, h.2.1, h.2.2.1, h.2.2.2.1, by show (r.length : Int) ≤ N; omega⟩ x
      · exact ih (by omega)
  exact this S.q h.2.2.2.2
def putW (bl : List Int) (wl : List Int) (xs : List Int) : List Int := xs.foldl (fun l x => if x ∈ l ∨ x ∈ bl then l else l ++ [x]) wl
theorem Rep.put : ∀ (xs : List Int) {S : GS} {wl bl : List Int}, Rep S wl bl → Rep (S.put xs) (putW bl wl xs) bl
  | [], _, _, _, h => h
  | x :: r, S, wl, bl, h => by
    have := Rep.put r (h.put1 x)
    simpa [GS.put, putW] using this
end Go.Tr

namespace Go.Proofs.YtcdpnfchmpncjaaGreatDoor
open Go.RowKit Go.Tr Go.Shelf
variable {S S1 : HS} {cnt : Nat → Nat} {ct : Nat → Nat → Nat} {o : Nat → Nat → Option (Nat × Nat)}
def Linked (S : HS) (cnt : Nat → Nat) (ct : Nat → Nat → Nat) (o : Nat → Nat → Option (Nat × Nat)) : Prop := ∀ (i : Nat) (x : Sl), S.sl[i]? = some x → x.used = true → ∀ p ∈ slotsL S.L (cnt i), LkOk (o i p) ∧ ct i p = lkN (o i p) ∧ ∀ j g, o i p = some (j, g) → ∃ y : Sl, S.sl[j]? = some y ∧ y.used = true
theorem MovedSt.slot {i n : Nat} {x : Sl} {S2 : HS} (hm : MovedSt S i x n S2) (hx : S.sl[i]? = some x) {j : Nat} {y : Sl} (hy : S.sl[j]? = some y) : ∃ y2 : Sl, S2.sl[j]? = some y2 ∧ y2.used = y.used ∧ y2.gen = y.gen ∧ y2.held = y.held := by
  rcases hm with ⟨-, rfl⟩ | ⟨-, ad, S1, ha, rfl⟩
  · exact ⟨y, hy, rfl, rfl, rfl⟩
  · obtain ⟨-, -, -, -, e5, -⟩ := ha.same
    by_cases hj : j = i
    · subst hj
      rw [hx] at hy
      cases hy
      exact ⟨_, List.getElem?_set_self (by rw [e5]; exact (List.getElem?_eq_some_iff.1 hx).1), rfl, rfl, rfl⟩
    · refine ⟨y, ?_, rfl, rfl, rfl⟩
      show (S1.sl.set i _)[j]? = _
      rw [List.getElem?_set_ne (fun e => hj e.symm), e5]
      exact hy
theorem MovedSt.back {i n : Nat} {x : Sl} {S2 : HS} (hm : MovedSt S i x n S2) (hx : S.sl[i]? = some x) {j : Nat} {y2 : Sl} (hy : S2.sl[j]? = some y2) : ∃ y : Sl, S.sl[j]? = some y ∧ y2.used = y.used ∧ y2.gen = y.gen ∧ y2.held = y.held := by
  rcases hm with ⟨-, rfl⟩ | ⟨-, ad, S1, ha, rfl⟩
  · exact ⟨y2, hy, rfl, rfl, rfl⟩
  · obtain ⟨-, -, -, -, e5, -⟩ := ha.same
    have hy' : (S1.sl.set i ⟨x.gen, x.used, ad, x.region, x.held, x.pinned⟩)[j]? = some y2 := hy
    by_cases hj : j = i
    · subst hj
      rw [List.getElem?_set_self (by rw [e5]; exact (List.getElem?_eq_some_iff.1 hx).1)] at hy'
      cases hy'
      exact ⟨x, hx, rfl, rfl, rfl⟩
    · rw [List.getElem?_set_ne (fun e => hj e.symm), e5] at hy'
      exact ⟨y2, hy', rfl, rfl, rfl⟩
theorem Linked.moved {i n : Nat} {x : Sl} {S2 : HS} (h : Linked S cnt ct o) (hm : MovedSt S i x n S2) (hx : S.sl[i]? = some x) : Linked S2 cnt ct o := fun j y2 hy hu p hp => by
  obtain ⟨y, hy1, hu1, -⟩ := hm.back hx hy
  have hL : S2.L = S.L := hm.same.2.2.2.1
  rw [hL] at hp
  obtain ⟨h1, h2, h3⟩ := h j y hy1 (hu1 ▸ hu) p hp
  refine ⟨h1, h2, fun k g e => ?_⟩
  obtain ⟨z, hz, hzu⟩ := h3 k g e
  obtain ⟨z2, k1, k2, -⟩ := hm.slot hx hz
  exact ⟨z2, k1, k2.trans hzu⟩
theorem mem_tgt {L : Lay} {count : Nat} {q : Nat → Option (Nat × Nat)} {z : Int} : z ∈ tgt (refsL L count q) ↔ ∃ p ∈ slotsL L count, ∃ j g, q p = some (j, g) ∧ z = (j : Nat) := by
  unfold tgt refsL
  rw [List.mem_filterMap]
  constructor
  · rintro ⟨⟨p, r⟩, hp, hz⟩
    obtain ⟨p', hp', e⟩ := List.mem_map.1 hp
    cases e
    simp only at hz
    cases hq : q p with
    | none => rw [hq] at hz; cases hz
    | some jg => rw [hq] at hz; cases hz; exact ⟨p, hp', jg.1, jg.2, hq, rfl⟩
  · rintro ⟨p, hp, j, g, hq, rfl⟩
    exact ⟨(p, q p), List.mem_map.2 ⟨p, hp, rfl⟩, by simp [hq]⟩
theorem Good.lookPre (h : Good S cnt) (hc : Cont S cnt ct) (hl : Linked S cnt ct o) (hon : S.on = true) {i : Nat} {x : Sl} (hx : S.sl[i]? = some x) (hu : x.used = true) (hsm : S.gs.Small 500000)
    (hroom : (bigPart S.ps (x.addr / S.Wd) || !hasL (chunksL S.ps) ((x.addr / S.Wd : Nat) : Int)) = false → S.a2 + (S.L.size (cnt i) + 1) ≤ S.en2 ∨ ∃ c, c + (S.L.size (cnt i) / S.Wd + 1) ≤ S.C ∧ ∀ k, c ≤ k → k < c + (S.L.size (cnt i) / S.Wd + 1) → S.own.getD k 0 = 0) :
    LookPre S i x (cnt i) (o i) := by
  have e := h.ent i x hx hu
  refine ⟨hon, h.spOk, h.objOk hx hu, e.pin, hsm, fun hb => h.roomTo hon (by omega) (by have := e.size; omega) ?_, fun ad S1 ha => h.mvOk hon hx hu ha, fun S2 hm => ?_⟩
  · rw [show S.L.size (cnt i) + 1 - 1 = S.L.size (cnt i) by omega]
    exact hroom hb
  · obtain ⟨g1, g2⟩ := h.moved hon hx hu hm
    have hL : S2.L = S.L := hm.same.2.2.2.1
    obtain ⟨x2, k1, k2, -⟩ := hm.slot hx hx
    have hu2 : x2.used = true := k2.trans hu
    refine ⟨x2, g1.objOk k1 hu2, fun p hp => ?_, fun z hz => ?_⟩
    · obtain ⟨l1, l2, -⟩ := hl i x hx hu p hp
      refine ⟨l1, ?_⟩
      rw [← l2]
      exact g2 ct hc i x2 k1 hu2 p (by rw [hL]; exact (mem_slots h.right hp).1)
    · obtain ⟨p, hp, j, g, hq, rfl⟩ := mem_tgt.1 hz
      obtain ⟨-, -, l3⟩ := hl i x hx hu p hp
      obtain ⟨y, hy, hyu⟩ := l3 j g hq
      obtain ⟨y2, m1, m2, -⟩ := hm.slot hx hy
      exact ⟨j, y2, rfl, m1, m2.trans hyu, (g1.ent j y2 m1 (m2.trans hyu)).reg⟩
end Go.Proofs.YtcdpnfchmpncjaaGreatDoor

namespace Go.Proofs.YtcdpnfchmpncjaaGreatDoor
open Go.RowKit Go.Tr Go.Shelf
def P0 (A : Ad) (C Wd K : Nat) (bk : Option Lay) (ts : TS) (sp mn : List (Int × Value)) (ev us bg : Bool) : Nat → Part
  | 0 => fun w F => CellsAt w F A sp mn
  | 1 => fun w F => StF w F A.s C Wd (List.replicate (C * Wd) 0) (List.replicate C 0)
  | 2 => fun w F => match bk with | none => Bk0 w F A.b | some L => Bk1 w F A.b L ∧ RightLay L
  | 3 => fun w F => TbF w F A.t K (List.replicate K Sl.free)
  | 4 => fun w F => TrF w F A ts
  | 5 => fun w F => RemF w F A.rm
  | 6 => fun w F => us = true → SpF 154 w F A.u A.s 1 [] 0 0
  | 7 => fun w F => bg = true → Bag w A.bg F []
  | 8 => fun w F => F A.m ∧ ImAt w A.m A.s A.b
  | 9 => fun w F => ev = true → EvAt w F A false
  | _ => fun _ _ => True
theorem p0_parts (A : Ad) (C Wd K : Nat) (bk : Option Lay) (ts : TS) (sp mn : List (Int × Value)) (ev us bg : Bool) : Parts (P0 A C Wd K bk ts sp mn ev us bg) := by
  refine ⟨fun j w w' F h hk => ?_, fun j w F G h hs => ?_⟩
  · match j with
    | 0 => exact CellsAt.kept h hk
    | 1 => exact StF.kept h hk
    | 2 => cases bk with
      | none => exact Bk0.kept h hk
      | some L => exact ⟨Bk1.kept h.1 hk, h.2⟩
    | 3 => exact TbF.kept h hk
    | 4 => exact TrF.kept h hk
    | 5 => exact RemF.kept h hk
    | 6 => exact fun e => SpF.kept (h e) hk
    | 7 => exact fun e => Bag.kept (h e) hk
    | 8 => exact ⟨h.1, (hk _ h.1 (block_lt h.2)).trans h.2⟩
    | 9 => exact fun e => ⟨(h e).1, (hk _ (h e).1 (block_lt (h e).2)).trans (h e).2⟩
    | _ + 10 => trivial
  · match j with
    | 0 => exact ⟨hs _ h.1, hs _ h.2.1, hs _ h.2.2.1, h.2.2.2⟩
    | 1 => exact StF.mono h hs
    | 2 => cases bk with
      | none => exact ⟨hs _ h.1, h.2⟩
      | some L => exact ⟨Bk1.mono h.1 hs, h.2⟩
    | 3 => exact TbF.mono h hs
    | 4 => exact ⟨hs _ h.1, hs _ h.2.1, h.2.2⟩
    | 5 => exact RemF.mono h hs
    | 6 => exact fun e => SpF.mono (h e) hs
    | 7 => exact fun e => Bag.mono (h e) hs
    | 8 => exact ⟨hs _ h.1, h.2⟩
    | 9 => exact fun e => ⟨hs _ (h e).1, (h e).2⟩
    | _ + 10 => trivial
def Nw (w w' : World) : Nat → Prop := fun k => w.heap.size ≤ k ∧ k < w'.heap.size
theorem made_parts {w w1 w2 w3 w4 w5 w6 w7 : World} {A : Ad} {C Wd K : Nat} (h1 : StF w1 (Nw w w1) A.s C Wd (List.replicate (C * Wd) 0) (List.replicate C 0)) (b1 : Below w.heap.size w w1) (h2 : TbF w2 (Nw w1 w2) A.t K (List.replicate K Sl.free)) (b2 : Below w1.heap.size w1 w2)
    (h3 : Bk0 w3 (Nw w2 w3) A.b) (b3 : Below w2.heap.size w2 w3) (h4 : ImAt w4 A.m A.s A.b) (b4 : Below w3.heap.size w3 w4) (h4n : w3.heap.size ≤ A.m) (h5 : TreeAt w5 A.tr A.trm TS.new) (b5 : Below w4.heap.size w4 w5) (h5n : w4.heap.size ≤ A.tr ∧ w4.heap.size ≤ A.trm)
    (h6 : RemF w6 (Nw w5 w6) A.rm) (b6 : Below w5.heap.size w5 w6) (h7 : CellsAt w7 (Nw w6 w7) A [] []) (b7 : Below w6.heap.size w6 w7) : Comp (P0 A C Wd K none TS.new [] [] false false false) w7 (Nw w w7) ∧ Below w.heap.size w w7 := by
  have s1 := b1.size
  have s2 := b2.size
  have s3 := b3.size
  have s4 := b4.size
  have s5 := b5.size
  have s6 := b6.size
  have s7 := b7.size
  have c6 : Below w6.heap.size w6 w7 := b7
  have c5 : Below w5.heap.size w5 w7 := b6.trans (b7.mono s6)
  have c4 : Below w4.heap.size w4 w7 := b5.trans (c5.mono s5)
  have c3 : Below w3.heap.size w3 w7 := b4.trans (c4.mono s4)
  have c2 : Below w2.heap.size w2 w7 := b3.trans (c3.mono s3)
  have c1 : Below w1.heap.size w1 w7 := b2.trans (c2.mono s2)
  have c0 : Below w.heap.size w w7 := b1.trans (c1.mono s1)
  have hp := p0_parts A C Wd K none TS.new [] [] false false false
  refine ⟨⟨fun k hk => hk.2, fun k => if k < w1.heap.size then 1 else if k < w2.heap.size then 3 else if k < w3.heap.size then 2 else if k < w4.heap.size then 8 else if k < w5.heap.size then 4 else if k < w6.heap.size then 5 else 0, fun j => ?_⟩, c0⟩
  match j with
  | 0 => exact hp.mono 0 w7 _ _ h7 (fun k hk => by obtain ⟨e1, e2⟩ := hk; refine ⟨⟨by omega, e2⟩, ?_⟩; show ite _ _ _ = _; repeat (rw [if_neg (by omega)]))
  | 1 => exact hp.mono 1 w7 _ _ (hp.kept 1 w1 w7 _ h1 (fun k hk hl => c1.block k hl)) (fun k hk => by obtain ⟨e1, e2⟩ := hk; refine ⟨⟨by omega, by omega⟩, ?_⟩; show ite _ _ _ = _; rw [if_pos (by omega)])
  | 2 => exact hp.mono 2 w7 _ _ (hp.kept 2 w3 w7 _ h3 (fun k hk hl => c3.block k hl)) (fun k hk => by obtain ⟨e1, e2⟩ := hk; refine ⟨⟨by omega, by omega⟩, ?_⟩; show ite _ _ _ = _; rw [if_neg (by omega), if_neg (by omega), if_pos (by omega)])
  | 3 => exact hp.mono 3 w7 _ _ (hp.kept 3 w2 w7 _ h2 (fun k hk hl => c2.block k hl)) (fun k hk => by obtain ⟨e1, e2⟩ := hk; refine ⟨⟨by omega, by omega⟩, ?_⟩; show ite _ _ _ = _; rw [if_neg (by omega), if_pos (by omega)])
  | 4 =>
    have hl := h5.lt
    have h5' : TrF w5 (Nw w4 w5) A TS.new := ⟨⟨h5n.1, hl.1⟩, ⟨h5n.2, hl.2⟩, h5⟩
    exact hp.mono 4 w7 _ _ (hp.kept 4 w5 w7 _ h5' (fun k hk hl => c5.block k hl)) (fun k hk => by obtain ⟨e1, e2⟩ := hk; refine ⟨⟨by omega, by omega⟩, ?_⟩; show ite _ _ _ = _; rw [if_neg (by omega), if_neg (by omega), if_neg (by omega), if_neg (by omega), if_pos (by omega)])
  | 5 => exact hp.mono 5 w7 _ _ (hp.kept 5 w6 w7 _ h6 (fun k hk hl => c6.block k hl)) (fun k hk => by obtain ⟨e1, e2⟩ := hk; refine ⟨⟨by omega, by omega⟩, ?_⟩; show ite _ _ _ = _; rw [if_neg (by omega), if_neg (by omega), if_neg (by omega), if_neg (by omega), if_neg (by omega), if_pos (by omega)])
  | 6 => intro e; cases e
  | 7 => intro e; cases e
  | 8 =>
    have hl := block_lt h4
    have h4' : Nw w3 w4 A.m ∧ ImAt w4 A.m A.s A.b := ⟨⟨h4n, hl⟩, h4⟩
    exact hp.mono 8 w7 _ _ (hp.kept 8 w4 w7 _ h4' (fun k hk hl => c4.block k hl)) (fun k hk => by obtain ⟨e1, e2⟩ := hk; refine ⟨⟨by omega, by omega⟩, ?_⟩; show ite _ _ _ = _; rw [if_neg (by omega), if_neg (by omega), if_neg (by omega), if_pos (by omega)])
  | 9 => intro e; cases e
  | _ + 10 => trivial
set_option maxRecDepth 100000 in
set_option maxHeartbeats 1000000 in
theorem cnew_any (C Wd K : Nat) (w : World) (h1 : 1 ≤ C) (h2 : C ≤ 1024) (h3 : 1 ≤ Wd) (h4 : Wd ≤ 1024) (h5 : 1 ≤ K) (h6 : K ≤ 4096) :
    Calls Tryz.prog 31 #[.int .i64 C, .int .i64 Wd, .int .i64 K] w fun e w' => ∃ A : Ad, e = .returned (.tuple #[.pointer (some ⟨A.c, 0, none⟩), .int .i64 0]) ∧ Comp (P0 A C Wd K none TS.new [] [] false false false) w' (Nw w w') ∧ Below w.heap.size w w' := by
  have HST := Lib.hid (snew_any C Wd w h1 h2 h3 h4)
  have HTB := Lib.hid (fun W => tnew_any K W h5 h6)
  clear h1 h2 h3 h4 h5 h6
  go_enter Tryz.func31, Tryz.ntmps31
  have hmm := @run_makeMap Tryz.prog
  go_wp2_with fail
  refine HST.out.mono ?_
  rintro e w1 ⟨s, rfl, p1, b1⟩
  have HP1 := Lib.hid (And.intro p1 b1)
  clear p1 b1
  go_wp2_with fail
  refine (HTB.out w1).mono ?_
  rintro e w2 ⟨t, rfl, p1, b1⟩
  have HP2 := Lib.hid (And.intro p1 b1)
  clear p1 b1
  go_wp2_with fail
  refine (lbook_any w2).mono ?_
  rintro e w3 ⟨rfl, p1, b1⟩
  obtain ⟨b, hb⟩ : ∃ b, b = w2.heap.size := ⟨_, rfl⟩
  have HP3 : Hid (Bk0 w3 (Nw w2 w3) b ∧ Below w2.heap.size w2 w3) := ⟨by rw [hb]; exact p1, b1⟩
  rw [← hb]
  clear p1 b1 hb
  go_wp2_with fail
  refine (inew_any s b w3).mono ?_
  rintro e w4 ⟨rfl, p1, b1, -⟩
  obtain ⟨m, hm⟩ : ∃ m, m = w3.heap.size := ⟨_, rfl⟩
  have HP4 : Hid (ImAt w4 m s b ∧ Below w3.heap.size w3 w4) := ⟨by rw [hm]; exact p1, b1⟩
  rw [← hm]
  have HM : Hid (w3.heap.size ≤ m) := Nat.le_of_eq hm.symm
  clear p1 b1 hm
  go_wp2_with fail
  refine (qnew_any w4).mono ?_
  rintro e w5 ⟨tr, trm, rfl, p1, b1, n1, n2⟩
  have HP5 := Lib.hid (And.intro p1 (And.intro b1 (And.intro n1 n2)))
  clear p1 b1 n1 n2
  go_wp2_with fail
  refine (rnew_any w5).mono ?_
  rintro e w6 ⟨rm, rfl, p1, b1⟩
  have HP6 := Lib.hid (And.intro p1 b1)
  clear p1 b1
  go_wp2
  go_ret2
  have k1 := MapI.made w6
  have k2 := MapI.made (w6.alloc (.map #[] 0))
  have k3 := heap_alloc_new ((w6.alloc (.map #[] 0)).alloc (.map #[] 0)) (.cells #[.pointer (some ⟨s, 0, none⟩), .pointer (some ⟨b, 0, none⟩), .pointer (some ⟨m, 0, none⟩), .pointer (some ⟨t, 0, none⟩), .pointer (some ⟨tr, 0, none⟩), .pointer (some ⟨rm, 0, none⟩), .map (some w6.heap.size), .map (some (w6.heap.size + 1))] 56)
  simp only [World.size_alloc] at k2 k3
  have hb := ((((Below.refl _ w6).alloc (Nat.le_refl _) (.map #[] 0)).alloc (by simp) (.map #[] 0)).alloc (by simp <;> omega) (.cells #[.pointer (some ⟨s, 0, none⟩), .pointer (some ⟨b, 0, none⟩), .pointer (some ⟨m, 0, none⟩), .pointer (some ⟨t, 0, none⟩), .pointer (some ⟨tr, 0, none⟩), .pointer (some ⟨rm, 0, none⟩), .map (some w6.heap.size), .map (some (w6.heap.size + 1))] 56))
  refine ⟨⟨w6.heap.size + 1 + 1, 0, s, b, m, t, tr, trm, rm, w6.heap.size, w6.heap.size + 1, 0, 0, 0, 0⟩, rfl, made_parts HP1.out.1 HP1.out.2 HP2.out.1 HP2.out.2 HP3.out.1 HP3.out.2 HP4.out.1 HP4.out.2 HM.out HP5.out.1 HP5.out.2.1 HP5.out.2.2 HP6.out.1 HP6.out.2 ⟨⟨by simp <;> omega, by simp⟩, ⟨by simp, by simp <;> omega⟩, ⟨by simp, by simp <;> omega⟩, by simp, k3, ?_, ?_⟩ hb⟩
  · exact (k1.kept (Below.heap_alloc _ _ _ (by simp))).kept (Below.heap_alloc _ _ _ (by simp <;> omega))
  · exact k2.kept (Below.heap_alloc _ _ _ (by simp))
end Go.Proofs.YtcdpnfchmpncjaaGreatDoor

namespace Go.Proofs.YtcdpnfchmpncjaaGreatDoor
open Go.RowKit Go.Tr Go.Shelf
variable {w w' : World} {F F1 : Nat → Prop} {A : Ad} {C Wd K : Nat} {L : Lay} {X X' : Nat → Part} {W W' : World}
theorem Comp.add (hp : Parts X) (hp' : Parts X') (h : Comp X w F) (hb : Below w.heap.size w w') (i : Nat) (he : ∀ j, j ≠ i → X' j = X j) (hi : X' i w' (Nw w w')) : Comp X' w' (grow F w w') := by
  obtain ⟨hF, tau, ht⟩ := h
  refine ⟨grow_lt hF hb.size, fun k => if k < w.heap.size then tau k else i, fun j => ?_⟩
  by_cases hj : j = i
  · subst hj
    refine hp'.mono j w' _ _ hi (fun k hk => ⟨Or.inr hk, ?_⟩)
    show ite _ _ _ = _
    rw [if_neg (by have := hk.1; omega)]
  · rw [he j hj]
    refine hp.mono j w' _ _ (hp.kept j w w' _ (ht j) (fun k _ hl => hb.block k hl)) (fun k hk => ⟨Or.inl hk.1, ?_⟩)
    show ite _ _ _ = _
    rw [if_pos (hF k hk.1)]
    exact hk.2
def RunX (X : Nat → Part) (w : World) (F : Nat → Prop) (W : World) (F1 : Nat → Prop) : Prop := Comp X W F1 ∧ Only F w W ∧ ∀ k, F1 k → F k ∨ w.heap.size ≤ k
theorem RunX.start (h : Comp X w F) : RunX X w F w F := ⟨h, Only.refl _ _, fun k hk => Or.inl hk⟩
theorem RunX.op (h : RunX X w F W F1) (k : Comp X' W' (grow F1 W W') ∧ Only F1 W W') : RunX X' w F W' (grow F1 W W') :=
  ⟨k.1, h.2.1.trans k.2 h.2.2, fun j hj => hj.elim (h.2.2 j) (fun hj => Or.inr (Nat.le_trans h.2.1.size hj.1))⟩
theorem RunX.below (hp : Parts X) (h : RunX X w F W F1) (hb : Below W.heap.size W W') : RunX X w F W' F1 :=
  ⟨h.1.below hp hb, h.2.1.trans (Only.of_below hb (fun _ => False)) (fun k hk => hk.elim), h.2.2⟩
theorem RunX.fin (hp : Parts X) (h : RunX X w F W F1) (hF : ∀ k, F k → k < w.heap.size) : Comp X W (grow F w W) ∧ Only F w W :=
  ⟨Comp.mono hp h.1 (fun k hk => (h.2.2 k hk).imp id (fun h2 => ⟨h2, h.1.1 k hk⟩)) (grow_lt hF h.2.1.size), h.2.1⟩
set_option maxRecDepth 100000 in
theorem enew_any (C Wd K : Nat) (w : World) (h1 : 1 ≤ C) (h2 : C ≤ 1024) (h3 : 1 ≤ Wd) (h4 : Wd ≤ 1024) (h5 : 1 ≤ K) (h6 : K ≤ 4096) :
    Calls Tryz.prog 6 #[.int .i64 C, .int .i64 Wd, .int .i64 K] w fun e w' => ∃ A : Ad, e = .returned (.tuple #[.pointer (some ⟨A.h, 0, none⟩), .int .i64 0]) ∧ Comp (P0 A C Wd K none TS.new [] [] true false false) w' (Nw w w') ∧ Below w.heap.size w w' := by
  have HC := Lib.hid (cnew_any C Wd K w h1 h2 h3 h4 h5 h6)
  clear h1 h2 h3 h4 h5 h6
  go_enter Tryz.func6, Tryz.ntmps6
  go_wp2_with fail
  refine HC.out.mono ?_
  rintro e w1 ⟨A, rfl, p1, b1⟩
  go_wp2
  go_ret2
  have hb := (Below.refl _ w1).alloc (Nat.le_refl _) (.cells #[.pointer (some ⟨A.c, 0, none⟩), .int .i64 0, .pointer none, .pointer none] 31)
  refine ⟨{ A with h := w1.heap.size }, rfl, Comp.mono (p0_parts _ _ _ _ _ _ _ _ _ _ _) (Comp.add (p0_parts _ _ _ _ _ _ _ _ _ _ _) (p0_parts { A with h := w1.heap.size } C Wd K none TS.new [] [] true false false) p1 hb 9 (fun j hj => ?_) (fun _ => ⟨⟨Nat.le_refl _, by simp⟩, heap_alloc_new w1 _⟩)) (fun k hk => ?_) (fun k hk => hk.2), b1.trans (hb.mono b1.size)⟩
  · unfold P0
    split <;> first | rfl | exact absurd rfl hj
  · have := hb.size
    have := b1.size
    rcases hk with hk | hk
    · exact ⟨hk.1, by have := hk.2; omega⟩
    · exact ⟨by have := hk.1; omega, hk.2⟩
theorem p0_fields {bk : Option Lay} {ts : TS} {sp mn : List (Int × Value)} {ev us bg : Bool} (h : Comp (P0 A C Wd K bk ts sp mn ev us bg) w F) {W : World} (hb : Below w.heap.size w W) : W.cell? ⟨A.c, 0, none⟩ = some (.pointer (some ⟨A.s, 0, none⟩)) ∧ W.cell? ⟨A.c, 1, none⟩ = some (.pointer (some ⟨A.b, 0, none⟩)) ∧ W.cell? ⟨A.c, 2, none⟩ = some (.pointer (some ⟨A.m, 0, none⟩)) ∧ W.cell? ⟨A.c, 3, none⟩ = some (.pointer (some ⟨A.t, 0, none⟩)) ∧ W.cell? ⟨A.c, 4, none⟩ = some (.pointer (some ⟨A.tr, 0, none⟩)) ∧ W.cell? ⟨A.c, 5, none⟩ = some (.pointer (some ⟨A.rm, 0, none⟩)) ∧ W.cell? ⟨A.c, 6, none⟩ = some (.map (some A.sp)) ∧ W.cell? ⟨A.c, 7, none⟩ = some (.map (some A.mn)) := by
  obtain ⟨G, hG, h0⟩ := (h.below (p0_parts _ _ _ _ _ _ _ _ _ _ _) hb).read 0
  obtain ⟨-, -, -, -, h1, -⟩ : CellsAt W G A sp mn := h0
  refine ⟨?_, ?_, ?_, ?_, ?_, ?_, ?_, ?_⟩ <;> · rw [(cells_of_block h1 _).1]; rfl
theorem p0_ev {bk : Option Lay} {ts : TS} {sp mn : List (Int × Value)} {us bg : Bool} (h : Comp (P0 A C Wd K bk ts sp mn true us bg) w F) {W : World} (hb : Below w.heap.size w W) : W.cell? ⟨A.h, 0, none⟩ = some (.pointer (some ⟨A.c, 0, none⟩)) := by
  obtain ⟨G, hG, h0⟩ := (h.below (p0_parts _ _ _ _ _ _ _ _ _ _ _) hb).read 9
  obtain ⟨-, h1⟩ : EvAt W G A false := h0 rfl
  rw [(cells_of_block h1 _).1]; rfl
theorem p0_add (h : Comp (P0 A C Wd K none TS.new [] [] true false false) w F) (hr : RightLay L) {v : Value} (hv : LayAt w v L) : Calls Tryz.prog 33 #[.pointer (some ⟨A.b, 0, none⟩), v] w fun e w' => e = .returned (.tuple #[.int .i64 1, .int .i64 0]) ∧ Comp (P0 A C Wd K (some L) TS.new [] [] true false false) w' (grow F w w') ∧ Only F w w' := by
  obtain ⟨G, hG, h1, -, hput⟩ := h.part1 (p0_parts _ _ _ _ _ _ _ _ _ _ _) 2
  have h1' : Bk0 w G A.b := h1
  refine (ladd_any w h1' hv hr).mono fun e w' ⟨e1, e2, e3⟩ => ⟨e1, hput (P0 A C Wd K (some L) TS.new [] [] true false false) w' (p0_parts _ _ _ _ _ _ _ _ _ _ _) (fun j hj => ?_) ⟨e2, hr⟩ e3⟩
  unfold P0
  split <;> first | rfl | exact absurd rfl hj
set_option maxRecDepth 100000 in
set_option maxHeartbeats 1000000 in
theorem cdefine_any (w1 w2 : Nat) (wa : Option Addr) (wc : Nat) (w : World) (h : Comp (P0 A C Wd K none TS.new [] [] true false false) w F) (hT : Tz w) (hs : SeqAt w wa (us [L.fixed + L.record * 256, w1, w2])) (hr : RightLay L) (h1 : w1 < 18446744073709551616) (h2 : w2 < 18446744073709551616) (he1 : spreadL w1 = L.refs) (he2 : spreadL w2 = L.recs) :
    Calls Tryz.prog 8 #[.pointer (some ⟨A.c, 0, none⟩), .slice wa 3 wc] w fun e w' => e = .returned (.tuple #[.int .i64 1, .int .i64 0]) ∧ Comp (P0 A C Wd K (some L) TS.new [] [] true false false) w' (grow F w w') ∧ Only F w w' := by
  have HDE := Lib.hid (ldecode_any L w1 w2 wa wc w hs hT hr h1 h2 he1 he2)
  have HRX := Lib.hid (RunX.start h)
  have HLT := Lib.hid h.1
  have HR := Lib.hid hr
  clear h hT hs hr h1 h2 he1 he2
  go_enter Tryz.func8, Tryz.ntmps8
  go_wp2_with fail
  refine HDE.out.mono ?_
  rintro e w3 ⟨v, rfl, hv, hb⟩
  have HV := Lib.hid hv
  obtain ⟨ra, rc, sa, sc, rfl, -, -⟩ := hv
  have HRX3 := Lib.hid (HRX.out.below (p0_parts _ _ _ _ _ _ _ _ _ _ _) hb)
  obtain ⟨n1, hn1⟩ : ∃ n, n = L.fixed := ⟨_, rfl⟩
  obtain ⟨n2, hn2⟩ : ∃ n, n = L.record := ⟨_, rfl⟩
  obtain ⟨n3, hn3⟩ : ∃ n, n = L.refs.length := ⟨_, rfl⟩
  obtain ⟨n4, hn4⟩ : ∃ n, n = L.recs.length := ⟨_, rfl⟩
  rw [← hn1, ← hn2, ← hn3, ← hn4] at HV ⊢
  clear hn1 hn2 hn3 hn4 hb
  have hba : Below w3.heap.size w3 (w3.alloc (.cells #[.int .i64 n1, .slice ra n3 rc, .int .i64 n2, .slice sa n4 sc] 60)) := (Below.refl _ w3).alloc (Nat.le_refl _) _
  have HRX4 := Lib.hid (HRX3.out.below (p0_parts _ _ _ _ _ _ _ _ _ _ _) hba)
  have HV4 := Lib.hid (HV.out.kept hba)
  have HX4 := Lib.hid (heap_alloc_new w3 (.cells #[.int .i64 n1, .slice ra n3 rc, .int .i64 n2, .slice sa n4 sc] 60))
  obtain ⟨xb, hxb⟩ : ∃ xb, xb = w3.heap.size := ⟨_, rfl⟩
  rw [← hxb] at HX4
  have HXF : Hid (¬ F xb) := fun hf => by have h1 := HLT.out xb hf; have h2 := HRX3.out.2.1.size; omega
  clear hba
  go_wp2_with fail
  rw [← hxb]
  clear hxb
  generalize w3.alloc (.cells #[.int .i64 n1, .slice ra n3 rc, .int .i64 n2, .slice sa n4 sc] 60) = w4 at *
  obtain ⟨-, c1, -⟩ := p0_fields HRX4.out.1 (Below.refl _ _)
  have x0 := (cells_of_block HX4.out 0).1
  have x1 := (cells_of_block HX4.out 1).1
  have x2 := (cells_of_block HX4.out 2).1
  have x3 := (cells_of_block HX4.out 3).1
  simp at x0 x1 x2 x3
  have HRX5 := Lib.hid (HRX4.out.below (p0_parts _ _ _ _ _ _ _ _ _ _ _) (Below.refl _ _).drew)
  have HV5 := Lib.hid (HV4.out.kept (Below.refl _ _).drew)
  have HXN : Hid (¬ F xb ∧ xb < w4.heap.size) := ⟨HXF.out, block_lt HX4.out⟩
  refine wp_region_held_drew (S := fun W => W.cell? ⟨A.c, 1, none⟩ = some (.pointer (some ⟨A.b, 0, none⟩)) ∧ W.cell? ⟨xb, 0, none⟩ = some (.int .i64 n1) ∧ W.cell? ⟨xb, 1, none⟩ = some (.slice ra n3 rc) ∧ W.cell? ⟨xb, 2, none⟩ = some (.int .i64 n2) ∧ W.cell? ⟨xb, 3, none⟩ = some (.slice sa n4 sc)) (by kernel_rfl) ⟨c1, x0, x1, x2, x3⟩ (fun hH => ?_)
  clear c1 x0 x1 x2 x3
  refine tk 0 (v := ?_) rfl ?_ ?_; rotate_left; · intro W hW; obtain ⟨d0, d1, d2, d3, d4⟩ := hW; go_simp; try with_reducible rfl
  try simp only [Go.Tr.nz]
  refine tk 1 (v := ?_) rfl ?_ ?_; rotate_left; · intro W hW; obtain ⟨d0, d1, d2, d3, d4⟩ := hW; go_simp; try with_reducible rfl
  try simp only [Go.Tr.nz]
  refine tk 2 (v := ?_) rfl ?_ ?_; rotate_left; · intro W hW; obtain ⟨d0, d1, d2, d3, d4⟩ := hW; go_simp; try with_reducible rfl
  try simp only [Go.Tr.nz]
  refine tk 3 (v := ?_) rfl ?_ ?_; rotate_left; · intro W hW; obtain ⟨d0, d1, d2, d3, d4⟩ := hW; go_simp; try with_reducible rfl
  try simp only [Go.Tr.nz]
  refine tk 4 (v := ?_) rfl ?_ ?_; rotate_left; · intro W hW; obtain ⟨d0, d1, d2, d3, d4⟩ := hW; go_simp; try with_reducible rfl
  try simp only [Go.Tr.nz]
  refine rd 5 rfl (fun K hK => ?_)
  go_simp
  refine (p0_add HRX5.out.1 HR.out HV5.out).mono ?_
  rintro e w6 ⟨rfl, h6⟩
  have HRX6 := Lib.hid (HRX5.out.op h6)
  have hx6 := (h6.2.block xb HXN.out.2 HXN.out.1).trans HX4.out
  refine hK.out _ _ ⟨(p0_fields HRX6.out.1 (Below.refl _ _)).2.1, (cells_of_block hx6 0).1, (cells_of_block hx6 1).1, (cells_of_block hx6 2).1, (cells_of_block hx6 3).1⟩ (fun hH => ?_)
  clear h6 hx6 hK K
  refine tk 6 (v := ?_) rfl ?_ ?_; rotate_left; · intro W hW; go_simp; try with_reducible rfl
  try simp only [Go.Tr.nz]
  refine tk 7 (v := ?_) rfl ?_ ?_; rotate_left; · intro W hW; go_simp; try with_reducible rfl
  try simp only [Go.Tr.nz]
  refine tk 8 (v := ?_) rfl ?_ ?_; rotate_left; · intro W hW; go_simp; try with_reducible rfl
  try simp only [Go.Tr.nz]
  refine tk 9 (v := ?_) rfl ?_ ?_; rotate_left; · intro W hW; go_simp; try with_reducible rfl
  try simp only [Go.Tr.nz]
  refine wpAnyH_done (by kernel_rfl) ?_ _
  go_wp2_with fail
  go_ret2
  exact ⟨rfl, HRX6.out.fin (p0_parts _ _ _ _ _ _ _ _ _ _ _) HLT.out⟩
end Go.Proofs.YtcdpnfchmpncjaaGreatDoor

namespace Go.Proofs.YtcdpnfchmpncjaaGreatDoor
open Go.RowKit Go.Tr Go.Shelf
variable {w w' : World} {F F1 : Nat → Prop} {A : Ad} {C Wd K : Nat} {L : Lay} {X X' : Nat → Part} {W W' : World}
def S0 (C Wd K : Nat) (L : Lay) : HS := ⟨C, Wd, K, L, List.replicate (C * Wd) 0, List.replicate C 0, List.replicate K Sl.free, [], [], 0, 0, false, [], 0, 0, GS.new⟩
theorem p0_tree (h : Comp (P0 A C Wd K (some L) TS.new [] [] true false false) w F) : Calls Tryz.prog 34 #[.pointer (some ⟨A.tr, 0, none⟩), .int .i64 0] w fun e w' => e = .returned (.tuple #[.int .i64 1, .int .i64 0]) ∧ Comp (P0 A C Wd K (some L) tree1 [] [] true false false) w' (grow F w w') ∧ Only F w w' := by
  obtain ⟨G, hG, h1, -, hput⟩ := h.part1 (p0_parts _ _ _ _ _ _ _ _ _ _ _) 4
  obtain ⟨f1, f2, ht⟩ : TrF w G A TS.new := h1
  refine (qadd_any 0 w ht TS.WF.new (by decide)).mono fun e w' ⟨e1, e2, e3⟩ => ⟨by rw [e1]; rfl, hput (P0 A C Wd K (some L) tree1 [] [] true false false) w' (p0_parts _ _ _ _ _ _ _ _ _ _ _) (fun j hj => ?_) ⟨Or.inl f1, Or.inl f2, e2⟩ (e3.mono (fun k hk => hk.elim (fun e => by rw [e]; exact f1) (fun e => by rw [e]; exact f2)))⟩
  unfold P0
  split <;> first | rfl | exact absurd rfl hj
theorem p0_space (h : Comp (P0 A C Wd K (some L) tree1 [] [] true false false) w F) : Calls Tryz.prog 35 #[.pointer (some ⟨A.s, 0, none⟩), .int .i64 1] w fun e w' => ∃ u, e = .returned (.tuple #[.pointer (some ⟨u, 0, none⟩), .int .i64 0]) ∧ Comp (P0 { A with u := u } C Wd K (some L) tree1 [] [] true true false) w' (grow F w w') ∧ Only F w w' := by
  refine (unew_any A.s 1 w (Nat.le_refl _)).mono fun e w' ⟨e1, e2, e3⟩ => ⟨w.heap.size, e1, Comp.add (p0_parts _ _ _ _ _ _ _ _ _ _ _) (p0_parts _ _ _ _ _ _ _ _ _ _ _) h (e3.below (Nat.le_refl _) (fun k hk => hk.elim)) 6 (fun j hj => ?_) (fun _ => ?_), e3.mono (fun k hk => hk.elim)⟩
  · unfold P0
    split <;> first | rfl | exact absurd rfl hj
  · exact SpF.mono e2 (fun k hk => hk.elim (fun h => h.elim) id)
theorem p0_bag (h : Comp (P0 A C Wd K (some L) tree1 [(1, pv A.u)] [] true true false) w F) : Calls Tryz.prog 36 #[.slice none 0 0] w fun e w' => ∃ g, e = .returned (.pointer (some ⟨g, 0, none⟩)) ∧ Comp (P0 { A with bg := g } C Wd K (some L) tree1 [(1, pv A.u)] [] true true true) w' (grow F w w') ∧ Only F w w' := by
  refine (bnew_any none 0 0 [] w (fun h => by cases h) rfl (by decide)).mono fun e w' ⟨g, v, e1, e2, e3⟩ => ⟨g, e1, Comp.add (p0_parts _ _ _ _ _ _ _ _ _ _ _) (p0_parts _ _ _ _ _ _ _ _ _ _ _) h e3 7 (fun j hj => ?_) (fun _ => ?_), Only.of_below e3 F⟩
  · unfold P0
    split <;> first | rfl | exact absurd rfl hj
  · have hz : setL [] = [] := List.eq_nil_of_length_eq_zero (Nat.le_zero.1 (setL_length []))
    rw [hz] at e2
    refine ⟨v, ⟨e2.block, ⟨e2.own.1, e2.own.2.imp id (fun ⟨k, cap, cur, h1, h2, h3⟩ => ⟨k, cap, cur, h1, Nat.zero_le _, h3⟩)⟩, e2.ne, Nat.zero_le _, e2.rises⟩, ⟨e2.newg, e2.lt⟩, fun k hk => e2.own.lt k hk⟩
theorem MapI.ne_block {l : List (Int × Value)} {b c : Nat} {cs : Array Value} {T : TypeId} {fr : Nat × Nat} (h : MapI w b l) (k : w.heap[c]? = some (.cells cs T fr)) : c ≠ b := fun e => by
  obtain ⟨es, ck, h1, -⟩ := h
  rw [e, h1] at k
  cases k
theorem p0_sp (h : Comp (P0 A C Wd K (some L) tree1 [] [] true true false) w F) : ∃ w', (Instr.mapUpdate 53 (.map (some A.sp)) (.int .i64 1) (.pointer (some ⟨A.u, 0, none⟩))).run Tryz.prog w = .ok () w' ∧ Comp (P0 A C Wd K (some L) tree1 [(1, pv A.u)] [] true true false) w' (grow F w w') ∧ Only F w w' := by
  obtain ⟨G, hG, h1, -, hput⟩ := h.part1 (p0_parts _ _ _ _ _ _ _ _ _ _ _) 0
  obtain ⟨f1, f2, f3, f4, h2, h3, h4⟩ : CellsAt w G A [] [] := h1
  obtain ⟨w', hr, hm, hg, hs⟩ := h3.put (P := Tryz.prog) Tryz.underlying53 Tryz.underlying3 1 (.pointer (some ⟨A.u, 0, none⟩))
  have ho : Only G w w' := (Only.refl G w).grown hg (fun k hk => Or.inl (by cases hk; exact f2))
  refine ⟨w', hr, hput (P0 A C Wd K (some L) tree1 [(1, pv A.u)] [] true true false) w' (p0_parts _ _ _ _ _ _ _ _ _ _ _) (fun j hj => ?_) ⟨Or.inl f1, Or.inl f2, Or.inl f3, f4, (hg.block _ (block_lt h2) (fun e => MapI.ne_block h3 h2 (by first | exact Option.some.inj e | exact (Option.some.inj e).symm))).trans h2, hm, h4.kept (hg.block _ h4.lt (fun e => f4 (by first | exact Option.some.inj e | exact (Option.some.inj e).symm)))⟩ ho⟩
  unfold P0
  split <;> first | rfl | exact absurd rfl hj
theorem p0_mn (h : Comp (P0 A C Wd K (some L) tree1 [(1, pv A.u)] [] true true true) w F) : ∃ w', (Instr.mapUpdate 54 (.map (some A.mn)) (.int .i64 1) (.pointer (some ⟨A.bg, 0, none⟩))).run Tryz.prog w = .ok () w' ∧ Comp (P0 A C Wd K (some L) tree1 [(1, pv A.u)] [(1, pv A.bg)] true true true) w' (grow F w w') ∧ Only F w w' := by
  obtain ⟨G, hG, h1, -, hput⟩ := h.part1 (p0_parts _ _ _ _ _ _ _ _ _ _ _) 0
  obtain ⟨f1, f2, f3, f4, h2, h3, h4⟩ : CellsAt w G A [(1, pv A.u)] [] := h1
  obtain ⟨w', hr, hm, hg, hs⟩ := h4.put (P := Tryz.prog) Tryz.underlying54 Tryz.underlying3 1 (.pointer (some ⟨A.bg, 0, none⟩))
  have ho : Only G w w' := (Only.refl G w).grown hg (fun k hk => Or.inl (by cases hk; exact f3))
  refine ⟨w', hr, hput (P0 A C Wd K (some L) tree1 [(1, pv A.u)] [(1, pv A.bg)] true true true) w' (p0_parts _ _ _ _ _ _ _ _ _ _ _) (fun j hj => ?_) ⟨Or.inl f1, Or.inl f2, Or.inl f3, f4, (hg.block _ (block_lt h2) (fun e => MapI.ne_block h4 h2 (by first | exact Option.some.inj e | exact (Option.some.inj e).symm))).trans h2, h3.kept (hg.block _ h3.lt (fun e => f4 (by first | exact Option.some.inj e | exact (Option.some.inj e).symm))), hm⟩ ho⟩
  unfold P0
  split <;> first | rfl | exact absurd rfl hj
theorem p0_pp (h : Comp (P0 A C Wd K (some L) tree1 [(1, pv A.u)] [(1, pv A.bg)] true true true) w F) : Comp (PP A (S0 C Wd K L)) w F := by
  obtain ⟨h1, tau, ht⟩ := h
  refine ⟨h1, tau, fun j => ?_⟩
  have := ht j
  match j with
  | 0 => exact this
  | 1 => exact this
  | 2 => exact this
  | 3 => exact this
  | 4 => exact this
  | 5 => exact this
  | 6 => exact this rfl
  | 7 => exact this rfl
  | 8 => exact this
  | 9 => exact this rfl
  | 10 => intro h; cases h
  | 11 => intro h; cases h
  | _ + 12 => trivial
set_option maxRecDepth 100000 in
set_option maxHeartbeats 1000000 in
theorem copen_any (w : World) (h : Comp (P0 A C Wd K (some L) TS.new [] [] true false false) w F) (hT : TzF w F) :
    Calls Tryz.prog 9 #[.pointer (some ⟨A.c, 0, none⟩), .int .i64 0] w fun e w' => e = .returned (.tuple #[.int .i64 1, .int .i64 0]) ∧ ∃ u bg, HeapF w' (grow F w w') { A with u := u, bg := bg } (S0 C Wd K L) ∧ Only F w w' := by
  have HRX := Lib.hid (RunX.start h)
  have HLT := Lib.hid h.1
  have HTZ := Lib.hid hT
  obtain ⟨-, -, -, -, c4, -⟩ := p0_fields h (Below.refl _ _)
  have HTR := Lib.hid (p0_tree h)
  clear h hT
  go_enter Tryz.func9, Tryz.ntmps9
  go_wp2_with fail
  refine HTR.out.mono ?_
  rintro e w1 ⟨rfl, h1⟩
  have HRX1 := Lib.hid ((HRX.out.op h1).below (p0_parts _ _ _ _ _ _ _ _ _ _ _) (Below.refl _ _).drew)
  have hc : w1.cell? ⟨A.c, 0, none⟩ = some (.pointer (some ⟨A.s, 0, none⟩)) ∧ w1.cell? ⟨A.c, 6, none⟩ = some (.map (some A.sp)) := by
    obtain ⟨c0, -, -, -, -, -, c6, -⟩ := p0_fields h1.1 (Below.refl _ _)
    exact ⟨c0, c6⟩
  clear h1 c4
  go_wp2_with fail
  refine wp_region_held_drew (S := fun W => W.cell? ⟨A.c, 0, none⟩ = some (.pointer (some ⟨A.s, 0, none⟩)) ∧ W.cell? ⟨A.c, 6, none⟩ = some (.map (some A.sp))) (by kernel_rfl) hc (fun hH => ?_)
  clear hc
  refine tk 0 (v := ?_) rfl ?_ ?_; rotate_left; · intro W hW; obtain ⟨d0, d6⟩ := hW; go_simp; try with_reducible rfl
  try simp only [Go.Tr.nz]
  refine tk 1 (v := ?_) rfl ?_ ?_; rotate_left; · intro W hW; obtain ⟨d0, d6⟩ := hW; go_simp; try with_reducible rfl
  try simp only [Go.Tr.nz]
  refine tk 2 (v := ?_) rfl ?_ ?_; rotate_left; · intro W hW; obtain ⟨d0, d6⟩ := hW; go_simp; try with_reducible rfl
  try simp only [Go.Tr.nz]
  refine tk 3 (v := ?_) rfl ?_ ?_; rotate_left; · intro W hW; obtain ⟨d0, d6⟩ := hW; go_simp; try with_reducible rfl
  try simp only [Go.Tr.nz]
  refine tk 4 (v := ?_) rfl ?_ ?_; rotate_left; · intro W hW; obtain ⟨d0, d6⟩ := hW; go_simp; try with_reducible rfl
  try simp only [Go.Tr.nz]
  refine tk 5 (v := ?_) rfl ?_ ?_; rotate_left; · intro W hW; obtain ⟨d0, d6⟩ := hW; go_simp; try with_reducible rfl
  try simp only [Go.Tr.nz]
  refine tk 6 (v := ?_) rfl ?_ ?_; rotate_left; · intro W hW; obtain ⟨d0, d6⟩ := hW; go_simp; try with_reducible rfl
  try simp only [Go.Tr.nz]
  refine tk 7 (v := ?_) rfl ?_ ?_; rotate_left; · intro W hW; obtain ⟨d0, d6⟩ := hW; go_simp; try with_reducible rfl
  try simp only [Go.Tr.nz]
  refine tk 8 (v := ?_) rfl ?_ ?_; rotate_left; · intro W hW; obtain ⟨d0, d6⟩ := hW; go_simp; try with_reducible rfl
  try simp only [Go.Tr.nz]
  refine tk 9 (v := ?_) rfl ?_ ?_; rotate_left; · intro W hW; obtain ⟨d0, d6⟩ := hW; go_simp; try with_reducible rfl
  try simp only [Go.Tr.nz]
  refine rd 10 rfl (fun K hK => ?_)
  go_simp
  refine (p0_space HRX1.out.1).mono ?_
  rintro e w2 ⟨u, rfl, h2⟩
  have HRX2 := Lib.hid (HRX1.out.op h2)
  have hf := p0_fields HRX2.out.1 (Below.refl _ _)
  refine hK.out _ _ ⟨hf.1, hf.2.2.2.2.2.2.1⟩ (fun hH => ?_)
  clear h2 hf hK K
  refine tk 11 (v := ?_) rfl ?_ ?_; rotate_left; · intro W hW; go_simp; try with_reducible rfl
  try simp only [Go.Tr.nz]
  refine tk 12 (v := ?_) rfl ?_ ?_; rotate_left; · intro W hW; go_simp; try with_reducible rfl
  try simp only [Go.Tr.nz]
  refine tk 13 (v := ?_) rfl ?_ ?_; rotate_left; · intro W hW; go_simp; try with_reducible rfl
  try simp only [Go.Tr.nz]
  obtain ⟨w3, hrun, h3⟩ := p0_sp HRX2.out.1
  have HRX3 := Lib.hid (HRX2.out.op h3)
  refine rd 14 rfl (fun K hK => ?_)
  simp only at hrun
  go_simp
  have hf := p0_fields HRX3.out.1 (Below.refl _ _)
  refine hK.out _ _ ⟨hf.1, hf.2.2.2.2.2.2.1⟩ (fun hH => ?_)
  have hc : w3.cell? ⟨A.c, 7, none⟩ = some (.map (some A.mn)) := hf.2.2.2.2.2.2.2
  clear h3 hf hK K hrun
  refine wpAnyH_done (by kernel_rfl) ?_ _
  go_wp2_with fail
  have HRX3' := Lib.hid (HRX3.out.below (p0_parts _ _ _ _ _ _ _ _ _ _ _) (Below.refl _ _).drew)
  refine wp_region_held_drew (S := fun W => W.cell? ⟨A.c, 7, none⟩ = some (.map (some A.mn))) (by kernel_rfl) hc (fun hH => ?_)
  clear hc HRX3
  refine tk 0 (v := ?_) rfl ?_ ?_; rotate_left; · intro W hW; go_simp; try with_reducible rfl
  try simp only [Go.Tr.nz]
  refine tk 1 (v := ?_) rfl ?_ ?_; rotate_left; · intro W hW; go_simp; try with_reducible rfl
  try simp only [Go.Tr.nz]
  refine tk 2 (v := ?_) rfl ?_ ?_; rotate_left; · intro W hW; go_simp; try with_reducible rfl
  try simp only [Go.Tr.nz]
  refine tk 3 (v := ?_) rfl ?_ ?_; rotate_left; · intro W hW; go_simp; try with_reducible rfl
  try simp only [Go.Tr.nz]
  refine tk 4 (v := ?_) rfl ?_ ?_; rotate_left; · intro W hW; go_simp; try with_reducible rfl
  try simp only [Go.Tr.nz]
  refine rd 5 rfl (fun K hK => ?_)
  go_simp
  refine (p0_bag HRX3'.out.1).mono ?_
  rintro e w4 ⟨bg, rfl, h4⟩
  have HRX4 := Lib.hid (HRX3'.out.op h4)
  refine hK.out _ _ (p0_fields HRX4.out.1 (Below.refl _ _)).2.2.2.2.2.2.2 (fun hH => ?_)
  clear h4 hK K
  obtain ⟨w5, hrun, h5⟩ := p0_mn HRX4.out.1
  have HRX5 := Lib.hid (HRX4.out.op h5)
  refine rd 6 rfl (fun K hK => ?_)
  simp only at hrun
  go_simp
  refine hK.out _ _ (p0_fields HRX5.out.1 (Below.refl _ _)).2.2.2.2.2.2.2 (fun hH => ?_)
  clear h5 hK K hrun
  refine wpAnyH_done (by kernel_rfl) ?_ _
  go_wp2
  go_ret2
  obtain ⟨k1, k2⟩ := HRX5.out.fin (p0_parts _ _ _ _ _ _ _ _ _ _ _) HLT.out
  exact ⟨rfl, ⟨u, bg, p0_pp k1, HTZ.out.grow (U := F) k2⟩, k2⟩
end Go.Proofs.YtcdpnfchmpncjaaGreatDoor

namespace Go.Proofs.YtcdpnfchmpncjaaGreatDoor
open Go.RowKit Go.Tr Go.Shelf
variable {w w' : World} {F : Nat → Prop} {A : Ad} {S S1 : HS} {cnt : Nat → Nat} {ct : Nat → Nat → Nat}
structure MakeOk (S : HS) (i : Nat) (y : Sl) (count : Nat) : Prop where
  right : RightLay S.L
  room : RoomOk S (S.L.size count + 1)
  sl : S.sl[i]? = some y
  free : y.used = false
  low : ∀ j, j < i → usedB S.sl j = true
  gen : y.gen ≤ 255
  cn : count ≤ 1024
  slot : i < 4096
  rc : count = 0 ∨ S.L.record ≠ 0
  size : S.L.size count < 8192
  ml : S.mine.length ≤ 900000
  ok : ∀ addr S1, AllocSt S (S.L.size count + 1) addr S1 → addr + (S.L.size count + 1) ≤ S.C * S.Wd ∧ Owned S1.own S.Wd addr (S.L.size count + 1)
theorem Good.makeOk (h : Good S cnt) {i : Nat} {y : Sl} {c : Nat} (hy : S.sl[i]? = some y) (hu : y.used = false) (hlow : ∀ j, j < i → usedB S.sl j = true) (hg : y.gen < 255) (hc : c ≤ 1024) (hi : i < 4096) (hr : c = 0 ∨ S.L.record ≠ 0) (hs : S.L.size c < 8192)
    (hroom : S.a + (S.L.size c + 1) ≤ S.en ∨ ∃ q, q + (S.L.size c / S.Wd + 1) ≤ S.C ∧ ∀ k, q ≤ k → k < q + (S.L.size c / S.Wd + 1) → S.own.getD k 0 = 0) : MakeOk S i y c := by
  refine ⟨h.right, h.room (by omega) (by omega) ?_, hy, hu, hlow, by omega, hc, hi, hr, hs, by have := h.mine_len; omega, fun ad S1 ha => ?_⟩
  · rw [show S.L.size c + 1 - 1 = S.L.size c by omega]; exact hroom
  · obtain ⟨h1, h2, -⟩ := h.alloc (by omega) ha
    have e : S1.C = S.C ∧ S1.Wd = S.Wd := by rcases ha with ⟨_, _, e⟩ | ⟨_, c, q, _, _, _, _, e⟩ <;> rw [e] <;> exact ⟨rfl, rfl⟩
    exact ⟨by rw [← e.1, ← e.2]; exact h1.in_le h2.ap, by rw [← e.2]; exact h1.in_owned h2.ap (by omega)⟩
set_option maxRecDepth 100000 in
set_option maxHeartbeats 1000000 in
theorem emake_any {y : Sl} {i c : Nat} (w : World) (h : HeapF w F A S) (hoff : S.on = false) (hm : MakeOk S i y c) :
    Calls Tryz.prog 10 #[.pointer (some ⟨A.h, 0, none⟩), .int .i64 1, .int .i64 1, .int .i64 c] w fun e w' => e = .returned (.tuple #[.agg #[.int .i64 i, .int .i64 (y.gen + 1 : Nat)], .int .i64 0]) ∧ ∃ addr S1, AllocSt S (S.L.size c + 1) addr S1 ∧ HeapF w' (grow F w w') A (mkS S1 i (y.gen + 1) addr c) ∧ Only F w w' := by
  have hba : Below w.heap.size w (w.alloc (.cells #[.int .i64 0, .int .i64 0] 38)) := (Below.refl _ w).alloc (Nat.le_refl _) _
  have HMK := Lib.hid (cmake_any (count := c) _ (h.below hba) hm.right hm.room hm.sl hm.free hm.low hm.gen hm.cn hm.slot hm.rc hm.size hm.ml hm.ok)
  have HRN := Lib.hid ((Run.start h).below hba)
  have HLT := Lib.hid h.lt
  obtain ⟨e0, e1⟩ := h.evf0 hoff hba
  obtain ⟨rb, hrb⟩ : ∃ rb, rb = w.heap.size := ⟨_, rfl⟩
  have HBX : Hid (Bx (w.alloc (.cells #[.int .i64 0, .int .i64 0] 38)) F rb (.cells #[.int .i64 0, .int .i64 0] 38 (0, 0))) := by rw [hrb]; exact Bx.new h.lt
  have HRB : Hid (w.heap.size ≤ rb) := Nat.le_of_eq hrb.symm
  obtain ⟨gn, hgn⟩ : ∃ gn, gn = y.gen + 1 := ⟨_, rfl⟩
  rw [← hgn] at HMK ⊢
  clear h hm hba hoff hgn
  go_enter Tryz.func10, Tryz.ntmps10
  go_wp2_with fail
  rw [← hrb]
  clear hrb
  generalize w.alloc (.cells #[.int .i64 0, .int .i64 0] 38) = wa at *
  refine HMK.out.mono ?_
  rintro e w2 ⟨rfl, addr, S1, ha, h2⟩
  have HA := Lib.hid ha
  have HRN2 := Lib.hid (HRN.out.op h2)
  have HB2 := Lib.hid (HBX.out.op h2.2)
  have HBK := Lib.hid HB2.out.2
  clear ha h2 e0 e1
  have r0 := cells_of_block HBK.out 0
  have r1 := cells_of_block HBK.out 1
  simp at r0 r1
  obtain ⟨r0, f0⟩ := r0
  obtain ⟨r1, f1⟩ := r1
  go_wp2_with fail
  have hbk : ((w2.setCell ⟨rb, 0, none⟩ (.int .i64 i)).setCell ⟨rb, 1, none⟩ (.int .i64 gn)).heap[rb]? = some (.cells #[.int .i64 i, .int .i64 gn] 38 (0, 0)) := by
    simpa using block_setCell (block_setCell HBK.out 0 (.int .i64 i)) 1 (.int .i64 gn)
  try simp only [Exit.inBlock, Exit.then]
  exact bodyPost_ret (results_blk rfl _ _ rb _ _ _ _ rfl hbk Tryz.underlying38 rfl rfl) rfl ⟨rfl, addr, S1, HA.out, ((HRN2.out.loc HRB.out HB2.out.1).loc HRB.out HB2.out.1).fin HLT.out⟩
end Go.Proofs.YtcdpnfchmpncjaaGreatDoor

namespace Go.Proofs.YtcdpnfchmpncjaaGreatDoor
open Go.RowKit Go.Tr Go.Shelf
variable {w w' : World} {F : Nat → Prop} {A : Ad} {S S1 : HS} {cnt : Nat → Nat} {ct : Nat → Nat → Nat}
def begS (S : HS) : HS := { S with on := true, ps2 := [], a2 := 0, en2 := 0, gs := GS.new.put (S.mine.filter (heldB S.sl)) }
structure EvJ (J : Nat → HS → Prop) (cnt : Nat → Nat) : Prop where
  step : StepJ J
  le : ∀ n S, J n S → n ≤ 2000
  good : ∀ n S, J n S → Good S cnt
  on : ∀ n S, J n S → S.on = true
  gen : ∀ n S, J n S → ∀ (i : Nat) (x : Sl), S.sl[i]? = some x → x.used = true → x.gen < 255
theorem ebegin_good (w : World) (h : HeapF w F A S) (hg : Good S cnt) (hoff : S.on = false) : Calls Tryz.prog 25 #[.pointer (some ⟨A.h, 0, none⟩), .int .i64 1] w fun e w' => e = .returned (.int .i64 0) ∧ ∃ u g, HeapF w' (grow F w w') { A with u2 := u, gl := g } (begS S) ∧ Only F w w' :=
  ebegin_any w h hoff (by have := hg.mine_len; omega) (fun z hz => by
    obtain ⟨i, x, rfl, hx, hu⟩ := (hg.mine z).1 hz
    exact ⟨i, x, rfl, hx, hu, (hg.ent i x hx hu).pin⟩)
def TfSt (w : World) (F : Nat → Prop) (A : Ad) (J : Nat → HS → Prop) (rb k : Nat) (W : World) : Prop := ∃ F' S' n, Run w F W F' A S' ∧ J n S' ∧ (k ≤ n ∨ S'.gs.wait = 0) ∧ Bx W F' rb (.cells #[.slice none 0 0, .int .i64 0] 44 (0, 0))
def TfEnd (w : World) (F : Nat → Prop) (A : Ad) (J : Nat → HS → Prop) (cnt : Nat → Nat) (v : Value) (w' : World) : Prop := ∃ (sv : Value) (fr : List Int) (n : Nat) (SJ S3 : HS), v = .agg #[sv, .int .i64 ((SJ.mine.filter (whiteB SJ)).length : Nat)] ∧ (∃ a c, sv = .slice a fr.length c) ∧ J n SJ ∧ SJ.gs.wait = 0 ∧ FinR SJ cnt S3 fr ∧ HeapF w' (grow F w w') A S3 ∧ Only F w w'
set_option maxRecDepth 100000 in
set_option maxHeartbeats 1000000 in
theorem tfinish_any {J : Nat → HS → Prop} {b : Nat} (hJ : EvJ J cnt) (w : World) (h : HeapF w F A S) (hg : Good S cnt) (hoff : S.on = false) (h0 : J 0 (begS S)) (hb : 1 ≤ b) (hb2 : b ≤ 1000000) :
    Calls Tryz.prog 12 #[.pointer (some ⟨A.h, 0, none⟩), .int .i64 1, .int .i64 b] w fun e w' => ∃ v u g, e = .returned (.tuple #[v, .bool true]) ∧ TfEnd w F { A with u2 := u, gl := g } J cnt v w' := by
  have hba : Below w.heap.size w (w.alloc (.cells #[.slice none 0 0, .int .i64 0] 44)) := (Below.refl _ w).alloc (Nat.le_refl _) _
  have HBG := Lib.hid (ebegin_good _ (h.below hba) hg hoff)
  have HRN := Lib.hid ((Run.start h).below hba)
  have HLT := Lib.hid h.lt
  obtain ⟨rb, hrb⟩ : ∃ rb, rb = w.heap.size := ⟨_, rfl⟩
  have HBX : Hid (Bx (w.alloc (.cells #[.slice none 0 0, .int .i64 0] 44)) F rb (.cells #[.slice none 0 0, .int .i64 0] 44 (0, 0))) := by rw [hrb]; exact Bx.new h.lt
  have HRB : Hid (w.heap.size ≤ rb) := Nat.le_of_eq hrb.symm
  have HJ := Lib.hid hJ
  have HJ0 := Lib.hid h0
  have HB1 := Lib.hid (And.intro hb hb2)
  clear h hg hoff hJ h0 hba hb hb2
  go_enter Tryz.func12, Tryz.ntmps12
  go_wp2_with fail
  rw [← hrb]
  clear hrb
  generalize w.alloc (.cells #[.slice none 0 0, .int .i64 0] 44) = wa at *
  refine HBG.out.mono ?_
  rintro e w2 ⟨rfl, u, g, h2⟩
  have HRN2 := Lib.hid (HRN.out.op h2)
  have HB2 := Lib.hid (HBX.out.op h2.2)
  clear h2
  go_wp2_with fail
  go_loopw [17] (fun v wr => ∃ k : Nat, v = .int .i64 (k : Int) ∧ k ≤ 3000 ∧ Hid (TfSt w F { A with u2 := u, gl := g } J rb k wr)) (fun v _ => 3000 - (intOf v).toNat)
  case atStart => exact ⟨0, rfl, by omega, _, _, 0, HRN2.out, HJ0.out, Or.inl (Nat.le_refl _), HB2.out⟩
  case round =>
    obtain ⟨k, rfl, hk, HR⟩ := hrel
    obtain ⟨F', S', n, hrun, hj, hn, hbx⟩ := HR.out
    have HRW := Lib.hid hrun
    have HJN := Lib.hid hj
    have HKN := Lib.hid hn
    have HBW := Lib.hid hbx
    obtain ⟨wt, hwt⟩ : ∃ wt, wt = S'.gs.wait := ⟨_, rfl⟩
    have HRY := Lib.hid (eready_any _ hrun.heap (HJ.out.on n S' hj))
    rw [← hwt] at HRY
    have HWT := Lib.hid hwt
    clear hrun hj hn hbx hwt HR
    by_cases hc : k < 3000 ∧ wt ≠ 0
    · obtain ⟨hlt, hw0⟩ := hc
      have hlt2 : (k : Int) < 3000 := by omega
      have HKL : Hid (k ≤ n) := HKN.out.resolve_right (fun e => hw0 (by rw [HWT.out]; exact e))
      rw [show decide (wt = 0) = false by simpa using hw0] at HRY
      clear hw0
      go_wp2_with fail
      refine HRY.out.mono ?_
      rintro e w3 ⟨rfl, rfl⟩
      go_wp2_with fail
      refine (estep_any HJ.out.step _ HRW.out.heap HJN.out HB1.out.1 HB1.out.2).mono ?_
      rintro e w4 ⟨⟨d, rfl⟩, S4, n4, hj4, hn4, hp4, h4⟩
      have HRN4 := Lib.hid (HRW.out.op h4)
      have HB4 := Lib.hid (HBW.out.op h4.2)
      have HJ4 := Lib.hid hj4
      have HK4 : Hid (k + 1 ≤ n4 ∨ S4.gs.wait = 0) := hp4.imp (fun h => by have := HKL.out; omega) id
      clear hj4 hn4 hp4 h4
      go_wp2
      go_roundw
      case rel => exact ⟨k + 1, by go_num, by omega, _, S4, n4, HRN4.out, HJ4.out, HK4.out, HB4.out⟩
      case measure => simp [intOf]; omega
    · have HW0 : Hid (S'.gs.wait = 0) := by
        show _ = _
        rcases HKN.out with h | h
        · refine Classical.byContradiction fun hn => hc ⟨?_, by rw [HWT.out]; exact hn⟩
          have := HJ.out.le n S' HJN.out
          omega
        · exact h
      have hwt0 : wt = 0 := HWT.out.trans HW0.out
      subst hwt0
      clear hc
      have HFI := Lib.hid (efinish_good _ HRW.out.heap (HJ.out.good n S' HJN.out) (HJ.out.on n S' HJN.out) HW0.out (HJ.out.gen n S' HJN.out))
      obtain ⟨nl, hnl⟩ : ∃ nl, nl = (S'.mine.filter (whiteB S')).length := ⟨_, rfl⟩
      rw [← hnl] at HFI
      have HNL := Lib.hid hnl
      clear hnl
      by_cases hlt : k < 3000
      focus
        have hlt2 : (k : Int) < 3000 := by omega
        go_wp2_with fail
        refine HRY.out.mono ?_
        rintro e w3 ⟨rfl, rfl⟩
        go_wp2_with fail
      rotate_left
      focus
        have hlt2 : ¬ ((k : Int) < 3000) := by omega
        go_wp2_with fail
      all_goals
        refine HFI.out.mono ?_
        rintro e w4 ⟨v, fr, S3, rfl, ⟨va, vc, rfl⟩, hfr, h4⟩
        have HRN4 := Lib.hid (HRW.out.op h4)
        have HB4 := Lib.hid (HBW.out.op h4.2)
        have HFR := Lib.hid hfr
        obtain ⟨fl, hfl⟩ : ∃ fl, fl = fr.length := ⟨_, rfl⟩
        rw [← hfl]
        have HFL := Lib.hid hfl
        clear hfr h4 hfl
        have hba : Below w4.heap.size w4 (w4.alloc (.cells #[.slice va fl vc, .int .i64 nl] 44)) := (Below.refl _ w4).alloc (Nat.le_refl _) _
        have HRN5 := Lib.hid (HRN4.out.below hba)
        have HB5 := Lib.hid (HB4.out.below hba)
        have HBK := Lib.hid HB5.out.2
        clear hba
        have r0 := cells_of_block HBK.out 0
        have r1 := cells_of_block HBK.out 1
        simp at r0 r1
        obtain ⟨r0, f0⟩ := r0
        obtain ⟨r1, f1⟩ := r1
        go_wp2_with fail
        have hbk : (((w4.alloc (.cells #[.slice va fl vc, .int .i64 nl] 44)).setCell ⟨rb, 0, none⟩ (.slice va fl vc)).setCell ⟨rb, 1, none⟩ (.int .i64 nl)).heap[rb]? = some (.cells #[.slice va fl vc, .int .i64 nl] 44 (0, 0)) := by
          simpa using block_setCell (block_setCell HBK.out 0 (.slice va fl vc)) 1 (.int .i64 nl)
        have hrn := (HRN5.out.loc (j := 0) (v := .slice va fl vc) HRB.out HB5.out.1).loc (j := 1) (v := .int .i64 nl) HRB.out HB5.out.1
        try simp only [Exit.inBlock, Exit.then]
        exact bodyPost_ret (results_blk rfl _ _ rb _ _ _ _ rfl hbk Tryz.underlying44 rfl rfl) rfl ⟨_, u, g, rfl, .slice va fl vc, fr, n, S', S3, by rw [← HNL.out], ⟨va, vc, by rw [HFL.out]⟩, HJN.out, HW0.out, HFR.out, hrn.fin HLT.out⟩
end Go.Proofs.YtcdpnfchmpncjaaGreatDoor

namespace Go.Proofs.YtcdpnfchmpncjaaGreatDoor
open Go.RowKit Go.Tr Go.Shelf
def L22 : Lay := ⟨2, [1], 0, []⟩
theorem L22_right : RightLay L22 := ⟨by decide, by decide, by decide, ⟨by decide, by decide⟩, ⟨by decide, by decide⟩⟩
theorem L22_size (c : Nat) : L22.size c = 2 := by simp [L22, Lay.size]
theorem L22_slots : slotsL L22 0 = [1] := by decide
def z0 : Nat → Nat := fun _ => 0
variable {S S1 : HS} {cnt : Nat → Nat} {ct : Nat → Nat → Nat} {o : Nat → Nat → Option (Nat × Nat)}
def Fill3 (ps : List (Nat × Nat)) (a en m : Nat) : Prop := ps.length = (m + 1) / 2 ∧ (∀ p ∈ ps, p.2 = 1) ∧ (m % 2 = 1 → a + 5 = en) ∧ (m % 2 = 0 → en ≤ a + 2)
theorem Fill3.alloc {m ad : Nat} (h : Fill3 S.ps S.a S.en m) (hW : S.Wd = 8) (ha : AllocSt S 3 ad S1) : Fill3 S1.ps S1.a S1.en (m + 1) := by
  obtain ⟨h1, h2, h3, h4⟩ := h
  rcases ha with ⟨k1, rfl, rfl⟩ | ⟨k1, c, q, k2, -, -, rfl, rfl⟩
  · have hm : m % 2 = 1 := by
      rcases Nat.mod_two_eq_zero_or_one m with h | h
      · have := h4 h; omega
      · exact h
    have := h3 hm
    exact ⟨by simp only; omega, h2, fun h => by omega, fun _ => by simp only; omega⟩
  · have hm : m % 2 = 0 := by
      rcases Nat.mod_two_eq_zero_or_one m with h | h
      · exact h
      · have := h3 h; omega
    have hq : q = 0 := by rw [k2, hW]
    subst hq
    refine ⟨by simp only [List.length_append, List.length_singleton]; omega, fun p hp => ?_, fun _ => ?_, fun h => by omega⟩
    · rcases List.mem_append.1 hp with hp | hp
      · exact h2 p hp
      · rw [List.mem_singleton.1 hp]
    · simp only [if_true, hW]
      omega
theorem chunksL_one : ∀ {ps : List (Nat × Nat)}, (∀ p ∈ ps, p.2 = 1) → (chunksL ps).length = ps.length
  | [], _ => rfl
  | p :: ps, h => by
    have := chunksL_one (fun q hq => h q (List.mem_cons_of_mem _ hq))
    unfold chunksL at this ⊢
    rw [List.flatMap_cons, List.length_append, runL_length, List.length_cons, h p (List.mem_cons_self ..), this]
    omega
theorem AllocTo.chunk {ad : Nat} (h : Good S cnt) (hon : S.on = true) (hW : S.Wd = 8) (ha : AllocTo S 3 ad S1) : ∃ c, (c, 1) ∈ S1.ps2 ∧ ad / 8 = c ∧ (ad + 2) / 8 = c := by
  rcases ha with ⟨k1, rfl, rfl⟩ | ⟨k1, c, q, k2, -, -, rfl, rfl⟩
  · obtain ⟨⟨c, hc, h1, h2⟩, -⟩ := (h.at2 hon).2.2 (by omega)
    rw [hW] at h1 h2
    exact ⟨c, hc, by omega, by omega⟩
  · have hq : q = 0 := by rw [k2, hW]
    subst hq
    refine ⟨c, by simp, ?_, ?_⟩ <;> rw [hW] <;> omega
theorem AllocSt.chunk {ad : Nat} (h : Good S cnt) (hW : S.Wd = 8) (ha : AllocSt S 3 ad S1) : ∃ c, (c, 1) ∈ S1.ps ∧ ad / 8 = c ∧ (ad + 2) / 8 = c := by
  rcases ha with ⟨k1, rfl, rfl⟩ | ⟨k1, c, q, k2, -, -, rfl, rfl⟩
  · obtain ⟨⟨c, hc, h1, h2⟩, -⟩ := h.at1.2.2 (by omega)
    rw [hW] at h1 h2
    exact ⟨c, hc, by omega, by omega⟩
  · have hq : q = 0 := by rw [k2, hW]
    subst hq
    refine ⟨c, by simp, ?_, ?_⟩ <;> rw [hW] <;> omega
structure Ev3 (P : List (Nat × Nat)) (ct : Nat → Nat → Nat) (o : Nat → Nat → Option (Nat × Nat)) (S : HS) (mv : List Int) : Prop where
  good : Good S z0
  cont : Cont S z0 ct
  link : Linked S z0 ct o
  on : S.on = true
  wd : S.Wd = 8
  lay : S.L = L22
  ps : S.ps = P
  one : ∀ p ∈ P, p.2 = 1
  room : P.length + (S.mine.length + 1) / 2 ≤ S.C
  fill : Fill3 S.ps2 S.a2 S.en2 mv.length
  nd : mv.Nodup
  mvu : ∀ z ∈ mv, z ∈ S.mine
  place : ∀ (i : Nat) (x : Sl), S.sl[i]? = some x → x.used = true → (((x.addr / 8 : Nat) : Int) ∈ chunksL P ↔ (i : Int) ∉ mv)
variable {P : List (Nat × Nat)} {mv : List Int}
theorem Ev3.gs (h : Ev3 P ct o S mv) (g : GS) : Ev3 P ct o { S with gs := g } mv := ⟨h.good.gs g, h.cont, h.link, h.on, h.wd, h.lay, h.ps, h.one, h.room, h.fill, h.nd, h.mvu, h.place⟩
theorem one_big {ps : List (Nat × Nat)} (h : ∀ p ∈ ps, p.2 = 1) (c : Nat) : bigPart ps c = false := by
  unfold bigPart
  rw [List.any_eq_false]
  intro p hp
  simp [h p hp]
theorem Ev3.moves (h : Ev3 P ct o S mv) {i : Nat} {x : Sl} (hx : S.sl[i]? = some x) (hu : x.used = true) (hn : (i : Int) ∉ mv) : (bigPart S.ps (x.addr / S.Wd) || !hasL (chunksL S.ps) ((x.addr / S.Wd : Nat) : Int)) = false := by
  rw [h.ps, one_big h.one, h.wd, (hasL_iff _ _).2 ((h.place i x hx hu).2 hn)]
  rfl
theorem Ev3.less (h : Ev3 P ct o S mv) {i : Nat} {x : Sl} (hx : S.sl[i]? = some x) (hu : x.used = true) (hn : (i : Int) ∉ mv) : mv.length + 1 ≤ S.mine.length := by
  have := nodup_sub (l := (i : Int) :: mv) (m := S.mine) (List.nodup_cons.2 ⟨hn, h.nd⟩) (fun z hz => by
    rcases List.mem_cons.1 hz with rfl | hz
    · exact (h.good.mine _).2 ⟨i, x, rfl, hx, hu⟩
    · exact h.mvu z hz)
  simpa using this
theorem Ev3.free (h : Ev3 P ct o S mv) {i : Nat} {x : Sl} (hx : S.sl[i]? = some x) (hu : x.used = true) (hn : (i : Int) ∉ mv) : S.a2 + 3 ≤ S.en2 ∨ ∃ c, c + 1 ≤ S.C ∧ S.own.getD c 0 = 0 := by
  have hl := h.less hx hu hn
  obtain ⟨f1, f2, f3, f4⟩ := h.fill
  rcases Nat.mod_two_eq_zero_or_one mv.length with hm | hm
  · refine Or.inr ?_
    have hr := h.room
    obtain ⟨c, hc, h0⟩ := h.good.free1 (by
      unfold HS.all
      rw [if_pos h.on, chunksL_one (fun p hp => (List.mem_append.1 hp).elim (fun hp => h.one p (h.ps ▸ hp)) (f2 p)), List.length_append, h.ps, f1]
      omega)
    exact ⟨c, hc, h0⟩
  · have := f3 hm
    exact Or.inl (by omega)
theorem Ev3.lookPre (h : Ev3 P ct o S mv) {i : Nat} {x : Sl} (hx : S.sl[i]? = some x) (hu : x.used = true) (hn : (i : Int) ∉ mv) (hsm : S.gs.Small 500000) : LookPre S i x 0 (o i) := by
  refine h.good.lookPre h.cont h.link h.on hx hu hsm (fun _ => ?_)
  rw [h.lay, L22_size, h.wd]
  rcases h.free hx hu hn with h1 | ⟨c, h1, h2⟩
  · exact Or.inl h1
  · exact Or.inr ⟨c, h1, fun k k1 k2 => by rw [show k = c by omega]; exact h2⟩
theorem Ev3.moved (h : Ev3 P ct o S mv) {i : Nat} {x : Sl} {S2 : HS} (hx : S.sl[i]? = some x) (hu : x.used = true) (hn : (i : Int) ∉ mv) (hm : MovedSt S i x (S.L.size 0 + 1) S2) : Ev3 P ct o S2 (mv ++ [(i : Int)]) := by
  obtain ⟨g1, g2⟩ := h.good.moved h.on hx hu hm
  have hlk := h.link.moved hm hx
  obtain ⟨e1, e2, e3, e4, e5, e6, e7, e8⟩ := hm.same
  have hnd : (mv ++ [(i : Int)]).Nodup := List.nodup_append.2 ⟨h.nd, List.nodup_cons.2 ⟨by simp, List.nodup_nil⟩, fun a ha b hb => by rw [List.mem_singleton.1 hb]; exact fun e => hn (e ▸ ha)⟩
  have hmine : (i : Int) ∈ S.mine := (h.good.mine _).2 ⟨i, x, rfl, hx, hu⟩
  have hps2 : S2.ps = P := e6.trans h.ps
  rcases hm with ⟨hb, -⟩ | ⟨-, ad, S1, ha, rfl⟩
  · rw [h.moves hx hu hn] at hb; cases hb
  · rw [h.lay, L22_size] at ha
    have hf := h.fill.alloc (S := S.swap) h.wd ha.swap
    obtain ⟨c, hc, hc1, -⟩ := ha.chunk h.good h.on h.wd
    refine ⟨g1, g2 ct h.cont, hlk, e7.trans h.on, e2.trans h.wd, e4.trans h.lay, hps2, h.one, by rw [e5, e1]; exact h.room, by rw [List.length_append]; exact hf, hnd, fun z hz => ?_, fun j y hy hyu => ?_⟩
    · rw [e5]
      rcases List.mem_append.1 hz with hz | hz
      · exact h.mvu z hz
      · rw [List.mem_singleton.1 hz]; exact hmine
    · obtain ⟨-, -, -, -, f5, -⟩ := ha.same
      have hy' : (S1.sl.set i ⟨x.gen, x.used, ad, x.region, x.held, x.pinned⟩)[j]? = some y := hy
      by_cases hj : j = i
      · subst hj
        rw [List.getElem?_set_self (by rw [f5]; exact (List.getElem?_eq_some_iff.1 hx).1)] at hy'
        cases hy'
        simp only [hc1]
        constructor
        · intro hm
          obtain ⟨p, hp, k, hk, k1, k2⟩ := mem_chunksL.1 hm
          have hon1 : S1.on = true := ha.same.2.2.2.2.2.2.2.1.trans h.on
          have hpap := g1.pap
          unfold HS.all at hpap
          simp only [hon1, if_true] at hpap
          have hp1 : S1.ps = P := ha.same.2.2.2.2.2.2.1.trans h.ps
          have hap := (List.pairwise_append.1 hpap).2.2 p (by rw [hp1]; exact hp) _ hc
          unfold PApart at hap
          simp only at hap
          omega
        · intro hn2
          exact absurd (List.mem_append_right _ (List.mem_singleton.2 rfl)) hn2
      · rw [List.getElem?_set_ne (fun e => hj e.symm), f5] at hy'
        rw [h.place j y hy' hyu]
        constructor
        · intro k hk
          rcases List.mem_append.1 hk with hk | hk
          · exact k hk
          · have := List.mem_singleton.1 hk; omega
        · exact fun k hk => k (List.mem_append_left _ hk)
end Go.Proofs.YtcdpnfchmpncjaaGreatDoor

namespace Go.Proofs.YtcdpnfchmpncjaaGreatDoor
open Go.RowKit Go.Tr Go.Shelf
variable {S S1 S3 : HS} {ct : Nat → Nat → Nat} {o : Nat → Nat → Option (Nat × Nat)} {P : List (Nat × Nat)} {mv fr : List Int}
theorem Ev3.all_one (h : Ev3 P ct o S mv) : ∀ p ∈ S.all, p.2 = 1 := fun p hp => by
  unfold HS.all at hp
  rw [if_pos h.on] at hp
  exact (List.mem_append.1 hp).elim (fun hp => h.one p (h.ps ▸ hp)) (h.fill.2.1 p)
theorem Ev3.fin (h : Ev3 P ct o S mv) (hf : FinR S z0 S3 fr) (hall : ∀ z ∈ S.mine, S.gs.color z ≠ 0 → z ∈ mv) : fr = chunksL P ∧ S3.ps = S.ps2 := by
  obtain ⟨stay, h1, h2, h3⟩ := hf.ps
  have hno : ∀ c ∈ chunksL P, c ∉ stay := fun c hc hs => by
    obtain ⟨i, x, k, hx, hu, rfl, k1, k2⟩ := (h3 c).1 hs
    have hsl := hf.sl i
    rw [hx] at hsl
    by_cases hg : (i : Int) ∈ S.mine ∧ S.gs.color i = 0
    · rw [if_pos hg] at hsl
      cases hy : S.sl[i]? with
      | none => rw [hy] at hsl; cases hsl
      | some y => rw [hy] at hsl; cases hsl; cases hu
    · rw [if_neg hg] at hsl
      have hm : (i : Int) ∈ S.mine := (h.good.mine _).2 ⟨i, x, rfl, hsl.symm, hu⟩
      have hmv := hall _ hm (fun e => hg ⟨hm, e⟩)
      have hpl := h.place i x hsl.symm hu
      obtain ⟨p, hp, p1, p2, -⟩ := (h.good.ent i x hsl.symm hu).ap
      have hp1 := h.all_one p hp
      rw [h.lay, L22_size, h.wd, hp1] at p2
      rw [h.wd] at p1
      rw [h.wd] at k1
      rw [h.wd, h.lay, L22_size] at k2
      have hk : k = x.addr / 8 := by omega
      rw [hk] at hc
      exact hpl.1 hc hmv
  refine ⟨?_, ?_⟩
  · rw [h2, h.ps]
    exact filter_all (fun c hc => by simp [hno c hc])
  · rw [h1, h.ps]
    have : P.filter (fun p => decide ((p.1 : Int) ∈ stay)) = [] := by
      rw [List.filter_eq_nil_iff]
      intro p hp
      have : (p.1 : Int) ∉ stay := hno _ (mem_chunksL.2 ⟨p, hp, p.1, rfl, Nat.le_refl _, by rw [h.one p hp]; omega⟩)
      simp [this]
    rw [this, List.nil_append]
def ctA : Nat → Nat → Nat := fun i p => if i = 0 ∧ p = 1 then linkN 0 1 else 0
def oA : Nat → Nat → Option (Nat × Nat) := fun i p => if i = 0 ∧ p = 1 then some (0, 1) else none
structure AlB (S : HS) : Prop where
  good : Good S z0
  cont : Cont S z0 ctA
  on : S.on = false
  c : S.C = 4
  wd : S.Wd = 8
  lay : S.L = L22
  fill : Fill3 S.ps S.a S.en 2
  mine : S.mine = [0, 1]
  s0 : ∃ x : Sl, S.sl[0]? = some x ∧ x.used = true ∧ x.held = true
  s1 : ∃ x : Sl, S.sl[1]? = some x ∧ x.used = true ∧ x.held = false
  gen : ∀ (i : Nat) (x : Sl), S.sl[i]? = some x → x.used = true → x.gen < 255
def AlJ (P : List (Nat × Nat)) (n : Nat) (S : HS) : Prop := S.mine = [0, 1] ∧ (∀ (i : Nat) (x : Sl), S.sl[i]? = some x → x.used = true → x.gen < 255) ∧
  ((n = 0 ∧ Ev3 P ctA oA S [] ∧ Rep S.gs [0] [] ∧ S.gs.Small 100) ∨ (n = 1 ∧ Ev3 P ctA oA S [0] ∧ Rep S.gs [] [0] ∧ S.gs.Small 200))
theorem AlB.link (h : AlB S) : Linked S z0 ctA oA := fun i x hx hu p hp => by
  rw [h.lay, show z0 i = 0 from rfl, L22_slots] at hp
  have hp1 := List.mem_singleton.1 hp
  subst hp1
  by_cases hi : i = 0
  · subst hi
    refine ⟨fun j g e => ?_, rfl, fun j g e => ?_⟩
    · have e' : some (0, 1) = some (j, g) := e
      cases e'
      decide
    · have e' : some (0, 1) = some (j, g) := e
      cases e'
      obtain ⟨y, h1, h2, -⟩ := h.s0
      exact ⟨y, h1, h2⟩
  · have hc : ctA i 1 = 0 := by unfold ctA; rw [if_neg (fun e => hi e.1)]
    have ho : oA i 1 = none := by unfold oA; rw [if_neg (fun e => hi e.1)]
    rw [ho, hc]
    exact ⟨fun j g e => (by cases e), rfl, fun j g e => (by cases e)⟩
theorem AlB.begs (h : AlB S) : AlJ S.ps 0 (begS S) := by
  have hf : S.mine.filter (heldB S.sl) = [0] := by
    obtain ⟨x, a1, -, a2⟩ := h.s0
    obtain ⟨y, b1, -, b2⟩ := h.s1
    rw [h.mine]
    simp [List.filter, heldB, a1, b1, a2, b2]
  have hg : (begS S).gs = GS.new.put [0] := by
    unfold begS
    rw [hf]
  obtain ⟨g1, g2⟩ := h.good.begin h.on (begS S).gs
  refine ⟨h.mine, h.gen, Or.inl ⟨rfl, ⟨g1, g2 _ h.cont, h.link, rfl, h.wd, h.lay, rfl, h.fill.2.1, ?_, ⟨rfl, fun p hp => by (cases hp), fun e => by (cases e), fun _ => Nat.zero_le _⟩, List.nodup_nil, fun z hz => by (cases hz), fun i x hx hu => ?_⟩, ?_, ?_⟩⟩
  · show S.ps.length + (S.mine.length + 1) / 2 ≤ S.C
    rw [h.mine, h.c, h.fill.1]
    decide
  · refine ⟨fun _ => by simp, fun _ => ?_⟩
    obtain ⟨p, hp, p1, p2, -⟩ := (h.good.ent i x hx hu).ap
    unfold HS.all at hp
    rw [h.on, if_neg (by decide)] at hp
    rw [h.wd] at p1
    rw [h.wd, h.lay, L22_size, h.fill.2.1 p hp] at p2
    exact mem_chunksL.2 ⟨p, hp, x.addr / 8, rfl, by omega, by rw [h.fill.2.1 p hp]; omega⟩
  · rw [hg]; exact Rep.new.put [0]
  · rw [hg]
    exact (GS.Small.put (N := 0) [0] (by unfold GS.Small GS.new; simp)).mono (by decide)
theorem AlJ.evJ (P : List (Nat × Nat)) : EvJ (AlJ P) z0 := by
  refine ⟨?_, ?_, ?_, ?_, fun n S h => h.2.1⟩
  · rintro n S ⟨hm, hgen, ⟨rfl, hev, hrep, hsm⟩ | ⟨rfl, hev, hrep, hsm⟩⟩
    · refine ⟨hev.on, hsm.mono (by decide), Or.inr ?_⟩
      obtain ⟨n1, n2⟩ := hrep.next_some
      obtain ⟨i, x, e, hx, hu⟩ := (hev.good.mine 0).1 (by rw [hm]; simp)
      have hi : i = 0 := by omega
      subst hi
      have hev2 := hev.gs S.gs.next.2
      have hlk := hev2.lookPre hx hu (by simp) ((Small_next hsm).mono (by decide))
      refine ⟨0, x, 0, oA 0, n1, by rw [hev.lay, L22_size]; decide, hlk, fun S2 hm2 => ?_⟩
      have hmv := hev2.moved hx hu (by simp) hm2
      have e8 := hm2.same
      have htg : tgt (refsL S.L 0 (oA 0)) = [0] := by rw [hev.lay]; decide
      have hgs : S2.gs = S.gs.next.2 := e8.2.2.2.2.2.2.2
      refine ⟨e8.2.2.2.2.1.trans hm, fun j y hy hyu => ?_, Or.inr ⟨rfl, hmv.gs _, ?_, ?_⟩⟩
      · obtain ⟨y0, k1, k2, k3, -⟩ := hm2.back hx hy
        rw [k3]
        exact hgen j y0 k1 (k2 ▸ hyu)
      · show Rep ((S2.gs.paint (0 : Nat)).put _) [] [0]
        rw [htg, hgs, n2.paint_old (by simp)]
        exact n2.put [0]
      · show ((S2.gs.paint (0 : Nat)).put _).Small 200
        rw [htg, hgs, n2.paint_old (by simp)]
        exact (GS.Small.put [0] (Small_next hsm)).mono (by decide)
    · refine ⟨hev.on, hsm.mono (by decide), Or.inl ?_⟩
      obtain ⟨n1, n2⟩ := hrep.next_none
      refine ⟨n1, by rw [n2.cnt]; rfl, hm, hgen, Or.inr ⟨rfl, hev.gs _, n2, ?_⟩⟩
      have : S.gs.next.2 = { S.gs with q := [] } := by
        have hlv := hrep.live
        unfold GS.next
        rw [nextQ_none hlv]
      show S.gs.next.2.Small 200
      rw [this]
      obtain ⟨a1, a2, a3, a4, a5⟩ := hsm
      exact ⟨a1, a2, a3, a4, by simp⟩
  · rintro n S ⟨-, -, ⟨rfl, -⟩ | ⟨rfl, -⟩⟩ <;> omega
  · rintro n S ⟨-, -, ⟨-, h, -⟩ | ⟨-, h, -⟩⟩ <;> exact h.good
  · rintro n S ⟨-, -, ⟨-, h, -⟩ | ⟨-, h, -⟩⟩ <;> exact h.on
theorem AlJ.wait {n : Nat} (h : AlJ P n S) (hn : 0 < n ∨ S.gs.wait = 0) : S.gs.wait = 0 := by
  obtain ⟨-, -, ⟨rfl, -, hrep, -⟩ | ⟨rfl, -, hrep, -⟩⟩ := h
  · exact hn.resolve_left (by omega)
  · rw [hrep.cnt]; rfl
theorem AlJ.fin {n : Nat} (h : AlJ P n S) (hn : 0 < n ∨ S.gs.wait = 0) (hf : FinR S z0 S3 fr) (hP : P.length = 1) : (S.mine.filter (whiteB S)).length = 1 ∧ fr.length = 1 := by
  obtain ⟨hm, -, ⟨rfl, hev, hrep, -⟩ | ⟨rfl, hev, hrep, -⟩⟩ := h
  · have := hrep.cnt
    rcases hn with hn | hn
    · omega
    · rw [hn] at this; simp at this
  · have c0 : S.gs.color 0 = 2 := (hrep.black 0).2 (by simp)
    have c1 : S.gs.color 1 = 0 := (hrep.white_iff 1).2 (by simp)
    refine ⟨by rw [hm]; simp [List.filter, whiteB, c0, c1], ?_⟩
    obtain ⟨e1, -⟩ := hev.fin hf (fun z hz hc => by
      rw [hm] at hz
      rcases List.mem_cons.1 hz with rfl | hz
      · simp
      · rw [List.mem_singleton.1 hz] at hc; exact absurd c1 hc)
    rw [e1, chunksL_one hev.one, hP]
end Go.Proofs.YtcdpnfchmpncjaaGreatDoor

namespace Go.Proofs.YtcdpnfchmpncjaaGreatDoor
open Go.RowKit Go.Tr Go.Shelf
variable {S S1 : HS} {ct : Nat → Nat → Nat}
theorem slot_free {K j : Nat} {x : Sl} (h : (List.replicate K Sl.free)[j]? = some x) : x = Sl.free := by
  rw [List.getElem?_replicate] at h
  split at h
  · exact (Option.some.inj h).symm
  · cases h
theorem Good.start {C Wd K : Nat} {L : Lay} (hC : 1 ≤ C ∧ C ≤ 1024) (hW : 1 ≤ Wd ∧ Wd ≤ 1024) (hL : RightLay L) (cnt : Nat → Nat) : Good (S0 C Wd K L) cnt := by
  have hno : ∀ (i : Nat) (x : Sl), (S0 C Wd K L).sl[i]? = some x → x.used = true → False := fun i x hx hu => by
    rw [slot_free hx] at hu
    cases hu
  refine ⟨hC, hW, hL, by simp [S0], by simp [S0], fun i x hx hu => (hno i x hx hu).elim, fun i j a n b m _ hi _ => ?_, List.Pairwise.nil, fun z => ⟨fun h => (by cases h), ?_⟩, fun p hp => (by cases hp), List.Pairwise.nil, fun c hc => ?_, ⟨Nat.le_refl _, Nat.zero_le _, fun h => absurd h (Nat.lt_irrefl _)⟩, fun h => (by cases h)⟩
  · obtain ⟨x, hx, hu, -⟩ := hi
    exact (hno i x hx hu).elim
  · rintro ⟨i, x, -, hx, hu⟩
    exact (hno i x hx hu).elim
  · refine absurd ?_ hc
    show (List.replicate C 0).getD c 0 = 0
    by_cases h : c < C
    · exact replicate_getD h
    · rw [List.getD_eq_getElem?_getD, List.getElem?_eq_none (by simp; omega)]
      rfl
structure CycB (S : HS) (k i j : Nat) : Prop where
  good : Good S z0
  on : S.on = false
  c : S.C = 12
  wd : S.Wd = 8
  kk : S.K = 10
  lay : S.L = L22
  fill : Fill3 S.ps S.a S.en j
  len : S.sl.length = 10
  old : ∀ l, l < j → ∃ x : Sl, S.sl[l]? = some x ∧ x.used = true ∧ x.held = false ∧ x.gen = i + 1
  new : ∀ l, j ≤ l → l < 10 → ∃ x : Sl, S.sl[l]? = some x ∧ x.used = false ∧ x.gen = if l < k then i else 0
theorem CycB.start (k : Nat) : CycB (S0 12 8 10 L22) k 0 0 := by
  refine ⟨Good.start (by decide) (by decide) L22_right _, rfl, rfl, rfl, rfl, rfl, ⟨rfl, fun p hp => (by cases hp), fun h => (by cases h), fun _ => by decide⟩, by simp [S0], fun l hl => by omega, fun l _ hl => ⟨Sl.free, ?_, rfl, ?_⟩⟩
  · show (List.replicate 10 Sl.free)[l]? = _
    rw [List.getElem?_replicate, if_pos hl]
  · show 0 = _
    split <;> rfl
theorem CycB.makeOk {k i j : Nat} (h : CycB S k i j) (hj : j < k) (hk : k ≤ 10) (hi : i < 80) : ∃ y : Sl, MakeOk S j y 0 ∧ y.gen = i := by
  obtain ⟨y, h1, h2, h3⟩ := h.new j (Nat.le_refl _) (by omega)
  rw [if_pos hj] at h3
  refine ⟨y, h.good.makeOk h1 h2 (fun l hl => ?_) (by omega) (by decide) (by omega) (Or.inl rfl) (by rw [h.lay, L22_size]; decide) ?_, h3⟩
  · obtain ⟨x, k1, k2, -⟩ := h.old l hl
    unfold usedB
    rw [List.getD_eq_getElem?_getD, k1]
    exact k2
  · rw [h.lay, L22_size, h.wd]
    obtain ⟨f1, f2, f3, f4⟩ := h.fill
    rcases Nat.mod_two_eq_zero_or_one j with hm | hm
    · refine Or.inr ?_
      obtain ⟨c, hc, h0⟩ := h.good.free1 (by
        unfold HS.all
        rw [h.on, if_neg (by decide), chunksL_one f2, f1, h.c]
        omega)
      exact ⟨c, hc, fun q k1 k2 => by rw [show q = c by omega]; exact h0⟩
    · have := f3 hm
      exact Or.inl (by omega)
def letGo (S1 : HS) (j gen ad : Nat) : HS := { mkS S1 j gen ad 0 with sl := (mkS S1 j gen ad 0).sl.set j ⟨gen, true, ad, 1, false, false⟩ }
theorem CycB.made {k i j ad : Nat} (h : CycB S k i j) (hj : j < k) (hk : k ≤ 10) (hi : i < 80) (ha : AllocSt S 3 ad S1) : (mkS S1 j (i + 1) ad 0).sl[j]? = some ⟨i + 1, true, ad, 1, true, false⟩ ∧ CycB (letGo S1 j (i + 1) ad) k i (j + 1) := by
  obtain ⟨y, h1, h2, h3⟩ := h.new j (Nat.le_refl _) (by omega)
  have hf := h.fill.alloc h.wd ha
  have hs : S1.C = S.C ∧ S1.Wd = S.Wd ∧ S1.K = S.K ∧ S1.L = S.L ∧ S1.sl = S.sl ∧ S1.on = S.on := by rcases ha with ⟨_, _, e⟩ | ⟨_, c, q, _, _, _, _, e⟩ <;> rw [e] <;> exact ⟨rfl, rfl, rfl, rfl, rfl, rfl⟩
  obtain ⟨e1, e2, e3, e4, e5, e6⟩ := hs
  have hlt : j < S1.sl.length := by rw [e5, h.len]; omega
  obtain ⟨g1, -⟩ := h.good.make (c := 0) (i := j) (gen := i + 1) (by rw [h.lay, L22_size]; exact ha) h1 h2 (by omega) (by omega) (by decide) (Or.inl rfl) (by rw [h.lay, L22_size]; decide) (cnt' := z0) rfl (fun _ _ => rfl)
  have hsl : (mkS S1 j (i + 1) ad 0).sl[j]? = some ⟨i + 1, true, ad, 1, true, false⟩ := List.getElem?_set_self hlt
  obtain ⟨g2, -⟩ := g1.mark hsl rfl false
  have hne : ∀ l, l ≠ j → (letGo S1 j (i + 1) ad).sl[l]? = S.sl[l]? := fun l hl => by
    show ((S1.sl.set j _).set j _)[l]? = _
    rw [List.getElem?_set_ne (fun e => hl e.symm), List.getElem?_set_ne (fun e => hl e.symm), e5]
  refine ⟨hsl, g2, e6.trans h.on, e1.trans h.c, e2.trans h.wd, e3.trans h.kk, e4.trans h.lay, hf, ?_, fun l hl => ?_, fun l h4 h5 => ?_⟩
  · show ((S1.sl.set j _).set j _).length = _
    rw [List.length_set, List.length_set, e5, h.len]
  · by_cases hlj : l = j
    · subst hlj
      refine ⟨⟨i + 1, true, ad, 1, false, false⟩, ?_, rfl, rfl, rfl⟩
      show ((S1.sl.set l _).set l _)[l]? = _
      rw [List.getElem?_set_self (by rw [List.length_set]; exact hlt)]
    · rw [hne l hlj]
      exact h.old l (by omega)
  · rw [hne l (by omega)]
    exact h.new l (by omega) h5
theorem cntB_zero {B : Nat → Bool} : ∀ {n : Nat}, (∀ i, i < n → B i = false) → cntB B n = 0 := fun h => by
  rw [cntB_congr h]
  rename_i n
  induction n with
  | zero => rfl
  | succ n ih =>
    have := ih (fun i hi => h i (by omega))
    unfold cntB
    simp [this]
theorem CycB.mine {k i : Nat} (h : CycB S k i k) (hk : k ≤ 10) : S.mine = (List.range k).map (fun j : Nat => (j : Int)) := by
  refine rises_eq h.good.rise ?_ (fun z => ?_)
  · rw [List.pairwise_map]
    exact List.pairwise_lt_range.imp (fun h => by omega)
  · rw [h.good.mine, List.mem_map]
    constructor
    · rintro ⟨j, x, rfl, hx, hu⟩
      refine ⟨j, List.mem_range.2 (Classical.byContradiction fun hn => ?_), rfl⟩
      have hj : j < 10 := by rw [← h.len]; exact (List.getElem?_eq_some_iff.1 hx).1
      obtain ⟨y, k1, k2, -⟩ := h.new j (by omega) hj
      rw [hx] at k1
      cases k1
      rw [hu] at k2
      cases k2
    · rintro ⟨j, hj, rfl⟩
      obtain ⟨x, k1, k2, -⟩ := h.old j (List.mem_range.1 hj)
      exact ⟨j, x, rfl, k1, k2⟩
theorem CycB.begs {k i : Nat} (h : CycB S k i k) (hk : k ≤ 10) : (begS S).gs = GS.new ∧ Good (begS S) z0 := by
  have hf : S.mine.filter (heldB S.sl) = [] := by
    rw [List.filter_eq_nil_iff]
    intro z hz
    rw [h.mine hk] at hz
    obtain ⟨j, hj, rfl⟩ := List.mem_map.1 hz
    obtain ⟨x, k1, -, k2, -⟩ := h.old j (List.mem_range.1 hj)
    unfold heldB
    rw [Int.toNat_natCast, k1]
    simp [k2]
  refine ⟨?_, (h.good.begin h.on _).1⟩
  unfold begS
  rw [hf]
  rfl
def CycJ (S : HS) (n : Nat) (S' : HS) : Prop := n = 0 ∧ S' = begS S
theorem CycB.evJ {k i : Nat} (h : CycB S k i k) (hk : k ≤ 10) (hi : i < 80) : EvJ (CycJ S) z0 := by
  obtain ⟨hg, hgood⟩ := h.begs hk
  refine ⟨?_, ?_, ?_, ?_, ?_⟩
  · rintro n S' ⟨rfl, rfl⟩
    have hnx : (begS S).gs.next.2 = (begS S).gs := by rw [hg]; rfl
    refine ⟨rfl, by rw [hg]; unfold GS.Small GS.new; simp, Or.inl ⟨by rw [hg]; rfl, by rw [hg]; rfl, rfl, ?_⟩⟩
    rw [hnx]
  · rintro n S' ⟨rfl, rfl⟩; omega
  · rintro n S' ⟨rfl, rfl⟩; exact hgood
  · rintro n S' ⟨rfl, rfl⟩; rfl
  · rintro n S' ⟨rfl, rfl⟩ j x hx hu
    have hx' : S.sl[j]? = some x := hx
    have hj : j < 10 := by rw [← h.len]; exact (List.getElem?_eq_some_iff.1 hx').1
    by_cases hjk : j < k
    · obtain ⟨y, k1, -, -, k2⟩ := h.old j hjk
      rw [hx'] at k1
      cases k1
      omega
    · obtain ⟨y, k1, k2, -⟩ := h.new j (by omega) hj
      rw [hx'] at k1
      cases k1
      rw [hu] at k2
      cases k2
theorem CycB.fin {k i : Nat} {S3 : HS} {fr : List Int} (h : CycB S k i k) (hk : k ≤ 10) (hf : FinR (begS S) z0 S3 fr) : CycB S3 k (i + 1) 0 ∧ ((begS S).mine.filter (whiteB (begS S))).length = k ∧ cntB (onB S3.own) 12 = 0 ∧ cntB (usedB S3.sl) 10 = 0 := by
  obtain ⟨hg, hgood⟩ := h.begs hk
  have hmine := h.mine hk
  have hcol : ∀ z : Int, (begS S).gs.color z = 0 := fun z => by rw [hg]; rfl
  have hsl : ∀ j, j < 10 → ∃ x : Sl, S3.sl[j]? = some x ∧ x.used = false ∧ x.gen = if j < k then i + 1 else 0 := fun j hj => by
    have := hf.sl j
    by_cases hjk : j < k
    · obtain ⟨x, k1, k2, -, k3⟩ := h.old j hjk
      have hm : (j : Int) ∈ (begS S).mine := by
        show (j : Int) ∈ S.mine
        rw [hmine]
        exact List.mem_map.2 ⟨j, List.mem_range.2 hjk, rfl⟩
      have k1' : (begS S).sl[j]? = some x := k1
      rw [if_pos ⟨hm, hcol _⟩, k1'] at this
      exact ⟨goneS x, this, rfl, by rw [if_pos hjk]; exact k3⟩
    · obtain ⟨x, k1, k2, k3⟩ := h.new j (by omega) hj
      have hm : ¬ ((j : Int) ∈ (begS S).mine ∧ (begS S).gs.color j = 0) := fun e => by
        have e1 : (j : Int) ∈ S.mine := e.1
        rw [hmine] at e1
        obtain ⟨l, hl, e2⟩ := List.mem_map.1 e1
        have := List.mem_range.1 hl
        omega
      have k1' : (begS S).sl[j]? = some x := k1
      rw [if_neg hm, k1'] at this
      exact ⟨x, this, k2, by rw [k3, if_neg hjk, if_neg hjk]⟩
  have hlen : S3.sl.length = 10 := by
    have h1 : ∀ j, 10 ≤ j → S3.sl[j]? = none := fun j hj => by
      rw [hf.sl j]
      have : (begS S).sl[j]? = none := List.getElem?_eq_none (by show S.sl.length ≤ j; rw [h.len]; exact hj)
      rw [this]
      split <;> rfl
    obtain ⟨x, hx, -⟩ := hsl 9 (by decide)
    have h2 := (List.getElem?_eq_some_iff.1 hx).1
    have h3 := List.getElem?_eq_none_iff.1 (h1 10 (Nat.le_refl _))
    omega
  have hno : ∀ (j : Nat) (x : Sl), S3.sl[j]? = some x → x.used = false := fun j x hx => by
    have hj : j < 10 := by rw [← hlen]; exact (List.getElem?_eq_some_iff.1 hx).1
    obtain ⟨y, k1, k2, -⟩ := hsl j hj
    rw [hx] at k1
    cases k1
    exact k2
  obtain ⟨stay, p1, p2, p3⟩ := hf.ps
  have hst : ∀ c, c ∉ stay := fun c hc => by
    obtain ⟨j, x, -, hx, hu, -⟩ := (p3 c).1 hc
    rw [hno j x hx] at hu
    cases hu
  have hps : S3.ps = [] := by
    rw [p1]
    have : (begS S).ps2 = [] := rfl
    rw [this, List.append_nil, List.filter_eq_nil_iff]
    intro p _
    simp [hst]
  have hC : S3.C = 12 := hf.fix.1.trans h.c
  refine ⟨⟨hf.good, hf.on, hC, hf.fix.2.1.trans h.wd, hf.fix.2.2.1.trans h.kk, hf.fix.2.2.2.trans h.lay, ⟨by rw [hps]; rfl, by rw [hps]; intro p hp; (cases hp), fun h => by (cases h), fun _ => ?_⟩, hlen, fun l hl => by omega, fun l _ hl => hsl l hl⟩, ?_, ?_, ?_⟩
  · obtain ⟨a1, a2, a3⟩ := hf.good.at1
    by_cases hlt : S3.a < S3.en
    · obtain ⟨⟨c, hc, -⟩, -⟩ := a3 hlt
      rw [hps] at hc
      cases hc
    · omega
  · rw [filter_all (fun z _ => by unfold whiteB; simp [hcol])]
    show S.mine.length = k
    rw [hmine]
    simp
  · refine cntB_zero fun c hc => ?_
    unfold onB
    rw [decide_eq_false_iff_not]
    intro hn
    obtain ⟨p, hp, -⟩ := hf.good.own c hn
    unfold HS.all at hp
    rw [hf.on, if_neg (by decide), hps] at hp
    cases hp
  · refine cntB_zero fun j hj => ?_
    unfold usedB
    obtain ⟨x, k1, k2, -⟩ := hsl j hj
    rw [List.getD_eq_getElem?_getD, k1]
    exact k2
end Go.Proofs.YtcdpnfchmpncjaaGreatDoor

namespace Go.Proofs.YtcdpnfchmpncjaaGreatDoor
open Go.RowKit Go.Tr Go.Shelf
variable {S S1 S2 S3 : HS} {ct : Nat → Nat → Nat} {o : Nat → Nat → Option (Nat × Nat)} {P : List (Nat × Nat)} {mv fr : List Int}
structure Mk3 (S : HS) (m : Nat) : Prop where
  good : Good S z0
  on : S.on = false
  wd : S.Wd = 8
  lay : S.L = L22
  fill : Fill3 S.ps S.a S.en m
theorem Mk3.makeOk {m i : Nat} {y : Sl} (h : Mk3 S m) (hy : S.sl[i]? = some y) (hu : y.used = false) (hlow : ∀ j, j < i → usedB S.sl j = true) (hg : y.gen < 255) (hi : i < 4096) (hC : (m + 1) / 2 < S.C) : MakeOk S i y 0 := by
  refine h.good.makeOk hy hu hlow hg (by decide) hi (Or.inl rfl) (by rw [h.lay, L22_size]; decide) ?_
  rw [h.lay, L22_size, h.wd]
  obtain ⟨f1, f2, f3, f4⟩ := h.fill
  rcases Nat.mod_two_eq_zero_or_one m with hm | hm
  · refine Or.inr ?_
    obtain ⟨c, hc, h0⟩ := h.good.free1 (by
      unfold HS.all
      rw [h.on, if_neg (by decide), chunksL_one f2, f1]
      exact hC)
    exact ⟨c, hc, fun q k1 k2 => by rw [show q = c by omega]; exact h0⟩
  · have := f3 hm
    exact Or.inl (by omega)
theorem Mk3.made {m i ad : Nat} {y : Sl} (h : Mk3 S m) (hy : S.sl[i]? = some y) (hu : y.used = false) (hg : y.gen < 255) (hi : i < 4096) (ha : AllocSt S (S.L.size 0 + 1) ad S1) :
    Mk3 (mkS S1 i (y.gen + 1) ad 0) (m + 1) ∧ (∀ ct ct' : Nat → Nat → Nat, Cont S z0 ct → (∀ j, j ≠ i → ct' j = ct j) → (∀ p, p < 2 → ct' i p = 0) → Cont (mkS S1 i (y.gen + 1) ad 0) z0 ct') ∧
      (mkS S1 i (y.gen + 1) ad 0).sl = S.sl.set i ⟨y.gen + 1, true, ad, 1, true, false⟩ ∧ (mkS S1 i (y.gen + 1) ad 0).mine = putL S.mine i ∧ (mkS S1 i (y.gen + 1) ad 0).C = S.C ∧ (mkS S1 i (y.gen + 1) ad 0).K = S.K := by
  have ha3 : AllocSt S 3 ad S1 := by rw [h.lay, L22_size] at ha; exact ha
  have hf := h.fill.alloc h.wd ha3
  obtain ⟨g1, g2⟩ := h.good.make (c := 0) (i := i) (gen := y.gen + 1) ha hy hu (by omega) hi (by decide) (Or.inl rfl) (by rw [h.lay, L22_size]; decide) (cnt' := z0) rfl (fun _ _ => rfl)
  have hs : S1.C = S.C ∧ S1.Wd = S.Wd ∧ S1.K = S.K ∧ S1.L = S.L ∧ S1.sl = S.sl ∧ S1.on = S.on ∧ S1.mine = S.mine := by rcases ha with ⟨_, _, e⟩ | ⟨_, c, q, _, _, _, _, e⟩ <;> rw [e] <;> exact ⟨rfl, rfl, rfl, rfl, rfl, rfl, rfl⟩
  obtain ⟨e1, e2, e3, e4, e5, e6, e7⟩ := hs
  refine ⟨⟨g1, e6.trans h.on, e2.trans h.wd, e4.trans h.lay, hf⟩, fun ct ct' k1 k2 k3 => g2 ct ct' k1 k2 (fun p hp => k3 p (by rw [h.lay, L22_size] at hp; exact hp)), ?_, ?_, e1, e3⟩
  · show S1.sl.set i _ = _
    rw [e5]
  · show putL S1.mine i = _
    rw [e7]
theorem free_at {K j : Nat} (hj : j < K) : (List.replicate K Sl.free)[j]? = some Sl.free := by rw [List.getElem?_replicate, if_pos hj]
theorem Mk3.start (C K : Nat) (hC : 1 ≤ C ∧ C ≤ 1024) : Mk3 (S0 C 8 K L22) 0 := ⟨Good.start hC (by decide) L22_right _, rfl, rfl, rfl, ⟨rfl, fun p hp => (by cases hp), fun h => (by cases h), fun _ => Nat.zero_le _⟩⟩
theorem Mk3.cont0 (C K : Nat) (ct : Nat → Nat → Nat) : Cont (S0 C 8 K L22) z0 ct := fun i x hx hu => by
  rw [slot_free hx] at hu
  cases hu
def alA (S1 : HS) (ad0 : Nat) : HS := mkS S1 0 1 ad0 0
def alC (S2 : HS) (ad1 : Nat) : HS := mkS S2 1 1 ad1 0
def alT (S2 : HS) (ad0 ad1 : Nat) : HS := { alC S2 ad1 with ws := (alC S2 ad1).ws.set (ad0 + 1 + 1) (linkN 0 1) }
def alD (S2 : HS) (ad0 ad1 : Nat) : HS := { alT S2 ad0 ad1 with sl := (alT S2 ad0 ad1).sl.set 1 ⟨1, true, ad1, 1, false, false⟩ }
theorem alA_ok {ad0 : Nat} (ha : AllocSt (S0 4 8 4 L22) ((S0 4 8 4 L22).L.size 0 + 1) ad0 S1) : MakeOk (alA S1 ad0) 1 Sl.free 0 := by
  obtain ⟨h1, -, h2, -, h3, -⟩ := (Mk3.start 4 4 (by decide)).made (i := 0) (free_at (by decide)) rfl (by decide) (by decide) ha
  refine h1.makeOk (i := 1) (y := Sl.free) ?_ rfl (fun j hj => ?_) (by decide) (by decide) (by rw [h3]; decide)
  · rw [h2]
    show ((List.replicate 4 Sl.free).set 0 _)[1]? = _
    rfl
  · have hj0 : j = 0 := by omega
    subst hj0
    rw [h2]
    rfl
theorem alA_off {ad0 : Nat} (ha : AllocSt (S0 4 8 4 L22) ((S0 4 8 4 L22).L.size 0 + 1) ad0 S1) : (alA S1 ad0).on = false := ((Mk3.start 4 4 (by decide)).made (i := 0) (free_at (by decide)) rfl (by decide) (by decide) ha).1.on
theorem alB_ok {ad0 ad1 : Nat} (ha : AllocSt (S0 4 8 4 L22) ((S0 4 8 4 L22).L.size 0 + 1) ad0 S1) (hb : AllocSt (alA S1 ad0) ((alA S1 ad0).L.size 0 + 1) ad1 S2) :
    ObjOk (alC S2 ad1) 0 ⟨1, true, ad0, 1, true, false⟩ 0 ∧ (alC S2 ad1).ws.getD (ad0 + 1 + 1) 0 = lkN none ∧ isRefN (alC S2 ad1).L 1 = true ∧ 1 < (alC S2 ad1).L.size 0 ∧ (alT S2 ad0 ad1).sl[1]? = some ⟨1, true, ad1, 1, true, false⟩ ∧ AlB (alD S2 ad0 ad1) ∧ (alD S2 ad0 ad1).ps.length = 1 := by
  have hst := Mk3.start 4 4 (by decide)
  obtain ⟨h1, c1, h2, m1, h3, -⟩ := hst.made (i := 0) (free_at (by decide)) rfl (by decide) (by decide) ha
  have hy1 : (alA S1 ad0).sl[1]? = some Sl.free := by
    show (mkS S1 0 (Sl.free.gen + 1) ad0 0).sl[1]? = _
    rw [h2]; rfl
  obtain ⟨k1, c2, k2, m2, k3, -⟩ := h1.made (i := 1) (y := Sl.free) hy1 rfl (by decide) (by decide) hb
  have hmine : (alC S2 ad1).mine = [0, 1] := by
    show (mkS S2 1 (Sl.free.gen + 1) ad1 0).mine = _
    rw [m2, m1]
    decide
  have hsl : (alC S2 ad1).sl = (((List.replicate 4 Sl.free).set 0 ⟨1, true, ad0, 1, true, false⟩).set 1 ⟨1, true, ad1, 1, true, false⟩) := by
    show (mkS S2 1 (Sl.free.gen + 1) ad1 0).sl = _
    rw [k2, h2]
    rfl
  have hcont : Cont (alC S2 ad1) z0 (fun _ _ => 0) := c2 (fun _ _ => 0) _ (c1 (fun _ _ => 0) (fun _ _ => 0) (Mk3.cont0 4 4 _) (fun _ _ => rfl) (fun _ _ => rfl)) (fun _ _ => rfl) (fun _ _ => rfl)
  have hs0 : (alC S2 ad1).sl[0]? = some ⟨1, true, ad0, 1, true, false⟩ := by rw [hsl]; rfl
  have hs1 : (alC S2 ad1).sl[1]? = some ⟨1, true, ad1, 1, true, false⟩ := by rw [hsl]; rfl
  have hgood : Good (alC S2 ad1) z0 := k1.good
  have hlay : (alC S2 ad1).L = L22 := k1.lay
  have hp1 : 1 < (alC S2 ad1).L.size (z0 0) := by rw [hlay, L22_size]; decide
  obtain ⟨t1, t2⟩ := hgood.word (v := linkN 0 1) hs0 rfl hp1
  have tcont : Cont (alT S2 ad0 ad1) z0 ctA := t2 (fun _ _ => 0) ctA hcont (fun j q hn => by
    unfold ctA
    rw [if_neg (fun e => hn.elim (fun h => h e.1) (fun h => h e.2))]) rfl
  obtain ⟨d1, d2⟩ := Good.mark (S := alT S2 ad0 ad1) t1 (i := 1) hs1 rfl false
  have hdl : (alD S2 ad0 ad1).sl = (alC S2 ad1).sl.set 1 ⟨1, true, ad1, 1, false, false⟩ := rfl
  refine ⟨hgood.objOk hs0 rfl, hcont 0 _ hs0 rfl 1 hp1, by rw [hlay]; decide, hp1, hs1, ⟨d1, d2 _ tcont, k1.on, (k3.trans h3), k1.wd, hlay, k1.fill, hmine, ⟨_, by rw [hdl, hsl]; rfl, rfl, rfl⟩, ⟨_, by rw [hdl, hsl]; rfl, rfl, rfl⟩, fun i x hx hu => ?_⟩, k1.fill.1⟩
  rw [hdl, hsl] at hx
  match i with
  | 0 => have e : some _ = some x := hx; cases e; show 1 < 255; decide
  | 1 => have e : some _ = some x := hx; cases e; show 1 < 255; decide
  | 2 => have e : some _ = some x := hx; cases e; cases hu
  | 3 => have e : some _ = some x := hx; cases e; cases hu
  | _ + 4 => cases hx
end Go.Proofs.YtcdpnfchmpncjaaGreatDoor

namespace Go.Proofs.YtcdpnfchmpncjaaGreatDoor
open Go.RowKit Go.Tr Go.Shelf
variable {w w' : World} {F : Nat → Prop} {A : Ad} {S : HS}
def TzB (w : World) : Prop := ∃ B, B ≤ w.heap.size ∧ ∀ W : World, (∀ k, k < B → W.heap[k]? = w.heap[k]?) → Tz W
theorem TzB.at (h : TzB w) : Tz w := by obtain ⟨B, h1, h2⟩ := h; exact h2 w (fun _ _ => rfl)
theorem TzB.below (h : TzB w) (hb : Below w.heap.size w w') : TzB w' := by
  obtain ⟨B, h1, h2⟩ := h
  exact ⟨B, Nat.le_trans h1 hb.size, fun W hW => h2 W (fun k hk => (hW k hk).trans (hb.block k (by omega)))⟩
theorem TzB.new (h : TzB w) (hb : Below w.heap.size w w') : TzF w' (Nw w w') := by
  obtain ⟨B, h1, h2⟩ := h
  exact ⟨B, fun k hk => Nat.le_trans h1 hk.1, Nat.le_trans h1 hb.size, fun W hW => h2 W (fun k hk => (hW k hk).trans (hb.block k (by omega)))⟩
theorem spread2 : spreadL 2 = [1] := by decide
theorem spread0 : spreadL 0 = [] := by decide
theorem RunX.tz {X : Nat → Part} {W : World} {F1 : Nat → Prop} (h : RunX X w (fun _ => False) W F1) (hT : TzB w) : TzF W F1 := by
  obtain ⟨B, h1, h2⟩ := hT
  exact ⟨B, fun k hk => (h.2.2 k hk).elim False.elim (fun h => Nat.le_trans h1 h), Nat.le_trans h1 h.2.1.size, fun V hV => h2 V (fun k hk => (hV k hk).trans (h.2.1.block k (by omega) (fun f => f)))⟩
theorem TzB.none (h : TzB w) : TzF w (fun _ => False) := by
  obtain ⟨B, h1, h2⟩ := h
  exact ⟨B, fun k hk => hk.elim, h1, h2⟩
theorem RunX.opened {X : Nat → Part} {W W' : World} {F1 : Nat → Prop} (h : RunX X w (fun _ => False) W F1) (hT : TzB w) (k : HeapF W' (grow F1 W W') A S ∧ Only F1 W W') : Run w (fun _ => False) W' (grow F1 W W') A S :=
  ⟨k.1.1, h.2.1.trans k.2 h.2.2, fun j hj => hj.elim (h.2.2 j) (fun hj => Or.inr (Nat.le_trans h.2.1.size hj.1)), hT.none⟩
theorem Run.fin0 {W : World} {F1 : Nat → Prop} (h : Run w (fun _ => False) W F1 A S) : Below w.heap.size w W := h.2.1.below (Nat.le_refl _) (fun k hk => hk.elim)
set_option maxRecDepth 100000 in
set_option maxHeartbeats 4000000 in
theorem alive_any (w : World) (hT : TzB w) : Calls Tryz.prog 7 #[] w fun e w' => e = .returned (.bool true) ∧ Below w.heap.size w w' := by
  have HT := Lib.hid hT
  clear hT
  go_enter Tryz.func7, Tryz.ntmps7
  go_wp2_with fail
  refine (enew_any 4 8 4 w (by decide) (by decide) (by decide) (by decide) (by decide) (by decide)).mono ?_
  rintro e w1 ⟨A, rfl, h1, hb1⟩
  have HC1 := Lib.hid h1
  have HB1 := Lib.hid hb1
  have e0 := p0_ev h1 (Below.refl _ _)
  have hba : Below w1.heap.size w1 (w1.alloc (.cells #[.int .u64 2, .int .u64 2, .int .u64 0] 34)) := (Below.refl _ w1).alloc (Nat.le_refl _) _
  have hrx : RunX (P0 A 4 8 4 none TS.new [] [] true false false) w (fun _ => False) w1 (Nw w w1) := ⟨h1, Only.of_below hb1 _, fun k hk => Or.inr hk.1⟩
  have HRX2 := Lib.hid (hrx.below (p0_parts _ _ _ _ _ _ _ _ _ _ _) hba)
  have HSQ : Hid (SeqAt (w1.alloc (.cells #[.int .u64 2, .int .u64 2, .int .u64 0] 34)) (some ⟨w1.heap.size, 0, none⟩) (us [L22.fixed + L22.record * 256, 2, 0])) := SeqAt.of_block (cs := [.int .u64 2, .int .u64 2, .int .u64 0]) (heap_alloc_new w1 _)
  clear h1 hb1 hba hrx
  go_wp2_with fail
  clear e0
  generalize w1.alloc (.cells #[.int .u64 2, .int .u64 2, .int .u64 0] 34) = w2 at *
  refine (cdefine_any (L := L22) 2 0 _ 3 w2 HRX2.out.1 (HRX2.out.tz HT.out).at HSQ.out L22_right (by decide) (by decide) spread2 spread0).mono ?_
  rintro e w3 ⟨rfl, h3⟩
  have HRX3 := Lib.hid (HRX2.out.op h3)
  have e0 := p0_ev h3.1 (Below.refl _ _)
  clear h3 HSQ
  go_wp2_with fail
  clear e0
  refine (copen_any w3 HRX3.out.1 (HRX3.out.tz HT.out)).mono ?_
  rintro e w4 ⟨rfl, u, bg, h4⟩
  have HRN4 := Lib.hid (HRX3.out.opened HT.out h4)
  obtain ⟨A', hA'⟩ : ∃ A' : Ad, A' = { A with u := u, bg := bg } := ⟨_, rfl⟩
  have hh : A'.h = A.h := by rw [hA']
  rw [← hA'] at HRN4
  rw [← hh]
  clear h4 HRX3 HRX2 hA' hh
  go_wp2_with fail
  have HMK1 : Hid (Calls Tryz.prog 10 #[.pointer (some ⟨A'.h, 0, none⟩), .int .i64 1, .int .i64 1, .int .i64 0] w4 fun e w' => e = .returned (.tuple #[.agg #[.int .i64 0, .int .i64 1], .int .i64 0]) ∧ ∃ addr S1, AllocSt (S0 4 8 4 L22) ((S0 4 8 4 L22).L.size 0 + 1) addr S1 ∧ HeapF w' (grow (grow (grow (Nw w w1) w2 w3) w3 w4) w4 w') A' (alA S1 addr) ∧ Only (grow (grow (Nw w w1) w2 w3) w3 w4) w4 w') :=
    emake_any w4 HRN4.out.heap rfl ((Mk3.start 4 4 (by decide)).makeOk (i := 0) (free_at (by decide)) rfl (fun j hj => by omega) (by decide) (by decide) (by decide))
  refine HMK1.out.mono ?_
  rintro e w5 ⟨rfl, ad0, S1, ha, h5⟩
  have HRN5 := Lib.hid (HRN4.out.op h5)
  generalize grow (grow (grow (Nw w w1) w2 w3) w3 w4) w4 w5 = F5 at *
  have HA := Lib.hid ha
  have HX6 : Hid (Bx (w5.alloc (.cells #[.int .i64 0, .int .i64 1] 38)) F5 w5.heap.size (.cells #[.int .i64 0, .int .i64 1] 38 (0, 0))) := Bx.new HRN5.out.heap.lt
  obtain ⟨ta, hta⟩ : ∃ ta, ta = w5.heap.size := ⟨_, rfl⟩
  rw [← hta] at HX6
  have HRN6 := Lib.hid (HRN5.out.below ((Below.refl _ w5).alloc (Nat.le_refl _) (.cells #[.int .i64 0, .int .i64 1] 38)))
  clear h5 ha HMK1
  go_wp2_with fail
  rw [← hta]
  clear hta
  generalize w5.alloc (.cells #[.int .i64 0, .int .i64 1] 38) = w6 at *
  have HMK2 : Hid (Calls Tryz.prog 10 #[.pointer (some ⟨A'.h, 0, none⟩), .int .i64 1, .int .i64 1, .int .i64 0] w6 fun e w' => e = .returned (.tuple #[.agg #[.int .i64 1, .int .i64 1], .int .i64 0]) ∧ ∃ addr S2, AllocSt (alA S1 ad0) ((alA S1 ad0).L.size 0 + 1) addr S2 ∧ HeapF w' (grow F5 w6 w') A' (alC S2 addr) ∧ Only F5 w6 w') :=
    emake_any w6 HRN6.out.heap (alA_off HA.out) (alA_ok HA.out)
  refine HMK2.out.mono ?_
  rintro e w7 ⟨rfl, ad1, S2, hb, h7⟩
  have HRN7 := Lib.hid (HRN6.out.op h7)
  have HX7 := Lib.hid (HX6.out.op h7.2)
  generalize grow F5 w6 w7 = F7 at *
  have HB := Lib.hid hb
  have hba : Below w7.heap.size w7 (w7.alloc (.cells #[.int .i64 1, .int .i64 1] 38)) := (Below.refl _ w7).alloc (Nat.le_refl _) _
  have HX8 := Lib.hid (HX7.out.below hba)
  have HY8 : Hid (Bx (w7.alloc (.cells #[.int .i64 1, .int .i64 1] 38)) F7 w7.heap.size (.cells #[.int .i64 1, .int .i64 1] 38 (0, 0))) := Bx.new HRN7.out.heap.lt
  obtain ⟨tb, htb⟩ : ∃ tb, tb = w7.heap.size := ⟨_, rfl⟩
  rw [← htb] at HY8
  have HRN8 := Lib.hid (HRN7.out.below hba)
  clear h7 hb HMK2 hba
  go_wp2_with fail
  rw [← htb]
  clear htb
  generalize w7.alloc (.cells #[.int .i64 1, .int .i64 1] 38) = w8 at *
  obtain ⟨q1, q2, q3, q4, q5, q6, q7⟩ := alB_ok HA.out HB.out
  have HQ := Lib.hid (And.intro q6 q7)
  have HD8 := Lib.hid (HRN8.out.below (Below.refl _ _).drew)
  have hfc : w8.cell? ⟨A'.h, 0, none⟩ = some (.pointer (some ⟨A'.c, 0, none⟩)) ∧ w8.cell? ⟨ta, 0, none⟩ = some (.int .i64 0) ∧ w8.cell? ⟨ta, 1, none⟩ = some (.int .i64 1) ∧ w8.cell? ⟨tb, 0, none⟩ = some (.int .i64 1) ∧ w8.cell? ⟨tb, 1, none⟩ = some (.int .i64 1) :=
    ⟨HRN8.out.heap.evc (Below.refl _ _), (cells_of_block HX8.out.2 0).1, (cells_of_block HX8.out.2 1).1, (cells_of_block HY8.out.2 0).1, (cells_of_block HY8.out.2 1).1⟩
  have HTIE : Hid (Calls Tryz.prog 20 #[.pointer (some ⟨A'.c, 0, none⟩), .agg #[.int .i64 0, .int .i64 1], .int .i64 1, .agg #[.int .i64 0, .int .i64 1]] w8.drew fun e w' => e = .returned (.int .i64 0) ∧ HeapF w' (grow F7 w8.drew w') A' (alT S2 ad0 ad1) ∧ Only F7 w8.drew w') :=
    cTie_any (x := ⟨1, true, ad0, 1, true, false⟩) (y := ⟨1, true, ad0, 1, true, false⟩) (i := 0) (j := 0) (count := 0) (p := 1) none w8.drew HD8.out.heap q1 rfl rfl q1.sl rfl rfl rfl q4 q3 (by omega) (Nat.le_refl 1) (show 1 ≤ 255 by omega) (fun i g e => by cases e) q2
  have HSL := Lib.hid q5
  clear q1 q2 q3 q4 q5 q6 q7
  refine wp_region_held_drew (S := fun W => W.cell? ⟨A'.h, 0, none⟩ = some (.pointer (some ⟨A'.c, 0, none⟩)) ∧ W.cell? ⟨ta, 0, none⟩ = some (.int .i64 0) ∧ W.cell? ⟨ta, 1, none⟩ = some (.int .i64 1) ∧ W.cell? ⟨tb, 0, none⟩ = some (.int .i64 1) ∧ W.cell? ⟨tb, 1, none⟩ = some (.int .i64 1)) (by kernel_rfl) hfc (fun hH => ?_)
  clear hfc
  refine tk 0 (v := ?_) rfl ?_ ?_; rotate_left; · intro W hW; go_simp; try with_reducible rfl
  try simp only [Go.Tr.nz]
  refine tk 1 (v := ?_) rfl ?_ ?_; rotate_left; · intro W hW; go_simp; try with_reducible rfl
  try simp only [Go.Tr.nz]
  refine tk 2 (v := ?_) rfl ?_ ?_; rotate_left; · intro W hW; go_simp; try with_reducible rfl
  try simp only [Go.Tr.nz]
  refine tk 3 (v := ?_) rfl ?_ ?_; rotate_left; · intro W hW; go_simp; try with_reducible rfl
  try simp only [Go.Tr.nz]
  refine tk 4 (v := ?_) rfl ?_ ?_; rotate_left; · intro W hW; go_simp; try with_reducible rfl
  try simp only [Go.Tr.nz]
  refine tk 5 (v := ?_) rfl ?_ ?_; rotate_left; · intro W hW; go_simp; try with_reducible rfl
  try simp only [Go.Tr.nz]
  refine tk 6 (v := ?_) rfl ?_ ?_; rotate_left; · intro W hW; go_simp; try with_reducible rfl
  try simp only [Go.Tr.nz]
  refine tk 7 (v := ?_) rfl ?_ ?_; rotate_left; · intro W hW; go_simp; try with_reducible rfl
  try simp only [Go.Tr.nz]
  refine tk 8 (v := ?_) rfl ?_ ?_; rotate_left; · intro W hW; go_simp; try with_reducible rfl
  try simp only [Go.Tr.nz]
  refine tk 9 (v := ?_) rfl ?_ ?_; rotate_left; · intro W hW; go_simp; try with_reducible rfl
  try simp only [Go.Tr.nz]
  refine tk 10 (v := ?_) rfl ?_ ?_; rotate_left; · intro W hW; go_simp; try with_reducible rfl
  try simp only [Go.Tr.nz]
  refine tk 11 (v := ?_) rfl ?_ ?_; rotate_left; · intro W hW; go_simp; try with_reducible rfl
  try simp only [Go.Tr.nz]
  refine tk 12 (v := ?_) rfl ?_ ?_; rotate_left; · intro W hW; go_simp; try with_reducible rfl
  try simp only [Go.Tr.nz]
  refine tk 13 (v := ?_) rfl ?_ ?_; rotate_left; · intro W hW; go_simp; try with_reducible rfl
  try simp only [Go.Tr.nz]
  refine tk 14 (v := ?_) rfl ?_ ?_; rotate_left; · intro W hW; go_simp; try with_reducible rfl
  try simp only [Go.Tr.nz]
  refine tk 15 (v := ?_) rfl ?_ ?_; rotate_left; · intro W hW; go_simp; try with_reducible rfl
  try simp only [Go.Tr.nz]
  refine tk 16 (v := ?_) rfl ?_ ?_; rotate_left; · intro W hW; go_simp; try with_reducible rfl
  try simp only [Go.Tr.nz]
  refine tk 17 (v := ?_) rfl ?_ ?_; rotate_left; · intro W hW; go_simp; try with_reducible rfl
  try simp only [Go.Tr.nz]
  refine tk 18 (v := ?_) rfl ?_ ?_; rotate_left; · intro W hW; go_simp; try with_reducible rfl
  try simp only [Go.Tr.nz]
  refine tk 19 (v := ?_) rfl ?_ ?_; rotate_left; · intro W hW; go_simp; try with_reducible rfl
  try simp only [Go.Tr.nz]
  refine tk 20 (v := ?_) rfl ?_ ?_; rotate_left; · intro W hW; go_simp; try with_reducible rfl
  try simp only [Go.Tr.nz]
  refine tk 21 (v := ?_) rfl ?_ ?_; rotate_left; · intro W hW; go_simp; try with_reducible rfl
  try simp only [Go.Tr.nz]
  refine tk 22 (v := ?_) rfl ?_ ?_; rotate_left; · intro W hW; go_simp; try with_reducible rfl
  try simp only [Go.Tr.nz]
  refine tk 23 (v := ?_) rfl ?_ ?_; rotate_left; · intro W hW; obtain ⟨d0, d1, d2, d3, d4⟩ := hW; go_simp; try with_reducible rfl
  try simp only [Go.Tr.nz]
  refine tk 24 (v := ?_) rfl ?_ ?_; rotate_left; · intro W hW; obtain ⟨d0, d1, d2, d3, d4⟩ := hW; go_simp; try with_reducible rfl
  try simp only [Go.Tr.nz]
  refine tk 25 (v := ?_) rfl ?_ ?_; rotate_left; · intro W hW; obtain ⟨d0, d1, d2, d3, d4⟩ := hW; go_simp; try with_reducible rfl
  try simp only [Go.Tr.nz]
  refine tk 26 (v := ?_) rfl ?_ ?_; rotate_left; · intro W hW; obtain ⟨d0, d1, d2, d3, d4⟩ := hW; go_simp; try with_reducible rfl
  try simp only [Go.Tr.nz]
  refine tk 27 (v := ?_) rfl ?_ ?_; rotate_left; · intro W hW; obtain ⟨d0, d1, d2, d3, d4⟩ := hW; go_simp; try with_reducible rfl
  try simp only [Go.Tr.nz]
  refine tk 28 (v := ?_) rfl ?_ ?_; rotate_left; · intro W hW; obtain ⟨d0, d1, d2, d3, d4⟩ := hW; go_simp; try with_reducible rfl
  try simp only [Go.Tr.nz]
  refine rd 29 rfl (fun K hK => ?_)
  go_simp
  refine HTIE.out.mono ?_
  rintro e w9 ⟨rfl, h9⟩
  have HRN9 := Lib.hid (HD8.out.op h9)
  have HX9 := Lib.hid ((HX8.out.below (Below.refl _ _).drew).op h9.2)
  have HY9 := Lib.hid ((HY8.out.below (Below.refl _ _).drew).op h9.2)
  generalize grow F7 w8.drew w9 = F9 at *
  refine hK.out _ _ ⟨HRN9.out.heap.evc (Below.refl _ _), (cells_of_block HX9.out.2 0).1, (cells_of_block HX9.out.2 1).1, (cells_of_block HY9.out.2 0).1, (cells_of_block HY9.out.2 1).1⟩ (fun hH => ?_)
  clear h9 hK K HTIE
  refine tk 30 (v := ?_) rfl ?_ ?_; rotate_left; · intro W hW; go_simp; try with_reducible rfl
  try simp only [Go.Tr.nz]
  refine tk 31 (v := ?_) rfl ?_ ?_; rotate_left; · intro W hW; go_simp; try with_reducible rfl
  try simp only [Go.Tr.nz]
  refine tk 32 (v := ?_) rfl ?_ ?_; rotate_left; · intro W hW; go_simp; try with_reducible rfl
  try simp only [Go.Tr.nz]
  refine tk 33 (v := ?_) rfl ?_ ?_; rotate_left; · intro W hW; obtain ⟨d0, d1, d2, d3, d4⟩ := hW; go_simp; try with_reducible rfl
  try simp only [Go.Tr.nz]
  refine tk 34 (v := ?_) rfl ?_ ?_; rotate_left; · intro W hW; obtain ⟨d0, d1, d2, d3, d4⟩ := hW; go_simp; try with_reducible rfl
  try simp only [Go.Tr.nz]
  refine tk 35 (v := ?_) rfl ?_ ?_; rotate_left; · intro W hW; obtain ⟨d0, d1, d2, d3, d4⟩ := hW; go_simp; try with_reducible rfl
  try simp only [Go.Tr.nz]
  refine tk 36 (v := ?_) rfl ?_ ?_; rotate_left; · intro W hW; obtain ⟨d0, d1, d2, d3, d4⟩ := hW; go_simp; try with_reducible rfl
  try simp only [Go.Tr.nz]
  refine tk 37 (v := ?_) rfl ?_ ?_; rotate_left; · intro W hW; obtain ⟨d0, d1, d2, d3, d4⟩ := hW; go_simp; try with_reducible rfl
  try simp only [Go.Tr.nz]
  have HDR : Hid (Calls Tryz.prog 11 #[.pointer (some ⟨A'.c, 0, none⟩), .agg #[.int .i64 1, .int .i64 1]] w9 fun e w' => e = .returned (.int .i64 0) ∧ HeapF w' (grow F9 w9 w') A' (alD S2 ad0 ad1) ∧ Only F9 w9 w') :=
    cdrop_any (x := ⟨1, true, ad1, 1, true, false⟩) (i := 1) w9 HRN9.out.heap HSL.out rfl rfl
  refine rd 38 rfl (fun K hK => ?_)
  go_simp
  refine HDR.out.mono ?_
  rintro e w10 ⟨rfl, h10⟩
  have HRN10 := Lib.hid (HRN9.out.op h10)
  have HX10 := Lib.hid (HX9.out.op h10.2)
  have HY10 := Lib.hid (HY9.out.op h10.2)
  generalize grow F9 w9 w10 = F10 at *
  refine hK.out _ _ ⟨HRN10.out.heap.evc (Below.refl _ _), (cells_of_block HX10.out.2 0).1, (cells_of_block HX10.out.2 1).1, (cells_of_block HY10.out.2 0).1, (cells_of_block HY10.out.2 1).1⟩ (fun hH => ?_)
  clear h10 hK K HDR
  refine tk 39 (v := ?_) rfl ?_ ?_; rotate_left; · intro W hW; go_simp; try with_reducible rfl
  try simp only [Go.Tr.nz]
  refine tk 40 (v := ?_) rfl ?_ ?_; rotate_left; · intro W hW; go_simp; try with_reducible rfl
  try simp only [Go.Tr.nz]
  refine tk 41 (v := ?_) rfl ?_ ?_; rotate_left; · intro W hW; go_simp; try with_reducible rfl
  try simp only [Go.Tr.nz]
  refine tk 42 (v := ?_) rfl ?_ ?_; rotate_left; · intro W hW; go_simp; try with_reducible rfl
  try simp only [Go.Tr.nz]
  refine rd 43 rfl (fun K hK => ?_)
  go_simp
  refine (ebegin_good w10 HRN10.out.heap HQ.out.1.good HQ.out.1.on).mono ?_
  rintro e w11 ⟨rfl, u2, gl, h11⟩
  have HRN11 := Lib.hid (HRN10.out.op h11)
  have HX11 := Lib.hid (HX10.out.op h11.2)
  have HY11 := Lib.hid (HY10.out.op h11.2)
  generalize grow F10 w10 w11 = F11 at *
  refine hK.out _ _ ⟨HRN11.out.heap.evc (Below.refl _ _), (cells_of_block HX11.out.2 0).1, (cells_of_block HX11.out.2 1).1, (cells_of_block HY11.out.2 0).1, (cells_of_block HY11.out.2 1).1⟩ (fun hH => ?_)
  clear h11 hK K
  refine tk 44 (v := ?_) rfl ?_ ?_; rotate_left; · intro W hW; go_simp; try with_reducible rfl
  try simp only [Go.Tr.nz]
  refine tk 45 (v := ?_) rfl ?_ ?_; rotate_left; · intro W hW; go_simp; try with_reducible rfl
  try simp only [Go.Tr.nz]
  refine wpAnyH_done (by kernel_rfl) ?_ _
  go_wp2_with fail
  refine (estep_any (b := 9) (n0 := 0) (AlJ.evJ (alD S2 ad0 ad1).ps).step w11 HRN11.out.heap HQ.out.1.begs (by decide) (by decide)).mono ?_
  rintro e w12 ⟨⟨d, rfl⟩, S12, n12, hj, -, hn, h12⟩
  have HRN12 := Lib.hid (HRN11.out.op h12)
  have HJ := Lib.hid (And.intro hj hn)
  generalize grow F11 w11 w12 = F12 at *
  clear h12 hj hn
  go_wp2_with fail
  refine (efinish_good w12 HRN12.out.heap ((AlJ.evJ _).good _ _ HJ.out.1) ((AlJ.evJ _).on _ _ HJ.out.1) (HJ.out.1.wait HJ.out.2) ((AlJ.evJ _).gen _ _ HJ.out.1)).mono ?_
  rintro e w13 ⟨v, fr, S13, rfl, ⟨va, vc, rfl⟩, hfr, h13⟩
  obtain ⟨f1, f2⟩ := HJ.out.1.fin HJ.out.2 hfr HQ.out.2
  rw [f1, f2]
  have HRN13 := Lib.hid (HRN12.out.op h13)
  clear h13 hfr f1 f2
  go_wp2
  go_ret
  exact ⟨rfl, HRN13.out.fin0.alloc HRN13.out.2.1.size _⟩
end Go.Proofs.YtcdpnfchmpncjaaGreatDoor

namespace Go.Proofs.YtcdpnfchmpncjaaGreatDoor
open Go.RowKit Go.Tr Go.Shelf
variable {w w' : World} {F : Nat → Prop} {A : Ad} {S : HS}
end Go.Proofs.YtcdpnfchmpncjaaGreatDoor

namespace Go.Proofs.YtcdpnfchmpncjaaGreatDoor
open Go.ChangeShapes Go.WideShapes Go.ChangeAt Go.WideMaps Go.WideElems Go.RowKit Go.Tr
theorem gTab : Tryz.prog.globalNamed "math/bits.deBruijn64tab" = some 0 := by kernel_rfl
theorem tTab : (Tryz.prog.globals[0]?).map (·.type) = some 257 := by kernel_rfl
def laidTab : List (String × DataW Unit) := [("math/bits.deBruijn64tab", Rows.laid_math_bits_deBruijn64tab)]
theorem laid_tab : (Rows.laid_math_bits_deBruijn64tab : DataW Unit) = .agg (Lib.deBruijn64tab.map fun n => .lit (.int .u8 (n : Nat))) := by rfl
theorem of_laid {W : World} (h : laidMetH Tryz.prog laidTab W) : TzB W := by
  rw [MakeChecks.laidMetH_plain _ _ _ (by kernel_rfl)] at h
  obtain ⟨ps, ⟨g0, t0, cs0, f0, p0, q0, hg0, ht0, hv0, hd0, _, _⟩, _, _⟩ := h
  obtain rfl := Option.some.inj (gTab.symm.trans hg0)
  obtain rfl := Option.some.inj (tTab.symm.trans ht0)
  obtain ⟨xs, m1, rfl, hx1, hlen, hn3, hel⟩ := DataW.trod_array Tryz.underlying257 hd0
  have c1 : Tryz.prog.cellsOf 5 = 1 := by kernel_rfl
  rw [laid_tab] at hx1
  simp only [Prod.mk.injEq, DataW.agg.injEq] at hx1
  have key : ∀ j, j < 64 → W.cell? ⟨0, j, none⟩ = some (.int .u8 (Lib.deBruijn64tab.getD j 0 : Nat)) := fun j hj => by
    have h1 := hel j hj
    rw [c1, Nat.mul_one] at h1
    obtain ⟨x, hx⟩ : ∃ x, xs[j]? = some x := ⟨_, List.getElem?_eq_getElem (by rw [hn3]; exact hj)⟩
    rw [hx] at h1
    obtain ⟨k, e1, e2, _⟩ := DataW.trod_int Tryz.underlying5 h1
    have h2 : (xs.map (·.1))[j]? = some x.1 := by rw [List.getElem?_map, hx]; rfl
    rw [← hx1.1, List.getElem?_map] at h2
    have hl : Lib.deBruijn64tab.length = 64 := by decide
    have h3 : Lib.deBruijn64tab[j]? = some (Lib.deBruijn64tab.getD j 0) := by
      rw [List.getD_eq_getElem?_getD, List.getElem?_eq_getElem (by rw [hl]; exact hj)]
      rfl
    rw [h3, e2] at h2
    have h4 : k = ((Lib.deBruijn64tab.getD j 0 : Nat) : Int) := by
      simp only [Option.map_some, Option.some.injEq] at h2
      simpa using h2.symm
    subst h4
    have := World.var?_cell hg0 hv0 j
    rw [this]
    have h5 : (cs0.toList.drop j).head? = some (.int .u8 (Lib.deBruijn64tab.getD j 0 : Nat)) := by
      cases hd : cs0.toList.drop j with
      | nil => rw [hd] at e1; cases e1
      | cons c r => rw [hd] at e1; simp at e1; simp [e1]
    rw [List.head?_drop] at h5
    simpa using h5
  have hlt := World.block_lt_of_cell? W _ (key 0 (by decide))
  refine ⟨0 + 1, hlt, fun W' hW j hj => ?_⟩
  have hl : Lib.deBruijn64tab.length = 64 := by decide
  exact (World.cell?_of_block (a := ⟨0, j, none⟩) (hW _ (Nat.lt_succ_self _))).trans (key j (by rw [← hl]; exact hj))
end Go.Proofs.YtcdpnfchmpncjaaGreatDoor

namespace Go.Proofs.YtcdpnfchmpncjaaGreatDoor
open Go.RowKit Go.Tr Go.Shelf
variable {S S1 S2 S3 : HS} {L : Lay} {c m n : Nat} {ct : Nat → Nat → Nat} {o : Nat → Nat → Option (Nat × Nat)} {cnt : Nat → Nat} {hd : Nat → Bool} {fr : List Int}
structure Rl (L : Lay) (c : Nat) : Prop where
  right : RightLay L
  cc : c ≤ 11
  rc : c = 0 ∨ L.record ≠ 0
  size : L.size c ≤ 200
def cnc (c : Nat) : Nat → Nat := fun _ => c
def PartsK (ps : List (Nat × Nat)) (q n : Nat) : Prop := ps.length ≤ n ∧ ∀ p ∈ ps, p.2 = q + 1
theorem PartsK.more {ps : List (Nat × Nat)} {q n d : Nat} (h : PartsK ps q n) : PartsK (ps ++ [(d, q + 1)]) q (n + 1) :=
  ⟨by have := h.1; simp; omega, fun p hp => (List.mem_append.1 hp).elim (h.2 p) (fun hp => by rw [List.mem_singleton.1 hp])⟩
theorem Good.free_run (h : Good S cnt) (hC : S.C = 60) {q : Nat} (hq : q ≤ 12) (hp : PartsK S.all q 1) : ∃ d, d + (q + 1) ≤ S.C ∧ ∀ k, d ≤ k → k < d + (q + 1) → S.own.getD k 0 = 0 := by
  rw [hC]
  have hz : ∀ d, (∀ p ∈ S.all, ∀ k, d ≤ k → k < d + (q + 1) → ¬ (p.1 ≤ k ∧ k < p.1 + p.2)) → ∀ k, d ≤ k → k < d + (q + 1) → S.own.getD k 0 = 0 := fun d hd k k1 k2 => by
    by_cases he : S.own.getD k 0 = 0
    · exact he
    · obtain ⟨p, hp, h1, h2⟩ := h.own k he
      exact absurd ⟨h1, h2⟩ (hd p hp k k1 k2)
  obtain ⟨hl, h2⟩ := hp
  cases ha : S.all with
  | nil => exact ⟨0, by omega, hz 0 (fun p hp => by rw [ha] at hp; cases hp)⟩
  | cons p r =>
    have hr : r = [] := by
      rw [ha] at hl
      cases r with
      | nil => rfl
      | cons _ _ => simp at hl
    subst hr
    have hpl := (h.parts p (by rw [ha]; simp)).2.1
    have hpq := h2 p (by rw [ha]; simp)
    rw [hC, hpq] at hpl
    by_cases hb : q + 1 ≤ p.1
    · refine ⟨0, by omega, hz 0 (fun p' hp' k k1 k2 => ?_)⟩
      rw [ha] at hp'
      rw [List.mem_singleton.1 hp']
      omega
    · refine ⟨p.1 + (q + 1), by omega, hz _ (fun p' hp' k k1 k2 => ?_)⟩
      rw [ha] at hp'
      rw [List.mem_singleton.1 hp', hpq]
      omega
structure RB (L : Lay) (c : Nat) (hd : Nat → Bool) (S : HS) (m : Nat) : Prop where
  good : Good S (cnc c)
  off : S.on = false
  cc : S.C = 60
  wd : S.Wd = 16
  kk : S.K = 8
  lay : S.L = L
  len : S.sl.length = 8
  parts : PartsK S.ps (L.size c / 16) m
  old : ∀ l, l < m → ∃ x : Sl, S.sl[l]? = some x ∧ x.used = true ∧ x.gen = 1 ∧ x.held = hd l
  new : ∀ l, m ≤ l → l < 8 → S.sl[l]? = some Sl.free
  mine : S.mine = (List.range m).map (fun j : Nat => (j : Int))
theorem RB.start (hL : Rl L c) : RB L c (fun _ => true) (S0 60 16 8 L) 0 ∧ ∀ ct, Cont (S0 60 16 8 L) (cnc c) ct :=
  ⟨⟨Good.start (by decide) (by decide) hL.right _, rfl, rfl, rfl, rfl, rfl, rfl, ⟨Nat.le_refl _, fun p hp => by cases hp⟩, fun l hl => by omega, fun l _ hl => free_at hl, rfl⟩,
    fun ct i x hx hu => by rw [slot_free hx] at hu; cases hu⟩
theorem RB.all (h : RB L c hd S m) : S.all = S.ps := by unfold HS.all; rw [h.off, if_neg (by decide)]
theorem RB.makeOk (hL : Rl L c) (h : RB L c hd S m) (hm : m < 2) : MakeOk S m Sl.free c := by
  have hs := hL.size
  have hc := hL.cc
  refine h.good.makeOk (h.new m (Nat.le_refl _) (by omega)) rfl (fun j hj => ?_) (by decide) (by omega) (by omega) (by rw [h.lay]; exact hL.rc) (by rw [h.lay]; omega) ?_
  · obtain ⟨x, h1, h2, -⟩ := h.old j hj
    unfold usedB
    rw [List.getD_eq_getElem?_getD, h1]
    exact h2
  · rw [h.lay, h.wd]
    refine Or.inr (h.good.free_run h.cc (by omega) ?_)
    rw [h.all]
    exact ⟨by have := h.parts.1; omega, h.parts.2⟩
theorem RB.made (hL : Rl L c) (h : RB L c (fun _ => true) S m) (hm : m < 2) {ad : Nat} (ha : AllocSt S (S.L.size c + 1) ad S1) (hc : Cont S (cnc c) (fun _ _ => 0)) :
    RB L c (fun _ => true) (mkS S1 m 1 ad c) (m + 1) ∧ Cont (mkS S1 m 1 ad c) (cnc c) (fun _ _ => 0) := by
  have hs := hL.size
  have hc11 := hL.cc
  have hy := h.new m (Nat.le_refl _) (by omega)
  obtain ⟨g1, g2⟩ := h.good.make (c := c) (i := m) (gen := 1) ha hy rfl (by decide) (by omega) (by omega) (by rw [h.lay]; exact hL.rc) (by rw [h.lay]; omega) (cnt' := cnc c) rfl (fun _ _ => rfl)
  have hsm : S1.C = S.C ∧ S1.Wd = S.Wd ∧ S1.K = S.K ∧ S1.L = S.L ∧ S1.sl = S.sl ∧ S1.on = S.on ∧ S1.mine = S.mine := by rcases ha with ⟨_, _, e⟩ | ⟨_, c, q, _, _, _, _, e⟩ <;> rw [e] <;> exact ⟨rfl, rfl, rfl, rfl, rfl, rfl, rfl⟩
  obtain ⟨e1, e2, e3, e4, e5, e6, e7⟩ := hsm
  have hps : PartsK S1.ps (L.size c / 16) (m + 1) := by
    rcases ha with ⟨_, _, e⟩ | ⟨_, d, q, hq, _, _, _, e⟩
    · rw [e]
      exact ⟨by have := h.parts.1; show S.ps.length ≤ _; omega, h.parts.2⟩
    · rw [e]
      have hq' : q = L.size c / 16 := by rw [hq, h.lay, h.wd]; rfl
      rw [hq']
      exact h.parts.more
  have hlt : m < S1.sl.length := by rw [e5, h.len]; omega
  refine ⟨⟨g1, e6.trans h.off, e1.trans h.cc, e2.trans h.wd, e3.trans h.kk, e4.trans h.lay, ?_, hps, fun l hl => ?_, fun l h1 h2 => ?_, ?_⟩, g2 _ _ hc (fun _ _ => rfl) (fun _ _ => rfl)⟩
  · show (S1.sl.set m _).length = _
    rw [List.length_set, e5, h.len]
  · by_cases hlm : l = m
    · subst hlm
      exact ⟨_, List.getElem?_set_self hlt, rfl, rfl, rfl⟩
    · obtain ⟨x, k1, k2⟩ := h.old l (by omega)
      refine ⟨x, ?_, k2⟩
      show (S1.sl.set m _)[l]? = _
      rw [List.getElem?_set_ne (fun e => hlm e.symm), e5]
      exact k1
  · show (S1.sl.set m _)[l]? = _
    rw [List.getElem?_set_ne (by omega), e5]
    exact h.new l (by omega) h2
  · show putL S1.mine m = _
    rw [e7, h.mine]
    match m, hm with
    | 0, _ => rfl
    | 1, _ => rfl
theorem RB.word (h : RB L c hd S m) {x : Sl} (hx : S.sl[0]? = some x) (hu : x.used = true) {p v : Nat} (hp : p < L.size c) :
    RB L c hd { S with ws := S.ws.set (x.addr + 1 + p) v } m :=
  ⟨(h.good.word (p := p) (v := v) hx hu (by rw [h.lay]; exact hp)).1, h.off, h.cc, h.wd, h.kk, h.lay, h.len, h.parts, h.old, h.new, h.mine⟩
theorem RB.drop (h : RB L c (fun _ => true) S 2) {x : Sl} (hx : S.sl[1]? = some x) (hu : x.used = true) :
    RB L c (fun l => decide (l = 0)) { S with sl := S.sl.set 1 ⟨x.gen, x.used, x.addr, x.region, false, x.pinned⟩ } 2 := by
  have hlt := (List.getElem?_eq_some_iff.1 hx).1
  refine ⟨(h.good.mark hx hu false).1, h.off, h.cc, h.wd, h.kk, h.lay, by rw [← h.len]; exact List.length_set, h.parts, fun l hl => ?_, fun l h1 h2 => ?_, h.mine⟩
  · obtain ⟨y, k1, k2, k3, k4⟩ := h.old l hl
    by_cases hl1 : l = 1
    · subst hl1
      rw [hx] at k1
      cases k1
      exact ⟨_, List.getElem?_set_self hlt, k2, k3, rfl⟩
    · refine ⟨y, ?_, k2, k3, k4.trans (decide_eq_true (by omega)).symm⟩
      show (S.sl.set 1 _)[l]? = _
      rw [List.getElem?_set_ne (fun e => hl1 e.symm)]
      exact k1
  · show (S.sl.set 1 _)[l]? = _
    rw [List.getElem?_set_ne (by omega)]
    exact h.new l h1 h2
def ctQ (L : Lay) (q : Nat) : Nat → Nat → Nat := fun i p => if i = 0 ∧ p < q then (if isRefN L p = true then linkN 1 1 else p * 977) else 0
def oR (L : Lay) : Nat → Nat → Option (Nat × Nat) := fun i p => if i = 0 ∧ isRefN L p = true then some (1, 1) else none
theorem cont_next (h : RB L c hd S m) {x : Sl} (hx : S.sl[0]? = some x) (hu : x.used = true) {q : Nat} (hq : q < L.size c) (hc : Cont S (cnc c) (ctQ L q)) :
    Cont { S with ws := S.ws.set (x.addr + 1 + q) (if isRefN L q = true then linkN 1 1 else q * 977) } (cnc c) (ctQ L (q + 1)) := by
  refine (h.good.word hx hu (by rw [h.lay]; exact hq)).2 _ _ hc (fun j p hjp => ?_) ?_
  · unfold ctQ
    by_cases hj : j = 0
    · by_cases hpq : p < q
      · rw [if_pos (show j = 0 ∧ p < q + 1 from ⟨hj, by omega⟩), if_pos (show j = 0 ∧ p < q from ⟨hj, hpq⟩)]
      · rw [if_neg (fun e => hjp.elim (fun h => h hj) (fun h => by omega)), if_neg (fun e => hpq e.2)]
    · rw [if_neg (fun e => hj e.1), if_neg (fun e => hj e.1)]
  · unfold ctQ
    rw [if_pos ⟨rfl, Nat.lt_succ_self q⟩]
theorem ctQ_here {q : Nat} : ctQ L q 0 q = lkN none := by
  unfold ctQ
  rw [if_neg (by omega)]
  rfl
structure Rv (L : Lay) (c : Nat) (S : HS) (n : Nat) : Prop where
  good : Good S (cnc c)
  cont : Cont S (cnc c) (ctQ L (L.size c))
  link : Linked S (cnc c) (ctQ L (L.size c)) (oR L)
  on : S.on = true
  cc : S.C = 60
  wd : S.Wd = 16
  lay : S.L = L
  p1 : PartsK S.ps (L.size c / 16) 2
  p2 : PartsK S.ps2 (L.size c / 16) n
  mine : S.mine = [0, 1]
  s0 : ∃ x : Sl, S.sl[0]? = some x ∧ x.used = true ∧ x.gen = 1 ∧ x.held = true
  s1 : ∃ x : Sl, S.sl[1]? = some x ∧ x.used = true ∧ x.gen = 1
def RvJ (L : Lay) (c : Nat) (n : Nat) (S : HS) : Prop := Rv L c S n ∧ n ≤ 2 ∧ S.gs.Small (100 + 100200 * n : Nat) ∧
  ((n = 0 ∧ Rep S.gs [0] []) ∨ (n = 1 ∧ slotsL L c = [] ∧ Rep S.gs [] [0]) ∨ (n = 1 ∧ slotsL L c ≠ [] ∧ Rep S.gs [1] [0]) ∨ (n = 2 ∧ slotsL L c ≠ [] ∧ Rep S.gs [] [0, 1]))
theorem RB.link (hL : Rl L c) (h : RB L c hd S 2) : Linked S (cnc c) (ctQ L (L.size c)) (oR L) := fun i x hx hu p hp => by
  rw [h.lay] at hp
  obtain ⟨hp1, hp2⟩ := mem_slots hL.right hp
  unfold oR ctQ
  by_cases hi : i = 0
  · rw [if_pos ⟨hi, hp2⟩, if_pos ⟨hi, hp1⟩, if_pos hp2]
    obtain ⟨y, h1, h2, -⟩ := h.old 1 (by omega)
    exact ⟨fun j g e => by cases e; decide, rfl, fun j g e => by cases e; exact ⟨y, h1, h2⟩⟩
  · rw [if_neg (fun e => hi e.1), if_neg (fun e => hi e.1)]
    exact ⟨fun j g e => (by cases e), rfl, fun j g e => (by cases e)⟩
theorem RB.begs (hL : Rl L c) (h : RB L c (fun l => decide (l = 0)) S 2) (hc : Cont S (cnc c) (ctQ L (L.size c))) : RvJ L c 0 (begS S) := by
  have hm : S.mine = [0, 1] := h.mine
  obtain ⟨x, a1, a2, a3, a4⟩ := h.old 0 (by omega)
  obtain ⟨y, b1, b2, b3, b4⟩ := h.old 1 (by omega)
  have hf : S.mine.filter (heldB S.sl) = [0] := by
    have b4' : y.held = false := b4
    have a4' : x.held = true := a4
    rw [hm]
    simp [List.filter, heldB, a1, b1, a4', b4']
  have hg : (begS S).gs = GS.new.put [0] := by
    unfold begS
    rw [hf]
  obtain ⟨g1, g2⟩ := h.good.begin h.off (begS S).gs
  refine ⟨⟨g1, g2 _ hc, (h.link hL : Linked S _ _ _), rfl, h.cc, h.wd, h.lay, h.parts, ⟨Nat.le_refl _, fun p hp => by cases hp⟩, hm, ⟨x, a1, a2, a3, a4⟩, ⟨y, b1, b2, b3⟩⟩, by decide, ?_, Or.inl ⟨rfl, ?_⟩⟩
  · rw [hg]
    exact (GS.Small.put (N := 0) [0] (by unfold GS.Small GS.new; simp)).mono (by decide)
  · rw [hg]
    exact Rep.new.put [0]
theorem Rv.gs (h : Rv L c S n) (g : GS) : Rv L c { S with gs := g } n :=
  ⟨h.good.gs g, h.cont, h.link, h.on, h.cc, h.wd, h.lay, h.p1, h.p2, h.mine, h.s0, h.s1⟩
theorem Rv.le (h : Rv L c S n) {n2 : Nat} (hn : n ≤ n2) : Rv L c S n2 :=
  ⟨h.good, h.cont, h.link, h.on, h.cc, h.wd, h.lay, h.p1, ⟨by have := h.p2.1; omega, h.p2.2⟩, h.mine, h.s0, h.s1⟩
theorem Rv.lookPre (hL : Rl L c) (h : Rv L c S n) (hn : n ≤ 2) {i : Nat} {x : Sl} (hx : S.sl[i]? = some x) (hu : x.used = true) (hsm : S.gs.Small 500000) : LookPre S i x c (oR L i) := by
  refine h.good.lookPre h.cont h.link h.on hx hu hsm (fun hb => ?_)
  show _ ∨ ∃ d, d + (S.L.size c / S.Wd + 1) ≤ S.C ∧ ∀ k, d ≤ k → k < d + (S.L.size c / S.Wd + 1) → S.own.getD k 0 = 0
  rw [h.lay, h.wd]
  have hall : S.all = S.ps ++ S.ps2 := by unfold HS.all; rw [if_pos h.on]
  have hpq : ∀ p ∈ S.all, p.2 = L.size c / 16 + 1 := fun p hp => by
    rw [hall] at hp
    exact (List.mem_append.1 hp).elim (h.p1.2 p) (h.p2.2 p)
  by_cases h0 : L.size c / 16 = 0
  · rw [h0]
    obtain ⟨d, d1, d2⟩ := h.good.free1 (by
      rw [chunksL_one (fun p hp => by rw [hpq p hp, h0]), hall, List.length_append, h.cc]
      have := h.p1.1
      have := h.p2.1
      omega)
    exact Or.inr ⟨d, d1, fun k k1 k2 => by rw [show k = d by omega]; exact d2⟩
  · exfalso
    obtain ⟨p, hp, p1, p2, -⟩ := (h.good.ent i x hx hu).ap
    have hps := hpq p hp
    have hpp := hp
    rw [h.wd] at p1 p2
    rw [h.wd] at hb
    rw [hall] at hp
    have hin : p.1 ≤ x.addr / 16 ∧ x.addr / 16 < p.1 + p.2 := by omega
    rcases List.mem_append.1 hp with hp | hp
    · have : bigPart S.ps (x.addr / 16) = true := by
        unfold bigPart
        rw [List.any_eq_true]
        refine ⟨p, hp, ?_⟩
        simp only [Bool.and_eq_true, decide_eq_true_eq]
        exact ⟨⟨by omega, hin.1⟩, hin.2⟩
      rw [this] at hb
      cases hb
    · have : hasL (chunksL S.ps) ((x.addr / 16 : Nat) : Int) = false := by
        refine hasL_false (fun hm => ?_)
        obtain ⟨p', hp', k, hk, k1, k2⟩ := mem_chunksL.1 hm
        have hpap := h.good.pap
        rw [hall] at hpap
        have := (List.pairwise_append.1 hpap).2.2 p' hp' p hp
        unfold PApart at this
        have hk' : k = x.addr / 16 := by omega
        omega
      rw [this] at hb
      cases hbp : bigPart S.ps (x.addr / 16) <;> rw [hbp] at hb <;> cases hb
theorem Rv.moved (h : Rv L c S n) {i : Nat} {x : Sl} (hx : S.sl[i]? = some x) (hu : x.used = true) (hm : MovedSt S i x (S.L.size c + 1) S2) : Rv L c S2 (n + 1) := by
  obtain ⟨g1, g2⟩ := h.good.moved h.on hx hu hm
  obtain ⟨e1, e2, e3, e4, e5, e6, e7, e8⟩ := hm.same
  refine ⟨g1, g2 _ h.cont, h.link.moved hm hx, e7.trans h.on, e1.trans h.cc, e2.trans h.wd, e4.trans h.lay, by rw [e6]; exact h.p1, ?_, e5.trans h.mine, ?_, ?_⟩
  · rcases hm with ⟨-, e⟩ | ⟨-, ad, S1, ha, e⟩
    · rw [e]
      exact ⟨by have := h.p2.1; omega, h.p2.2⟩
    · rw [e]
      show PartsK S1.ps2 _ _
      rcases ha with ⟨_, _, e⟩ | ⟨_, d, q, hq, _, _, _, e⟩
      · rw [e]
        exact ⟨by have := h.p2.1; show S.ps2.length ≤ _; omega, h.p2.2⟩
      · rw [e]
        have hq' : q = L.size c / 16 := by rw [hq, h.lay, h.wd]; rfl
        rw [hq']
        exact h.p2.more
  · obtain ⟨y, k1, k2, k3, k4⟩ := h.s0
    obtain ⟨y2, j1, j2, j3, j4⟩ := hm.slot hx k1
    exact ⟨y2, j1, j2.trans k2, j3.trans k3, j4.trans k4⟩
  · obtain ⟨y, k1, k2, k3⟩ := h.s1
    obtain ⟨y2, j1, j2, j3, j4⟩ := hm.slot hx k1
    exact ⟨y2, j1, j2.trans k2, j3.trans k3⟩
theorem tgt0 (hL : Rl L c) : tgt (refsL L c (oR L 0)) = (slotsL L c).map (fun _ => (1 : Int)) := by
  unfold tgt refsL
  rw [List.filterMap_map]
  have : ∀ l : List Nat, (∀ p ∈ l, p ∈ slotsL L c) → l.filterMap ((fun x : Nat × Option (Nat × Nat) => x.2.map fun q => (q.1 : Int)) ∘ fun p => (p, oR L 0 p)) = l.map (fun _ => (1 : Int)) := fun l => by
    induction l with
    | nil => intro _; rfl
    | cons p r ih =>
      intro hp
      have hr := (mem_slots hL.right (hp p List.mem_cons_self)).2
      have ho : oR L 0 p = some (1, 1) := by unfold oR; rw [if_pos ⟨rfl, hr⟩]
      rw [List.filterMap_cons]
      simp only [Function.comp, ho, Option.map]
      rw [List.map_cons]
      congr 1
      exact ih (fun q hq => hp q (List.mem_cons_of_mem _ hq))
  exact this _ (fun _ h => h)
theorem tgt1 : tgt (refsL L c (oR L 1)) = [] := by
  unfold tgt refsL
  rw [List.filterMap_map, List.filterMap_eq_nil_iff]
  intro p _
  have : oR L 1 p = none := by unfold oR; rw [if_neg (fun e => by omega)]
  simp [Function.comp, this]
theorem putW_ones : ∀ (l : List Nat) (bl : List Int), (1 : Int) ∉ bl → putW bl [1] (l.map (fun _ => (1 : Int))) = [1]
  | [], _, _ => rfl
  | _ :: r, bl, h => by
    have ih := putW_ones r bl h
    unfold putW at ih ⊢
    rw [List.map_cons, List.foldl_cons, if_pos (Or.inl (List.mem_singleton.2 rfl))]
    exact ih
theorem putW_first {l : List Nat} (hl : l ≠ []) : putW [0] [] (l.map (fun _ => (1 : Int))) = [1] := by
  cases l with
  | nil => exact absurd rfl hl
  | cons a r =>
    have ih := putW_ones r [0] (by decide)
    unfold putW at ih ⊢
    rw [List.map_cons, List.foldl_cons, if_neg (by decide)]
    exact ih
theorem next_small {g : GS} {N : Int} {bl : List Int} (h : Rep g [] bl) (hs : g.Small N) : g.next.2.Small N := by
  have e : g.next.2 = { g with q := [] } := by
    unfold GS.next
    rw [nextQ_none h.live]
  rw [e]
  obtain ⟨a1, a2, a3, a4, a5⟩ := hs
  exact ⟨a1, a2, a3, a4, by simp; omega⟩
theorem RvJ.evJ (hL : Rl L c) : EvJ (RvJ L c) (cnc c) := by
  have hsz := hL.size
  have hsl : (slotsL L c).length ≤ 100000 := slotsL_length hL.right (by have := hL.cc; omega)
  refine ⟨fun n S h => ?_, fun n S h => by have := h.2.1; omega, fun n S h => h.1.good, fun n S h => h.1.on, fun n S h i x hx hu => ?_⟩
  · obtain ⟨hv, hn, hsm, hr⟩ := h
    refine ⟨hv.on, hsm.mono (by omega), ?_⟩
    rcases hr with ⟨rfl, hrep⟩ | ⟨rfl, hs0, hrep⟩ | ⟨rfl, hs0, hrep⟩ | ⟨rfl, hs0, hrep⟩
    · obtain ⟨n1, n2⟩ := hrep.next_some
      obtain ⟨x, hx, hu, -⟩ := hv.s0
      have hv2 := hv.gs S.gs.next.2
      have hsn := Small_next hsm
      refine Or.inr ⟨0, x, c, oR L 0, n1, by rw [hv.lay]; omega, hv2.lookPre hL hn hx hu (hsn.mono (by decide)), fun S2 hm2 => ?_⟩
      have hmv := hv2.moved hx hu hm2
      have hgs : S2.gs = S.gs.next.2 := hm2.same.2.2.2.2.2.2.2
      rw [hv.lay, tgt0 hL, hgs, n2.paint_old (by simp)]
      have hsp := hsn.put ((slotsL L c).map (fun _ => (1 : Int)))
      rw [List.length_map] at hsp
      refine ⟨hmv.gs _, by decide, hsp.mono (by omega), ?_⟩
      by_cases hs0 : slotsL L c = []
      · refine Or.inr (Or.inl ⟨rfl, hs0, ?_⟩)
        rw [hs0]
        exact n2
      · refine Or.inr (Or.inr (Or.inl ⟨rfl, hs0, ?_⟩))
        have := n2.put ((slotsL L c).map (fun _ => (1 : Int)))
        rw [List.nil_append, putW_first hs0] at this
        exact this
    · obtain ⟨n1, n2⟩ := hrep.next_none
      exact Or.inl ⟨n1, by rw [n2.cnt]; rfl, hv.gs _, hn, next_small hrep hsm, Or.inr (Or.inl ⟨rfl, hs0, n2⟩)⟩
    · obtain ⟨n1, n2⟩ := hrep.next_some
      obtain ⟨x, hx, hu, -⟩ := hv.s1
      have hv2 := hv.gs S.gs.next.2
      have hsn := Small_next hsm
      refine Or.inr ⟨1, x, c, oR L 1, n1, by rw [hv.lay]; omega, hv2.lookPre hL hn hx hu (hsn.mono (by decide)), fun S2 hm2 => ?_⟩
      have hmv := hv2.moved hx hu hm2
      have hgs : S2.gs = S.gs.next.2 := hm2.same.2.2.2.2.2.2.2
      rw [hv.lay, tgt1, hgs, n2.paint_old (by simp)]
      refine ⟨hmv.gs _, by decide, ?_, Or.inr (Or.inr (Or.inr ⟨rfl, hs0, n2⟩))⟩
      exact hsn.mono (by omega)
    · obtain ⟨n1, n2⟩ := hrep.next_none
      exact Or.inl ⟨n1, by rw [n2.cnt]; rfl, hv.gs _, hn, next_small hrep hsm, Or.inr (Or.inr (Or.inr ⟨rfl, hs0, n2⟩))⟩
  · have hm := (h.1.good.mine _).2 ⟨i, x, rfl, hx, hu⟩
    rw [h.1.mine] at hm
    rcases List.mem_cons.1 hm with e | hm
    · have hi : i = 0 := by omega
      subst hi
      obtain ⟨y, k1, -, k3, -⟩ := h.1.s0
      rw [hx] at k1
      cases k1
      omega
    · have hi : i = 1 := by have := List.mem_singleton.1 hm; omega
      subst hi
      obtain ⟨y, k1, -, k3⟩ := h.1.s1
      rw [hx] at k1
      cases k1
      omega
structure Rfin (L : Lay) (c : Nat) (S : HS) : Prop where
  good : Good S (cnc c)
  cont : Cont S (cnc c) (ctQ L (L.size c))
  off : S.on = false
  lay : S.L = L
  s0 : ∃ x : Sl, S.sl[0]? = some x ∧ x.used = true ∧ x.gen = 1 ∧ x.held = true
theorem RvJ.fin (h : RvJ L c n S) (hw : S.gs.wait = 0) (hf : FinR S (cnc c) S3 fr) : Rfin L c S3 ∧ (S.mine.filter (whiteB S)).length = if slotsL L c = [] then 1 else 0 := by
  obtain ⟨hv, hn, hsm, hr⟩ := h
  have hfin : S.gs.color 0 = 2 → Rfin L c S3 := fun c0 => by
    refine ⟨hf.good, hf.cont _ hv.cont, hf.on, hf.fix.2.2.2.trans hv.lay, ?_⟩
    obtain ⟨x, k1, k2⟩ := hv.s0
    refine ⟨x, ?_, k2⟩
    have := hf.sl 0
    rw [if_neg (fun e => by have := e.2; rw [show ((0 : Nat) : Int) = 0 from rfl, c0] at this; cases this)] at this
    exact this.trans k1
  rcases hr with ⟨rfl, hrep⟩ | ⟨rfl, hs0, hrep⟩ | ⟨rfl, hs0, hrep⟩ | ⟨rfl, hs0, hrep⟩
  · have := hrep.cnt
    rw [hw] at this
    simp at this
  · have c0 : S.gs.color 0 = 2 := (hrep.black 0).2 (by simp)
    have c1 : S.gs.color 1 = 0 := (hrep.white_iff 1).2 (by simp)
    refine ⟨hfin c0, ?_⟩
    rw [if_pos hs0, hv.mine]
    simp [List.filter, whiteB, c0, c1]
  · have := hrep.cnt
    rw [hw] at this
    simp at this
  · have c0 : S.gs.color 0 = 2 := (hrep.black 0).2 (by simp)
    have c1 : S.gs.color 1 = 2 := (hrep.black 1).2 (by simp)
    refine ⟨hfin c0, ?_⟩
    rw [if_neg hs0, hv.mine]
    simp [List.filter, whiteB, c0, c1]
end Go.Proofs.YtcdpnfchmpncjaaGreatDoor

namespace Go.Tr
open Go.RowKit
def riseB (size : Int) : Int → List Int → Bool
  | _, [] => true
  | last, x :: r => !(decide (x ≤ last) || decide (size ≤ x)) && riseB size x r
theorem riseB_nats {size : Int} : ∀ {l : List Int} {last : Int}, riseB size last l = true → (∀ x ∈ l, last < x ∧ x < size) ∧ l.Pairwise (· < ·)
  | [], _, _ => ⟨fun x hx => (by cases hx), List.Pairwise.nil⟩
  | y :: r, last, h => by
    unfold riseB at h
    simp only [Bool.and_eq_true, Bool.not_eq_true', Bool.or_eq_false_iff, decide_eq_false_iff_not] at h
    obtain ⟨h1, h2⟩ := riseB_nats h.2
    refine ⟨fun x hx => ?_, List.pairwise_cons.2 ⟨fun x hx => (h1 x hx).1, h2⟩⟩
    rcases List.mem_cons.1 hx with rfl | hx
    · omega
    · have := h1 x hx; omega
theorem riseB_bad {size : Int} {l : List Int} {last : Int} (h1 : ∀ x ∈ l, last < x ∧ x < size) (h2 : l.Pairwise (· < ·)) : riseB size last l = true := by
  induction l generalizing last with
  | nil => rfl
  | cons y r ih =>
    unfold riseB
    have h3 := List.pairwise_cons.1 h2
    have hy := h1 y List.mem_cons_self
    have e : (decide (y ≤ last) || decide (size ≤ y)) = false := by simp; omega
    rw [e, ih (fun x hx => ⟨h3.1 x hx, (h1 x (List.mem_cons_of_mem _ hx)).2⟩) h3.2]
    rfl
structure RawL where
  f : Int
  xs : List Int
  r : Int
  ys : List Int
def RawAt (w : World) (v : Value) (R : RawL) : Prop := ∃ ra rc sa sc, v = .agg #[.int .i64 R.f, .slice ra R.xs.length rc, .int .i64 R.r, .slice sa R.ys.length sc] ∧ SeqAt w ra (ints R.xs) ∧ SeqAt w sa (ints R.ys)
theorem RawAt.kept {w w' : World} {v : Value} {R : RawL} (h : RawAt w v R) (hb : Below w.heap.size w w') : RawAt w' v R := by
  obtain ⟨ra, rc, sa, sc, e, h1, h2⟩ := h
  exact ⟨ra, rc, sa, sc, e, h1.below hb (Nat.le_refl _), h2.below hb (Nat.le_refl _)⟩
def RawL.bad (R : RawL) : Bool := decide (R.f < 0) || decide (64 < R.f) || decide (R.r < 0) || decide (64 < R.r)
def RawL.right (R : RawL) : Bool := !R.bad && (riseB R.f (-1) R.xs && riseB R.r (-1) R.ys && (decide (0 < R.f) || decide (0 < R.r)))
def RawL.lay (R : RawL) : Lay := ⟨R.f.toNat, R.xs.map Int.toNat, R.r.toNat, R.ys.map Int.toNat⟩
theorem ns_toNat {l : List Int} (h : ∀ x ∈ l, 0 ≤ x) : ns (l.map Int.toNat) = ints l := by
  unfold ns ints
  rw [List.map_map]
  refine List.map_congr_left (fun x hx => ?_)
  have := h x hx
  simp only [Function.comp, nv, iv]
  rw [Int.toNat_of_nonneg this]
theorem risesN_of {l : List Int} {size : Int} (h : riseB size (-1) l = true) (hs : 0 ≤ size) : risesN (l.map Int.toNat) size.toNat ∧ ns (l.map Int.toNat) = ints l := by
  obtain ⟨h1, h2⟩ := riseB_nats h
  refine ⟨⟨fun p hp => ?_, ?_⟩, ns_toNat (fun x hx => by have := h1 x hx; omega)⟩
  · obtain ⟨x, hx, rfl⟩ := List.mem_map.1 hp
    have := h1 x hx
    omega
  · rw [List.pairwise_map]
    refine (List.Pairwise.and_mem.1 h2).imp (fun {a b} hab => ?_)
    have := h1 a hab.1
    have := hab.2.2
    omega
theorem RawL.lay_ok {w : World} {v : Value} {R : RawL} (h : RawAt w v R) (hr : R.right = true) : RightLay R.lay ∧ LayAt w v R.lay := by
  unfold RawL.right RawL.bad at hr
  simp only [Bool.and_eq_true, Bool.not_eq_true', Bool.or_eq_false_iff, decide_eq_false_iff_not, Bool.or_eq_true, decide_eq_true_eq] at hr
  obtain ⟨⟨⟨⟨h1, h2⟩, h3⟩, h4⟩, ⟨h5, h6⟩, h7⟩ := hr
  obtain ⟨a1, a2⟩ := risesN_of h5 (by omega)
  obtain ⟨b1, b2⟩ := risesN_of h6 (by omega)
  obtain ⟨ra, rc, sa, sc, e, k1, k2⟩ := h
  refine ⟨⟨?_, ?_, ?_, a1, b1⟩, ra, rc, sa, sc, ?_, ?_, ?_⟩
  · show R.f.toNat ≤ 64; omega
  · show R.r.toNat ≤ 64; omega
  · show 0 < R.f.toNat + R.r.toNat; omega
  · rw [e]
    simp only [RawL.lay, List.length_map]
    rw [Int.toNat_of_nonneg (by omega : 0 ≤ R.f), Int.toNat_of_nonneg (by omega : 0 ≤ R.r)]
  · show SeqAt w ra (ns (R.xs.map Int.toNat)); rw [a2]; exact k1
  · show SeqAt w sa (ns (R.ys.map Int.toNat)); rw [b2]; exact k2
def wordK (l : List Nat) : Nat → Nat
  | 0 => 0
  | k + 1 => 2 * wordK l k + if 63 - k ∈ l then 1 else 0
theorem wordK_lt (l : List Nat) : ∀ k, wordK l k < 2 ^ k
  | 0 => Nat.one_pos
  | k + 1 => by
    have := wordK_lt l k
    unfold wordK
    rw [Nat.pow_succ]
    split <;> omega
theorem wordK_bit (l : List Nat) : ∀ k, k ≤ 64 → ∀ j, (wordK l k).testBit j = (decide (j < k) && decide (64 - k + j ∈ l))
  | 0, _, j => by simp [wordK]
  | k + 1, hk, j => by
    have ih := wordK_bit l k (by omega)
    unfold wordK
    cases j with
    | zero =>
      rw [Nat.testBit_zero, show 64 - (k + 1) + 0 = 63 - k by omega]
      by_cases h : 63 - k ∈ l
      · rw [if_pos h]; simp [h] <;> omega
      · rw [if_neg h]; simp [h]
    | succ j =>
      rw [Nat.testBit_succ]
      have e : (2 * wordK l k + if 63 - k ∈ l then 1 else 0) / 2 = wordK l k := by split <;> omega
      rw [e, ih j, show 64 - (k + 1) + (j + 1) = 64 - k + j by omega]
      by_cases h : j < k
      · simp [h]
      · simp [h]
def wordN (l : List Nat) : Nat := wordK l 64
theorem wordN_lt (l : List Nat) : wordN l < 18446744073709551616 := wordK_lt l 64
theorem pairwise_ext {l m : List Nat} (hl : l.Pairwise (· < ·)) (hm : m.Pairwise (· < ·)) (h : ∀ x, x ∈ l ↔ x ∈ m) : l = m := by
  induction l generalizing m with
  | nil =>
    cases m with
    | nil => rfl
    | cons y r => exact absurd ((h y).2 List.mem_cons_self) (by simp)
  | cons x r ih =>
    cases m with
    | nil => exact absurd ((h x).1 List.mem_cons_self) (by simp)
    | cons y s =>
      obtain ⟨l1, l2⟩ := List.pairwise_cons.1 hl
      obtain ⟨m1, m2⟩ := List.pairwise_cons.1 hm
      have hxy : x = y := by
        rcases List.mem_cons.1 ((h x).1 List.mem_cons_self) with e | hx
        · exact e
        · rcases List.mem_cons.1 ((h y).2 List.mem_cons_self) with e | hy
          · exact e.symm
          · have := l1 y hy; have := m1 x hx; omega
      subst hxy
      congr 1
      refine ih l2 m2 (fun z => ⟨fun hz => ?_, fun hz => ?_⟩)
      · rcases List.mem_cons.1 ((h z).1 (List.mem_cons_of_mem _ hz)) with e | hz2
        · have := l1 z hz; omega
        · exact hz2
      · rcases List.mem_cons.1 ((h z).2 (List.mem_cons_of_mem _ hz)) with e | hz2
        · have := m1 z hz; omega
        · exact hz2
theorem spread_word {l : List Nat} {size : Nat} (h : risesN l size) (hs : size ≤ 64) : spreadL (wordN l) = l := by
  refine pairwise_ext ?_ h.2 (fun x => ?_)
  · unfold spreadL
    exact List.Pairwise.filter _ List.pairwise_lt_range
  · unfold spreadL wordN
    rw [List.mem_filter, List.mem_range, wordK_bit l 64 (Nat.le_refl _)]
    constructor
    · rintro ⟨h1, h2⟩
      simpa [h1] using h2
    · intro hx
      have := h.1 x hx
      exact ⟨by omega, by simp [hx]; omega⟩
end Go.Tr
namespace Go.Proofs.YtcdpnfchmpncjaaGreatDoor
open Go.RowKit Go.Tr Go.Shelf
variable {w w' : World} {L : Lay}
theorem rise_drop {size last : Int} {l : List Int} {k : Nat} {x : Int} (h : l[k]? = some x) : riseB size last (l.drop k) = (!(decide (x ≤ last) || decide (size ≤ x)) && riseB size x (l.drop (k + 1))) := by
  obtain ⟨h1, h2⟩ := List.getElem?_eq_some_iff.1 h
  rw [List.drop_eq_getElem_cons h1, h2]
  rfl
set_option maxRecDepth 100000 in
theorem r4rise_any (a : Option Addr) (n c : Nat) (xs : List Int) (size : Int) (w : World) (h : SeqAt w a (ints xs)) (hl : xs.length = n) (hm : n ≤ 1000) :
    Calls Tryz.prog 93 #[.slice a n c, .int .i64 size] w fun e w' => e = .returned (.bool (riseB size (-1) xs)) ∧ w = w' := by
  have H := Lib.hid h; clear h
  have HL := Lib.hid hl; clear hl
  obtain ⟨b, hb⟩ : ∃ b, b = riseB size (-1) xs := ⟨_, rfl⟩
  rw [← hb]
  have HB := Lib.hid hb
  clear hb
  go_enter Tryz.func93, Tryz.ntmps93
  go_wp2
  go_loop [5, 6] (fun l i => ∃ (k : Nat) (z : Int), k ≤ n ∧ i = .int .i64 k ∧ l = .int .i64 z ∧ Hid (b = riseB size z (xs.drop k))) (fun _ i => n - (intOf i).toNat)
  case atStart => exact ⟨0, -1, Nat.zero_le _, rfl, rfl, HB.out⟩
  case round =>
    obtain ⟨k, z, hk, rfl, rfl, HR⟩ := hrel
    by_cases hlt : k < n
    · obtain ⟨b1, off, x, rfl, hc, HZ⟩ := H.out.ints (k := k) (by rw [HL.out]; exact hlt)
      have HD := Lib.hid (HR.out.trans (rise_drop HZ.out))
      clear HR HB
      by_cases h1 : x ≤ z
      · have HE : Hid (b = false) := by
          show _ = _
          rw [HD.out, decide_eq_true h1]; rfl
        go_wp2
        go_ret
        exact ⟨by rw [HE.out]; rfl, rfl⟩
      · by_cases h2 : size ≤ x
        · have HE : Hid (b = false) := by
            show _ = _
            rw [HD.out, decide_eq_true h2, Bool.or_true]; rfl
          go_wp2
          go_ret
          exact ⟨by rw [HE.out]; rfl, rfl⟩
        · have HE : Hid (b = riseB size x (xs.drop (k + 1))) := by
            show _ = _
            rw [HD.out, decide_eq_false h1, decide_eq_false h2]; rfl
          clear HD
          go_wp2
          go_round
          case rel => exact ⟨k + 1, x, by omega, by go_num, rfl, HE.out⟩
          case measure => simp [intOf]; omega
    · have HE : Hid (b = true) := by
        show _ = _
        rw [HR.out, List.drop_of_length_le (by rw [HL.out]; omega)]; rfl
      clear HR HB
      go_wp2
      go_ret
      exact ⟨by rw [HE.out]; rfl, rfl⟩
set_option maxRecDepth 100000 in
theorem r4has_any (a : Option Addr) (len cap : Nat) (xs : List Nat) (x : Nat) (w : World) (h : SeqAt w a (ns xs)) (hl : xs.length = len) (hm : len ≤ 1000) :
    Calls Tryz.prog 45 #[.slice a len cap, .int .i64 x] w fun e w' => e = .returned (.bool (decide (x ∈ xs))) ∧ w = w' := by
  have H := Lib.hid h; clear h
  have HL := Lib.hid hl; clear hl
  obtain ⟨b, hb⟩ : ∃ b, b = decide (x ∈ xs) := ⟨_, rfl⟩
  rw [← hb]
  have HB := Lib.hid hb
  clear hb
  go_enter Tryz.func45, Tryz.ntmps45
  go_wp2
  go_loop [5] (fun i => ∃ k : Nat, k ≤ len ∧ i = .int .i64 k ∧ Hid (b = decide (x ∈ xs.drop k))) (fun i => len - (intOf i).toNat)
  case atStart => exact ⟨0, Nat.zero_le _, rfl, HB.out⟩
  case round =>
    obtain ⟨k, hk, rfl, HN⟩ := hrel
    by_cases hlt : k < len
    · obtain ⟨b1, off, z, rfl, hc, HZ⟩ := H.out.n (k := k) (by rw [HL.out]; exact hlt)
      have HD : Hid (b = decide (x = z ∨ x ∈ xs.drop (k + 1))) := by
        show _ = _
        obtain ⟨h1, h2⟩ := List.getElem?_eq_some_iff.1 HZ.out
        rw [HN.out, List.drop_eq_getElem_cons h1, h2]
        simp
      clear HN HB
      by_cases he : x = z
      · subst he
        have HE : Hid (b = true) := by show _ = _; rw [HD.out]; simp
        go_wp2
        go_ret
        exact ⟨by rw [HE.out]; rfl, rfl⟩
      · have HE : Hid (b = decide (x ∈ xs.drop (k + 1))) := by show _ = _; rw [HD.out]; simp [he]
        have he2 : ¬ (z : Int) = (x : Int) := by omega
        clear HD
        go_wp2
        go_round
        case rel => exact ⟨k + 1, by omega, by go_num, HE.out⟩
        case measure => simp [intOf]; omega
    · have HE : Hid (b = false) := by
        show _ = _
        rw [HN.out, List.drop_of_length_le (by rw [HL.out]; omega)]; simp
      clear HN HB
      go_wp2
      go_ret
      exact ⟨by rw [HE.out]; rfl, rfl⟩
set_option maxRecDepth 100000 in
theorem r4word_any (a : Option Addr) (len cap : Nat) (xs : List Nat) (w : World) (h : SeqAt w a (ns xs)) (hl : xs.length = len) (hm : len ≤ 1000) :
    Calls Tryz.prog 44 #[.slice a len cap] w fun e w' => e = .returned (.int .u64 (wordN xs : Nat)) ∧ w = w' := by
  have H : Hid (∀ x : Nat, Calls Tryz.prog 45 #[.slice a len cap, .int .i64 x] w fun e w' => e = .returned (.bool (decide (x ∈ xs))) ∧ w = w') := fun x => r4has_any a len cap xs x w h hl hm
  clear h
  obtain ⟨z, hz⟩ : ∃ z, z = wordN xs := ⟨_, rfl⟩
  rw [← hz]
  have HZ := Lib.hid hz
  clear hz
  go_enter Tryz.func44, Tryz.ntmps44
  go_wp2
  go_loop [3, 4] (fun y i => ∃ (k q : Nat), k ≤ 64 ∧ i = .int .i64 (63 - (k : Int)) ∧ y = .int .u64 (q : Nat) ∧ Hid (q = wordK xs k)) (fun _ i => (intOf i + 1).toNat)
  case atStart => exact ⟨0, 0, Nat.zero_le _, rfl, rfl, rfl⟩
  case round =>
    obtain ⟨k, q, hk, rfl, rfl, HQ⟩ := hrel
    by_cases hlt : k < 64
    · obtain ⟨p, hp⟩ : ∃ p : Nat, 63 - k = p := ⟨_, rfl⟩
      have hp1 : (63 : Int) - (k : Int) = (p : Int) := by omega
      have hq : 2 * q < 18446744073709551615 := by
        have h1 := wordK_lt xs k
        rw [← HQ.out] at h1
        have h2 : 2 ^ k ≤ 2 ^ 63 := Nat.pow_le_pow_right (by decide) (by omega)
        omega
      have hm1 : IntKind.u64.wrap (2 * (q : Int)) = ((2 * q : Nat) : Int) := by rw [IntWalk.u64_in _ (by omega)]; omega
      have hm3 : IntKind.i64.wrap ((p : Int) - 1) = (p : Int) - 1 := IntWalk.i64_in _ (by omega)
      obtain ⟨q2, hq2⟩ : ∃ q2, q2 = 2 * q := ⟨_, rfl⟩
      rw [← hq2] at hm1 hq
      have HQ2 : Hid (wordK xs (k + 1) = q2 + if p ∈ xs then 1 else 0) := by
        show _ = _
        rw [hq2, HQ.out, ← hp]
        rfl
      have hm2 : IntKind.u64.wrap ((q2 : Int) + 1) = ((q2 + 1 : Nat) : Int) := by rw [IntWalk.u64_in _ (by omega)]; omega
      rw [hp1]
      have HP := Lib.hid hp1
      have hp0 : (0 : Int) ≤ (p : Int) := by omega
      have hpb : p < 64 := by omega
      clear hp hp1 hq2 HQ
      obtain ⟨bv, hbv⟩ : ∃ bv, bv = decide (p ∈ xs) := ⟨_, rfl⟩
      have HH := Lib.hid (H.out p)
      rw [← hbv] at HH
      have HBV := Lib.hid hbv
      clear hbv
      go_wp2_with fail
      refine HH.out.mono ?_
      rintro e w' ⟨rfl, rfl⟩
      cases bv with
      | true =>
        have HQ3 : Hid (q2 + 1 = wordK xs (k + 1)) := by
          show _ = _
          rw [HQ2.out, if_pos (of_decide_eq_true HBV.out.symm)]
        go_wp2_with fail
        go_round
        case rel => exact ⟨k + 1, q2 + 1, by omega, by have := HP.out; simp only [Value.int.injEq, true_and]; omega, rfl, HQ3.out⟩
        case measure => simp [intOf]
      | false =>
        have HQ3 : Hid (q2 = wordK xs (k + 1)) := by
          show _ = _
          rw [HQ2.out, if_neg (of_decide_eq_false HBV.out.symm)]
          rfl
        go_wp2_with fail
        go_round
        case rel => exact ⟨k + 1, q2, by omega, by have := HP.out; simp only [Value.int.injEq, true_and]; omega, rfl, HQ3.out⟩
        case measure => simp [intOf]
    · have hk64 : k = 64 := by omega
      subst hk64
      have HE : Hid (q = z) := HQ.out.trans HZ.out.symm
      go_wp2
      go_ret
      exact ⟨by rw [← HE.out]; rfl, rfl⟩
end Go.Proofs.YtcdpnfchmpncjaaGreatDoor

namespace Go.Proofs.YtcdpnfchmpncjaaGreatDoor
open Go.RowKit Go.Tr Go.Shelf
variable {w w' : World} {L : Lay} {v : Value}
set_option maxRecDepth 100000 in
set_option maxHeartbeats 1000000 in
theorem r4right_any {R : RawL} (w : World) (h : RawAt w v R) (hx : R.xs.length ≤ 1000) (hy : R.ys.length ≤ 1000) : Calls Tryz.prog 43 #[v] w fun e w' => e = .returned (.bool R.right) ∧ Below w.heap.size w w' := by
  obtain ⟨ra, rc, sa, sc, rfl, h1, h2⟩ := h
  obtain ⟨f, xs, r, ys⟩ := R
  obtain ⟨n1, hn1⟩ : ∃ n1, n1 = xs.length := ⟨_, rfl⟩
  obtain ⟨n2, hn2⟩ : ∃ n2, n2 = ys.length := ⟨_, rfl⟩
  obtain ⟨b1, hb1⟩ : ∃ b1, b1 = riseB f (-1) xs := ⟨_, rfl⟩
  obtain ⟨b2, hb2⟩ : ∃ b2, b2 = riseB r (-1) ys := ⟨_, rfl⟩
  obtain ⟨b, hb⟩ : ∃ b, b = RawL.right ⟨f, xs, r, ys⟩ := ⟨_, rfl⟩
  rw [← hb]
  have HB : Hid (b = (!(decide (f < 0) || decide (64 < f) || decide (r < 0) || decide (64 < r)) && (b1 && b2 && (decide (0 < f) || decide (0 < r))))) := by
    show _ = _
    rw [hb, hb1, hb2]
    rfl
  show Calls Tryz.prog 43 #[.agg #[.int .i64 f, .slice ra xs.length rc, .int .i64 r, .slice sa ys.length sc]] w _
  rw [← hn1, ← hn2]
  have hx' : n1 ≤ 1000 := by rw [hn1]; exact hx
  have hy' : n2 ≤ 1000 := by rw [hn2]; exact hy
  have HA : Hid (∀ W : World, Below w.heap.size w W → Calls Tryz.prog 93 #[.slice ra n1 rc, .int .i64 f] W fun e w' => e = .returned (.bool b1) ∧ W = w') := fun W hb => by rw [hb1]; exact r4rise_any ra n1 rc xs f W (h1.below hb (Nat.le_refl _)) hn1.symm hx'
  have HC : Hid (∀ W : World, Below w.heap.size w W → Calls Tryz.prog 93 #[.slice sa n2 sc, .int .i64 r] W fun e w' => e = .returned (.bool b2) ∧ W = w') := fun W hb => by rw [hb2]; exact r4rise_any sa n2 sc ys r W (h2.below hb (Nat.le_refl _)) hn2.symm hy'
  have HBA : Hid (Below w.heap.size w (w.alloc (.cells #[.int .i64 f, .slice ra n1 rc, .int .i64 r, .slice sa n2 sc] 60))) := (Below.refl _ w).alloc (Nat.le_refl _) _
  clear h1 h2 hx hy hx' hy' hn1 hn2 hb1 hb2 hb
  go_enter Tryz.func43, Tryz.ntmps43
  by_cases k1 : f < 0
  · have HE : Hid (b = false) := by show _ = _; rw [HB.out, decide_eq_true k1]; rfl
    go_wp2_with fail
    go_ret
    exact ⟨by rw [HE.out]; rfl, HBA.out⟩
  by_cases k2 : 64 < f
  · have HE : Hid (b = false) := by show _ = _; rw [HB.out, decide_eq_true k2, Bool.or_true]; rfl
    go_wp2_with fail
    go_ret
    exact ⟨by rw [HE.out]; rfl, HBA.out⟩
  by_cases k3 : r < 0
  · have HE : Hid (b = false) := by show _ = _; rw [HB.out, decide_eq_true k3, Bool.or_true]; rfl
    go_wp2_with fail
    go_ret
    exact ⟨by rw [HE.out]; rfl, HBA.out⟩
  by_cases k4 : 64 < r
  · have HE : Hid (b = false) := by show _ = _; rw [HB.out, decide_eq_true k4, Bool.or_true]; rfl
    go_wp2_with fail
    go_ret
    exact ⟨by rw [HE.out]; rfl, HBA.out⟩
  have HB2 : Hid (b = (b1 && b2 && (decide (0 < f) || decide (0 < r)))) := by
    show _ = _
    rw [HB.out, decide_eq_false k1, decide_eq_false k2, decide_eq_false k3, decide_eq_false k4]
    simp
  clear HB
  go_wp2_with fail
  refine (HA.out _ HBA.out).mono ?_
  rintro e w' ⟨rfl, rfl⟩
  go_wp2_with fail
  refine (HC.out _ HBA.out).mono ?_
  rintro e w' ⟨rfl, rfl⟩
  cases b1 with
  | false =>
    have HE : Hid (b = false) := by show _ = _; rw [HB2.out]; rfl
    go_wp2_with fail
    go_ret
    exact ⟨by rw [HE.out]; rfl, HBA.out⟩
  | true =>
    cases b2 with
    | false =>
      have HE : Hid (b = false) := by show _ = _; rw [HB2.out]; rfl
      go_wp2_with fail
      go_ret
      exact ⟨by rw [HE.out]; rfl, HBA.out⟩
    | true =>
      by_cases k5 : 0 < f
      · have HE : Hid (b = true) := by show _ = _; rw [HB2.out, decide_eq_true k5]; rfl
        go_wp2_with fail
        go_ret
        exact ⟨by rw [HE.out]; rfl, HBA.out⟩
      · by_cases k6 : 0 < r
        · have HE : Hid (b = true) := by show _ = _; rw [HB2.out, decide_eq_true k6, Bool.or_true]; rfl
          go_wp2_with fail
          go_ret
          exact ⟨by rw [HE.out]; rfl, HBA.out⟩
        · have HE : Hid (b = false) := by show _ = _; rw [HB2.out, decide_eq_false k5, decide_eq_false k6]; rfl
          have k7 : decide (0 < f) = false := decide_eq_false k5
          have k8 : decide (0 < r) = false := decide_eq_false k6
          have HE2 : Hid ((decide (0 < f) || decide (0 < r)) = false) := by show _ = _; rw [k7, k8]; rfl
          clear k5 k6
          go_wp2_with fail
          go_ret
          refine ⟨?_, HBA.out⟩
          rw [HE.out]
          first | rfl | (show Ending.returned (.bool _) = _; first | rw [HE2.out] | rw [k8])
theorem riseB_ns {l : List Nat} {size : Nat} (h : risesN l size) : riseB (size : Int) (-1) (l.map fun x : Nat => (x : Int)) = true := by
  refine riseB_bad (fun x hx => ?_) ?_
  · obtain ⟨p, hp, rfl⟩ := List.mem_map.1 hx
    have := h.1 p hp
    omega
  · rw [List.pairwise_map]
    exact h.2.imp (fun h => by omega)
theorem r4right_yes (w : World) (h : LayAt w v L) (hr : RightLay L) : Calls Tryz.prog 43 #[v] w fun e w' => e = .returned (.bool true) ∧ Below w.heap.size w w' := by
  have hrl : L.refs.length ≤ 1000 := risesN_len hr.refs (by have := hr.f; omega)
  have hsl : L.recs.length ≤ 1000 := risesN_len hr.recs (by have := hr.r; omega)
  obtain ⟨ra, rc, sa, sc, e, h1, h2⟩ := h
  have hR : RawAt w v ⟨(L.fixed : Nat), L.refs.map fun x : Nat => (x : Int), (L.record : Nat), L.recs.map fun x : Nat => (x : Int)⟩ := by
    refine ⟨ra, rc, sa, sc, ?_, ?_, ?_⟩
    · rw [e]; simp only [List.length_map]
    · rw [ns_ints] at h1; exact h1
    · rw [ns_ints] at h2; exact h2
  have hb : RawL.right ⟨(L.fixed : Nat), L.refs.map fun x : Nat => (x : Int), (L.record : Nat), L.recs.map fun x : Nat => (x : Int)⟩ = true := by
    unfold RawL.right RawL.bad
    simp only [riseB_ns hr.refs, riseB_ns hr.recs]
    have := hr.f
    have := hr.r
    have := hr.pos
    simp
    omega
  have := r4right_any w hR (by simpa using hrl) (by simpa using hsl)
  rw [hb] at this
  exact this
set_option maxRecDepth 100000 in
theorem r4size_no {R : RawL} (count : Int) (w : World) (h : RawAt w v R) (hx : R.xs.length ≤ 1000) (hy : R.ys.length ≤ 1000) (hr : R.right = false) : Calls Tryz.prog 17 #[v, .int .i64 count] w fun e w' => e = .returned (.tuple #[.int .i64 0, .int .i64 2]) ∧ Below w.heap.size w w' := by
  have HRT : Hid (∀ W : World, Below w.heap.size w W → Calls Tryz.prog 43 #[v] W fun e w' => e = .returned (.bool false) ∧ Below W.heap.size W w') := fun W hb => by rw [← hr]; exact r4right_any W (h.kept hb) hx hy
  obtain ⟨ra, rc, sa, sc, rfl, h1, h2⟩ := h
  obtain ⟨f, xs, r, ys⟩ := R
  have HBA : Hid (Below w.heap.size w (w.alloc (.cells #[.int .i64 f, .slice ra xs.length rc, .int .i64 r, .slice sa ys.length sc] 60))) := (Below.refl _ w).alloc (Nat.le_refl _) _
  show Calls Tryz.prog 17 #[.agg #[.int .i64 f, .slice ra xs.length rc, .int .i64 r, .slice sa ys.length sc], .int .i64 count] w _
  have HRT2 : Hid (Calls Tryz.prog 43 #[.agg #[.int .i64 f, .slice ra xs.length rc, .int .i64 r, .slice sa ys.length sc]] (w.alloc (.cells #[.int .i64 f, .slice ra xs.length rc, .int .i64 r, .slice sa ys.length sc] 60)) fun e w' => e = .returned (.bool false) ∧ Below w.heap.size w w') := (HRT.out _ HBA.out).mono fun e w' ⟨e1, e2⟩ => ⟨e1, HBA.out.trans (e2.mono HBA.out.size)⟩
  obtain ⟨n1, hn1⟩ : ∃ n1, n1 = xs.length := ⟨_, rfl⟩
  obtain ⟨n2, hn2⟩ : ∃ n2, n2 = ys.length := ⟨_, rfl⟩
  rw [← hn1, ← hn2] at HRT2 ⊢
  clear HRT h1 h2 hr hx hy HBA hn1 hn2
  go_enter Tryz.func17, Tryz.ntmps17
  go_wp2_with fail
  refine HRT2.out.mono ?_
  rintro e w1 ⟨rfl, hb⟩
  have HB := Lib.hid hb
  clear hb HRT2
  go_wp2_with fail
  go_ret2
  exact ⟨rfl, HB.out⟩
def r4V (L : Lay) (c : Nat) : Nat × Nat := if c ≠ 0 ∧ L.record = 0 then (0, 3) else (L.size c, 0)
set_option maxRecDepth 100000 in
set_option maxHeartbeats 1000000 in
theorem r4size_yes (c : Nat) (w : World) (h : LayAt w v L) (hr : RightLay L) (hc : c ≤ 11) : Calls Tryz.prog 17 #[v, .int .i64 c] w fun e w' => e = .returned (.tuple #[.int .i64 ((r4V L c).1 : Nat), .int .i64 ((r4V L c).2 : Nat)]) ∧ Below w.heap.size w w' := by
  have HRT : Hid (∀ W : World, Below w.heap.size w W → Calls Tryz.prog 43 #[v] W fun e w' => e = .returned (.bool true) ∧ Below W.heap.size W w') := fun W hb => r4right_yes W (h.kept hb) hr
  obtain ⟨ra, rc, sa, sc, rfl, h1, h2⟩ := h
  obtain ⟨fx, hfx⟩ : ∃ fx, fx = L.fixed := ⟨_, rfl⟩
  obtain ⟨rx, hrx⟩ : ∃ rx, rx = L.record := ⟨_, rfl⟩
  obtain ⟨n1, hn1⟩ : ∃ n1, n1 = L.refs.length := ⟨_, rfl⟩
  obtain ⟨n2, hn2⟩ : ∃ n2, n2 = L.recs.length := ⟨_, rfl⟩
  obtain ⟨z1, z2, hz⟩ : ∃ z1 z2, (z1, z2) = r4V L c := ⟨_, _, rfl⟩
  have hf := hr.f
  have hrr := hr.r
  rw [← hfx] at hf
  rw [← hrx] at hrr
  rw [← hz]
  have HZ : Hid ((z1, z2) = if c ≠ 0 ∧ rx = 0 then (0, 3) else (fx + c * rx, 0)) := by
    show _ = _
    rw [hz, hfx, hrx]
    rfl
  rw [← hfx, ← hrx, ← hn1, ← hn2] at HRT ⊢
  have HBA : Hid (Below w.heap.size w (w.alloc (.cells #[.int .i64 fx, .slice ra n1 rc, .int .i64 rx, .slice sa n2 sc] 60))) := (Below.refl _ w).alloc (Nat.le_refl _) _
  obtain ⟨xb, hxb⟩ : ∃ xb, xb = w.heap.size := ⟨_, rfl⟩
  have HXB : Hid ((w.alloc (.cells #[.int .i64 fx, .slice ra n1 rc, .int .i64 rx, .slice sa n2 sc] 60)).heap[xb]? = some (.cells #[.int .i64 fx, .slice ra n1 rc, .int .i64 rx, .slice sa n2 sc] 60 (0, 0))) := by rw [hxb]; exact heap_alloc_new w _
  have hcr : c * rx ≤ 11 * 64 := Nat.mul_le_mul hc hrr
  obtain ⟨m, hm⟩ : ∃ m, m = c * rx := ⟨_, rfl⟩
  have hm2 : (rx : Int) * (c : Int) = (m : Int) := by rw [hm, Int.mul_comm]; push_cast; rfl
  rw [← hm] at hcr HZ
  have HM := Lib.hid hm
  clear h1 h2 hr hfx hrx hn1 hn2 hz hm
  go_enter Tryz.func17, Tryz.ntmps17
  go_wp2_with fail
  rw [← hxb]
  have HRT2 := Lib.hid (HRT.out _ HBA.out)
  clear hxb HRT
  generalize w.alloc (.cells #[.int .i64 fx, .slice ra n1 rc, .int .i64 rx, .slice sa n2 sc] 60) = wa at *
  refine HRT2.out.mono ?_
  rintro e w1 ⟨rfl, hb1⟩
  have HB1 : Hid (Below w.heap.size w w1) := HBA.out.trans (hb1.mono HBA.out.size)
  have HX1 := Lib.hid ((hb1.block xb (Array.getElem?_eq_some_iff.1 HXB.out).1).trans HXB.out)
  have x0 := (cells_of_block HX1.out 0).1
  have x2 := (cells_of_block HX1.out 2).1
  simp at x0 x2
  clear hb1 HRT2
  have hc0 : ¬ (c : Int) < 0 := by omega
  have hc1 : ¬ (1024 : Int) < (c : Int) := by omega
  have hs1 : IntKind.i64.wrap ((fx : Int) + (m : Int)) = ((fx + m : Nat) : Int) := by rw [IntWalk.i64_in _ (by omega)]; omega
  obtain ⟨t, ht⟩ : ∃ t, t = fx + m := ⟨_, rfl⟩
  rw [← ht] at hs1 HZ
  have ht2 : t ≤ 1000 := by omega
  have hs2 : ¬ (8192 : Int) < (t : Int) + 1 := by omega
  have hs3 : IntKind.i64.wrap ((t : Int) + 1) = (t : Int) + 1 := IntWalk.i64_in _ (by omega)
  have hw1 : IntKind.i64.wrap (m : Int) = (m : Int) := IntWalk.i64_in _ (by omega)
  have HT := Lib.hid ht
  clear ht
  by_cases hr0 : rx = 0
  · subst hr0
    by_cases hcz : c = 0
    · subst hcz
      have HE : Hid (z1 = fx ∧ z2 = 0) := by
        have := HZ.out
        rw [if_neg (fun e => e.1 rfl)] at this
        obtain ⟨e1, e2⟩ := Prod.mk.inj this
        have h1 := HT.out
        have h2 := HM.out
        exact ⟨by omega, e2⟩
      have hf2 : ¬ (8192 : Int) < (fx : Int) + 1 := by omega
      clear HZ
      go_wp2_with fail
      go_ret2
      exact ⟨by rw [HE.out.1, HE.out.2]; rfl, HB1.out⟩
    · have hcp : (0 : Int) < (c : Int) := by omega
      have HE : Hid (z1 = 0 ∧ z2 = 3) := by
        have := HZ.out
        rw [if_pos ⟨hcz, rfl⟩] at this
        exact Prod.mk.inj this
      clear HZ
      go_wp2_with fail
      go_ret2
      exact ⟨by rw [HE.out.1, HE.out.2]; rfl, HB1.out⟩
  · have hr1 : ((rx : Int) == 0) = false := by simpa using hr0
    have hr2 : ¬ (rx : Int) = 0 := by omega
    have HE : Hid (z1 = t ∧ z2 = 0) := by
      have := HZ.out
      rw [if_neg (fun e => hr0 e.2)] at this
      exact Prod.mk.inj this
    clear HZ
    go_wp2_with fail
    go_ret2
    exact ⟨by rw [HE.out.1, HE.out.2]; rfl, HB1.out⟩
end Go.Proofs.YtcdpnfchmpncjaaGreatDoor

namespace Go.Proofs.YtcdpnfchmpncjaaGreatDoor
open Go.RowKit Go.Tr Go.Shelf
variable {w w' : World} {L : Lay} {v : Value}
set_option maxRecDepth 100000 in
set_option maxHeartbeats 1000000 in
theorem r4isref_any (p : Nat) (w : World) (h : LayAt w v L) (hr : RightLay L) (hp : L.fixed ≤ p → L.record ≠ 0) (hpb : p ≤ 1000) : Calls Tryz.prog 19 #[v, .int .i64 p] w fun e w' => e = .returned (.bool (isRefN L p)) ∧ Below w.heap.size w w' := by
  obtain ⟨ra, rc, sa, sc, rfl, h1, h2⟩ := h
  have hrl : L.refs.length ≤ 1000 := risesN_len hr.refs (by have := hr.f; omega)
  have hsl : L.recs.length ≤ 1000 := risesN_len hr.recs (by have := hr.r; omega)
  obtain ⟨fx, hfx⟩ : ∃ fx, fx = L.fixed := ⟨_, rfl⟩
  obtain ⟨rx, hrx⟩ : ∃ rx, rx = L.record := ⟨_, rfl⟩
  obtain ⟨n1, hn1⟩ : ∃ n1, n1 = L.refs.length := ⟨_, rfl⟩
  obtain ⟨n2, hn2⟩ : ∃ n2, n2 = L.recs.length := ⟨_, rfl⟩
  have hf := hr.f
  have hrr := hr.r
  rw [← hfx, ← hrx, ← hn1, ← hn2]
  rw [← hfx] at hf hp
  rw [← hrx] at hrr hp
  rw [← hn1] at hrl
  rw [← hn2] at hsl
  obtain ⟨bv, hbv⟩ : ∃ bv, bv = isRefN L p := ⟨_, rfl⟩
  have HBV := Lib.hid hbv
  have HSA : Hid (∀ (x : Nat) (W : World), Below w.heap.size w W → Calls Tryz.prog 45 #[.slice ra n1 rc, .int .i64 x] W fun e w' => e = .returned (.bool (decide (x ∈ L.refs))) ∧ W = w') := fun x W hb => r4has_any ra n1 rc L.refs x W (h1.below hb (Nat.le_refl _)) hn1.symm hrl
  have HSB : Hid (∀ (x : Nat) (W : World), Below w.heap.size w W → Calls Tryz.prog 45 #[.slice sa n2 sc, .int .i64 x] W fun e w' => e = .returned (.bool (decide (x ∈ L.recs))) ∧ W = w') := fun x W hb => r4has_any sa n2 sc L.recs x W (h2.below hb (Nat.le_refl _)) hn2.symm hsl
  have HFX : Hid (fx = L.fixed ∧ rx = L.record) := ⟨hfx, hrx⟩
  have HBA : Hid (Below w.heap.size w (w.alloc (.cells #[.int .i64 fx, .slice ra n1 rc, .int .i64 rx, .slice sa n2 sc] 60))) := (Below.refl _ w).alloc (Nat.le_refl _) _
  obtain ⟨xb, hxb⟩ : ∃ xb, xb = w.heap.size := ⟨_, rfl⟩
  have HXB : Hid ((w.alloc (.cells #[.int .i64 fx, .slice ra n1 rc, .int .i64 rx, .slice sa n2 sc] 60)).heap[xb]? = some (.cells #[.int .i64 fx, .slice ra n1 rc, .int .i64 rx, .slice sa n2 sc] 60 (0, 0))) := by rw [hxb]; exact heap_alloc_new w _
  rw [← hbv]
  clear h1 h2 hr hfx hrx hn1 hn2 hbv
  go_enter Tryz.func19, Tryz.ntmps19
  by_cases hpf : fx ≤ p
  · have hpf' : (fx : Int) ≤ (p : Int) := by omega
    have hr0 : ¬ (rx : Int) = 0 := by have := hp hpf; omega
    have hsub : IntKind.i64.wrap ((p : Int) - (fx : Int)) = ((p - fx : Nat) : Int) := by rw [IntWalk.i64_in _ (by omega)]; omega
    have hmod : ((p - fx : Nat) : Int).tmod (rx : Int) = (((p - fx) % rx : Nat) : Int) := by
      rw [Int.tmod_eq_emod_of_nonneg (by omega)]; push_cast; rfl
    obtain ⟨y, hy⟩ : ∃ y, y = (p - fx) % rx := ⟨_, rfl⟩
    obtain ⟨d, hd⟩ : ∃ d, d = p - fx := ⟨_, rfl⟩
    have hyl : y < rx := by rw [hy]; exact Nat.mod_lt _ (by have := hp hpf; omega)
    have HBV2 : Hid (bv = decide (y ∈ L.recs)) := by
      show _ = _
      rw [HBV.out, isRefN, ← HFX.out.1, ← HFX.out.2, if_neg (by omega), ← hy]
    rw [← hy, ← hd] at hmod
    rw [← hd] at hsub
    have hdb : d ≤ 8192 := by omega
    have hmod2 : (d : Int) % (rx : Int) = (y : Int) := by rw [← Int.tmod_eq_emod_of_nonneg (by omega)]; exact hmod
    clear hy hd
    go_wp2_with fail
    rw [← hxb]
    clear hxb
    generalize w.alloc (.cells #[.int .i64 fx, .slice ra n1 rc, .int .i64 rx, .slice sa n2 sc] 60) = wa at *
    have x0 := (cells_of_block HXB.out 0).1
    have x2 := (cells_of_block HXB.out 2).1
    have x3 := (cells_of_block HXB.out 3).1
    simp at x0 x2 x3
    refine wp_region_held_drew (S := fun W => W.cell? ⟨xb, 0, none⟩ = some (.int .i64 fx) ∧ W.cell? ⟨xb, 2, none⟩ = some (.int .i64 rx) ∧ W.cell? ⟨xb, 3, none⟩ = some (.slice sa n2 sc)) (by kernel_rfl) ⟨x0, x2, x3⟩ (fun hH => ?_)
    have HF : Hid (wa.drew.cell? ⟨xb, 0, none⟩ = some (.int .i64 fx) ∧ wa.drew.cell? ⟨xb, 2, none⟩ = some (.int .i64 rx) ∧ wa.drew.cell? ⟨xb, 3, none⟩ = some (.slice sa n2 sc)) := ⟨x0, x2, x3⟩
    have HSC := Lib.hid (HSB.out y wa.drew HBA.out.drew)
    have HBD := Lib.hid HBA.out.drew
    rw [← HBV2.out] at HSC
    clear x0 x2 x3 HSA HSB HBV2
    refine tk 0 (v := ?_) rfl ?_ ?_; rotate_left; · intro W hW; obtain ⟨d0, d1, d2⟩ := hW; go_simp; try with_reducible rfl
    try simp only [Go.Tr.nz]
    refine tk 1 (v := ?_) rfl ?_ ?_; rotate_left; · intro W hW; obtain ⟨d0, d1, d2⟩ := hW; go_simp; try with_reducible rfl
    try simp only [Go.Tr.nz]
    refine tk 2 (v := ?_) rfl ?_ ?_; rotate_left; · intro W hW; obtain ⟨d0, d1, d2⟩ := hW; go_simp; try with_reducible rfl
    try simp only [Go.Tr.nz]
    refine tk 3 (v := ?_) rfl ?_ ?_; rotate_left; · intro W hW; obtain ⟨d0, d1, d2⟩ := hW; go_simp; try with_reducible rfl
    try simp only [Go.Tr.nz]
    refine tk 4 (v := ?_) rfl ?_ ?_; rotate_left; · intro W hW; obtain ⟨d0, d1, d2⟩ := hW; go_simp; try with_reducible rfl
    try simp only [Go.Tr.nz]
    refine tk 5 (v := ?_) rfl ?_ ?_; rotate_left; · intro W hW; obtain ⟨d0, d1, d2⟩ := hW; go_simp; try with_reducible rfl
    try simp only [Go.Tr.nz]
    refine tk 6 (v := ?_) rfl ?_ ?_; rotate_left; · intro W hW; obtain ⟨d0, d1, d2⟩ := hW; go_simp; try with_reducible rfl
    try simp only [Go.Tr.nz]
    refine tk 7 (v := ?_) rfl ?_ ?_; rotate_left; · intro W hW; obtain ⟨d0, d1, d2⟩ := hW; go_simp; try with_reducible rfl
    try simp only [Go.Tr.nz]
    refine tk 8 (v := ?_) rfl ?_ ?_; rotate_left; · intro W hW; obtain ⟨d0, d1, d2⟩ := hW; go_simp; try with_reducible rfl
    try simp only [Go.Tr.nz]
    refine rd 9 rfl (fun K hK => ?_)
    go_simp
    refine HSC.out.mono ?_
    rintro e w9 ⟨rfl, rfl⟩
    refine hK.out _ _ HF.out (fun hH => ?_)
    clear hK K HSC
    refine tk 10 (v := ?_) rfl ?_ ?_; rotate_left; · intro W hW; go_simp; try with_reducible rfl
    try simp only [Go.Tr.nz]
    refine wpAnyH_done (by kernel_rfl) ?_ _
    go_wp2_with fail
    go_ret
    exact ⟨rfl, HBD.out⟩
  · have hpf' : (p : Int) < (fx : Int) := by omega
    have HBV2 : Hid (bv = decide (p ∈ L.refs)) := by
      show _ = _
      rw [HBV.out, isRefN, ← HFX.out.1, if_pos (by omega)]
    go_wp2_with fail
    have HSC := Lib.hid (HSA.out p _ HBA.out)
    rw [← HBV2.out] at HSC
    refine HSC.out.mono ?_
    rintro e w9 ⟨rfl, rfl⟩
    go_wp2_with fail
    go_ret
    exact ⟨rfl, HBA.out⟩
set_option maxRecDepth 100000 in
set_option maxHeartbeats 1000000 in
theorem r4encode_any (w : World) (h : LayAt w v L) (hr : RightLay L) : Calls Tryz.prog 18 #[v] w fun e w' => ∃ a c, e = .returned (.slice a 3 c) ∧ SeqAt w' a (us [L.fixed + L.record * 256, wordN L.refs, wordN L.recs]) ∧ Below w.heap.size w w' := by
  obtain ⟨ra, rc, sa, sc, rfl, h1, h2⟩ := h
  have hrl : L.refs.length ≤ 1000 := risesN_len hr.refs (by have := hr.f; omega)
  have hsl : L.recs.length ≤ 1000 := risesN_len hr.recs (by have := hr.r; omega)
  obtain ⟨fx, hfx⟩ : ∃ fx, fx = L.fixed := ⟨_, rfl⟩
  obtain ⟨rx, hrx⟩ : ∃ rx, rx = L.record := ⟨_, rfl⟩
  obtain ⟨n1, hn1⟩ : ∃ n1, n1 = L.refs.length := ⟨_, rfl⟩
  obtain ⟨n2, hn2⟩ : ∃ n2, n2 = L.recs.length := ⟨_, rfl⟩
  obtain ⟨u1, hu1⟩ : ∃ u1, u1 = wordN L.refs := ⟨_, rfl⟩
  obtain ⟨u2, hu2⟩ : ∃ u2, u2 = wordN L.recs := ⟨_, rfl⟩
  have hf := hr.f
  have hrr := hr.r
  rw [← hfx, ← hrx, ← hn1, ← hn2, ← hu1, ← hu2]
  rw [← hfx] at hf
  rw [← hrx] at hrr
  rw [← hn1] at hrl
  rw [← hn2] at hsl
  have HSA : Hid (∀ (W : World), Below w.heap.size w W → Calls Tryz.prog 44 #[.slice ra n1 rc] W fun e w' => e = .returned (.int .u64 u1) ∧ W = w') := fun W hb => by rw [hu1]; exact r4word_any ra n1 rc L.refs W (h1.below hb (Nat.le_refl _)) hn1.symm hrl
  have HSB : Hid (∀ (W : World), Below w.heap.size w W → Calls Tryz.prog 44 #[.slice sa n2 sc] W fun e w' => e = .returned (.int .u64 u2) ∧ W = w') := fun W hb => by rw [hu2]; exact r4word_any sa n2 sc L.recs W (h2.below hb (Nat.le_refl _)) hn2.symm hsl
  have HBA : Hid (Below w.heap.size w (w.alloc (.cells #[.int .i64 fx, .slice ra n1 rc, .int .i64 rx, .slice sa n2 sc] 60))) := (Below.refl _ w).alloc (Nat.le_refl _) _
  obtain ⟨xb, hxb⟩ : ∃ xb, xb = w.heap.size := ⟨_, rfl⟩
  have HXB : Hid ((w.alloc (.cells #[.int .i64 fx, .slice ra n1 rc, .int .i64 rx, .slice sa n2 sc] 60)).heap[xb]? = some (.cells #[.int .i64 fx, .slice ra n1 rc, .int .i64 rx, .slice sa n2 sc] 60 (0, 0))) := by rw [hxb]; exact heap_alloc_new w _
  obtain ⟨m, hm⟩ : ∃ m, m = 256 * rx := ⟨_, rfl⟩
  have hmw : IntKind.i64.wrap (256 * (rx : Int)) = (m : Int) := by rw [IntWalk.i64_in _ (by omega)]; omega
  obtain ⟨t, ht⟩ : ∃ t, t = fx + m := ⟨_, rfl⟩
  have htw : IntKind.i64.wrap ((fx : Int) + (m : Int)) = (t : Int) := by rw [IntWalk.i64_in _ (by omega)]; omega
  have htu : IntKind.u64.wrap (t : Int) = (t : Int) := IntWalk.u64_in _ (by omega)
  have hte : fx + rx * 256 = t := by omega
  rw [hte]
  clear h1 h2 hr hfx hrx hn1 hn2 hu1 hu2 hm ht hte
  go_enter Tryz.func18, Tryz.ntmps18
  go_wp2_with fail
  rw [← hxb]
  clear hxb
  generalize w.alloc (.cells #[.int .i64 fx, .slice ra n1 rc, .int .i64 rx, .slice sa n2 sc] 60) = wa at *
  have x0 := (cells_of_block HXB.out 0).1
  have x1 := (cells_of_block HXB.out 1).1
  have x2 := (cells_of_block HXB.out 2).1
  have x3 := (cells_of_block HXB.out 3).1
  simp at x0 x1 x2 x3
  refine wp_region_held_drew (S := fun W => W.cell? ⟨xb, 0, none⟩ = some (.int .i64 fx) ∧ W.cell? ⟨xb, 1, none⟩ = some (.slice ra n1 rc) ∧ W.cell? ⟨xb, 2, none⟩ = some (.int .i64 rx) ∧ W.cell? ⟨xb, 3, none⟩ = some (.slice sa n2 sc)) (by kernel_rfl) ⟨x0, x1, x2, x3⟩ (fun hH => ?_)
  have HF : Hid (wa.drew.cell? ⟨xb, 0, none⟩ = some (.int .i64 fx) ∧ wa.drew.cell? ⟨xb, 1, none⟩ = some (.slice ra n1 rc) ∧ wa.drew.cell? ⟨xb, 2, none⟩ = some (.int .i64 rx) ∧ wa.drew.cell? ⟨xb, 3, none⟩ = some (.slice sa n2 sc)) := ⟨x0, x1, x2, x3⟩
  have HA2 := Lib.hid (HSA.out wa.drew HBA.out.drew)
  have HB2 := Lib.hid (HSB.out wa.drew HBA.out.drew)
  have HBD := Lib.hid HBA.out.drew
  clear x0 x1 x2 x3 HSA HSB
  refine tk 0 (v := ?_) rfl ?_ ?_; rotate_left; · intro W hW; obtain ⟨d0, d1, d2, d3⟩ := hW; go_simp; try with_reducible rfl
  try simp only [Go.Tr.nz]
  refine tk 1 (v := ?_) rfl ?_ ?_; rotate_left; · intro W hW; obtain ⟨d0, d1, d2, d3⟩ := hW; go_simp; try with_reducible rfl
  try simp only [Go.Tr.nz]
  refine tk 2 (v := ?_) rfl ?_ ?_; rotate_left; · intro W hW; obtain ⟨d0, d1, d2, d3⟩ := hW; go_simp; try with_reducible rfl
  try simp only [Go.Tr.nz]
  refine tk 3 (v := ?_) rfl ?_ ?_; rotate_left; · intro W hW; obtain ⟨d0, d1, d2, d3⟩ := hW; go_simp; try with_reducible rfl
  try simp only [Go.Tr.nz]
  refine tk 4 (v := ?_) rfl ?_ ?_; rotate_left; · intro W hW; obtain ⟨d0, d1, d2, d3⟩ := hW; go_simp; try with_reducible rfl
  try simp only [Go.Tr.nz]
  refine tk 5 (v := ?_) rfl ?_ ?_; rotate_left; · intro W hW; obtain ⟨d0, d1, d2, d3⟩ := hW; go_simp; try with_reducible rfl
  try simp only [Go.Tr.nz]
  refine tk 6 (v := ?_) rfl ?_ ?_; rotate_left; · intro W hW; obtain ⟨d0, d1, d2, d3⟩ := hW; go_simp; try with_reducible rfl
  try simp only [Go.Tr.nz]
  refine tk 7 (v := ?_) rfl ?_ ?_; rotate_left; · intro W hW; obtain ⟨d0, d1, d2, d3⟩ := hW; go_simp; try with_reducible rfl
  try simp only [Go.Tr.nz]
  refine tk 8 (v := ?_) rfl ?_ ?_; rotate_left; · intro W hW; obtain ⟨d0, d1, d2, d3⟩ := hW; go_simp; try with_reducible rfl
  try simp only [Go.Tr.nz]
  refine tk 10 (v := ?_) rfl ?_ ?_; rotate_left; · intro W hW; obtain ⟨d0, d1, d2, d3⟩ := hW; go_simp; try with_reducible rfl
  try simp only [Go.Tr.nz]
  refine tk 11 (v := ?_) rfl ?_ ?_; rotate_left; · intro W hW; obtain ⟨d0, d1, d2, d3⟩ := hW; go_simp; try with_reducible rfl
  try simp only [Go.Tr.nz]
  refine rd 9 rfl (fun K hK => ?_)
  go_simp
  refine HA2.out.mono ?_
  rintro e w9 ⟨rfl, rfl⟩
  refine hK.out _ _ HF.out (fun hH => ?_)
  clear hK K HA2
  refine rd 12 rfl (fun K hK => ?_)
  go_simp
  refine HB2.out.mono ?_
  rintro e w9 ⟨rfl, rfl⟩
  refine hK.out _ _ HF.out (fun hH => ?_)
  clear hK K HB2
  refine rd 13 rfl (fun K hK => ?_)
  go_simp
  have hba : Below wa.heap.size wa (wa.alloc (.cells #[.int .u64 t, .int .u64 u1, .int .u64 u2] 34)).drew := ((Below.refl _ wa).alloc (Nat.le_refl _) _).drew
  have hx2 := (hba.block xb (block_lt HXB.out)).trans HXB.out
  refine hK.out _ _ ⟨(cells_of_block hx2 0).1, (cells_of_block hx2 1).1, (cells_of_block hx2 2).1, (cells_of_block hx2 3).1⟩ (fun hH => ?_)
  clear hK K hba hx2
  refine tk 14 (v := ?_) rfl ?_ ?_; rotate_left; · intro W hW; go_simp; try with_reducible rfl
  try simp only [Go.Tr.nz]
  refine wpAnyH_done (by kernel_rfl) ?_ _
  go_wp2_with fail
  go_ret
  exact ⟨_, _, rfl, SeqAt.of_block (cs := [.int .u64 t, .int .u64 u1, .int .u64 u2]) (heap_alloc_new wa _), (HBA.out.alloc HBA.out.size _).drew⟩
theorem infoInt4 : (Tryz.prog.info? 3).map (fun i => (i.zero, i.size, i.bytes)) = some (some (.int .i64 0), 1, 8) := by kernel_rfl
theorem slots_none (hr : RightLay L) {c : Nat} (hcr : c = 0 ∨ L.record ≠ 0) : (List.range (L.size c)).filter (isRefN L) = [] ↔ slotsL L c = [] := by
  rw [List.filter_eq_nil_iff]
  constructor
  · intro h
    cases hs : slotsL L c with
    | nil => rfl
    | cons p r =>
      obtain ⟨h1, h2⟩ := mem_slots hr (count := c) (p := p) (by rw [hs]; exact List.mem_cons_self)
      exact absurd h2 (h p (List.mem_range.2 h1))
  · intro h p hp href
    have hp2 := List.mem_range.1 hp
    unfold slotsL at h
    obtain ⟨h1, h2⟩ := List.append_eq_nil_iff.1 h
    unfold isRefN at href
    by_cases hf : p < L.fixed
    · rw [if_pos hf, h1] at href
      simp at href
    · rw [if_neg hf] at href
      have hm := of_decide_eq_true href
      have hc : 0 < c := by
        rcases Nat.eq_zero_or_pos c with e | e
        · unfold Lay.size at hp2; rw [e] at hp2; omega
        · exact e
      rw [List.flatMap_eq_nil_iff] at h2
      have h3 := h2 0 (List.mem_range.2 hc)
      rw [List.map_eq_nil_iff] at h3
      rw [h3] at hm
      cases hm
set_option maxRecDepth 100000 in
set_option maxHeartbeats 1000000 in
theorem r4slots_any (c : Nat) (w : World) (h : LayAt w v L) (hr : RightLay L) (hc : c ≤ 11) (hcr : c = 0 ∨ L.record ≠ 0) (hsz : L.size c ≤ 1000) : Calls Tryz.prog 22 #[v, .int .i64 c] w fun e w' => ∃ a n c2, e = .returned (.slice a n c2) ∧ (n = 0 ↔ slotsL L c = []) ∧ Below w.heap.size w w' := by
  obtain ⟨i0, hi, hz0, hz1, hz2⟩ := info_parts infoInt4
  have hV : r4V L c = (L.size c, 0) := by unfold r4V; rw [if_neg (fun e => hcr.elim (fun h => e.1 h) (fun h => h e.2))]
  have HSZ : Hid (∀ W : World, Below w.heap.size w W → Calls Tryz.prog 17 #[v, .int .i64 c] W fun e w' => e = .returned (.tuple #[.int .i64 (L.size c : Nat), .int .i64 0]) ∧ Below W.heap.size W w') := fun W hb => by
    have := r4size_yes c W (h.kept hb) hr hc
    rw [hV] at this
    exact this
  have HIR : Hid (∀ (p : Nat) (W : World), p < L.size c → Below w.heap.size w W → Calls Tryz.prog 19 #[v, .int .i64 p] W fun e w' => e = .returned (.bool (isRefN L p)) ∧ Below W.heap.size W w') := fun p W hp hb => r4isref_any p W (h.kept hb) hr (fun hfp => by
    rcases hcr with e | e
    · unfold Lay.size at hp; rw [e] at hp; omega
    · exact e) (by omega)
  have HSN := Lib.hid (slots_none hr hcr)
  obtain ⟨ra, rc, sa, sc, rfl, h1, h2⟩ := h
  obtain ⟨fx, hfx⟩ : ∃ fx, fx = L.fixed := ⟨_, rfl⟩
  obtain ⟨rx, hrx⟩ : ∃ rx, rx = L.record := ⟨_, rfl⟩
  obtain ⟨n1, hn1⟩ : ∃ n1, n1 = L.refs.length := ⟨_, rfl⟩
  obtain ⟨n2, hn2⟩ : ∃ n2, n2 = L.recs.length := ⟨_, rfl⟩
  obtain ⟨z, hz⟩ : ∃ z, z = L.size c := ⟨_, rfl⟩
  rw [← hfx, ← hrx, ← hn1, ← hn2] at HSZ HIR ⊢
  rw [← hz] at HSZ HIR HSN hsz
  have HBA : Hid (Below w.heap.size w (w.alloc (.cells #[.int .i64 fx, .slice ra n1 rc, .int .i64 rx, .slice sa n2 sc] 60))) := (Below.refl _ w).alloc (Nat.le_refl _) _
  obtain ⟨xb, hxb⟩ : ∃ xb, xb = w.heap.size := ⟨_, rfl⟩
  have HXN : Hid (w.heap.size ≤ xb) := by rw [hxb]; exact Nat.le_refl _
  have HXB : Hid ((w.alloc (.cells #[.int .i64 fx, .slice ra n1 rc, .int .i64 rx, .slice sa n2 sc] 60)).heap[xb]? = some (.cells #[.int .i64 fx, .slice ra n1 rc, .int .i64 rx, .slice sa n2 sc] 60 (0, 0))) := by rw [hxb]; exact heap_alloc_new w _
  clear h1 h2 hr hfx hrx hn1 hn2 hz hcr hV
  go_enter Tryz.func22, Tryz.ntmps22
  go_wp2_with fail
  rw [← hxb]
  have HSZ2 := Lib.hid (HSZ.out _ HBA.out)
  clear hxb HSZ
  generalize w.alloc (.cells #[.int .i64 fx, .slice ra n1 rc, .int .i64 rx, .slice sa n2 sc] 60) = wa at *
  refine HSZ2.out.mono ?_
  rintro e w1 ⟨rfl, hb1⟩
  have HB1 : Hid (Below w.heap.size w w1) := HBA.out.trans (hb1.mono HBA.out.size)
  have HX1 := Lib.hid ((hb1.block xb (Array.getElem?_eq_some_iff.1 HXB.out).1).trans HXB.out)
  clear hb1 HSZ2 HBA HXB
  go_wp2_with fail
  go_loopw [5, 8] (fun u i wr => ∃ k n : Nat, i = .int .i64 (k : Int) ∧ k ≤ z ∧ n ≤ k ∧ Hid (n = ((List.range k).filter (isRefN L)).length) ∧ Hid (OwnO wr 1 u n (ns ((List.range k).filter (isRefN L)))) ∧ Hid (∀ q, u.ownBlock = some q → w.heap.size ≤ q ∧ q ≠ xb) ∧ Hid (Below w.heap.size w wr) ∧ Hid (wr.heap[xb]? = some (.cells #[.int .i64 fx, .slice ra n1 rc, .int .i64 rx, .slice sa n2 sc] 60 (0, 0)))) (fun _ i _ => z - (intOf i).toNat)
  case atStart => exact ⟨0, 0, rfl, Nat.zero_le _, Nat.le_refl _, rfl, OwnO.nil _ _, fun q hq => by simp [Value.ownBlock] at hq, HB1.out, HX1.out⟩
  case round =>
    clear HB1 HX1
    obtain ⟨k, n, rfl, hk, hnk, HN, HV, HNB, HB, HX⟩ := hrel
    obtain ⟨va, vc, rfl, hsq, -, -⟩ := HV.out.seq
    clear hsq
    by_cases hlt : k < z
    · have x0 := (cells_of_block HX.out 0).1
      have x1 := (cells_of_block HX.out 1).1
      have x2 := (cells_of_block HX.out 2).1
      have x3 := (cells_of_block HX.out 3).1
      simp at x0 x1 x2 x3
      have HIK := Lib.hid (HIR.out k wr hlt HB.out)
      obtain ⟨bv, hbv⟩ : ∃ bv, bv = isRefN L k := ⟨_, rfl⟩
      rw [← hbv] at HIK
      have HFL : Hid ((List.range (k + 1)).filter (isRefN L) = (List.range k).filter (isRefN L) ++ if bv = true then [k] else []) := by
        show _ = _
        rw [List.range_succ, List.filter_append, hbv, List.filter_cons, List.filter_nil]
      clear hbv
      go_wp2_with fail
      refine HIK.out.mono ?_
      rintro e w2 ⟨rfl, hb2⟩
      have HB2 : Hid (Below w.heap.size w w2) := HB.out.trans (hb2.mono HB.out.size)
      have HX2 := Lib.hid ((hb2.block xb (block_lt HX.out)).trans HX.out)
      have HV2 : Hid (OwnO w2 1 (.slice va n vc) n (ns ((List.range k).filter (isRefN L)))) := HV.out.kept (fun q hq => hb2.block q (HV.out.lt q hq))
      clear hb2 HB HX HV HIK x0 x1 x2 x3
      cases bv with
      | false =>
        have HFL2 : Hid ((List.range (k + 1)).filter (isRefN L) = (List.range k).filter (isRefN L)) := by
          show _ = _
          rw [HFL.out, if_neg (by decide), List.append_nil]
        go_wp2_with fail
        go_roundw
        case rel => exact ⟨k + 1, n, by go_num, by omega, by omega, by show _ = _; rw [HFL2.out]; exact HN.out, by show OwnO _ _ _ _ _; rw [HFL2.out]; exact HV2.out, HNB.out, HB2.out, HX2.out⟩
        case measure => simp [intOf]; omega
      | true =>
        have HLN : Hid (ns ((List.range k).filter (isRefN L)) ++ [.int .i64 (k : Int)] = ns ((List.range (k + 1)).filter (isRefN L))) := by
          show _ = _
          rw [HFL.out, if_pos rfl]
          simp [ns, nv]
        have HNL : Hid (n + 1 = ((List.range (k + 1)).filter (isRefN L)).length) := by
          show _ = _
          rw [HFL.out, if_pos rfl, List.length_append, ← HN.out]
          rfl
        go_wp2_with (first
          | (at_builtin; refine wpList_appendO _ rfl (.tmp 25) (.tmp 27) 42 rfl 3 i0 _ 1 8 Tryz.underlying42 hi hz0 hz1 hz2 rfl (by decide) (.slice va n vc) n (ns ((List.range k).filter (isRefN L))) rfl (HV2.out.kept (fun q hq => Below.heap_alloc _ _ _ (HV2.out.lt q hq))) ⟨w2.heap.size, 0, none⟩ 1 1 [.int .i64 (k : Int)] rfl rfl ?_ ?_ (by unfold maxLen; omega) (by omega) ?_)
          | fail)
        · intro j u hj
          rcases j with _ | j
          · simp at hj; subst hj; simp [Addr.add]
          · simp at hj
        · intro u hu; simp at hu; subst hu; rfl
        · intro v4 w4 r1 r2 r3
          rw [HLN.out] at r1
          have HV4 := Lib.hid r1
          have HB4 : Hid (Below w.heap.size w w4) := (HB2.out.alloc HB2.out.size _).grown r2 (by have := HB2.out.size; simp; omega) (fun q hq => (HNB.out q hq).1)
          have HX4 : Hid (w4.heap[xb]? = some (.cells #[.int .i64 fx, .slice ra n1 rc, .int .i64 rx, .slice sa n2 sc] 60 (0, 0))) := by
            have hl := block_lt HX2.out
            refine (r2.block xb (by simp; omega) (fun e => (HNB.out xb e.symm).2 rfl)).trans ?_
            exact (Below.heap_alloc _ _ _ hl).trans HX2.out
          have HN4 : Hid (∀ q, v4.ownBlock = some q → w.heap.size ≤ q ∧ q ≠ xb) := fun q hq => by
            rcases r3 q hq with h' | h'
            · exact HNB.out q h'
            · have h1 := h'.1
              have h2 := HB2.out.size
              have h3 := block_lt HX2.out
              exact ⟨by omega, by omega⟩
          obtain ⟨va4, vc4, rfl, -, -, -⟩ := r1.seq
          clear r1 r2 r3
          go_wp2_with fail
          go_roundw
          case rel => exact ⟨k + 1, n + 1, by go_num, by omega, by omega, HNL.out, HV4.out, HN4.out, HB4.out, HX4.out⟩
          case measure => simp [intOf]; omega
    · have hkz : k = z := by omega
      have HE : Hid (n = 0 ↔ slotsL L c = []) := by
        show _ ↔ _
        rw [← HSN.out, ← hkz, HN.out, List.length_eq_zero_iff]
      go_wp2_with fail
      go_ret
      exact ⟨_, _, _, rfl, HE.out, HB.out⟩
end Go.Proofs.YtcdpnfchmpncjaaGreatDoor

