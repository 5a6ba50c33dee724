/-
  Parts of the proof, one behind the other: KEvac8.
-/
import Derived.Test.YtcdpnfchmpncjaaGreatDoorMa38
set_option linter.unusedSimpArgs false
set_option linter.unusedVariables false
namespace Go.Proofs.YtcdpnfchmpncjaaGreatDoor
open Go.RowKit Go.Tr Go.Shelf
variable {w w' : World} {F G : Nat → Prop} {A : Ad} {S S1 : HS}
def lose1 (S : HS) (z : Int) : HS := match S.sl[z.toNat]? with | some x => { S with mine := outL S.mine z, sl := S.sl.set z.toNat ⟨x.gen, false, 0, 0, false, false⟩ } | none => S
def whiteB (S : HS) (z : Int) : Bool := decide (S.gs.color z = 0)
def loseL (S : HS) (zs : List Int) : HS := zs.foldl (fun S z => if S.gs.color z = 0 then lose1 S z else S) S
theorem lose1_gs (S : HS) (z : Int) : (lose1 S z).gs = S.gs ∧ (lose1 S z).on = S.on ∧ (lose1 S z).mine.length ≤ S.mine.length ∧ (lose1 S z).L = S.L ∧ (lose1 S z).Wd = S.Wd := by
  unfold lose1
  split
  · refine ⟨rfl, rfl, ?_, rfl, rfl⟩
    exact List.length_filter_le _ _
  · exact ⟨rfl, rfl, Nat.le_refl _, rfl, rfl⟩
theorem loseL_gs (zs : List Int) : ∀ S : HS, (loseL S zs).gs = S.gs ∧ (loseL S zs).on = S.on ∧ (loseL S zs).mine.length ≤ S.mine.length ∧ (loseL S zs).L = S.L ∧ (loseL S zs).Wd = S.Wd := by
  induction zs with
  | nil => intro S; exact ⟨rfl, rfl, Nat.le_refl _, rfl, rfl⟩
  | cons z zs ih =>
    intro S
    have h := ih (if S.gs.color z = 0 then lose1 S z else S)
    obtain ⟨h1, h2, h3, h4, h5⟩ := h
    rw [show loseL S (z :: zs) = loseL (if S.gs.color z = 0 then lose1 S z else S) zs from rfl]
    by_cases hc : S.gs.color z = 0
    · obtain ⟨k1, k2, k3, k4, k5⟩ := lose1_gs S z
      simp only [if_pos hc] at h1 h2 h3 h4 h5 ⊢
      exact ⟨h1.trans k1, h2.trans k2, Nat.le_trans h3 k3, h4.trans k4, h5.trans k5⟩
    · simp only [if_neg hc] at h1 h2 h3 h4 h5 ⊢
      exact ⟨h1, h2, h3, h4, h5⟩
theorem loseL_snoc (S : HS) (zs : List Int) (z : Int) : loseL S (zs ++ [z]) = if (loseL S zs).gs.color z = 0 then lose1 (loseL S zs) z else loseL S zs := by
  unfold loseL
  rw [List.foldl_append]
  rfl
theorem lose1_sl (S : HS) (z : Int) {j : Nat} (hz : 0 ≤ z) (h : z ≠ (j : Int)) : (lose1 S z).sl[j]? = S.sl[j]? := by
  unfold lose1
  split
  · have : z.toNat ≠ j := by omega
    simp only
    rw [List.getElem?_set_ne this]
  · rfl
theorem loseL_sl {j : Nat} (zs : List Int) : ∀ S : HS, (∀ z ∈ zs, 0 ≤ z) → (j : Int) ∉ zs → (loseL S zs).sl[j]? = S.sl[j]? := by
  induction zs with
  | nil => intro S _ _; rfl
  | cons z zs ih =>
    intro S h1 h2
    have h := ih (if S.gs.color z = 0 then lose1 S z else S) (fun y hy => h1 y (List.mem_cons_of_mem _ hy)) (fun hm => h2 (List.mem_cons_of_mem _ hm))
    refine Eq.trans h ?_
    split
    · exact lose1_sl S z (h1 z (List.mem_cons_self ..)) (fun e => h2 (by rw [← e]; exact List.mem_cons_self ..))
    · rfl
def FnSt (w : World) (F : Nat → Prop) (A : Ad) (S : HS) (bx zb rb b lb : Nat) (pre : List Int) (W : World) : Prop :=
  ∃ F', Run w F W F' A (loseL S pre) ∧ Bx W F' bx (.cells #[.pointer (some ⟨A.h, 0, none⟩)] 22 (0, 0)) ∧ Bx W F' zb (.cells #[.slice none 0 0, .int .i64 0] 44 (0, 0)) ∧
    Bx W F' rb (.cells #[.slice none 0 0, .int .i64 ((pre.filter (whiteB S)).length : Nat)] 44 (0, 0)) ∧ ¬ F' b ∧ ¬ F' lb ∧ ¬ F' (lb + 1)
theorem Run.aside {b : Nat} {W W' : World} {F1 : Nat → Prop} (h : Run w F W F1 A S) (hb : w.heap.size ≤ b) (hn : ¬ F1 b) (ho : Only (fun k => k = b) W W') : Run w F W' F1 A S := by
  obtain ⟨⟨h0, tau, ht⟩, h2, h3, h4⟩ := h
  exact ⟨⟨fun k hk => Nat.lt_of_lt_of_le (h0 k hk) ho.size, tau, fun i => (pp_parts A S).kept i W _ _ (ht i) (fun k hk hl => ho.block k hl (fun e => hn (by rw [← show k = b from e]; exact hk.1)))⟩, h2.trans ho (fun k hk => Or.inr (by rw [show k = b from hk]; exact hb)), h3, h4⟩
theorem HeapF.cb (h : HeapF w F A S) : S.C * S.Wd ≤ 1073741824 := by
  obtain ⟨G, hG, h1⟩ := h.1.read 1
  obtain ⟨wb, ob, m, Fm, h2, -⟩ : StF w G A.s S.C S.Wd S.ws S.own := h1
  have h3 := h2.cb
  have h4 := h2.wd
  exact Nat.le_trans (Nat.mul_le_mul h3.2 h4.2) (by decide)
def stayC (S : HS) (cnt : Int → Nat) (z : Int) : List Int := match S.sl[z.toNat]? with | some x => (List.range ((x.addr + S.L.size (cnt z)) / S.Wd - x.addr / S.Wd + 1)).map (fun i => ((x.addr / S.Wd + i : Nat) : Int)) | none => []
def stayM (l : List Int) : List (Int × Value) := l.foldl (fun m c => putA m c (.int .i64 1)) []
theorem stayM_snoc (l : List Int) (c : Int) : stayM (l ++ [c]) = putA (stayM l) c (.int .i64 1) := by unfold stayM; rw [List.foldl_append]; rfl
theorem look_stay (c : Int) (l : List Int) : ∀ m : List (Int × Value), lookA (l.foldl (fun m c => putA m c (.int .i64 1)) m) c = if c ∈ l then some (.int .i64 1) else lookA m c := by
  induction l with
  | nil => intro m; simp
  | cons x l ih =>
    intro m
    rw [List.foldl_cons, ih]
    by_cases h : c ∈ l
    · simp [h]
    · by_cases e : c = x
      · subst e; simp [h, lookA_put_same]
      · simp [h, e, lookA_put_other _ _ e]
theorem stayM_look (l : List Int) (c : Int) : (lookA (stayM l) c).getD (.int .i64 0) = .int .i64 (if c ∈ l then 1 else 0) := by
  unfold stayM
  rw [look_stay]
  by_cases h : c ∈ l
  · simp [h]
  · simp [h, lookA]
def dropS (S : HS) (q m : Nat) : HS := { S with ps := S.ps.erase (q, m), a := if m = 1 ∧ S.en = (q + 1) * S.Wd then 0 else S.a, en := if m = 1 ∧ S.en = (q + 1) * S.Wd then 0 else S.en, own := putAt S.own q (List.replicate m 0) }
def DropTo (S : HS) (q : Nat) (S' : HS) : Prop := S.ps.length ≤ 100000 ∧ ((∃ m, findPart S.ps q = some (q, m) ∧ q + m ≤ S.C ∧ (∀ i, q ≤ i → i < q + m → S.own.getD i 0 ≠ 0) ∧ S' = dropS S q m) ∨ (findPart S.ps q = none ∧ S' = S))
theorem HeapF.dropTo (h : HeapF w F A S) {q : Nat} (hd : DropTo S q S1) : Calls Tryz.prog 70 #[.pointer (some ⟨A.u, 0, none⟩), .int .i64 q] w fun e w' => (∃ k, e = .returned (.int .i64 k)) ∧ HeapF w' (grow F w w') A S1 ∧ Only F w w' := by
  obtain ⟨hl, ⟨m, hf, hm, hown, rfl⟩ | ⟨hf, rfl⟩⟩ := hd
  · exact (h.drop q m hl hf hm hown).mono fun e w' ⟨e1, e2⟩ => ⟨⟨_, e1⟩, e2⟩
  · obtain ⟨G, hG, h1⟩ := h.1.read 6
    have h2 : SpF 154 w G A.u A.s 1 S1.ps S1.a S1.en := h1
    exact (udropN_any q w h2 hl hf).mono fun e w' ⟨e1, hb⟩ => ⟨⟨_, e1⟩, ((Run.start h).below hb).fin h.lt⟩
theorem Run.asideU {U : Nat → Prop} {W W' : World} {F1 : Nat → Prop} (h : Run w F W F1 A S) (hU : ∀ k, U k → w.heap.size ≤ k ∧ ¬ F1 k) (ho : Only U W W') : Run w F W' F1 A S := by
  obtain ⟨⟨h0, tau, ht⟩, h2, h3, h4⟩ := h
  exact ⟨⟨fun k hk => Nat.lt_of_lt_of_le (h0 k hk) ho.size, tau, fun i => (pp_parts A S).kept i W _ _ (ht i) (fun k hk hl => ho.block k hl (fun e => (hU k e).2 hk.1))⟩, h2.trans ho (fun k hk => Or.inr (hU k hk).1), h3, h4⟩
def FinJ (J : Nat → HS → List Int → Prop) (cs stay : List Int) : Prop := ∀ k S fr c, J k S fr → cs[k]? = some c →
  (c ∈ stay ∧ J (k + 1) S fr) ∨ (c ∉ stay ∧ ∃ (q : Nat) (S' : HS), c = (q : Int) ∧ DropTo S q S' ∧ J (k + 1) S' (fr ++ [c]))
def endS (S : HS) : HS := { S with ps := S.ps ++ S.ps2, a := if 0 < S.en2 then S.a2 else S.a, en := if 0 < S.en2 then S.en2 else S.en, on := false }
def FrSt (w : World) (F : Nat → Prop) (A : Ad) (J : Nat → HS → List Int → Prop) (nl bx zb rb sb mb d1 d2 : Nat) (stay : List (Int × Value)) (cs : List Int) (a1 : Option Addr) (k : Nat) (W : World) : Prop :=
  ∃ F' S' fr v, Run w F W F' A S' ∧ J k S' fr ∧ fr.length ≤ k ∧ Bx W F' d1 (.deferred (some [])) ∧ Bx W F' d2 (.deferred (some [])) ∧ Bx W F' bx (.cells #[.pointer (some ⟨A.h, 0, none⟩)] 22 (0, 0)) ∧ Bx W F' zb (.cells #[.slice none 0 0, .int .i64 0] 44 (0, 0)) ∧
    Bx W F' rb (.cells #[v, .int .i64 nl] 44 (0, 0)) ∧ Bx W F' sb (.cells #[.map (some mb)] 102 (0, 0)) ∧ ¬ F' mb ∧ MapI W mb stay ∧ SeqAt W a1 (ints cs) ∧ (∀ b o, a1 = some ⟨b, o, none⟩ → ¬ F' b ∧ b ≠ rb) ∧ own3 W 3 w.heap.size v fr ∧
    ∀ q, v.ownBlock = some q → ¬ F' q ∧ q ≠ d1 ∧ q ≠ d2 ∧ q ≠ bx ∧ q ≠ zb ∧ q ≠ rb ∧ q ≠ sb ∧ q ≠ mb ∧ ∀ b o, a1 = some ⟨b, o, none⟩ → q ≠ b
def SySt (w : World) (F : Nat → Prop) (A : Ad) (S : HS) (cnt : Int → Nat) (nl bx zb rb sb mb d1 b lb : Nat) (l : List Int) (W : World) : Prop :=
  ∃ F', Run w F W F' A S ∧ Bx W F' d1 (.deferred (some [])) ∧ Bx W F' bx (.cells #[.pointer (some ⟨A.h, 0, none⟩)] 22 (0, 0)) ∧ Bx W F' zb (.cells #[.slice none 0 0, .int .i64 0] 44 (0, 0)) ∧
    Bx W F' rb (.cells #[.slice none 0 0, .int .i64 nl] 44 (0, 0)) ∧ Bx W F' sb (.cells #[.map (some mb)] 102 (0, 0)) ∧ ¬ F' mb ∧ MapI W mb (stayM l) ∧ ¬ F' b ∧ ¬ F' lb ∧ ¬ F' (lb + 1)
set_option maxRecDepth 100000 in
set_option maxHeartbeats 4000000 in
theorem efin1_any (cnt : Int → Nat) (w : World) (h : HeapF w F A S) (hon : S.on = true) (hw : S.gs.wait = 0) (hl : S.mine.length ≤ 900000) (hnd : S.mine.Nodup) (hm : ∀ z ∈ S.mine, ∃ (j : Nat) (y : Sl), z = (j : Int) ∧ S.sl[j]? = some y ∧ y.used = true ∧ y.region = 1 ∧ y.gen < 255)
    (hob : ∀ z ∈ (loseL S S.mine).mine, ∃ (j : Nat) (x : Sl), z = (j : Int) ∧ ObjOk (loseL S S.mine) j x (cnt z)) (hsp : SpOk (loseL S S.mine).ps)
    {J : Nat → HS → List Int → Prop} (hJ : FinJ J (chunksL (loseL S S.mine).ps) ((loseL S S.mine).mine.flatMap (stayC (loseL S S.mine) cnt))) (hJ0 : J 0 (loseL S S.mine) [])
    (hJE : ∀ S' fr, J (chunksL (loseL S S.mine).ps).length S' fr → S'.on = true ∧ S'.ps.length + S'.ps2.length ≤ 100000 ∧ ∀ p ∈ S'.ps2, p.1 + p.2 ≤ S'.C ∧ ∀ i, p.1 ≤ i → i < p.1 + p.2 → S'.own.getD i 0 = 1) :
    Calls Tryz.prog 29 #[.pointer (some ⟨A.h, 0, none⟩)] w fun e w' => ∃ v fr S', e = .returned (.tuple #[.agg #[v, .int .i64 ((S.mine.filter (whiteB S)).length : Nat)], .int .i64 0]) ∧ (∃ a c, v = .slice a fr.length c) ∧ J (chunksL (loseL S S.mine).ps).length S' fr ∧ HeapF w' (grow F w w') A (endS S') ∧ Only F w w' := by
  have HLT := Lib.hid h.lt
  have HM := Lib.hid hm
  have HND := Lib.hid hnd
  have HL := Lib.hid hl
  have HE1 := Lib.hid (fun W F1 (S1 : HS) (ho : S1.on = true) (hr : HeapF W F1 A S1) => hr.evf ho (Below.refl _ _))
  have HF1 := Lib.hid (fun W F1 S1 (hr : HeapF W F1 A S1) => hr.fields (Below.refl _ _))
  have HLM := Lib.hid (fun W F1 S1 (hr : HeapF W F1 A S1) => hr.lookMine (Below.refl _ _))
  have HON := Lib.hid hon
  have HOB := Lib.hid hob
  have HSP := Lib.hid hsp
  have HJ := Lib.hid hJ
  have HJ0 := Lib.hid hJ0
  have HJE := Lib.hid hJE
  obtain ⟨bx, hbx⟩ : ∃ bx, bx = w.heap.size := ⟨_, rfl⟩
  obtain ⟨zb, hzb⟩ : ∃ zb, zb = w.heap.size + 1 := ⟨_, rfl⟩
  obtain ⟨rb, hrb⟩ : ∃ rb, rb = w.heap.size + 1 + 1 := ⟨_, rfl⟩
  have h2 := al2 w (.cells #[.pointer (some ⟨A.h, 0, none⟩)] 22) (.cells #[.slice none 0 0, .int .i64 0] 44)
  have h3 := al3 w (.cells #[.pointer (some ⟨A.h, 0, none⟩)] 22) (.cells #[.slice none 0 0, .int .i64 0] 44) (.cells #[.slice none 0 0, .int .i64 0] 44)
  have HRDY := Lib.hid (eready_any _ (h.below h2.1) hon)
  rw [hw] at HRDY
  have hxf : ∀ b, w.heap.size ≤ b → ¬ F b := fun b hb hf => by have := h.lt b hf; omega
  have HRN0 := Lib.hid ((Run.start h).below h3.1)
  have HX0 : Hid (Bx _ F bx _) := ⟨hxf bx (by omega), by rw [hbx]; exact h3.2.1⟩
  have HZ0 : Hid (Bx _ F zb _) := ⟨hxf zb (by omega), by rw [hzb]; exact h3.2.2.1⟩
  have HR0 : Hid (Bx _ F rb _) := ⟨hxf rb (by omega), by rw [hrb]; exact h3.2.2.2⟩
  have x0 : ((w.alloc (.cells #[.pointer (some ⟨A.h, 0, none⟩)] 22)).alloc (.cells #[.slice none 0 0, .int .i64 0] 44)).cell? ⟨bx, 0, none⟩ = some (.pointer (some ⟨A.h, 0, none⟩)) := by
    have := h2.2.1
    rw [← hbx] at this
    exact (cells_of_block this 0).1
  have HNE : Hid (w.heap.size ≤ rb ∧ rb ≠ bx ∧ rb ≠ zb) := ⟨by omega, by omega, by omega⟩
  have HZW : Hid (w.heap.size ≤ zb) := by show _ ≤ _; omega
  clear h h2 h3 hxf hm hnd hl hon hw hob hsp hJ hJ0 hJE
  refine (callsIn_wide (n := 2)).1 ?_
  refine callsIn_of_wp_marks Tryz.func29 rfl trivial ?_ rfl
  refine wpIn_wide.2 (wp_noPanic ?_)
  simp only [Tryz.ntmps29, List.size_toArray, List.length_cons, List.length_nil, Nat.reduceAdd, Nat.reduceSub, Array.replicate_succ, Array.replicate_zero, List.push_toArray, List.append_toArray, List.nil_append, List.cons_append]
  go_wp2_with fail
  refine HRDY.out.mono ?_
  rintro e w1 ⟨rfl, rfl⟩
  go_wp2_with fail
  rw [← hrb, ← hzb, ← hbx]
  clear x0 hbx hzb hrb HRDY
  generalize (((w.alloc (.cells #[.pointer (some ⟨A.h, 0, none⟩)] 22)).alloc (.cells #[.slice none 0 0, .int .i64 0] 44)).alloc (.cells #[.slice none 0 0, .int .i64 0] 44)) = w2 at *
  obtain ⟨e0, e1, e2, e3⟩ := HE1.out _ _ _ HON.out HRN0.out.heap
  obtain ⟨-, -, -, -, -, -, -, c7⟩ := HF1.out _ _ _ HRN0.out.heap
  have x0 := (cells_of_block HX0.out.2 0).1
  simp at x0
  go_still_tail 12, (by kernel_rfl)
  refine still_look (.tmp 32) (.tmp 36) 54 rfl _ _ _ rfl rfl (HLM.out _ _ _ (HRN0.out.below (Below.refl _ _).drew).heap) ?_
  repeat still_step
  refine wpStill_nil ?_
  have HRN1 := Lib.hid (HRN0.out.below (Below.refl _ _).drew)
  have HX1 := Lib.hid (HX0.out.below (Below.refl _ _).drew)
  have HZ1 := Lib.hid (HZ0.out.below (Below.refl _ _).drew)
  have HR1 := Lib.hid (HR0.out.below (Below.refl _ _).drew)
  change wpList _ _ _ _ _ w2.drew
  clear e0 e1 e2 e3 c7 x0 HX0 HZ0 HR0 HRN0
  generalize w2.drew = w3 at *
  go_wp2_with fail
  refine (HRN1.out.heap.all (by have := HL.out; omega) (Below.refl _ _)).mono ?_
  rintro e w7 ⟨Bs, b, rfl, hseq, hb1, hb2, hb3⟩
  have HSEQ := Lib.hid hseq
  have HRN7 := Lib.hid (HRN1.out.below hb3)
  have HX7 := Lib.hid (HX1.out.below hb3)
  have HZ7 := Lib.hid (HZ1.out.below hb3)
  have HR7 := Lib.hid (HR1.out.below hb3)
  have HN7 : Hid (¬ F b ∧ b < w7.heap.size ∧ w.heap.size ≤ w7.heap.size ∧ (∀ k, F k → k < w7.heap.size) ∧ bx < w7.heap.size ∧ zb < w7.heap.size ∧ rb < w7.heap.size ∧ w.heap.size ≤ rb ∧ rb ≠ b ∧ rb ≠ bx ∧ rb ≠ zb ∧ bx < b ∧ zb < b ∧ rb < b) := by
    have h1 := HRN1.out.heap.lt
    have h2 := hb3.size
    have h3 := HRN1.out.2.1.size
    have h4 := block_lt HX1.out.2
    have h5 := block_lt HZ1.out.2
    have h6 := block_lt HR1.out.2
    have h7 := HNE.out
    exact ⟨fun hf => by have := h1 b hf; omega, hb2, by omega, fun k hk => by have := h1 k hk; omega, by omega, by omega, by omega, by omega, by omega, by omega, by omega, by omega, by omega, by omega⟩
  have HLW : Hid (w.heap.size ≤ w7.heap.size) := HN7.out.2.2.1
  clear hseq hb1 hb2 hb3
  go_wp2_with fail
  have hIB : ∀ pre W (r : Loop), FnSt w F A S bx zb rb b w7.heap.size pre W → FnSt w F A S bx zb rb b w7.heap.size pre (W.putObj (w7.heap.size + 1) (.loop r)) := fun pre W r ⟨F', h1, h2, h3, h4, h5, h6, h7⟩ => by
    obtain ⟨-, -, n1, -, n2, n3, n4, -⟩ := HN7.out
    exact ⟨F', h1.putObj (by omega) h7, ⟨h2.1, (World.putObj_heap_other (by omega)).trans h2.2⟩, ⟨h3.1, (World.putObj_heap_other (by omega)).trans h3.2⟩, ⟨h4.1, (World.putObj_heap_other (by omega)).trans h4.2⟩, h5, h6, h7⟩
  have HIB := Lib.hid hIB
  clear hIB
  refine (wpIn_wide (n := 2)).1 ?_
  refine range_all (m := 0) (gf := 146) (lb := #[.pointer (some ⟨Bs, 0, none⟩)]) rfl (enters_of Tryz.func146 (by kernel_rfl) rfl) HSEQ.out (Below.refl _ _) (fun x => rfl) (fun h k => keepsB_t h k) ?hkb
    (fun pre W => FnSt w F A S bx zb rb b w7.heap.size pre W) ?hib ?hst ?hsk ?h0 ?round ?done
  case hkb => exact fun W r r' _ => World.putObj_heap_other (by have := HN7.out.2.1; omega)
  case hib => exact fun pre W r r' h _ => HIB.out pre W r' h
  case hst => rintro pre A B h rfl; exact h
  case hsk => rintro A B k rfl _ _; rfl
  case h0 =>
    intro r
    have hb : Below w7.heap.size w7 ((w7.alloc (.deferred (some []))).alloc (.loop r)) := ((Below.refl _ w7).alloc (Nat.le_refl _) _).alloc (by simp) _
    obtain ⟨h1, h2, h3, h4, -⟩ := HN7.out
    exact ⟨F, HRN7.out.below hb, HX7.out.below hb, HZ7.out.below hb, HR7.out.below hb, h1, fun h => by have := h4 _ h; omega, fun h => by have := h4 _ h; omega⟩
  case round =>
    intro pre x W hI hpre hlt
    obtain ⟨j, y, rfl, hy, hu, hr, hgn⟩ := HM.out x (hpre.subset (by simp))
    have hjn : (j : Int) ∉ pre := fun hm => by
      have h1 := HND.out.sublist hpre.sublist
      rw [List.nodup_append] at h1
      exact h1.2.2 _ hm _ (List.mem_singleton.2 rfl) rfl
    have hpl : pre.length + 1 ≤ 900000 := by
      have h1 := hpre.length_le
      have h2 := HL.out
      rw [List.length_append] at h1
      simp at h1
      omega
    have hp0 : ∀ z ∈ pre, 0 ≤ z := fun z hz => by
      obtain ⟨j2, y2, rfl, -⟩ := HM.out z (hpre.subset (by simp [hz]))
      omega
    have hsem := @Oper.semAt_some
    gi_wp2_with fail
    refine ⟨trivial, trivial, rfl, fun r hkr => ?_⟩
    obtain ⟨F', h1, h2, h3, h4, h5, h6, h7⟩ := HIB.out pre W r hI
    have hsz : w7.heap.size + 1 < (W.putObj (w7.heap.size + 1) (.loop r)).heap.size := by simpa using hlt
    clear hI hkr hlt
    generalize W.putObj (w7.heap.size + 1) (.loop r) = W2 at *
    have hsn := loseL_snoc S pre (j : Int)
    have hsl := loseL_sl pre S hp0 hjn
    rw [hy] at hsl
    obtain ⟨g1, g2, g3, g4, g5⟩ := loseL_gs pre S
    have hml : (loseL S pre).mine.length ≤ 1000000 := by have := HL.out; omega
    rw [g1] at hsn
    have hon1 : (loseL S pre).on = true := g2.trans HON.out
    obtain ⟨nw, hnw⟩ : ∃ nw, nw = (pre.filter (whiteB S)).length := ⟨_, rfl⟩
    have hnw2 : nw ≤ 900000 := by have := List.length_filter_le (whiteB S) pre; omega
    rw [← hnw] at h4
    have hft : ((pre ++ [(j : Int)]).filter (whiteB S)).length = if S.gs.color j = 0 then nw + 1 else nw := by
      rw [List.filter_append, List.length_append, ← hnw]
      by_cases hc : S.gs.color j = 0 <;> simp [whiteB, hc]
    have hCOL := CallsIn.inRound (w7.heap.size + 1) (callsIn_wide (n := 0).2 (h1.heap.color hon1 (j : Int)))
    rw [g1] at hCOL
    have hCL := CallsIn.inRound (w7.heap.size + 1) (callsIn_wide (n := 0).2 (close_any (A := A) (i := j) (x := y) W2 h1.heap hsl hu hr hgn hml))
    have hl1 : lose1 (loseL S pre) (j : Int) = { loseL S pre with mine := outL (loseL S pre).mine j, sl := (loseL S pre).sl.set j ⟨y.gen, false, 0, 0, false, false⟩ } := by
      unfold lose1
      rw [show ((j : Int).toNat) = j from Int.toNat_natCast j, hsl]
    rw [← hl1] at hCL
    obtain ⟨e0, e1, e2, e3⟩ := HE1.out _ _ _ hon1 h1.heap
    have HCOL := Lib.hid hCOL
    have HCL := Lib.hid hCL
    have HRN2 := Lib.hid h1
    have HX2 := Lib.hid h2
    have HZ2 := Lib.hid h3
    have HR2 := Lib.hid h4
    have HN2 := Lib.hid (And.intro h5 (And.intro h6 h7))
    have HSZ2 := Lib.hid hsz
    have HSN := Lib.hid hsn
    have HFT := Lib.hid hft
    have x0 := (cells_of_block HX2.out.2 0).1
    simp at x0
    obtain ⟨cz, hcz⟩ : ∃ cz, cz = S.gs.color j := ⟨_, rfl⟩
    rw [← hcz] at HCOL HSN HFT
    clear h1 h2 h3 h4 h5 h6 h7 hCOL hCL hsz hy hu hr hgn hpre hjn hp0 hsn hsl g1 g2 g3 g4 g5 hml hon1 hnw hft hl1 hcz
    by_cases hc : cz = 0
    · subst hc
      simp only [if_true] at HSN HFT
      gi_wp2_with fail
      refine ⟨trivial, rfl, HCOL.out.mono ?_⟩
      rintro e w8 ⟨rfl, rfl⟩
      gi_wp2_with fail
      refine ⟨trivial, rfl, HCL.out.mono ?_⟩
      rintro e w9 ⟨rfl, h9⟩
      have HRN9 := Lib.hid (HRN2.out.op h9)
      have HX9 := Lib.hid (HX2.out.op h9.2)
      have HZ9 := Lib.hid (HZ2.out.op h9.2)
      have HR9 := Lib.hid (HR2.out.op h9.2)
      have HO9 := Lib.hid h9.2
      have HR10 := Lib.hid HR9.out.2
      clear h9 e0 e1 e2 e3 x0
      have r0 := cells_of_block HR10.out 0
      have r1 := cells_of_block HR10.out 1
      simp at r0 r1
      obtain ⟨r0, f0⟩ := r0
      obtain ⟨r1, f1⟩ := r1
      gi_wp2_with fail
      have k1 := HSZ2.out
      obtain ⟨-, k2, k0, -, k3, k4, k5, k6, k7, k8, k9, k10, k11, k12⟩ := HN7.out
      obtain ⟨m1, m2, m3⟩ := HN2.out
      have hk : ∀ k, k < W2.heap.size → ¬ F' k → k ≠ rb → (w9.setCell ⟨rb, 1, none⟩ (.int .i64 ((nw : Int) + 1))).heap[k]? = W2.heap[k]? := fun k hk hn hne => (Below.heap_setCell _ _ _ _ hne).trans (HO9.out.block k hk hn)
      have hg : ∀ k, k < W2.heap.size → ¬ F' k → ¬ grow F' W2 w9 k := fun k hk hn hg => hg.elim hn (fun hg => by have := hg.1; omega)
      have hrb : (w9.setCell ⟨rb, 1, none⟩ (.int .i64 ((nw : Int) + 1))).heap[rb]? = some (.cells #[.slice none 0 0, .int .i64 ((nw + 1 : Nat) : Int)] 44 (0, 0)) := by
        simpa using block_setCell HR9.out.2 1 (.int .i64 ((nw : Int) + 1))
      exact ⟨hk _ k1 m3 (by omega), hk _ (by omega) m2 (by omega), hk _ (by omega) m1 (by omega), _, by rw [HSN.out]; exact HRN9.out.loc k6 HR9.out.1,
        ⟨HX9.out.1, (Below.heap_setCell _ _ _ _ k8.symm).trans HX9.out.2⟩, ⟨HZ9.out.1, (Below.heap_setCell _ _ _ _ k9.symm).trans HZ9.out.2⟩, ⟨HR9.out.1, by rw [HFT.out]; exact hrb⟩, hg _ (by omega) m1, hg _ (by omega) m2, hg _ k1 m3⟩
    · have hcb : (cz == 0) = false := by simpa using hc
      simp only [if_neg hc] at HSN HFT
      clear hc
      gi_wp2_with fail
      refine ⟨trivial, rfl, HCOL.out.mono ?_⟩
      rintro e w8 ⟨rfl, rfl⟩
      gi_wp2_with fail
      obtain ⟨m1, m2, m3⟩ := HN2.out
      exact ⟨rfl, rfl, rfl, F', by rw [HSN.out]; exact HRN2.out, HX2.out, HZ2.out, by rw [HFT.out]; exact HR2.out, m1, m2, m3⟩
  case done =>
    rintro W ⟨F1, h1, h2, h3, h4, -, h6, -⟩ hD
    obtain ⟨g1, g2, g3, g4, g5⟩ := loseL_gs S.mine S
    obtain ⟨S1, hS1⟩ : ∃ S1, S1 = loseL S S.mine := ⟨_, rfl⟩
    obtain ⟨nl, hnl⟩ : ∃ nl, nl = (S.mine.filter (whiteB S)).length := ⟨_, rfl⟩
    rw [← hS1] at h1 g1 g2 g3 g4 g5
    rw [← hnl] at h4
    have HRA := Lib.hid h1
    have HXA := Lib.hid h2
    have HZA := Lib.hid h3
    have HRB := Lib.hid h4
    have HG := Lib.hid (And.intro g1 (And.intro g2 (And.intro g3 (And.intro g4 g5))))
    have HS1 := Lib.hid hS1
    have HNL := Lib.hid hnl
    have HD1 : Hid (Bx W F1 w7.heap.size (.deferred (some []))) := ⟨h6, hD⟩
    clear h1 h2 h3 h4 h6 g1 g2 g3 g4 g5 hS1 hnl hD HSEQ HIB HRN7 HX7 HZ7 HR7
    have hmm := @run_makeMap Tryz.prog
    go_wp2_with fail
    rw [← HS1.out] at HOB HSP HJ HJ0 HJE
    have hmb : Below W.heap.size W ((W.alloc (.map #[] 0)).alloc (.cells #[.map (some W.heap.size)] 102)) := ((Below.refl _ W).alloc (Nat.le_refl _) _).alloc (by simp) _
    have HRC := Lib.hid (HRA.out.below hmb)
    have HXC := Lib.hid (HXA.out.below hmb)
    have HZC := Lib.hid (HZA.out.below hmb)
    have HRD := Lib.hid (HRB.out.below hmb)
    have hlF : ∀ k, F1 k → k < W.heap.size := HRA.out.heap.lt
    obtain ⟨mb, hmbe⟩ : ∃ mb, mb = W.heap.size := ⟨_, rfl⟩
    obtain ⟨sb, hsbe⟩ : ∃ sb, sb = W.heap.size + 1 := ⟨_, rfl⟩
    have HSC : Hid (Bx ((W.alloc (.map #[] 0)).alloc (.cells #[.map (some W.heap.size)] 102)) F1 sb (.cells #[.map (some mb)] 102 (0, 0))) := ⟨fun hf => by have := hlF _ hf; omega, by
      rw [hsbe, hmbe]
      have := heap_alloc_new (W.alloc (.map #[] 0)) (.cells #[.map (some W.heap.size)] 102)
      rwa [World.size_alloc] at this⟩
    have HMC : Hid (MapI ((W.alloc (.map #[] 0)).alloc (.cells #[.map (some W.heap.size)] 102)) mb (stayM [])) := by
      rw [hmbe]
      exact (MapI.made W).kept (Below.heap_alloc _ _ _ (by simp))
    have HME : Hid (¬ F1 mb ∧ W.heap.size ≤ mb ∧ sb = mb + 1 ∧ w7.heap.size < W.heap.size ∧ w.heap.size ≤ W.heap.size ∧ bx < W.heap.size ∧ zb < W.heap.size ∧ rb < W.heap.size) :=
      ⟨fun hf => by have := hlF _ hf; omega, by omega, by omega, block_lt HD1.out.2, HRA.out.2.1.size, block_lt HXA.out.2, block_lt HZA.out.2, block_lt HRB.out.2⟩
    have HDC := Lib.hid (HD1.out.below hmb)
    rw [← hmbe]
    rw [← hmbe] at HRC HXC HZC HRD HSC HMC HDC hmb
    clear hmb hlF hsbe
    generalize hwc : (W.alloc (.map #[] 0)).alloc (.cells #[.map (some mb)] 102) = wc at *
    clear hwc hmbe
    obtain ⟨e0, e1, e2, e3⟩ := HE1.out _ _ _ (HG.out.2.1.trans HON.out) HRC.out.heap
    obtain ⟨-, -, -, -, -, -, -, c7⟩ := HF1.out _ _ _ HRC.out.heap
    have x0 := (cells_of_block HXC.out.2 0).1
    simp at x0
    go_still_tail 12, (by kernel_rfl)
    refine still_look (.tmp 64) (.tmp 68) 54 rfl _ _ _ rfl rfl (HLM.out _ _ _ (HRC.out.below (Below.refl _ _).drew).heap) ?_
    repeat still_step
    refine wpStill_nil ?_
    have hdr : Below wc.heap.size wc wc.drew := (Below.refl _ _).drew
    have HRE := Lib.hid (HRC.out.below hdr)
    have HXE := Lib.hid (HXC.out.below hdr)
    have HZE := Lib.hid (HZC.out.below hdr)
    have HQE := Lib.hid (HRD.out.below hdr)
    have HSE := Lib.hid (HSC.out.below hdr)
    have HDE := Lib.hid (HDC.out.below hdr)
    have HMP : Hid (MapI wc.drew mb (stayM [])) := HMC.out.kept (hdr.block _ HMC.out.lt)
    change wpList _ _ _ _ _ wc.drew
    clear e0 e1 e2 e3 c7 x0 HRC HXC HZC HRD HSC HMC HDC hdr
    generalize wc.drew = wd at *
    go_wp2_with fail
    refine (HRE.out.heap.all (by have := HL.out; have := HG.out.2.2.1; omega) (Below.refl _ _)).mono ?_
    rintro e wf ⟨Bs2, b2, rfl, hseq, hb1, hb2, hb3⟩
    have HSEQ2 := Lib.hid hseq
    have HRF := Lib.hid (HRE.out.below hb3)
    have HXF := Lib.hid (HXE.out.below hb3)
    have HZF := Lib.hid (HZE.out.below hb3)
    have HQF := Lib.hid (HQE.out.below hb3)
    have HSF := Lib.hid (HSE.out.below hb3)
    have HDF := Lib.hid (HDE.out.below hb3)
    have HMF : Hid (MapI wf mb (stayM [])) := HMP.out.kept (hb3.block _ HMP.out.lt)
    have HNF : Hid (¬ F1 b2 ∧ b2 < wf.heap.size ∧ w.heap.size ≤ wf.heap.size ∧ (∀ k, F1 k → k < wf.heap.size) ∧ (bx < b2 ∧ zb < b2 ∧ rb < b2 ∧ sb < b2 ∧ mb < b2 ∧ w7.heap.size < b2)) := by
      have h1 := HRE.out.heap.lt
      have h2 := hb3.size
      have h3 := HRE.out.2.1.size
      have i1 := block_lt HXE.out.2
      have i2 := block_lt HZE.out.2
      have i3 := block_lt HQE.out.2
      have i4 := block_lt HSE.out.2
      have i5 := HMP.out.lt
      have i6 := block_lt HDE.out.2
      exact ⟨fun hf => by have := h1 _ hf; omega, hb2, by omega, fun k hk => by have := h1 k hk; omega, by omega, by omega, by omega, by omega, by omega, by omega⟩
    clear hseq hb1 hb2 hb3 HRE HXE HZE HQE HSE HDE HMP
    go_wp2_with fail
    have hIB : ∀ (pre : List Int) W (r : Loop), SySt w F A S1 cnt nl bx zb rb sb mb w7.heap.size b2 wf.heap.size (pre.flatMap (stayC S1 cnt)) W → SySt w F A S1 cnt nl bx zb rb sb mb w7.heap.size b2 wf.heap.size (pre.flatMap (stayC S1 cnt)) (W.putObj (wf.heap.size + 1) (.loop r)) := fun (pre : List Int) W r ⟨F', h1, h2, h3, h4, h5, h6, h7, h8, h9, h10, h11⟩ => by
      obtain ⟨-, n0, n1, -, i1, i2, i3, i4, i5, i6⟩ := HNF.out
      exact ⟨F', h1.putObj (by omega) h11, ⟨h2.1, (World.putObj_heap_other (by omega)).trans h2.2⟩, ⟨h3.1, (World.putObj_heap_other (by omega)).trans h3.2⟩, ⟨h4.1, (World.putObj_heap_other (by omega)).trans h4.2⟩, ⟨h5.1, (World.putObj_heap_other (by omega)).trans h5.2⟩, ⟨h6.1, (World.putObj_heap_other (by omega)).trans h6.2⟩, h7, h8.kept (World.putObj_heap_other (by omega)), h9, h10, h11⟩
    have HIB := Lib.hid hIB
    clear hIB
    refine (wpIn_wide (n := 2)).1 ?_
    refine range_all (m := 0) (gf := 146) (lb := #[.pointer (some ⟨Bs2, 0, none⟩)]) rfl (enters_of Tryz.func146 (by kernel_rfl) rfl) HSEQ2.out (Below.refl _ _) (fun x => rfl) (fun h k => keepsB_t h k) ?hkb2
      (fun pre W => SySt w F A S1 cnt nl bx zb rb sb mb w7.heap.size b2 wf.heap.size (pre.flatMap (stayC S1 cnt)) W) ?hib2 ?hst2 ?hsk2 ?h02 ?round2 ?done2
    case hkb2 => exact fun W r r' _ => World.putObj_heap_other (by have := HNF.out.2.1; omega)
    case hib2 => exact fun pre W r r' h _ => HIB.out pre W r' h
    case hst2 => rintro pre A B h rfl; exact h
    case hsk2 => rintro A B k rfl _ _; rfl
    case h02 =>
      intro r
      have hb : Below wf.heap.size wf ((wf.alloc (.deferred (some []))).alloc (.loop r)) := ((Below.refl _ wf).alloc (Nat.le_refl _) _).alloc (by simp) _
      obtain ⟨h1, h2, h3, h4, -⟩ := HNF.out
      exact ⟨F1, HRF.out.below hb, HDF.out.below hb, HXF.out.below hb, HZF.out.below hb, HQF.out.below hb, HSF.out.below hb, HME.out.1, HMF.out.kept (hb.block _ HMF.out.lt), h1, fun h => by have := h4 _ h; omega, fun h => by have := h4 _ h; omega⟩
    case round2 =>
      intro pre x W hI hpre hlt
      obtain ⟨j, y, rfl, hok⟩ := HOB.out x (hpre.subset (by simp))
      have hsem := @Oper.semAt_some
      gi_wp2_with fail
      refine ⟨trivial, trivial, rfl, fun r hkr => ?_⟩
      obtain ⟨F', h1, h2, h3, h4, h5, h6, h7, h8, h9, h10, h11⟩ := HIB.out pre W r hI
      have hsz : wf.heap.size + 1 < (W.putObj (wf.heap.size + 1) (.loop r)).heap.size := by simpa using hlt
      clear hI hkr hlt hpre
      generalize W.putObj (wf.heap.size + 1) (.loop r) = W2 at *
      obtain ⟨yg, yu, ya, yr, yh, yp⟩ := y
      have hENT := CallsIn.inRound (wf.heap.size + 1) (callsIn_wide (n := 0).2 (eentry_any W2 h1.heap hok.sl hok.used))
      simp only [entryV] at hENT
      have HAT := Lib.hid (fun V (hb : Below W2.heap.size W2 V) => h1.heap.iat hok hb)
      have HWD := Lib.hid (fun V (hb : Below W2.heap.size W2 V) => h1.heap.words hb)
      have HCF := Lib.hid (fun V (hb : Below W2.heap.size W2 V) => And.intro (h1.heap.evf (HG.out.2.1.trans HON.out) hb) (h1.heap.fields hb))
      have hst : stayC S1 cnt (j : Int) = (List.range ((ya + S1.L.size (cnt j)) / S1.Wd - ya / S1.Wd + 1)).map (fun i => ((ya / S1.Wd + i : Nat) : Int)) := by
        unfold stayC
        rw [show ((j : Int).toNat) = j from Int.toNat_natCast j, hok.sl]
      have hfm : ∀ l : List Int, (pre ++ [(j : Int)]).flatMap (stayC S1 cnt) = pre.flatMap (stayC S1 cnt) ++ stayC S1 cnt j := fun _ => by simp
      have hwd := h1.heap.wd
      obtain ⟨wd, hwdd⟩ : ∃ wd, wd = S1.Wd := ⟨_, rfl⟩
      obtain ⟨z, hz⟩ : ∃ z, z = S1.L.size (cnt j) := ⟨_, rfl⟩
      obtain ⟨q0, hq0⟩ : ∃ q0, q0 = ya / wd := ⟨_, rfl⟩
      obtain ⟨q1, hq1⟩ : ∃ q1, q1 = (ya + z) / wd := ⟨_, rfl⟩
      rw [← hwdd, ← hz, ← hq0, ← hq1] at hst
      rw [← hwdd] at HWD
      rw [← hz] at HAT
      have hw0 : ¬ (wd = 0) := by rw [hwdd]; omega
      have hq : (ya : Int) / (wd : Int) = (q0 : Int) := by rw [hq0]; push_cast; rfl
      have hyb : ya ≤ 1048576 := hok.big
      have hq0b : q0 ≤ 1048576 := by rw [hq0]; exact Nat.le_trans (Nat.div_le_self _ _) hyb
      have hwr : IntKind.i64.wrap (q0 : Int) = (q0 : Int) := by rw [IntWalk.i64_in _ (by omega)]
      have hcb := h1.heap.cb
      have hft := hok.fit
      have hzb : ya + z < 1073741824 := by rw [hz]; simp only at hft; omega
      obtain ⟨s1, hs1⟩ : ∃ s1, s1 = ya + z + 1 := ⟨_, rfl⟩
      obtain ⟨yz, hyz⟩ : ∃ yz, yz = ya + z := ⟨_, rfl⟩
      have hr1 : IntKind.i64.wrap ((ya : Int) + ((z : Int) + 1)) = (s1 : Int) := by rw [IntWalk.i64_in _ (by omega)]; omega
      have hr2 : IntKind.i64.wrap ((s1 : Int) - 1) = (yz : Int) := by rw [IntWalk.i64_in _ (by omega)]; omega
      have hr3 : (yz : Int) / (wd : Int) = (q1 : Int) := by rw [hq1, ← hyz]; push_cast; rfl
      have hq1b : q1 < 1073741824 := by rw [hq1]; exact Nat.lt_of_le_of_lt (Nat.div_le_self _ _) hzb
      have hr4 : IntKind.i64.wrap (q1 : Int) = (q1 : Int) := by rw [IntWalk.i64_in _ (by omega)]
      have HR4 := Lib.hid (And.intro hr1 (And.intro hr2 (And.intro hr3 hr4)))
      have HQB : Hid (q1 < 1073741824) := hq1b
      clear hr1 hr2 hr3 hr4 hs1 hyz hcb hft hzb hq1b
      have HQ1 := Lib.hid (And.intro hq1 (And.intro hz hwdd))
      have HQ2 : Hid (q0 ≤ q1) := by
        have := Nat.div_le_div_right (c := wd) (show ya ≤ ya + z by omega)
        rw [← hq0, ← hq1] at this
        exact this
      clear hwd hwdd hz hq0 hq1 hq0b
      have HENT := Lib.hid hENT
      have HRN2 := Lib.hid h1
      have HN2 := Lib.hid (And.intro h7 (And.intro h9 (And.intro h10 h11)))
      have HX2 := Lib.hid (And.intro h2 (And.intro h3 (And.intro h4 (And.intro h5 h6))))
      have HM2 := Lib.hid h8
      have HSZ2 := Lib.hid hsz
      have HST := Lib.hid hst
      have HFM := Lib.hid (hfm [])
      have HOK := Lib.hid hok
      have x0 := (cells_of_block HX2.out.2.1.2 0).1
      simp at x0
      clear h1 h2 h3 h4 h5 h6 h7 h8 h9 h10 h11 hENT hsz hst hfm hok
      gi_wp2_with fail
      refine ⟨trivial, rfl, HENT.out.mono ?_⟩
      rintro e w8 ⟨rfl, hb8⟩
      have k2 := al2 w8 (.cells #[.int .i64 j, .int .i64 yg] 38) (.cells #[.int .i64 ya, .int .i64 yr, .bool yh, .bool yp] 93)
      have HB9 : Hid (Below W2.heap.size W2 ((w8.alloc (.cells #[.int .i64 j, .int .i64 yg] 38)).alloc (.cells #[.int .i64 ya, .int .i64 yr, .bool yh, .bool yp] 93))) := hb8.trans (k2.1.mono hb8.size)
      have HE9 := Lib.hid k2.2.2
      obtain ⟨qb, hqb⟩ : ∃ qb, qb = w8.heap.size + 1 := ⟨_, rfl⟩
      obtain ⟨pb, hpb⟩ : ∃ pb, pb = w8.heap.size := ⟨_, rfl⟩
      rw [← hqb] at HE9
      clear hb8 k2 x0
      gi_wp2_with fail
      rw [← hqb, ← hpb]
      clear hqb hpb
      generalize (w8.alloc (.cells #[.int .i64 j, .int .i64 yg] 38)).alloc (.cells #[.int .i64 ya, .int .i64 yr, .bool yh, .bool yp] 93) = w9 at *
      obtain ⟨n9, hn9⟩ : ∃ n, n = w9.heap.size := ⟨_, rfl⟩
      have HN9 : Hid (n9 = w9.heap.size) := hn9
      have HW9 : Hid (∀ W, Below n9 w9 W → Below W2.heap.size W2 W) := fun W hb => by rw [hn9] at hb; exact HB9.out.trans (hb.mono HB9.out.size)
      clear hn9
      have HDB : Hid (∀ V, Below n9 w9 V → V.cell? ⟨bx, 0, none⟩ = some (.pointer (some ⟨A.h, 0, none⟩)) ∧ V.cell? ⟨A.h, 0, none⟩ = some (.pointer (some ⟨A.c, 0, none⟩)) ∧ V.cell? ⟨A.c, 0, none⟩ = some (.pointer (some ⟨A.s, 0, none⟩)) ∧ V.cell? ⟨A.c, 2, none⟩ = some (.pointer (some ⟨A.m, 0, none⟩)) ∧ V.cell? ⟨qb, 0, none⟩ = some (.int .i64 ya)) := fun V hb => by
        have h1 := HW9.out V hb
        have h2 := (h1.block bx (block_lt HX2.out.2.1.2)).trans HX2.out.2.1.2
        have h3 := (hb.block qb (by rw [HN9.out]; exact block_lt HE9.out)).trans HE9.out
        have h4 := HCF.out V h1
        exact ⟨(cells_of_block h2 0).1, h4.1.1, h4.2.1, h4.2.2.2.1, (cells_of_block h3 0).1⟩
      refine wpIn_region_held_drew (S := Below n9 w9) (by kernel_rfl) (fun ⟨_, _, h⟩ => h) (by kernel_rfl) (Below.refl n9 w9).drew (fun hH => ?_)
      refine tk 0 (v := ?_) rfl ?_ ?_; rotate_left; · intro W hW; obtain ⟨d0, d1, d2, d3, d4⟩ := HDB.out W hW; go_simp; try with_reducible rfl
      try simp only [Act.put, List.setIfInBounds_toArray, List.set_cons_zero, List.set_cons_succ]
      refine tk 1 (v := ?_) rfl ?_ ?_; rotate_left; · intro W hW; obtain ⟨d0, d1, d2, d3, d4⟩ := HDB.out W hW; go_simp; try with_reducible rfl
      try simp only [Act.put, List.setIfInBounds_toArray, List.set_cons_zero, List.set_cons_succ]
      refine tk 2 (v := ?_) rfl ?_ ?_; rotate_left; · intro W hW; obtain ⟨d0, d1, d2, d3, d4⟩ := HDB.out W hW; go_simp; try with_reducible rfl
      try simp only [Act.put, List.setIfInBounds_toArray, List.set_cons_zero, List.set_cons_succ]
      refine tk 3 (v := ?_) rfl ?_ ?_; rotate_left; · intro W hW; obtain ⟨d0, d1, d2, d3, d4⟩ := HDB.out W hW; go_simp; try with_reducible rfl
      try simp only [Act.put, List.setIfInBounds_toArray, List.set_cons_zero, List.set_cons_succ]
      refine tk 4 (v := ?_) rfl ?_ ?_; rotate_left; · intro W hW; obtain ⟨d0, d1, d2, d3, d4⟩ := HDB.out W hW; go_simp; try with_reducible rfl
      try simp only [Act.put, List.setIfInBounds_toArray, List.set_cons_zero, List.set_cons_succ]
      refine tk 5 (v := ?_) rfl ?_ ?_; rotate_left; · intro W hW; obtain ⟨d0, d1, d2, d3, d4⟩ := HDB.out W hW; go_simp; try with_reducible rfl
      try simp only [Act.put, List.setIfInBounds_toArray, List.set_cons_zero, List.set_cons_succ]
      refine tk 6 (v := ?_) rfl ?_ ?_; rotate_left; · intro W hW; obtain ⟨d0, d1, d2, d3, d4⟩ := HDB.out W hW; go_simp; try with_reducible rfl
      try simp only [Act.put, List.setIfInBounds_toArray, List.set_cons_zero, List.set_cons_succ]
      refine tk 7 (v := ?_) rfl ?_ ?_; rotate_left; · intro W hW; obtain ⟨d0, d1, d2, d3, d4⟩ := HDB.out W hW; go_simp; try with_reducible rfl
      try simp only [Act.put, List.setIfInBounds_toArray, List.set_cons_zero, List.set_cons_succ]
      refine tk 8 (v := ?_) rfl ?_ ?_; rotate_left; · intro W hW; obtain ⟨d0, d1, d2, d3, d4⟩ := HDB.out W hW; go_simp; try with_reducible rfl
      try simp only [Act.put, List.setIfInBounds_toArray, List.set_cons_zero, List.set_cons_succ]
      refine rd2 9 14 rfl rfl (fun K hK => ?_) (fun K hK => ?_)
      focus
        go_simp
        refine (HAT.out _ (HW9.out _ hH)).mono ?_
        rintro e wg ⟨rfl, hb3⟩
        have HB3 : Hid (Below n9 w9 wg) := hH.trans (hb3.mono (by rw [HN9.out]; exact hH.size))
        refine hK.out _ _ HB3.out (fun hH => ?_)
        clear hK K hb3
        refine tk 10 (v := ?_) rfl ?_ ?_; rotate_left; · intro W hW; go_simp; try with_reducible rfl
        try simp only [Act.put, List.setIfInBounds_toArray, List.set_cons_zero, List.set_cons_succ]
        refine tk 11 (v := ?_) rfl ?_ ?_; rotate_left; · intro W hW; go_simp; try with_reducible rfl
        try simp only [Act.put, List.setIfInBounds_toArray, List.set_cons_zero, List.set_cons_succ]
        refine tk 12 (v := ?_) rfl ?_ ?_; rotate_left; · intro W hW; go_simp; try with_reducible rfl
        try simp only [Act.put, List.setIfInBounds_toArray, List.set_cons_zero, List.set_cons_succ]
        refine tk 13 (v := ?_) rfl ?_ ?_; rotate_left; · intro W hW; go_simp; try with_reducible rfl
        try simp only [Act.put, List.setIfInBounds_toArray, List.set_cons_zero, List.set_cons_succ]
        refine rd 14 rfl (fun K hK => ?_)
        go_simp
        have HBh : Hid (Below n9 w9 (wg.alloc (.cells #[.int .i64 1, .int .i64 (cnt j), .int .i64 j] 128))) := HB3.out.alloc (by rw [HN9.out]; exact HB3.out.size) _
        refine hK.out _ _ (HB3.out.alloc (by rw [HN9.out]; exact HB3.out.size) _) (fun hH => ?_)
        clear hK K
        refine rd 15 rfl (fun K hK => ?_)
        go_simp
        refine hK.out _ _ HBh.out (fun hH => ?_)
        clear hK K
        obtain ⟨hdb, hxb⟩ : ∃ xb, xb = wg.heap.size := ⟨_, rfl⟩
        have HXh : Hid ((wg.alloc (.cells #[.int .i64 1, .int .i64 (cnt j), .int .i64 j] 128)).heap[hdb]? = some (.cells #[.int .i64 1, .int .i64 (cnt j), .int .i64 j] 128 (0, 0))) := by rw [hxb]; exact heap_alloc_new wg _
        have HXE : Hid (n9 ≤ hdb) := by show _ ≤ _; rw [hxb, HN9.out]; exact HB3.out.size
        rw [← hxb]
        clear hxb
        generalize wg.alloc (.cells #[.int .i64 1, .int .i64 (cnt j), .int .i64 j] 128) = wh at *
      rotate_left
      focus
        go_simp
        have hb3 : Below n9 w9 (w9.alloc (.cells #[.int .i64 0, .int .i64 0, .int .i64 0] 128)).drew := ((Below.refl n9 w9).alloc (Nat.le_of_eq HN9.out) _).drew
        refine hK.out _ _ hb3 (fun hH => ?_)
        clear hK K
        refine rd 9 rfl (fun K hK => ?_)
        go_simp
        refine (HAT.out _ (HW9.out _ hH)).mono ?_
        rintro e wg ⟨rfl, hbc⟩
        have HB3 : Hid (Below n9 w9 wg) := hb3.trans (hbc.mono (by rw [HN9.out]; exact hb3.size))
        obtain ⟨hdb, hxb⟩ : ∃ xb, xb = w9.heap.size := ⟨_, rfl⟩
        have HX3 : Hid (wg.heap[hdb]? = some (.cells #[.int .i64 0, .int .i64 0, .int .i64 0] 128 (0, 0))) := by rw [hxb]; exact (hbc.block _ (by simp)).trans (heap_alloc_new w9 _)
        refine hK.out _ _ HB3.out (fun hH => ?_)
        rw [← hxb]
        have hxw : n9 ≤ hdb := by rw [HN9.out]; exact Nat.le_of_eq hxb.symm
        have HXE : Hid (n9 ≤ hdb) := hxw
        clear hK K hb3 hbc hxb
        refine tk 10 (v := ?_) rfl ?_ ?_; rotate_left; · intro W hW; go_simp; try with_reducible rfl
        try simp only [Act.put, List.setIfInBounds_toArray, List.set_cons_zero, List.set_cons_succ]
        refine tk 11 (v := ?_) rfl ?_ ?_; rotate_left; · intro W hW; go_simp; try with_reducible rfl
        try simp only [Act.put, List.setIfInBounds_toArray, List.set_cons_zero, List.set_cons_succ]
        refine tk 12 (v := ?_) rfl ?_ ?_; rotate_left; · intro W hW; go_simp; try with_reducible rfl
        try simp only [Act.put, List.setIfInBounds_toArray, List.set_cons_zero, List.set_cons_succ]
        refine tk 13 (v := ?_) rfl ?_ ?_; rotate_left; · intro W hW; go_simp; try with_reducible rfl
        try simp only [Act.put, List.setIfInBounds_toArray, List.set_cons_zero, List.set_cons_succ]
        have z0 := cells_of_block HX3.out 0
        have z1 := cells_of_block HX3.out 1
        have z2 := cells_of_block HX3.out 2
        simp at z0 z1 z2
        obtain ⟨z0, f0⟩ := z0
        obtain ⟨z1, f1⟩ := z1
        obtain ⟨z2, f2⟩ := z2
        refine rd 15 rfl (fun K hK => ?_)
        go_simp
        have HBh : Hid (Below n9 w9 (((wg.setCell ⟨hdb, 0, none⟩ (.int .i64 1)).setCell ⟨hdb, 1, none⟩ (.int .i64 (cnt j))).setCell ⟨hdb, 2, none⟩ (.int .i64 j))) := (((HB3.out).setCell hxw _).setCell hxw _).setCell hxw _
        refine hK.out _ _ HBh.out (fun hH => ?_)
        clear hK K hxw z0 f0 z1 f1 z2 f2
        have HXh : Hid ((((wg.setCell ⟨hdb, 0, none⟩ (.int .i64 1)).setCell ⟨hdb, 1, none⟩ (.int .i64 (cnt j))).setCell ⟨hdb, 2, none⟩ (.int .i64 j)).heap[hdb]? = some (.cells #[.int .i64 1, .int .i64 (cnt j), .int .i64 j] 128 (0, 0))) := by
          show _ = _
          simpa using block_setCell (block_setCell (block_setCell (HX3.out) 0 (.int .i64 1)) 1 (.int .i64 (cnt j))) 2 (.int .i64 j)
        generalize ((wg.setCell ⟨hdb, 0, none⟩ (.int .i64 1)).setCell ⟨hdb, 1, none⟩ (.int .i64 (cnt j))).setCell ⟨hdb, 2, none⟩ (.int .i64 j) = wh at *
        clear HX3
      all_goals
        refine tk 16 (v := ?_) rfl ?_ ?_; rotate_left; · intro W hW; go_simp; try with_reducible rfl
        try simp only [Act.put, List.setIfInBounds_toArray, List.set_cons_zero, List.set_cons_succ]
        refine tk 17 (v := ?_) rfl ?_ ?_; rotate_left; · intro W hW; go_simp; try with_reducible rfl
        try simp only [Act.put, List.setIfInBounds_toArray, List.set_cons_zero, List.set_cons_succ]
        refine wpAnyH_done (by kernel_rfl) ?_ _
        gi_wp2_with fail
        refine wpIn_region_held_drew (S := Below n9 w9) (by kernel_rfl) (fun ⟨_, _, h⟩ => h) (by kernel_rfl) HBh.out.drew (fun hH => ?_)
        refine tk 0 (v := ?_) rfl ?_ ?_; rotate_left; · intro W hW; obtain ⟨d0, d1, d2, d3, d4⟩ := HDB.out W hW; go_simp; try with_reducible rfl
        try simp only [Act.put, List.setIfInBounds_toArray, List.set_cons_zero, List.set_cons_succ]
        refine tk 1 (v := ?_) rfl ?_ ?_; rotate_left; · intro W hW; obtain ⟨d0, d1, d2, d3, d4⟩ := HDB.out W hW; go_simp; try with_reducible rfl
        try simp only [Act.put, List.setIfInBounds_toArray, List.set_cons_zero, List.set_cons_succ]
        refine tk 2 (v := ?_) rfl ?_ ?_; rotate_left; · intro W hW; obtain ⟨d0, d1, d2, d3, d4⟩ := HDB.out W hW; go_simp; try with_reducible rfl
        try simp only [Act.put, List.setIfInBounds_toArray, List.set_cons_zero, List.set_cons_succ]
        refine tk 3 (v := ?_) rfl ?_ ?_; rotate_left; · intro W hW; obtain ⟨d0, d1, d2, d3, d4⟩ := HDB.out W hW; go_simp; try with_reducible rfl
        try simp only [Act.put, List.setIfInBounds_toArray, List.set_cons_zero, List.set_cons_succ]
        refine tk 4 (v := ?_) rfl ?_ ?_; rotate_left; · intro W hW; obtain ⟨d0, d1, d2, d3, d4⟩ := HDB.out W hW; go_simp; try with_reducible rfl
        try simp only [Act.put, List.setIfInBounds_toArray, List.set_cons_zero, List.set_cons_succ]
        refine tk 5 (v := ?_) rfl ?_ ?_; rotate_left; · intro W hW; obtain ⟨d0, d1, d2, d3, d4⟩ := HDB.out W hW; go_simp; try with_reducible rfl
        try simp only [Act.put, List.setIfInBounds_toArray, List.set_cons_zero, List.set_cons_succ]
        refine tk 6 (v := ?_) rfl ?_ ?_; rotate_left; · intro W hW; obtain ⟨d0, d1, d2, d3, d4⟩ := HDB.out W hW; go_simp; try with_reducible rfl
        try simp only [Act.put, List.setIfInBounds_toArray, List.set_cons_zero, List.set_cons_succ]
        refine tk 7 (v := ?_) rfl ?_ ?_; rotate_left; · intro W hW; obtain ⟨d0, d1, d2, d3, d4⟩ := HDB.out W hW; go_simp; try with_reducible rfl
        try simp only [Act.put, List.setIfInBounds_toArray, List.set_cons_zero, List.set_cons_succ]
        refine tk 8 (v := ?_) rfl ?_ ?_; rotate_left; · intro W hW; obtain ⟨d0, d1, d2, d3, d4⟩ := HDB.out W hW; go_simp; try with_reducible rfl
        try simp only [Act.put, List.setIfInBounds_toArray, List.set_cons_zero, List.set_cons_succ]
        refine rd 9 rfl (fun K hK => ?_)
        go_simp
        refine (HWD.out _ (HW9.out _ hH)).mono ?_
        rintro e wi ⟨rfl, rfl⟩
        refine hK.out _ _ hH (fun hH => ?_)
        clear hK K
        refine tk 10 (v := ?_) rfl ?_ ?_; rotate_left; · intro W hW; go_simp; try with_reducible rfl
        try simp only [Act.put, List.setIfInBounds_toArray, List.set_cons_zero, List.set_cons_succ]
        refine tk 11 (v := ?_) rfl ?_ ?_; rotate_left; · intro W hW; go_simp; try with_reducible rfl
        try simp only [Act.put, List.setIfInBounds_toArray, List.set_cons_zero, List.set_cons_succ]
        refine wpAnyH_done (by kernel_rfl) ?_ _
        gi_wp2_with fail
        have HEH : Hid (Only (fun k => k = mb) W2 wh.drew ∧ wh.drew.heap[qb]? = some (.cells #[.int .i64 ya, .int .i64 yr, .bool yh, .bool yp] 93 (0, 0)) ∧ MapI wh.drew mb (stayM (pre.flatMap (stayC S1 cnt) ++ (List.range 0).map (fun i => ((q0 + i : Nat) : Int))))) := by
          have h1 := HW9.out _ HBh.out.drew
          have h2 := (HBh.out.drew.block qb (by rw [HN9.out]; exact block_lt HE9.out)).trans HE9.out
          refine ⟨Only.of_below h1 _, h2, ?_⟩
          simp only [List.range_zero, List.map_nil, List.append_nil]
          exact HM2.out.kept (h1.block _ HM2.out.lt)
        clear HAT
        gi_loopw [13] (fun v wr => ∃ k : Nat, v = .int .i64 ((q0 + k : Nat) : Int) ∧ q0 + k ≤ q1 + 1 ∧ Hid (Only (fun k => k = mb) W2 wr ∧ wr.heap[qb]? = some (.cells #[.int .i64 ya, .int .i64 yr, .bool yh, .bool yp] 93 (0, 0)) ∧ MapI wr mb (stayM (pre.flatMap (stayC S1 cnt) ++ (List.range k).map (fun i => ((q0 + i : Nat) : Int)))))) (fun v _ => q1 + 1 - (intOf v).toNat)
        case atStart => exact ⟨0, rfl, by have := HQ2.out; omega, HEH.out⟩
        case round =>
          obtain ⟨k, rfl, hk, HL1⟩ := hrel
          have hmb : w.heap.size ≤ mb := by have h1 := HME.out.2.1; have h2 := HME.out.2.2.2.2.1; omega
          have hbm : bx ≠ mb := by have h1 := HME.out.2.1; have h2 := HME.out.2.2.2.2.2.1; omega
          have HRW := Lib.hid (HRN2.out.aside hmb HN2.out.1 HL1.out.1)
          have HDW : Hid (∀ V, Below wr.heap.size wr V → V.cell? ⟨bx, 0, none⟩ = some (.pointer (some ⟨A.h, 0, none⟩)) ∧ V.cell? ⟨A.h, 0, none⟩ = some (.pointer (some ⟨A.c, 0, none⟩)) ∧ V.cell? ⟨A.c, 0, none⟩ = some (.pointer (some ⟨A.s, 0, none⟩)) ∧ V.cell? ⟨qb, 0, none⟩ = some (.int .i64 ya)) := fun V hb => by
            have i1 := (HL1.out.1.block bx (block_lt HX2.out.2.1.2) hbm).trans HX2.out.2.1.2
            have i2 := (hb.block bx (block_lt i1)).trans i1
            have i3 := (hb.block qb (block_lt HL1.out.2.1)).trans HL1.out.2.1
            have i4 := HE1.out _ _ _ (HG.out.2.1.trans HON.out) (HRW.out.below hb).heap
            have i5 := HF1.out _ _ _ (HRW.out.below hb).heap
            exact ⟨(cells_of_block i2 0).1, i4.1, i5.1, (cells_of_block i3 0).1⟩
          have HWW := Lib.hid (fun V (hb : Below wr.heap.size wr V) => HRW.out.heap.words hb)
          rw [← HQ1.out.2.2] at HWW
          obtain ⟨nr, hnr⟩ : ∃ nr, nr = wr.heap.size := ⟨_, rfl⟩
          rw [← hnr] at HDW HWW
          have HNR := Lib.hid hnr
          obtain ⟨hr1, hr2, hr3, hr4⟩ := HR4.out
          have hb0 : Below nr wr wr.drew := by rw [hnr]; exact (Below.refl _ wr).drew
          clear hmb hbm hnr
          gi_wp2_with fail
          refine wpIn_region_held_drew (S := Below nr wr) (by kernel_rfl) (fun ⟨_, _, h⟩ => h) (by kernel_rfl) hb0 (fun hH => ?_)
          refine tk 0 (v := ?_) rfl ?_ ?_; rotate_left; · intro W hW; obtain ⟨d0, d1, d2, d4⟩ := HDW.out W hW; go_simp; try with_reducible rfl
          try simp only [Act.put, List.setIfInBounds_toArray, List.set_cons_zero, List.set_cons_succ]
          refine tk 1 (v := ?_) rfl ?_ ?_; rotate_left; · intro W hW; obtain ⟨d0, d1, d2, d4⟩ := HDW.out W hW; go_simp; try with_reducible rfl
          try simp only [Act.put, List.setIfInBounds_toArray, List.set_cons_zero, List.set_cons_succ]
          refine tk 2 (v := ?_) rfl ?_ ?_; rotate_left; · intro W hW; obtain ⟨d0, d1, d2, d4⟩ := HDW.out W hW; go_simp; try with_reducible rfl
          try simp only [Act.put, List.setIfInBounds_toArray, List.set_cons_zero, List.set_cons_succ]
          refine tk 3 (v := ?_) rfl ?_ ?_; rotate_left; · intro W hW; obtain ⟨d0, d1, d2, d4⟩ := HDW.out W hW; go_simp; try with_reducible rfl
          try simp only [Act.put, List.setIfInBounds_toArray, List.set_cons_zero, List.set_cons_succ]
          refine tk 4 (v := ?_) rfl ?_ ?_; rotate_left; · intro W hW; obtain ⟨d0, d1, d2, d4⟩ := HDW.out W hW; go_simp; try with_reducible rfl
          try simp only [Act.put, List.setIfInBounds_toArray, List.set_cons_zero, List.set_cons_succ]
          refine tk 5 (v := ?_) rfl ?_ ?_; rotate_left; · intro W hW; obtain ⟨d0, d1, d2, d4⟩ := HDW.out W hW; go_simp; try with_reducible rfl
          try simp only [Act.put, List.setIfInBounds_toArray, List.set_cons_zero, List.set_cons_succ]
          refine tk 6 (v := ?_) rfl ?_ ?_; rotate_left; · intro W hW; obtain ⟨d0, d1, d2, d4⟩ := HDW.out W hW; go_simp; try with_reducible rfl
          try simp only [Act.put, List.setIfInBounds_toArray, List.set_cons_zero, List.set_cons_succ]
          refine tk 7 (v := ?_) rfl ?_ ?_; rotate_left; · intro W hW; obtain ⟨d0, d1, d2, d4⟩ := HDW.out W hW; go_simp; try with_reducible rfl
          try simp only [Act.put, List.setIfInBounds_toArray, List.set_cons_zero, List.set_cons_succ]
          refine tk 8 (v := ?_) rfl ?_ ?_; rotate_left; · intro W hW; obtain ⟨d0, d1, d2, d4⟩ := HDW.out W hW; go_simp; try with_reducible rfl
          try simp only [Act.put, List.setIfInBounds_toArray, List.set_cons_zero, List.set_cons_succ]
          refine tk 9 (v := ?_) rfl ?_ ?_; rotate_left; · intro W hW; obtain ⟨d0, d1, d2, d4⟩ := HDW.out W hW; go_simp; try with_reducible rfl
          try simp only [Act.put, List.setIfInBounds_toArray, List.set_cons_zero, List.set_cons_succ]
          refine tk 10 (v := ?_) rfl ?_ ?_; rotate_left; · intro W hW; obtain ⟨d0, d1, d2, d4⟩ := HDW.out W hW; go_simp; try with_reducible rfl
          try simp only [Act.put, List.setIfInBounds_toArray, List.set_cons_zero, List.set_cons_succ]
          refine tk 11 (v := ?_) rfl ?_ ?_; rotate_left; · intro W hW; obtain ⟨d0, d1, d2, d4⟩ := HDW.out W hW; go_simp; try with_reducible rfl
          try simp only [Act.put, List.setIfInBounds_toArray, List.set_cons_zero, List.set_cons_succ]
          refine tk 12 (v := ?_) rfl ?_ ?_; rotate_left; · intro W hW; obtain ⟨d0, d1, d2, d4⟩ := HDW.out W hW; go_simp; try with_reducible rfl
          try simp only [Act.put, List.setIfInBounds_toArray, List.set_cons_zero, List.set_cons_succ]
          refine rd 13 rfl (fun K hK => ?_)
          go_simp
          refine (HWW.out _ hH).mono ?_
          rintro e wi ⟨rfl, rfl⟩
          refine hK.out _ _ hH (fun hH => ?_)
          clear hK K
          have HSB : Hid (wr.drew.heap[sb]? = some (.cells #[.map (some mb)] 102 (0, 0))) := (HL1.out.1.block sb (block_lt HX2.out.2.2.2.2.2) (by show ¬ sb = mb; have := HME.out.2.2.1; omega)).trans HX2.out.2.2.2.2.2
          by_cases hle : q0 + k ≤ q1
          · have hle2 : (q0 : Int) + (k : Int) ≤ (q1 : Int) := by omega
            refine tk 14 (v := ?_) rfl ?_ ?_; rotate_left; · intro W hW; go_simp; try with_reducible rfl
            try simp only [Act.put, List.setIfInBounds_toArray, List.set_cons_zero, List.set_cons_succ]
            refine tk 15 (v := ?_) rfl ?_ ?_; rotate_left; · intro W hW; go_simp; try with_reducible rfl
            try simp only [Act.put, List.setIfInBounds_toArray, List.set_cons_zero, List.set_cons_succ]
            refine wpAnyH_done (by kernel_rfl) ?_ _
            have hmd : MapI wr.drew mb (stayM (pre.flatMap (stayC S1 cnt) ++ (List.range k).map (fun i => ((q0 + i : Nat) : Int)))) := HL1.out.2.2
            obtain ⟨wp, hrun, hm1, hgr, hsz⟩ := hmd.put (P := Tryz.prog) Tryz.underlying102 Tryz.underlying3 ((q0 : Int) + (k : Int)) (.int .i64 1)
            have s0 := (cells_of_block HSB.out 0).1
            rw [HME.out.2.2.1] at s0
            simp at s0
            have hqb := HQB.out
            have HMP : Hid (MapI wp mb (stayM (pre.flatMap (stayC S1 cnt) ++ (List.range (k + 1)).map (fun i => ((q0 + i : Nat) : Int))))) := by
              show MapI _ _ _
              rw [List.range_succ, List.map_append, ← List.append_assoc]
              simp only [List.map_cons, List.map_nil]
              rw [stayM_snoc]
              push_cast
              exact hm1
            have HOP : Hid (Only (fun k => k = mb) W2 wp) := (HL1.out.1.drew).grown hgr (fun k hk => Or.inl (by cases hk; rfl))
            have HEP : Hid (wp.heap[qb]? = some (.cells #[.int .i64 ya, .int .i64 yr, .bool yh, .bool yp] 93 (0, 0))) := by
              have hne : qb ≠ mb := fun e => by
                have h1 := HL1.out.2.1
                obtain ⟨es, ck, h2, -⟩ := HL1.out.2.2
                rw [e, h2] at h1
                cases h1
              exact (hgr.block qb (block_lt HL1.out.2.1) (fun e => hne (by cases e; rfl))).trans HL1.out.2.1
            clear hmd hm1 hgr hsz
            gi_wp2_with fail
            go_roundw
            case rel => exact ⟨k + 1, by go_num, by omega, HOP.out, HEP.out, HMP.out⟩
            case measure => simp [intOf]; omega
          · have hle2 : ¬ ((q0 : Int) + (k : Int) ≤ (q1 : Int)) := by omega
            refine tk 14 (v := ?_) rfl ?_ ?_; rotate_left; · intro W hW; go_simp; try with_reducible rfl
            try simp only [Act.put, List.setIfInBounds_toArray, List.set_cons_zero, List.set_cons_succ]
            refine tk 15 (v := ?_) rfl ?_ ?_; rotate_left; · intro W hW; go_simp; try with_reducible rfl
            try simp only [Act.put, List.setIfInBounds_toArray, List.set_cons_zero, List.set_cons_succ]
            refine wpAnyH_done (by kernel_rfl) ?_ _
            have hk1 : k = q1 - q0 + 1 := by have := HQ2.out; omega
            have HEN : Hid (MapI wr.drew mb (stayM (pre.flatMap (stayC S1 cnt) ++ stayC S1 cnt j))) := by
              show MapI _ _ _
              rw [HST.out, ← hk1]
              exact HL1.out.2.2
            have HOD : Hid (Only (fun k => k = mb) W2 wr.drew) := HL1.out.1.drew
            clear hk1
            gi_wp2_with fail
            obtain ⟨-, n0, n1, -, i1, i2, i3, i4, i5, i6⟩ := HNF.out
            have m0 := HME.out
            obtain ⟨m1, m2, m3, m4⟩ := HN2.out
            have k1 := HSZ2.out
            have hmw : w.heap.size ≤ mb := by have h1 := m0.2.1; have h2 := m0.2.2.2.2.1; omega
            have hk : ∀ k, k < W2.heap.size → k ≠ mb → wr.drew.heap[k]? = W2.heap[k]? := fun k hk hn => HOD.out.block k hk hn
            have bx1 : ∀ {b : Nat} {o : Obj}, b ≠ mb → Bx W2 F' b o → Bx wr.drew F' b o := fun hn hb => ⟨hb.1, (hk _ (block_lt hb.2) hn).trans hb.2⟩
            obtain ⟨b1, b2', b3, b4, b5⟩ := HX2.out
            exact ⟨hk _ k1 (by omega), hk _ (by omega) (by omega), hk _ (by omega) (by omega), F', HRN2.out.aside hmw m1 HOD.out, bx1 (by omega) b1, bx1 (by omega) b2', bx1 (by omega) b3, bx1 (by omega) b4, bx1 (by omega) b5, m1, HEN.out, m2, m3, m4⟩
    case done2 =>
      rintro V ⟨F2, h1, h2, h3, h4, h5, h6, h7, h8, -, h10, -⟩ hD2
      have HDV : Hid (Bx V F2 wf.heap.size (.deferred (some []))) := ⟨h10, hD2⟩
      have HRV := Lib.hid h1
      have HD1V := Lib.hid h2
      have HXV := Lib.hid h3
      have HZV := Lib.hid h4
      have HQV := Lib.hid h5
      have HSV := Lib.hid h6
      have HMV := Lib.hid (And.intro h7 h8)
      clear h1 h2 h3 h4 h5 h6 h7 h8 h10 hD2 HSEQ2 HIB HRF HXF HZF HQF HSF HDF HMF hmm
      obtain ⟨e0, e1, e2, e3⟩ := HE1.out _ _ _ (HG.out.2.1.trans HON.out) HRV.out.heap
      obtain ⟨-, -, -, -, -, -, c6, -⟩ := HF1.out _ _ _ HRV.out.heap
      have x0 := (cells_of_block HXV.out.2 0).1
      simp at x0
      go_wp2_with fail
      refine wp_region_still_lit (by kernel_rfl) (by kernel_rfl) ?_
      repeat still_step
      refine still_look (.tmp 129) (.tmp 133) 53 rfl _ _ _ rfl rfl (HRV.out.heap.lookSpace (Below.refl _ _).drew) ?_
      repeat still_step
      refine wpStill_nil ?_
      have hdv : Below V.heap.size V V.drew := (Below.refl _ _).drew
      have HRU := Lib.hid (HRV.out.below hdv)
      have HD1U := Lib.hid (HD1V.out.below hdv)
      have HDU := Lib.hid (HDV.out.below hdv)
      have HXU := Lib.hid (HXV.out.below hdv)
      have HZU := Lib.hid (HZV.out.below hdv)
      have HQU := Lib.hid (HQV.out.below hdv)
      have HSU := Lib.hid (HSV.out.below hdv)
      have HMU : Hid (¬ F2 mb ∧ MapI V.drew mb (stayM (S1.mine.flatMap (stayC S1 cnt)))) := HMV.out
      rw [show ({ heap := V.heap, tape := V.tape, drawn := V.drawn + 1, os := V.os, output := V.output } : World) = V.drew from rfl]
      clear hdv HRV HD1V HDV HXV HZV HQV HSV HMV e0 e1 e2 e3 c6 x0
      generalize V.drew = U at *
      have HCH := Lib.hid (HRU.out.heap.chunks HSP.out (Below.refl _ _))
      go_wp2_with fail
      refine HCH.out.mono ?_
      rintro e U1 ⟨v, rfl, hrow, hb⟩
      have HRY := Lib.hid (HRU.out.below hb)
      have HD1Y := Lib.hid (HD1U.out.below hb)
      have HDY := Lib.hid (HDU.out.below hb)
      have HXY := Lib.hid (HXU.out.below hb)
      have HZY := Lib.hid (HZU.out.below hb)
      have HQY := Lib.hid (HQU.out.below hb)
      have HSY := Lib.hid (HSU.out.below hb)
      have HMY : Hid (¬ F2 mb ∧ MapI U1 mb (stayM (S1.mine.flatMap (stayC S1 cnt)))) := ⟨HMU.out.1, HMU.out.2.kept (hb.block _ HMU.out.2.lt)⟩
      have hlt := hrow.lt
      have HQU2 : Hid (rb < U.heap.size) := block_lt HQU.out.2
      obtain ⟨a1, cp, rfl, hsq, -, -⟩ := ownsRow_seq hrow
      have HSQ := Lib.hid hsq
      have HNB : Hid (∀ b o, a1 = some ⟨b, o, none⟩ → U.heap.size ≤ b ∧ ¬ F2 b) := fun b o e => by
        have h1 := (hlt b (by rw [e]; rfl)).1
        exact ⟨h1, fun hf => by have h2 := HRU.out.heap.lt b hf; omega⟩
      obtain ⟨zl, hzl⟩ : ∃ zl, zl = (chunksL S1.ps).length := ⟨_, rfl⟩
      rw [← hzl]
      have HZL := Lib.hid hzl
      clear hlt hrow hsq hb hzl HRU HD1U HDU HXU HZU HQU HSU HMU HCH
      go_wp2_with fail
      have HDZ : Hid (bx < U1.heap.size ∧ w.heap.size ≤ U1.heap.size ∧ w.heap.size ≤ rb ∧ rb ≠ bx ∧ rb ≠ zb) := ⟨block_lt HXY.out.2, HRY.out.2.1.size, HNE.out.1, HNE.out.2.1, HNE.out.2.2⟩
      go_loopw [138] (fun iv wr => ∃ k : Nat, k ≤ zl ∧ iv = .int .i64 (k : Int) ∧ Hid (FrSt w F A J nl bx zb rb sb mb w7.heap.size wf.heap.size (stayM (S1.mine.flatMap (stayC S1 cnt))) (chunksL S1.ps) a1 k wr)) (fun iv _ => zl - (intOf iv).toNat)
      case atStart => exact ⟨0, Nat.zero_le _, rfl, F2, S1, [], .slice none 0 0, HRY.out, HJ0.out, Nat.zero_le _, HD1Y.out, HDY.out, HXY.out, HZY.out, HQY.out, HSY.out, HMY.out.1, HMY.out.2, HSQ.out, fun b o e => ⟨(HNB.out b o e).2, fun e2 => by have h1 := (HNB.out b o e).1; have h2 := HQU2.out; omega⟩, World.ownsRow_nil _ _ _ _, fun q hq => by simp [Value.ownBlock] at hq⟩
      case round =>
        obtain ⟨k, hk, rfl, HR⟩ := hrel
        by_cases hlt : k < zl
        · obtain ⟨F', S', fr, v, h1, h2, hfl, d1, d2, b1, b2', b3, b4, h3, h4, h5, h6, h7, h8⟩ := HR.out
          obtain ⟨b, off, c, rfl, hc, HX⟩ := h5.ints (k := k) (by rw [← HZL.out]; exact hlt)
          have hi : (k : Int) < (zl : Int) := by omega
          have hzl : zl ≤ 100000 := by rw [HZL.out]; exact HSP.out.l
          have hlk := stayM_look (S1.mine.flatMap (stayC S1 cnt)) c
          have s0 := (cells_of_block b4.2 0).1
          rw [HME.out.2.2.1] at s0
          simp at s0
          rcases HJ.out k S' fr c h2 HX.out with ⟨hm, hj⟩ | ⟨hm, q, S9, rfl, hdt, hj⟩
          · rw [if_pos hm] at hlk
            have HNXT : Hid (FrSt w F A J nl bx zb rb sb mb w7.heap.size wf.heap.size (stayM (S1.mine.flatMap (stayC S1 cnt))) (chunksL S1.ps) (some ⟨b, off, none⟩) (k + 1) wr)   := ⟨F', S', fr, v, h1, hj, by omega, d1, d2, b1, b2', b3, b4, h3, h4, h5, h6, h7, h8⟩
            have HMAP := Lib.hid h4
            clear h1 h2 hfl d1 d2 b1 b2' b3 b4 h3 h4 h5 h6 h7 h8 hm hj
            have hrun : (Instr.lookup 102 (.map (some mb)) (.int .i64 c) false).run Tryz.prog wr = .ok (.int .i64 1) wr := by
              rw [MapI.look (P := Tryz.prog) HMAP.out Tryz.underlying102 Tryz.underlying3 (z := .int .i64 0) (fun _ => rfl) false c]
              show Result.ok ((lookA _ c).getD _) wr = _
              rw [hlk]
            clear hlk
            go_wp2
            go_roundw
            case rel => exact ⟨k + 1, by omega, by go_num, HNXT.out⟩
            case measure => simp [intOf]; omega
          · rw [if_neg hm] at hlk
            have HMAP := Lib.hid h4
            have hrun : (Instr.lookup 102 (.map (some mb)) (.int .i64 (q : Int)) false).run Tryz.prog wr = .ok (.int .i64 0) wr := by
              rw [MapI.look (P := Tryz.prog) HMAP.out Tryz.underlying102 Tryz.underlying3 (z := .int .i64 0) (fun _ => rfl) false (q : Int)]
              show Result.ok ((lookA _ (q : Int)).getD _) wr = _
              rw [hlk]
            clear hlk HMAP
            obtain ⟨i0, hi0, hz0, hz1, hz2⟩ := info_parts infoIntC
            obtain ⟨fn, hfn⟩ : ∃ fn, fn = fr.length := ⟨_, rfl⟩
            have HV' : Hid (wr.ownsRow w.heap.size 3 1 v fn (ints fr)) := by rw [hfn]; exact h7
            rw [← hfn] at hfl
            have HFN := Lib.hid hfn
            obtain ⟨oa8, oc8, rfl, -, hoc8, -⟩ := ownsRow_seq HV'.out
            have r0 := (cells_of_block b3.2 0).1
            simp at r0
            have HRW := Lib.hid h1
            have HJJ := Lib.hid (And.intro hdt hj)
            have HBB := Lib.hid (And.intro d1 (And.intro d2 (And.intro b1 (And.intro b2' (And.intro b3 b4)))))
            have HMM := Lib.hid (And.intro h3 h4)
            have HSS := Lib.hid (And.intro h5 h6)
            have HNN := Lib.hid h8
            have HWS : Hid (w.heap.size ≤ wr.heap.size) := h1.2.1.size
            clear h1 h2 hdt hj d1 d2 b1 b2' b3 b4 h3 h4 h5 h6 h7 h8 hm hfn
            go_wp2_with (first
              | (at_builtin; refine wpList_append_own_at _ rfl (.tmp 147) (.tmp 149) 42 rfl w.heap.size 3 i0 _ 1 8 Tryz.underlying42 hi0 hz0 hz1 hz2 rfl (by decide) _ _ _ rfl (HV'.out.alloc _) ⟨wr.heap.size, 0, none⟩ 1 1 (ints [(q : Int)]) rfl rfl ?_ (ints_oneCell .i64 [(q : Int)]) (by unfold maxLen; omega) (by omega) (by have := HWS.out; simp; omega) ?_)
              | fail)
            · intro j u hu
              exact news_block wr (ints [(q : Int)]) 3 j u hu
            · intro v' w4 hown hgrow _ hob
              have HO4 : Hid (Only (fun k => (Value.slice oa8 fn oc8).ownBlock = some k) wr w4) := (Only.of_below ((Below.refl _ wr).alloc (Nat.le_refl _) _) _).grown hgrow (fun k hk => Or.inl hk)
              have HV4 : Hid (own3 w4 3 w.heap.size v' (fr ++ [(q : Int)])) := by
                show w4.ownsRow _ _ _ _ _ _
                have := hown
                rw [HFN.out] at this
                simpa [ints] using this
              have HB4 : Hid (v'.ownBlock = (Value.slice oa8 fn oc8).ownBlock ∨ v'.ownBlock = some (wr.heap.size + 1)) := by
                show _ ∨ _
                simpa using hob
              obtain ⟨oa9, oc9, rfl, -, -, -⟩ := ownsRow_seq hown
              have HR4 : Hid (w4.heap[rb]? = some (.cells #[.slice oa8 fn oc8, .int .i64 nl] 44 (0, 0))) := (HO4.out.block rb (block_lt HBB.out.2.2.2.2.1.2) (fun e => (HNN.out rb e).2.2.2.2.2.1 rfl)).trans HBB.out.2.2.2.2.1.2
              clear hown hgrow hob r0
              have r0 := cells_of_block HR4.out 0
              have r1 := cells_of_block HR4.out 1
              simp at r0 r1
              obtain ⟨r0, f0⟩ := r0
              obtain ⟨r1, f1⟩ := r1
              go_wp2_with fail
              have HR5 : Hid ((w4.setCell ⟨rb, 0, none⟩ (.slice oa9 (fn + 1) oc9)).heap[rb]? = some (.cells #[.slice oa9 (fn + 1) oc9, .int .i64 nl] 44 (0, 0))) := by
                show _ = _
                simpa using block_setCell HR4.out 0 (.slice oa9 (fn + 1) oc9)
              have HO5 : Hid (Only (fun k => (Value.slice oa8 fn oc8).ownBlock = some k ∨ k = rb) wr (w4.setCell ⟨rb, 0, none⟩ (.slice oa9 (fn + 1) oc9))) := (HO4.out.mono (G := fun k => (Value.slice oa8 fn oc8).ownBlock = some k ∨ k = rb) (fun k hk => Or.inl hk)).setCell (p := ⟨rb, 0, none⟩) (Or.inl (Or.inr rfl)) _
              have hbr : ∀ b, (Value.slice oa9 (fn + 1) oc9).ownBlock = some b → b ≠ rb := fun b hb e => by
                subst e
                rcases HB4.out with h | h
                · exact (HNN.out b (h ▸ hb)).2.2.2.2.2.1 rfl
                · rw [h] at hb; cases hb; have := block_lt HBB.out.2.2.2.2.1.2; omega
              have HV5 : Hid (own3 (w4.setCell ⟨rb, 0, none⟩ (.slice oa9 (fn + 1) oc9)) 3 w.heap.size (.slice oa9 (fn + 1) oc9) (fr ++ [(q : Int)])) := ownsRow_kept HV4.out (fun k hk => Below.heap_setCell _ _ _ _ (hbr k hk))
              clear r0 f0 r1 f1 HR4 HO4 HV4
              generalize w4.setCell ⟨rb, 0, none⟩ (.slice oa9 (fn + 1) oc9) = w5 at *
              have hU : ∀ k, ((Value.slice oa8 fn oc8).ownBlock = some k ∨ k = rb) → w.heap.size ≤ k ∧ ¬ F' k := fun k hk => by
                rcases hk with hk | rfl
                · exact ⟨(HV'.out.lt k hk).1, (HNN.out k hk).1⟩
                · exact ⟨HDZ.out.2.2.1, HBB.out.2.2.2.2.1.1⟩
              have HRN5 := Lib.hid (HRW.out.asideU hU HO5.out)
              clear hU
              refine (HRN5.out.heap.dropTo HJJ.out.1).mono ?_
              rintro e w6 ⟨⟨kk, rfl⟩, h6⟩
              have HRN6 := Lib.hid (HRN5.out.op h6)
              have HO6 := Lib.hid h6.2
              have HNXT : Hid (FrSt w F A J nl bx zb rb sb mb w7.heap.size wf.heap.size (stayM (S1.mine.flatMap (stayC S1 cnt))) (chunksL S1.ps) (some ⟨b, off, none⟩) (k + 1) w6) := by
                obtain ⟨d1, d2, b1, b2', b3, b4⟩ := HBB.out
                have hN := HNN.out
                have hlF := HRW.out.heap.lt
                have hs5 := HO5.out.size
                have ne : ∀ {a : Nat} {o : Obj}, Bx wr F' a o → o ≠ .cells #[.slice oa8 fn oc8, .int .i64 nl] 44 (0, 0) → a ≠ rb := fun h hn e => by
                  subst e
                  have := h.2
                  rw [b3.2] at this
                  exact hn (Option.some.inj this).symm
                have go5 : ∀ {a : Nat} {o : Obj}, Bx wr F' a o → a ≠ rb → (∀ q, (Value.slice oa8 fn oc8).ownBlock = some q → q ≠ a) → Bx w6 (grow F' w5 w6) a o := fun {a o} h hn hq =>
                  Bx.op (W := w5) ⟨h.1, (HO5.out.block _ (block_lt h.2) (fun e => e.elim (fun e => hq _ e rfl) hn)).trans h.2⟩ HO6.out
                have ng : ∀ k, k < w5.heap.size → ¬ F' k → ¬ grow F' w5 w6 k := fun k hk hn hg => hg.elim hn (fun hg => by have := hg.1; omega)
                obtain ⟨es, ck, hmb, -⟩ := id HMM.out.2
                have hmr : mb ≠ rb := fun e => by
                  rw [e, b3.2] at hmb
                  cases hmb
                have hmq : ∀ q, (Value.slice oa8 fn oc8).ownBlock = some q → q ≠ mb := fun q hq => (hN q hq).2.2.2.2.2.2.2.1
                have hcq : ∀ q, (Value.slice oa8 fn oc8).ownBlock = some q → q ≠ b := fun q hq => (hN q hq).2.2.2.2.2.2.2.2 b off rfl
                have hbl : b < wr.heap.size := World.block_lt_of_cell? wr _ hc
                have hF5 : ∀ k, (Value.slice oa9 (fn + 1) oc9).ownBlock = some k → ¬ F' k ∧ k < w5.heap.size := fun k hk => by
                  refine ⟨?_, (HV5.out.lt k hk).2⟩
                  rcases HB4.out with h | h
                  · exact (hN k (h ▸ hk)).1
                  · rw [h] at hk; cases hk; exact fun hf => by have := hlF _ hf; omega
                have hcr : b ≠ rb := (HSS.out.2 b off rfl).2
                refine ⟨_, S9, fr ++ [(q : Int)], .slice oa9 (fn + 1) oc9, HRN6.out, HJJ.out.2, by rw [List.length_append, ← HFN.out]; simp; omega, go5 d1 (ne d1 (by simp)) (fun q hq => (hN q hq).2.1), go5 d2 (ne d2 (by simp)) (fun q hq => (hN q hq).2.2.1), go5 b1 (ne b1 (by simp)) (fun q hq => (hN q hq).2.2.2.1), go5 b2' HDZ.out.2.2.2.2.symm (fun q hq => (hN q hq).2.2.2.2.1),
                  Bx.op (W := w5) ⟨b3.1, HR5.out⟩ HO6.out, go5 b4 (ne b4 (by simp)) (fun q hq => (hN q hq).2.2.2.2.2.2.1), ng mb (by have := block_lt hmb; omega) HMM.out.1, ?_, ?_, fun b' o' e => by cases e; exact ⟨ng b (by omega) (HSS.out.2 b off rfl).1, hcr⟩, ?_, fun k hk => ?_⟩
                · exact HMM.out.2.kept ((HO6.out.block mb (by have := block_lt hmb; omega) HMM.out.1).trans (HO5.out.block mb (block_lt hmb) (fun e => e.elim (fun e => hmq _ e rfl) hmr)))
                · exact (HSS.out.1.only HO5.out (fun _ b' o' e hU => by cases e; exact hU.elim (fun e => hcq _ e rfl) hcr)).only HO6.out (fun _ b' o' e hf => by cases e; exact (HSS.out.2 b off rfl).1 hf)
                · exact ownsRow_kept HV5.out (fun k hk => HO6.out.block k (hF5 k hk).2 (hF5 k hk).1)
                · have h5 := hF5 k hk
                  refine ⟨ng k h5.2 h5.1, ?_⟩
                  rcases HB4.out with h | h
                  · have := hN k (h ▸ hk)
                    exact this.2
                  · rw [h] at hk
                    cases hk
                    have e1 := block_lt d1.2
                    have e2 := block_lt d2.2
                    have e3 := block_lt b1.2
                    have e4 := block_lt b2'.2
                    have e5 := block_lt b3.2
                    have e6 := block_lt b4.2
                    have e7 := block_lt hmb
                    exact ⟨by omega, by omega, by omega, by omega, by omega, by omega, by omega, fun b' o' e => by cases e; omega⟩
              clear h6 hbr HB4 HV5 HR5 HO5 HRN5 HRN6 HO6
              go_wp2
              go_roundw
              case rel => exact ⟨k + 1, by omega, by go_num, HNXT.out⟩
              case measure => simp [intOf]; omega
        · have hi : ¬ ((k : Int) < (zl : Int)) := by omega
          have hkz : k = zl := by omega
          obtain ⟨F', S', fr, v, h1, h2, hfl, d1, d2, b1, b2', b3, -, -, -, -, -, h7, h8⟩ := HR.out
          rw [hkz, HZL.out] at h2
          obtain ⟨je1, je2, je3⟩ := HJE.out S' fr h2
          have hzl : zl ≤ 100000 := by rw [HZL.out]; exact HSP.out.l
          obtain ⟨fn, hfn⟩ : ∃ fn, fn = fr.length := ⟨_, rfl⟩
          have HV' : Hid (wr.ownsRow w.heap.size 3 1 v fn (ints fr)) := by rw [hfn]; exact h7
          rw [← hfn] at hfl
          have HFN := Lib.hid hfn
          obtain ⟨oa8, oc8, rfl, -, -, -⟩ := ownsRow_seq HV'.out
          have r0 := (cells_of_block b3.2 0).1
          simp at r0
          have HSO := Lib.hid (sort_own w.heap.size _ fr wr h7 (by rw [← hfn]; omega))
          have HJX := Lib.hid h2
          have HJA := Lib.hid (And.intro je1 (And.intro je2 je3))
          have HRW := Lib.hid h1
          have HBB := Lib.hid (And.intro d1 (And.intro d2 (And.intro b1 (And.intro b2' b3))))
          have HNN := Lib.hid h8
          clear h1 h2 je1 je2 je3 d1 d2 b1 b2' b3 h7 h8 hfn hkz
          go_wp2_with fail
          refine HSO.out.mono ?_
          rintro e wa ⟨rfl, hso, hgr⟩
          have hoa : Only (fun k => (Value.slice oa8 fn oc8).ownBlock = some k) wr wa := (Only.refl _ wr).grown hgr (fun k hk => Or.inl hk)
          have HRA2 := Lib.hid (HRW.out.asideU (fun k hk => ⟨(HV'.out.lt k hk).1, (HNN.out k hk).1⟩) hoa)
          have goA : ∀ {a : Nat} {o : Obj}, Bx wr F' a o → (∀ q, (Value.slice oa8 fn oc8).ownBlock = some q → q ≠ a) → Bx wa F' a o := fun {a o} h hq => ⟨h.1, (hoa.block _ (block_lt h.2) (fun e => hq _ e rfl)).trans h.2⟩
          have HBA := Lib.hid (And.intro (goA HBB.out.1 (fun q hq => (HNN.out q hq).2.1)) (And.intro (goA HBB.out.2.1 (fun q hq => (HNN.out q hq).2.2.1)) (And.intro (goA HBB.out.2.2.1 (fun q hq => (HNN.out q hq).2.2.2.1)) (And.intro (goA HBB.out.2.2.2.1 (fun q hq => (HNN.out q hq).2.2.2.2.1)) (goA HBB.out.2.2.2.2 (fun q hq => (HNN.out q hq).2.2.2.2.2.1))))))
          clear hso hgr hoa goA r0 HSO HBB HRW HR
          obtain ⟨e0, e1, e2, e3⟩ := HE1.out _ _ _ HJA.out.1 HRA2.out.heap
          have x0 := (cells_of_block HBA.out.2.2.1.2 0).1
          simp at x0
          go_wp2_with fail
          refine (HRA2.out.heap.join HJA.out.1 HJA.out.2.1 HJA.out.2.2).mono ?_
          rintro e wb ⟨rfl, hob, hah, hfin⟩
          have HFIN := Lib.hid hfin
          have HOB := Lib.hid hob
          have HVB : Hid (wb.heap[A.h]? = some (.cells #[.pointer (some ⟨A.c, 0, none⟩), .int .i64 1, .pointer (some ⟨A.u2, 0, none⟩), .pointer (some ⟨A.gl, 0, none⟩)] 31 (0, 0))) := by
            have := HRA2.out.heap.ev.1
            rw [HJA.out.1] at this
            exact hah.trans this
          have HAF : Hid (F' A.h) := HRA2.out.heap.ev.2
          have HXW : Hid (wb.heap[bx]? = some (.cells #[.pointer (some ⟨A.h, 0, none⟩)] 22 (0, 0)) ∧ bx ≠ A.h) := ⟨(hob.block _ (block_lt HBA.out.2.2.1.2) HBA.out.2.2.1.1).trans HBA.out.2.2.1.2, fun e => HBA.out.2.2.1.1 (by rw [e]; exact HAF.out)⟩
          clear hfin hob hah e0 e1 e2 e3 x0
          go_wp2_with fail
          have HDX : Hid (∀ W, Only (fun k => k = A.h) wb W → W.cell? ⟨bx, 0, none⟩ = some (.pointer (some ⟨A.h, 0, none⟩))) := fun W ho => by
            have h1 := (ho.block bx (block_lt HXW.out.1) HXW.out.2).trans HXW.out.1
            exact (cells_of_block h1 0).1
          refine wp_region_held_drew (S := Only (fun k => k = A.h) wb) (by kernel_rfl) (Only.refl _ wb).drew (fun hH => ?_)
          have HVB0 : Hid (wb.drew.heap[A.h]? = some (.cells #[.pointer (some ⟨A.c, 0, none⟩), .int .i64 1, .pointer (some ⟨A.u2, 0, none⟩), .pointer (some ⟨A.gl, 0, none⟩)] 31 (0, 0))) := HVB.out
          refine tk 0 (v := ?_) rfl ?_ ?_; rotate_left; · intro W hW; have d0 := HDX.out W hW; go_simp; try with_reducible rfl
          try simp only [Act.put, List.setIfInBounds_toArray, List.set_cons_zero, List.set_cons_succ]
          refine tk 1 (v := ?_) rfl ?_ ?_; rotate_left; · intro W hW; have d0 := HDX.out W hW; go_simp; try with_reducible rfl
          try simp only [Act.put, List.setIfInBounds_toArray, List.set_cons_zero, List.set_cons_succ]
          refine tk 2 (v := ?_) rfl ?_ ?_; rotate_left; · intro W hW; have d0 := HDX.out W hW; go_simp; try with_reducible rfl
          try simp only [Act.put, List.setIfInBounds_toArray, List.set_cons_zero, List.set_cons_succ]
          refine tk 3 (v := ?_) rfl ?_ ?_; rotate_left; · intro W hW; have d0 := HDX.out W hW; go_simp; try with_reducible rfl
          try simp only [Act.put, List.setIfInBounds_toArray, List.set_cons_zero, List.set_cons_succ]
          refine tk 4 (v := ?_) rfl ?_ ?_; rotate_left; · intro W hW; have d0 := HDX.out W hW; go_simp; try with_reducible rfl
          try simp only [Act.put, List.setIfInBounds_toArray, List.set_cons_zero, List.set_cons_succ]
          have wc0s : Hid (wb.drew.heap.size = wb.heap.size) := rfl
          have HOC0 : Hid (Only (fun k => k = A.h) wb wb.drew) := (Only.refl _ wb).drew
          generalize wb.drew = wc0 at *
          refine rd 5 rfl (fun K hK => ?_)
          have v0 := cells_of_block HVB0.out 0
          have v1 := cells_of_block HVB0.out 1
          have v2 := cells_of_block HVB0.out 2
          have v3 := cells_of_block HVB0.out 3
          simp at v0 v1 v2 v3
          obtain ⟨v0, f0⟩ := v0
          obtain ⟨v1, f1⟩ := v1
          obtain ⟨v2, f2⟩ := v2
          obtain ⟨v3, f3⟩ := v3
          go_simp
          have HOC1' : Only (fun k => k = A.h) wb (wc0.setCell ⟨A.h, 1, none⟩ (.int .i64 0)) := HOC0.out.setCell (p := ⟨A.h, 1, none⟩) (Or.inl rfl) _
          refine hK.out _ _ HOC1' (fun hH => ?_)
          clear hK K v0 v1 v2 v3 f0 f1 f2 f3
          have HVB1 : Hid ((wc0.setCell ⟨A.h, 1, none⟩ (.int .i64 0)).heap[A.h]? = some (.cells #[.pointer (some ⟨A.c, 0, none⟩), .int .i64 0, .pointer (some ⟨A.u2, 0, none⟩), .pointer (some ⟨A.gl, 0, none⟩)] 31 (0, 0))) := by
            show _ = _
            simpa using block_setCell HVB0.out 1 (.int .i64 0)
          have HOC1 := Lib.hid HOC1'
          have wc1s : Hid ((wc0.setCell ⟨A.h, 1, none⟩ (.int .i64 0)).heap.size = wb.heap.size) := by
            show _ = _
            simp [wc0s.out]
          clear HOC1'
          generalize wc0.setCell ⟨A.h, 1, none⟩ (.int .i64 0) = wc1 at *
          refine tk 6 (v := ?_) rfl ?_ ?_; rotate_left; · intro W hW; go_simp; try with_reducible rfl
          try simp only [Act.put, List.setIfInBounds_toArray, List.set_cons_zero, List.set_cons_succ]
          refine tk 7 (v := ?_) rfl ?_ ?_; rotate_left; · intro W hW; go_simp; try with_reducible rfl
          try simp only [Act.put, List.setIfInBounds_toArray, List.set_cons_zero, List.set_cons_succ]
          refine rd 8 rfl (fun K hK => ?_)
          have v0 := cells_of_block HVB1.out 0
          have v1 := cells_of_block HVB1.out 1
          have v2 := cells_of_block HVB1.out 2
          have v3 := cells_of_block HVB1.out 3
          simp at v0 v1 v2 v3
          obtain ⟨v0, f0⟩ := v0
          obtain ⟨v1, f1⟩ := v1
          obtain ⟨v2, f2⟩ := v2
          obtain ⟨v3, f3⟩ := v3
          go_simp
          have HOC2' : Only (fun k => k = A.h) wb (wc1.setCell ⟨A.h, 2, none⟩ (.pointer none)) := HOC1.out.setCell (p := ⟨A.h, 2, none⟩) (Or.inl rfl) _
          refine hK.out _ _ HOC2' (fun hH => ?_)
          clear hK K v0 v1 v2 v3 f0 f1 f2 f3
          have HVB2 : Hid ((wc1.setCell ⟨A.h, 2, none⟩ (.pointer none)).heap[A.h]? = some (.cells #[.pointer (some ⟨A.c, 0, none⟩), .int .i64 0, .pointer none, .pointer (some ⟨A.gl, 0, none⟩)] 31 (0, 0))) := by
            show _ = _
            simpa using block_setCell HVB1.out 2 (.pointer none)
          have HOC2 := Lib.hid HOC2'
          have wc2s : Hid ((wc1.setCell ⟨A.h, 2, none⟩ (.pointer none)).heap.size = wb.heap.size) := by
            show _ = _
            simp [wc1s.out]
          clear HOC2'
          generalize wc1.setCell ⟨A.h, 2, none⟩ (.pointer none) = wc2 at *
          refine tk 9 (v := ?_) rfl ?_ ?_; rotate_left; · intro W hW; go_simp; try with_reducible rfl
          try simp only [Act.put, List.setIfInBounds_toArray, List.set_cons_zero, List.set_cons_succ]
          refine tk 10 (v := ?_) rfl ?_ ?_; rotate_left; · intro W hW; go_simp; try with_reducible rfl
          try simp only [Act.put, List.setIfInBounds_toArray, List.set_cons_zero, List.set_cons_succ]
          refine rd 11 rfl (fun K hK => ?_)
          have v0 := cells_of_block HVB2.out 0
          have v1 := cells_of_block HVB2.out 1
          have v2 := cells_of_block HVB2.out 2
          have v3 := cells_of_block HVB2.out 3
          simp at v0 v1 v2 v3
          obtain ⟨v0, f0⟩ := v0
          obtain ⟨v1, f1⟩ := v1
          obtain ⟨v2, f2⟩ := v2
          obtain ⟨v3, f3⟩ := v3
          go_simp
          have HOC3' : Only (fun k => k = A.h) wb (wc2.setCell ⟨A.h, 3, none⟩ (.pointer none)) := HOC2.out.setCell (p := ⟨A.h, 3, none⟩) (Or.inl rfl) _
          refine hK.out _ _ HOC3' (fun hH => ?_)
          clear hK K v0 v1 v2 v3 f0 f1 f2 f3
          have HVB3 : Hid ((wc2.setCell ⟨A.h, 3, none⟩ (.pointer none)).heap[A.h]? = some (.cells #[.pointer (some ⟨A.c, 0, none⟩), .int .i64 0, .pointer none, .pointer none] 31 (0, 0))) := by
            show _ = _
            simpa using block_setCell HVB2.out 3 (.pointer none)
          have HOC3 := Lib.hid HOC3'
          have wc3s : Hid ((wc2.setCell ⟨A.h, 3, none⟩ (.pointer none)).heap.size = wb.heap.size) := by
            show _ = _
            simp [wc2s.out]
          clear HOC3'
          generalize wc2.setCell ⟨A.h, 3, none⟩ (.pointer none) = wc3 at *
          refine wpAnyH_done (by kernel_rfl) ?_ _
          have HHC := Lib.hid (HFIN.out wc3 HOC3.out wc3s.out HVB3.out)
          have HRC := Lib.hid (HRA2.out.op HHC.out)
          have goC : ∀ {a : Nat} {o : Obj}, Bx wa F' a o → Bx wc3 (grow F' wa wc3) a o := fun h => h.op HHC.out.2
          have HD1C := Lib.hid (goC HBA.out.1)
          have HD2C := Lib.hid (goC HBA.out.2.1)
          have HZC3 := Lib.hid (goC HBA.out.2.2.2.1)
          have HRC3 := Lib.hid (goC HBA.out.2.2.2.2)
          clear goC HHC HFIN HOC0 HOC1 HOC2 HOC3 HVB0 HVB1 HVB2 HVB3 HVB wc0s wc1s wc2s wc3s
          have HZB := Lib.hid HZC3.out.2
          have HRB2 := Lib.hid HRC3.out.2
          have z0 := cells_of_block HZB.out 0
          have z1 := cells_of_block HZB.out 1
          simp at z0 z1
          obtain ⟨z0, g0⟩ := z0
          obtain ⟨z1, g1⟩ := z1
          have r0 := (cells_of_block HRB2.out 0).1
          have r1 := (cells_of_block HRB2.out 1).1
          simp at r0 r1
          go_wp2_with fail
          have hbk : ((wc3.setCell ⟨zb, 0, none⟩ (.slice oa8 fn oc8)).setCell ⟨zb, 1, none⟩ (.int .i64 nl)).heap[zb]? = some (.cells #[.slice oa8 fn oc8, .int .i64 nl] 44 (0, 0)) := by
            simpa using block_setCell (block_setCell HZB.out 0 (.slice oa8 fn oc8)) 1 (.int .i64 nl)
          have hrn := (HRC.out.loc (j := 0) (v := .slice oa8 fn oc8) HZW.out HZC3.out.1).loc (j := 1) (v := .int .i64 nl) HZW.out HZC3.out.1
          have n2 : wf.heap.size ≠ zb := fun e => by
            have h1 := HD2C.out.2
            rw [e, HZB.out] at h1
            cases h1
          have n1 : w7.heap.size ≠ zb := fun e => by
            have h1 := HD1C.out.2
            rw [e, HZB.out] at h1
            cases h1
          have n12 : w7.heap.size ≠ wf.heap.size := by
            obtain ⟨-, m1, -, -, -, -, -, -, -, m2⟩ := HNF.out
            omega
          have hk2 : ((wc3.setCell ⟨zb, 0, none⟩ (.slice oa8 fn oc8)).setCell ⟨zb, 1, none⟩ (.int .i64 nl)).heap[wf.heap.size]? = some (.deferred (some [])) := (Below.heap_setCell _ _ _ _ n2).trans ((Below.heap_setCell _ _ _ _ n2).trans HD2C.out.2)
          have hk1 : ((wc3.setCell ⟨zb, 0, none⟩ (.slice oa8 fn oc8)).setCell ⟨zb, 1, none⟩ (.int .i64 nl)).heap[w7.heap.size]? = some (.deferred (some [])) := (Below.heap_setCell _ _ _ _ n1).trans ((Below.heap_setCell _ _ _ _ n1).trans HD1C.out.2)
          generalize (wc3.setCell ⟨zb, 0, none⟩ (.slice oa8 fn oc8)).setCell ⟨zb, 1, none⟩ (.int .i64 nl) = we at *
          have hk1' : (we.putObj wf.heap.size (.deferred none)).heap[w7.heap.size]? = some (.deferred (some [])) := (World.putObj_heap_other n12).trans hk1
          have hbk2 : ((we.putObj wf.heap.size (.deferred none)).putObj w7.heap.size (.deferred none)).heap[zb]? = some (.cells #[.slice oa8 fn oc8, .int .i64 nl] 44 (0, 0)) := (World.putObj_heap_other n1.symm).trans ((World.putObj_heap_other n2.symm).trans hbk)
          have hrf := (hrn.putObj (o := .deferred none) HNF.out.2.2.1 HD2C.out.1).putObj (o := .deferred none) HLW.out HD1C.out.1
          refine ⟨by simp, .inl ⟨_, _, rfl, run_takeDeferred hk2, by simp, .inl ⟨_, _, rfl, run_takeDeferred hk1', ?_⟩⟩⟩
          refine ⟨_, results_blk rfl _ _ zb _ _ _ _ rfl hbk2 Tryz.underlying44 rfl rfl, .slice oa8 fn oc8, fr, S', ?_, ⟨oa8, oc8, by rw [HFN.out]⟩, by rw [← HS1.out]; exact HJX.out, hrf.fin HLT.out⟩
          rw [← HNL.out]
          rfl
end Go.Proofs.YtcdpnfchmpncjaaGreatDoor
