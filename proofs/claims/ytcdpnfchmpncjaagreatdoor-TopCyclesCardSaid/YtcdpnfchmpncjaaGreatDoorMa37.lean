/-
  Parts of the proof, one behind the other: KGood.
-/
import Derived.Test.YtcdpnfchmpncjaaGreatDoorMa36
set_option linter.unusedSimpArgs false
set_option linter.unusedVariables false
namespace Go.Tr
theorem nodup_sub {α : Type} [BEq α] [LawfulBEq α] : ∀ {l m : List α}, l.Nodup → (∀ x ∈ l, x ∈ m) → l.length ≤ m.length
  | [], _, _, _ => by simp
  | x :: l, m, hn, hs => by
    obtain ⟨h1, h2⟩ := List.nodup_cons.1 hn
    have hx : x ∈ m := hs x (List.mem_cons_self ..)
    have hne : ∀ y ∈ l, y ≠ x := fun y hy e => h1 (e ▸ hy)
    have := nodup_sub (m := m.erase x) h2 (fun y hy => (List.mem_erase_of_ne (hne y hy)).2 (hs y (List.mem_cons_of_mem _ hy)))
    rw [List.length_erase_of_mem hx] at this
    have := List.length_pos_of_mem hx
    simp only [List.length_cons]
    omega
def PApart (p q : Nat × Nat) : Prop := p.1 + p.2 ≤ q.1 ∨ q.1 + q.2 ≤ p.1
theorem PApart.symm {p q : Nat × Nat} (h : PApart p q) : PApart q p := Or.symm h
theorem pairwise_mem {α : Type} {R : α → α → Prop} (hs : ∀ x y, R x y → R y x) : ∀ {l : List α}, l.Pairwise R → ∀ x ∈ l, ∀ y ∈ l, x ≠ y → R x y
  | [], _, x, hx, _, _, _ => by cases hx
  | a :: l, h, x, hx, y, hy, hn => by
    obtain ⟨h1, h2⟩ := List.pairwise_cons.1 h
    rcases List.mem_cons.1 hx with e | k <;> rcases List.mem_cons.1 hy with e' | k'
    · exact absurd (e.trans e'.symm) hn
    · rw [e]; exact h1 y k'
    · rw [e']; exact hs _ _ (h1 x k)
    · exact pairwise_mem hs h2 x k y k' hn
theorem mem_chunksL {ps : List (Nat × Nat)} {c : Int} : c ∈ chunksL ps ↔ ∃ p ∈ ps, ∃ k : Nat, c = (k : Int) ∧ p.1 ≤ k ∧ k < p.1 + p.2 := by
  unfold chunksL runL
  rw [List.mem_flatMap]
  refine exists_congr fun p => and_congr_right fun _ => ?_
  rw [List.mem_map]
  constructor
  · rintro ⟨j, hj, rfl⟩
    exact ⟨p.1 + j, rfl, by omega, by have := List.mem_range.1 hj; omega⟩
  · rintro ⟨k, rfl, h1, h2⟩
    exact ⟨k - p.1, List.mem_range.2 (by omega), by congr 1; omega⟩
theorem chunksL_nodup {ps : List (Nat × Nat)} (h : ps.Pairwise PApart) : (chunksL ps).Nodup := by
  unfold chunksL
  refine List.pairwise_flatMap.2 ⟨fun p _ => ?_, h.imp ?_⟩
  · unfold runL
    rw [List.pairwise_map]
    exact List.nodup_range.imp (fun h e => h (by omega))
  · intro p q hpq x hx y hy e
    unfold runL at hx hy
    obtain ⟨i, hi, rfl⟩ := List.mem_map.1 hx
    obtain ⟨j, hj, rfl⟩ := List.mem_map.1 hy
    have := List.mem_range.1 hi
    have := List.mem_range.1 hj
    rcases hpq with h | h <;> omega
theorem chunksL_len_le {ps : List (Nat × Nat)} {C : Nat} (h : ps.Pairwise PApart) (hC : ∀ p ∈ ps, p.1 + p.2 ≤ C) : (chunksL ps).length ≤ C := by
  have := nodup_sub (m := (List.range C).map fun i : Nat => (i : Int)) (chunksL_nodup h) (fun c hc => by
    obtain ⟨p, hp, k, rfl, h1, h2⟩ := mem_chunksL.1 hc
    exact List.mem_map.2 ⟨k, List.mem_range.2 (by have := hC p hp; omega), rfl⟩)
  simpa using this
theorem parts_len_le : ∀ {ps : List (Nat × Nat)}, (∀ p ∈ ps, 1 ≤ p.2) → ps.length ≤ (chunksL ps).length
  | [], _ => by simp
  | p :: ps, h => by
    have := parts_len_le (fun q hq => h q (List.mem_cons_of_mem _ hq))
    have h1 := h p (List.mem_cons_self ..)
    unfold chunksL at this ⊢
    rw [List.flatMap_cons, List.length_append, runL_length, List.length_cons]
    omega
theorem chunk_free {ps : List (Nat × Nat)} {C : Nat} (h : (chunksL ps).length < C) : ∃ c, c < C ∧ ∀ p ∈ ps, ¬ (p.1 ≤ c ∧ c < p.1 + p.2) := by
  refine Classical.byContradiction fun hn => ?_
  have := nodup_sub (l := (List.range C).map fun i : Nat => (i : Int)) (m := chunksL ps) (by
    show List.Pairwise _ _
    rw [List.pairwise_map]
    exact List.nodup_range.imp (fun h e => h (by omega))) (fun c hc => by
    obtain ⟨k, hk, rfl⟩ := List.mem_map.1 hc
    refine Classical.byContradiction fun hm => hn ⟨k, List.mem_range.1 hk, fun p hp hb => hm (mem_chunksL.2 ⟨p, hp, k, rfl, hb.1, hb.2⟩)⟩)
  simp at this
  omega
theorem in_part {Wd p m a n c : Nat} (hW : 1 ≤ Wd) (h1 : p * Wd ≤ a) (h2 : a + n ≤ (p + m) * Wd) (hn : 1 ≤ n) (hc1 : a / Wd ≤ c) (hc2 : c ≤ (a + n - 1) / Wd) : p ≤ c ∧ c < p + m := by
  have e1 : p ≤ a / Wd := (Nat.le_div_iff_mul_le hW).2 h1
  have e2 : (a + n - 1) / Wd < p + m := (Nat.div_lt_iff_lt_mul hW).2 (by omega)
  omega
def InPart (Wd : Nat) (ps : List (Nat × Nat)) (ad n : Nat) : Prop := ∃ p ∈ ps, p.1 * Wd ≤ ad ∧ ad + n ≤ (p.1 + p.2) * Wd ∧ (p.2 = 1 ∨ ad = p.1 * Wd)
theorem InPart.mono {Wd ad n : Nat} {ps qs : List (Nat × Nat)} (h : InPart Wd ps ad n) (hs : ∀ p ∈ ps, p ∈ qs) : InPart Wd qs ad n := by
  obtain ⟨p, hp, h1⟩ := h; exact ⟨p, hs p hp, h1⟩
theorem words_apart {Wd : Nat} {p q : Nat × Nat} {a n b m : Nat} (h : PApart p q) (h1 : p.1 * Wd ≤ a) (h2 : a + n ≤ (p.1 + p.2) * Wd) (h3 : q.1 * Wd ≤ b) (h4 : b + m ≤ (q.1 + q.2) * Wd) : a + n ≤ b ∨ b + m ≤ a := by
  rcases h with h | h
  · have := Nat.mul_le_mul_right Wd h; omega
  · have := Nat.mul_le_mul_right Wd h; omega
end Go.Tr
namespace Go.Proofs.YtcdpnfchmpncjaaGreatDoor
open Go.RowKit Go.Tr Go.Shelf
def HS.all (S : HS) : List (Nat × Nat) := if S.on = true then S.ps ++ S.ps2 else S.ps
def ObjIn (S : HS) (cnt : Nat → Nat) (i ad n : Nat) : Prop := ∃ x, S.sl[i]? = some x ∧ x.used = true ∧ x.addr = ad ∧ n = S.L.size (cnt i) + 1
def AtOk (S : HS) (cnt : Nat → Nat) (ps : List (Nat × Nat)) (a en : Nat) : Prop :=
  a ≤ en ∧ en ≤ S.C * S.Wd ∧ (a < en → (∃ c, (c, 1) ∈ ps ∧ en = (c + 1) * S.Wd ∧ c * S.Wd ≤ a) ∧ ∀ i ad n, ObjIn S cnt i ad n → ad + n ≤ a ∨ en ≤ ad)
structure EntOk (S : HS) (cnt : Nat → Nat) (i : Nat) (x : Sl) : Prop where
  reg : x.region = 1
  pin : x.pinned = false
  cn : cnt i ≤ 1024
  slot : i < 4096
  gen : 1 ≤ x.gen ∧ x.gen ≤ 255
  rc : cnt i = 0 ∨ S.L.record ≠ 0
  size : S.L.size (cnt i) < 8192
  hdr : S.ws.getD x.addr 0 = hdrN i (cnt i) 1
  ap : InPart S.Wd S.all x.addr (S.L.size (cnt i) + 1)
structure Good (S : HS) (cnt : Nat → Nat) : Prop where
  cb : 1 ≤ S.C ∧ S.C ≤ 1024
  wd : 1 ≤ S.Wd ∧ S.Wd ≤ 1024
  right : RightLay S.L
  wl : S.ws.length = S.C * S.Wd
  ol : S.own.length = S.C
  ent : ∀ i x, S.sl[i]? = some x → x.used = true → EntOk S cnt i x
  apart : ∀ i j a n b m, i ≠ j → ObjIn S cnt i a n → ObjIn S cnt j b m → a + n ≤ b ∨ b + m ≤ a
  rise : S.mine.Pairwise (· < ·)
  mine : ∀ z : Int, z ∈ S.mine ↔ ∃ i x, z = (i : Nat) ∧ S.sl[i]? = some x ∧ x.used = true
  parts : ∀ p ∈ S.all, 1 ≤ p.2 ∧ p.1 + p.2 ≤ S.C ∧ ∀ c, p.1 ≤ c → c < p.1 + p.2 → S.own.getD c 0 = 1
  pap : S.all.Pairwise PApart
  own : ∀ c, S.own.getD c 0 ≠ 0 → ∃ p ∈ S.all, p.1 ≤ c ∧ c < p.1 + p.2
  at1 : AtOk S cnt S.ps S.a S.en
  at2 : S.on = true → AtOk S cnt S.ps2 S.a2 S.en2
def Cont (S : HS) (cnt : Nat → Nat) (ct : Nat → Nat → Nat) : Prop := ∀ i x, S.sl[i]? = some x → x.used = true → ∀ p, p < S.L.size (cnt i) → S.ws.getD (x.addr + 1 + p) 0 = ct i p
variable {S S1 : HS} {cnt : Nat → Nat} {ct : Nat → Nat → Nat}
theorem Good.words_le (h : Good S cnt) : S.C * S.Wd ≤ 1048576 := Nat.le_trans (Nat.mul_le_mul h.cb.2 h.wd.2) (by decide)
theorem Good.in_le (h : Good S cnt) {ad n : Nat} (hp : InPart S.Wd S.all ad n) : ad + n ≤ S.C * S.Wd := by
  obtain ⟨p, hp, h1, h2, -⟩ := hp
  exact Nat.le_trans h2 (Nat.mul_le_mul_right _ (h.parts p hp).2.1)
theorem Good.in_owned (h : Good S cnt) {ad n : Nat} (hp : InPart S.Wd S.all ad n) (hn : 1 ≤ n) : Owned S.own S.Wd ad n := fun c h1 h2 => by
  obtain ⟨p, hp, e1, e2, -⟩ := hp
  obtain ⟨k1, k2⟩ := in_part h.wd.1 e1 e2 hn h1 h2
  rw [(h.parts p hp).2.2 c k1 k2]
  decide
theorem Good.objOk (h : Good S cnt) {i : Nat} {x : Sl} (hx : S.sl[i]? = some x) (hu : x.used = true) : ObjOk S i x (cnt i) := by
  have e := h.ent i x hx hu
  have h1 := h.in_le e.ap
  have h2 := h.in_owned e.ap (by omega)
  have h3 := h.words_le
  exact ⟨hx, hu, ⟨by omega, h2 _ (Nat.le_refl _) (Nat.div_le_div_right (by omega)), e.hdr, e.cn, e.slot, e.rc, e.size⟩, by omega, by omega, h2⟩
theorem ps_sub (S : HS) : ∀ p ∈ S.ps, p ∈ S.all := fun p hp => by unfold HS.all; split; exact List.mem_append_left _ hp; exact hp
theorem ps2_sub {S : HS} (hon : S.on = true) : ∀ p ∈ S.ps2, p ∈ S.all := fun p hp => by unfold HS.all; rw [if_pos hon]; exact List.mem_append_right _ hp
theorem Good.pap1 (h : Good S cnt) : S.ps.Pairwise PApart := by
  have := h.pap
  unfold HS.all at this
  split at this
  · exact (List.pairwise_append.1 this).1
  · exact this
theorem Good.all_len (h : Good S cnt) : S.all.length ≤ 1024 ∧ (chunksL S.all).length ≤ S.C := by
  have h1 := chunksL_len_le h.pap (fun p hp => (h.parts p hp).2.1)
  have h2 := parts_len_le (fun p hp => (h.parts p hp).1)
  have h3 := h.cb.2
  exact ⟨by omega, h1⟩
theorem Good.spOk (h : Good S cnt) : SpOk S.ps := by
  have h1 := chunksL_len_le h.pap1 (fun p hp => (h.parts p (ps_sub S p hp)).2.1)
  have h2 := parts_len_le (fun p hp => (h.parts p (ps_sub S p hp)).1)
  have h3 := h.cb.2
  exact ⟨by omega, by omega, fun p hp => by have := (h.parts p (ps_sub S p hp)).2.1; omega⟩
theorem Good.ps_len (h : Good S cnt) : S.ps.length ≤ 1024 := by
  have := h.all_len.1
  unfold HS.all at this
  split at this
  · rw [List.length_append] at this; omega
  · exact this
theorem Good.mine_len (h : Good S cnt) : S.mine.length ≤ 4096 := by
  have := nodup_sub (m := (List.range 4096).map fun i : Nat => (i : Int)) (h.rise.imp (fun h e => by omega) : S.mine.Nodup) (fun z hz => by
    obtain ⟨i, x, rfl, hx, hu⟩ := (h.mine z).1 hz
    exact List.mem_map.2 ⟨i, List.mem_range.2 (h.ent i x hx hu).slot, rfl⟩)
  simpa using this
structure NewAt (S : HS) (cnt : Nat → Nat) (ad n : Nat) : Prop where
  ap : InPart S.Wd S.all ad n
  apart : ∀ i a m, ObjIn S cnt i a m → a + m ≤ ad ∨ ad + n ≤ a
  at1 : S.a < S.en → ad + n ≤ S.a ∨ S.en ≤ ad
  at2 : S.on = true → S.a2 < S.en2 → ad + n ≤ S.a2 ∨ S.en2 ≤ ad
theorem _root_.Go.Tr.putAt_out {ws ys : List Nat} {o j : Nat} (h : j < o ∨ o + ys.length ≤ j) : (putAt ws o ys).getD j 0 = ws.getD j 0 := by rw [putAt_get, if_neg (by omega)]
theorem _root_.Go.Tr.putAt_in {ws ys : List Nat} {o j : Nat} (h1 : o ≤ j) (h2 : j < o + ys.length) (h3 : o + ys.length ≤ ws.length) : (putAt ws o ys).getD j 0 = ys.getD (j - o) 0 := by rw [putAt_get, if_pos (by omega)]
theorem replicate_getD {n v j : Nat} (h : j < n) : (List.replicate n v).getD j 0 = v := by rw [List.getD_eq_getElem?_getD, List.getElem?_replicate, if_pos h]; rfl
theorem Good.run_apart (h : Good S cnt) {c q : Nat} (hf : ∀ i, c ≤ i → i < c + (q + 1) → S.own.getD i 0 = 0) : ∀ p ∈ S.all, PApart p (c, q + 1) := fun p hp => by
  obtain ⟨h1, -, h2⟩ := h.parts p hp
  refine Classical.byContradiction fun hn => ?_
  unfold PApart at hn
  simp only [not_or, Nat.not_le] at hn
  have e1 := h2 (max p.1 c) (by omega) (by omega)
  have e2 := hf (max p.1 c) (by omega) (by omega)
  rw [e1] at e2
  cases e2
theorem Good.obj_out (h : Good S cnt) {r : Nat × Nat} (hr : ∀ p ∈ S.all, PApart p r) {i a n : Nat} (ho : ObjIn S cnt i a n) : a + n ≤ r.1 * S.Wd ∨ (r.1 + r.2) * S.Wd ≤ a := by
  obtain ⟨x, hx, hu, rfl, rfl⟩ := ho
  obtain ⟨p, hp, h1, h2, -⟩ := (h.ent i x hx hu).ap
  rcases hr p hp with h3 | h3
  · have := Nat.mul_le_mul_right S.Wd h3; omega
  · have := Nat.mul_le_mul_right S.Wd h3; omega
theorem Good.more (h : Good S cnt) {c q : Nat} (hq : c + (q + 1) ≤ S.C) (hf : ∀ i, c ≤ i → i < c + (q + 1) → S.own.getD i 0 = 0) {l : List (Nat × Nat)} (hl : List.Perm l (S.all ++ [(c, q + 1)])) :
    (∀ p ∈ l, 1 ≤ p.2 ∧ p.1 + p.2 ≤ S.C ∧ ∀ k, p.1 ≤ k → k < p.1 + p.2 → (putAt S.own c (List.replicate (q + 1) 1)).getD k 0 = 1) ∧ l.Pairwise PApart ∧
    (∀ k, (putAt S.own c (List.replicate (q + 1) 1)).getD k 0 ≠ 0 → ∃ p ∈ l, p.1 ≤ k ∧ k < p.1 + p.2) := by
  have hap := h.run_apart hf
  have hin : ∀ k, c ≤ k → k < c + (q + 1) → (putAt S.own c (List.replicate (q + 1) 1)).getD k 0 = 1 := fun k h1 h2 => by
    rw [putAt_in h1 (by rw [List.length_replicate]; exact h2) (by rw [List.length_replicate, h.ol]; exact hq), replicate_getD (by omega)]
  refine ⟨fun p hp => ?_, (hl.pairwise_iff (fun h => PApart.symm h)).2 (List.pairwise_append.2 ⟨h.pap, List.pairwise_singleton _ _, fun p hp r hr => by rw [List.mem_singleton.1 hr]; exact hap p hp⟩), fun k hk => ?_⟩
  · rcases List.mem_append.1 (hl.mem_iff.1 hp) with hp | hp
    · obtain ⟨h1, h2, h3⟩ := h.parts p hp
      refine ⟨h1, h2, fun k k1 k2 => ?_⟩
      rw [putAt_out (by have := hap p hp; unfold PApart at this; simp only [List.length_replicate]; omega)]
      exact h3 k k1 k2
    · rw [List.mem_singleton.1 hp]
      exact ⟨by simp, hq, hin⟩
  · by_cases hc : c ≤ k ∧ k < c + (q + 1)
    · exact ⟨(c, q + 1), hl.mem_iff.2 (List.mem_append_right _ (List.mem_singleton.2 rfl)), hc.1, hc.2⟩
    · rw [putAt_out (by simp only [List.length_replicate]; omega)] at hk
      obtain ⟨p, hp, h1, h2⟩ := h.own k hk
      exact ⟨p, hl.mem_iff.2 (List.mem_append_left _ hp), h1, h2⟩
theorem Good.alloc (h : Good S cnt) {n ad : Nat} (hn : 1 ≤ n) (ha : AllocSt S n ad S1) : Good S1 cnt ∧ NewAt S1 cnt ad n ∧ ∀ ct, Cont S cnt ct → Cont S1 cnt ct := by
  rcases ha with ⟨h1, rfl, rfl⟩ | ⟨h1, c, q, hq, hcq, hf, rfl, rfl⟩
  · obtain ⟨k1, k2, k3⟩ := h.at1
    obtain ⟨⟨c, hc, he, hca⟩, ho⟩ := k3 (by omega)
    have hcw : (c + 1) * S.Wd = c * S.Wd + S.Wd := Nat.succ_mul c S.Wd
    refine ⟨⟨h.cb, h.wd, h.right, h.wl, h.ol, fun i x hx hu => ?_, h.apart, h.rise, h.mine, h.parts, h.pap, h.own, ⟨h1, k2, fun hlt => ⟨⟨c, hc, he, by show c * S.Wd ≤ S.a + n; omega⟩, fun i a m hi => ?_⟩⟩, h.at2⟩, ⟨⟨(c, 1), ps_sub S _ hc, hca, by show S.a + n ≤ (c + 1) * S.Wd; omega, Or.inl rfl⟩, fun i a m hi => ?_, fun _ => Or.inl (Nat.le_refl _), fun hon hlt => ?_⟩, fun ct hct => hct⟩
    · have e := h.ent i x hx hu
      exact ⟨e.reg, e.pin, e.cn, e.slot, e.gen, e.rc, e.size, e.hdr, e.ap⟩
    · have := ho i a m hi; simp only; omega
    · have := ho i a m hi; omega
    · obtain ⟨-, -, k4⟩ := h.at2 hon
      obtain ⟨⟨c2, hc2, he2, hca2⟩, -⟩ := k4 hlt
      have hp := h.pap
      unfold HS.all at hp
      have hon' : S.on = true := hon
      rw [if_pos hon'] at hp
      have hap := (List.pairwise_append.1 hp).2.2 _ hc _ hc2
      have := words_apart (a := S.a) (n := n) (b := S.a2) (m := S.en2 - S.a2) (Wd := S.Wd) hap hca (by show S.a + n ≤ (c + 1) * S.Wd; omega) hca2 (by show _ ≤ (c2 + 1) * S.Wd; simp only at hlt; omega)
      simp only at hlt ⊢
      omega
  · have hap := h.run_apart hf
    have hwn : n ≤ (q + 1) * S.Wd := by
      have := Nat.lt_mul_div_succ (n - 1) (show 0 < S.Wd from h.wd.1)
      rw [← hq, Nat.mul_comm] at this
      omega
    have hcw : (c + (q + 1)) * S.Wd = c * S.Wd + (q + 1) * S.Wd := Nat.add_mul ..
    have hcw1 : (c + 1) * S.Wd = c * S.Wd + S.Wd := Nat.succ_mul c S.Wd
    have hcC : (c + (q + 1)) * S.Wd ≤ S.C * S.Wd := Nat.mul_le_mul_right _ hcq
    have hout : ∀ i a m, ObjIn S cnt i a m → a + m ≤ c * S.Wd ∨ (c + (q + 1)) * S.Wd ≤ a := fun i a m ho => h.obj_out hap ho
    obtain ⟨g1, g2, g3⟩ := h.more hcq hf (l := HS.all { S with ps := S.ps ++ [(c, q + 1)], a := if q = 0 then c * S.Wd + n else S.a, en := if q = 0 then (c + 1) * S.Wd else S.en, ws := putAt S.ws (c * S.Wd) (List.replicate ((q + 1) * S.Wd) 0), own := putAt S.own c (List.replicate (q + 1) 1) }) (by
      unfold HS.all
      simp only
      split
      · rw [List.append_assoc, List.append_assoc]
        exact List.Perm.append_left _ List.perm_append_comm
      · exact List.Perm.refl _)
    have hmem : ∀ p ∈ S.all, p ∈ HS.all { S with ps := S.ps ++ [(c, q + 1)], a := if q = 0 then c * S.Wd + n else S.a, en := if q = 0 then (c + 1) * S.Wd else S.en, ws := putAt S.ws (c * S.Wd) (List.replicate ((q + 1) * S.Wd) 0), own := putAt S.own c (List.replicate (q + 1) 1) } := fun p hp => by
      unfold HS.all at hp ⊢
      simp only
      split at hp
      · rename_i hon
        rw [if_pos hon]
        rcases List.mem_append.1 hp with hp | hp
        · exact List.mem_append_left _ (List.mem_append_left _ hp)
        · exact List.mem_append_right _ hp
      · rename_i hon
        rw [if_neg hon]
        exact List.mem_append_left _ hp
    have hnew : (c, q + 1) ∈ HS.all { S with ps := S.ps ++ [(c, q + 1)], a := if q = 0 then c * S.Wd + n else S.a, en := if q = 0 then (c + 1) * S.Wd else S.en, ws := putAt S.ws (c * S.Wd) (List.replicate ((q + 1) * S.Wd) 0), own := putAt S.own c (List.replicate (q + 1) 1) } := by
      unfold HS.all
      simp only
      split
      · exact List.mem_append_left _ (List.mem_append_right _ (List.mem_singleton.2 rfl))
      · exact List.mem_append_right _ (List.mem_singleton.2 rfl)
    have hws : ∀ i a m j, ObjIn S cnt i a m → a ≤ j → j < a + m → (putAt S.ws (c * S.Wd) (List.replicate ((q + 1) * S.Wd) 0)).getD j 0 = S.ws.getD j 0 := fun i a m j ho h1 h2 => putAt_out (by
      have := hout i a m ho
      simp only [List.length_replicate]
      omega)
    have hold1 : S.a < S.en → ∀ a m, c * S.Wd ≤ a → a + m ≤ (c + (q + 1)) * S.Wd → a + m ≤ S.a ∨ S.en ≤ a := fun hlt a m h1 h2 => by
      obtain ⟨⟨c1, hc1, he1, hca1⟩, -⟩ := h.at1.2.2 hlt
      have := words_apart (a := S.a) (n := S.en - S.a) (b := a) (m := m) (Wd := S.Wd) (hap _ (ps_sub S _ hc1)) hca1 (by show _ ≤ (c1 + 1) * S.Wd; omega) h1 h2
      omega
    have hold2 : S.on = true → S.a2 < S.en2 → ∀ a m, c * S.Wd ≤ a → a + m ≤ (c + (q + 1)) * S.Wd → a + m ≤ S.a2 ∨ S.en2 ≤ a := fun hon hlt a m h1 h2 => by
      obtain ⟨⟨c1, hc1, he1, hca1⟩, -⟩ := (h.at2 hon).2.2 hlt
      have := words_apart (a := S.a2) (n := S.en2 - S.a2) (b := a) (m := m) (Wd := S.Wd) (hap _ (ps2_sub hon _ hc1)) hca1 (by show _ ≤ (c1 + 1) * S.Wd; omega) h1 h2
      omega
    refine ⟨⟨h.cb, h.wd, h.right, by simp only [putAt_length]; exact h.wl, by simp only [putAt_length]; exact h.ol, fun i x hx hu => ?_, h.apart, h.rise, h.mine, g1, g2, g3, ?_, h.at2⟩, ⟨⟨(c, q + 1), hnew, Nat.le_refl _, by show c * S.Wd + n ≤ (c + (q + 1)) * S.Wd; omega, Or.inr rfl⟩, fun i a m hi => ?_, ?_, fun hon hlt => hold2 hon hlt _ _ (Nat.le_refl _) (by omega)⟩, fun ct hct i x hx hu p hp => ?_⟩
    · have e := h.ent i x hx hu
      exact ⟨e.reg, e.pin, e.cn, e.slot, e.gen, e.rc, e.size, (hws i x.addr _ x.addr ⟨x, hx, hu, rfl, rfl⟩ (Nat.le_refl _) (by omega)).trans e.hdr, e.ap.mono hmem⟩
    · unfold AtOk
      by_cases hq0 : q = 0
      · simp only [hq0, if_true, Nat.zero_add]
        subst hq0
        refine ⟨by omega, by omega, fun _ => ⟨⟨c, by simp, rfl, by omega⟩, fun i a m hi => ?_⟩⟩
        have := hout i a m hi
        omega
      · simp only [if_neg hq0]
        obtain ⟨k1, k2, k3⟩ := h.at1
        exact ⟨k1, k2, fun hlt => ⟨(k3 hlt).1.imp fun c1 h1 => ⟨List.mem_append_left _ h1.1, h1.2⟩, (k3 hlt).2⟩⟩
    · have := hout i a m hi
      omega
    · simp only
      by_cases hq0 : q = 0
      · simp only [hq0, if_true]
        exact fun _ => Or.inl (Nat.le_refl _)
      · simp only [if_neg hq0]
        exact fun hlt => hold1 hlt (c * S.Wd) n (Nat.le_refl _) (by omega)
    · have hp' : p < S.L.size (cnt i) := hp
      exact (hws i x.addr _ _ ⟨x, hx, hu, rfl, rfl⟩ (by omega) (by omega)).trans (hct i x hx hu p hp)
def HS.swap (S : HS) : HS := { S with ps := S.ps2, a := S.a2, en := S.en2, ps2 := S.ps, a2 := S.a, en2 := S.en }
theorem swap_all (hon : S.on = true) : List.Perm S.swap.all S.all := by
  unfold HS.all HS.swap
  simp only
  rw [if_pos hon, if_pos hon]
  exact List.perm_append_comm
theorem Good.swap (h : Good S cnt) (hon : S.on = true) : Good S.swap cnt :=
  ⟨h.cb, h.wd, h.right, h.wl, h.ol, fun i x hx hu => by
    have e := h.ent i x hx hu
    exact ⟨e.reg, e.pin, e.cn, e.slot, e.gen, e.rc, e.size, e.hdr, e.ap.mono (fun p hp => (swap_all hon).mem_iff.2 hp)⟩, h.apart, h.rise, h.mine, fun p hp => h.parts p ((swap_all hon).mem_iff.1 hp), ((swap_all hon).pairwise_iff (fun h => PApart.symm h)).2 h.pap,
    fun c hc => (h.own c hc).imp fun p hp => ⟨(swap_all hon).mem_iff.2 hp.1, hp.2⟩, h.at2 hon, fun _ => h.at1⟩
theorem AllocTo.swap {n ad : Nat} (h : AllocTo S n ad S1) : AllocSt S.swap n ad S1.swap := by
  rcases h with ⟨h1, h2, rfl⟩ | ⟨h1, c, q, h2, h3, h4, h5, rfl⟩
  · exact Or.inl ⟨h1, h2, rfl⟩
  · exact Or.inr ⟨h1, c, q, h2, h3, h4, h5, rfl⟩
theorem Good.allocTo (h : Good S cnt) (hon : S.on = true) {n ad : Nat} (hn : 1 ≤ n) (ha : AllocTo S n ad S1) : Good S1 cnt ∧ NewAt S1 cnt ad n ∧ ∀ ct, Cont S cnt ct → Cont S1 cnt ct := by
  have hon1 : S1.on = true := ha.same.2.2.2.2.2.2.2.1.trans hon
  obtain ⟨h1, h2, h3⟩ := (h.swap hon).alloc hn ha.swap
  exact ⟨h1.swap hon1, ⟨h2.ap.mono (fun p hp => (swap_all hon1).mem_iff.1 hp), h2.apart, fun hlt => h2.at2 hon1 hlt, fun _ hlt => h2.at1 hlt⟩, h3⟩
theorem ObjIn.fun {i a n b m : Nat} (h : ObjIn S cnt i a n) (k : ObjIn S cnt i b m) : a = b ∧ n = m := by
  obtain ⟨x, h1, -, rfl, rfl⟩ := h
  obtain ⟨y, k1, -, rfl, rfl⟩ := k
  rw [h1] at k1
  cases k1
  exact ⟨rfl, rfl⟩
theorem Good.place (h : Good S cnt) {ad n c i : Nat} {x : Sl} {ys : List Nat} {mine : List Int} {cnt' : Nat → Nat} (hn : NewAt S cnt ad n) (hlt : i < S.sl.length) (hx : x.used = true ∧ x.region = 1 ∧ x.pinned = false ∧ x.addr = ad) (hg : 1 ≤ x.gen ∧ x.gen ≤ 255) (hi : i < 4096) (hc : c ≤ 1024) (hr : c = 0 ∨ S.L.record ≠ 0) (hs : S.L.size c < 8192)
    (hnn : n = S.L.size c + 1) (hys : ys.length = n) (hh : ys.getD 0 0 = hdrN i c 1) (hc' : cnt' i = c) (ho : ∀ j, j ≠ i → cnt' j = cnt j) (hri : mine.Pairwise (· < ·)) (hmi : ∀ z : Int, z ∈ mine ↔ z = (i : Nat) ∨ z ∈ S.mine) :
    Good { S with sl := S.sl.set i x, ws := putAt S.ws ad ys, mine := mine } cnt' ∧ ∀ ct ct' : Nat → Nat → Nat, Cont S cnt ct → (∀ j, j ≠ i → ct' j = ct j) → (∀ p, p < S.L.size c → ct' i p = ys.getD (p + 1) 0) → Cont { S with sl := S.sl.set i x, ws := putAt S.ws ad ys, mine := mine } cnt' ct' := by
  have hself : (S.sl.set i x)[i]? = some x := by rw [List.getElem?_set_self hlt]
  have hoth : ∀ j, j ≠ i → (S.sl.set i x)[j]? = S.sl[j]? := fun j hj => List.getElem?_set_ne (fun e => hj e.symm)
  have hobj : ∀ j a m, ObjIn { S with sl := S.sl.set i x, ws := putAt S.ws ad ys, mine := mine } cnt' j a m → (j = i ∧ a = ad ∧ m = n) ∨ (j ≠ i ∧ ObjIn S cnt j a m) := fun j a m ⟨y, h1, h2, h3, h4⟩ => by
    by_cases hj : j = i
    · subst hj
      simp only [hself] at h1
      cases h1
      exact Or.inl ⟨rfl, by rw [← h3, hx.2.2.2], by rw [h4, hc', hnn]⟩
    · simp only [hoth j hj] at h1
      exact Or.inr ⟨hj, y, h1, h2, h3, by rw [h4, ho j hj]⟩
  have hend := h.in_le hn.ap
  have hws : ∀ j a m k, ObjIn S cnt j a m → a ≤ k → k < a + m → (putAt S.ws ad ys).getD k 0 = S.ws.getD k 0 := fun j a m k hj h1 h2 => putAt_out (by have := hn.apart j a m hj; omega)
  have hwi : ∀ k, k < n → (putAt S.ws ad ys).getD (ad + k) 0 = ys.getD k 0 := fun k hk => by
    rw [putAt_in (by omega) (by omega) (by rw [h.wl]; omega), show ad + k - ad = k by omega]
  refine ⟨⟨h.cb, h.wd, h.right, by simp only [putAt_length]; exact h.wl, h.ol, fun j y hy hu => ?_, fun j l a m b k hjl hj hl => ?_, hri, fun z => ?_, h.parts, h.pap, h.own, ⟨h.at1.1, h.at1.2.1, fun hlt => ⟨(h.at1.2.2 hlt).1, fun j a m hj => ?_⟩⟩, fun hon => ⟨(h.at2 hon).1, (h.at2 hon).2.1, fun hlt => ⟨((h.at2 hon).2.2 hlt).1, fun j a m hj => ?_⟩⟩⟩, fun ct ct' hct h1 h2 j y hy hu p hp => ?_⟩
  · by_cases hj : j = i
    · subst hj
      simp only [hself] at hy
      cases hy
      refine ⟨hx.2.1, hx.2.2.1, by rw [hc']; exact hc, hi, hg, by rw [hc']; exact hr, by rw [hc']; exact hs, ?_, ?_⟩
      · have := hwi 0 (by omega)
        rw [hx.2.2.2, hc']
        exact this.trans hh
      · rw [hx.2.2.2, hc']
        show InPart S.Wd S.all ad _
        rw [← hnn]
        exact hn.ap
    · simp only [hoth j hj] at hy
      have e := h.ent j y hy hu
      have ej := ho j hj
      exact ⟨e.reg, e.pin, by rw [ej]; exact e.cn, e.slot, e.gen, by rw [ej]; exact e.rc, by rw [ej]; exact e.size, by rw [ej]; exact (hws j y.addr _ y.addr ⟨y, hy, hu, rfl, rfl⟩ (Nat.le_refl _) (by omega)).trans e.hdr, by rw [ej]; exact e.ap⟩
  · rcases hobj j a m hj with ⟨rfl, rfl, rfl⟩ | ⟨k1, k2⟩ <;> rcases hobj l b k hl with ⟨rfl, rfl, rfl⟩ | ⟨k3, k4⟩
    · exact absurd rfl hjl
    · have := hn.apart _ _ _ k4; omega
    · exact hn.apart _ _ _ k2
    · exact h.apart j l a m b k hjl k2 k4
  · rw [hmi]
    constructor
    · rintro (rfl | hz)
      · exact ⟨i, x, rfl, hself, hx.1⟩
      · obtain ⟨j, y, rfl, hy, hu⟩ := (h.mine z).1 hz
        by_cases hj : j = i
        · subst hj; exact ⟨j, x, rfl, hself, hx.1⟩
        · exact ⟨j, y, rfl, (hoth j hj).trans hy, hu⟩
    · rintro ⟨j, y, rfl, hy, hu⟩
      by_cases hj : j = i
      · subst hj; exact Or.inl rfl
      · simp only [hoth j hj] at hy
        exact Or.inr ((h.mine _).2 ⟨j, y, rfl, hy, hu⟩)
  · rcases hobj j a m hj with ⟨rfl, rfl, rfl⟩ | ⟨k1, k2⟩
    · exact hn.at1 hlt
    · exact (h.at1.2.2 hlt).2 j a m k2
  · rcases hobj j a m hj with ⟨rfl, rfl, rfl⟩ | ⟨k1, k2⟩
    · exact hn.at2 hon hlt
    · exact ((h.at2 hon).2.2 hlt).2 j a m k2
  · by_cases hj : j = i
    · subst hj
      simp only [hself] at hy
      cases hy
      rw [hc'] at hp
      have hp' : p < S.L.size c := hp
      rw [h2 p hp', hx.2.2.2, show ad + 1 + p = ad + (p + 1) by omega]
      exact hwi (p + 1) (by omega)
    · simp only [hoth j hj] at hy
      rw [h1 j hj]
      rw [ho j hj] at hp
      have hp' : p < S.L.size (cnt j) := hp
      exact (hws j y.addr _ _ ⟨y, hy, hu, rfl, rfl⟩ (by omega) (by omega)).trans (hct j y hy hu p hp')
theorem Good.gs (h : Good S cnt) (g : GS) : Good { S with gs := g } cnt := ⟨h.cb, h.wd, h.right, h.wl, h.ol, fun i x hx hu => let e := h.ent i x hx hu; ⟨e.reg, e.pin, e.cn, e.slot, e.gen, e.rc, e.size, e.hdr, e.ap⟩, h.apart, h.rise, h.mine, h.parts, h.pap, h.own, h.at1, h.at2⟩
theorem Good.make (h : Good S cnt) {ad c i gen : Nat} {y : Sl} (ha : AllocSt S (S.L.size c + 1) ad S1) (hy : S.sl[i]? = some y) (hu : y.used = false) (hg : 1 ≤ gen ∧ gen ≤ 255) (hi : i < 4096) (hc : c ≤ 1024) (hr : c = 0 ∨ S.L.record ≠ 0) (hs : S.L.size c < 8192) {cnt' : Nat → Nat} (hc' : cnt' i = c) (ho : ∀ j, j ≠ i → cnt' j = cnt j) :
    Good (mkS S1 i gen ad c) cnt' ∧ ∀ ct ct' : Nat → Nat → Nat, Cont S cnt ct → (∀ j, j ≠ i → ct' j = ct j) → (∀ p, p < S.L.size c → ct' i p = 0) → Cont (mkS S1 i gen ad c) cnt' ct' := by
  obtain ⟨h1, h2, h3⟩ := h.alloc (by omega) ha
  have e : S1.sl = S.sl ∧ S1.L = S.L ∧ S1.mine = S.mine := by rcases ha with ⟨_, _, e⟩ | ⟨_, c, q, _, _, _, _, e⟩ <;> rw [e] <;> exact ⟨rfl, rfl, rfl⟩
  have hlt : i < S1.sl.length := by rw [e.1]; exact (List.getElem?_eq_some_iff.1 hy).1
  obtain ⟨h4, h5⟩ := h1.place (c := c) (i := i) (x := ⟨gen, true, ad, 1, true, false⟩) (ys := hdrN i c 1 :: List.replicate (S1.L.size c) 0) (mine := putL S1.mine i) (cnt' := cnt') h2 hlt ⟨rfl, rfl, rfl, rfl⟩ hg hi hc (by rw [e.2.1]; exact hr) (by rw [e.2.1]; exact hs) (by rw [e.2.1]) (by simp [e.2.1]) rfl hc' ho (putL_rises h1.rise _) (fun z => mem_putL.trans Or.comm)
  refine ⟨h4, fun ct ct' k1 k2 k3 => h5 ct ct' (h3 ct k1) k2 (fun p hp => ?_)⟩
  rw [e.2.1] at hp
  rw [k3 p hp]
  show 0 = (List.replicate _ 0).getD p 0
  rw [replicate_getD (by rw [e.2.1]; exact hp)]
theorem Good.moved (h : Good S cnt) (hon : S.on = true) {i : Nat} {x : Sl} {S2 : HS} (hx : S.sl[i]? = some x) (hu : x.used = true) (hm : MovedSt S i x (S.L.size (cnt i) + 1) S2) :
    Good S2 cnt ∧ ∀ ct, Cont S cnt ct → Cont S2 cnt ct := by
  rcases hm with ⟨-, rfl⟩ | ⟨-, ad, S1, ha, rfl⟩
  · exact ⟨h, fun ct hct => hct⟩
  · obtain ⟨h1, h2, h3⟩ := h.allocTo hon (by omega) ha
    obtain ⟨e1, e2, -, e4, e5, e6, -⟩ := ha.same
    have hx1 : S1.sl[i]? = some x := by rw [e5]; exact hx
    have e := h1.ent i x hx1 hu
    have hle := h1.in_le e.ap
    have hys : ((S1.ws.drop x.addr).take (S.L.size (cnt i) + 1)).length = S.L.size (cnt i) + 1 := by
      rw [List.length_take, List.length_drop, h1.wl]
      rw [e4] at hle
      omega
    have hyg : ∀ k, k < S.L.size (cnt i) + 1 → ((S1.ws.drop x.addr).take (S.L.size (cnt i) + 1)).getD k 0 = S1.ws.getD (x.addr + k) 0 := fun k hk => by
      rw [List.getD_eq_getElem?_getD, List.getElem?_take, if_pos hk, List.getElem?_drop, ← List.getD_eq_getElem?_getD]
    have hmi : (i : Int) ∈ S1.mine := (h1.mine _).2 ⟨i, x, rfl, hx1, hu⟩
    obtain ⟨h4, h5⟩ := h1.place (c := cnt i) (i := i) (x := ⟨x.gen, x.used, ad, x.region, x.held, x.pinned⟩) (ys := (S1.ws.drop x.addr).take (S.L.size (cnt i) + 1)) (mine := S1.mine) (cnt' := cnt) h2 (List.getElem?_eq_some_iff.1 hx1).1 ⟨hu, e.reg, e.pin, rfl⟩ e.gen e.slot e.cn e.rc e.size (by rw [e4]) hys (by rw [hyg 0 (by omega)]; exact e.hdr) rfl (fun j hj => rfl) h1.rise (fun z => ⟨Or.inr, fun hz => hz.elim (fun e => by rw [e]; exact hmi) id⟩)
    refine ⟨h4, fun ct hct => h5 ct ct (h3 ct hct) (fun j hj => rfl) (fun p hp => ?_)⟩
    rw [e4] at hp
    rw [hyg (p + 1) (by omega), ← h3 ct hct i x hx1 hu p (by rw [e4]; exact hp)]
    congr 1
    omega
theorem Good.mvOk (h : Good S cnt) (hon : S.on = true) {i ad : Nat} {x : Sl} (hx : S.sl[i]? = some x) (hu : x.used = true) (ha : AllocTo S (S.L.size (cnt i) + 1) ad S1) : MvOk S1 ad x.addr (cnt i) i := by
  obtain ⟨h1, h2, -⟩ := h.allocTo hon (by omega) ha
  obtain ⟨-, -, -, e4, e5, -⟩ := ha.same
  have hx1 : S1.sl[i]? = some x := by rw [e5]; exact hx
  have ho := h1.objOk hx1 hu
  have e := h1.ent i x hx1 hu
  refine ⟨ho.obj, h1.in_le e.ap, ?_, ho.own, ?_⟩
  · rw [e4]; exact h1.in_le h2.ap
  · rw [e4]; exact h1.in_owned h2.ap (by omega)
theorem Good.room (h : Good S cnt) {n : Nat} (hn : 1 ≤ n) (hn2 : n ≤ 1048576) (hr : S.a + n ≤ S.en ∨ ∃ c, c + ((n - 1) / S.Wd + 1) ≤ S.C ∧ ∀ i, c ≤ i → i < c + ((n - 1) / S.Wd + 1) → S.own.getD i 0 = 0) : RoomOk S n :=
  ⟨h.at1.1, Nat.le_trans h.at1.2.1 h.words_le, by have := h.ps_len; omega, hn, hn2, hr⟩
theorem Good.roomTo (h : Good S cnt) (hon : S.on = true) {n : Nat} (hn : 1 ≤ n) (hn2 : n ≤ 1048576) (hr : S.a2 + n ≤ S.en2 ∨ ∃ c, c + ((n - 1) / S.Wd + 1) ≤ S.C ∧ ∀ i, c ≤ i → i < c + ((n - 1) / S.Wd + 1) → S.own.getD i 0 = 0) : RoomTo S n := by
  have h1 := h.all_len.1
  unfold HS.all at h1
  rw [if_pos hon, List.length_append] at h1
  exact ⟨(h.at2 hon).1, Nat.le_trans (h.at2 hon).2.1 h.words_le, by omega, hn, hn2, hr⟩
theorem Good.free1 (h : Good S cnt) (hl : (chunksL S.all).length < S.C) : ∃ c, c < S.C ∧ S.own.getD c 0 = 0 := by
  obtain ⟨c, hc, hn⟩ := chunk_free hl
  refine ⟨c, hc, Classical.byContradiction fun h0 => ?_⟩
  obtain ⟨p, hp, h1, h2⟩ := h.own c h0
  exact hn p hp ⟨h1, h2⟩
theorem Good.lose (h : Good S cnt) {i : Nat} {x : Sl} (hx : S.sl[i]? = some x) (hu : x.used = true) :
    Good { S with mine := outL S.mine i, sl := S.sl.set i ⟨x.gen, false, 0, 0, false, false⟩ } cnt ∧ ∀ ct, Cont S cnt ct → Cont { S with mine := outL S.mine i, sl := S.sl.set i ⟨x.gen, false, 0, 0, false, false⟩ } cnt ct := by
  have hlt : i < S.sl.length := (List.getElem?_eq_some_iff.1 hx).1
  have hget : ∀ (j : Nat) (y : Sl), (S.sl.set i ⟨x.gen, false, 0, 0, false, false⟩)[j]? = some y → y.used = true → j ≠ i ∧ S.sl[j]? = some y := fun j y hy hu => by
    by_cases hj : j = i
    · subst hj
      rw [List.getElem?_set_self hlt] at hy
      cases hy
      cases hu
    · rw [List.getElem?_set_ne (fun e => hj e.symm)] at hy
      exact ⟨hj, hy⟩
  have hobj : ∀ j a m, ObjIn { S with mine := outL S.mine i, sl := S.sl.set i ⟨x.gen, false, 0, 0, false, false⟩ } cnt j a m → ObjIn S cnt j a m := fun j a m ⟨y, h1, h2, h3, h4⟩ => ⟨y, (hget j y h1 h2).2, h2, h3, h4⟩
  refine ⟨⟨h.cb, h.wd, h.right, h.wl, h.ol, fun j y hy hu => ?_, fun j l a n b m hjl hj hl => h.apart j l a n b m hjl (hobj _ _ _ hj) (hobj _ _ _ hl), outL_rises h.rise _, fun z => ?_, h.parts, h.pap, h.own, ⟨h.at1.1, h.at1.2.1, fun hlt => ⟨(h.at1.2.2 hlt).1, fun j a m hj => (h.at1.2.2 hlt).2 j a m (hobj _ _ _ hj)⟩⟩, fun hon => ⟨(h.at2 hon).1, (h.at2 hon).2.1, fun hlt => ⟨((h.at2 hon).2.2 hlt).1, fun j a m hj => ((h.at2 hon).2.2 hlt).2 j a m (hobj _ _ _ hj)⟩⟩⟩, fun ct hct j y hy hu p hp => hct j y (hget j y hy hu).2 hu p hp⟩
  · have e := h.ent j y (hget j y hy hu).2 hu
    exact ⟨e.reg, e.pin, e.cn, e.slot, e.gen, e.rc, e.size, e.hdr, e.ap⟩
  · rw [mem_outL, h.mine]
    constructor
    · rintro ⟨⟨j, y, rfl, hy, hu⟩, hn⟩
      exact ⟨j, y, rfl, by show (S.sl.set i _)[j]? = _; rw [List.getElem?_set_ne (fun e => hn (by rw [e]))]; exact hy, hu⟩
    · rintro ⟨j, y, rfl, hy, hu⟩
      obtain ⟨h1, h2⟩ := hget j y hy hu
      exact ⟨⟨j, y, rfl, h2, hu⟩, by omega⟩
theorem Good.dropPart (h : Good S cnt) {c m : Nat} (hp : (c, m) ∈ S.ps) (hno : ∀ i a n, ObjIn S cnt i a n → a + n ≤ c * S.Wd ∨ (c + m) * S.Wd ≤ a) :
    Good { S with ps := S.ps.erase (c, m), a := if m = 1 ∧ S.en = (c + 1) * S.Wd then 0 else S.a, en := if m = 1 ∧ S.en = (c + 1) * S.Wd then 0 else S.en, own := putAt S.own c (List.replicate m 0) } cnt ∧
    ∀ ct, Cont S cnt ct → Cont { S with ps := S.ps.erase (c, m), a := if m = 1 ∧ S.en = (c + 1) * S.Wd then 0 else S.a, en := if m = 1 ∧ S.en = (c + 1) * S.Wd then 0 else S.en, own := putAt S.own c (List.replicate m 0) } cnt ct := by
  obtain ⟨hm1, hmC, hown⟩ := h.parts _ (ps_sub S _ hp)
  simp only at hm1 hmC hown
  have hcw : (c + m) * S.Wd = c * S.Wd + m * S.Wd := Nat.add_mul ..
  have hmw : 1 * S.Wd ≤ m * S.Wd := Nat.mul_le_mul_right _ hm1
  have hw1 := h.wd.1
  have hapt := fun q hq (hn : (c, m) ≠ q) => pairwise_mem (fun x y => PApart.symm) h.pap _ (ps_sub S _ hp) q hq hn
  have hnd : S.all.Nodup := h.pap.imp_of_mem (fun {p q} hp' hq hpq e => by
    subst e
    have := (h.parts p hp').1
    unfold PApart at hpq
    omega)
  have hall : HS.all { S with ps := S.ps.erase (c, m), a := if m = 1 ∧ S.en = (c + 1) * S.Wd then 0 else S.a, en := if m = 1 ∧ S.en = (c + 1) * S.Wd then 0 else S.en, own := putAt S.own c (List.replicate m 0) } = S.all.erase (c, m) := by
    unfold HS.all
    simp only
    split
    · rw [List.erase_append_left _ hp]
    · rfl
  have hmem : ∀ q, q ∈ S.all.erase (c, m) ↔ q ≠ (c, m) ∧ q ∈ S.all := fun q => hnd.mem_erase_iff
  have hobj : ∀ i a n, ObjIn { S with ps := S.ps.erase (c, m), a := if m = 1 ∧ S.en = (c + 1) * S.Wd then 0 else S.a, en := if m = 1 ∧ S.en = (c + 1) * S.Wd then 0 else S.en, own := putAt S.own c (List.replicate m 0) } cnt i a n → ObjIn S cnt i a n := fun i a n h => h
  refine ⟨⟨h.cb, h.wd, h.right, h.wl, by simp only [putAt_length]; exact h.ol, fun j y hy hu => ?_, h.apart, h.rise, h.mine, fun q hq => ?_, by rw [hall]; exact h.pap.sublist List.erase_sublist, fun k hk => ?_, ?_, h.at2⟩, fun ct hct => hct⟩
  · have e := h.ent j y hy hu
    refine ⟨e.reg, e.pin, e.cn, e.slot, e.gen, e.rc, e.size, e.hdr, ?_⟩
    obtain ⟨q, hq, h1, h2, h3⟩ := e.ap
    have hne : q ≠ (c, m) := fun e => by
      subst e
      have := hno j _ _ ⟨y, hy, hu, rfl, rfl⟩
      simp only at h1 h2
      omega
    exact ⟨q, by rw [hall]; exact (hmem q).2 ⟨hne, hq⟩, h1, h2, h3⟩
  · rw [hall] at hq
    obtain ⟨k1, k2⟩ := (hmem q).1 hq
    obtain ⟨h1, h2, h3⟩ := h.parts q k2
    refine ⟨h1, h2, fun k e1 e2 => ?_⟩
    have := hapt q k2 k1.symm
    rw [putAt_out (by unfold PApart at this; simp only [List.length_replicate] at this ⊢; omega)]
    exact h3 k e1 e2
  · by_cases hc : c ≤ k ∧ k < c + m
    · rw [putAt_in hc.1 (by rw [List.length_replicate]; exact hc.2) (by rw [List.length_replicate, h.ol]; exact hmC), replicate_getD (by omega)] at hk
      exact absurd rfl hk
    · rw [putAt_out (by simp only [List.length_replicate]; omega)] at hk
      obtain ⟨q, hq, h1, h2⟩ := h.own k hk
      have hne : q ≠ (c, m) := fun e => by
        subst e
        exact hc ⟨h1, h2⟩
      exact ⟨q, by rw [hall]; exact (hmem q).2 ⟨hne, hq⟩, h1, h2⟩
  · by_cases he : m = 1 ∧ S.en = (c + 1) * S.Wd
    · unfold AtOk
      simp only [if_pos he]
      exact ⟨Nat.le_refl _, Nat.zero_le _, fun h => absurd h (Nat.lt_irrefl _)⟩
    · unfold AtOk
      simp only [if_neg he]
      refine ⟨h.at1.1, h.at1.2.1, fun hlt => ⟨?_, (h.at1.2.2 hlt).2⟩⟩
      obtain ⟨c1, h1, h2, h3⟩ := (h.at1.2.2 hlt).1
      exact ⟨c1, (List.mem_erase_of_ne (fun e => he (by cases e; exact ⟨rfl, h2⟩))).2 h1, h2, h3⟩
theorem Good.join (h : Good S cnt) (hon : S.on = true) : Good { S with ps := S.ps ++ S.ps2, a := if 0 < S.en2 then S.a2 else S.a, en := if 0 < S.en2 then S.en2 else S.en, on := false } cnt ∧
    ∀ ct, Cont S cnt ct → Cont { S with ps := S.ps ++ S.ps2, a := if 0 < S.en2 then S.a2 else S.a, en := if 0 < S.en2 then S.en2 else S.en, on := false } cnt ct := by
  have hall : HS.all { S with ps := S.ps ++ S.ps2, a := if 0 < S.en2 then S.a2 else S.a, en := if 0 < S.en2 then S.en2 else S.en, on := false } = S.all := by
    unfold HS.all
    simp only
    rw [if_pos hon]
    rfl
  refine ⟨⟨h.cb, h.wd, h.right, h.wl, h.ol, fun j y hy hu => ?_, h.apart, h.rise, h.mine, by rw [hall]; exact h.parts, by rw [hall]; exact h.pap, by rw [hall]; exact h.own, ?_, fun h => by cases h⟩, fun ct hct => hct⟩
  · have e := h.ent j y hy hu
    exact ⟨e.reg, e.pin, e.cn, e.slot, e.gen, e.rc, e.size, e.hdr, by rw [hall]; exact e.ap⟩
  · unfold AtOk
    by_cases he : 0 < S.en2
    · simp only [if_pos he]
      obtain ⟨k1, k2, k3⟩ := h.at2 hon
      exact ⟨k1, k2, fun hlt => ⟨(k3 hlt).1.imp fun c hc => ⟨List.mem_append_right _ hc.1, hc.2⟩, (k3 hlt).2⟩⟩
    · simp only [if_neg he]
      obtain ⟨k1, k2, k3⟩ := h.at1
      exact ⟨k1, k2, fun hlt => ⟨(k3 hlt).1.imp fun c hc => ⟨List.mem_append_left _ hc.1, hc.2⟩, (k3 hlt).2⟩⟩
theorem Good.begin (h : Good S cnt) (hoff : S.on = false) (g : GS) : Good { S with on := true, ps2 := [], a2 := 0, en2 := 0, gs := g } cnt ∧ ∀ ct, Cont S cnt ct → Cont { S with on := true, ps2 := [], a2 := 0, en2 := 0, gs := g } cnt ct := by
  have hall : HS.all { S with on := true, ps2 := [], a2 := 0, en2 := 0, gs := g } = S.all := by
    unfold HS.all
    simp [hoff]
  refine ⟨⟨h.cb, h.wd, h.right, h.wl, h.ol, fun j y hy hu => ?_, h.apart, h.rise, h.mine, by rw [hall]; exact h.parts, by rw [hall]; exact h.pap, by rw [hall]; exact h.own, h.at1, fun _ => ⟨Nat.le_refl _, Nat.zero_le _, fun h => absurd h (Nat.lt_irrefl _)⟩⟩, fun ct hct => hct⟩
  have e := h.ent j y hy hu
  exact ⟨e.reg, e.pin, e.cn, e.slot, e.gen, e.rc, e.size, e.hdr, by rw [hall]; exact e.ap⟩
theorem Good.word (h : Good S cnt) {i p v : Nat} {x : Sl} (hx : S.sl[i]? = some x) (hu : x.used = true) (hp : p < S.L.size (cnt i)) :
    Good { S with ws := S.ws.set (x.addr + 1 + p) v } cnt ∧ ∀ ct ct' : Nat → Nat → Nat, Cont S cnt ct → (∀ j q, j ≠ i ∨ q ≠ p → ct' j q = ct j q) → ct' i p = v → Cont { S with ws := S.ws.set (x.addr + 1 + p) v } cnt ct' := by
  have hin := h.in_le (h.ent i x hx hu).ap
  have hset : ∀ k, k ≠ x.addr + 1 + p → (S.ws.set (x.addr + 1 + p) v).getD k 0 = S.ws.getD k 0 := fun k hk => by
    rw [List.getD_eq_getElem?_getD, List.getElem?_set_ne (fun e => hk e.symm), ← List.getD_eq_getElem?_getD]
  have hne : ∀ j y q, S.sl[j]? = some y → y.used = true → q < S.L.size (cnt j) + 1 → j ≠ i ∨ q ≠ 1 + p → y.addr + q ≠ x.addr + 1 + p := fun j y q hy hyu hq hj => by
    by_cases hji : j = i
    · subst hji
      rw [hx] at hy
      cases hy
      omega
    · have := h.apart j i _ _ _ _ hji ⟨y, hy, hyu, rfl, rfl⟩ ⟨x, hx, hu, rfl, rfl⟩
      omega
  refine ⟨⟨h.cb, h.wd, h.right, by simp only [List.length_set]; exact h.wl, h.ol, fun j y hy hyu => ?_, h.apart, h.rise, h.mine, h.parts, h.pap, h.own, h.at1, h.at2⟩, fun ct ct' hct h1 h2 j y hy hyu q hq => ?_⟩
  · have e := h.ent j y hy hyu
    exact ⟨e.reg, e.pin, e.cn, e.slot, e.gen, e.rc, e.size, (hset _ (hne j y 0 hy hyu (by omega) (Or.inr (by omega)))).trans e.hdr, e.ap⟩
  · by_cases hji : j = i ∧ q = p
    · obtain ⟨rfl, rfl⟩ := hji
      simp only [hx] at hy
      cases hy
      rw [h2, List.getD_eq_getElem?_getD, List.getElem?_set_self (by rw [h.wl]; omega)]
      rfl
    · have hor : j ≠ i ∨ q ≠ p := by
        by_cases hj : j = i
        · exact Or.inr (fun e => hji ⟨hj, e⟩)
        · exact Or.inl hj
      rw [h1 j q hor, ← hct j y hy hyu q hq]
      have hq' : q < S.L.size (cnt j) := hq
      exact hset _ (by have := hne j y (1 + q) hy hyu (by omega) (hor.imp id (fun h => by omega)); omega)
theorem Good.mark (h : Good S cnt) {i : Nat} {x : Sl} (hx : S.sl[i]? = some x) (hu : x.used = true) (hd : Bool) :
    Good { S with sl := S.sl.set i ⟨x.gen, x.used, x.addr, x.region, hd, x.pinned⟩ } cnt ∧ ∀ ct, Cont S cnt ct → Cont { S with sl := S.sl.set i ⟨x.gen, x.used, x.addr, x.region, hd, x.pinned⟩ } cnt ct := by
  have hlt : i < S.sl.length := (List.getElem?_eq_some_iff.1 hx).1
  have hget : ∀ (j : Nat) (y : Sl), (S.sl.set i ⟨x.gen, x.used, x.addr, x.region, hd, x.pinned⟩)[j]? = some y → ∃ y0 : Sl, S.sl[j]? = some y0 ∧ y.gen = y0.gen ∧ y.used = y0.used ∧ y.addr = y0.addr ∧ y.region = y0.region ∧ y.pinned = y0.pinned := fun j y hy => by
    by_cases hj : j = i
    · subst hj
      rw [List.getElem?_set_self hlt] at hy
      cases hy
      exact ⟨x, hx, rfl, rfl, rfl, rfl, rfl⟩
    · rw [List.getElem?_set_ne (fun e => hj e.symm)] at hy
      exact ⟨y, hy, rfl, rfl, rfl, rfl, rfl⟩
  have hobj : ∀ j a m, ObjIn { S with sl := S.sl.set i ⟨x.gen, x.used, x.addr, x.region, hd, x.pinned⟩ } cnt j a m → ObjIn S cnt j a m := fun j a m ⟨y, h1, h2, h3, h4⟩ => by
    obtain ⟨y0, k1, -, k2, k3, -⟩ := hget j y h1
    exact ⟨y0, k1, by rw [← k2]; exact h2, by rw [← k3]; exact h3, h4⟩
  refine ⟨⟨h.cb, h.wd, h.right, h.wl, h.ol, fun j y hy hyu => ?_, fun j l a n b m hjl hj hl => h.apart j l a n b m hjl (hobj _ _ _ hj) (hobj _ _ _ hl), h.rise, fun z => ?_, h.parts, h.pap, h.own, ⟨h.at1.1, h.at1.2.1, fun hlt => ⟨(h.at1.2.2 hlt).1, fun j a m hj => (h.at1.2.2 hlt).2 j a m (hobj _ _ _ hj)⟩⟩, fun hon => ⟨(h.at2 hon).1, (h.at2 hon).2.1, fun hlt => ⟨((h.at2 hon).2.2 hlt).1, fun j a m hj => ((h.at2 hon).2.2 hlt).2 j a m (hobj _ _ _ hj)⟩⟩⟩, fun ct hct j y hy hyu p hp => ?_⟩
  · obtain ⟨y0, k1, k2, k3, k4, k5, k6⟩ := hget j y hy
    have e := h.ent j y0 k1 (by rw [← k3]; exact hyu)
    exact ⟨by rw [k5]; exact e.reg, by rw [k6]; exact e.pin, e.cn, e.slot, by rw [k2]; exact e.gen, e.rc, e.size, by rw [k4]; exact e.hdr, by rw [k4]; exact e.ap⟩
  · rw [h.mine]
    constructor
    · rintro ⟨j, y, rfl, hy, hyu⟩
      by_cases hj : j = i
      · subst hj
        exact ⟨j, _, rfl, List.getElem?_set_self hlt, hu⟩
      · exact ⟨j, y, rfl, by show (S.sl.set i _)[j]? = _; rw [List.getElem?_set_ne (fun e => hj e.symm)]; exact hy, hyu⟩
    · rintro ⟨j, y, rfl, hy, hyu⟩
      obtain ⟨y0, k1, -, k2, -⟩ := hget j y hy
      exact ⟨j, y0, rfl, k1, by rw [← k2]; exact hyu⟩
  · obtain ⟨y0, k1, -, k2, k3, -⟩ := hget j y hy
    rw [k3]
    exact hct j y0 k1 (by rw [← k2]; exact hyu) p hp
end Go.Proofs.YtcdpnfchmpncjaaGreatDoor
