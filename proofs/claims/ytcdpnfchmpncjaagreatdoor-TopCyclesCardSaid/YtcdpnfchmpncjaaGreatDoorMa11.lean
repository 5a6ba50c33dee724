/-
  Parts of the proof, one behind the other: KBump6, KBump7.
-/
import Derived.Test.YtcdpnfchmpncjaaGreatDoorMa10
set_option linter.unusedSimpArgs false
set_option linter.unusedVariables false
namespace Go.Proofs.YtcdpnfchmpncjaaGreatDoor
open Go.RowKit Go.Tr Go.Shelf
variable {w w' : World} {F G H : Nat → Prop} {g s o a en C Wd : Nat} {ps : List (Nat × Nat)} {ws own : List Nat}
theorem join_end {w wr W : World} {g2 a' e' : Nat} {P : List (Nat × Nat)} (hp : SpF 154 W (grow F w wr) g s o P a' e') (hst : StF wr G s C Wd ws own) (ho : Only (fun k => F k ∨ G k) w wr) (hw : Only (grow F w wr) wr W) (hz : W.heap.size = wr.heap.size) (hd : ∀ k, F k → ¬ G k) (hd2 : ∀ k, H k → ¬ F k ∧ ¬ G k) (hgs : ∀ k, G k → k < w.heap.size) (hg2 : H g2) (hl2 : g2 < w.heap.size) :
    SpF 154 (((W.setCell ⟨g2, 2, none⟩ (.slice none 0 0)).setCell ⟨g2, 3, none⟩ (.int .i64 0)).setCell ⟨g2, 4, none⟩ (.int .i64 0)) (grow F w (((W.setCell ⟨g2, 2, none⟩ (.slice none 0 0)).setCell ⟨g2, 3, none⟩ (.int .i64 0)).setCell ⟨g2, 4, none⟩ (.int .i64 0))) g s o P a' e' ∧ StF (((W.setCell ⟨g2, 2, none⟩ (.slice none 0 0)).setCell ⟨g2, 3, none⟩ (.int .i64 0)).setCell ⟨g2, 4, none⟩ (.int .i64 0)) G s C Wd ws own ∧ Only (fun k => F k ∨ G k ∨ H k) w (((W.setCell ⟨g2, 2, none⟩ (.slice none 0 0)).setCell ⟨g2, 3, none⟩ (.int .i64 0)).setCell ⟨g2, 4, none⟩ (.int .i64 0)) := by
  obtain ⟨W3, hW3⟩ : ∃ W3, W3 = (((W.setCell ⟨g2, 2, none⟩ (.slice none 0 0)).setCell ⟨g2, 3, none⟩ (.int .i64 0)).setCell ⟨g2, 4, none⟩ (.int .i64 0)) := ⟨_, rfl⟩
  rw [← hW3]
  have h3 : Only H W W3 := by
    rw [hW3]
    exact (((Only.refl H W).setCell (p := ⟨g2, 2, none⟩) (Or.inl hg2) _).setCell (p := ⟨g2, 3, none⟩) (Or.inl hg2) _).setCell (p := ⟨g2, 4, none⟩) (Or.inl hg2) _
  have hz3 : W3.heap.size = wr.heap.size := by rw [hW3, ← hz]; simp [World.setCell]
  have hk2 : ∀ k, k ≠ g2 → W3.heap[k]? = W.heap[k]? := fun k hk => by rw [hW3, Below.heap_setCell _ _ _ _ hk, Below.heap_setCell _ _ _ _ hk, Below.heap_setCell _ _ _ _ hk]
  refine ⟨(hp.kept (fun k hk _ => hk2 k (fun e => ?_))).mono (fun k hk => ?_), hst.kept (fun k hk hl => (hk2 k (fun e => (hd2 g2 hg2).2 (e ▸ hk))).trans (hw.block k hl (fun hf => ?_))), ?_⟩
  · subst e
    rcases hk with hk | hk
    · exact (hd2 k hg2).1 hk
    · omega
  · rcases hk with hk | hk
    · exact Or.inl hk
    · exact Or.inr ⟨hk.1, by omega⟩
  · rcases hf with hf | hf
    · exact hd k hf hk
    · have := hgs k hk; omega
  · refine ((ho.mono (fun k hk => hk.elim Or.inl (fun h => Or.inr (Or.inl h)))).trans (hw.mono (G := fun k => (F k ∨ G k ∨ H k) ∨ w.heap.size ≤ k) (fun k hk => ?_)) (fun k hk => hk)).trans (h3.mono (fun k hk => Or.inr (Or.inr hk))) (fun k hk => Or.inl hk)
    rcases hk with hk | hk
    · exact Or.inl (Or.inl hk)
    · exact Or.inr hk.1
theorem join_drew {w X : World} {a' e' : Nat} {P : List (Nat × Nat)} {Z : Nat → Prop} (h : SpF 154 X (grow F w X) g s o P a' e' ∧ StF X G s C Wd ws own ∧ Only Z w X) : SpF 154 X.drew (grow F w X.drew) g s o P a' e' ∧ StF X.drew G s C Wd ws own ∧ Only Z w X.drew :=
  ⟨h.1.kept (fun _ _ _ => rfl), h.2.1.kept (fun _ _ _ => rfl), h.2.2.drew⟩
set_option maxRecDepth 100000 in
theorem ujoin_any {g2 a2 en2 : Nat} {ps2 : List (Nat × Nat)} (w : World) (h : SpF 154 w F g s o ps a en) (hS : StF w G s C Wd ws own) (h2 : SpF 154 w H g2 s o ps2 a2 en2) (hd : ∀ k, F k → ¬ G k) (hd2 : ∀ k, H k → ¬ F k ∧ ¬ G k) (hfs : ∀ k, F k → k < w.heap.size) (hgs : ∀ k, G k → k < w.heap.size) (hhs : ∀ k, H k → k < w.heap.size)
    (ho : 1 ≤ o) (ho2 : o ≤ 9223372036854775807) (hl : ps.length + ps2.length ≤ 100000) (hown : ∀ p ∈ ps2, p.1 + p.2 ≤ C ∧ ∀ i, p.1 ≤ i → i < p.1 + p.2 → own.getD i 0 = o) :
    Calls Tryz.prog 72 #[.pointer (some ⟨g, 0, none⟩), .pointer (some ⟨g2, 0, none⟩)] w fun e w' => e = .returned (.int .i64 0) ∧ SpF 154 w' (grow F w w') g s o (ps ++ ps2) (if 0 < en2 then a2 else a) (if 0 < en2 then en2 else en) ∧ StF w' G s C Wd ws own ∧ Only (fun k => F k ∨ G k ∨ H k) w w' := by
  have HH := Lib.hid h
  have HH2 := Lib.hid h2
  have HD := Lib.hid hd
  have HD2 := Lib.hid hd2
  have HGS := Lib.hid hgs
  have HFS := Lib.hid hfs
  have HOWN := Lib.hid hown
  have HST := Lib.hid hS
  have hne : g2 ≠ g := fun e => (hd2 g2 h2.1).1 (e ▸ h.1)
  have HOT := Lib.hid (uother_any w h h2 hne)
  obtain ⟨-, qv, hq2, how, hoq⟩ := id h2
  obtain ⟨qa, qc, rfl, hsq, -, -⟩ := how.seq
  have HSQ := Lib.hid hsq
  have HOQ := Lib.hid hoq
  obtain ⟨n2, hn2⟩ : ∃ n2, n2 = ps2.length := ⟨_, rfl⟩
  rw [← hn2] at hl
  have d2 := (cells_of_block hq2 2).1
  simp at d2
  rw [← hn2] at d2
  have HN2 := Lib.hid hn2
  have hln : n2 ≤ 100000 := by omega
  clear h hS h2 hd hd2 hown hgs hfs hhs hn2 hq2 how hoq hsq
  go_enter Tryz.func72, Tryz.ntmps72
  go_wp2_with fail
  refine HOT.out.mono ?_
  rintro e w1 ⟨rfl, q1, rfl⟩
  go_wp2_with fail
  clear d2
  go_loopw [19] (fun i wr => ∃ k : Nat, k ≤ n2 ∧ i = .int .i64 (k : Int) ∧ Hid (SpF 154 wr (grow F w wr) g s o (ps ++ ps2.take k) a en) ∧ Hid (StF wr G s C Wd ws own) ∧ Hid (Only (fun k => F k ∨ G k) w wr)) (fun i _ => n2 - (intOf i).toNat)
  case atStart =>
    exact ⟨0, Nat.zero_le _, rfl, by show SpF _ _ _ _ _ _ _ _ _; rw [List.take_zero, List.append_nil]; exact (HH.out.kept (w' := w.drewN q1) (fun _ _ _ => rfl)).mono (fun k hk => Or.inl hk), HST.out.kept (fun _ _ _ => rfl), (Only.refl _ w).drawn ⟨q1, rfl⟩⟩
  case round =>
    obtain ⟨k, hk, rfl, HSp, HSt, HO⟩ := hrel
    have hsz := HO.out.size
    by_cases hlt : k < n2
    · have hlt' : (k : Int) < (n2 : Int) := by omega
      obtain ⟨b, off, d, m, rfl, hc1, hc2, HP⟩ := (HSQ.out.only HO.out (fun _ b o e hf => by
        have hb := (HOQ.out b (by rw [e]; rfl)).1
        rcases hf with hf | hf
        · exact (HD2.out b hb).1 hf
        · exact (HD2.out b hb).2 hf)).part (k := k) (by rw [← HN2.out]; exact hlt)
      have hpo := HOWN.out _ (List.mem_of_getElem? HP.out)
      have hlk : (ps ++ ps2.take k).length ≤ 100000 := by rw [List.length_append, List.length_take]; omega
      have HGET := Lib.hid (uget_any d m (wr.alloc (.cells #[.int .i64 d, .int .i64 m] 199)) (HSp.out.kept (fun k _ hl => Below.heap_alloc _ _ _ hl)) (HSt.out.kept (fun k _ hl => Below.heap_alloc _ _ _ hl)) (fun k hk hg => by
          rcases hk with hk | hk
          · exact HD.out k hk hg
          · have := HGS.out k hg; omega) (fun k hk => by
          simp
          rcases hk with hk | hk
          · have := HFS.out k hk; omega
          · omega) (fun k hk => by have := HGS.out k hk; simp; omega) ho ho2 hlk hpo.1 hpo.2)
      clear hpo hlk
      go_wp2_with fail
      refine HGET.out.mono ?_
      rintro e w2 ⟨rfl, hs2, hst2, ho2'⟩
      have HO2 : Hid (Only (fun k => F k ∨ G k) w w2) := (HO.out.alloc _).trans ho2' (fun k hk => by
        rcases hk with (hk | hk) | hk
        · exact Or.inl (Or.inl hk)
        · exact Or.inr hk.1
        · exact Or.inl (Or.inr hk))
      have HS2 : Hid (SpF 154 w2 (grow F w w2) g s o (ps ++ ps2.take (k + 1)) a en) := by
        rw [take_next HP.out, ← List.append_assoc]
        have hz2 := ho2'.size
        simp at hz2
        refine hs2.mono (fun j hj => ?_)
        rcases hj with (hj | hj) | hj
        · exact Or.inl hj
        · exact Or.inr ⟨hj.1, by omega⟩
        · have := hj.1
          simp at this
          exact Or.inr ⟨by omega, hj.2⟩
      have HST2 := Lib.hid hst2
      clear hs2 hst2 ho2'
      go_wp2_with fail
      go_roundw
      case rel => exact ⟨k + 1, by omega, by go_num, HS2, HST2, HO2⟩
      case measure => simp [intOf]; omega
    · have hlt' : ¬ (k : Int) < (n2 : Int) := by omega
      have HQ : Hid (SpF 154 wr H g2 s o ps2 a2 en2) := HH2.out.only HO.out (fun k hk hf => by
        rcases hf with hf | hf
        · exact (HD2.out k hk).1 hf
        · exact (HD2.out k hk).2 hf)
      have HSp2 : Hid (SpF 154 wr (grow F w wr) g s o (ps ++ ps2) a en) := by
        have := HSp.out
        rw [List.take_of_length_le (by rw [← HN2.out]; omega)] at this; exact this
      obtain ⟨-, qv2, hq2, -, -⟩ := id HQ.out
      obtain ⟨-, pv2, hp2, -, -⟩ := id HSp2.out
      have q3 := cells_of_block hq2 3
      have q4 := cells_of_block hq2 4
      have q2 := cells_of_block hq2 2
      have p3 := cells_of_block hp2 3
      have p4 := cells_of_block hp2 4
      simp at q2 q3 q4 p3 p4
      obtain ⟨q2, fq2⟩ := q2
      obtain ⟨q3, fq3⟩ := q3
      obtain ⟨q4, fq4⟩ := q4
      obtain ⟨p3, fp3⟩ := p3
      obtain ⟨p4, fp4⟩ := p4
      clear hq2 hp2
      by_cases he : 0 < en2
      · have he' : (0 : Int) < (en2 : Int) := by omega
        go_wp2_with fail
        go_region
        rename_i K hK
        refine hK _ _ ?_
        go_wp2_with fail
        go_ret
        have hend := join_end (W := (wr.setCell ⟨g, 3, none⟩ (.int .i64 a2)).setCell ⟨g, 4, none⟩ (.int .i64 en2)) (HSp2.out.at2 a2 en2) HSt.out HO.out (((Only.refl (grow F w wr) wr).setCell (p := ⟨g, 3, none⟩) (Or.inl (Or.inl HH.out.1)) _).setCell (p := ⟨g, 4, none⟩) (Or.inl (Or.inl HH.out.1)) _) (by simp [World.setCell]) HD.out HD2.out HGS.out HH2.out.1 HH2.out.lt
        exact ⟨rfl, join_drew hend⟩
      · have he' : ¬ (0 : Int) < (en2 : Int) := by omega
        go_wp2_with fail
        go_ret
        have hend := join_end (W := wr) HSp2.out HSt.out HO.out (Only.refl _ wr) rfl HD.out HD2.out HGS.out HH2.out.1 HH2.out.lt
        exact ⟨rfl, hend⟩
end Go.Proofs.YtcdpnfchmpncjaaGreatDoor
namespace Go.Proofs.YtcdpnfchmpncjaaGreatDoor
open Go.RowKit Go.Tr Go.Shelf
variable {w w' : World} {F G H : Nat → Prop} {g s o a en C Wd : Nat} {ps : List (Nat × Nat)} {ws own : List Nat}
theorem drop_end {w wr : World} {P : List (Nat × Nat)} {x y : Nat} (hp : SpF 154 wr (grow F w wr) g s o P a en) (hst : StF wr G s C Wd ws own) (ho : Only (fun k => F k ∨ G k) w wr) (hF : F g) (hd : ∀ k, F k → ¬ G k) :
    SpF 154 ((wr.setCell ⟨g, 3, none⟩ (.int .i64 (x : Nat))).setCell ⟨g, 4, none⟩ (.int .i64 (y : Nat))) (grow F w ((wr.setCell ⟨g, 3, none⟩ (.int .i64 (x : Nat))).setCell ⟨g, 4, none⟩ (.int .i64 (y : Nat)))) g s o P x y ∧ StF ((wr.setCell ⟨g, 3, none⟩ (.int .i64 (x : Nat))).setCell ⟨g, 4, none⟩ (.int .i64 (y : Nat))) G s C Wd ws own ∧ Only (fun k => F k ∨ G k) w ((wr.setCell ⟨g, 3, none⟩ (.int .i64 (x : Nat))).setCell ⟨g, 4, none⟩ (.int .i64 (y : Nat))) := by
  refine ⟨(hp.at2 x y).mono (fun k hk => ?_), hst.kept (fun k hk _ => ?_), (ho.setCell (p := ⟨g, 3, none⟩) (Or.inl (Or.inl hF)) _).setCell (p := ⟨g, 4, none⟩) (Or.inl (Or.inl hF)) _⟩
  · unfold grow at hk ⊢
    simpa [World.setCell] using hk
  · have hne : k ≠ g := fun e => hd g hF (e ▸ hk)
    rw [Below.heap_setCell _ _ _ _ hne, Below.heap_setCell _ _ _ _ hne]
set_option maxRecDepth 100000 in
theorem udrop_any (c m : Nat) (w : World) (h : SpF 154 w F g s o ps a en) (hS : StF w G s C Wd ws own) (hd : ∀ k, F k → ¬ G k) (hfs : ∀ k, F k → k < w.heap.size) (hgs : ∀ k, G k → k < w.heap.size) (hl : ps.length ≤ 100000) (hf : findPart ps c = some (c, m)) (hm : c + m ≤ C) (hown : ∀ i, c ≤ i → i < c + m → own.getD i 0 ≠ 0) :
    Calls Tryz.prog 70 #[.pointer (some ⟨g, 0, none⟩), .int .i64 c] w fun e w' => e = .returned (.int .i64 0) ∧ SpF 154 w' (grow F w w') g s o (ps.erase (c, m)) (if m = 1 ∧ en = (c + 1) * Wd then 0 else a) (if m = 1 ∧ en = (c + 1) * Wd then 0 else en) ∧ StF w' G s C Wd ws (putAt own c (List.replicate m 0)) ∧ Only (fun k => F k ∨ G k) w w' := by
  have HH := Lib.hid h
  have HD := Lib.hid hd
  have HGS := Lib.hid hgs
  have HFS := Lib.hid hfs
  have HOWN := Lib.hid hown
  have HST := Lib.hid hS
  have HFD := Lib.hid (ufind_any c w h (by omega))
  rw [hf] at HFD
  obtain ⟨wb, ob, mm, Fm, hst, -⟩ := id hS
  obtain ⟨hc1, hc2⟩ := hst.cb
  obtain ⟨hw1, hw2⟩ := hst.wd
  have holen := hst.olen
  obtain ⟨a', ha'⟩ : ∃ a', a' = (if m = 1 ∧ en = (c + 1) * Wd then 0 else a) := ⟨_, rfl⟩
  obtain ⟨en', he'⟩ : ∃ en', en' = (if m = 1 ∧ en = (c + 1) * Wd then 0 else en) := ⟨_, rfl⟩
  obtain ⟨ow, how⟩ : ∃ ow, ow = putAt own c (List.replicate m 0) := ⟨_, rfl⟩
  rw [← ha', ← he', ← how]
  have HA' := Lib.hid ha'
  have HE' := Lib.hid he'
  have HOW := Lib.hid how
  clear h hS hd hown hgs hfs hst hf ha' he' how
  go_enter Tryz.func70, Tryz.ntmps70
  go_wp2_with fail
  refine HFD.out.mono ?_
  rintro e w1 ⟨rfl, hb1⟩
  unfold partV
  have HB1 := Lib.hid hb1
  clear hb1
  go_wp2_with fail
  obtain ⟨xb, hxb⟩ : ∃ xb, xb = w1.heap.size := ⟨_, rfl⟩
  have HBX : Hid ((w1.alloc (.cells #[.int .i64 c, .int .i64 m] 199)).heap[xb]? = some (.cells #[.int .i64 c, .int .i64 m] 199 (0, 0))) := by rw [hxb]; exact heap_alloc_new _ _
  have HBW : Hid (Below w.heap.size w (w1.alloc (.cells #[.int .i64 c, .int .i64 m] 199))) := HB1.out.alloc HB1.out.size _
  have HXG : Hid (w.heap.size ≤ xb) := by rw [hxb]; exact HB1.out.size
  rw [← hxb]
  generalize w1.alloc (.cells #[.int .i64 c, .int .i64 m] 199) = w2 at *
  clear hxb HB1 HFD
  refine (ucut_any c m w2 (HH.out.kept (fun k _ hl => HBW.out.block k hl)) (by omega)).mono ?_
  rintro e w3 ⟨rfl, hsp, hon⟩
  have HSP : Hid (SpF 154 w3 (grow F w w3) g s o (ps.erase (c, m)) a en) := by
    have h1 := HBW.out.size
    exact hsp.mono (fun k hk => hk.imp id (fun h => ⟨by omega, h.2⟩))
  have HO3 : Hid (Only (fun k => F k ∨ G k) w w3) := ((Only.of_below HBW.out (fun k => F k ∨ G k)).trans (hon.mono (fun k hk => Or.inl hk)) (fun k hk => Or.inl hk))
  have HS3 : Hid (StF w3 G s C Wd ws (putAt own c (List.replicate 0 0))) := HST.out.kept (fun k hk hl => (hon.block k (Nat.lt_of_lt_of_le hl HBW.out.size) (fun hf => HD.out k hf hk)).trans (HBW.out.block k hl))
  have HX3 : Hid (w3.heap[xb]? = some (.cells #[.int .i64 c, .int .i64 m] 199 (0, 0))) := (hon.block xb (Array.getElem?_eq_some_iff.1 HBX.out).1 (fun hf => by have := HFS.out xb hf; have := HXG.out; omega)).trans HBX.out
  have HNX : Hid (¬ F xb ∧ ¬ G xb) := ⟨fun hf => by have := HFS.out xb hf; have := HXG.out; omega, fun hf => by have := HGS.out xb hf; have := HXG.out; omega⟩
  have x1 := (cells_of_block HX3.out 1).1
  simp at x1
  clear hsp hon HBW HBX
  go_wp2_with fail
  clear x1
  go_loopw [23] (fun i wr => ∃ j : Nat, j ≤ m ∧ i = .int .i64 (j : Int) ∧ Hid (SpF 154 wr (grow F w wr) g s o (ps.erase (c, m)) a en) ∧ Hid (StF wr G s C Wd ws (putAt own c (List.replicate j 0))) ∧ Hid (Only (fun k => F k ∨ G k) w wr) ∧ Hid (wr.heap[xb]? = some (.cells #[.int .i64 c, .int .i64 m] 199 (0, 0)))) (fun i _ => m - (intOf i).toNat)
  case atStart => exact ⟨0, Nat.zero_le _, rfl, HSP, HS3, HO3, HX3⟩
  case round =>
    clear HSP HS3 HO3 HX3
    obtain ⟨j, hj, rfl, HSp, HSt, HO, HX⟩ := hrel
    have x0 := (cells_of_block HX.out 0).1
    have x1 := (cells_of_block HX.out 1).1
    simp at x0 x1
    obtain ⟨-, pv2, hb2, -, -⟩ := id HSp.out
    have d0 := (cells_of_block hb2 0).1
    have d4 := (cells_of_block hb2 4).1
    have f4 := (cells_of_block hb2 4).2
    have f3 := (cells_of_block hb2 3).2
    have d3 := (cells_of_block hb2 3).1
    simp at d0 d3 d4
    clear hb2
    by_cases hjm : j < m
    · have hjm' : (j : Int) < (m : Int) := by omega
      have hoj : (putAt own c (List.replicate j 0)).getD (c + j) 0 ≠ 0 := by
        rw [putAt_get, if_neg (by simp)]
        exact HOWN.out (c + j) (by omega) (by omega)
      have HGV : Hid (∀ W : World, W.heap = wr.heap → Calls Tryz.prog 119 #[.pointer (some ⟨s, 0, none⟩), .int .i64 ((c : Int) + (j : Int))] W fun e w' => e = .returned (.int .i64 0) ∧ StF w' G s C Wd ws (putAt own c (List.replicate (j + 1) 0)) ∧ Only G W w' ∧ w'.heap.size = W.heap.size) := fun W e => by
        have := srelease_any (c + j) W (HSt.out.kept (fun k _ _ => by rw [e])) (by omega) hoj
        rw [List.replicate_succ', putAt_snoc, List.length_replicate]
        rw [Int.natCast_add] at this
        exact this
      have hwr : IntKind.i64.wrap ((c : Int) + (j : Int)) = (c : Int) + (j : Int) := by rw [IntWalk.i64_in _ (by omega)]
      clear hoj
      go_wp2_with fail
      refine wp_region_held_drew (S := fun W => W.cell? ⟨g, 0, none⟩ = some (.pointer (some ⟨s, 0, none⟩)) ∧ W.cell? ⟨xb, 0, none⟩ = some (.int .i64 c)) (by kernel_rfl) ⟨d0, x0⟩ (fun hH => ?_)
      refine takeH 0 (v := ?_) rfl (by kernel_rfl) (by kernel_rfl) (by kernel_rfl) (fun _ _ _ h => h) (by rfl) ?_ (by assumption) ?_
      rotate_left
      · intro W hW
        go_simp
        try with_reducible rfl
      try simp only [Act.put, List.setIfInBounds_toArray, List.set_cons_zero, List.set_cons_succ]
      refine takeH 1 (v := ?_) rfl (by kernel_rfl) (by kernel_rfl) (by kernel_rfl) (fun _ _ _ h => h) (by rfl) ?_ (by assumption) ?_
      rotate_left
      · intro W hW
        go_simp
        try with_reducible rfl
      try simp only [Act.put, List.setIfInBounds_toArray, List.set_cons_zero, List.set_cons_succ]
      refine takeH 2 (v := ?_) rfl (by kernel_rfl) (by kernel_rfl) (by kernel_rfl) (fun _ _ _ h => h) (by rfl) ?_ (by assumption) ?_
      rotate_left
      · intro W hW
        go_simp
        try with_reducible rfl
      try simp only [Act.put, List.setIfInBounds_toArray, List.set_cons_zero, List.set_cons_succ]
      refine takeH 3 (v := ?_) rfl (by kernel_rfl) (by kernel_rfl) (by kernel_rfl) (fun _ _ _ h => h) (by rfl) ?_ (by assumption) ?_
      rotate_left
      · intro W hW
        go_simp
        try with_reducible rfl
      try simp only [Act.put, List.setIfInBounds_toArray, List.set_cons_zero, List.set_cons_succ]
      refine takeH 4 (v := ?_) rfl (by kernel_rfl) (by kernel_rfl) (by kernel_rfl) (fun _ _ _ h => h) (by rfl) ?_ (by assumption) ?_
      rotate_left
      · intro W hW
        go_simp
        try with_reducible rfl
      try simp only [Act.put, List.setIfInBounds_toArray, List.set_cons_zero, List.set_cons_succ]
      refine takeH 5 (v := ?_) rfl (by kernel_rfl) (by kernel_rfl) (by kernel_rfl) (fun _ _ _ h => h) (by rfl) ?_ (by assumption) ?_
      rotate_left
      · intro W hW
        go_simp
        try with_reducible rfl
      try simp only [Act.put, List.setIfInBounds_toArray, List.set_cons_zero, List.set_cons_succ]
      refine takeH 6 (v := ?_) rfl (by kernel_rfl) (by kernel_rfl) (by kernel_rfl) (fun _ _ _ h => h) (by rfl) ?_ (by assumption) ?_
      rotate_left
      · intro W hW
        go_simp
        try with_reducible rfl
      try simp only [Act.put, List.setIfInBounds_toArray, List.set_cons_zero, List.set_cons_succ]
      refine takeH 7 (v := ?_) rfl (by kernel_rfl) (by kernel_rfl) (by kernel_rfl) (fun _ _ _ h => h) (by rfl) ?_ (by assumption) ?_
      rotate_left
      · intro W hW
        go_simp
        try with_reducible rfl
      try simp only [Act.put, List.setIfInBounds_toArray, List.set_cons_zero, List.set_cons_succ]
      refine wpAnyH_ready (rs := [8]) (by kernel_rfl) (by simp) (readyH rfl (fun K hK => ?_) AllReadyH.nil)
      rw [if_pos (by rfl)]
      go_simp
      refine (HGV.out wr.drew rfl).mono ?_
      rintro e w2' ⟨rfl, hst2, hon2, hsz2⟩
      have HS2 := Lib.hid hst2
      have HO2 : Hid (Only (fun k => F k ∨ G k) w w2') := HO.out.drew.trans (hon2.mono (fun k hk => Or.inr hk)) (fun k hk => Or.inl hk)
      have hkx : w2'.heap[xb]? = wr.heap[xb]? := hon2.block xb (Array.getElem?_eq_some_iff.1 HX.out).1 HNX.out.2
      have HX2 := Lib.hid (hkx.trans HX.out)
      have HSp2 : Hid (SpF 154 w2' (grow F w w2') g s o (ps.erase (c, m)) a en) := by
        refine (HSp.out.kept (fun k hk hl => hon2.block k hl (fun hg => ?_))).mono (fun k hk => hk.imp id (fun h => ⟨h.1, by rw [hsz2]; exact h.2⟩))
        rcases hk with hk | hk
        · exact HD.out k hk hg
        · have := HGS.out k hg; omega
      have hkg : w2'.heap[g]? = wr.heap[g]? := hon2.block g HSp.out.lt (HD.out g HH.out.1)
      have e0 := (World.cell?_of_block (a := ⟨g, 0, none⟩) hkg).trans d0
      have e2 := (World.cell?_of_block (a := ⟨xb, 0, none⟩) hkx).trans x0
      clear hst2 hon2 hsz2 hkx hkg
      refine hK.out _ _ ⟨e0, e2⟩ (fun hH => ?_)
      clear hK K
      try simp only [Act.put, List.setIfInBounds_toArray, List.set_cons_zero, List.set_cons_succ]
      refine wpAnyH_done (by kernel_rfl) ?_ _
      go_wp2_with fail
      go_roundw
      case rel => exact ⟨j + 1, by omega, by go_num, HSp2, HS2, HO2, HX2⟩
      case measure => simp [intOf]; omega
    · have hjm' : ¬ (j : Int) < (m : Int) := by omega
      have hjm2 : j = m := by omega
      have HSw : Hid (StF wr G s C Wd ws ow) := by rw [HOW.out, ← hjm2]; exact HSt.out
      have HWD : Hid (∀ W : World, W.heap = wr.heap → Calls Tryz.prog 68 #[.pointer (some ⟨s, 0, none⟩)] W fun e w' => e = .returned (.int .i64 Wd) ∧ W = w') := fun W e => swords_any W (HSw.out.kept (fun k _ _ => by rw [e]))
      have hcw : c * Wd + Wd ≤ 1048576 + 1024 := by
        have := Nat.mul_le_mul (show c ≤ 1024 by omega) hw2
        omega
      obtain ⟨m1, hm1⟩ : ∃ m1, m1 = c * Wd := ⟨_, rfl⟩
      have hx1 : (c : Int) * (Wd : Int) = (m1 : Int) := by rw [hm1]; push_cast; rfl
      have hx2 : ((c : Int) + 1) * (Wd : Int) = (m1 : Int) + (Wd : Int) := by rw [Int.add_mul, hx1, Int.one_mul]
      have HM1 : Hid ((c + 1) * Wd = m1 + Wd) := by show _ = _; rw [hm1, Nat.add_mul, Nat.one_mul]
      rw [← hm1] at hcw
      clear hm1 hx1
      clear hjm hjm2 hj
      by_cases hm1 : m = 1
      · subst hm1
        by_cases he : en = m1 + Wd
        · have he' : (en : Int) = (m1 : Int) + (Wd : Int) := by omega
          have ha1 : a' = 0 := by rw [HA'.out, HM1.out, if_pos ⟨rfl, he⟩]
          have he1 : en' = 0 := by rw [HE'.out, HM1.out, if_pos ⟨rfl, he⟩]
          subst ha1 he1
          clear he
          go_wp2_with fail
          go_quiet ((go_at_call 68; exact quiet_same (HWD.out _ rfl)))
          go_wp2
          go_ret
          exact ⟨rfl, drop_end (w := w) (wr := wr.drewN nq) (x := 0) (y := 0) (HSp.out.kept (fun _ _ _ => rfl)) (HSw.out.kept (fun _ _ _ => rfl)) (HO.out.drawn ⟨nq, rfl⟩) HH.out.1 HD.out⟩
        · have he' : ((en : Int) == (m1 : Int) + (Wd : Int)) = false := by simp; omega
          have ha1 : a' = a := by rw [HA'.out, HM1.out, if_neg (fun h => he h.2)]
          have he1 : en' = en := by rw [HE'.out, HM1.out, if_neg (fun h => he h.2)]
          subst ha1 he1
          clear he
          go_wp2_with fail
          go_quiet ((go_at_call 68; exact quiet_same (HWD.out _ rfl)))
          go_wp2
          go_ret
          exact ⟨rfl, HSp.out.kept (fun _ _ _ => rfl), HSw.out.kept (fun _ _ _ => rfl), HO.out.drawn ⟨nq, rfl⟩⟩
      · have hmm : ((m : Int) == 1) = false := by simp; omega
        have ha1 : a' = a := by rw [HA'.out, if_neg (fun h => hm1 h.1)]
        have he1 : en' = en := by rw [HE'.out, if_neg (fun h => hm1 h.1)]
        subst ha1 he1
        go_wp2_with fail
        go_quiet ((go_at_call 68; exact quiet_same (HWD.out _ rfl)))
        go_wp2
        go_ret
        exact ⟨rfl, HSp.out.kept (fun _ _ _ => rfl), HSw.out.kept (fun _ _ _ => rfl), HO.out.drawn ⟨nq, rfl⟩⟩
end Go.Proofs.YtcdpnfchmpncjaaGreatDoor
