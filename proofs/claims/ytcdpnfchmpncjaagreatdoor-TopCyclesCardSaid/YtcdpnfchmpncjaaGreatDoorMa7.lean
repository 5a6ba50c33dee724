/-
  Parts of the proof, one behind the other: KStore4, KBump.
-/
import Derived.Laws.ResultCell
import Derived.Laws.Rows
import Derived.Test.YtcdpnfchmpncjaaGreatDoorMa6
set_option linter.unusedSimpArgs false
set_option linter.unusedVariables false
namespace Go.Proofs.YtcdpnfchmpncjaaGreatDoor
open Go.RowKit Go.Tr Go.Shelf
variable {w w' : World} {g wb ob m C Wd : Nat} {ws own : List Nat} {F Fm : Nat → Prop}
set_option maxRecDepth 100000 in
theorem scopy_any (d s n : Nat) (w : World) (h : StF w F g C Wd ws own) (hn : 1 ≤ n) (hd : d + n ≤ C * Wd) (hs : s + n ≤ C * Wd) (od : Owned own Wd d n) (os : Owned own Wd s n) : Calls Tryz.prog 135 #[.pointer (some ⟨g, 0, none⟩), .int .i64 d, .int .i64 s, .int .i64 n] w fun e w' => e = .returned (.int .i64 0) ∧ StF w' F g C Wd (putAt ws d ((ws.drop s).take n)) own ∧ Only F w w' ∧ w'.heap.size = w.heap.size := by
  have HD := Lib.hid (sat_any d n w h hn hd od)
  have HS := Lib.hid (sat_any s n w h hn hs os)
  obtain ⟨wb, ob, m, Fm, h, h1, h2, h3, h4⟩ := h
  obtain ⟨c0, c1, c2, c3⟩ := h.head
  have HA := Lib.hid h
  have hbig : C * Wd ≤ 1048576 := Nat.le_trans (Nat.mul_le_mul h.cb.2 h.wd.2) (by decide)
  obtain ⟨sz, hsz⟩ : ∃ sz, sz = C * Wd := ⟨_, rfl⟩
  rw [← hsz] at c0 hbig hd hs
  have HSZ := Lib.hid hsz
  clear h od os hsz
  go_enter Tryz.func135, Tryz.ntmps135
  go_wp2_with fail
  refine HD.out.mono ?_
  rintro e w' ⟨rfl, rfl⟩
  go_wp2_with fail
  refine HS.out.mono ?_
  rintro e w' ⟨rfl, rfl⟩
  go_wp2_with fail
  have hr1 : IntKind.i64.wrap ((d : Int) + (n : Int)) = (d : Int) + (n : Int) := by rw [IntWalk.i64_in _ (by omega)]
  have hr2 : IntKind.i64.wrap ((s : Int) + (n : Int)) = (s : Int) + (n : Int) := by rw [IntWalk.i64_in _ (by omega)]
  have k1 : (d : Int) ≤ (d : Int) + (n : Int) := by omega
  have k2 : (d : Int) + (n : Int) ≤ (sz : Int) := by omega
  have k3 : (s : Int) ≤ (s : Int) + (n : Int) := by omega
  have k4 : (s : Int) + (n : Int) ≤ (sz : Int) := by omega
  have k5 : ¬ sz = d := by omega
  have k6 : ¬ sz = s := by omega
  have k7 : ((d : Int) + (n : Int)).toNat = d + n := by omega
  have k8 : ((s : Int) + (n : Int)).toNat = s + n := by omega
  refine wp_region_held_drew (S := fun W => W.cell? ⟨g, 0, none⟩ = some (.slice (some ⟨wb, 0, none⟩) sz sz)) (by kernel_rfl) c0 (fun hH => ?_)
  refine takeH 0 (v := ?_) rfl (by kernel_rfl) (by kernel_rfl) (by kernel_rfl) (fun _ _ _ h => h) (by rfl) ?_ (by assumption) ?_
  rotate_left
  · intro W hW
    go_simp
    try with_reducible rfl
  try simp only [Act.put, List.setIfInBounds_toArray, List.set_cons_zero, List.set_cons_succ]
  refine takeH 1 (v := ?_) rfl (by kernel_rfl) (by kernel_rfl) (by kernel_rfl) (fun _ _ _ h => h) (by rfl) ?_ (by assumption) ?_
  rotate_left
  · intro W hW
    go_simp
    try with_reducible rfl
  try simp only [Act.put, List.setIfInBounds_toArray, List.set_cons_zero, List.set_cons_succ]
  refine takeH 2 (v := ?_) rfl (by kernel_rfl) (by kernel_rfl) (by kernel_rfl) (fun _ _ _ h => h) (by rfl) ?_ (by assumption) ?_
  rotate_left
  · intro W hW
    go_simp
    try with_reducible rfl
  try simp only [Act.put, List.setIfInBounds_toArray, List.set_cons_zero, List.set_cons_succ]
  refine takeH 3 (v := ?_) rfl (by kernel_rfl) (by kernel_rfl) (by kernel_rfl) (fun _ _ _ h => h) (by rfl) ?_ (by assumption) ?_
  rotate_left
  · intro W hW
    go_simp
    try with_reducible rfl
  try simp only [Act.put, List.setIfInBounds_toArray, List.set_cons_zero, List.set_cons_succ]
  refine takeH 4 (v := ?_) rfl (by kernel_rfl) (by kernel_rfl) (by kernel_rfl) (fun _ _ _ h => h) (by rfl) ?_ (by assumption) ?_
  rotate_left
  · intro W hW
    go_simp
    try with_reducible rfl
  try simp only [Act.put, List.setIfInBounds_toArray, List.set_cons_zero, List.set_cons_succ]
  refine takeH 5 (v := ?_) rfl (by kernel_rfl) (by kernel_rfl) (by kernel_rfl) (fun _ _ _ h => h) (by rfl) ?_ (by assumption) ?_
  rotate_left
  · intro W hW
    go_simp
    try with_reducible rfl
  try simp only [Act.put, List.setIfInBounds_toArray, List.set_cons_zero, List.set_cons_succ]
  refine takeH 6 (v := ?_) rfl (by kernel_rfl) (by kernel_rfl) (by kernel_rfl) (fun _ _ _ h => h) (by rfl) ?_ (by assumption) ?_
  rotate_left
  · intro W hW
    go_simp
    try with_reducible rfl
  try simp only [Act.put, List.setIfInBounds_toArray, List.set_cons_zero, List.set_cons_succ]
  refine takeH 7 (v := ?_) rfl (by kernel_rfl) (by kernel_rfl) (by kernel_rfl) (fun _ _ _ h => h) (by rfl) ?_ (by assumption) ?_
  rotate_left
  · intro W hW
    go_simp
    try with_reducible rfl
  try simp only [Act.put, List.setIfInBounds_toArray, List.set_cons_zero, List.set_cons_succ]
  refine takeH 8 (v := ?_) rfl (by kernel_rfl) (by kernel_rfl) (by kernel_rfl) (fun _ _ _ h => h) (by rfl) ?_ (by assumption) ?_
  rotate_left
  · intro W hW
    go_simp
    try with_reducible rfl
  try simp only [Act.put, List.setIfInBounds_toArray, List.set_cons_zero, List.set_cons_succ]
  refine takeH 9 (v := ?_) rfl (by kernel_rfl) (by kernel_rfl) (by kernel_rfl) (fun _ _ _ h => h) (by rfl) ?_ (by assumption) ?_
  rotate_left
  · intro W hW
    go_simp
    try with_reducible rfl
  try simp only [Act.put, List.setIfInBounds_toArray, List.set_cons_zero, List.set_cons_succ]
  refine takeH 10 (v := ?_) rfl (by kernel_rfl) (by kernel_rfl) (by kernel_rfl) (fun _ _ _ h => h) (by rfl) ?_ (by assumption) ?_
  rotate_left
  · intro W hW
    go_simp
    try with_reducible rfl
  try simp only [Act.put, List.setIfInBounds_toArray, List.set_cons_zero, List.set_cons_succ]
  refine takeH 11 (v := ?_) rfl (by kernel_rfl) (by kernel_rfl) (by kernel_rfl) (fun _ _ _ h => h) (by rfl) ?_ (by assumption) ?_
  rotate_left
  · intro W hW
    go_simp
    try with_reducible rfl
  try simp only [Act.put, List.setIfInBounds_toArray, List.set_cons_zero, List.set_cons_succ]
  refine takeH 12 (v := ?_) rfl (by kernel_rfl) (by kernel_rfl) (by kernel_rfl) (fun _ _ _ h => h) (by rfl) ?_ (by assumption) ?_
  rotate_left
  · intro W hW
    go_simp
    try with_reducible rfl
  try simp only [Act.put, List.setIfInBounds_toArray, List.set_cons_zero, List.set_cons_succ]
  refine takeH 13 (v := ?_) rfl (by kernel_rfl) (by kernel_rfl) (by kernel_rfl) (fun _ _ _ h => h) (by rfl) ?_ (by assumption) ?_
  rotate_left
  · intro W hW
    go_simp
    try with_reducible rfl
  try simp only [Act.put, List.setIfInBounds_toArray, List.set_cons_zero, List.set_cons_succ]
  refine takeH 14 (v := ?_) rfl (by kernel_rfl) (by kernel_rfl) (by kernel_rfl) (fun _ _ _ h => h) (by rfl) ?_ (by assumption) ?_
  rotate_left
  · intro W hW
    go_simp
    try with_reducible rfl
  try simp only [Act.put, List.setIfInBounds_toArray, List.set_cons_zero, List.set_cons_succ]
  refine takeH 15 (v := ?_) rfl (by kernel_rfl) (by kernel_rfl) (by kernel_rfl) (fun _ _ _ h => h) (by rfl) ?_ (by assumption) ?_
  rotate_left
  · intro W hW
    go_simp
    try with_reducible rfl
  try simp only [Act.put, List.setIfInBounds_toArray, List.set_cons_zero, List.set_cons_succ]
  refine takeH 16 (v := ?_) rfl (by kernel_rfl) (by kernel_rfl) (by kernel_rfl) (fun _ _ _ h => h) (by rfl) ?_ (by assumption) ?_
  rotate_left
  · intro W hW
    go_simp
    try with_reducible rfl
  try simp only [Act.put, List.setIfInBounds_toArray, List.set_cons_zero, List.set_cons_succ]
  refine takeH 17 (v := ?_) rfl (by kernel_rfl) (by kernel_rfl) (by kernel_rfl) (fun _ _ _ h => h) (by rfl) ?_ (by assumption) ?_
  rotate_left
  · intro W hW
    go_simp
    try with_reducible rfl
  try simp only [Act.put, List.setIfInBounds_toArray, List.set_cons_zero, List.set_cons_succ]
  refine wpAnyH_ready (rs := [18]) (by kernel_rfl) (by simp) (readyH rfl (fun K hK => ?_) AllReadyH.nil)
  rw [if_pos (by rfl)]
  have hws : w.drew.heap[wb]? = some (.cells (us ws).toArray 34 (0, 0)) := HA.out.words
  have hlen : (us ((ws.drop s).take n)).length = n := by simp [us, HA.out.len, ← HSZ.out]; omega
  have hcs : ∀ j, j < (us ((ws.drop s).take n)).length → (w.drew.cell? ⟨wb, d + j, none⟩).isSome = true := fun j hj => by
    rw [hlen] at hj
    obtain ⟨x, hx⟩ : ∃ x, ws[d + j]? = some x := ⟨_, List.getElem?_eq_getElem (by rw [HA.out.len, ← HSZ.out]; omega)⟩
    rw [(us_cell hws hx).1]; rfl
  have hfs : ∀ j, j < (us ((ws.drop s).take n)).length → w.drew.frozen? ⟨wb, d + j, none⟩ = false := fun j hj => by simp [World.frozen?, hws]
  have hsrc : ∀ j v, (us ((ws.drop s).take n))[j]? = some v → w.drew.cell? ((⟨wb, s, none⟩ : Addr).add j) = some v := fun j v hv => by
    have hj : j < n := by have := (List.getElem?_eq_some_iff.1 hv).1; omega
    rw [Addr.add_lit, cell_of_row _ wb (s + j) _ _ (0, 0) hws]
    rw [us, List.getElem?_map, List.getElem?_take_of_lt hj, List.getElem?_drop, ← List.getElem?_map] at hv
    simpa [us] using hv
  obtain ⟨i0, hi, hz0, hz1, hz2⟩ := info_parts infoU64
  have hrun := run_copy_cells (P := Tryz.prog) w.drew 35 35 3 34 wb d n (sz - d) ⟨wb, s, none⟩ n (sz - s) (us ((ws.drop s).take n)) Tryz.underlying35 (by rw [hi]; simp [hz1]) (by rw [hlen]; simp) hsrc hcs hfs (fun v hv => by obtain ⟨x, -, rfl⟩ := List.mem_map.1 hv; rfl)
  rw [hlen] at hrun
  have HRUN := Lib.hid hrun
  clear hcs hfs hsrc hrun hi hz0 hz1 hz2
  refine wp_copy_runI _ (.tmp 43) (.tmp 52) 35 35 rfl (.slice (some ⟨wb, d, none⟩) n (sz - d)) (.slice (some ⟨wb, s, none⟩) n (sz - s)) (by rfl) (by rfl) HRUN.out ?_
  have hH2 : (w.drew.setCells wb d (us ((ws.drop s).take n))).cell? ⟨g, 0, none⟩ = some (.slice (some ⟨wb, 0, none⟩) sz sz) := (World.cell_kept (setCells_other HA.out.ne.1 _ _ _)).trans c0
  refine hK.out _ _ hH2 (fun hH => ?_)
  clear hK K HRUN
  try simp only [Act.put, List.setIfInBounds_toArray, List.set_cons_zero, List.set_cons_succ]
  refine wpAnyH_done (by kernel_rfl) ?_ _
  have HFIN : Hid (StAt (w.drew.setCells wb d (us ((ws.drop s).take n))) g wb ob m Fm C Wd (putAt ws d ((ws.drop s).take n)) own) :=
    ⟨(setCells_other HA.out.ne.1 _ _ _).trans HA.out.block, setCells_us _ _ _ _ hws, (setCells_other (Ne.symm HA.out.ne.2.2) _ _ _).trans HA.out.owners, HA.out.map.kept (fun k hk _ => setCells_other (fun e => HA.out.nf.2.1 (by rw [← e]; exact hk)) _ _ _), HA.out.ne, HA.out.nf, by rw [putAt_length]; exact HA.out.len, HA.out.olen, putAt_small HA.out.small (fun x hx => HA.out.small x (List.mem_of_mem_drop (List.mem_of_mem_take hx))), HA.out.cb, HA.out.wd⟩
  have HOF : Hid (Only F w (w.drew.setCells wb d (us ((ws.drop s).take n)))) := Only.setCells (Only.refl F w).drew (Or.inl h2) _ _
  have HSF : Hid ((w.drew.setCells wb d (us ((ws.drop s).take n))).heap.size = w.heap.size) := setCells_size _ _ _
  generalize w.drew.setCells wb d (us ((ws.drop s).take n)) = wf at *
  clear hH2 hws hlen c0 c1 c2 c3 hr1 hr2 k1 k2 k3 k4 k5 k6 k7 k8 hH
  go_wp2
  go_ret
  exact ⟨rfl, ⟨wb, ob, m, Fm, HFIN.out, h1, h2, h3, h4⟩, HOF.out, HSF.out⟩
theorem infoIntK : (Tryz.prog.info? 3).map (fun i => (i.zero, i.size, i.bytes)) = some (some (.int .i64 0), 1, 8) := by kernel_rfl
theorem made_ns (q : Nat) : madeCells (Value.int .i64 0).cells q = (ns (List.replicate q 0)).toArray := by
  apply Array.toList_inj.1
  show (madeCells #[Value.int .i64 0] q).toList = _
  rw [toList_madeCells_one]
  simp [ns, nv]
theorem make_ns (q : Nat) (w : World) (hq : q ≤ 1048576) : (Instr.makeSlice 42 (.int .i64 (q : Int)) (.int .i64 (q : Int))).run Tryz.prog w = .ok (.slice (some ⟨w.heap.size, 0, none⟩) q q) (w.alloc (.cells (ns (List.replicate q 0)).toArray 3)) := by
  obtain ⟨i0, hi, hz0, hz1, hz2⟩ := info_parts infoIntK
  have := run_make (P := Tryz.prog) w 42 3 i0 _ Tryz.underlying42 hi hz0 .i64 .i64 q q (by omega) (Int.le_refl _) (by rw [hz2]; omega) (by omega)
  rw [hz1, Int.toNat_natCast, Nat.mul_one, made_ns] at this
  exact this
theorem BMF.mono {F G : Nat → Prop} {w : World} {g n : Nat} {B : Nat → Bool} (h : BMF w F g n B) (hs : ∀ k, F k → G k) : BMF w G g n B := by
  obtain ⟨b, ws, h, h1, h2⟩ := h
  exact ⟨b, ws, h, hs _ h1, hs _ h2⟩
theorem onB_none (C : Nat) : onB (List.replicate C 0) = fun _ => false := by
  funext i
  by_cases h : i < C <;> simp [onB, List.getD, List.getElem?_replicate, h]
theorem st_new {w w1 W : World} {C Wd sz m b1 b2 : Nat} (hsz : sz = C * Wd) (hbl : Below w.heap.size w w1) (hm : BMF w1 (fun k => w.heap.size ≤ k ∧ k < w1.heap.size) m C fun _ => false) (hm0 : w.heap.size ≤ m) (hc : 1 ≤ C ∧ C ≤ 1024) (hd : 1 ≤ Wd ∧ Wd ≤ 1024) (hb : (b1 = w1.heap.size ∧ b2 = w1.heap.size + 1) ∨ (b1 = w1.heap.size + 1 ∧ b2 = w1.heap.size)) (hs : W.heap.size = w1.heap.size + 3)
    (hg : W.heap[w1.heap.size + 1 + 1]? = some (.cells #[.slice (some ⟨b1, 0, none⟩) sz sz, .int .i64 Wd, .slice (some ⟨b2, 0, none⟩) C C, .pointer (some ⟨m, 0, none⟩)] 98 (0, 0)))
    (h1 : W.heap[b1]? = some (.cells (us (List.replicate sz 0)).toArray 34 (0, 0))) (h2 : W.heap[b2]? = some (.cells (ns (List.replicate C 0)).toArray 3 (0, 0))) (hk : ∀ k, k < w1.heap.size → W.heap[k]? = w1.heap[k]?) :
    StF W (fun k => w.heap.size ≤ k ∧ k < W.heap.size) (w1.heap.size + 1 + 1) C Wd (List.replicate (C * Wd) 0) (List.replicate C 0) := by
  have hle := hbl.size
  subst hsz
  refine ⟨b1, b2, m, fun k => w.heap.size ≤ k ∧ k < w1.heap.size, ⟨by simpa using hg, h1, h2, ?_, by omega, by omega, by simp, by simp, ?_, hc, hd⟩, by omega, by omega, by omega, fun k hk => by omega⟩
  · rw [onB_none]; exact hm.kept (fun k hf hl => hk k hl)
  · intro x hx
    obtain rfl := List.eq_of_mem_replicate hx
    decide
theorem push3 (h : Array Obj) (a b c : Obj) : (((h.push a).push b).push c)[h.size]? = some a ∧ (((h.push a).push b).push c)[h.size + 1]? = some b ∧ (((h.push a).push b).push c)[h.size + 1 + 1]? = some c ∧ ∀ k, k < h.size → (((h.push a).push b).push c)[k]? = h[k]? := by
  refine ⟨?_, ?_, ?_, fun k hk => ?_⟩
  · rw [Array.getElem?_push, Array.getElem?_push, Array.getElem?_push, if_neg (by simp; omega), if_neg (by simp), if_pos rfl]
  · rw [Array.getElem?_push, Array.getElem?_push, if_neg (by simp), if_pos (by simp)]
  · rw [Array.getElem?_push, if_pos (by simp)]
  · rw [Array.getElem?_push, Array.getElem?_push, Array.getElem?_push, if_neg (by simp; omega), if_neg (by simp; omega), if_neg (by omega)]
set_option maxRecDepth 100000 in
set_option maxHeartbeats 1000000 in
theorem snew_any (C Wd : Nat) (w : World) (h1 : 1 ≤ C) (h2 : C ≤ 1024) (h3 : 1 ≤ Wd) (h4 : Wd ≤ 1024) : Calls Tryz.prog 73 #[.int .i64 C, .int .i64 Wd] w fun e w' => ∃ g, e = .returned (.tuple #[.pointer (some ⟨g, 0, none⟩), .int .i64 0]) ∧ StF w' (fun k => w.heap.size ≤ k ∧ k < w'.heap.size) g C Wd (List.replicate (C * Wd) 0) (List.replicate C 0) ∧ Below w.heap.size w w' := by
  have hbig : C * Wd ≤ 1048576 := Nat.le_trans (Nat.mul_le_mul h2 h4) (by decide)
  obtain ⟨sz, hsz⟩ : ∃ sz, sz = C * Wd := ⟨_, rfl⟩
  rw [← hsz] at hbig
  have hr1 : IntKind.i64.wrap ((C : Int) * (Wd : Int)) = (sz : Int) := by
    rw [show (C : Int) * (Wd : Int) = (sz : Int) by rw [hsz]; push_cast; rfl, IntWalk.i64_in _ (by omega)]
  have HSZ := Lib.hid hsz
  have HB := Lib.hid (mnewb_any C w h1 (by omega))
  clear hsz
  go_enter Tryz.func73, Tryz.ntmps73
  go_wp2_with fail
  refine HB.out.mono ?_
  rintro e w1 ⟨m, rfl, hm0, hm, hbl⟩
  have HM := Lib.hid hm
  have HBL := Lib.hid hbl
  have HM0 := Lib.hid hm0
  have hm1 := fun W => make_us sz W hbig
  have hm2 := fun W => make_ns C W (by omega)
  clear hm hbl hm0
  go_wp2_with fail
  go_region
  all_goals
    rename_i K hK
    refine hK _ _ ?_
    show Code.wp _ Code.ret (bodyPost _ _ _) _ _
    go_wp2
    go_ret2
    refine ⟨_, rfl, ?_, ?_⟩
  · exact st_new HSZ.out HBL.out HM.out HM0.out ⟨h1, h2⟩ ⟨h3, h4⟩ (Or.inl ⟨rfl, rfl⟩) (by simp) (push3 _ _ _ _).2.2.1 (push3 _ _ _ _).1 (push3 _ _ _ _).2.1 (push3 _ _ _ _).2.2.2
  · exact (((HBL.out.alloc HBL.out.size _).alloc (by have := HBL.out.size; simp; omega) _).alloc (by have := HBL.out.size; simp; omega) _).drew
  · exact st_new HSZ.out HBL.out HM.out HM0.out ⟨h1, h2⟩ ⟨h3, h4⟩ (Or.inr ⟨rfl, rfl⟩) (by simp) (push3 _ _ _ _).2.2.1 (push3 _ _ _ _).2.1 (push3 _ _ _ _).1 (push3 _ _ _ _).2.2.2
  · exact (((HBL.out.alloc HBL.out.size _).alloc (by have := HBL.out.size; simp; omega) _).alloc (by have := HBL.out.size; simp; omega) _).drew
end Go.Proofs.YtcdpnfchmpncjaaGreatDoor
namespace Go.Tr
open Go.RowKit
def pz (ps : List (Nat × Nat)) : List (Int × Int) := ps.map fun p => ((p.1 : Int), (p.2 : Int))
def pcells (ps : List (Nat × Nat)) : List Value := ecells (pz ps)
theorem pcells_length (ps : List (Nat × Nat)) : (pcells ps).length = ps.length * 2 := by rw [pcells, ecells_length, pz, List.length_map, Nat.mul_comm]
theorem pcells_append (ps qs : List (Nat × Nat)) : pcells (ps ++ qs) = pcells ps ++ pcells qs := by simp [pcells, pz, ecells_append]
theorem SeqAt.part {w : World} {a : Option Addr} {ps : List (Nat × Nat)} (h : SeqAt w a (pcells ps)) {k : Nat} (hk : k < ps.length) :
    ∃ b off c n, a = some ⟨b, off, none⟩ ∧ w.cell? ⟨b, off + k * 2, none⟩ = some (.int .i64 (c : Nat)) ∧ w.cell? ⟨b, off + k * 2 + 1, none⟩ = some (.int .i64 (n : Nat)) ∧ Hid (ps[k]? = some (c, n)) := by
  obtain ⟨b, off, x, y, e, h1, h2, h3⟩ := SeqAt.edge h (k := k) (by rw [pz, List.length_map]; exact hk)
  have h4 : ps[k]? = some ps[k] := List.getElem?_eq_getElem hk
  have h5 : (pz ps)[k]? = some (((ps[k]).1 : Int), ((ps[k]).2 : Int)) := by simp [pz, h4]
  rw [h3.out] at h5
  obtain ⟨rfl, rfl⟩ : x = ((ps[k]).1 : Int) ∧ y = ((ps[k]).2 : Int) := by simpa using h5
  exact ⟨b, off, _, _, e, h1, h2, h4⟩
def SpF (T : TypeId) (w : World) (F : Nat → Prop) (g s o : Nat) (ps : List (Nat × Nat)) (a en : Nat) : Prop :=
  F g ∧ ∃ pv, w.heap[g]? = some (.cells #[.pointer (some ⟨s, 0, none⟩), .int .i64 (o : Nat), pv, .int .i64 (a : Nat), .int .i64 (en : Nat)] T (0, 0)) ∧ OwnO w 2 pv ps.length (pcells ps) ∧ ∀ k, pv.ownBlock = some k → F k ∧ k ≠ g
variable {T : TypeId} {w w' : World} {F G : Nat → Prop} {g s o a en : Nat} {ps : List (Nat × Nat)}
theorem SpF.lt (h : SpF T w F g s o ps a en) : g < w.heap.size := by
  obtain ⟨_, pv, h2, _⟩ := h; exact (Array.getElem?_eq_some_iff.1 h2).1
theorem SpF.mono (h : SpF T w F g s o ps a en) (hs : ∀ k, F k → G k) : SpF T w G g s o ps a en := by
  obtain ⟨h1, pv, h2, h3, h4⟩ := h
  exact ⟨hs _ h1, pv, h2, h3, fun k hk => ⟨hs _ (h4 k hk).1, (h4 k hk).2⟩⟩
theorem SpF.kept (h : SpF T w F g s o ps a en) (hk : ∀ k, F k → k < w.heap.size → w'.heap[k]? = w.heap[k]?) : SpF T w' F g s o ps a en := by
  have hl := h.lt
  obtain ⟨h1, pv, h2, h3, h4⟩ := h
  exact ⟨h1, pv, (hk _ h1 hl).trans h2, h3.kept (fun k hb => hk k (h4 k hb).1 (h3.lt k hb)), h4⟩
theorem SpF.only (h : SpF T w F g s o ps a en) (ho : Only G w w') (hd : ∀ k, F k → ¬ G k) : SpF T w' F g s o ps a en := h.kept (fun k hf hl => ho.block k hl (hd k hf))
theorem SpF.head (h : SpF T w F g s o ps a en) : ∃ pa pc, w.cell? ⟨g, 0, none⟩ = some (.pointer (some ⟨s, 0, none⟩)) ∧ w.cell? ⟨g, 1, none⟩ = some (.int .i64 (o : Nat)) ∧ w.cell? ⟨g, 2, none⟩ = some (.slice pa ps.length pc) ∧ w.cell? ⟨g, 3, none⟩ = some (.int .i64 (a : Nat)) ∧ w.cell? ⟨g, 4, none⟩ = some (.int .i64 (en : Nat)) ∧ Hid (SeqAt w pa (pcells ps)) := by
  obtain ⟨h1, pv, h2, h3, h4⟩ := h
  obtain ⟨pa, pc, rfl, hs, -⟩ := h3.seq
  refine ⟨pa, pc, ?_, ?_, ?_, ?_, ?_, hs⟩
  · have := (cells_of_block h2 0).1; simpa using this
  · have := (cells_of_block h2 1).1; simpa using this
  · have := (cells_of_block h2 2).1; simpa using this
  · have := (cells_of_block h2 3).1; simpa using this
  · have := (cells_of_block h2 4).1; simpa using this
def findPart (ps : List (Nat × Nat)) (c : Nat) : Option (Nat × Nat) := ps.find? (fun p => p.1 == c)
def partV : Option (Nat × Nat) → Value
  | some p => .tuple #[.agg #[.int .i64 (p.1 : Nat), .int .i64 (p.2 : Nat)], .bool true]
  | none => .tuple #[.agg #[.int .i64 0, .int .i64 0], .bool false]
def bigPart (ps : List (Nat × Nat)) (c : Nat) : Bool := ps.any fun p => decide (1 < p.2) && decide (p.1 ≤ c) && decide (c < p.1 + p.2)
end Go.Tr
namespace Go.Tr
open Go.RowKit
theorem results_blk {P : Program} {fn : Func} {p u : Tmp} {ty : TypeId} (h : fn.results = #[.cell p ty, .tmp u]) (tmps : Array Value) (w : World) (g : Nat) (t : TypeId) (cs : Array Value) (fr : Nat × Nat) (d : TypeDesc)
    (hp : tmps.getD p undef = .pointer (some ⟨g, 0, none⟩)) (hg : w.heap[g]? = some (.cells cs t fr))
    (hu : P.underlying ty = some d) (hd : (match d with | .struct _ | .array _ _ => true | _ => false) = true) (hi : (P.info? ty).map (·.size) = some cs.size) :
    (results fn tmps).run P w = .ok (.tuple #[.agg cs, tmps.getD u undef]) w := by
  rw [results_cell_tmp h, hp]
  show ((loadVar ty ⟨g, 0, none⟩).run P w).andThen _ = _
  rw [run_loadVar_row w g t ty cs fr d hg hu hd hi]
  rfl
theorem findPart_drop {ps : List (Nat × Nat)} {k d m c : Nat} (h : ps[k]? = some (d, m)) : findPart (ps.drop k) c = if d = c then some (d, m) else findPart (ps.drop (k + 1)) c := by
  have h2 : ps.drop k = (d, m) :: ps.drop (k + 1) := by
    rw [List.drop_eq_getElem_cons (List.getElem?_eq_some_iff.1 h).1, (List.getElem?_eq_some_iff.1 h).2]
  rw [h2, findPart, List.find?_cons]
  by_cases e : d = c
  · simp [e]
  · have e2 : (d == c) = false := by simpa using e
    simp only [e2]
    rw [if_neg e]; rfl
theorem bigPart_drop {ps : List (Nat × Nat)} {k d m c : Nat} (h : ps[k]? = some (d, m)) : bigPart (ps.drop k) c = ((decide (1 < m) && decide (d ≤ c) && decide (c < d + m)) || bigPart (ps.drop (k + 1)) c) := by
  have h2 : ps.drop k = (d, m) :: ps.drop (k + 1) := by
    rw [List.drop_eq_getElem_cons (List.getElem?_eq_some_iff.1 h).1, (List.getElem?_eq_some_iff.1 h).2]
  rw [h2, bigPart, List.any_cons]; rfl
end Go.Tr
namespace Go.Proofs.YtcdpnfchmpncjaaGreatDoor
open Go.RowKit Go.Tr Go.Shelf
variable {w w' : World} {F G : Nat → Prop} {g s o a en : Nat} {ps : List (Nat × Nat)}
theorem infoPart : (Tryz.prog.info? 199).map (fun i => (i.zero, i.size, i.bytes)) = some (some (.agg #[.int .i64 0, .int .i64 0]), 2, 16) := by kernel_rfl
set_option maxRecDepth 100000 in
theorem unew_any (s o : Nat) (w : World) (ho : 1 ≤ o) : Calls Tryz.prog 35 #[.pointer (some ⟨s, 0, none⟩), .int .i64 o] w fun e w' => e = .returned (.tuple #[.pointer (some ⟨w.heap.size, 0, none⟩), .int .i64 0]) ∧ SpF 154 w' (grow (fun _ => False) w w') w.heap.size s o [] 0 0 ∧ Only (fun _ => False) w w' := by
  go_enter Tryz.func35, Tryz.ntmps35
  go_wp2
  go_ret2
  exact ⟨rfl, ⟨Or.inr (by simp), .slice none 0 0, heap_alloc_new _ _, OwnO.nil _ _, by simp [Value.ownBlock]⟩, (Only.refl _ w).alloc _⟩
set_option maxRecDepth 100000 in
theorem uroom_any (w : World) (h : SpF 154 w F g s o ps a en) (h1 : a ≤ en) (h2 : en ≤ 1048576) : Calls Tryz.prog 129 #[.pointer (some ⟨g, 0, none⟩)] w fun e w' => e = .returned (.int .i64 (en - a : Nat)) ∧ Drawn w w' := by
  obtain ⟨pa, pc, c0, c1, c2, c3, c4, -⟩ := h.head
  have hr : IntKind.i64.wrap ((en : Int) - (a : Int)) = ((en - a : Nat) : Int) := by rw [IntWalk.i64_in _ (by omega)]; omega
  clear h
  go_enter Tryz.func129, Tryz.ntmps129
  go_wp2_with fail
  go_quiet (fail)
  go_wp2
  go_ret
  exact ⟨rfl, ⟨_, rfl⟩⟩
set_option maxRecDepth 100000 in
theorem ufind_any (c : Nat) (w : World) (h : SpF 154 w F g s o ps a en) (hn : ps.length ≤ 1048576) : Calls Tryz.prog 117 #[.pointer (some ⟨g, 0, none⟩), .int .i64 c] w fun e w' => e = .returned (partV (findPart ps c)) ∧ Below w.heap.size w w' := by
  obtain ⟨pa, pc, c0, c1, c2, c3, c4, HS⟩ := h.head
  obtain ⟨n, hpn⟩ : ∃ n, n = ps.length := ⟨_, rfl⟩
  rw [← hpn] at c2 hn
  have HPN := Lib.hid hpn
  have hg := h.lt
  clear h hpn
  go_enter Tryz.func117, Tryz.ntmps117
  go_wp2_with fail
  go_loopw [13] (fun i wr => ∃ k : Nat, k ≤ n ∧ i = .int .i64 (k : Int) ∧ Hid (findPart ps c = findPart (ps.drop k) c) ∧ Hid (Below w.heap.size w wr) ∧ Hid (w.heap.size + 1 ≤ wr.heap.size) ∧ Hid (wr.heap[w.heap.size]? = some (.cells #[.int .i64 0, .int .i64 0] 199 (0, 0)))) (fun i _ => n - (intOf i).toNat)
  case atStart => exact ⟨0, Nat.zero_le _, rfl, rfl, (Below.refl _ w).alloc (Nat.le_refl _) _, by show _ ≤ _; simp, heap_alloc_new _ _⟩
  case round =>
    obtain ⟨k, hk, rfl, HK, HB, HZ, HR⟩ := hrel
    have hrl : w.heap.size < wr.heap.size := HZ.out
    obtain ⟨rb, hrb⟩ : ∃ rb, rb = w.heap.size := ⟨_, rfl⟩
    rw [← hrb] at HR hrl
    have cr0 := (cells_of_block HR.out 0).1
    have cr1 := (cells_of_block HR.out 1).1
    have fr0 := (cells_of_block HR.out 0).2
    have fr1 := (cells_of_block HR.out 1).2
    simp at cr0 cr1
    have HRB := Lib.hid hrb
    by_cases hlt : k < n
    · obtain ⟨b, off, d, m, rfl, hc1, hc2, HP⟩ := (HS.out.below HB.out (Nat.le_refl _)).part (k := k) (by rw [← HPN.out]; exact hlt)
      have br0 := fun u => (World.cell?_of_block (a := ⟨rb, 0, none⟩) (Below.heap_alloc wr u rb hrl)).trans cr0
      have br1 := fun u => (World.cell?_of_block (a := ⟨rb, 1, none⟩) (Below.heap_alloc wr u rb hrl)).trans cr1
      have gr0 := fun u => (World.frozen?_of_block (a := ⟨rb, 0, none⟩) (Below.heap_alloc wr u rb hrl)).trans fr0
      have gr1 := fun u => (World.frozen?_of_block (a := ⟨rb, 1, none⟩) (Below.heap_alloc wr u rb hrl)).trans fr1
      rw [← hrb]
      clear hrb hrl
      by_cases hdc : d = c
      · subst hdc
        go_wp2_with fail
        try simp only [Exit.inBlock, Exit.then]
        have hbk : (((wr.alloc (.cells #[.int .i64 d, .int .i64 m] 199)).setCell ⟨rb, 0, none⟩ (.int .i64 d)).setCell ⟨rb, 1, none⟩ (.int .i64 m)).heap[rb]? = some (.cells #[.int .i64 d, .int .i64 m] 199 (0, 0)) := by
          have hrl : rb < wr.heap.size := (Array.getElem?_eq_some_iff.1 HR.out).1
          simpa using block_setCell (block_setCell ((Below.heap_alloc wr _ rb hrl).trans HR.out) 0 (.int .i64 d)) 1 (.int .i64 m)
        refine bodyPost_ret (results_blk rfl _ _ rb _ _ _ _ rfl hbk Tryz.underlying199 rfl rfl) rfl ⟨?_, ?_⟩
        · rw [HK.out, findPart_drop HP.out, if_pos rfl]; rfl
        · have e := HRB.out
          exact ((HB.out.alloc HB.out.size _).setCell (by simp; omega) _).setCell (by simp; omega) _
      · have hdc' : ((d : Int) == (c : Int)) = false := by simp; omega
        go_wp2_with fail
        go_roundw
        case rel =>
          refine ⟨k + 1, by omega, by go_num, ?_, ?_, ?_, ?_⟩
          · show _ = _
            rw [HK.out, findPart_drop HP.out, if_neg hdc]
          · have e := HRB.out
            rw [e]
            exact HB.out.alloc HB.out.size _
          · have e := HRB.out
            have := HZ.out
            show _ ≤ _
            simp; omega
          · have hrl : rb < wr.heap.size := (Array.getElem?_eq_some_iff.1 HR.out).1
            exact (Below.heap_alloc wr _ rb hrl).trans HR.out
        case measure => simp [intOf]; omega
    · rw [← hrb]
      clear hrb hrl
      go_wp2_with fail
      have hbk : ((wr.setCell ⟨rb, 0, none⟩ (.int .i64 0)).setCell ⟨rb, 1, none⟩ (.int .i64 0)).heap[rb]? = some (.cells #[.int .i64 0, .int .i64 0] 199 (0, 0)) := by
        simpa using block_setCell (block_setCell HR.out 0 (.int .i64 0)) 1 (.int .i64 0)
      refine bodyPost_ret (results_blk rfl _ _ rb _ _ _ _ rfl hbk Tryz.underlying199 rfl rfl) rfl ⟨?_, ?_⟩
      · have : ps.drop k = [] := by have := HPN.out; apply List.drop_eq_nil_of_le; omega
        rw [HK.out, this]; rfl
      · have e := HRB.out
        exact (HB.out.setCell (by simp; omega) _).setCell (by simp; omega) _
set_option maxRecDepth 100000 in
theorem ubig_any (c : Nat) (w : World) (h : SpF 154 w F g s o ps a en) (hn : ps.length ≤ 1048576) (hp : ∀ p ∈ ps, p.1 + p.2 ≤ 1048576) : Calls Tryz.prog 152 #[.pointer (some ⟨g, 0, none⟩), .int .i64 c] w fun e w' => e = .returned (.bool (bigPart ps c)) ∧ Below w.heap.size w w' := by
  obtain ⟨pa, pc, c0, c1, c2, c3, c4, HS⟩ := h.head
  obtain ⟨n, hpn⟩ : ∃ n, n = ps.length := ⟨_, rfl⟩
  rw [← hpn] at c2 hn
  have HPN := Lib.hid hpn
  have HPS := Lib.hid hp
  clear h hpn hp
  go_enter Tryz.func152, Tryz.ntmps152
  go_wp2_with fail
  go_loopw [14] (fun i wr => ∃ k : Nat, k ≤ n ∧ i = .int .i64 (k : Int) ∧ Hid (bigPart ps c = bigPart (ps.drop k) c) ∧ Hid (Below w.heap.size w wr)) (fun i _ => n - (intOf i).toNat)
  case atStart => exact ⟨0, Nat.zero_le _, rfl, rfl, Below.refl _ w⟩
  case round =>
    obtain ⟨k, hk, rfl, HK, HB⟩ := hrel
    by_cases hlt : k < n
    · obtain ⟨b, off, d, m, rfl, hc1, hc2, HP⟩ := (HS.out.below HB.out (Nat.le_refl _)).part (k := k) (by rw [← HPN.out]; exact hlt)
      have hdm : d + m ≤ 1048576 := HPS.out _ (List.mem_of_getElem? HP.out)
      have hrel : bigPart ps c = ((decide (1 < m) && decide (d ≤ c) && decide (c < d + m)) || bigPart (ps.drop (k + 1)) c) := by rw [HK.out, bigPart_drop HP.out]
      have hbl := HB.out.alloc HB.out.size (.cells #[.int .i64 d, .int .i64 m] 199)
      have HBL := Lib.hid hbl
      clear hbl
      by_cases h1 : 1 < m
      · have h1' : (1 : Int) < (m : Int) := by omega
        by_cases h2 : d ≤ c
        · have h2' : (d : Int) ≤ (c : Int) := by omega
          by_cases h3 : c < d + m
          · have h3' : (c : Int) < (d : Int) + (m : Int) := by omega
            have HR : Hid (bigPart ps c = true) := by show _ = _; rw [hrel]; simp [h1, h2, h3]
            clear hrel
            go_wp2
            go_ret
            exact ⟨by rw [HR.out]; rfl, HBL.out⟩
          · have h3' : ¬ (c : Int) < (d : Int) + (m : Int) := by omega
            have HR : Hid (bigPart ps c = bigPart (ps.drop (k + 1)) c) := by show _ = _; rw [hrel]; simp [h3]
            clear hrel
            go_wp2
            go_roundw
            case rel => exact ⟨k + 1, by omega, by go_num, HR, HBL⟩
            case measure => simp [intOf]; omega
        · have h2' : ¬ (d : Int) ≤ (c : Int) := by omega
          have HR : Hid (bigPart ps c = bigPart (ps.drop (k + 1)) c) := by show _ = _; rw [hrel]; simp [h2]
          clear hrel
          go_wp2
          go_roundw
          case rel => exact ⟨k + 1, by omega, by go_num, HR, HBL⟩
          case measure => simp [intOf]; omega
      · have h1' : ¬ (1 : Int) < (m : Int) := by omega
        have HR : Hid (bigPart ps c = bigPart (ps.drop (k + 1)) c) := by show _ = _; rw [hrel]; simp [h1]
        clear hrel
        go_wp2
        go_roundw
        case rel => exact ⟨k + 1, by omega, by go_num, HR, HBL⟩
        case measure => simp [intOf]; omega
    · have HR : Hid (bigPart ps c = false) := by
        have : ps.drop k = [] := by have := HPN.out; apply List.drop_eq_nil_of_le; omega
        show _ = _
        rw [HK.out, this]; rfl
      go_wp2
      go_ret
      exact ⟨by rw [HR.out]; rfl, HB.out⟩
end Go.Proofs.YtcdpnfchmpncjaaGreatDoor
