/-
  Whether any graph may be, its order, and the edges of any vertex, are the document's: the walk of the statement.
-/
import Derived.Test.YtenpmbebghlnkaaDoorKShows
namespace Go.Proofs.YtenpmbebghlnkaaDoor
open Go.RowKit Go.Proofs.YtenpmbebghlnkaaDoorW.PrintWords Go.Proofs.YtenpmbebghlnkaaDoorW.PrintLast Go.Proofs.YtenpmbebghlnkaaDoorW.PrintMore
set_option linter.unusedVariables false
set_option linter.unusedSimpArgs false
attribute [local go_sem] max2_int min2_int max_two min_two max_three min_three max_four min_four
theorem refOut_C (n : Int) (A : Option Addr) (c : Nat) (es : List Edge) (v : Int) (w : World) (hC : KE.C w A es.length es) (h : Graph.check ⟨n, es⟩ = 0) :
    Calls Tryd.prog 20 #[.agg #[.int .i64 n, .slice A es.length c], .int .i64 v] w fun e w' => ∃ A' c', e = .returned (.slice A' ((norm es).filter (fun x => x.src == v)).length c') ∧ KE.C w' A' ((norm es).filter (fun x => x.src == v)).length ((norm es).filter (fun x => x.src == v)) ∧ Below w.heap.size w w' ∧ ((norm es).filter (fun x => x.src == v)).length ≤ c' :=
  (refOut_ok n A c es v w hC h).mono fun e w' ⟨u, he, hR, hb⟩ => by
    obtain ⟨A', c', rfl, hl', hC'⟩ := Kd.R_reads hR
    exact ⟨A', c', he, hC', hb, hl'⟩
theorem refIn_C (n : Int) (A : Option Addr) (c : Nat) (es : List Edge) (v : Int) (w : World) (hC : KE.C w A es.length es) (h : Graph.check ⟨n, es⟩ = 0) :
    Calls Tryd.prog 21 #[.agg #[.int .i64 n, .slice A es.length c], .int .i64 v] w fun e w' => ∃ A' c', e = .returned (.slice A' ((norm es).filter (fun x => x.dst == v)).length c') ∧ KE.C w' A' ((norm es).filter (fun x => x.dst == v)).length ((norm es).filter (fun x => x.dst == v)) ∧ Below w.heap.size w w' ∧ ((norm es).filter (fun x => x.dst == v)).length ≤ c' :=
  (refIn_ok n A c es v w hC h).mono fun e w' ⟨u, he, hR, hb⟩ => by
    obtain ⟨A', c', rfl, hl', hC'⟩ := Kd.R_reads hR
    exact ⟨A', c', he, hC', hb, hl'⟩
theorem row_true (A1 A2 : Option Addr) (c1 c2 : Nat) (l : List Edge) (w : World) (h1 : KE.C w A1 l.length l) (h2 : KE.C w A2 l.length l) (q1 : l.length ≤ c1) (q2 : l.length ≤ c2) :
    Calls Tryd.prog 19 #[.slice A1 l.length c1, .slice A2 l.length c2] w fun e w' => e = .returned (.bool true) ∧ Below w.heap.size w w' :=
  (rowE _ _ l l w ⟨A1, c1, rfl, q1, h1⟩ ⟨A2, c2, rfl, q2, h2⟩).mono fun e w' ⟨he, hd⟩ => ⟨by rw [he]; simp, drawn_below hd⟩
theorem same_zero (w : World) : Calls Tryd.prog 15 #[.agg #[.int .i64 0, .slice none 0 0], .agg #[.int .i64 0, .slice none 0 0]] w fun e w' => e = .returned (.bool true) ∧ Below w.heap.size w w' :=
  same_true 0 none none 0 0 [] w (Kd.C_nil KE w) (Kd.C_nil KE w) (Nat.le_refl _) (Nat.le_refl _)
set_option maxRecDepth 100000 in
set_option maxHeartbeats 4000000 in
theorem checks_long (n : Int) (A : Option Addr) (c : Nat) (es : List Edge) (v : Int) (w : World) (hC : KE.C w A es.length es) (hL : Laid w) (hlen : 600 < es.length) : Calls Tryd.prog 3 #[.agg #[.int .i64 n, .slice A es.length c], .int .i64 v] w fun e w' => e = .returned (.bool true) ∧ Below w.heap.size w w' := by
  have hm : es.length ≤ 9223372036854775807 := hC.2.1
  obtain ⟨w0, hw0⟩ : ∃ w0 : World, w.alloc (.cells #[.int .i64 n, .slice A es.length c] 24) = w0 := ⟨_, rfl⟩
  have hb0 : Below w.heap.size w w0 := by rw [← hw0]; exact (Below.refl _ w).alloc (Nat.le_refl _) _
  have hg0 : w0.heap[w.heap.size]? = some (.cells #[.int .i64 n, .slice A es.length c] 24 (0, 0)) := by rw [← hw0]; exact World.alloc_heap_new w _
  have HA := Aside0.mk (awake_any w0 (hL.below hb0))
  have HL0 := Aside0.mk (hL.below hb0)
  have HC0 := Aside0.mk (Kd.C_below hC hb0)
  have HB0 := Aside0.mk hb0
  have HG0 := Aside0.mk hg0
  have HW0 := Aside0.mk hw0
  clear hL hC hb0 hg0 hw0
  go_enter Tryd.func3, Tryd.ntmps3
  go_wp2_with fail
  rw [HW0.out]
  refine HA.out.mono ?_
  rintro e w1 ⟨rfl, hb1⟩
  have hg1 := (hb1.block _ (blk_lt HG0.out)).trans HG0.out
  have c1 : w1.cell? ⟨w.heap.size, 1, none⟩ = some (.slice A es.length c) := by rw [blk_cell hg1]; rfl
  have HA2 := Aside0.mk (awake_any w1 (HL0.out.below hb1))
  have HB1 := Aside0.mk (below_step HB0.out hb1)
  clear hb1 hg1
  go_wp2_with (go_at_call 10; refine HA2.out.mono ?_; rintro e w2 ⟨rfl, hb2⟩; have HB2 := Aside0.mk (below_step HB1.out hb2); clear hb2)
  go_ret
  exact ⟨rfl, HB2.out⟩
set_option maxRecDepth 100000 in
set_option maxHeartbeats 4000000 in
theorem checks_ok (n : Int) (A : Option Addr) (c : Nat) (es : List Edge) (v : Int) (w : World) (hC : KE.C w A es.length es) (hL : Laid w) (hlen : ¬ 600 < es.length) (hch : Graph.check ⟨n, es⟩ = 0) : Calls Tryd.prog 3 #[.agg #[.int .i64 n, .slice A es.length c], .int .i64 v] w fun e w' => e = .returned (.bool true) ∧ Below w.heap.size w w' := by
  have hm : es.length ≤ 9223372036854775807 := hC.2.1
  obtain ⟨w0, hw0⟩ : ∃ w0 : World, w.alloc (.cells #[.int .i64 n, .slice A es.length c] 24) = w0 := ⟨_, rfl⟩
  have hb0 : Below w.heap.size w w0 := by rw [← hw0]; exact (Below.refl _ w).alloc (Nat.le_refl _) _
  have hg0 : w0.heap[w.heap.size]? = some (.cells #[.int .i64 n, .slice A es.length c] 24 (0, 0)) := by rw [← hw0]; exact World.alloc_heap_new w _
  have HA := Aside0.mk (awake_any w0 (hL.below hb0))
  have HL0 := Aside0.mk (hL.below hb0)
  have HC0 := Aside0.mk (Kd.C_below hC hb0)
  have HB0 := Aside0.mk hb0
  have HG0 := Aside0.mk hg0
  have HW0 := Aside0.mk hw0
  clear hL hC hb0 hg0 hw0
  have HCH := Aside0.mk hch
  clear hch
  go_enter Tryd.func3, Tryd.ntmps3
  go_wp2_with fail
  rw [HW0.out]
  refine HA.out.mono ?_
  rintro e w1 ⟨rfl, hb1⟩
  have hg1 := (hb1.block _ (blk_lt HG0.out)).trans HG0.out
  have c0 : w1.cell? ⟨w.heap.size, 0, none⟩ = some (.int .i64 n) := by rw [blk_cell hg1]; rfl
  have c1 : w1.cell? ⟨w.heap.size, 1, none⟩ = some (.slice A es.length c) := by rw [blk_cell hg1]; rfl
  have HG1 := Aside0.mk hg1
  have HC1 := Aside0.mk (Kd.C_below HC0.out hb1)
  have HK1 := Aside0.mk (refCheck_any n A c es w1 HC1.out)
  rw [HCH.out] at HK1
  have HB1 := Aside0.mk (below_step HB0.out hb1)
  clear hb1 hg1
  go_wp2_with fail
  refine HK1.out.mono ?_
  rintro e w2 ⟨rfl, hb2⟩
  have hg2 := (hb2.block _ (blk_lt HG1.out)).trans HG1.out
  have d0 : w2.cell? ⟨w.heap.size, 0, none⟩ = some (.int .i64 n) := by rw [blk_cell hg2]; rfl
  have d1 : w2.cell? ⟨w.heap.size, 1, none⟩ = some (.slice A es.length c) := by rw [blk_cell hg2]; rfl
  have HG2 := Aside0.mk hg2
  have HC2 := Aside0.mk (Kd.C_below HC1.out hb2)
  have HO2 := Aside0.mk (own_C n A c es w2 HC2.out (by omega))
  have HB2 := Aside0.mk (below_step HB1.out hb2)
  clear hb2 hg2
  go_wp2_with fail
  refine HO2.out.mono ?_
  rintro e w3 ⟨A3, c3, rfl, hC3, hb3, _⟩
  have HG3 := Aside0.mk ((hb3.block _ (blk_lt HG2.out)).trans HG2.out)
  have HC3 := Aside0.mk (Kd.C_below HC2.out hb3)
  have HN3 := Aside0.mk (norm_C n A3 c3 es w3 hC3 HCH.out)
  have HB3 := Aside0.mk (below_step HB2.out hb3)
  clear hb3 hC3
  go_wp2_with fail
  refine HN3.out.mono ?_
  rintro e w4 ⟨A4, c4, rfl, hC4, hb4, hl4⟩
  have hg4 := (hb4.block _ (blk_lt HG3.out)).trans HG3.out
  have e0 : w4.cell? ⟨w.heap.size, 0, none⟩ = some (.int .i64 n) := by rw [blk_cell hg4]; rfl
  have e1 : w4.cell? ⟨w.heap.size, 1, none⟩ = some (.slice A es.length c) := by rw [blk_cell hg4]; rfl
  have hltw : w.heap.size < w4.heap.size := blk_lt hg4
  obtain ⟨W, hW⟩ : ∃ W : World, w4.alloc (.cells #[.int .i64 n, .slice A4 (norm es).length c4] 24) = W := ⟨_, rfl⟩
  have hbW : Below w4.heap.size w4 W := by rw [← hW]; exact (Below.refl _ w4).alloc (Nat.le_refl _) _
  have hgW := (hbW.block _ (blk_lt hg4)).trans hg4
  have hgN : W.heap[w4.heap.size]? = some (.cells #[.int .i64 n, .slice A4 (norm es).length c4] 24 (0, 0)) := by rw [← hW]; exact World.alloc_heap_new w4 _
  have CW := Kd.C_below (Kd.C_below HC3.out hb4) hbW
  have CN := Kd.C_below hC4 hbW
  have HBW := Aside0.mk (below_step (below_step HB3.out hb4) hbW)
  have HOW : ∀ w', Below W.heap.size W w' → Calls Tryd.prog 13 #[.agg #[.int .i64 n, .slice A es.length c]] w' fun e w'' => ∃ A' c', e = .returned (.agg #[.int .i64 n, .slice A' es.length c']) ∧ Aside0 (KE.C w'' A' es.length es) ∧ Below W.heap.size W w'' := fun w' hI =>
    (own_C n A c es w' (Kd.C_below CW hI) (by omega)).mono fun e w'' ⟨A', c', he, hC, hb, _⟩ => ⟨A', c', he, ⟨hC⟩, below_step hI hb⟩
  have HCK : ∀ w' A' c', Below W.heap.size W w' → Aside0 (KE.C w' A' es.length es) → Calls Tryd.prog 14 #[.agg #[.int .i64 n, .slice A' es.length c']] w' fun e w'' => e = .returned (.int .i64 0) ∧ Below W.heap.size W w'' := fun w' A' c' hI hC =>
    (check_any n A' c' es w' hC.out).mono fun e w'' ⟨he, hb⟩ => ⟨by rw [he, HCH.out], below_step hI hb⟩
  have HOU : ∀ w' A' c', Below W.heap.size W w' → Aside0 (KE.C w' A' es.length es) → Calls Tryd.prog 16 #[.agg #[.int .i64 n, .slice A' es.length c'], .int .i64 v] w' fun e w'' => ∃ A'' c'', e = .returned (.slice A'' ((norm es).filter (fun x => x.src == v)).length c'') ∧ Aside0 (KE.C w'' A'' ((norm es).filter (fun x => x.src == v)).length ((norm es).filter (fun x => x.src == v))) ∧ Below W.heap.size W w'' ∧ ((norm es).filter (fun x => x.src == v)).length ≤ c'' := fun w' A' c' hI hC =>
    (out_C n A' c' es v w' hC.out HCH.out).mono fun e w'' ⟨A'', c'', he, hC'', hb, hl⟩ => ⟨A'', c'', he, ⟨hC''⟩, below_step hI hb, hl⟩
  have HIN : ∀ w' A' c', Below W.heap.size W w' → Aside0 (KE.C w' A' es.length es) → Calls Tryd.prog 17 #[.agg #[.int .i64 n, .slice A' es.length c'], .int .i64 v] w' fun e w'' => ∃ A'' c'', e = .returned (.slice A'' ((norm es).filter (fun x => x.dst == v)).length c'') ∧ Aside0 (KE.C w'' A'' ((norm es).filter (fun x => x.dst == v)).length ((norm es).filter (fun x => x.dst == v))) ∧ Below W.heap.size W w'' ∧ ((norm es).filter (fun x => x.dst == v)).length ≤ c'' := fun w' A' c' hI hC =>
    (in_C n A' c' es v w' hC.out HCH.out).mono fun e w'' ⟨A'', c'', he, hC'', hb, hl⟩ => ⟨A'', c'', he, ⟨hC''⟩, below_step hI hb, hl⟩
  have HRO : ∀ w' A' c', Below W.heap.size W w' → Aside0 (KE.C w' A' ((norm es).filter (fun x => x.src == v)).length ((norm es).filter (fun x => x.src == v))) → ((norm es).filter (fun x => x.src == v)).length ≤ c' → Calls Tryd.prog 20 #[.agg #[.int .i64 n, .slice A es.length c], .int .i64 v] w' fun e w'' => ∃ A'' c'', e = .returned (.slice A'' ((norm es).filter (fun x => x.src == v)).length c'') ∧ Below W.heap.size W w'' ∧ Aside0 (Calls Tryd.prog 19 #[.slice A' ((norm es).filter (fun x => x.src == v)).length c', .slice A'' ((norm es).filter (fun x => x.src == v)).length c''] w'' fun e w3 => e = .returned (.bool true) ∧ Below W.heap.size W w3) := fun w' A' c' hI hC hl =>
    (refOut_C n A c es v w' (Kd.C_below CW hI) HCH.out).mono fun e w'' ⟨A'', c'', he, hC'', hb, hl2⟩ => ⟨A'', c'', he, below_step hI hb, ⟨(row_true A' A'' c' c'' _ w'' (Kd.C_below hC.out hb) hC'' hl hl2).mono fun e w3 ⟨he3, hb3⟩ => ⟨he3, below_step (below_step hI hb) hb3⟩⟩⟩
  have HRI : ∀ w' A' c', Below W.heap.size W w' → Aside0 (KE.C w' A' ((norm es).filter (fun x => x.dst == v)).length ((norm es).filter (fun x => x.dst == v))) → ((norm es).filter (fun x => x.dst == v)).length ≤ c' → Calls Tryd.prog 21 #[.agg #[.int .i64 n, .slice A es.length c], .int .i64 v] w' fun e w'' => ∃ A'' c'', e = .returned (.slice A'' ((norm es).filter (fun x => x.dst == v)).length c'') ∧ Below W.heap.size W w'' ∧ Aside0 (Calls Tryd.prog 19 #[.slice A' ((norm es).filter (fun x => x.dst == v)).length c', .slice A'' ((norm es).filter (fun x => x.dst == v)).length c''] w'' fun e w3 => e = .returned (.bool true) ∧ Below W.heap.size W w3) := fun w' A' c' hI hC hl =>
    (refIn_C n A c es v w' (Kd.C_below CW hI) HCH.out).mono fun e w'' ⟨A'', c'', he, hC'', hb, hl2⟩ => ⟨A'', c'', he, below_step hI hb, ⟨(row_true A' A'' c' c'' _ w'' (Kd.C_below hC.out hb) hC'' hl hl2).mono fun e w3 ⟨he3, hb3⟩ => ⟨he3, below_step (below_step hI hb) hb3⟩⟩⟩
  have HNM : ∀ w', Below W.heap.size W w' → Calls Tryd.prog 18 #[.agg #[.int .i64 n, .slice A es.length c]] w' fun e w'' => ∃ A' c', e = .returned (.agg #[.int .i64 n, .slice A' (norm es).length c']) ∧ Below W.heap.size W w'' ∧ Aside0 (Calls Tryd.prog 15 #[.agg #[.int .i64 n, .slice A4 (norm es).length c4], .agg #[.int .i64 n, .slice A' (norm es).length c']] w'' fun e w3 => e = .returned (.bool true) ∧ Below W.heap.size W w3) := fun w' hI =>
    (refNorm_C n A c es w' (Kd.C_below CW hI) HCH.out).mono fun e w'' ⟨A', c', he, hC, hb, hl⟩ => ⟨A', c', he, below_step hI hb, ⟨(same_true n A4 A' c4 c' (norm es) w'' (Kd.C_below CN (below_step hI hb)) hC hl4 hl).mono fun e w3 ⟨he3, hb3⟩ => ⟨he3, below_step (below_step hI hb) hb3⟩⟩⟩
  have cells : ∀ w', Below W.heap.size W w' → w'.cell? ⟨w.heap.size, 0, none⟩ = some (.int .i64 n) ∧ w'.cell? ⟨w.heap.size, 1, none⟩ = some (.slice A es.length c) ∧ w'.cell? ⟨w4.heap.size, 0, none⟩ = some (.int .i64 n) ∧ w'.cell? ⟨w4.heap.size, 1, none⟩ = some (.slice A4 (norm es).length c4) := fun w' hI => by
    have g1 := (hI.block _ (blk_lt hgW)).trans hgW
    have g2 := (hI.block _ (blk_lt hgN)).trans hgN
    exact ⟨by rw [blk_cell g1]; rfl, by rw [blk_cell g1]; rfl, by rw [blk_cell g2]; rfl, by rw [blk_cell g2]; rfl⟩
  have CELLS := Aside0.mk cells
  have AOW := Aside0.mk HOW
  have ACK := Aside0.mk HCK
  have AOU := Aside0.mk HOU
  have AIN := Aside0.mk HIN
  have ARO := Aside0.mk HRO
  have ARI := Aside0.mk HRI
  have ANM := Aside0.mk HNM
  obtain ⟨x0, x1, x2, x3⟩ := cells W (Below.refl _ _)
  have D0 : Below W.heap.size W W := Below.refl _ W
  have HW := Aside0.mk hW
  have hlne := Aside0.mk hl4
  clear hb4 hC4 hg4 hbW hgW hgN CW CN HOW HCK HOU HIN HRO HRI HNM cells hW hl4 c0 c1 d0 d1
  generalize (norm es).filter (fun x => x.src == v) = fo at *
  generalize (norm es).filter (fun x => x.dst == v) = fi at *
  generalize norm es = ns at *
  go_wp2_with (first | (go_at_call 13; rw [HW.out]; refine (AOW.out _ (by assumption)).mono ?_; rintro e w' ⟨A', c', rfl, hC', hI⟩; obtain ⟨k0, k1, k2, k3⟩ := CELLS.out _ hI) | (go_at_call 14; refine (ACK.out _ _ _ (by assumption) (by assumption)).mono ?_; rintro e w5 ⟨rfl, hI⟩; obtain ⟨k0, k1, k2, k3⟩ := CELLS.out _ hI))
  have D5 : Below W.heap.size W w5.drew := Below.drew (by assumption)
  go_region_held3 (fun w' => w'.cell? ⟨w.heap.size, 0, none⟩ = some (.int .i64 n) ∧ w'.cell? ⟨w.heap.size, 1, none⟩ = some (.slice A es.length c) ∧ w'.cell? ⟨w4.heap.size, 0, none⟩ = some (.int .i64 n) ∧ w'.cell? ⟨w4.heap.size, 1, none⟩ = some (.slice A4 ns.length c4)) (refine ⟨?_, ?_, ?_, ?_⟩ <;> (first | assumption | simp [go_sem, *])) ((first | (go_at_call 18; refine (ANM.out _ (by assumption)).mono ?_; rintro e w' ⟨A', c', rfl, hI, HSM⟩; obtain ⟨k0, k1, k2, k3⟩ := CELLS.out _ hI) | (go_at_call 15; refine HSM.out.mono ?_; rintro e w' ⟨rfl, hI⟩; obtain ⟨k0, k1, k2, k3⟩ := CELLS.out _ hI) | (go_at_call 13; refine (AOW.out _ (by assumption)).mono ?_; rintro e w' ⟨A', c', rfl, hC', hI⟩; obtain ⟨k0, k1, k2, k3⟩ := CELLS.out _ hI) | (go_at_call 16; refine (AOU.out _ _ _ (by assumption) (by assumption)).mono ?_; rintro e w' ⟨Ao, co, rfl, hCo, hI, hlo⟩; obtain ⟨k0, k1, k2, k3⟩ := CELLS.out _ hI) | (go_at_call 20; refine (ARO.out _ _ _ (by assumption) (by assumption) (by assumption)).mono ?_; rintro e w' ⟨Ap, cp, rfl, hI, HRW⟩; obtain ⟨k0, k1, k2, k3⟩ := CELLS.out _ hI) | (go_at_call 17; refine (AIN.out _ _ _ (by assumption) (by assumption)).mono ?_; rintro e w' ⟨Aj, cj, rfl, hCj, hI, hlj⟩; obtain ⟨k0, k1, k2, k3⟩ := CELLS.out _ hI) | (go_at_call 21; refine (ARI.out _ _ _ (by assumption) (by assumption) (by assumption)).mono ?_; rintro e w' ⟨Aq, cq, rfl, hI, HRW⟩; obtain ⟨k0, k1, k2, k3⟩ := CELLS.out _ hI) | (go_at_call 19; refine HRW.out.mono ?_; rintro e w' ⟨rfl, hI⟩; obtain ⟨k0, k1, k2, k3⟩ := CELLS.out _ hI)))
  all_goals
    go_wp2
    go_ret
    exact ⟨rfl, HBW.out.trans (Below.mono (B := W.heap.size) (by assumption) HBW.out.size)⟩
set_option maxRecDepth 100000 in
set_option maxHeartbeats 4000000 in
theorem checks_bad (n : Int) (A : Option Addr) (c : Nat) (es : List Edge) (v : Int) (w : World) (hC : KE.C w A es.length es) (hL : Laid w) (hlen : ¬ 600 < es.length) (hch : Graph.check ⟨n, es⟩ ≠ 0) : Calls Tryd.prog 3 #[.agg #[.int .i64 n, .slice A es.length c], .int .i64 v] w fun e w' => e = .returned (.bool true) ∧ Below w.heap.size w w' := by
  have hm : es.length ≤ 9223372036854775807 := hC.2.1
  obtain ⟨w0, hw0⟩ : ∃ w0 : World, w.alloc (.cells #[.int .i64 n, .slice A es.length c] 24) = w0 := ⟨_, rfl⟩
  have hb0 : Below w.heap.size w w0 := by rw [← hw0]; exact (Below.refl _ w).alloc (Nat.le_refl _) _
  have hg0 : w0.heap[w.heap.size]? = some (.cells #[.int .i64 n, .slice A es.length c] 24 (0, 0)) := by rw [← hw0]; exact World.alloc_heap_new w _
  have HA := Aside0.mk (awake_any w0 (hL.below hb0))
  have HL0 := Aside0.mk (hL.below hb0)
  have HC0 := Aside0.mk (Kd.C_below hC hb0)
  have HB0 := Aside0.mk hb0
  have HG0 := Aside0.mk hg0
  have HW0 := Aside0.mk hw0
  clear hL hC hb0 hg0 hw0
  have hx : (Graph.check ⟨n, es⟩ != 0) = true := by simpa using hch
  have hxx : (Graph.check ⟨n, es⟩ != Graph.check ⟨n, es⟩) = false := by simp
  have HCH := Aside0.mk hch
  clear hch
  go_enter Tryd.func3, Tryd.ntmps3
  go_wp2_with fail
  rw [HW0.out]
  refine HA.out.mono ?_
  rintro e w1 ⟨rfl, hb1⟩
  have hg1 := (hb1.block _ (blk_lt HG0.out)).trans HG0.out
  have c0 : w1.cell? ⟨w.heap.size, 0, none⟩ = some (.int .i64 n) := by rw [blk_cell hg1]; rfl
  have c1 : w1.cell? ⟨w.heap.size, 1, none⟩ = some (.slice A es.length c) := by rw [blk_cell hg1]; rfl
  have HG1 := Aside0.mk hg1
  have HC1 := Aside0.mk (Kd.C_below HC0.out hb1)
  have HK1 := Aside0.mk (refCheck_any n A c es w1 HC1.out)
  have HB1 := Aside0.mk (below_step HB0.out hb1)
  clear hb1 hg1
  go_wp2_with fail
  refine HK1.out.mono ?_
  rintro e w2 ⟨rfl, hb2⟩
  have hg2 := (hb2.block _ (blk_lt HG1.out)).trans HG1.out
  have d0 : w2.cell? ⟨w.heap.size, 0, none⟩ = some (.int .i64 n) := by rw [blk_cell hg2]; rfl
  have d1 : w2.cell? ⟨w.heap.size, 1, none⟩ = some (.slice A es.length c) := by rw [blk_cell hg2]; rfl
  have HG2 := Aside0.mk hg2
  have HC2 := Aside0.mk (Kd.C_below HC1.out hb2)
  have HO2 := Aside0.mk (own_C n A c es w2 HC2.out (by omega))
  have HB2 := Aside0.mk (below_step HB1.out hb2)
  clear hb2 hg2
  go_wp2_with fail
  refine HO2.out.mono ?_
  rintro e w3 ⟨A3, c3, rfl, hC3, hb3, _⟩
  have HG3 := Aside0.mk ((hb3.block _ (blk_lt HG2.out)).trans HG2.out)
  have HC3 := Aside0.mk (Kd.C_below HC2.out hb3)
  have HN3 := Aside0.mk (norm_bad n A3 c3 es w3 hC3 HCH.out)
  have HB3 := Aside0.mk (below_step HB2.out hb3)
  clear hb3 hC3
  go_wp2_with fail
  refine HN3.out.mono ?_
  rintro e w4 ⟨rfl, hb4⟩
  have hg4 := (hb4.block _ (blk_lt HG3.out)).trans HG3.out
  have e0 : w4.cell? ⟨w.heap.size, 0, none⟩ = some (.int .i64 n) := by rw [blk_cell hg4]; rfl
  have e1 : w4.cell? ⟨w.heap.size, 1, none⟩ = some (.slice A es.length c) := by rw [blk_cell hg4]; rfl
  have hltw : w.heap.size < w4.heap.size := blk_lt hg4
  obtain ⟨W, hW⟩ : ∃ W : World, w4.alloc (.cells #[.int .i64 0, .slice none 0 0] 24) = W := ⟨_, rfl⟩
  have hbW : Below w4.heap.size w4 W := by rw [← hW]; exact (Below.refl _ w4).alloc (Nat.le_refl _) _
  have hgW := (hbW.block _ (blk_lt hg4)).trans hg4
  have hgN : W.heap[w4.heap.size]? = some (.cells #[.int .i64 0, .slice none 0 0] 24 (0, 0)) := by rw [← hW]; exact World.alloc_heap_new w4 _
  have CW := Kd.C_below (Kd.C_below HC3.out hb4) hbW
  have HBW := Aside0.mk (below_step (below_step HB3.out hb4) hbW)
  have HOW : ∀ w', Below W.heap.size W w' → Calls Tryd.prog 13 #[.agg #[.int .i64 n, .slice A es.length c]] w' fun e w'' => ∃ A' c', e = .returned (.agg #[.int .i64 n, .slice A' es.length c']) ∧ Aside0 (KE.C w'' A' es.length es) ∧ Below W.heap.size W w'' := fun w' hI =>
    (own_C n A c es w' (Kd.C_below CW hI) (by omega)).mono fun e w'' ⟨A', c', he, hC, hb, _⟩ => ⟨A', c', he, ⟨hC⟩, below_step hI hb⟩
  have HCK : ∀ w' A' c', Below W.heap.size W w' → Aside0 (KE.C w' A' es.length es) → Calls Tryd.prog 14 #[.agg #[.int .i64 n, .slice A' es.length c']] w' fun e w'' => e = .returned (.int .i64 (Graph.check ⟨n, es⟩)) ∧ Below W.heap.size W w'' := fun w' A' c' hI hC =>
    (check_any n A' c' es w' hC.out).mono fun e w'' ⟨he, hb⟩ => ⟨he, below_step hI hb⟩
  have HOU : ∀ w' A' c', Below W.heap.size W w' → Aside0 (KE.C w' A' es.length es) → Calls Tryd.prog 16 #[.agg #[.int .i64 n, .slice A' es.length c'], .int .i64 v] w' fun e w'' => e = .returned (.slice none 0 0) ∧ Below W.heap.size W w'' := fun w' A' c' hI hC =>
    (outE_bad n A' c' es v w' hC.out HCH.out).mono fun e w'' ⟨he, hb⟩ => ⟨he, below_step hI hb⟩
  have HIN : ∀ w' A' c', Below W.heap.size W w' → Aside0 (KE.C w' A' es.length es) → Calls Tryd.prog 17 #[.agg #[.int .i64 n, .slice A' es.length c'], .int .i64 v] w' fun e w'' => e = .returned (.slice none 0 0) ∧ Below W.heap.size W w'' := fun w' A' c' hI hC =>
    (inE_bad n A' c' es v w' hC.out HCH.out).mono fun e w'' ⟨he, hb⟩ => ⟨he, below_step hI hb⟩
  have HSM : ∀ w', Below W.heap.size W w' → Calls Tryd.prog 15 #[.agg #[.int .i64 0, .slice none 0 0], .agg #[.int .i64 0, .slice none 0 0]] w' fun e w'' => e = .returned (.bool true) ∧ Below W.heap.size W w'' := fun w' hI =>
    (same_zero w').mono fun e w'' ⟨he, hb⟩ => ⟨he, below_step hI hb⟩
  have cells : ∀ w', Below W.heap.size W w' → w'.cell? ⟨w.heap.size, 0, none⟩ = some (.int .i64 n) ∧ w'.cell? ⟨w.heap.size, 1, none⟩ = some (.slice A es.length c) ∧ w'.cell? ⟨w4.heap.size, 0, none⟩ = some (.int .i64 0) ∧ w'.cell? ⟨w4.heap.size, 1, none⟩ = some (.slice none 0 0) := fun w' hI => by
    have g1 := (hI.block _ (blk_lt hgW)).trans hgW
    have g2 := (hI.block _ (blk_lt hgN)).trans hgN
    exact ⟨by rw [blk_cell g1]; rfl, by rw [blk_cell g1]; rfl, by rw [blk_cell g2]; rfl, by rw [blk_cell g2]; rfl⟩
  have CELLS := Aside0.mk cells
  have AOW := Aside0.mk HOW
  have ACK := Aside0.mk HCK
  have AOU := Aside0.mk HOU
  have AIN := Aside0.mk HIN
  have ASM := Aside0.mk HSM
  have D0 : Below W.heap.size W W := Below.refl _ W
  have HW := Aside0.mk hW
  clear hb4 hg4 hbW hgW hgN CW HOW HCK HOU HIN HSM cells hW c0 c1 d0 d1
  generalize Graph.check ⟨n, es⟩ = x at *
  go_wp2_with fail
  rw [HW.out]
  refine (AOW.out _ D0).mono ?_
  rintro e w5 ⟨A5, c5, rfl, hC5, hI5⟩
  obtain ⟨k0, k1, k2, k3⟩ := CELLS.out _ hI5
  have H5 := Aside0.mk hI5
  clear hI5 D0
  go_wp2_with fail
  refine (ACK.out _ _ _ H5.out hC5).mono ?_
  rintro e w6 ⟨rfl, hI6⟩
  obtain ⟨p0, p1, p2, p3⟩ := CELLS.out _ hI6
  have H6 := Aside0.mk hI6
  clear hI6 k0 k1 k2 k3
  go_wp2_with fail
  refine (ASM.out _ H6.out).mono ?_
  rintro e w7 ⟨rfl, hI7⟩
  obtain ⟨k0, k1, k2, k3⟩ := CELLS.out _ hI7
  have H7 := Aside0.mk hI7
  clear hI7 p0 p1 p2 p3
  go_wp2_with fail
  refine (AOW.out _ H7.out).mono ?_
  rintro e w8 ⟨A8, c8, rfl, hC8, hI8⟩
  obtain ⟨p0, p1, p2, p3⟩ := CELLS.out _ hI8
  have H8 := Aside0.mk hI8
  clear hI8 k0 k1 k2 k3
  go_wp2_with fail
  refine (AOU.out _ _ _ H8.out hC8).mono ?_
  rintro e w9 ⟨rfl, hI9⟩
  obtain ⟨k0, k1, k2, k3⟩ := CELLS.out _ hI9
  have H9 := Aside0.mk hI9
  clear hI9 p0 p1 p2 p3
  go_wp2_with fail
  refine (AOW.out _ H9.out).mono ?_
  rintro e w10 ⟨A10, c10, rfl, hC10, hI10⟩
  have H10 := Aside0.mk hI10
  clear hI10 k0 k1 k2 k3
  go_wp2_with fail
  refine (AIN.out _ _ _ H10.out hC10).mono ?_
  rintro e w11 ⟨rfl, hI11⟩
  have H11 := Aside0.mk hI11
  clear hI11
  go_wp2
  go_ret
  exact ⟨rfl, HBW.out.trans (H11.out.mono HBW.out.size)⟩
theorem checks_walk (n : Int) (A : Option Addr) (c : Nat) (es : List Edge) (v : Int) (w : World) (hC : KE.C w A es.length es) (hL : Laid w) : Calls Tryd.prog 3 #[.agg #[.int .i64 n, .slice A es.length c], .int .i64 v] w fun e w' => e = .returned (.bool true) ∧ Below w.heap.size w w' := by
  by_cases hlen : 600 < es.length
  · exact checks_long n A c es v w hC hL hlen
  · by_cases hch : Graph.check ⟨n, es⟩ = 0
    · exact checks_ok n A c es v w hC hL hlen hch
    · exact checks_bad n A c es v w hC hL hlen hch
end Go.Proofs.YtenpmbebghlnkaaDoor
