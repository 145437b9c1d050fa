/-
  Any graph is the document's text, and itself again, in order; or may not be: the walk of the statement.
-/
import Derived.Test.YtenpmbebghlnkaaDoorKAgain
import Derived.Test.YtenpmbebghlnkaaDoorKRefShow
namespace Go.Proofs.YtenpmbebghlnkaaDoor
open Go.RowKit Go.Proofs.YtenpmbebghlnkaaDoorW.PrintWords Go.Proofs.YtenpmbebghlnkaaDoorW.PrintLast Go.Proofs.YtenpmbebghlnkaaDoorW.PrintMore
set_option linter.unusedVariables false
set_option linter.unusedSimpArgs false
attribute [local go_sem] max2_int min2_int max_two min_two max_three min_three max_four min_four
theorem refNorm_C (n : Int) (A : Option Addr) (c : Nat) (es : List Edge) (w : World) (hC : KE.C w A es.length es) (h : Graph.check ⟨n, es⟩ = 0) :
    Calls Tryd.prog 18 #[.agg #[.int .i64 n, .slice A es.length c]] w fun e w' => ∃ A' c', e = .returned (.agg #[.int .i64 n, .slice A' (norm es).length c']) ∧ KE.C w' A' (norm es).length (norm es) ∧ Below w.heap.size w w' ∧ (norm es).length ≤ c' :=
  (refNorm_ok n A c es w hC h).mono fun e w' ⟨u, he, hR, hb⟩ => by
    obtain ⟨A', c', rfl, hl', hC'⟩ := Kd.R_reads hR
    exact ⟨A', c', he, hC', hb, hl'⟩
theorem text_small {n : Int} {es : List Edge} (h : Graph.check ⟨n, es⟩ = 0) : (graphText n (norm es)).length ≤ 1000000 := by
  obtain ⟨n1, n2, n3, n4, _⟩ := check_zero h
  have n1 : 1 ≤ n := n1
  have n2 : n ≤ 64 := n2
  have n3 : es.length ≤ 512 := n3
  have hl5 : (norm es).length = es.length := (norm_sorted es).1.length_eq
  have h1 := edgesText_len (norm es) (by
    intro e he
    have : 0 ≤ e.src ∧ e.src < n ∧ 0 ≤ e.dst ∧ e.dst < n ∧ 0 ≤ e.wt ∧ e.wt ≤ 1048576 := n4 e ((norm_sorted es).1.mem_iff.1 he)
    unfold Int64
    omega)
  have h2 : (headText n).length ≤ 28 := lineL_len graphW [n] (by simp; omega)
  unfold graphText
  rw [List.length_append]
  omega
set_option maxRecDepth 100000 in
set_option maxHeartbeats 4000000 in
theorem shows_walk (n : Int) (A : Option Addr) (c : Nat) (es : List Edge) (w : World) (hC : KE.C w A es.length es) (hL : Laid w) : Calls Tryd.prog 4 #[.agg #[.int .i64 n, .slice A es.length c]] w fun e w' => e = .returned (.bool true) ∧ Below w.heap.size w w' := by
  have hm : es.length ≤ 9223372036854775807 := hC.2.1
  obtain ⟨w0, hw0⟩ : ∃ w0 : World, w.alloc (.cells #[.int .i64 n, .slice A es.length c] 24) = w0 := ⟨_, rfl⟩
  have hb0 : Below w.heap.size w w0 := by rw [← hw0]; exact (Below.refl _ w).alloc (Nat.le_refl _) _
  have hg0 : w0.heap[w.heap.size]? = some (.cells #[.int .i64 n, .slice A es.length c] 24 (0, 0)) := by rw [← hw0]; exact World.alloc_heap_new w _
  have HA := Aside0.mk (awake_any w0 (hL.below hb0))
  have HL0 := Aside0.mk (hL.below hb0)
  have HC0 := Aside0.mk (Kd.C_below hC hb0)
  have HB0 := Aside0.mk hb0
  have HG0 := Aside0.mk hg0
  have HW0 := Aside0.mk hw0
  clear hL hC hb0 hg0 hw0
  by_cases hlen : 600 < es.length
  · go_enter Tryd.func4, Tryd.ntmps4
    go_wp2_with fail
    rw [HW0.out]
    refine HA.out.mono ?_
    rintro e w1 ⟨rfl, hb1⟩
    have hg1 := (hb1.block _ (blk_lt HG0.out)).trans HG0.out
    have c1 : w1.cell? ⟨w.heap.size, 1, none⟩ = some (.slice A es.length c) := by rw [blk_cell hg1]; rfl
    have HA2 := Aside0.mk (awake_any w1 (HL0.out.below hb1))
    have HB1 := Aside0.mk (below_step HB0.out hb1)
    clear hb1 hg1
    go_wp2_with (go_at_call 10; refine HA2.out.mono ?_; rintro e w2 ⟨rfl, hb2⟩; have HB2 := Aside0.mk (below_step HB1.out hb2); clear hb2)
    go_ret
    exact ⟨rfl, HB2.out⟩
  · by_cases hch : Graph.check ⟨n, es⟩ = 0
    · have HCH := Aside0.mk hch
      have HT := Aside0.mk (text_small hch)
      clear hch
      go_enter Tryd.func4, Tryd.ntmps4
      go_wp2_with fail
      rw [HW0.out]
      refine HA.out.mono ?_
      rintro e w1 ⟨rfl, hb1⟩
      have hg1 := (hb1.block _ (blk_lt HG0.out)).trans HG0.out
      have c0 : w1.cell? ⟨w.heap.size, 0, none⟩ = some (.int .i64 n) := by rw [blk_cell hg1]; rfl
      have c1 : w1.cell? ⟨w.heap.size, 1, none⟩ = some (.slice A es.length c) := by rw [blk_cell hg1]; rfl
      have HG1 := Aside0.mk hg1
      have HL1 := Aside0.mk (HL0.out.below hb1)
      have HC1 := Aside0.mk (Kd.C_below HC0.out hb1)
      have HO1 := Aside0.mk (own_C n A c es w1 HC1.out (by omega))
      have HB1 := Aside0.mk (below_step HB0.out hb1)
      clear hb1 hg1
      go_wp2_with fail
      refine HO1.out.mono ?_
      rintro e w2 ⟨A2, c2, rfl, hC2, hb2, _⟩
      have HL2 := Aside0.mk (HL1.out.below hb2)
      have HS2 := Aside0.mk (show_ok n A2 c2 es w2 hC2 HL2.out HCH.out)
      have HG2 := Aside0.mk ((hb2.block _ (blk_lt HG1.out)).trans HG1.out)
      have HC2 := Aside0.mk (Kd.C_below HC1.out hb2)
      have HB2 := Aside0.mk (below_step HB1.out hb2)
      clear hb2 hC2
      go_wp2_with fail
      refine HS2.out.mono ?_
      rintro e w3 ⟨rfl, hb3⟩
      have hg3 := (hb3.block _ (blk_lt HG2.out)).trans HG2.out
      have d0 : w3.cell? ⟨w.heap.size, 0, none⟩ = some (.int .i64 n) := by rw [blk_cell hg3]; rfl
      have d1 : w3.cell? ⟨w.heap.size, 1, none⟩ = some (.slice A es.length c) := by rw [blk_cell hg3]; rfl
      have HC3 := Aside0.mk (Kd.C_below HC2.out hb3)
      have HK3 := Aside0.mk (refCheck_any n A c es w3 HC3.out)
      rw [HCH.out] at HK3
      have HG3 := Aside0.mk hg3
      have HL3 := Aside0.mk (HL2.out.below hb3)
      have HB3 := Aside0.mk (below_step HB2.out hb3)
      clear hb3 hg3
      go_wp2_with fail
      refine HK3.out.mono ?_
      rintro e w4 ⟨rfl, hb4⟩
      have HL4 := Aside0.mk (HL3.out.below hb4)
      have HG4 := Aside0.mk ((hb4.block _ (blk_lt HG3.out)).trans HG3.out)
      have HC4 := Aside0.mk (Kd.C_below HC3.out hb4)
      have HB4 := Aside0.mk (below_step HB3.out hb4)
      have HR4 := Aside0.mk (readN_C n es w4 HL4.out HCH.out HT.out)
      clear hb4
      go_wp2_with fail
      refine HR4.out.mono ?_
      rintro e w5 ⟨A5, c5, rfl, hC5, hb5, hl5⟩
      have hg5 := (hb5.block _ (blk_lt HG4.out)).trans HG4.out
      obtain ⟨W, hW⟩ : ∃ W : World, w5.alloc (.cells #[.int .i64 n, .slice A5 (norm es).length c5] 24) = W := ⟨_, rfl⟩
      have hbW : Below w5.heap.size w5 W := by rw [← hW]; exact (Below.refl _ w5).alloc (Nat.le_refl _) _
      have hgW := (hbW.block _ (blk_lt hg5)).trans hg5
      have hgN : W.heap[w5.heap.size]? = some (.cells #[.int .i64 n, .slice A5 (norm es).length c5] 24 (0, 0)) := by rw [← hW]; exact World.alloc_heap_new w5 _
      have CW := Kd.C_below (Kd.C_below HC4.out hb5) hbW
      have CN := Kd.C_below hC5 hbW
      have HBW := Aside0.mk (below_step (below_step HB4.out hb5) hbW)
      have HSH : ∀ w', Below W.heap.size W w' → Calls Tryd.prog 24 #[.agg #[.int .i64 n, .slice A es.length c]] w' fun e w'' => e = .returned (.string (bs (graphText n (norm es)))) ∧ Below W.heap.size W w'' := fun w' hI =>
        (refShow_ok n A c es w' (Kd.C_below CW hI) HCH.out).mono fun e w'' ⟨he, hb⟩ => ⟨he, below_step hI hb⟩
      have HNM : ∀ w', Below W.heap.size W w' → Calls Tryd.prog 18 #[.agg #[.int .i64 n, .slice A es.length c]] w' fun e w'' => ∃ A' c', e = .returned (.agg #[.int .i64 n, .slice A' (norm es).length c']) ∧ Aside0 (KE.C w'' A' (norm es).length (norm es)) ∧ Below W.heap.size W w'' ∧ (norm es).length ≤ c' := fun w' hI =>
        (refNorm_C n A c es w' (Kd.C_below CW hI) HCH.out).mono fun e w'' ⟨A', c', he, hC, hb, hl⟩ => ⟨A', c', he, ⟨hC⟩, below_step hI hb, hl⟩
      have HSM : ∀ w' A' c', Below W.heap.size W w' → Aside0 (KE.C w' A' (norm es).length (norm es)) → (norm es).length ≤ c' → Calls Tryd.prog 15 #[.agg #[.int .i64 n, .slice A5 (norm es).length c5], .agg #[.int .i64 n, .slice A' (norm es).length c']] w' fun e w'' => e = .returned (.bool true) ∧ Below W.heap.size W w'' := fun w' A' c' hI hC hl =>
        (same_true n A5 A' c5 c' (norm es) w' (Kd.C_below CN hI) hC.out hl5 hl).mono fun e w'' ⟨he, hb⟩ => ⟨he, below_step hI hb⟩
      have cells : ∀ w', Below W.heap.size W w' → w'.cell? ⟨w.heap.size, 0, none⟩ = some (.int .i64 n) ∧ w'.cell? ⟨w.heap.size, 1, none⟩ = some (.slice A es.length c) ∧ w'.cell? ⟨w5.heap.size, 0, none⟩ = some (.int .i64 n) ∧ w'.cell? ⟨w5.heap.size, 1, none⟩ = some (.slice A5 (norm es).length c5) := fun w' hI => by
        have g1 := (hI.block _ (blk_lt hgW)).trans hgW
        have g2 := (hI.block _ (blk_lt hgN)).trans hgN
        exact ⟨by rw [blk_cell g1]; rfl, by rw [blk_cell g1]; rfl, by rw [blk_cell g2]; rfl, by rw [blk_cell g2]; rfl⟩
      have CELLS := Aside0.mk cells
      have ASH := Aside0.mk HSH
      have ANM := Aside0.mk HNM
      have ASM := Aside0.mk HSM
      obtain ⟨x0, x1, x2, x3⟩ := cells W (Below.refl _ _)
      have D0 : Below W.heap.size W W.drew := (Below.refl _ W).drew
      have HW := Aside0.mk hW
      clear hb5 hC5 hg5 hbW hgW hgN CW CN HSH HNM HSM cells hW HT
      generalize bs (graphText n (norm es)) = T at *
      generalize norm es = ns at *
      go_wp2
      rw [HW.out]
      go_region_held3 (fun w' => w'.cell? ⟨w.heap.size, 0, none⟩ = some (.int .i64 n) ∧ w'.cell? ⟨w.heap.size, 1, none⟩ = some (.slice A es.length c) ∧ w'.cell? ⟨w5.heap.size, 0, none⟩ = some (.int .i64 n) ∧ w'.cell? ⟨w5.heap.size, 1, none⟩ = some (.slice A5 ns.length c5)) (refine ⟨?_, ?_, ?_, ?_⟩ <;> (first | assumption | simp [go_sem, *])) ((first | (go_at_call 24; refine (ASH.out _ (by assumption)).mono ?_; rintro e w' ⟨rfl, hI⟩; obtain ⟨k0, k1, k2, k3⟩ := CELLS.out _ hI) | (go_at_call 18; refine (ANM.out _ (by assumption)).mono ?_; rintro e w' ⟨A', c', rfl, hC', hI, hl'⟩; obtain ⟨k0, k1, k2, k3⟩ := CELLS.out _ hI) | (go_at_call 15; refine (ASM.out _ _ _ (by assumption) (by assumption) (by assumption)).mono ?_; rintro e w' ⟨rfl, hI⟩; obtain ⟨k0, k1, k2, k3⟩ := CELLS.out _ hI)))
      all_goals
        go_wp2
        go_ret
        exact ⟨rfl, HBW.out.trans (Below.mono (B := W.heap.size) (by assumption) HBW.out.size)⟩
    · have hx : (Graph.check ⟨n, es⟩ != 0) = true := by simpa using hch
      have hxx : (Graph.check ⟨n, es⟩ == Graph.check ⟨n, es⟩) = true := by simp
      have HCH := Aside0.mk hch
      clear hch
      go_enter Tryd.func4, Tryd.ntmps4
      go_wp2_with fail
      rw [HW0.out]
      refine HA.out.mono ?_
      rintro e w1 ⟨rfl, hb1⟩
      have hg1 := (hb1.block _ (blk_lt HG0.out)).trans HG0.out
      have c0 : w1.cell? ⟨w.heap.size, 0, none⟩ = some (.int .i64 n) := by rw [blk_cell hg1]; rfl
      have c1 : w1.cell? ⟨w.heap.size, 1, none⟩ = some (.slice A es.length c) := by rw [blk_cell hg1]; rfl
      have HG1 := Aside0.mk hg1
      have HC1 := Aside0.mk (Kd.C_below HC0.out hb1)
      have HO1 := Aside0.mk (own_C n A c es w1 HC1.out (by omega))
      have HB1 := Aside0.mk (below_step HB0.out hb1)
      clear hb1 hg1
      go_wp2_with fail
      refine HO1.out.mono ?_
      rintro e w2 ⟨A2, c2, rfl, hC2, hb2, _⟩
      have HS2 := Aside0.mk (show_bad n A2 c2 es w2 hC2 HCH.out)
      have HG2 := Aside0.mk ((hb2.block _ (blk_lt HG1.out)).trans HG1.out)
      have HC2 := Aside0.mk (Kd.C_below HC1.out hb2)
      have HB2 := Aside0.mk (below_step HB1.out hb2)
      clear hb2 hC2
      go_wp2_with fail
      refine HS2.out.mono ?_
      rintro e w3 ⟨rfl, hb3⟩
      have hg3 := (hb3.block _ (blk_lt HG2.out)).trans HG2.out
      have d0 : w3.cell? ⟨w.heap.size, 0, none⟩ = some (.int .i64 n) := by rw [blk_cell hg3]; rfl
      have d1 : w3.cell? ⟨w.heap.size, 1, none⟩ = some (.slice A es.length c) := by rw [blk_cell hg3]; rfl
      have HK3 := Aside0.mk (refCheck_any n A c es w3 (Kd.C_below HC2.out hb3))
      have HB3 := Aside0.mk (below_step HB2.out hb3)
      clear hb3 hg3
      generalize Graph.check ⟨n, es⟩ = x at *
      go_wp2_with (go_at_call 11; refine HK3.out.mono ?_; rintro e w4 ⟨rfl, hb4⟩; have HB4 := Aside0.mk (below_step HB3.out hb4); clear hb4)
      go_ret
      exact ⟨rfl, HB4.out⟩
end Go.Proofs.YtenpmbebghlnkaaDoor
