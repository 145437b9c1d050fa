/-
  The statements' own copy of a graph.
-/
import Derived.Test.YtenpmbebghlnkaaDoorKRefO
namespace Go.Proofs.YtenpmbebghlnkaaDoor
open Go.RowKit Go.Proofs.YtenpmbebghlnkaaDoorW.PrintWords Go.Proofs.YtenpmbebghlnkaaDoorW.PrintLast Go.Proofs.YtenpmbebghlnkaaDoorW.PrintMore
set_option linter.unusedVariables false
set_option linter.unusedSimpArgs false
attribute [local go_sem] max2_int min2_int max_two min_two max_three min_three max_four min_four
set_option maxRecDepth 100000 in
set_option maxHeartbeats 4000000 in
theorem ownG (n : Int) (A : Option Addr) (c : Nat) (es : List Edge) (w : World) (hC : KE.C w A es.length es) (hl : es.length * 24 ≤ 140737488355328) :
    Calls Tryd.prog 13 #[.agg #[.int .i64 n, .slice A es.length c]] w fun e w' => ∃ u : Value, e = .returned (.agg #[.int .i64 n, u]) ∧ KE.R 45 w' w.heap.size (fun _ => True) u es ∧ Below w.heap.size w w' := by
  obtain ⟨W, hW⟩ : ∃ W : World, (w.alloc (.cells #[.int .i64 n, .slice A es.length c] 24)).alloc (.cells #[.int .i64 0, .slice none 0 0] 24) = W := ⟨_, rfl⟩
  have hz : (w.alloc (.cells #[.int .i64 n, .slice A es.length c] 24)).heap.size = w.heap.size + 1 := by simp
  have hb0 : Below w.heap.size w W := by rw [← hW]; exact ((Below.refl _ w).alloc (Nat.le_refl _) _).alloc (by simp) _
  have b2 : W.heap[w.heap.size + 1]? = some (.cells #[.int .i64 0, .slice none 0 0] 24 (0, 0)) := by
    rw [← hW, ← hz]
    exact Array.getElem?_push_size
  have b1 : W.heap[w.heap.size]? = some (.cells #[.int .i64 n, .slice A es.length c] 24 (0, 0)) := by
    rw [← hW, Below.heap_alloc _ _ _ (by rw [hz]; omega)]
    exact Array.getElem?_push_size
  have hsz : w.heap.size + 1 < W.heap.size := blk_lt b2
  obtain ⟨V, hV⟩ : ∃ V : World, W.drew.alloc (.cells #[] 45) = V := ⟨_, rfl⟩
  have hbV : Below W.heap.size W V := by rw [← hV]; exact ((Below.refl _ W).drew).alloc (Nat.le_refl _) _
  have hR0 : KE.R 45 V w.heap.size (fun _ => True) (.slice (some ⟨W.heap.size, 0, none⟩) 0 0) [] := by rw [← hV]; exact lit_R KE rfl W.drew w.heap.size (by show _ ≤ W.heap.size; omega)
  have hbwV : Below w.heap.size w V := hb0.trans (hbV.mono (by omega))
  have c0 : V.cell? ⟨w.heap.size, 0, none⟩ = some (.int .i64 n) := by rw [blk_cell ((hbV.block _ (blk_lt b1)).trans b1)]; rfl
  have c1 : V.cell? ⟨w.heap.size, 1, none⟩ = some (.slice A es.length c) := by rw [blk_cell ((hbV.block _ (blk_lt b1)).trans b1)]; rfl
  have d0 : W.cell? ⟨w.heap.size, 0, none⟩ = some (.int .i64 n) := by rw [blk_cell b1]; rfl
  have d1 : W.cell? ⟨w.heap.size, 1, none⟩ = some (.slice A es.length c) := by rw [blk_cell b1]; rfl
  have B2 := Aside0.mk ((hbV.block _ (blk_lt b2)).trans b2)
  have B1 := Aside0.mk ((hbV.block _ (blk_lt b1)).trans b1)
  have HR0 := Aside0.mk hR0
  have HBV := Aside0.mk hbwV
  have HC := Aside0.mk (Kd.C_below hC hbwV)
  have HW := Aside0.mk hW
  have hsV : w.heap.size ≤ V.heap.size := hbwV.size
  clear hW hb0 b1 b2 hbV hR0 hbwV hC
  go_enter Tryd.func13, Tryd.ntmps13
  go_wp2
  rw [HW.out]
  go_region_law ((refine Kd.R_append_rows_step KE (Rr := fun x cs => cs = Edge.enc x) (w0 := w) (W := V) w.heap.size (by rfl) (.tmp 5) (.tmp 7) 22 45 (.agg #[.int .i64 0, .int .i64 0, .int .i64 0]) 24 (by rfl) Tryd.underlying22 infoE rfl (by decide) (by decide) (.slice (some ⟨W.heap.size, 0, none⟩) 0 0) [] es A es.length c (fun _ => True) (fun _ => False) (by rfl) (by rfl) HR0.out HC.out (fun _ _ hx => hx) (fun _ hk => hk.elim) (fun _ _ => trivial) HBV.out hsV (by simpa using hl) ?_; intro v1 w1 hR1 hB1 hg1 hat1; have HR1 := Aside0.mk hR1; have HB1 := Aside0.mk hB1; have gb := blk_grown B2.out hg1 (graph_apart B2.out HR0.out); have G2 := Aside0.mk gb; have g0 : w1.cell? ⟨w.heap.size + 1, 0, none⟩ = some (.int .i64 0) := (by rw [blk_cell gb]; rfl); have g1 : w1.cell? ⟨w.heap.size + 1, 1, none⟩ = some (.slice none 0 0) := (by rw [blk_cell gb]; rfl); have gb1 := blk_grown B1.out hg1 (graph_apart B1.out HR0.out); have k0 : w1.cell? ⟨w.heap.size, 0, none⟩ = some (.int .i64 n) := (by rw [blk_cell gb1]; rfl); have k1 : w1.cell? ⟨w.heap.size, 1, none⟩ = some (.slice A es.length c) := (by rw [blk_cell gb1]; rfl); have f0 := blk_frozen gb 0; have f1 := blk_frozen gb 1; obtain ⟨A1, m1, q1, rfl⟩ : ∃ A k c, v1 = .slice A k c := (by obtain ⟨A, c, e⟩ := Kd.R_slice hR1; exact ⟨A, _, c, e⟩); clear hR1 hB1 hg1 hat1 gb gb1))
  all_goals
    go_wp2
    have hR5 := Kd.R_set HR1.out G2.out edge_no_graph 0 (.int .i64 n)
    have hR6 := Kd.R_set hR5 (blk_put G2.out 0 (.int .i64 n) rfl) edge_no_graph 1 (.slice A1 m1 q1)
    refine bodyPost_ret (v := .agg #[.int .i64 n, .slice A1 m1 q1]) (by simp [results, Tryd.results13, go_sem, *]) rfl ⟨_, rfl, by simpa using hR6, (HB1.out.setCell (by simp) _).setCell (by simp) _⟩
end Go.Proofs.YtenpmbebghlnkaaDoor
