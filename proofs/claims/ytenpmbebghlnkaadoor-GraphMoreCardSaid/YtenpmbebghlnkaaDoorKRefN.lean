/-
  The reference of layer 5: a graph in order, vertex by vertex.
-/
import Derived.Test.YtenpmbebghlnkaaDoorKRefG
import Derived.Test.YtenpmbebghlnkaaDoorKNormLaw
import Derived.Deep.RegionLaw
namespace Go.Proofs.YtenpmbebghlnkaaDoor
open Go.RowKit Go.Proofs.YtenpmbebghlnkaaDoorW.PrintWords Go.Proofs.YtenpmbebghlnkaaDoorW.PrintLast Go.Proofs.YtenpmbebghlnkaaDoorW.PrintMore
set_option linter.unusedVariables false
set_option linter.unusedSimpArgs false
attribute [local go_sem] max2_int min2_int max_two min_two max_three min_three max_four min_four
/-- What lies in memory while the edges are gathered: the graph, the result's cells, and the graph that grows. -/
def NormAt (w wr : World) (n : Int) (sl : Value) (l : List Edge) : Prop :=
  Below w.heap.size w wr ∧ wr.heap[w.heap.size]? = some (.cells #[.int .i64 n, sl] 24 (0, 0)) ∧ wr.heap[w.heap.size + 1]? = some (.cells #[.int .i64 0, .slice none 0 0] 24 (0, 0)) ∧
    ∃ u, wr.heap[w.heap.size + 2]? = some (.cells #[.int .i64 n, u] 24 (0, 0)) ∧ KE.R 45 wr w.heap.size (fun _ => True) u l
theorem graph_apart {w : World} {g base : Nat} {ok : Nat → Prop} {cs : Array Value} {v : Value} {l : List Edge} (hv : w.heap[g]? = some (.cells cs 24 (0, 0))) (hR : KE.R 45 w base ok v l) : some g ≠ v.ownBlock := by
  intro e
  obtain ⟨_, inner, ho, _⟩ := hR
  obtain ⟨cells, hc⟩ := own_typed ho g e.symm
  rw [hv] at hc
  injection hc with hc
  injection hc with _ hc
  exact absurd hc (by decide)
theorem edge_no_graph : ∀ q, q ∈ 45 :: KE.E → q ≠ 24 := by
  intro q hq
  rcases List.mem_cons.1 hq with rfl | hq
  · decide
  · exact absurd hq (List.not_mem_nil)
theorem NormAt.push {w wr w1 : World} {n : Int} {sl u v1 : Value} {l l2 : List Edge} (h1 : wr.heap[w.heap.size]? = some (.cells #[.int .i64 n, sl] 24 (0, 0))) (h2 : wr.heap[w.heap.size + 1]? = some (.cells #[.int .i64 0, .slice none 0 0] 24 (0, 0)))
    (hu : wr.heap[w.heap.size + 2]? = some (.cells #[.int .i64 n, u] 24 (0, 0))) (hR : KE.R 45 wr w.heap.size (fun _ => True) u l) (hB1 : Below w.heap.size w w1) (hR1 : KE.R 45 w1 w.heap.size (fun _ => True) v1 l2) (hg : wr.grownBy w1 u.ownBlock) :
    NormAt w (w1.setCell ⟨w.heap.size + 2, 1, none⟩ v1) n sl l2 := by
  have b1 := blk_grown h1 hg (graph_apart h1 hR)
  have b2 := blk_grown h2 hg (graph_apart h2 hR)
  have b3 := blk_grown hu hg (graph_apart hu hR)
  refine ⟨hB1.setCell (by simp) _, ?_, ?_, v1, blk_put b3 1 v1 rfl, Kd.R_set hR1 b3 edge_no_graph 1 v1⟩
  · rw [Below.heap_setCell _ _ _ _ (by simp)]; exact b1
  · rw [Below.heap_setCell _ _ _ _ (by simp)]; exact b2
theorem NormAt.drewN {w wr : World} {n : Int} {sl : Value} {l : List Edge} (h : NormAt w wr n sl l) (q : Nat) : NormAt w (wr.drewN q) n sl l := by
  obtain ⟨h1, h2, h3, u, h4, h5⟩ := h
  exact ⟨pw_below_drewN h1 q, h2, h3, u, h4, Kd.R_drewN h5 q⟩
theorem at2_take (es : List Edge) (v w i : Nat) (h : i < es.length) : at2 (es.take (i + 1)) v w = at2 (es.take i) v w ++ (if es[i].src == (v : Int) && es[i].dst == (w : Int) then [es[i]] else []) := by
  unfold at2
  rw [List.take_succ_eq_append_getElem h, List.filter_append]
  congr 1
  by_cases hb : es[i].src == (v : Int) && es[i].dst == (w : Int) <;> simp [hb]
theorem at1_succ (es : List Edge) (v m : Nat) : at1 es v (m + 1) = at1 es v m ++ at2 es v m := by unfold at1; rw [List.range_succ, List.flatMap_append]; simp
theorem refNorm_succ (es : List Edge) (n m : Nat) : refNorm es (n + 1) m = refNorm es n m ++ at1 es n m := by unfold refNorm; rw [List.range_succ, List.flatMap_append]; simp
theorem at2_len (es : List Edge) (v w : Nat) : (at2 es v w).length ≤ es.length := List.length_filter_le _ _
set_option maxRecDepth 100000 in
set_option maxHeartbeats 4000000 in
theorem refNorm_any (m : Nat) (A : Option Addr) (c : Nat) (es : List Edge) (w : World) (hm : m ≤ 64) (hC : KE.C w A es.length es) (hl : ∀ v x i, v < m → x < m → i ≤ es.length → (refNorm es v m ++ at1 es v x ++ at2 (es.take i) v x).length ≤ 512) :
    Calls Tryd.prog 18 #[.agg #[.int .i64 m, .slice A es.length c]] w fun e w' => ∃ u : Value, e = .returned (.agg #[.int .i64 m, u]) ∧ KE.R 45 w' w.heap.size (fun _ => True) u (refNorm es m m) ∧ Below w.heap.size w w' := by
  have hm1 : es.length ≤ 9223372036854775807 := hC.2.1
  have HC := Aside0.mk hC
  have HL := Aside0.mk hl
  have h0 : NormAt w (((w.alloc (.cells #[.int .i64 m, .slice A es.length c] 24)).alloc (.cells #[.int .i64 0, .slice none 0 0] 24)).alloc (.cells #[.int .i64 m, .slice none 0 0] 24)) m (.slice A es.length c) [] := by
    have z1 : (w.alloc (.cells #[.int .i64 m, .slice A es.length c] 24)).heap.size = w.heap.size + 1 := by simp
    have z2 : ((w.alloc (.cells #[.int .i64 m, .slice A es.length c] 24)).alloc (.cells #[.int .i64 0, .slice none 0 0] 24)).heap.size = w.heap.size + 2 := by simp
    refine ⟨(((Below.refl _ w).alloc (Nat.le_refl _) _).alloc (by simp) _).alloc (by simp; omega) _, ?_, ?_, .slice none 0 0, ?_, Kd.R_nil _ _ _ _ _⟩
    · rw [Below.heap_alloc _ _ _ (by rw [z2]; omega), Below.heap_alloc _ _ _ (by rw [z1]; omega)]
      exact Array.getElem?_push_size
    · rw [Below.heap_alloc _ _ _ (by rw [z2]; omega), ← z1]
      exact Array.getElem?_push_size
    · rw [← z2]
      exact Array.getElem?_push_size
  have H0 := Aside0.mk h0
  clear hC hl h0
  go_enter Tryd.func18, Tryd.ntmps18
  go_wp2
  go_loopw [4, 5, 6] (fun v4 v5 v6 wr => ∃ v : Nat, v ≤ m ∧ v4 = .int .i64 v ∧ Aside0 (NormAt w wr m (.slice A es.length c) (refNorm es v m))) (fun v4 _ _ _ => m - (intOf v4).toNat)
  case atStart => exact ⟨0, Nat.zero_le _, rfl, H0⟩
  case round =>
    obtain ⟨v, hv, rfl, hN⟩ := hrel
    obtain ⟨wo, rfl⟩ : ∃ wo : World, wo = wr := ⟨_, rfl⟩
    have c0 : wo.cell? ⟨w.heap.size, 0, none⟩ = some (.int .i64 m) := by rw [blk_cell hN.out.2.1]; rfl
    by_cases hlt : v < m
    · go_wp2
      clear c0
      go_loopw [5, 6] (fun v5 v6 wr => ∃ x : Nat, x ≤ m ∧ v5 = .int .i64 x ∧ Aside0 (NormAt w wr m (.slice A es.length c) (refNorm es v m ++ at1 es v x))) (fun v5 _ _ => m - (intOf v5).toNat)
      case atStart => exact ⟨0, Nat.zero_le _, rfl, ⟨by simpa [at1] using hN.out⟩⟩
      case round =>
        obtain ⟨x, hx, rfl, hN2⟩ := hrel
        obtain ⟨wi, rfl⟩ : ∃ wi : World, wi = wr := ⟨_, rfl⟩
        have c0 : wi.cell? ⟨w.heap.size, 0, none⟩ = some (.int .i64 m) := by rw [blk_cell hN2.out.2.1]; rfl
        by_cases hxl : x < m
        · go_wp2
          clear c0
          go_loopw [6] (fun v6 wr => ∃ i : Nat, i ≤ es.length ∧ v6 = .int .i64 i ∧ Aside0 (NormAt w wr m (.slice A es.length c) (refNorm es v m ++ at1 es v x ++ at2 (es.take i) v x))) (fun v6 _ => es.length - (intOf v6).toNat)
          case atStart => exact ⟨0, Nat.zero_le _, rfl, ⟨by simpa [at2] using hN2.out⟩⟩
          case round =>
            obtain ⟨i, hi, rfl, hN3⟩ := hrel
            obtain ⟨hB, b1, b2, u, b3, hR⟩ := hN3.out
            have c0 : wr.cell? ⟨w.heap.size, 0, none⟩ = some (.int .i64 m) := by rw [blk_cell b1]; rfl
            have c1 : wr.cell? ⟨w.heap.size, 1, none⟩ = some (.slice A es.length c) := by rw [blk_cell b1]; rfl
            have c2 : wr.cell? ⟨w.heap.size + 2, 1, none⟩ = some u := by rw [blk_cell b3]; rfl
            have f2 : wr.frozen? ⟨w.heap.size + 2, 1, none⟩ = false := blk_frozen b3 1
            have hs : w.heap.size ≤ wr.heap.size := hB.size
            have hgl : w.heap.size + 2 < wr.heap.size := blk_lt b3
            have B1 := Aside0.mk b1
            have B2 := Aside0.mk b2
            have B3 := Aside0.mk b3
            have HB := Aside0.mk hB
            have HR := Aside0.mk hR
            clear hB b1 b2 b3 hR
            by_cases hil : i < es.length
            · obtain ⟨ad, rfl, a0, a1, a2⟩ := KE_at (Kd.C_below HC.out HB.out) i hil
              have i1 : (0 : Int) ≤ (i : Int) := by omega
              have i2 : (i : Int) < (es.length : Int) := by omega
              have hT := at2_take es v x i hil
              have hlen := HL.out v x i hlt hxl hi
              cases hsv : (es[i].src == (v : Int)) with
              | false =>
                have HT := Aside0.mk (show NormAt w wr m (.slice (some ad) es.length c) (refNorm es v m ++ at1 es v x ++ at2 (es.take (i + 1)) v x) by rw [hT, hsv]; simpa using hN3.out)
                clear hT
                go_wp2
                go_roundw
                case rel => exact ⟨i + 1, by omega, by go_num, HT⟩
                case measure => simp [intOf]; omega
              | true =>
                cases hsw : (es[i].dst == (x : Int)) with
                | false =>
                  have HT := Aside0.mk (show NormAt w wr m (.slice (some ad) es.length c) (refNorm es v m ++ at1 es v x ++ at2 (es.take (i + 1)) v x) by rw [hT, hsv, hsw]; simpa using hN3.out)
                  clear hT
                  go_wp2
                  go_roundw
                  case rel => exact ⟨i + 1, by omega, by go_num, HT⟩
                  case measure => simp [intOf]; omega
                | true =>
                  rw [hsv, hsw] at hT
                  simp only [Bool.and_self, if_true] at hT
                  have HT := Aside0.mk hT
                  have hgne : some (w.heap.size + 2) ≠ u.ownBlock := graph_apart B3.out HR.out
                  have HRD : Aside0 (KE.R 45 wr.drew w.heap.size (fun _ => True) u (refNorm es v m ++ at1 es v x ++ at2 (es.take i) v x)) := ⟨Kd.R_step HR.out (fun _ _ _ => rfl)⟩
                  clear hT
                  go_wp2
                  go_region_law ((refine Kd.R_append_step KE (w0 := w) (W := wr.drew) w.heap.size (by rfl) (.tmp 48) (.tmp 54) 22 45 (.agg #[.int .i64 0, .int .i64 0, .int .i64 0]) 24 (by rfl) Tryd.underlying22 infoE rfl (by decide) (by decide) u (refNorm es v m ++ at1 es v x ++ at2 (es.take i) v x) es[i] [.int .i64 es[i].src, .int .i64 es[i].dst, .int .i64 es[i].wt] (fun _ => True) (fun _ => False) (by rfl) (by rfl) rfl (fun _ hk => hk.elim) (fun _ _ => trivial) HRD.out HB.out.drew hs (by omega) ?_; intro v1 w1 hR1 hB1 hg1 hat1; have HX := Aside0.mk (NormAt.push (wr := wr.drew) (sl := .slice (some ad) es.length c) (n := m) B1.out B2.out B3.out HRD.out hB1 hR1 hg1); have hw1 := blk_frozen (blk_grown (w := wr.drew) B3.out hg1 hgne) 1; have hw2 : w1.cell? ⟨w.heap.size + 2, 1, none⟩ = some u := (by rw [blk_cell (blk_grown (w := wr.drew) B3.out hg1 hgne)]; rfl); obtain ⟨A1, k1, c1, rfl⟩ : ∃ A k c, v1 = .slice A k c := (by obtain ⟨A, c, e⟩ := Kd.R_slice hR1; exact ⟨A, _, c, e⟩); clear hR1 hB1 hg1 hat1))
                  all_goals
                    go_wp2
                    go_roundw
                    case rel => exact ⟨i + 1, by omega, by go_num, ⟨by rw [HT.out, ← List.append_assoc]; exact HX.out⟩⟩
                    case measure => simp [intOf]; omega
            · obtain rfl : i = es.length := by omega
              have HT := Aside0.mk (show NormAt w wr m (.slice A es.length c) (refNorm es v m ++ at1 es v (x + 1)) by rw [at1_succ, ← List.append_assoc]; have := hN3.out; rwa [List.take_length] at this)
              go_wp2
              go_roundw
              case rel => exact ⟨x + 1, by omega, by go_num, HT⟩
              case measure => simp [intOf]; omega
        · obtain rfl : x = m := by omega
          have HT := Aside0.mk (show NormAt w wi x (.slice A es.length c) (refNorm es (v + 1) x) by rw [refNorm_succ]; exact hN2.out)
          go_wp2
          go_roundw
          case rel => exact ⟨v + 1, by omega, by go_num, HT⟩
          case measure => simp [intOf]; omega
    · obtain rfl : v = m := by omega
      obtain ⟨hB, b1, b2, u, b3, hR⟩ := hN.out
      obtain ⟨A1, k1, c1, rfl⟩ : ∃ A k c, u = .slice A k c := by obtain ⟨A, c, e⟩ := Kd.R_slice hR; exact ⟨A, _, c, e⟩
      have d0 : wo.cell? ⟨w.heap.size + 2, 0, none⟩ = some (.int .i64 v) := by rw [blk_cell b3]; rfl
      have d1 : wo.cell? ⟨w.heap.size + 2, 1, none⟩ = some (.slice A1 k1 c1) := by rw [blk_cell b3]; rfl
      have e0 : wo.cell? ⟨w.heap.size + 1, 0, none⟩ = some (.int .i64 0) := by rw [blk_cell b2]; rfl
      have e1 : wo.cell? ⟨w.heap.size + 1, 1, none⟩ = some (.slice none 0 0) := by rw [blk_cell b2]; rfl
      have f0 : wo.frozen? ⟨w.heap.size + 1, 0, none⟩ = false := blk_frozen b2 0
      have f1 : wo.frozen? ⟨w.heap.size + 1, 1, none⟩ = false := blk_frozen b2 1
      have B2 := Aside0.mk b2
      have HB := Aside0.mk hB
      have HR := Aside0.mk hR
      clear hB b1 b2 b3 hR
      go_wp2
      have hR5 := Kd.R_set HR.out B2.out edge_no_graph 0 (.int .i64 v)
      have hR6 := Kd.R_set hR5 (blk_put B2.out 0 (.int .i64 v) rfl) edge_no_graph 1 (.slice A1 k1 c1)
      refine bodyPost_ret (v := .agg #[.int .i64 v, .slice A1 k1 c1]) (by simp [results, Tryd.results18, go_sem, *]) rfl ⟨_, rfl, hR6, ?_⟩
      exact (HB.out.setCell (by simp) _).setCell (by simp) _
theorem range_prefix {a b : Nat} (h : a ≤ b) : ∃ r, List.range b = List.range a ++ r := by
  refine ⟨(List.range b).drop a, ?_⟩
  have : (List.range b).take a = List.range a := by rw [List.take_range, Nat.min_eq_left h]
  rw [← this, List.take_append_drop]
theorem at1_sub (es : List Edge) (v : Nat) {a b : Nat} (h : a ≤ b) : (at1 es v a).Sublist (at1 es v b) := by
  obtain ⟨r, hr⟩ := range_prefix h
  unfold at1
  rw [hr, List.flatMap_append]
  exact List.sublist_append_left _ _
theorem refNorm_sub (es : List Edge) (m : Nat) {a b : Nat} (h : a ≤ b) : (refNorm es a m).Sublist (refNorm es b m) := by
  obtain ⟨r, hr⟩ := range_prefix h
  unfold refNorm
  rw [hr, List.flatMap_append]
  exact List.sublist_append_left _ _
theorem refNorm_part (es : List Edge) (m v x i : Nat) (hv : v < m) (hx : x < m) : (refNorm es v m ++ at1 es v x ++ at2 (es.take i) v x).Sublist (refNorm es m m) := by
  refine List.Sublist.trans ?_ (refNorm_sub es m (show v + 1 ≤ m from hv))
  rw [refNorm_succ, List.append_assoc]
  refine List.Sublist.append (List.Sublist.refl _) (List.Sublist.trans ?_ (at1_sub es v (show x + 1 ≤ m from hx)))
  rw [at1_succ]
  exact List.Sublist.append (List.Sublist.refl _) (List.Sublist.filter _ (List.take_sublist _ _))
theorem refNorm_ok (n : Int) (A : Option Addr) (c : Nat) (es : List Edge) (w : World) (hC : KE.C w A es.length es) (h : Graph.check ⟨n, es⟩ = 0) :
    Calls Tryd.prog 18 #[.agg #[.int .i64 n, .slice A es.length c]] w fun e w' => ∃ u : Value, e = .returned (.agg #[.int .i64 n, u]) ∧ KE.R 45 w' w.heap.size (fun _ => True) u (norm es) ∧ Below w.heap.size w w' := by
  obtain ⟨h1, h2, h3, _, _⟩ := check_zero h
  have h1 : 1 ≤ n := h1
  have h2 : n ≤ 64 := h2
  have e := refNorm_eq n es h
  have hn : n = ((n.toNat : Nat) : Int) := by omega
  have hlen : (refNorm es n.toNat n.toNat).length = es.length := by rw [e]; exact (norm_sorted es).1.length_eq
  have := refNorm_any n.toNat A c es w (by omega) hC (fun v x i hv hx _ => Nat.le_trans (refNorm_part es n.toNat v x i hv hx).length_le (by rw [hlen]; exact h3))
  rw [e, ← hn] at this
  exact this
end Go.Proofs.YtenpmbebghlnkaaDoor
