/-
  A graph whose edges are turned: norm, text and errors are the same. The walk of the statement.
-/
import Derived.Test.YtenpmbebghlnkaaDoorKParts
import Derived.Deep.DeepCutAuto
namespace Go.Proofs.YtenpmbebghlnkaaDoor
open Go.RowKit Go.Proofs.YtenpmbebghlnkaaDoorW.PrintWords Go.Proofs.YtenpmbebghlnkaaDoorW.PrintLast Go.Proofs.YtenpmbebghlnkaaDoorW.PrintMore
set_option linter.unusedVariables false
set_option linter.unusedSimpArgs false
attribute [local go_sem] max2_int min2_int max_two min_two max_three min_three max_four min_four
theorem sl_from (ad : Addr) (len c k : Nat) (h : k < len) (hc : len ≤ c) (wx : World) :
    (Instr.slice 22 (.slice (some ad) len c) (some (.int .i64 (k : Int))) none none).run Tryd.prog wx = .ok (.slice (some (ad.add (k * 3))) (len - k) (c - k)) wx := by
  have h1 : (0 : Int) ≤ (k : Int) := by omega
  have h2 : (k : Int) ≤ (len : Int) := by omega
  have h3 : ¬ c = k := by omega
  go_simp
/-- What Norm and Show give of a graph, whatever the order of its edges. -/
theorem alike (n : Int) (es : List Edge) : ∃ (n1 : Int) (L : List Edge) (x : Int) (S : ByteArray),
    (∀ es', es'.Perm es → ∀ A c w, KE.C w A es'.length es' → Calls Tryd.prog 12 #[.agg #[.int .i64 n, .slice A es'.length c]] w fun e w' => ∃ A' c', e = .returned (.tuple #[.agg #[.int .i64 n1, .slice A' L.length c'], .int .i64 x]) ∧ KE.C w' A' L.length L ∧ Below w.heap.size w w' ∧ L.length ≤ c') ∧
    (∀ es', es'.Perm es → ∀ A c w, KE.C w A es'.length es' → Laid w → Calls Tryd.prog 22 #[.agg #[.int .i64 n, .slice A es'.length c]] w fun e w' => e = .returned (.tuple #[.string S, .int .i64 x]) ∧ Below w.heap.size w w') := by
  by_cases hc : Graph.check ⟨n, es⟩ = 0
  · refine ⟨n, norm es, 0, bs (graphText n (norm es)), fun es' hp A c w hC => ?_, fun es' hp A c w hC hL => ?_⟩
    · have h := norm_C n A c es' w hC (by rw [check_perm hp]; exact hc)
      rw [norm_perm hp hc] at h
      exact h
    · have h := show_ok n A c es' w hC hL (by rw [check_perm hp]; exact hc)
      rw [norm_perm hp hc] at h
      exact h
  · refine ⟨0, [], Graph.check ⟨n, es⟩, ⟨#[]⟩, fun es' hp A c w hC => ?_, fun es' hp A c w hC hL => ?_⟩
    · have h := norm_bad n A c es' w hC (by rw [check_perm hp]; exact hc)
      rw [check_perm hp] at h
      exact h.mono fun e w' ⟨he, hb⟩ => ⟨none, 0, he, ⟨rfl, by decide, fun hp => absurd hp (by decide)⟩, hb, Nat.le_refl _⟩
    · have h := show_bad n A c es' w hC (by rw [check_perm hp]; exact hc)
      rw [check_perm hp] at h
      exact h
set_option maxRecDepth 100000 in
set_option maxHeartbeats 4000000 in
theorem turned_long (n : Int) (A : Option Addr) (c : Nat) (es : List Edge) (z : Int) (w : World) (hC : KE.C w A es.length es) (hcap : es.length ≤ c) (hz : 0 ≤ z ∧ z ≤ 65535) (hL : Laid w) (hlen : 600 < es.length) : Calls Tryd.prog 6 #[.agg #[.int .i64 n, .slice A es.length c], .int .u16 z] w fun e w' => e = .returned (.bool true) ∧ Below w.heap.size w w' := by
  have hm : es.length ≤ 9223372036854775807 := hC.2.1
  obtain ⟨w0, hw0⟩ : ∃ w0 : World, w.alloc (.cells #[.int .i64 n, .slice A es.length c] 24) = w0 := ⟨_, rfl⟩
  have hb0 : Below w.heap.size w w0 := by rw [← hw0]; exact (Below.refl _ w).alloc (Nat.le_refl _) _
  have hg0 : w0.heap[w.heap.size]? = some (.cells #[.int .i64 n, .slice A es.length c] 24 (0, 0)) := by rw [← hw0]; exact World.alloc_heap_new w _
  have HA := Aside0.mk (awake_any w0 (hL.below hb0))
  have HL0 := Aside0.mk (hL.below hb0)
  have HC0 := Aside0.mk (Kd.C_below hC hb0)
  have HB0 := Aside0.mk hb0
  have HG0 := Aside0.mk hg0
  have HW0 := Aside0.mk hw0
  clear hL hC hb0 hg0 hw0
  go_enter Tryd.func6, Tryd.ntmps6
  go_wp2_with fail
  rw [HW0.out]
  refine HA.out.mono ?_
  rintro e w1 ⟨rfl, hb1⟩
  have hg1 := (hb1.block _ (blk_lt HG0.out)).trans HG0.out
  have c0 : w1.cell? ⟨w.heap.size, 0, none⟩ = some (.int .i64 n) := by rw [blk_cell hg1]; rfl
  have c1 : w1.cell? ⟨w.heap.size, 1, none⟩ = some (.slice A es.length c) := by rw [blk_cell hg1]; rfl
  have HA2 := Aside0.mk (awake_any w1 (HL0.out.below hb1))
  have HB1 := Aside0.mk (below_step HB0.out hb1)
  clear hb1 hg1
  go_wp2_with (go_at_call 10; refine HA2.out.mono ?_; rintro e w2 ⟨rfl, hb2⟩; have HB2 := Aside0.mk (below_step HB1.out hb2); clear hb2)
  go_ret
  exact ⟨rfl, HB2.out⟩
set_option maxRecDepth 100000 in
set_option maxHeartbeats 4000000 in
theorem turned_none (n : Int) (A : Option Addr) (c : Nat) (es : List Edge) (z : Int) (w : World) (hC : KE.C w A es.length es) (hcap : es.length ≤ c) (hz : 0 ≤ z ∧ z ≤ 65535) (hL : Laid w) (hlen : es.length = 0) : Calls Tryd.prog 6 #[.agg #[.int .i64 n, .slice A es.length c], .int .u16 z] w fun e w' => e = .returned (.bool true) ∧ Below w.heap.size w w' := by
  obtain rfl : es = [] := List.length_eq_zero_iff.1 hlen
  have hm : 0 ≤ 9223372036854775807 := hC.2.1
  obtain ⟨w0, hw0⟩ : ∃ w0 : World, w.alloc (.cells #[.int .i64 n, .slice A 0 c] 24) = w0 := ⟨_, rfl⟩
  have hb0 : Below w.heap.size w w0 := by rw [← hw0]; exact (Below.refl _ w).alloc (Nat.le_refl _) _
  have hg0 : w0.heap[w.heap.size]? = some (.cells #[.int .i64 n, .slice A 0 c] 24 (0, 0)) := by rw [← hw0]; exact World.alloc_heap_new w _
  have HA := Aside0.mk (awake_any w0 (hL.below hb0))
  have HL0 := Aside0.mk (hL.below hb0)
  have HC0 := Aside0.mk (Kd.C_below hC hb0)
  have HB0 := Aside0.mk hb0
  have HG0 := Aside0.mk hg0
  have HW0 := Aside0.mk hw0
  clear hL hC hb0 hg0 hw0
  go_enter Tryd.func6, Tryd.ntmps6
  go_wp2_with fail
  rw [HW0.out]
  refine HA.out.mono ?_
  rintro e w1 ⟨rfl, hb1⟩
  have hg1 := (hb1.block _ (blk_lt HG0.out)).trans HG0.out
  have c0 : w1.cell? ⟨w.heap.size, 0, none⟩ = some (.int .i64 n) := by rw [blk_cell hg1]; rfl
  have c1 : w1.cell? ⟨w.heap.size, 1, none⟩ = some (.slice A 0 c) := by rw [blk_cell hg1]; rfl
  have HA2 := Aside0.mk (awake_any w1 (HL0.out.below hb1))
  have HB1 := Aside0.mk (below_step HB0.out hb1)
  clear hb1 hg1
  go_wp2_with (go_at_call 10; refine HA2.out.mono ?_; rintro e w2 ⟨rfl, hb2⟩; have HB2 := Aside0.mk (below_step HB1.out hb2); clear hb2)
  go_ret
  exact ⟨rfl, HB2.out⟩
set_option maxRecDepth 100000 in
set_option maxHeartbeats 4000000 in
theorem turned_ok (n : Int) (A : Option Addr) (c : Nat) (es : List Edge) (z : Int) (w : World) (hC : KE.C w A es.length es) (hcap : es.length ≤ c) (hz : 0 ≤ z ∧ z ≤ 65535) (hL : Laid w) (hlen : ¬ 600 < es.length) (hpos : 0 < es.length) : Calls Tryd.prog 6 #[.agg #[.int .i64 n, .slice A es.length c], .int .u16 z] w fun e w' => e = .returned (.bool true) ∧ Below w.heap.size w w' := by
  have hl0 : ((es.length : Int) == 0) = false := by rw [beq_eq_false_iff_ne]; omega
  obtain ⟨k, hzk, hk⟩ : ∃ k : Nat, z % (es.length : Int) = (k : Int) ∧ k < es.length := by
    have h1 := Int.emod_nonneg z (show (es.length : Int) ≠ 0 by omega)
    have h2 := Int.emod_lt_of_pos z (show (0 : Int) < (es.length : Int) by omega)
    exact ⟨(z % (es.length : Int)).toNat, by omega, by omega⟩
  obtain ⟨hz0, hz1⟩ := hz
  obtain ⟨ad, rfl, _⟩ := KE_at hC k hk
  have hm : es.length ≤ 9223372036854775807 := hC.2.1
  obtain ⟨w0, hw0⟩ : ∃ w0 : World, w.alloc (.cells #[.int .i64 n, .slice (some ad) es.length c] 24) = w0 := ⟨_, rfl⟩
  have hb0 : Below w.heap.size w w0 := by rw [← hw0]; exact (Below.refl _ w).alloc (Nat.le_refl _) _
  have hg0 : w0.heap[w.heap.size]? = some (.cells #[.int .i64 n, .slice (some ad) es.length c] 24 (0, 0)) := by rw [← hw0]; exact World.alloc_heap_new w _
  have HA := Aside0.mk (awake_any w0 (hL.below hb0))
  have HL0 := Aside0.mk (hL.below hb0)
  have HC0 := Aside0.mk (Kd.C_below hC hb0)
  have HB0 := Aside0.mk hb0
  have HG0 := Aside0.mk hg0
  have HW0 := Aside0.mk hw0
  clear hL hC hb0 hg0 hw0
  go_enter Tryd.func6, Tryd.ntmps6
  go_wp2_with fail
  rw [HW0.out]
  refine HA.out.mono ?_
  rintro e w1 ⟨rfl, hb1⟩
  have hg1 := (hb1.block _ (blk_lt HG0.out)).trans HG0.out
  have c0 : w1.cell? ⟨w.heap.size, 0, none⟩ = some (.int .i64 n) := by rw [blk_cell hg1]; rfl
  have c1 : w1.cell? ⟨w.heap.size, 1, none⟩ = some (.slice (some ad) es.length c) := by rw [blk_cell hg1]; rfl
  have HG1 := Aside0.mk hg1
  have HL1 := Aside0.mk (HL0.out.below hb1)
  have HC1 := Aside0.mk (Kd.C_below HC0.out hb1)
  have HB1 := Aside0.mk (below_step HB0.out hb1)
  have hltw : w.heap.size < w1.heap.size := blk_lt hg1
  clear hb1 hg1
  go_wp2
  rw [hzk]
  have hsl1 := sl_from ad es.length c k hk hcap
  have hsl2 := sl_head ad es.length c k (by omega) hcap (by omega)
  have HZK := Lib.hid hzk
  have HG := HG1
  have C1of : Aside0 (∀ wx, Below w1.heap.size w1 wx → KE.C wx (some (ad.add (k * 3))) (es.length - k) (es.drop k)) := ⟨fun wx hb => by have := KE_tail (Kd.C_below HC1.out hb) hcap (k := k) (by omega); rw [if_neg (by omega)] at this; exact this⟩
  have C2of : Aside0 (∀ wx, Below w1.heap.size w1 wx → KE.C wx (some ad) k (es.take k)) := ⟨fun wx hb => KE_head (Kd.C_below HC1.out hb) (by omega)⟩
  clear hzk
  go_upto_region 4 with fail
  go_cut [6] (fun s6 wx => ∃ b6 : Nat, s6 = .pointer (some ⟨b6, 0, none⟩) ∧ Aside0 (MadeG w1 wx b6 n (es.drop k ++ es.take k)))
  case first =>
    go_region_held3 (fun w' => w'.cell? ⟨w.heap.size, 0, none⟩ = some (.int .i64 n) ∧ w'.cell? ⟨w.heap.size, 1, none⟩ = some (.slice (some ad) es.length c)) (refine ⟨?_, ?_⟩ <;> (first | assumption | simp [go_sem, World.cell?_alloc_some, *])) ((first | (have hbx : Below w1.heap.size w1 ((w1.alloc (.cells #[] 45)).drew) := (Below.drew (Below.alloc (Below.refl _ w1) (Nat.le_refl _) _)); have hrx := lit_own (base := w1.heap.size) (t := 45) (W := ((w1.alloc (.cells #[] 45)).drew)) KE (al1_0 w1 (.cells #[] 45)) (show w1.heap.size ≤ w1.heap.size from by omega); refine Kd.R_append_rows_step KE (Rr := fun x cs => cs = Edge.enc x) (w0 := w1) (W := ((w1.alloc (.cells #[] 45)).drew)) w1.heap.size (by rfl) (.tmp 38) (.tmp 42) 22 45 (.agg #[.int .i64 0, .int .i64 0, .int .i64 0]) 24 (by rfl) Tryd.underlying22 infoE rfl (by decide) (by decide) (.slice (some ⟨w1.heap.size, 0, none⟩) 0 0) [] (es.drop k) (some (ad.add (k * 3))) (es.length - k) (c - k) (fun _ => True) (fun _ => False) (by rfl) (by rfl) hrx (C1of.out _ hbx) (fun _ _ hx => hx) (fun _ hk => hk.elim) (fun _ _ => trivial) hbx hbx.size (by first | omega | (simp <;> omega)) ?_; intro v4 w4 hR4 hB4 hg4 hat4; obtain ⟨A4, m4, q4, rfl⟩ : ∃ A k c, v4 = .slice A k c := (by obtain ⟨A, c, e⟩ := Kd.R_slice hR4; exact ⟨A, _, c, e⟩); have HR4 := Aside0.mk (show KE.R 45 w4 w1.heap.size (fun _ => True) (.slice A4 m4 q4) (es.drop k) from hR4); have HB4 := Aside0.mk hB4; have hz4 := hB4.size; obtain ⟨k0, k1, _, _⟩ := blk_two ((hB4.block _ (blk_lt HG.out)).trans HG.out); have hn4 : w.heap.size < w4.heap.size := (by omega); have hn41 : w.heap.size < w4.heap.size + 1 := (by omega); clear hR4 hB4 hg4 hat4 hbx hrx) | (have hbx : Below w1.heap.size w1 (((w1.alloc (.cells #[] 45)).alloc (.cells #[.int .i64 0, .slice none 0 0] 24)).drew) := (Below.drew (Below.alloc (Below.alloc (Below.refl _ w1) (Nat.le_refl _) _) (by first | omega | (simp <;> omega)) _)); have hrx := lit_own (base := w1.heap.size) (t := 45) (W := (((w1.alloc (.cells #[] 45)).alloc (.cells #[.int .i64 0, .slice none 0 0] 24)).drew)) KE (al2_0 w1 (.cells #[] 45) (.cells #[.int .i64 0, .slice none 0 0] 24)) (show w1.heap.size ≤ w1.heap.size from by omega); refine Kd.R_append_rows_step KE (Rr := fun x cs => cs = Edge.enc x) (w0 := w1) (W := (((w1.alloc (.cells #[] 45)).alloc (.cells #[.int .i64 0, .slice none 0 0] 24)).drew)) w1.heap.size (by rfl) (.tmp 38) (.tmp 42) 22 45 (.agg #[.int .i64 0, .int .i64 0, .int .i64 0]) 24 (by rfl) Tryd.underlying22 infoE rfl (by decide) (by decide) (.slice (some ⟨w1.heap.size, 0, none⟩) 0 0) [] (es.drop k) (some (ad.add (k * 3))) (es.length - k) (c - k) (fun _ => True) (fun _ => False) (by rfl) (by rfl) hrx (C1of.out _ hbx) (fun _ _ hx => hx) (fun _ hk => hk.elim) (fun _ _ => trivial) hbx hbx.size (by first | omega | (simp <;> omega)) ?_; intro v4 w4 hR4 hB4 hg4 hat4; have E4 := Aside0.mk (show w4.heap[w1.heap.size + 1]? = some (.cells #[.int .i64 0, .slice none 0 0] 24 (0, 0)) from blk_grown (w := (((w1.alloc (.cells #[] 45)).alloc (.cells #[.int .i64 0, .slice none 0 0] 24)).drew)) (al2_1 w1 (.cells #[] 45) (.cells #[.int .i64 0, .slice none 0 0] 24)) hg4 (fun e => by have e2 := Option.some.inj e; simp at e2 <;> omega)); have lE4 : w1.heap.size + 1 < w4.heap.size := blk_lt E4.out; have hle7 : w1.heap.size ≤ w1.heap.size + 1 := (by omega); obtain ⟨A4, m4, q4, rfl⟩ : ∃ A k c, v4 = .slice A k c := (by obtain ⟨A, c, e⟩ := Kd.R_slice hR4; exact ⟨A, _, c, e⟩); have HR4 := Aside0.mk (show KE.R 45 w4 w1.heap.size (fun _ => True) (.slice A4 m4 q4) (es.drop k) from hR4); have HB4 := Aside0.mk hB4; have hz4 := hB4.size; obtain ⟨k0, k1, _, _⟩ := blk_two ((hB4.block _ (blk_lt HG.out)).trans HG.out); have hn4 : w.heap.size < w4.heap.size := (by omega); have hn41 : w.heap.size < w4.heap.size + 1 := (by omega); clear hR4 hB4 hg4 hat4 hbx hrx) | (have hbx : Below w1.heap.size w1 (((w1.alloc (.cells #[.int .i64 0, .slice none 0 0] 24)).alloc (.cells #[] 45)).drew) := (Below.drew (Below.alloc (Below.alloc (Below.refl _ w1) (Nat.le_refl _) _) (by first | omega | (simp <;> omega)) _)); have hrx := lit_own (base := w1.heap.size) (t := 45) (W := (((w1.alloc (.cells #[.int .i64 0, .slice none 0 0] 24)).alloc (.cells #[] 45)).drew)) KE (al2_1 w1 (.cells #[.int .i64 0, .slice none 0 0] 24) (.cells #[] 45)) (show w1.heap.size ≤ w1.heap.size + 1 from by omega); refine Kd.R_append_rows_step KE (Rr := fun x cs => cs = Edge.enc x) (w0 := w1) (W := (((w1.alloc (.cells #[.int .i64 0, .slice none 0 0] 24)).alloc (.cells #[] 45)).drew)) w1.heap.size (by rfl) (.tmp 38) (.tmp 42) 22 45 (.agg #[.int .i64 0, .int .i64 0, .int .i64 0]) 24 (by rfl) Tryd.underlying22 infoE rfl (by decide) (by decide) (.slice (some ⟨w1.heap.size + 1, 0, none⟩) 0 0) [] (es.drop k) (some (ad.add (k * 3))) (es.length - k) (c - k) (fun _ => True) (fun _ => False) (by rfl) (by rfl) hrx (C1of.out _ hbx) (fun _ _ hx => hx) (fun _ hk => hk.elim) (fun _ _ => trivial) hbx hbx.size (by first | omega | (simp <;> omega)) ?_; intro v4 w4 hR4 hB4 hg4 hat4; have E4 := Aside0.mk (show w4.heap[w1.heap.size]? = some (.cells #[.int .i64 0, .slice none 0 0] 24 (0, 0)) from blk_grown (w := (((w1.alloc (.cells #[.int .i64 0, .slice none 0 0] 24)).alloc (.cells #[] 45)).drew)) (al2_0 w1 (.cells #[.int .i64 0, .slice none 0 0] 24) (.cells #[] 45)) hg4 (fun e => by have e2 := Option.some.inj e; simp at e2 <;> omega)); have lE4 : w1.heap.size < w4.heap.size := blk_lt E4.out; have hle7 : w1.heap.size ≤ w1.heap.size := (by omega); obtain ⟨A4, m4, q4, rfl⟩ : ∃ A k c, v4 = .slice A k c := (by obtain ⟨A, c, e⟩ := Kd.R_slice hR4; exact ⟨A, _, c, e⟩); have HR4 := Aside0.mk (show KE.R 45 w4 w1.heap.size (fun _ => True) (.slice A4 m4 q4) (es.drop k) from hR4); have HB4 := Aside0.mk hB4; have hz4 := hB4.size; obtain ⟨k0, k1, _, _⟩ := blk_two ((hB4.block _ (blk_lt HG.out)).trans HG.out); have hn4 : w.heap.size < w4.heap.size := (by omega); have hn41 : w.heap.size < w4.heap.size + 1 := (by omega); clear hR4 hB4 hg4 hat4 hbx hrx) | (have hby : Below w4.heap.size w4 w4 := (Below.refl _ w4); have hbw : Below w1.heap.size w1 w4 := below_step HB4.out hby; have hr4 := Kd.R_below HR4.out hby; have E5 := Aside0.mk ((hby.block _ lE4).trans E4.out); refine Kd.R_append_rows_step KE (Rr := fun x cs => cs = Edge.enc x) (w0 := w1) (W := w4) w1.heap.size (by rfl) (.tmp 43) (.tmp 47) 22 45 (.agg #[.int .i64 0, .int .i64 0, .int .i64 0]) 24 (by rfl) Tryd.underlying22 infoE rfl (by decide) (by decide) (.slice A4 m4 q4) (es.drop k) (es.take k) (some ad) (k) (c) (fun _ => True) (fun _ => False) (by rfl) (by rfl) hr4 (C2of.out _ hbw) (fun _ _ hx => hx) (fun _ hk => hk.elim) (fun _ _ => trivial) hbw hbw.size (by first | omega | (simp <;> omega)) ?_; intro v5 w5 hR5 hB5 hg5 hat5; have hg7 := blk_grown E5.out hg5 (graph_apart E5.out hr4); obtain ⟨e0, e1, f0, f1⟩ := blk_two hg7; have H7 := Aside0.mk hg7; clear hg7; obtain ⟨A5, m5, q5, rfl⟩ : ∃ A k c, v5 = .slice A k c := (by obtain ⟨A, c, e⟩ := Kd.R_slice hR5; exact ⟨A, _, c, e⟩); have HR5 := Aside0.mk hR5; have HB5 := Aside0.mk hB5; obtain ⟨k2, k3, _, _⟩ := blk_two ((hB5.block _ (blk_lt HG.out)).trans HG.out); clear hR5 hB5 hg5 hat5 hby hbw hr4) | (have hby : Below w4.heap.size w4 w4 := (Below.refl _ w4); have hbw : Below w1.heap.size w1 w4 := below_step HB4.out hby; have hr4 := Kd.R_below HR4.out hby; refine Kd.R_append_rows_step KE (Rr := fun x cs => cs = Edge.enc x) (w0 := w1) (W := w4) w1.heap.size (by rfl) (.tmp 43) (.tmp 47) 22 45 (.agg #[.int .i64 0, .int .i64 0, .int .i64 0]) 24 (by rfl) Tryd.underlying22 infoE rfl (by decide) (by decide) (.slice A4 m4 q4) (es.drop k) (es.take k) (some ad) (k) (c) (fun _ => True) (fun _ => False) (by rfl) (by rfl) hr4 (C2of.out _ hbw) (fun _ _ hx => hx) (fun _ hk => hk.elim) (fun _ _ => trivial) hbw hbw.size (by first | omega | (simp <;> omega)) ?_; intro v5 w5 hR5 hB5 hg5 hat5; obtain ⟨A5, m5, q5, rfl⟩ : ∃ A k c, v5 = .slice A k c := (by obtain ⟨A, c, e⟩ := Kd.R_slice hR5; exact ⟨A, _, c, e⟩); have HR5 := Aside0.mk hR5; have HB5 := Aside0.mk hB5; obtain ⟨k2, k3, _, _⟩ := blk_two ((hB5.block _ (blk_lt HG.out)).trans HG.out); clear hR5 hB5 hg5 hat5 hby hbw hr4) | (have hby : Below w4.heap.size w4 (w4.alloc (.cells #[.int .i64 0, .slice none 0 0] 24)) := (Below.alloc (Below.refl _ w4) (Nat.le_refl _) _); have hbw : Below w1.heap.size w1 (w4.alloc (.cells #[.int .i64 0, .slice none 0 0] 24)) := below_step HB4.out hby; have hr4 := Kd.R_below HR4.out hby; have E5 := Aside0.mk (al1_0 w4 (.cells #[.int .i64 0, .slice none 0 0] 24)); refine Kd.R_append_rows_step KE (Rr := fun x cs => cs = Edge.enc x) (w0 := w1) (W := (w4.alloc (.cells #[.int .i64 0, .slice none 0 0] 24))) w1.heap.size (by rfl) (.tmp 43) (.tmp 47) 22 45 (.agg #[.int .i64 0, .int .i64 0, .int .i64 0]) 24 (by rfl) Tryd.underlying22 infoE rfl (by decide) (by decide) (.slice A4 m4 q4) (es.drop k) (es.take k) (some ad) (k) (c) (fun _ => True) (fun _ => False) (by rfl) (by rfl) hr4 (C2of.out _ hbw) (fun _ _ hx => hx) (fun _ hk => hk.elim) (fun _ _ => trivial) hbw hbw.size (by first | omega | (simp <;> omega)) ?_; intro v5 w5 hR5 hB5 hg5 hat5; have hg7 := blk_grown E5.out hg5 (graph_apart E5.out hr4); have hle7 : w1.heap.size ≤ w4.heap.size := (by omega); obtain ⟨e0, e1, f0, f1⟩ := blk_two hg7; have H7 := Aside0.mk hg7; clear hg7; obtain ⟨A5, m5, q5, rfl⟩ : ∃ A k c, v5 = .slice A k c := (by obtain ⟨A, c, e⟩ := Kd.R_slice hR5; exact ⟨A, _, c, e⟩); have HR5 := Aside0.mk hR5; have HB5 := Aside0.mk hB5; obtain ⟨k2, k3, _, _⟩ := blk_two ((hB5.block _ (blk_lt HG.out)).trans HG.out); clear hR5 hB5 hg5 hat5 hby hbw hr4)))
    all_goals (go_wp2_with fail; go_meet; first | exact ⟨_, rfl, ⟨made_new HR5.out HB5.out⟩⟩ | exact ⟨_, rfl, ⟨made_old HR5.out HB5.out H7.out hle7⟩⟩)
  case rest =>
    obtain ⟨b6, rfl, hM⟩ := hcut
    obtain ⟨w2, rfl⟩ : ∃ w2 : World, w2 = wc := ⟨_, rfl⟩
    obtain ⟨hb2, A6, c6, hg6, hC6⟩ := hM.out
    have hP0 : (es.drop k ++ es.take k).Perm es := List.perm_append_comm.trans (by rw [List.take_append_drop])
    obtain ⟨L6, hL6⟩ : ∃ L, es.drop k ++ es.take k = L := ⟨_, rfl⟩
    rw [hL6] at hP0 hg6 hC6
    have hl6 : L6.length = es.length := hP0.length_eq
    have hl60 : L6.length * 24 ≤ 140737488355328 := by omega
    have hl61 : es.length * 24 ≤ 140737488355328 := by omega
    obtain ⟨n1, L, x, S, hNm, hSh⟩ := alike n es
    have HNe := Aside0.mk (hNm es (List.Perm.refl _))
    have HN6 := Aside0.mk (hNm L6 hP0)
    have HSe := Aside0.mk (hSh es (List.Perm.refl _))
    have HS6 := Aside0.mk (hSh L6 hP0)
    have HG2 := Aside0.mk ((hb2.block _ (blk_lt HG1.out)).trans HG1.out)
    have HG6 := Aside0.mk hg6
    have HC2 := Aside0.mk (Kd.C_below HC1.out hb2)
    have HC6 := Aside0.mk hC6
    have HL2 := Aside0.mk (HL1.out.below hb2)
    have HB2 := Aside0.mk (below_step HB1.out hb2)
    have HO2 := Aside0.mk (own_C n (some ad) c es w2 HC2.out hl61)
    have hlL6 := Lib.hid hl60
    have hlE6 := Lib.hid hl61
    obtain ⟨k0, k1, _, _⟩ := blk_two HG2.out
    clear hl6 hl60 hl61 hP0 hNm hSh hb2 hg6 hC6 hM hL6 hsl1 hsl2 C1of C2of HG HG1 HL1 HC1 HB1 HZK HA HL0 HG0 HC0 HB0 HW0 c0 c1 hltw hlen hpos hl0 hz0 hz1 hcap
    go_wp2_with fail
    refine HO2.out.mono ?_
    rintro e w3 ⟨A3, c3, rfl, hC3, hb3, _⟩
    have HN3 := Aside0.mk (HNe.out A3 c3 w3 hC3)
    have HB3 := Aside0.mk (below_step HB2.out hb3)
    have HG3 := Aside0.mk ((hb3.block _ (blk_lt HG2.out)).trans HG2.out)
    have HH3 := Aside0.mk ((hb3.block _ (blk_lt HG6.out)).trans HG6.out)
    have HC3 := Aside0.mk (Kd.C_below HC2.out hb3)
    have HD3 := Aside0.mk (Kd.C_below HC6.out hb3)
    have HL3 := Aside0.mk (HL2.out.below hb3)
    clear hC3 hb3 k0 k1 HO2
    go_wp2_with fail
    refine HN3.out.mono ?_
    rintro e w4 ⟨A4, c4, rfl, hC4, hb4, hl4⟩
    obtain ⟨p0, p1, _, _⟩ := blk_two ((hb4.block _ (blk_lt HH3.out)).trans HH3.out)
    have hlt6 : b6 < w4.heap.size := blk_lt ((hb4.block _ (blk_lt HH3.out)).trans HH3.out)
    obtain ⟨w5, hw5⟩ : ∃ W : World, w4.alloc (.cells #[.int .i64 n1, .slice A4 L.length c4] 24) = W := ⟨_, rfl⟩
    have hb5 : Below w4.heap.size w4 w5 := by rw [← hw5]; exact (Below.refl _ w4).alloc (Nat.le_refl _) _
    have hbs := below_step hb4 hb5
    have HT5 := Aside0.mk (show w5.heap[w4.heap.size]? = some (.cells #[.int .i64 n1, .slice A4 L.length c4] 24 (0, 0)) by rw [← hw5]; exact World.alloc_heap_new w4 _)
    have HB5 := Aside0.mk (below_step HB3.out hbs)
    have HG5 := Aside0.mk ((hbs.block _ (blk_lt HG3.out)).trans HG3.out)
    have HH5 := Aside0.mk ((hbs.block _ (blk_lt HH3.out)).trans HH3.out)
    have HC5 := Aside0.mk (Kd.C_below HC3.out hbs)
    have HD5 := Aside0.mk (Kd.C_below HD3.out hbs)
    have HL5 := Aside0.mk (HL3.out.below hbs)
    have HE5 := Aside0.mk (Kd.C_below hC4 hb5)
    have HN5 := Aside0.mk (HN6.out A6 c6 w5 HD5.out)
    have HW5 := Aside0.mk hw5
    have HQ4 := Lib.hid hl4
    clear hC4 hb4 hb5 hbs hl4 hw5 HN3
    go_wp2_with fail
    rw [HW5.out]
    refine HN5.out.mono ?_
    rintro e w6 ⟨A7, c7, rfl, hC7, hb6, hl7⟩
    obtain ⟨k0, k1, _, _⟩ := blk_two ((hb6.block _ (blk_lt HG5.out)).trans HG5.out)
    have hlt7 : w.heap.size < w6.heap.size := blk_lt ((hb6.block _ (blk_lt HG5.out)).trans HG5.out)
    obtain ⟨w7, hw7⟩ : ∃ W : World, w6.alloc (.cells #[.int .i64 n1, .slice A7 L.length c7] 24) = W := ⟨_, rfl⟩
    have hb7 : Below w6.heap.size w6 w7 := by rw [← hw7]; exact (Below.refl _ w6).alloc (Nat.le_refl _) _
    have hbs := below_step hb6 hb7
    have HU7 := Aside0.mk (show w7.heap[w6.heap.size]? = some (.cells #[.int .i64 n1, .slice A7 L.length c7] 24 (0, 0)) by rw [← hw7]; exact World.alloc_heap_new w6 _)
    have HT7 := Aside0.mk ((hbs.block _ (blk_lt HT5.out)).trans HT5.out)
    have HB7 := Aside0.mk (below_step HB5.out hbs)
    have HH7 := Aside0.mk ((hbs.block _ (blk_lt HH5.out)).trans HH5.out)
    have HC7 := Aside0.mk (Kd.C_below HC5.out hbs)
    have HD7 := Aside0.mk (Kd.C_below HD5.out hbs)
    have HL7 := Aside0.mk (HL5.out.below hbs)
    have HE7 := Aside0.mk (Kd.C_below HE5.out hbs)
    have HF7 := Aside0.mk (Kd.C_below hC7 hb7)
    have HO7 := Aside0.mk (own_C n (some ad) c es w7 HC7.out hlE6)
    have HW7 := Aside0.mk hw7
    have HQ7 := Lib.hid hl7
    clear hC7 hb6 hb7 hbs hl7 hw7 HN5 p0 p1 hlt6
    go_wp2_with fail
    rw [HW7.out]
    refine HO7.out.mono ?_
    rintro e w8 ⟨A8, c8, rfl, hC8, hb8, _⟩
    have HL8 := Aside0.mk (HL7.out.below hb8)
    have HS8 := Aside0.mk (HSe.out A8 c8 w8 hC8 HL8.out)
    have HU8 := Aside0.mk ((hb8.block _ (blk_lt HU7.out)).trans HU7.out)
    have HT8 := Aside0.mk ((hb8.block _ (blk_lt HT7.out)).trans HT7.out)
    have HH8 := Aside0.mk ((hb8.block _ (blk_lt HH7.out)).trans HH7.out)
    have HD8 := Aside0.mk (Kd.C_below HD7.out hb8)
    have HE8 := Aside0.mk (Kd.C_below HE7.out hb8)
    have HF8 := Aside0.mk (Kd.C_below HF7.out hb8)
    have HB8 := Aside0.mk (below_step HB7.out hb8)
    clear hC8 hb8 k0 k1 hlt7 HO7
    go_wp2_with fail
    refine HS8.out.mono ?_
    rintro e w9 ⟨rfl, hb9⟩
    obtain ⟨p0, p1, _, _⟩ := blk_two ((hb9.block _ (blk_lt HH8.out)).trans HH8.out)
    have HL9 := Aside0.mk (HL8.out.below hb9)
    have HU9 := Aside0.mk ((hb9.block _ (blk_lt HU8.out)).trans HU8.out)
    have HT9 := Aside0.mk ((hb9.block _ (blk_lt HT8.out)).trans HT8.out)
    have HE9 := Aside0.mk (Kd.C_below HE8.out hb9)
    have HF9 := Aside0.mk (Kd.C_below HF8.out hb9)
    have HB9 := Aside0.mk (below_step HB8.out hb9)
    have HO9 := Aside0.mk (own_C n A6 c6 L6 w9 (Kd.C_below HD8.out hb9) hlL6)
    clear hb9 HS8
    go_wp2_with fail
    refine HO9.out.mono ?_
    rintro e w10 ⟨A10, c10, rfl, hC10, hb10, _⟩
    have HL10 := Aside0.mk (HL9.out.below hb10)
    have HS10 := Aside0.mk (HS6.out A10 c10 w10 hC10 HL10.out)
    have HU10 := Aside0.mk ((hb10.block _ (blk_lt HU9.out)).trans HU9.out)
    have HT10 := Aside0.mk ((hb10.block _ (blk_lt HT9.out)).trans HT9.out)
    have HE10 := Aside0.mk (Kd.C_below HE9.out hb10)
    have HF10 := Aside0.mk (Kd.C_below HF9.out hb10)
    have HB10 := Aside0.mk (below_step HB9.out hb10)
    clear hC10 hb10 p0 p1 HO9
    go_wp2_with fail
    refine HS10.out.mono ?_
    rintro e w11 ⟨rfl, hb11⟩
    obtain ⟨q0, q1, _, _⟩ := blk_two ((hb11.block _ (blk_lt HT10.out)).trans HT10.out)
    obtain ⟨r0, r1, _, _⟩ := blk_two ((hb11.block _ (blk_lt HU10.out)).trans HU10.out)
    have HM11 := Aside0.mk (same_true n1 A4 A7 c4 c7 L w11 (Kd.C_below HE10.out hb11) (Kd.C_below HF10.out hb11) HQ4 HQ7)
    have HB11 := Aside0.mk (below_step HB10.out hb11)
    clear hb11 HS10
    go_wp2_with fail
    refine HM11.out.mono ?_
    rintro e w12 ⟨rfl, hb12⟩
    have HB12 := Aside0.mk (below_step HB11.out hb12)
    clear hb12
    go_wp2
    go_ret
    exact ⟨rfl, HB12.out⟩
theorem turned_walk (n : Int) (A : Option Addr) (c : Nat) (es : List Edge) (z : Int) (w : World) (hC : KE.C w A es.length es) (hcap : es.length ≤ c) (hz : 0 ≤ z ∧ z ≤ 65535) (hL : Laid w) : Calls Tryd.prog 6 #[.agg #[.int .i64 n, .slice A es.length c], .int .u16 z] w fun e w' => e = .returned (.bool true) ∧ Below w.heap.size w w' := by
  by_cases hlen : 600 < es.length
  · exact turned_long n A c es z w hC hcap hz hL hlen
  · by_cases hpos : es.length = 0
    · exact turned_none n A c es z w hC hcap hz hL hpos
    · exact turned_ok n A c es z w hC hcap hz hL hlen (by omega)
end Go.Proofs.YtenpmbebghlnkaaDoor
