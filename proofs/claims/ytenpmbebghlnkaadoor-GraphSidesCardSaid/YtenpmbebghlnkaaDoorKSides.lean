/-
  GraphSides: over all vertices, the rows out and the rows in are as many as the edges; each rises. The walk of the statement.
-/
import Derived.Test.YtenpmbebghlnkaaDoorKSidesLaw
import Derived.Test.YtenpmbebghlnkaaDoorKParts
import Derived.Deep.DeepCutAuto
namespace Go.Proofs.YtenpmbebghlnkaaDoor
open Go.RowKit Go.Proofs.YtenpmbebghlnkaaDoorW.PrintWords Go.Proofs.YtenpmbebghlnkaaDoorW.PrintLast Go.Proofs.YtenpmbebghlnkaaDoorW.PrintMore
set_option linter.unusedVariables false
set_option linter.unusedSimpArgs false
attribute [local go_sem] max2_int min2_int max_two min_two max_three min_three max_four min_four
set_option maxRecDepth 100000 in
set_option maxHeartbeats 4000000 in
theorem sides_long (n : Int) (A : Option Addr) (c : Nat) (es : List Edge) (w : World) (hC : KE.C w A es.length es) (hL : Laid w) (hlen : 600 < es.length) : Calls Tryd.prog 7 #[.agg #[.int .i64 n, .slice A es.length c]] w fun e w' => e = .returned (.bool true) ∧ Below w.heap.size w w' := by
  have hm : es.length ≤ 9223372036854775807 := hC.2.1
  obtain ⟨w0, hw0⟩ : ∃ w0 : World, w.alloc (.cells #[.int .i64 n, .slice A es.length c] 24) = w0 := ⟨_, rfl⟩
  have hb0 : Below w.heap.size w w0 := by rw [← hw0]; exact (Below.refl _ w).alloc (Nat.le_refl _) _
  have hg0 : w0.heap[w.heap.size]? = some (.cells #[.int .i64 n, .slice A es.length c] 24 (0, 0)) := by rw [← hw0]; exact World.alloc_heap_new w _
  have HA := Aside0.mk (awake_any w0 (hL.below hb0))
  have HL0 := Aside0.mk (hL.below hb0)
  have HC0 := Aside0.mk (Kd.C_below hC hb0)
  have HB0 := Aside0.mk hb0
  have HG0 := Aside0.mk hg0
  have HW0 := Aside0.mk hw0
  clear hL hC hb0 hg0 hw0
  go_enter Tryd.func7, Tryd.ntmps7
  go_wp2_with fail
  rw [HW0.out]
  refine HA.out.mono ?_
  rintro e w1 ⟨rfl, hb1⟩
  have hg1 := (hb1.block _ (blk_lt HG0.out)).trans HG0.out
  have c0 : w1.cell? ⟨w.heap.size, 0, none⟩ = some (.int .i64 n) := by rw [blk_cell hg1]; rfl
  have c1 : w1.cell? ⟨w.heap.size, 1, none⟩ = some (.slice A es.length c) := by rw [blk_cell hg1]; rfl
  have HA2 := Aside0.mk (awake_any w1 (HL0.out.below hb1))
  have HB1 := Aside0.mk (below_step HB0.out hb1)
  clear hb1 hg1
  go_wp2_with (go_at_call 10; refine HA2.out.mono ?_; rintro e w2 ⟨rfl, hb2⟩; have HB2 := Aside0.mk (below_step HB1.out hb2); clear hb2)
  go_ret
  exact ⟨rfl, HB2.out⟩
set_option maxRecDepth 100000 in
set_option maxHeartbeats 4000000 in
theorem sides_odd (n : Int) (A : Option Addr) (c : Nat) (es : List Edge) (w : World) (hC : KE.C w A es.length es) (hL : Laid w) (hlen : ¬ 600 < es.length) (hch : Graph.check ⟨n, es⟩ ≠ 0) : Calls Tryd.prog 7 #[.agg #[.int .i64 n, .slice A es.length c]] w fun e w' => e = .returned (.bool true) ∧ Below w.heap.size w w' := by
  have hx : (Graph.check ⟨n, es⟩ != 0) = true := by simpa using hch
  clear hch
  have hm : es.length ≤ 9223372036854775807 := hC.2.1
  obtain ⟨w0, hw0⟩ : ∃ w0 : World, w.alloc (.cells #[.int .i64 n, .slice A es.length c] 24) = w0 := ⟨_, rfl⟩
  have hb0 : Below w.heap.size w w0 := by rw [← hw0]; exact (Below.refl _ w).alloc (Nat.le_refl _) _
  have hg0 : w0.heap[w.heap.size]? = some (.cells #[.int .i64 n, .slice A es.length c] 24 (0, 0)) := by rw [← hw0]; exact World.alloc_heap_new w _
  have HA := Aside0.mk (awake_any w0 (hL.below hb0))
  have HL0 := Aside0.mk (hL.below hb0)
  have HC0 := Aside0.mk (Kd.C_below hC hb0)
  have HB0 := Aside0.mk hb0
  have HG0 := Aside0.mk hg0
  have HW0 := Aside0.mk hw0
  clear hL hC hb0 hg0 hw0
  go_enter Tryd.func7, Tryd.ntmps7
  go_wp2_with fail
  rw [HW0.out]
  refine HA.out.mono ?_
  rintro e w1 ⟨rfl, hb1⟩
  have hg1 := (hb1.block _ (blk_lt HG0.out)).trans HG0.out
  have c0 : w1.cell? ⟨w.heap.size, 0, none⟩ = some (.int .i64 n) := by rw [blk_cell hg1]; rfl
  have c1 : w1.cell? ⟨w.heap.size, 1, none⟩ = some (.slice A es.length c) := by rw [blk_cell hg1]; rfl
  have HG1 := Aside0.mk hg1
  have HL1 := Aside0.mk (HL0.out.below hb1)
  have HC1 := Aside0.mk (Kd.C_below HC0.out hb1)
  have HO1 := Aside0.mk (own_C n A c es w1 HC1.out (by omega))
  have HB1 := Aside0.mk (below_step HB0.out hb1)
  clear hb1 hg1
  go_wp2_with fail
  refine HO1.out.mono ?_
  rintro e w2 ⟨A2, c2, rfl, hC2, hb2, _⟩
  have HG2 := Aside0.mk ((hb2.block _ (blk_lt HG1.out)).trans HG1.out)
  have HL2 := Aside0.mk (HL1.out.below hb2)
  have HC2 := Aside0.mk (Kd.C_below HC1.out hb2)
  have HK2 := Aside0.mk (check_any n A2 c2 es w2 hC2)
  have HB2 := Aside0.mk (below_step HB1.out hb2)
  clear hb2 hC2
  generalize Graph.check ⟨n, es⟩ = x at *
  go_wp2_with fail
  refine HK2.out.mono ?_
  rintro e w3 ⟨rfl, hb3⟩
  have HA3 := Aside0.mk (awake_any w3 (HL2.out.below hb3))
  have HB3 := Aside0.mk (below_step HB2.out hb3)
  clear hb3
  go_wp2_with (go_at_call 10; refine HA3.out.mono ?_; rintro e w4 ⟨rfl, hb4⟩; have HB4 := Aside0.mk (below_step HB3.out hb4); clear hb4)
  go_ret
  exact ⟨rfl, HB4.out⟩
set_option maxRecDepth 100000 in
set_option maxHeartbeats 4000000 in
theorem sides_ok (m : Nat) (A : Option Addr) (c : Nat) (es : List Edge) (w : World) (hC : KE.C w A es.length es) (hL : Laid w) (hlen : ¬ 600 < es.length) (hch : Graph.check ⟨(m : Int), es⟩ = 0) : Calls Tryd.prog 7 #[.agg #[.int .i64 (m : Int), .slice A es.length c]] w fun e w' => e = .returned (.bool true) ∧ Below w.heap.size w w' := by
  have hl512 : es.length ≤ 512 := (check_zero hch).2.2.1
  have hm64 : (m : Int) ≤ 64 := (check_zero hch).2.1
  have hm64 : m ≤ 64 := by omega
  have hm : es.length ≤ 9223372036854775807 := hC.2.1
  obtain ⟨w0, hw0⟩ : ∃ w0 : World, w.alloc (.cells #[.int .i64 (m : Int), .slice A es.length c] 24) = w0 := ⟨_, rfl⟩
  have hb0 : Below w.heap.size w w0 := by rw [← hw0]; exact (Below.refl _ w).alloc (Nat.le_refl _) _
  have hg0 : w0.heap[w.heap.size]? = some (.cells #[.int .i64 (m : Int), .slice A es.length c] 24 (0, 0)) := by rw [← hw0]; exact World.alloc_heap_new w _
  have HA := Aside0.mk (awake_any w0 (hL.below hb0))
  have HL0 := Aside0.mk (hL.below hb0)
  have HC0 := Aside0.mk (Kd.C_below hC hb0)
  have HB0 := Aside0.mk hb0
  have HG0 := Aside0.mk hg0
  have HW0 := Aside0.mk hw0
  clear hL hC hb0 hg0 hw0
  go_enter Tryd.func7, Tryd.ntmps7
  go_wp2_with fail
  rw [HW0.out]
  refine HA.out.mono ?_
  rintro e w1 ⟨rfl, hb1⟩
  have hg1 := (hb1.block _ (blk_lt HG0.out)).trans HG0.out
  have c0 : w1.cell? ⟨w.heap.size, 0, none⟩ = some (.int .i64 (m : Int)) := by rw [blk_cell hg1]; rfl
  have c1 : w1.cell? ⟨w.heap.size, 1, none⟩ = some (.slice A es.length c) := by rw [blk_cell hg1]; rfl
  have HG1 := Aside0.mk hg1
  have HL1 := Aside0.mk (HL0.out.below hb1)
  have HC1 := Aside0.mk (Kd.C_below HC0.out hb1)
  have HO1 := Aside0.mk (own_C (m : Int) A c es w1 HC1.out (by omega))
  have HB1 := Aside0.mk (below_step HB0.out hb1)
  clear hb1 hg1
  go_wp2_with fail
  refine HO1.out.mono ?_
  rintro e w2 ⟨A2, c2, rfl, hC2, hb2, _⟩
  have HG2 := Aside0.mk ((hb2.block _ (blk_lt HG1.out)).trans HG1.out)
  have HL2 := Aside0.mk (HL1.out.below hb2)
  have HC2 := Aside0.mk (Kd.C_below HC1.out hb2)
  have HK2 := Aside0.mk (check_any (m : Int) A2 c2 es w2 hC2)
  have HB2 := Aside0.mk (below_step HB1.out hb2)
  clear hb2 hC2
  rw [hch] at HK2
  have HCH := Aside0.mk hch
  clear hch
  go_wp2_with fail
  refine HK2.out.mono ?_
  rintro e w3 ⟨rfl, hb3⟩
  have hg3 := (hb3.block _ (blk_lt HG2.out)).trans HG2.out
  have d0 : w3.cell? ⟨w.heap.size, 0, none⟩ = some (.int .i64 (m : Int)) := by rw [blk_cell hg3]; rfl
  have d1 : w3.cell? ⟨w.heap.size, 1, none⟩ = some (.slice A es.length c) := by rw [blk_cell hg3]; rfl
  have HG3 := Aside0.mk hg3
  have HC3 := Aside0.mk (Kd.C_below HC2.out hb3)
  have HB3 := Aside0.mk (below_step HB2.out hb3)
  clear hb3 hg3
  clear HG2 HC2 HL2 HL1 HC1 HG1 HK2 HO1 HA HL0 HG0 HC0 HB0 HW0 HB1 HB2 c0 c1
  have AS0 := Aside0.mk (cntS_zero HCH.out)
  have AD0 := Aside0.mk (cntD_zero HCH.out)
  have ASm := Aside0.mk (cntS_all HCH.out)
  have ADm := Aside0.mk (cntD_all HCH.out)
  have ALN := Aside0.mk (norm_len es)
  clear d0 d1
  go_wp2
  go_loopw [3, 4, 5, 6, 7, 8, 9] (fun v3 v4 v5 v6 v7 v8 v9 wr => ∃ v : Nat, v ≤ m ∧ v3 = .int .i64 (cntS (norm es) v : Nat) ∧ v4 = .int .i64 (cntD (norm es) v : Nat) ∧ v5 = .int .i64 v ∧ Aside0 (Below w3.heap.size w3 wr)) (fun _ _ v5 _ _ _ _ _ => m - (intOf v5).toNat)
  case atStart => exact ⟨0, Nat.zero_le _, by rw [AS0.out]; rfl, by rw [AD0.out]; rfl, rfl, ⟨Below.refl _ _⟩⟩
  case round =>
    obtain ⟨v, hv, rfl, rfl, rfl, hB⟩ := hrel
    obtain ⟨wo, rfl⟩ : ∃ wo : World, wo = wr := ⟨_, rfl⟩
    have HGO := Aside0.mk ((hB.out.block _ (blk_lt HG3.out)).trans HG3.out)
    have CO := Aside0.mk (Kd.C_below HC3.out hB.out)
    obtain ⟨c0, c1, _, _⟩ := blk_two HGO.out
    have D0 : Below wo.heap.size wo wo.drew := Below.drew (Below.refl _ _)
    have CELLS : Aside0 (∀ w', Below wo.heap.size wo w' → w'.cell? ⟨w.heap.size, 0, none⟩ = some (.int .i64 (m : Int)) ∧ w'.cell? ⟨w.heap.size, 1, none⟩ = some (.slice A es.length c)) := ⟨fun w' hI => by
      obtain ⟨q0, q1, _, _⟩ := blk_two ((hI.block _ (blk_lt HGO.out)).trans HGO.out)
      exact ⟨q0, q1⟩⟩
    have AOW : Aside0 (∀ w', Below wo.heap.size wo w' → Calls Tryd.prog 13 #[.agg #[.int .i64 (m : Int), .slice A es.length c]] w' fun e w'' => ∃ A' c', e = .returned (.agg #[.int .i64 (m : Int), .slice A' es.length c']) ∧ Aside0 (KE.C w'' A' es.length es) ∧ Below wo.heap.size wo w'' ∧ Aside0 (Below w'.heap.size w' w'')) := ⟨fun w' hI =>
      (own_C (m : Int) A c es w' (Kd.C_below CO.out hI) (by omega)).mono fun e w'' ⟨A', c', he, hC, hb, _⟩ => ⟨A', c', he, ⟨hC⟩, below_step hI hb, ⟨hb⟩⟩⟩
    have AOU : Aside0 (∀ (u : Int) w' A' c', Below wo.heap.size wo w' → Aside0 (KE.C w' A' es.length es) → Calls Tryd.prog 16 #[.agg #[.int .i64 (m : Int), .slice A' es.length c'], .int .i64 u] w' fun e w'' => ∃ A'' c'', e = .returned (.slice A'' ((norm es).filter (fun x => x.src == u)).length c'') ∧ Aside0 (KE.C w'' A'' ((norm es).filter (fun x => x.src == u)).length ((norm es).filter (fun x => x.src == u))) ∧ Below wo.heap.size wo w'') := ⟨fun u w' A' c' hI hC =>
      (out_C (m : Int) A' c' es u w' hC.out HCH.out).mono fun e w'' ⟨A'', c'', he, hC'', hb, _⟩ => ⟨A'', c'', he, ⟨hC''⟩, below_step hI hb⟩⟩
    by_cases hlt : v < m
    · have AIN : Aside0 (∀ w' A' c', Below wo.heap.size wo w' → Aside0 (KE.C w' A' es.length es) → Calls Tryd.prog 17 #[.agg #[.int .i64 (m : Int), .slice A' es.length c'], .int .i64 (v : Int)] w' fun e w'' => ∃ A'' c'', e = .returned (.slice A'' ((norm es).filter (fun x => x.dst == (v : Int))).length c'') ∧ Aside0 (KE.C w'' A'' ((norm es).filter (fun x => x.dst == (v : Int))).length ((norm es).filter (fun x => x.dst == (v : Int)))) ∧ Below wo.heap.size wo w'' ∧ Aside0 (Below w'.heap.size w' w'')) := ⟨fun w' A' c' hI hC =>
        (in_C (m : Int) A' c' es v w' hC.out HCH.out).mono fun e w'' ⟨A'', c'', he, hC'', hb, _⟩ => ⟨A'', c'', he, ⟨hC''⟩, below_step hI hb, ⟨hb⟩⟩⟩
      obtain ⟨fo, efo⟩ : ∃ l, (norm es).filter (fun x => x.src == (v : Int)) = l := ⟨_, rfl⟩
      obtain ⟨fi, efi⟩ : ∃ l, (norm es).filter (fun x => x.dst == (v : Int)) = l := ⟨_, rfl⟩
      have AOV : Aside0 (∀ w' A' c', Below wo.heap.size wo w' → Aside0 (KE.C w' A' es.length es) → Calls Tryd.prog 16 #[.agg #[.int .i64 (m : Int), .slice A' es.length c'], .int .i64 (v : Int)] w' fun e w'' => ∃ A'' c'', e = .returned (.slice A'' fo.length c'') ∧ Aside0 (KE.C w'' A'' fo.length fo) ∧ Below wo.heap.size wo w'') := ⟨by subst efo; exact AOU.out (v : Int)⟩
      have AIV : Aside0 (∀ w' A' c', Below wo.heap.size wo w' → Aside0 (KE.C w' A' es.length es) → Calls Tryd.prog 17 #[.agg #[.int .i64 (m : Int), .slice A' es.length c'], .int .i64 (v : Int)] w' fun e w'' => ∃ A'' c'', e = .returned (.slice A'' fi.length c'') ∧ Aside0 (KE.C w'' A'' fi.length fi) ∧ Below wo.heap.size wo w'' ∧ Aside0 (Below w'.heap.size w' w'')) := ⟨by subst efi; exact AIN.out⟩
      have HRS : Aside0 ((∀ i, (h : i < fo.length) → fo[i].src = (v : Int)) ∧ (∀ i, (h : i + 1 < fo.length) → fo[i].dst < fo[i + 1].dst)) := ⟨by subst efo; exact out_rise HCH.out (v : Int)⟩
      have HRD : Aside0 ((∀ i, (h : i < fi.length) → fi[i].dst = (v : Int)) ∧ (∀ i, (h : i + 1 < fi.length) → fi[i].src < fi[i + 1].src)) := ⟨by subst efi; exact in_rise HCH.out (v : Int)⟩
      have hsS := cntS_succ (norm es) v
      have hsD := cntD_succ (norm es) v
      have hbS := cntS_le (norm es) (v + 1)
      have hbD := cntD_le (norm es) (v + 1)
      rw [ALN.out] at hbS hbD
      rw [efo] at hsS
      rw [efi] at hsD
      have iw1 : IntKind.i64.wrap ((cntS (norm es) v : Int) + (fo.length : Int)) = (cntS (norm es) (v + 1) : Int) := by rw [IntWalk.i64_in _ (by omega)]; omega
      have iw2 : IntKind.i64.wrap ((cntD (norm es) v : Int) + (fi.length : Int)) = (cntD (norm es) (v + 1) : Int) := by rw [IntWalk.i64_in _ (by omega)]; omega
      have hfo : fo.length ≤ 512 := by omega
      have hfi : fi.length ≤ 512 := by omega
      have HB := hB
      have ASV := Aside0.mk (show (cntS (norm es) (v + 1) : Int) = (cntS (norm es) (v + 1) : Int) from rfl)
      clear hsS hsD hbS hbD hB AOU AIN efo efi ASV
      go_wp2
      go_region_held3 (fun w' => w'.cell? ⟨w.heap.size, 0, none⟩ = some (.int .i64 (m : Int)) ∧ w'.cell? ⟨w.heap.size, 1, none⟩ = some (.slice A es.length c)) (refine ⟨?_, ?_⟩ <;> (first | assumption | simp [go_sem, *])) ((first | (go_at_call 13; refine (AOW.out _ (by assumption)).mono ?_; rintro e w' ⟨A', c', rfl, hC', hI, hbb⟩; obtain ⟨k0, k1⟩ := CELLS.out _ hI; (try (have HCo2 := Aside0.mk (Kd.C_below HCo.out hbb.out))); clear hbb) | (go_at_call 16; refine (AOV.out _ _ _ (by assumption) (by assumption)).mono ?_; rintro e w' ⟨Ao, co, rfl, HCo, hI⟩; obtain ⟨k0, k1⟩ := CELLS.out _ hI) | (go_at_call 17; refine (AIV.out _ _ _ (by assumption) (by assumption)).mono ?_; rintro e w' ⟨Aj, cj, rfl, HCj, hI, hbb⟩; obtain ⟨k0, k1⟩ := CELLS.out _ hI; have HCo3 := Aside0.mk (Kd.C_below HCo2.out hbb.out); have HI3 := Aside0.mk hI; clear hbb)))
      all_goals
        obtain ⟨wz, rfl⟩ : ∃ wz : World, wz = w' := ⟨_, rfl⟩
        have hmo : fo.length ≤ 9223372036854775807 := by omega
        have hmi : fi.length ≤ 9223372036854775807 := by omega
        have HBZ := Aside0.mk (below_step HB.out HI3.out)
        clear AOW AOV AIV CELLS
        go_wp2
        go_loopw [8] (fun vi wr => ∃ i : Nat, i ≤ fo.length ∧ vi = .int .i64 i ∧ Aside0 (Below wz.heap.size wz wr)) (fun vi _ => fo.length - (intOf vi).toNat)
        case atStart => exact ⟨0, Nat.zero_le _, rfl, ⟨Below.refl _ _⟩⟩
        case round =>
          obtain ⟨i, hi, rfl, hBi⟩ := hrel
          obtain ⟨wfo, rfl⟩ : ∃ wi : World, wi = wr := ⟨_, rfl⟩
          by_cases hil : i < fo.length
          · by_cases hp : i = 0
            · obtain ⟨ad, rfl, a0, a1, a2⟩ := KE_at (Kd.C_below HCo3.out hBi.out) i hil
              rw [HRS.out.1 i hil] at a0
              have i1 : (0 : Int) ≤ (i : Int) := by omega
              have i2 : (i : Int) < (fo.length : Int) := by omega
              have i3 : ¬ 0 < i := by omega
              have i6 : IntKind.i64.wrap ((i : Int) + 1) = (i : Int) + 1 := by rw [IntWalk.i64_in _ (by omega)]
              clear hp
              go_wp2
              go_quiet (fail)
              go_wp2
              go_roundw
              case rel => exact ⟨i + 1, by omega, by go_num, ⟨by first | exact hBi.out | exact pw_below_drewN hBi.out _ | (repeat (first | exact hBi.out | refine below_drew1 ?_))⟩⟩
              case measure => simp [intOf]; omega
            · obtain ⟨k, rfl⟩ : ∃ k, i = k + 1 := ⟨i - 1, by omega⟩
              obtain ⟨ad, rfl, a0, a1, a2⟩ := KE_at (Kd.C_below HCo3.out hBi.out) k (by omega)
              obtain ⟨ad', e', b0, b1, b2⟩ := KE_at (Kd.C_below HCo3.out hBi.out) (k + 1) hil
              obtain rfl : ad = ad' := by injection e'
              rw [HRS.out.1 (k + 1) hil] at b0
              have hge : ¬ fo[k + 1].dst ≤ fo[k].dst := by have := HRS.out.2 k hil; omega
              have i1 : (0 : Int) ≤ (k : Int) := by omega
              have i2 : (k : Int) < (fo.length : Int) := by omega
              have i3 : (k : Int) + 1 < (fo.length : Int) := by omega
              have i4 : (0 : Int) ≤ (k : Int) + 1 := by omega
              have i5 : ((k : Int) + 1).toNat = k + 1 := by omega
              have i6 : IntKind.i64.wrap (k : Int) = (k : Int) := by rw [IntWalk.i64_in _ (by omega)]
              have i7 : (0 : Int) < (k : Int) + 1 := by omega
              clear e' hp
              go_wp2
              go_quiet (fail)
              go_wp2
              go_roundw
              case rel => exact ⟨k + 1 + 1, by omega, by go_num, ⟨by first | exact hBi.out | exact pw_below_drewN hBi.out _ | (repeat (first | exact hBi.out | refine below_drew1 ?_))⟩⟩
              case measure => simp [intOf]; omega
          · obtain rfl : i = fo.length := by omega
            have HBfo := hBi
            go_wp2
            have HCj4 := Aside0.mk (Kd.C_below HCj.out HBfo.out)
            go_loopw [9] (fun vi wr => ∃ i : Nat, i ≤ fi.length ∧ vi = .int .i64 i ∧ Aside0 (Below wfo.heap.size wfo wr)) (fun vi _ => fi.length - (intOf vi).toNat)
            case atStart => exact ⟨0, Nat.zero_le _, rfl, ⟨Below.refl _ _⟩⟩
            case round =>
              obtain ⟨i, hi, rfl, hBi⟩ := hrel
              obtain ⟨wfi, rfl⟩ : ∃ wi : World, wi = wr := ⟨_, rfl⟩
              by_cases hil : i < fi.length
              · by_cases hp : i = 0
                · obtain ⟨ad, rfl, a0, a1, a2⟩ := KE_at (Kd.C_below HCj4.out hBi.out) i hil
                  rw [HRD.out.1 i hil] at a1
                  have i1 : (0 : Int) ≤ (i : Int) := by omega
                  have i2 : (i : Int) < (fi.length : Int) := by omega
                  have i3 : ¬ 0 < i := by omega
                  have i6 : IntKind.i64.wrap ((i : Int) + 1) = (i : Int) + 1 := by rw [IntWalk.i64_in _ (by omega)]
                  clear hp
                  go_wp2
                  go_quiet (fail)
                  go_wp2
                  go_roundw
                  case rel => exact ⟨i + 1, by omega, by go_num, ⟨by first | exact hBi.out | exact pw_below_drewN hBi.out _ | (repeat (first | exact hBi.out | refine below_drew1 ?_))⟩⟩
                  case measure => simp [intOf]; omega
                · obtain ⟨k, rfl⟩ : ∃ k, i = k + 1 := ⟨i - 1, by omega⟩
                  obtain ⟨ad, rfl, a0, a1, a2⟩ := KE_at (Kd.C_below HCj4.out hBi.out) k (by omega)
                  obtain ⟨ad', e', b0, b1, b2⟩ := KE_at (Kd.C_below HCj4.out hBi.out) (k + 1) hil
                  obtain rfl : ad = ad' := by injection e'
                  rw [HRD.out.1 (k + 1) hil] at b1
                  have hge : ¬ fi[k + 1].src ≤ fi[k].src := by have := HRD.out.2 k hil; omega
                  have i1 : (0 : Int) ≤ (k : Int) := by omega
                  have i2 : (k : Int) < (fi.length : Int) := by omega
                  have i3 : (k : Int) + 1 < (fi.length : Int) := by omega
                  have i4 : (0 : Int) ≤ (k : Int) + 1 := by omega
                  have i5 : ((k : Int) + 1).toNat = k + 1 := by omega
                  have i6 : IntKind.i64.wrap (k : Int) = (k : Int) := by rw [IntWalk.i64_in _ (by omega)]
                  have i7 : (0 : Int) < (k : Int) + 1 := by omega
                  clear e' hp
                  go_wp2
                  go_quiet (fail)
                  go_wp2
                  go_roundw
                  case rel => exact ⟨k + 1 + 1, by omega, by go_num, ⟨by first | exact hBi.out | exact pw_below_drewN hBi.out _ | (repeat (first | exact hBi.out | refine below_drew1 ?_))⟩⟩
                  case measure => simp [intOf]; omega
              · obtain rfl : i = fi.length := by omega
                have HBfi := hBi
                go_wp2
                go_roundw
                case rel => exact ⟨v + 1, by omega, rfl, rfl, by go_num, ⟨below_step HBZ.out (below_step HBfo.out HBfi.out)⟩⟩
                case measure => simp [intOf]; omega
    · have hvm : v = m := by omega
      have AOM : Aside0 (∀ w' A' c', Below wo.heap.size wo w' → Aside0 (KE.C w' A' es.length es) → Calls Tryd.prog 16 #[.agg #[.int .i64 (m : Int), .slice A' es.length c'], .int .i64 (m : Int)] w' fun e w'' => ∃ A'' c'', e = .returned (.slice A'' 0 c'') ∧ Below wo.heap.size wo w'') := ⟨fun w' A' c' hI hC => by
        have h := AOU.out (m : Int) w' A' c' hI hC
        rw [out_none HCH.out] at h
        exact h.mono fun e w'' ⟨A'', c'', he, _, hb⟩ => ⟨A'', c'', he, hb⟩⟩
      have HB := hB
      rw [hvm, ASm.out, ADm.out]
      clear AOU hB hvm hlt hv
      go_wp2
      go_region_held3 (fun w' => w'.cell? ⟨w.heap.size, 0, none⟩ = some (.int .i64 (m : Int)) ∧ w'.cell? ⟨w.heap.size, 1, none⟩ = some (.slice A es.length c)) (refine ⟨?_, ?_⟩ <;> (first | assumption | simp [go_sem, *])) ((first | (go_at_call 13; refine (AOW.out _ (by assumption)).mono ?_; rintro e w' ⟨A', c', rfl, hC', hI, hbb⟩; obtain ⟨k0, k1⟩ := CELLS.out _ hI; clear hbb) | (go_at_call 16; refine (AOM.out _ _ _ (by assumption) (by assumption)).mono ?_; rintro e w' ⟨Ao, co, rfl, hI⟩; obtain ⟨k0, k1⟩ := CELLS.out _ hI; have HI3 := Aside0.mk hI)))
      all_goals
        go_wp2
        go_ret
        exact ⟨rfl, below_step (below_step HB3.out HB.out) HI3.out⟩
theorem sides_walk (n : Int) (A : Option Addr) (c : Nat) (es : List Edge) (w : World) (hC : KE.C w A es.length es) (hL : Laid w) : Calls Tryd.prog 7 #[.agg #[.int .i64 n, .slice A es.length c]] w fun e w' => e = .returned (.bool true) ∧ Below w.heap.size w w' := by
  by_cases hlen : 600 < es.length
  · exact sides_long n A c es w hC hL hlen
  · by_cases hch : Graph.check ⟨n, es⟩ = 0
    · obtain ⟨m, rfl⟩ : ∃ m : Nat, n = (m : Int) := ⟨n.toNat, by have h : 1 ≤ n := (check_zero hch).1; omega⟩
      exact sides_ok m A c es w hC hL hlen hch
    · exact sides_odd n A c es w hC hL hlen hch
end Go.Proofs.YtenpmbebghlnkaaDoor
