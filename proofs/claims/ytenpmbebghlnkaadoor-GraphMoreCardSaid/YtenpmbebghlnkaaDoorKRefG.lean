/-
  The reference of layer 5: the same edges, the same graphs, whether a graph may be.
-/
import Derived.Test.YtenpmbebghlnkaaDoorKGraphB
namespace Go.Proofs.YtenpmbebghlnkaaDoor
open Go.RowKit Go.Proofs.YtenpmbebghlnkaaDoorW.PrintWords Go.Proofs.YtenpmbebghlnkaaDoorW.PrintLast Go.Proofs.YtenpmbebghlnkaaDoorW.PrintMore
set_option linter.unusedVariables false
set_option linter.unusedSimpArgs false
attribute [local go_sem] max2_int min2_int max_two min_two max_three min_three max_four min_four
attribute [local go_sem high] eqE
theorem len_eqI {n m : Nat} (h : n = m) : ((n : Int) != (m : Int)) = false := by simp [h]
theorem len_neI {n m : Nat} (h : ¬ n = m) : ((n : Int) != (m : Int)) = true := by simp; omega
set_option maxRecDepth 100000 in
set_option maxHeartbeats 4000000 in
theorem rowE (v1 v2 : Value) (l1 l2 : List Edge) (w : World) (h1 : Sl KE w v1 l1) (h2 : Sl KE w v2 l2) :
    Calls Tryd.prog 19 #[v1, v2] w fun e w' => e = .returned (.bool (decide (l1 = l2))) ∧ Drawn0 w w' := by
  obtain ⟨A1, c1, rfl, hl1, hc1⟩ := h1
  obtain ⟨A2, c2, rfl, hl2, hc2⟩ := h2
  have hm1 : l1.length ≤ 9223372036854775807 := hc1.2.1
  have hm2 : l2.length ≤ 9223372036854775807 := hc2.2.1
  by_cases hL : l1.length = l2.length
  · have hL' := len_eqI hL
    go_enter Tryd.func19, Tryd.ntmps19
    go_wp2
    go_loopw [5] (fun v5 wr => ∃ k : Nat, k ≤ l1.length ∧ v5 = .int .i64 k ∧ Aside0 (l1.take k = l2.take k) ∧ Drawn0 w wr) (fun v5 _ => l1.length - (intOf v5).toNat)
    case atStart => exact ⟨0, Nat.zero_le _, rfl, ⟨rfl⟩, Drawn0.refl _⟩
    case round =>
      obtain ⟨k, hk, rfl, ht, ⟨⟨q, rfl⟩⟩⟩ := hrel
      by_cases hlt : k < l1.length
      · obtain ⟨ad1, rfl, u10, u11, u12⟩ := KE_at hc1 k hlt
        obtain ⟨ad2, rfl, u20, u21, u22⟩ := KE_at hc2 k (by omega)
        have hu := Tryd.underlying45
        clear hc1 hc2
        by_cases hn : l1[k] = l2[k]
        · have hn' := Edge.neb l1[k] l2[k]
          rw [decide_eq_true hn, Bool.not_true] at hn'
          have hn := Lib.hid hn
          go_wp2
          go_quiet (fail)
          go_wp2
          go_roundw
          case rel => exact ⟨k + 1, by omega, by go_num, ⟨by rw [List.take_succ_eq_append_getElem (by omega), List.take_succ_eq_append_getElem (by omega), ht.out, hn.out]⟩, (by repeat (first | exact Drawn0.refl _ | exact ⟨⟨_, rfl⟩⟩ | apply Drawn0.step))⟩
          case measure => simp [intOf]; omega
        · have hn' := Edge.neb l1[k] l2[k]
          rw [decide_eq_false hn, Bool.not_false] at hn'
          have hne : l1 ≠ l2 := fun e => by subst e; exact hn rfl
          go_wp2
          go_quiet (fail)
          go_wp2
          go_ret
          exact ⟨ret_bool (by simp [hne]), (by repeat (first | exact Drawn0.refl _ | exact ⟨⟨_, rfl⟩⟩ | apply Drawn0.step))⟩
      · obtain rfl : k = l1.length := by omega
        have he : l1 = l2 := by have := ht.out; rw [List.take_length] at this; rw [this, hL, List.take_length]
        go_wp2
        go_ret
        exact ⟨ret_bool (by simp [he]), ⟨⟨q, rfl⟩⟩⟩
  · have hL' := len_neI hL
    have hne : l1 ≠ l2 := fun e => hL (by rw [e])
    go_enter Tryd.func19, Tryd.ntmps19
    go_wp2
    go_ret
    exact ⟨ret_bool (by simp [hne]), Drawn0.refl _⟩
theorem drawn_below {w w' : World} (h : Drawn0 w w') : Below w.heap.size w w' := by
  obtain ⟨⟨q, rfl⟩⟩ := h
  exact pw_below_drewN (Below.refl _ _) q
set_option maxRecDepth 100000 in
set_option maxHeartbeats 4000000 in
theorem sameG (n1 n2 : Int) (v1 v2 : Value) (l1 l2 : List Edge) (w : World) (h1 : Sl KE w v1 l1) (h2 : Sl KE w v2 l2) :
    Calls Tryd.prog 15 #[.agg #[.int .i64 n1, v1], .agg #[.int .i64 n2, v2]] w fun e w' => e = .returned (.bool (decide (n1 = n2 ∧ l1 = l2))) ∧ Below w.heap.size w w' := by
  have hb : Below w.heap.size w ((w.alloc (.cells #[.int .i64 n1, v1] 24)).alloc (.cells #[.int .i64 n2, v2] 24)) := ((Below.refl _ w).alloc (Nat.le_refl _) _).alloc (by simp) _
  have HK := Aside0.mk (rowE v1 v2 l1 l2 _ (h1.below hb) (h2.below hb))
  have HB := Aside0.mk hb
  obtain ⟨A1, c1, rfl, _, _⟩ := h1
  obtain ⟨A2, c2, rfl, _, _⟩ := h2
  generalize hL1 : l1.length = m1 at *
  generalize hL2 : l2.length = m2 at *
  clear hb hL1 hL2
  by_cases hn : n1 = n2
  · subst hn
    go_enter Tryd.func15, Tryd.ntmps15
    go_wp2_with (go_at_call 19; refine HK.out.mono ?_; rintro e w1 ⟨rfl, hd⟩; have HD := Aside0.mk (drawn_below hd); clear hd)
    go_ret
    exact ⟨ret_bool (by simp), HB.out.trans (HD.out.mono HB.out.size)⟩
  · have hn' : (n1 == n2) = false := by simp [hn]
    go_enter Tryd.func15, Tryd.ntmps15
    go_wp2
    go_ret
    exact ⟨ret_bool (by simp [hn]), HB.out⟩

/-! ### whether a graph may be -/
def dupB (l : List Edge) : Bool := !decide ((l.map key).Nodup)
theorem nodup_snoc (l : List (Int × Int)) (x : Int × Int) : (l ++ [x]).Nodup ↔ l.Nodup ∧ x ∉ l := by
  rw [List.nodup_append]
  constructor
  · rintro ⟨h1, _, h3⟩
    exact ⟨h1, fun h => h3 x h x (by simp) rfl⟩
  · rintro ⟨h1, h2⟩
    refine ⟨h1, by simp, fun a ha b hb => ?_⟩
    rw [List.mem_singleton] at hb
    subst hb
    rintro rfl
    exact h2 ha
theorem dupB_succ (l : List Edge) (i : Nat) (h : i < l.length) : dupB (l.take (i + 1)) = (dupB (l.take i) || (l.take i).any (fun x => decide (key x = key l[i]))) := by
  unfold dupB
  rw [List.take_succ_eq_append_getElem h, List.map_append, List.map_singleton]
  rw [Bool.eq_iff_iff]
  simp only [Bool.not_eq_true', decide_eq_false_iff_not, Bool.or_eq_true, List.any_eq_true, decide_eq_true_eq, nodup_snoc, List.mem_map]
  constructor
  · intro h1
    by_cases h2 : ((l.take i).map key).Nodup
    · right
      by_cases h3 : ∃ a ∈ l.take i, key a = key l[i]
      · exact h3
      · exact absurd ⟨h2, h3⟩ h1
    · exact .inl h2
  · rintro (h1 | h1) ⟨h2, h3⟩
    · exact h1 h2
    · exact h3 h1
theorem keyB (a b : Edge) : (a.src == b.src && a.dst == b.dst) = decide (key a = key b) := by
  unfold key
  rw [Bool.eq_iff_iff]
  simp
set_option maxRecDepth 100000 in
set_option maxHeartbeats 4000000 in
theorem refCheck_any (n : Int) (A : Option Addr) (c : Nat) (es : List Edge) (w : World) (hC : KE.C w A es.length es) :
    Calls Tryd.prog 11 #[.agg #[.int .i64 n, .slice A es.length c]] w fun e w' => e = .returned (.int .i64 (Graph.check ⟨n, es⟩)) ∧ Below w.heap.size w w' := by
  have hm : es.length ≤ 9223372036854775807 := hC.2.1
  obtain ⟨w0, hw0⟩ : ∃ w0 : World, w.alloc (.cells #[.int .i64 n, .slice A es.length c] 24) = w0 := ⟨_, rfl⟩
  have hb0 : Below w.heap.size w w0 := by rw [← hw0]; exact (Below.refl _ w).alloc (Nat.le_refl _) _
  have hz0 : w.heap.size < w0.heap.size := by rw [← hw0]; simp
  have c0 : w0.cell? ⟨w.heap.size, 0, none⟩ = some (.int .i64 n) := by rw [← hw0]; simp
  have c1 : w0.cell? ⟨w.heap.size, 1, none⟩ = some (.slice A es.length c) := by rw [← hw0]; simp
  have HC := Aside0.mk (Kd.C_below hC hb0)
  have HB0 := Aside0.mk hb0
  have HW := Aside0.mk hw0
  have C0 := Aside0.mk c0
  have C1 := Aside0.mk c1
  clear hw0 hb0 hC c0 c1
  by_cases h1 : n < 1
  · have hr := Lib.hid (show Graph.check ⟨n, es⟩ = 50 by simp [Graph.check, Graph.form]; omega)
    go_enter Tryd.func11, Tryd.ntmps11
    go_wp2
    go_ret
    exact ⟨ret_int hr.out.symm, (Below.refl _ w).alloc (Nat.le_refl _) _⟩
  · by_cases h2 : 64 < n
    · have hr := Lib.hid (show Graph.check ⟨n, es⟩ = 50 by simp [Graph.check, Graph.form]; omega)
      go_enter Tryd.func11, Tryd.ntmps11
      go_wp2
      go_ret
      exact ⟨ret_int hr.out.symm, (Below.refl _ w).alloc (Nat.le_refl _) _⟩
    · by_cases h3 : 512 < es.length
      · have hr := Lib.hid (show Graph.check ⟨n, es⟩ = 50 by simp [Graph.check, Graph.form]; omega)
        have h3' : (512 : Int) < (es.length : Int) := by omega
        go_enter Tryd.func11, Tryd.ntmps11
        go_wp2
        go_ret
        exact ⟨ret_int hr.out.symm, (Below.refl _ w).alloc (Nat.le_refl _) _⟩
      · have h3' : (es.length : Int) ≤ 512 := by omega
        have hform : ∀ b, (es.any (oddB n)) = b → Graph.form ⟨n, es⟩ = !b := by
          intro b hb
          simp [Graph.form, hb]
          omega
        have HF := Aside0.mk hform
        clear hform
        go_enter Tryd.func11, Tryd.ntmps11
        go_wp2
        rw [HW.out]
        go_loopw [3, 4, 5, 6] (fun v3 v4 v5 v6 wr => ∃ i : Nat, i ≤ es.length ∧ v4 = .int .i64 i ∧ v3 = .bool (dupB (es.take i)) ∧ Aside0 ((es.take i).any (oddB n) = false) ∧ Aside0 (Below w0.heap.size w0 wr)) (fun _ v4 _ _ _ => es.length - (intOf v4).toNat)
        case atStart => exact ⟨0, Nat.zero_le _, rfl, rfl, ⟨rfl⟩, ⟨Below.refl _ _⟩⟩
        case round =>
          obtain ⟨i, hi, rfl, rfl, hO, hB⟩ := hrel
          obtain ⟨wo, rfl⟩ : ∃ wo : World, wo = wr := ⟨_, rfl⟩
          have c0 : wo.cell? ⟨w.heap.size, 0, none⟩ = some (.int .i64 n) := (hB.out.cell (p := ⟨w.heap.size, 0, none⟩) hz0).trans C0.out
          have c1 : wo.cell? ⟨w.heap.size, 1, none⟩ = some (.slice A es.length c) := (hB.out.cell (p := ⟨w.heap.size, 1, none⟩) hz0).trans C1.out
          by_cases hlt : i < es.length
          · obtain ⟨ad, rfl, a0, a1, a2⟩ := KE_at (Kd.C_below HC.out hB.out) i hlt
            have i1 : (0 : Int) ≤ (i : Int) := by omega
            have i2 : (i : Int) < (es.length : Int) := by omega
            have hzr : w.heap.size < wo.heap.size := Nat.lt_of_lt_of_le hz0 hB.out.size
            have hzn : w.heap.size ≠ wo.heap.size := by omega
            have hal : Below w0.heap.size w0 (wo.alloc (.cells #[.int .i64 es[i].src, .int .i64 es[i].dst, .int .i64 es[i].wt] 45)) := hB.out.alloc hB.out.size _
            have HAL := Aside0.mk hal
            clear hal
            by_cases ho : oddB n es[i] = true
            · have hr := Lib.hid (show Graph.check ⟨n, es⟩ = 50 by
                unfold Graph.check
                rw [HF.out true (List.any_eq_true.2 ⟨_, List.getElem_mem hlt, ho⟩)]
                rfl)
              have ho' : es[i].src < 0 ∨ n ≤ es[i].src ∨ es[i].dst < 0 ∨ n ≤ es[i].dst ∨ es[i].wt < 0 ∨ 1048576 < es[i].wt := by simp [oddB] at ho; omega
              clear ho
              by_cases q1 : es[i].src < 0
              · clear ho'
                go_wp2
                go_ret
                exact ⟨ret_int hr.out.symm, HB0.out.trans (HAL.out.mono HB0.out.size)⟩
              · by_cases q2 : n ≤ es[i].src
                · clear ho'
                  go_wp2
                  go_ret
                  exact ⟨ret_int hr.out.symm, HB0.out.trans (HAL.out.mono HB0.out.size)⟩
                · by_cases q3 : es[i].dst < 0
                  · clear ho'
                    go_wp2
                    go_ret
                    exact ⟨ret_int hr.out.symm, HB0.out.trans (HAL.out.mono HB0.out.size)⟩
                  · by_cases q4 : n ≤ es[i].dst
                    · clear ho'
                      go_wp2
                      go_ret
                      exact ⟨ret_int hr.out.symm, HB0.out.trans (HAL.out.mono HB0.out.size)⟩
                    · by_cases q5 : es[i].wt < 0
                      · clear ho'
                        go_wp2
                        go_ret
                        exact ⟨ret_int hr.out.symm, HB0.out.trans (HAL.out.mono HB0.out.size)⟩
                      · have q6 : 1048576 < es[i].wt := by omega
                        clear ho'
                        go_wp2
                        go_ret
                        exact ⟨ret_int hr.out.symm, HB0.out.trans (HAL.out.mono HB0.out.size)⟩
            · have ho : oddB n es[i] = false := by simpa using ho
              obtain ⟨q1, q2, q3, q4, q5, q6⟩ := not_odd n es[i] ho
              have HO := Aside0.mk (show (es.take (i + 1)).any (oddB n) = false by rw [List.take_succ_eq_append_getElem hlt, List.any_append, hO.out]; simp [ho])
              have hds := dupB_succ es i hlt
              clear ho hO
              go_wp2
              go_loopw [3, 6] (fun v3 v6 w2 => ∃ k : Nat, k ≤ i ∧ v6 = .int .i64 k ∧ v3 = .bool (dupB (es.take i) || (es.take k).any (fun x => decide (key x = key es[i]))) ∧ Aside0 (Below w0.heap.size w0 w2) ∧ Aside0 (Below (wo.heap.size + 1) (wo.alloc (.cells #[.int .i64 es[i].src, .int .i64 es[i].dst, .int .i64 es[i].wt] 45)) w2)) (fun _ v6 _ => i - (intOf v6).toNat)
              case atStart => exact ⟨0, Nat.zero_le _, rfl, by simp, HAL, ⟨Below.refl _ _⟩⟩
              case round =>
                obtain ⟨k, hk, rfl, rfl, hB2, hB3⟩ := hrel
                have e0 : wr.cell? ⟨w.heap.size, 0, none⟩ = some (.int .i64 n) := (hB2.out.cell (p := ⟨w.heap.size, 0, none⟩) hz0).trans C0.out
                have e1 : wr.cell? ⟨w.heap.size, 1, none⟩ = some (.slice (some ad) es.length c) := (hB2.out.cell (p := ⟨w.heap.size, 1, none⟩) hz0).trans C1.out
                have d0 : wr.cell? ⟨wo.heap.size, 0, none⟩ = some (.int .i64 es[i].src) := (hB3.out.cell (p := ⟨wo.heap.size, 0, none⟩) (by simp)).trans (by simp)
                have d1 : wr.cell? ⟨wo.heap.size, 1, none⟩ = some (.int .i64 es[i].dst) := (hB3.out.cell (p := ⟨wo.heap.size, 1, none⟩) (by simp)).trans (by simp)
                have d2 : wr.cell? ⟨wo.heap.size, 2, none⟩ = some (.int .i64 es[i].wt) := (hB3.out.cell (p := ⟨wo.heap.size, 2, none⟩) (by simp)).trans (by simp)
                clear c0 c1 a0 a1 a2
                by_cases hki : k < i
                · obtain ⟨ad', ea, b0, b1, b2⟩ := KE_at (Kd.C_below HC.out hB2.out) k (by omega)
                  obtain rfl : ad = ad' := by injection ea
                  clear ea
                  have k1 : (0 : Int) ≤ (k : Int) := by omega
                  have k2 : (k : Int) < (es.length : Int) := by omega
                  have k3 : (k : Int) < (i : Int) := by omega
                  have hsn : ((es.take (k + 1)).any fun x => decide (key x = key es[i])) = ((es.take k).any (fun x => decide (key x = key es[i])) || decide (key es[k] = key es[i])) := by
                    rw [List.take_succ_eq_append_getElem (by omega), List.any_append]; simp
                  rw [← keyB] at hsn
                  generalize hX : (dupB (es.take i) || (es.take k).any (fun x => decide (key x = key es[i]))) = X
                  have hnew : (dupB (es.take i) || (es.take (k + 1)).any (fun x => decide (key x = key es[i]))) = (X || (es[k].src == es[i].src && es[k].dst == es[i].dst)) := by rw [hsn, ← Bool.or_assoc, hX]
                  have HN := Lib.hid hnew
                  clear hsn hnew hX
                  cases X with
                  | true =>
                    go_wp2
                    go_quiet (fail)
                    go_wp2
                    go_roundw
                    case rel => exact ⟨k + 1, by omega, by go_num, by rw [HN.out]; simp, ⟨pw_below_drewN hB2.out _⟩, ⟨pw_below_drewN hB3.out _⟩⟩
                    case measure => simp [intOf]; omega
                  | false =>
                    cases hs : (es[k].src == es[i].src) with
                    | true =>
                      go_wp2
                      go_quiet (fail)
                      go_wp2
                      go_roundw
                      case rel => exact ⟨k + 1, by omega, by go_num, by rw [HN.out, hs]; simp, ⟨pw_below_drewN hB2.out _⟩, ⟨pw_below_drewN hB3.out _⟩⟩
                      case measure => simp [intOf]; omega
                    | false =>
                      go_wp2
                      go_quiet (fail)
                      go_wp2
                      go_roundw
                      case rel => exact ⟨k + 1, by omega, by go_num, by rw [HN.out, hs]; simp, ⟨pw_below_drewN hB2.out _⟩, ⟨pw_below_drewN hB3.out _⟩⟩
                      case measure => simp [intOf]; omega
                · obtain rfl : k = i := by omega
                  rw [← hds]
                  have HDS := Lib.hid hds
                  clear hds
                  go_wp2
                  go_roundw
                  case rel => exact ⟨k + 1, by omega, by go_num, rfl, HO, hB2⟩
                  case measure => simp [intOf]; omega
          · obtain rfl : i = es.length := by omega
            have hO := hO.out
            rw [List.take_length] at hO
            have hr : Graph.check ⟨n, es⟩ = if dupB es then 51 else 0 := by
              unfold Graph.check
              rw [HF.out false hO]
              rfl
            rw [List.take_length]
            cases hd : dupB es with
            | true =>
              have hr := Lib.hid (show Graph.check ⟨n, es⟩ = 51 by rw [hr, hd]; rfl)
              go_wp2
              go_ret
              exact ⟨ret_int hr.out.symm, HB0.out.trans (hB.out.mono HB0.out.size)⟩
            | false =>
              have hr := Lib.hid (show Graph.check ⟨n, es⟩ = 0 by rw [hr, hd]; rfl)
              go_wp2
              go_ret
              exact ⟨ret_int hr.out.symm, HB0.out.trans (hB.out.mono HB0.out.size)⟩
end Go.Proofs.YtenpmbebghlnkaaDoor
