/-
  A text that is read, shown, and read again: the walk of the statement.
-/
import Derived.Test.YtenpmbebghlnkaaDoorKAwake
import Derived.Test.YtenpmbebghlnkaaDoorKReads
namespace Go.Proofs.YtenpmbebghlnkaaDoor
open Go.RowKit Go.Proofs.YtenpmbebghlnkaaDoorW.PrintWords Go.Proofs.YtenpmbebghlnkaaDoorW.PrintLast Go.Proofs.YtenpmbebghlnkaaDoorW.PrintMore
set_option linter.unusedVariables false
set_option linter.unusedSimpArgs false
attribute [local go_sem] max2_int min2_int max_two min_two max_three min_three max_four min_four
theorem dup_perm {l1 l2 : List Edge} (h : l1.Perm l2) (n : Int) : Graph.dup ⟨n, l1⟩ = Graph.dup ⟨n, l2⟩ := by
  unfold Graph.dup
  rw [decide_eq_decide.2 (h.map key).nodup_iff]
theorem form_perm {l1 l2 : List Edge} (h : l1.Perm l2) (n : Int) : Graph.form ⟨n, l1⟩ = Graph.form ⟨n, l2⟩ := by
  have ha : l1.any (oddB n) = l2.any (oddB n) := by
    rw [Bool.eq_iff_iff, List.any_eq_true, List.any_eq_true]
    exact ⟨fun ⟨x, hx, hp⟩ => ⟨x, h.mem_iff.1 hx, hp⟩, fun ⟨x, hx, hp⟩ => ⟨x, h.mem_iff.2 hx, hp⟩⟩
  have hl : l1.length = l2.length := h.length_eq
  unfold Graph.form
  simp only [ha, hl]
theorem check_perm {l1 l2 : List Edge} (h : l1.Perm l2) (n : Int) : Graph.check ⟨n, l1⟩ = Graph.check ⟨n, l2⟩ := by
  unfold Graph.check Graph.dupErr
  rw [form_perm h n, dup_perm h n]
theorem check_norm (n : Int) (es : List Edge) : Graph.check ⟨n, norm es⟩ = Graph.check ⟨n, es⟩ := check_perm (norm_sorted es).1 n
theorem norm_perm {n : Int} {l1 l2 : List Edge} (h : l1.Perm l2) (hc : Graph.check ⟨n, l2⟩ = 0) : norm l1 = norm l2 :=
  sorted_norm (l := l2) ⟨(norm_sorted l1).1.trans h, (norm_sorted l1).2⟩ (check_zero hc).2.2.2.2
theorem norm_norm {n : Int} {es : List Edge} (hc : Graph.check ⟨n, es⟩ = 0) : norm (norm es) = norm es := norm_perm (norm_sorted es).1 hc
theorem texts_perm {l1 l2 : List Edge} (h : l1.Perm l2) : (l1.flatMap Edge.text).length = (l2.flatMap Edge.text).length := by
  induction h with
  | nil => rfl
  | cons x _ ih => simp [ih]
  | swap x y l => simp; omega
  | trans _ _ h1 h2 => exact h1.trans h2
theorem text_norm_len (n : Int) (es : List Edge) : (graphText n (norm es)).length = (graphText n es).length := by
  unfold graphText
  rw [List.length_append, List.length_append, texts_perm (norm_sorted es).1]
/-- A shown graph of edges in order. -/
theorem showN_C (n : Int) (A : Option Addr) (c : Nat) (es : List Edge) (w : World) (hC : KE.C w A (norm es).length (norm es)) (hL : Laid w) (h : Graph.check ⟨n, es⟩ = 0) :
    Calls Tryd.prog 22 #[.agg #[.int .i64 n, .slice A (norm es).length c]] w fun e w' => e = .returned (.tuple #[.string (bs (graphText n (norm es))), .int .i64 0]) ∧ Below w.heap.size w w' :=
  (show_ok n A c (norm es) w hC hL (by rw [check_norm]; exact h)).mono fun e w' ⟨he, hb⟩ => ⟨by rw [he, norm_norm h], hb⟩
theorem readN_C (n : Int) (es : List Edge) (w : World) (hL : Laid w) (h : Graph.check ⟨n, es⟩ = 0) (hl : (graphText n (norm es)).length ≤ 1000000) :
    Calls Tryd.prog 23 #[.string (bs (graphText n (norm es)))] w fun e w' => ∃ A' c', e = .returned (.tuple #[.agg #[.int .i64 n, .slice A' (norm es).length c'], .int .i64 0, .int .i64 0]) ∧ KE.C w' A' (norm es).length (norm es) ∧ Below w.heap.size w w' ∧ (norm es).length ≤ c' :=
  (read_C (graphText n (norm es)) hl w hL).mono fun e w' ⟨A', c', he, hC, hb, hc⟩ => by
    rw [readG_text (by rw [check_norm]; exact h), norm_norm h] at he hC hc
    exact ⟨A', c', he, hC, hb, hc⟩
set_option maxRecDepth 100000 in
set_option maxHeartbeats 4000000 in
theorem again_walk (s : List UInt8) (hs : s.length ≤ 140737488351232) (w : World) (hL : Laid w) : Calls Tryd.prog 9 #[.string (bs s)] w fun e w' => e = .returned (.bool true) ∧ Below w.heap.size w w' := by
  have HA := Aside0.mk (awake_any w hL)
  have HL := Aside0.mk hL
  have hsz : (bs s).size ≤ 140737488351232 := hs
  clear hL
  by_cases hlen : 2000 < s.length
  · have hlen' : 2000 < (bs s).size := hlen
    go_enter Tryd.func9, Tryd.ntmps9
    go_wp2_with fail
    refine HA.out.mono ?_
    rintro e w1 ⟨rfl, hb1⟩
    have HA2 := Aside0.mk (awake_any w1 (HL.out.below hb1))
    have HB1 := Aside0.mk hb1
    clear hb1
    go_wp2_with (go_at_call 10; refine HA2.out.mono ?_; rintro e w2 ⟨rfl, hb2⟩; have HB2 := Aside0.mk (below_step HB1.out hb2); clear hb2)
    go_ret
    exact ⟨rfl, HB2.out⟩
  · have hlen' : ¬ 2000 < (bs s).size := hlen
    by_cases herr : (readG s).err = 0
    · obtain ⟨n, es, rfl, hch, hrd⟩ := readG_ok herr
      clear herr
      have hR : ∀ w1, Laid w1 → Calls Tryd.prog 23 #[.string (bs (graphText n es))] w1 fun e w' => ∃ A' c', e = .returned (.tuple #[.agg #[.int .i64 n, .slice A' (norm es).length c'], .int .i64 0, .int .i64 0]) ∧ KE.C w' A' (norm es).length (norm es) ∧ Below w1.heap.size w1 w' ∧ (norm es).length ≤ c' := by
        intro w1 hl1
        have := read_C (graphText n es) (by omega) w1 hl1
        rw [hrd] at this
        exact this
      have htl := text_norm_len n es
      have hT : (graphText n (norm es)).length ≤ 1000000 := by omega
      have HT := Aside0.mk hT
      have HCH := Aside0.mk hch
      have HR := Aside0.mk hR
      have hsz2 : (bs (graphText n (norm es))).size = (bs (graphText n es)).size := htl
      have HSZ := Lib.hid hsz2
      clear hR hT hch hrd htl hsz2 hlen hs
      go_enter Tryd.func9, Tryd.ntmps9
      go_wp2_with fail
      refine HA.out.mono ?_
      rintro e w1 ⟨rfl, hb1⟩
      have HL1 := Aside0.mk (HL.out.below hb1)
      have HR1 := Aside0.mk (HR.out w1 HL1.out)
      have HB1 := Aside0.mk hb1
      clear hb1
      go_wp2_with fail
      refine HR1.out.mono ?_
      rintro e w2 ⟨A2, c2, rfl, hC2, hb2, hl2⟩
      have hal : Below w2.heap.size w2 (w2.alloc (.cells #[.int .i64 n, .slice A2 (norm es).length c2] 24)) := (Below.refl _ w2).alloc (Nat.le_refl _) _
      have hL2 := (HL1.out.below hb2).below hal
      have HS2 := Aside0.mk (showN_C n A2 c2 es (w2.alloc (.cells #[.int .i64 n, .slice A2 (norm es).length c2] 24)) (Kd.C_below hC2 hal) hL2 HCH.out)
      have HB2 := Aside0.mk (below_step (below_step HB1.out hb2) hal)
      have HC2 := Aside0.mk (Kd.C_below hC2 hal)
      have HL2 := Aside0.mk hL2
      have HG2 := Aside0.mk (World.alloc_heap_new w2 (.cells #[.int .i64 n, .slice A2 (norm es).length c2] 24))
      clear hb2 hC2 hal hL2
      go_wp2_with fail
      refine HS2.out.mono ?_
      rintro e w3 ⟨rfl, hb3⟩
      have HL3 := Aside0.mk (HL2.out.below hb3)
      have HR3 := Aside0.mk (readN_C n es w3 HL3.out HCH.out HT.out)
      have HB3 := Aside0.mk (below_step HB2.out hb3)
      have HG3 := Aside0.mk ((hb3.block _ (blk_lt HG2.out)).trans HG2.out)
      have HC3 := Aside0.mk (Kd.C_below HC2.out hb3)
      clear hb3
      go_wp2_with fail
      refine HR3.out.mono ?_
      rintro e w4 ⟨A4, c4, rfl, hC4, hb4, hl4⟩
      have hal : Below w4.heap.size w4 (w4.alloc (.cells #[.int .i64 n, .slice A4 (norm es).length c4] 24)) := (Below.refl _ w4).alloc (Nat.le_refl _) _
      have hL4 := (HL3.out.below hb4).below hal
      have HS4 := Aside0.mk (showN_C n A4 c4 es (w4.alloc (.cells #[.int .i64 n, .slice A4 (norm es).length c4] 24)) (Kd.C_below hC4 hal) hL4 HCH.out)
      have HB4 := Aside0.mk (below_step (below_step HB3.out hb4) hal)
      have HG4 := Aside0.mk ((hb4.block _ (blk_lt HG3.out)).trans HG3.out)
      have HG4b := Aside0.mk ((hal.block _ (blk_lt HG4.out)).trans HG4.out)
      have HG4n := Aside0.mk (World.alloc_heap_new w4 (.cells #[.int .i64 n, .slice A4 (norm es).length c4] 24))
      have HC4 := Aside0.mk (Kd.C_below hC4 hal)
      have HC4b := Aside0.mk (Kd.C_below (Kd.C_below HC3.out hb4) hal)
      clear hb4 hC4 hal hL4
      generalize bs (graphText n (norm es)) = T at *
      go_wp2_with fail
      refine HS4.out.mono ?_
      rintro e w5 ⟨rfl, hb5⟩
      have hg5 := (hb5.block _ (blk_lt HG4b.out)).trans HG4b.out
      have hg5n := (hb5.block _ (blk_lt HG4n.out)).trans HG4n.out
      have c0 : w5.cell? ⟨w2.heap.size, 0, none⟩ = some (.int .i64 n) := by rw [blk_cell hg5]; rfl
      have c1 : w5.cell? ⟨w2.heap.size, 1, none⟩ = some (.slice A2 (norm es).length c2) := by rw [blk_cell hg5]; rfl
      have d0 : w5.cell? ⟨w4.heap.size, 0, none⟩ = some (.int .i64 n) := by rw [blk_cell hg5n]; rfl
      have d1 : w5.cell? ⟨w4.heap.size, 1, none⟩ = some (.slice A4 (norm es).length c4) := by rw [blk_cell hg5n]; rfl
      have HSM := Aside0.mk (same_true n A2 A4 c2 c4 (norm es) w5 (Kd.C_below HC4b.out hb5) (Kd.C_below HC4.out hb5) hl2 hl4)
      have HB5 := Aside0.mk (below_step HB4.out hb5)
      clear hb5 hg5 hg5n
      have hz : ((T.size : Int) == ((bs (graphText n es)).size : Int)) = true := by rw [HSZ.out]; simp
      generalize bs (graphText n es) = SB at *
      go_wp2_with (go_at_call 15; refine HSM.out.mono ?_; rintro e w6 ⟨rfl, hb6⟩; have HB6 := Aside0.mk (below_step HB5.out hb6); clear hb6)
      go_ret
      exact ⟨rfl, HB6.out⟩
    · obtain ⟨hn, hes⟩ := readG_bad herr
      have hR : ∀ w1, Laid w1 → Calls Tryd.prog 23 #[.string (bs s)] w1 fun e w' => ∃ (A' : Option Addr) (c' : Nat), e = .returned (.tuple #[.agg #[.int .i64 0, .slice A' 0 c'], .int .i64 ((readG s).line : Int), .int .i64 (readG s).err]) ∧ Below w1.heap.size w1 w' := by
        intro w1 hl1
        refine (read_C s (by omega) w1 hl1).mono fun e w' ⟨A', c', he, hC, hb, hc⟩ => ⟨A', c', ?_, hb⟩
        rw [he, hn, hes]
        rfl
      have HR := Aside0.mk hR
      have hne : ((readG s).err != 0) = true := by simpa using herr
      clear hR hn hes herr
      generalize (readG s).line = ln at *
      generalize (readG s).err = er at *
      go_enter Tryd.func9, Tryd.ntmps9
      go_wp2_with fail
      refine HA.out.mono ?_
      rintro e w1 ⟨rfl, hb1⟩
      have HR1 := Aside0.mk (HR.out w1 (HL.out.below hb1))
      have HB1 := Aside0.mk hb1
      clear hb1
      go_wp2_with (go_at_call 23; refine HR1.out.mono ?_; rintro e w2 ⟨A2, c2, rfl, hb2⟩; have HB2 := Aside0.mk (below_step HB1.out hb2); clear hb2)
      go_ret
      exact ⟨rfl, HB2.out.alloc HB2.out.size _⟩
end Go.Proofs.YtenpmbebghlnkaaDoor
