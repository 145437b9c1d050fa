/-
  Whatever text is read, the program's graph of it is the document's, or both tell the line that is wrong: the walk of the statement.
-/
import Derived.Test.YtenpmbebghlnkaaDoorKAwake
import Derived.Test.YtenpmbebghlnkaaDoorKRefRead
namespace Go.Proofs.YtenpmbebghlnkaaDoor
open Go.RowKit Go.Proofs.YtenpmbebghlnkaaDoorW.PrintWords Go.Proofs.YtenpmbebghlnkaaDoorW.PrintLast Go.Proofs.YtenpmbebghlnkaaDoorW.PrintMore
set_option linter.unusedVariables false
set_option linter.unusedSimpArgs false
attribute [local go_sem] max2_int min2_int max_two min_two max_three min_three max_four min_four
theorem refRead_C (S : ByteArray) (hs : S.size ≤ 1000000) (w : World) :
    Calls Tryd.prog 25 #[.string S] w fun e w' => ∃ A' c', e = .returned (.tuple #[.agg #[.int .i64 (readG S.data.toList).n, .slice A' (readG S.data.toList).es.length c'], .int .i64 ((readG S.data.toList).line : Int), .int .i64 (readG S.data.toList).err]) ∧ KE.C w' A' (readG S.data.toList).es.length (readG S.data.toList).es ∧ Below w.heap.size w w' ∧ (readG S.data.toList).es.length ≤ c' :=
  (refRead_any S hs w).mono fun e w' ⟨u, he, hR, hb⟩ => by
    obtain ⟨A', c', rfl, hl', hC'⟩ := Kd.R_reads hR
    exact ⟨A', c', he, hC', hb, hl'⟩
theorem same_true (n : Int) (A1 A2 : Option Addr) (c1 c2 : Nat) (l : List Edge) (w : World) (h1 : KE.C w A1 l.length l) (h2 : KE.C w A2 l.length l) (q1 : l.length ≤ c1) (q2 : l.length ≤ c2) :
    Calls Tryd.prog 15 #[.agg #[.int .i64 n, .slice A1 l.length c1], .agg #[.int .i64 n, .slice A2 l.length c2]] w fun e w' => e = .returned (.bool true) ∧ Below w.heap.size w w' :=
  (sameG n n _ _ l l w ⟨A1, c1, rfl, q1, h1⟩ ⟨A2, c2, rfl, q2, h2⟩).mono fun e w' ⟨he, hb⟩ => ⟨by rw [he]; simp, hb⟩
set_option maxRecDepth 100000 in
set_option maxHeartbeats 4000000 in
theorem reads_walk (s : List UInt8) (hs : s.length ≤ 140737488351232) (w : World) (hL : Laid w) : Calls Tryd.prog 5 #[.string (bs s)] w fun e w' => e = .returned (.bool true) ∧ Below w.heap.size w w' := by
  have HA := Aside0.mk (awake_any w hL)
  have HL := Aside0.mk hL
  have hsz : (bs s).size ≤ 140737488351232 := hs
  clear hL
  by_cases hlen : 2000 < s.length
  · have hlen' : 2000 < (bs s).size := hlen
    go_enter Tryd.func5, Tryd.ntmps5
    go_wp2_with fail
    refine HA.out.mono ?_
    rintro e w1 ⟨rfl, hb1⟩
    have HA2 := Aside0.mk (awake_any w1 (HL.out.below hb1))
    have HB1 := Aside0.mk hb1
    clear hb1
    go_wp2_with (go_at_call 10; refine HA2.out.mono ?_; rintro e w2 ⟨rfl, hb2⟩; have HB2 := Aside0.mk (below_step HB1.out hb2); clear hb2)
    go_ret
    exact ⟨rfl, HB2.out⟩
  · have hlen' : ¬ 2000 < (bs s).size := hlen
    go_enter Tryd.func5, Tryd.ntmps5
    go_wp2_with fail
    refine HA.out.mono ?_
    rintro e w1 ⟨rfl, hb1⟩
    have HL1 := Aside0.mk (HL.out.below hb1)
    have HR1 := Aside0.mk (read_C s (by omega) w1 HL1.out)
    have HB1 := Aside0.mk hb1
    clear hb1
    go_wp2_with fail
    refine HR1.out.mono ?_
    rintro e w2 ⟨A2, c2, rfl, hC2, hb2, hl2⟩
    have hal : Below w2.heap.size w2 (w2.alloc (.cells #[.int .i64 (readG s).n, .slice A2 (readG s).es.length c2] 24)) := (Below.refl _ w2).alloc (Nat.le_refl _) _
    have HR2 := Aside0.mk (refRead_C (bs s) (by rw [bs_size]; omega) (w2.alloc (.cells #[.int .i64 (readG s).n, .slice A2 (readG s).es.length c2] 24)))
    rw [show (bs s).data.toList = s from rfl] at HR2
    have HB2 := Aside0.mk (below_step (below_step HB1.out hb2) hal)
    have HC2 := Aside0.mk (Kd.C_below hC2 hal)
    have HG2 := Aside0.mk (World.alloc_heap_new w2 (.cells #[.int .i64 (readG s).n, .slice A2 (readG s).es.length c2] 24))
    clear hb2 hC2 hal
    generalize (readG s).n = n at *
    generalize (readG s).es = es at *
    generalize (readG s).line = ln at *
    generalize (readG s).err = er at *
    go_wp2_with fail
    refine HR2.out.mono ?_
    rintro e w3 ⟨A3, c3, rfl, hC3, hb3, hl3⟩
    have hg3 := (hb3.block _ (blk_lt HG2.out)).trans HG2.out
    have hlt3 := blk_lt hg3
    have hal : Below w3.heap.size w3 (w3.alloc (.cells #[.int .i64 n, .slice A3 es.length c3] 24)) := (Below.refl _ w3).alloc (Nat.le_refl _) _
    have c0 : w3.cell? ⟨w2.heap.size, 0, none⟩ = some (.int .i64 n) := by rw [blk_cell hg3]; rfl
    have c1 : w3.cell? ⟨w2.heap.size, 1, none⟩ = some (.slice A2 es.length c2) := by rw [blk_cell hg3]; rfl
    have HS := Aside0.mk (same_true n A2 A3 c2 c3 es (w3.alloc (.cells #[.int .i64 n, .slice A3 es.length c3] 24)) (Kd.C_below (Kd.C_below HC2.out hb3) hal) (Kd.C_below hC3 hal) hl2 hl3)
    have HB3 := Aside0.mk (below_step (below_step HB2.out hb3) hal)
    have hne : w2.heap.size ≠ w3.heap.size := by omega
    clear hb3 hC3 hg3 hal
    go_wp2_with (go_at_call 15; refine HS.out.mono ?_; rintro e w4 ⟨rfl, hb4⟩; have HB4 := Aside0.mk (below_step HB3.out hb4); clear hb4)
    go_ret
    exact ⟨rfl, HB4.out⟩
end Go.Proofs.YtenpmbebghlnkaaDoor
