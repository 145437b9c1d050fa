/-
  Layer 5 (graph), the statements' ground: what the chapter's example fixes; the contracts with their results as rows that are read.
-/
import Derived.Test.YtenpmbebghlnkaaDoorKReadP
import Derived.Test.YtenpmbebghlnkaaDoorKOwnG
namespace Go.Proofs.YtenpmbebghlnkaaDoor
open Go.RowKit Go.Proofs.YtenpmbebghlnkaaDoorW.PrintWords Go.Proofs.YtenpmbebghlnkaaDoorW.PrintLast Go.Proofs.YtenpmbebghlnkaaDoorW.PrintMore
set_option linter.unusedVariables false
set_option linter.unusedSimpArgs false
attribute [local go_sem] max2_int min2_int max_two min_two max_three min_three max_four min_four
theorem own_C (n : Int) (A : Option Addr) (c : Nat) (es : List Edge) (w : World) (hC : KE.C w A es.length es) (hl : es.length * 24 ≤ 140737488355328) :
    Calls Tryd.prog 13 #[.agg #[.int .i64 n, .slice A es.length c]] w fun e w' => ∃ A' c', e = .returned (.agg #[.int .i64 n, .slice A' es.length c']) ∧ KE.C w' A' es.length es ∧ Below w.heap.size w w' ∧ es.length ≤ c' :=
  (ownG n A c es w hC hl).mono fun e w' ⟨u, he, hR, hb⟩ => by
    obtain ⟨A', c', rfl, hl', hC'⟩ := Kd.R_reads hR
    exact ⟨A', c', he, hC', hb, hl'⟩
theorem norm_C (n : Int) (A : Option Addr) (c : Nat) (es : List Edge) (w : World) (hC : KE.C w A es.length es) (h : Graph.check ⟨n, es⟩ = 0) :
    Calls Tryd.prog 12 #[.agg #[.int .i64 n, .slice A es.length c]] w fun e w' => ∃ A' c', e = .returned (.tuple #[.agg #[.int .i64 n, .slice A' (norm es).length c'], .int .i64 0]) ∧ KE.C w' A' (norm es).length (norm es) ∧ Below w.heap.size w w' ∧ (norm es).length ≤ c' :=
  (norm_ok n A c es w hC h).mono fun e w' ⟨u, he, hR, hb⟩ => by
    obtain ⟨A', c', rfl, hl', hC'⟩ := Kd.R_reads hR
    exact ⟨A', c', he, hC', hb, hl'⟩
theorem read_C (s : List UInt8) (hs : s.length ≤ 1000000) (w : World) (hL : Laid w) :
    Calls Tryd.prog 23 #[.string (bs s)] w fun e w' => ∃ A' c', e = .returned (.tuple #[.agg #[.int .i64 (readG s).n, .slice A' (readG s).es.length c'], .int .i64 ((readG s).line : Int), .int .i64 (readG s).err]) ∧ KE.C w' A' (readG s).es.length (readG s).es ∧ Below w.heap.size w w' ∧ (readG s).es.length ≤ c' :=
  (read_any s hs w hL).mono fun e w' ⟨u, he, hR, hb⟩ => by
    obtain ⟨A', c', rfl, hl', hC'⟩ := Kd.R_reads hR
    exact ⟨A', c', he, hC', hb, hl'⟩
theorem out_C (n : Int) (A : Option Addr) (c : Nat) (es : List Edge) (v : Int) (w : World) (hC : KE.C w A es.length es) (h : Graph.check ⟨n, es⟩ = 0) :
    Calls Tryd.prog 16 #[.agg #[.int .i64 n, .slice A es.length c], .int .i64 v] w fun e w' => ∃ A' c', e = .returned (.slice A' ((norm es).filter (fun x => x.src == v)).length c') ∧ KE.C w' A' ((norm es).filter (fun x => x.src == v)).length ((norm es).filter (fun x => x.src == v)) ∧ Below w.heap.size w w' ∧ ((norm es).filter (fun x => x.src == v)).length ≤ c' :=
  (outE_ok n A c es v w hC h).mono fun e w' ⟨u, he, hR, hb⟩ => by
    obtain ⟨A', c', rfl, hl', hC'⟩ := Kd.R_reads hR
    exact ⟨A', c', he, hC', hb, hl'⟩
theorem in_C (n : Int) (A : Option Addr) (c : Nat) (es : List Edge) (v : Int) (w : World) (hC : KE.C w A es.length es) (h : Graph.check ⟨n, es⟩ = 0) :
    Calls Tryd.prog 17 #[.agg #[.int .i64 n, .slice A es.length c], .int .i64 v] w fun e w' => ∃ A' c', e = .returned (.slice A' ((norm es).filter (fun x => x.dst == v)).length c') ∧ KE.C w' A' ((norm es).filter (fun x => x.dst == v)).length ((norm es).filter (fun x => x.dst == v)) ∧ Below w.heap.size w w' ∧ ((norm es).filter (fun x => x.dst == v)).length ≤ c' :=
  (inE_ok n A c es v w hC h).mono fun e w' ⟨u, he, hR, hb⟩ => by
    obtain ⟨A', c', rfl, hl', hC'⟩ := Kd.R_reads hR
    exact ⟨A', c', he, hC', hb, hl'⟩
/-! ### the example -/
def exE : Edge := ⟨0, 1, 5⟩
theorem norm_one (e : Edge) : norm [e] = [e] := by unfold norm; simp
theorem ex_check : Graph.check ⟨2, [exE]⟩ = 0 := by decide
theorem ex_text : graphText 2 [exE] = [103, 114, 97, 112, 104, 32, 50, 10, 101, 100, 103, 101, 32, 48, 32, 49, 32, 53, 10] := by
  have h0 : Lib.itoa 0 = [48] := by unfold Lib.itoa; rw [if_neg (by decide)]; exact Lib.decDigits_one (by decide)
  have h1 : Lib.itoa 1 = [49] := by unfold Lib.itoa; rw [if_neg (by decide)]; exact Lib.decDigits_one (by decide)
  have h2 : Lib.itoa 2 = [50] := by unfold Lib.itoa; rw [if_neg (by decide)]; exact Lib.decDigits_one (by decide)
  have h5 : Lib.itoa 5 = [53] := by unfold Lib.itoa; rw [if_neg (by decide)]; exact Lib.decDigits_one (by decide)
  unfold graphText headText Edge.text lineL joinOn exE
  simp [h0, h1, h2, h5, graphW, edgeW]
theorem ex_read : readG [103, 114, 97, 112, 104, 32, 50, 10, 101, 100, 103, 101, 32, 48, 32, 49, 32, 53, 10] = ⟨2, [exE], 0, 0⟩ := by
  rw [← ex_text, readG_text ex_check, norm_one]
theorem ex_out (A : Option Addr) (c : Nat) (w : World) (hC : KE.C w A 1 [exE]) : Calls Tryd.prog 16 #[.agg #[.int .i64 2, .slice A 1 c], .int .i64 0] w fun e w' => ∃ A' c', e = .returned (.slice A' 1 c') ∧ Below w.heap.size w w' :=
  (out_C 2 A c [exE] 0 w hC ex_check).mono fun e w' ⟨A', c', he, _, hb, _⟩ => ⟨A', c', by rw [he, norm_one]; rfl, hb⟩
theorem ex_in (A : Option Addr) (c : Nat) (w : World) (hC : KE.C w A 1 [exE]) : Calls Tryd.prog 17 #[.agg #[.int .i64 2, .slice A 1 c], .int .i64 0] w fun e w' => ∃ A' c', e = .returned (.slice A' 0 c') ∧ Below w.heap.size w w' :=
  (in_C 2 A c [exE] 0 w hC ex_check).mono fun e w' ⟨A', c', he, _, hb, _⟩ => ⟨A', c', by rw [he, norm_one]; rfl, hb⟩
theorem ex_chk (A : Option Addr) (c : Nat) (w : World) (hC : KE.C w A 1 [exE]) : Calls Tryd.prog 14 #[.agg #[.int .i64 2, .slice A 1 c]] w fun e w' => e = .returned (.int .i64 0) ∧ Below w.heap.size w w' :=
  (check_any 2 A c [exE] w hC).mono fun e w' ⟨he, hb⟩ => ⟨by rw [he, ex_check], hb⟩
theorem ex_show (A : Option Addr) (c : Nat) (w : World) (hC : KE.C w A 1 [exE]) (hL : Laid w) : Calls Tryd.prog 22 #[.agg #[.int .i64 2, .slice A 1 c]] w fun e w' => e = .returned (.tuple #[.string ⟨#[103, 114, 97, 112, 104, 32, 50, 10, 101, 100, 103, 101, 32, 48, 32, 49, 32, 53, 10]⟩, .int .i64 0]) ∧ Below w.heap.size w w' :=
  (show_ok 2 A c [exE] w hC hL ex_check).mono fun e w' ⟨he, hb⟩ => ⟨by rw [he, norm_one, ex_text]; rfl, hb⟩
attribute [local go_sem high] eqE
set_option maxRecDepth 100000 in
set_option maxHeartbeats 4000000 in
theorem awake_any (w : World) (hL : Laid w) : Calls Tryd.prog 10 #[] w fun e w' => e = .returned (.bool true) ∧ Below w.heap.size w w' := by
  have hr := read_C [103, 114, 97, 112, 104, 32, 50, 10, 101, 100, 103, 101, 32, 48, 32, 49, 32, 53, 10] (by decide) w hL
  rw [ex_read] at hr
  have hr : Calls Tryd.prog 23 #[.string ⟨#[103, 114, 97, 112, 104, 32, 50, 10, 101, 100, 103, 101, 32, 48, 32, 49, 32, 53, 10]⟩] w fun e w' => ∃ A' c', e = .returned (.tuple #[.agg #[.int .i64 2, .slice A' 1 c'], .int .i64 0, .int .i64 0]) ∧ KE.C w' A' 1 [exE] ∧ Below w.heap.size w w' ∧ 1 ≤ c' := hr
  have HR := Aside0.mk hr
  have HL := Aside0.mk hL
  clear hr hL
  go_enter Tryd.func10, Tryd.ntmps10
  go_wp2_with fail
  refine HR.out.mono ?_
  rintro e w1 ⟨A, c, rfl, hC, hb, _⟩
  have HC := Aside0.mk hC
  have HB := Aside0.mk hb
  clear hC hb
  obtain ⟨w2, hw2⟩ : ∃ w2 : World, w1.alloc (.cells #[.int .i64 2, .slice A 1 c] 24) = w2 := ⟨_, rfl⟩
  have hb2 : Below w1.heap.size w1 w2 := by rw [← hw2]; exact (Below.refl _ w1).alloc (Nat.le_refl _) _
  have hg : w2.heap[w1.heap.size]? = some (.cells #[.int .i64 2, .slice A 1 c] 24 (0, 0)) := by rw [← hw2]; exact World.alloc_heap_new w1 _
  have HG := Aside0.mk hg
  have HB2 := Aside0.mk (below_step HB.out hb2)
  have HC2 := Aside0.mk (Kd.C_below HC.out hb2)
  have HS := Aside0.mk (ex_show A c w2 HC2.out (HL.out.below HB2.out))
  have c0 : w2.cell? ⟨w1.heap.size, 0, none⟩ = some (.int .i64 2) := by rw [blk_cell hg]; rfl
  have c1 : w2.cell? ⟨w1.heap.size, 1, none⟩ = some (.slice A 1 c) := by rw [blk_cell hg]; rfl
  have HW := Aside0.mk hw2
  clear hb2 hg hw2
  have hu := Tryd.underlying45
  go_wp2_with (first | (go_at_call 22; rw [HW.out]; refine HS.out.mono ?_; rintro e w3 ⟨rfl, hb3⟩; have hg3 := (hb3.block _ (blk_lt HG.out)).trans HG.out; have hC3 := Kd.C_below HC2.out hb3; obtain ⟨ad, rfl, a0, a1, a2⟩ := KE_at hC3 0 (by simp); have b0 : w3.cell? ad = some (.int .i64 0) := (by simpa [Addr.add, exE] using a0); have b1 : w3.cell? ⟨ad.block, ad.off + 1, none⟩ = some (.int .i64 1) := (by simpa [Addr.add, exE] using a1); have b2 : w3.cell? ⟨ad.block, ad.off + 2, none⟩ = some (.int .i64 5) := (by simpa [Addr.add, exE] using a2); have d0 : w3.cell? ⟨w1.heap.size, 0, none⟩ = some (.int .i64 2) := (by rw [blk_cell hg3]; rfl); have d1 : w3.cell? ⟨w1.heap.size, 1, none⟩ = some (.slice (some ad) 1 c) := (by rw [blk_cell hg3]; rfl); have HC3 := Aside0.mk hC3; have HG3 := Aside0.mk hg3; have HB3 := Aside0.mk (below_step HB2.out hb3); have HK3 := Aside0.mk (ex_chk (some ad) c w3 hC3); clear hb3 hg3 hC3 a0 a1 a2) | (go_at_call 14; refine HK3.out.mono ?_; rintro e w4 ⟨rfl, hb4⟩; have hg4 := (hb4.block _ (blk_lt HG3.out)).trans HG3.out; have hC4 := Kd.C_below HC3.out hb4; have f0 : w4.cell? ⟨w1.heap.size, 0, none⟩ = some (.int .i64 2) := (by rw [blk_cell hg4]; rfl); have f1 : w4.cell? ⟨w1.heap.size, 1, none⟩ = some (.slice (some ad) 1 c) := (by rw [blk_cell hg4]; rfl); have HC4 := Aside0.mk hC4; have HG4 := Aside0.mk hg4; have HB4 := Aside0.mk (below_step HB3.out hb4); have HK4 := Aside0.mk (ex_out (some ad) c w4 hC4); clear hb4 hg4 hC4) | (go_at_call 16; refine HK4.out.mono ?_; rintro e w5 ⟨A5, c5, rfl, hb5⟩; have hg5 := (hb5.block _ (blk_lt HG4.out)).trans HG4.out; have hC5 := Kd.C_below HC4.out hb5; have g0 : w5.cell? ⟨w1.heap.size, 0, none⟩ = some (.int .i64 2) := (by rw [blk_cell hg5]; rfl); have g1 : w5.cell? ⟨w1.heap.size, 1, none⟩ = some (.slice (some ad) 1 c) := (by rw [blk_cell hg5]; rfl); have HB5 := Aside0.mk (below_step HB4.out hb5); have HK5 := Aside0.mk (ex_in (some ad) c w5 hC5); clear hb5 hg5 hC5) | (go_at_call 17; refine HK5.out.mono ?_; rintro e w6 ⟨A6, c6, rfl, hb6⟩; have HB6 := Aside0.mk (below_step HB5.out hb6); clear hb6))
  go_ret
  exact ⟨rfl, HB6.out⟩
end Go.Proofs.YtenpmbebghlnkaaDoor
