/-
  The reference of layer 5: a graph as a text.
-/
import Derived.Test.YtenpmbebghlnkaaDoorKShow
import Derived.Test.YtenpmbebghlnkaaDoorKRefO
import Derived.Deep.RegionHeld3
namespace Go.Proofs.YtenpmbebghlnkaaDoor
open Go.RowKit Go.Proofs.YtenpmbebghlnkaaDoorW.PrintWords Go.Proofs.YtenpmbebghlnkaaDoorW.PrintLast Go.Proofs.YtenpmbebghlnkaaDoorW.PrintMore
set_option linter.unusedVariables false
set_option linter.unusedSimpArgs false
attribute [local go_sem] max2_int min2_int max_two min_two max_three min_three max_four min_four
theorem digits_inv (x : Int) (h0 : 0 ≤ x) (h1 : x ≤ 9223372036854775807) (B : Nat) (W0 w : World) (h : Below B W0 w) (hB : B ≤ w.heap.size) :
    Calls Tryd.prog 37 #[.int .i64 x] w fun e w' => e = .returned (.string (bs (Lib.itoa x))) ∧ Below B W0 w' ∧ B ≤ w'.heap.size := by
  obtain ⟨n, rfl⟩ : ∃ n : Nat, x = (n : Int) := ⟨x.toNat, by omega⟩
  refine (digits_any n (by omega) w).mono fun e w' ⟨he, hb⟩ => ⟨?_, h.trans (hb.mono hB), Nat.le_trans hB hb.size⟩
  rw [he, Lib.itoa_nonneg]
theorem edgeText_eq (e : Edge) : (⟨#[101, 100, 103, 101, 32]⟩ ++ bs (Lib.itoa e.src) ++ ⟨#[32]⟩ ++ bs (Lib.itoa e.dst) ++ ⟨#[32]⟩ ++ bs (Lib.itoa e.wt) ++ ⟨#[10]⟩ : ByteArray) = bs e.text := by
  have : e.text = [101, 100, 103, 101, 32] ++ Lib.itoa e.src ++ [32] ++ Lib.itoa e.dst ++ [32] ++ Lib.itoa e.wt ++ [10] := by
    unfold Edge.text lineL edgeW joinOn
    simp
  rw [this, ← bs_append, ← bs_append, ← bs_append, ← bs_append, ← bs_append, ← bs_append]
  rfl
theorem headText_eq (n : Int) : (⟨#[103, 114, 97, 112, 104, 32]⟩ ++ bs (Lib.itoa n) ++ ⟨#[10]⟩ : ByteArray) = bs (headText n) := by
  have : headText n = [103, 114, 97, 112, 104, 32] ++ Lib.itoa n ++ [10] := by
    unfold headText lineL graphW joinOn
    simp
  rw [this, ← bs_append, ← bs_append]
  rfl
abbrev CatTo (a b c : ByteArray) : Prop := ∀ w : World, (Op.stringOp .add a b).run Tryd.prog w = .ok (.string c) w
theorem catTo (a b : ByteArray) (h : a.size + b.size ≤ 9223372036854775807) : CatTo a b (a ++ b) := fun w => run_string_add_sum (P := Tryd.prog) (w := w) a b h
theorem cat7 (D1 D2 D3 S T S' : ByteArray) (h : (⟨#[101, 100, 103, 101, 32]⟩ ++ D1 ++ ⟨#[32]⟩ ++ D2 ++ ⟨#[32]⟩ ++ D3 ++ ⟨#[10]⟩ : ByteArray) = T) (hS : S ++ T = S') (h1 : D1.size ≤ 21) (h2 : D2.size ≤ 21) (h3 : D3.size ≤ 21) (hs : S.size ≤ 100000) :
    ∃ E1 E2 E3 E4 E5, CatTo ⟨#[101, 100, 103, 101, 32]⟩ D1 E1 ∧ CatTo E1 ⟨#[32]⟩ E2 ∧ CatTo E2 D2 E3 ∧ CatTo E3 ⟨#[32]⟩ E4 ∧ CatTo E4 D3 E5 ∧ CatTo E5 ⟨#[10]⟩ T ∧ CatTo S T S' := by
  have e5 : (⟨#[101, 100, 103, 101, 32]⟩ : ByteArray).size = 5 := rfl
  have e1 : (⟨#[32]⟩ : ByteArray).size = 1 := rfl
  have e10 : (⟨#[10]⟩ : ByteArray).size = 1 := rfl
  subst hS
  refine ⟨_, _, _, _, _, catTo _ _ (by omega), catTo _ _ ?_, catTo _ _ ?_, catTo _ _ ?_, catTo _ _ ?_, ?_, catTo _ _ ?_⟩
  · rw [ByteArray.size_append]; omega
  · rw [ByteArray.size_append, ByteArray.size_append]; omega
  · rw [ByteArray.size_append, ByteArray.size_append, ByteArray.size_append]; omega
  · rw [ByteArray.size_append, ByteArray.size_append, ByteArray.size_append, ByteArray.size_append]; omega
  · rw [← h]
    refine catTo _ _ ?_
    rw [ByteArray.size_append, ByteArray.size_append, ByteArray.size_append, ByteArray.size_append, ByteArray.size_append]; omega
  · rw [← h, ByteArray.size_append, ByteArray.size_append, ByteArray.size_append, ByteArray.size_append, ByteArray.size_append, ByteArray.size_append]; omega
theorem itoa21 (x : Int) (h : Int64 x) : (bs (Lib.itoa x)).size ≤ 21 := Lib.itoa_length_le x h.1 h.2
set_option maxRecDepth 100000 in
set_option maxHeartbeats 4000000 in
theorem refShow_ok (n : Int) (A : Option Addr) (c : Nat) (es : List Edge) (w : World) (hC : KE.C w A es.length es) (h : Graph.check ⟨n, es⟩ = 0) :
    Calls Tryd.prog 24 #[.agg #[.int .i64 n, .slice A es.length c]] w fun e w' => e = .returned (.string (bs (graphText n (norm es)))) ∧ Below w.heap.size w w' := by
  have hb0 := (Below.refl w.heap.size w).alloc (Nat.le_refl _) (.cells #[.int .i64 n, .slice A es.length c] 24)
  have HK := Aside0.mk (refNorm_ok n A c es (w.alloc (.cells #[.int .i64 n, .slice A es.length c] 24)) (Kd.C_below hC hb0) h)
  have HB := Aside0.mk hb0
  obtain ⟨n1, n2, n3, n4, _⟩ := check_zero h
  have n1 : 1 ≤ n := n1
  have n2 : n ≤ 64 := n2
  have hl5 : (norm es).length ≤ 512 := by rw [(norm_sorted es).1.length_eq]; exact n3
  have hr : ∀ e ∈ norm es, 0 ≤ e.src ∧ e.src ≤ 64 ∧ 0 ≤ e.dst ∧ e.dst ≤ 64 ∧ 0 ≤ e.wt ∧ e.wt ≤ 1048576 := by
    intro e he
    have : 0 ≤ e.src ∧ e.src < n ∧ 0 ≤ e.dst ∧ e.dst < n ∧ 0 ≤ e.wt ∧ e.wt ≤ 1048576 := n4 e ((norm_sorted es).1.mem_iff.1 he)
    omega
  have HR := Aside0.mk hr
  clear hb0 hC h n3 n4 hr
  generalize norm es = l at HK hl5 HR
  go_enter Tryd.func24, Tryd.ntmps24
  go_wp2_with fail
  refine HK.out.mono ?_
  rintro e w1 ⟨v, rfl, hR1, hb1⟩
  have hbw : Below w.heap.size w w1 := HB.out.trans (hb1.mono HB.out.size)
  obtain ⟨A1, c1, rfl, hl1, hC1⟩ := Kd.R_reads hR1
  have HC1 := Aside0.mk hC1
  have HBW := Aside0.mk hbw
  clear hb1 hR1 hl1 hC1 hbw
  have hh21 := itoa21 n (by unfold Int64; omega)
  have hhe := Lib.hid (headText_eq n)
  have hd := digits_inv n (by omega) (by omega) w1.heap.size w1 (w1.alloc (.cells #[.int .i64 n, .slice A1 l.length c1] 24)) ((Below.refl _ _).alloc (Nat.le_refl _) _) (by simp)
  have hd1 : Calls Tryd.prog 37 #[.int .i64 n] (w1.alloc (.cells #[.int .i64 n, .slice A1 l.length c1] 24)) fun e w' => e = .returned (.string (bs (Lib.itoa n))) ∧ Below w1.heap.size w1 w' ∧ w'.heap[w1.heap.size]? = some (.cells #[.int .i64 n, .slice A1 l.length c1] 24 (0, 0)) := by
    obtain ⟨m, rfl⟩ : ∃ m : Nat, n = (m : Int) := ⟨n.toNat, by omega⟩
    refine (digits_any m (by omega) _).mono fun e w' ⟨he, hb⟩ => ⟨by rw [he, Lib.itoa_nonneg], ((Below.refl _ w1).alloc (Nat.le_refl _) _).trans (hb.mono (by simp)), ?_⟩
    exact (hb.block _ (by simp)).trans (World.alloc_heap_new w1 _)
  have HD := Aside0.mk hd1
  clear hd hd1
  have hh28 : (bs (headText n)).size ≤ 28 := lineL_len graphW [n] (by simp; omega)
  have hhe2 := hhe.out
  clear hhe
  have HHE := Lib.hid hhe2
  clear hhe2
  generalize bs (Lib.itoa n) = D0 at HD HHE hh21
  go_wp2_with fail
  refine HD.out.mono ?_
  rintro e w2 ⟨rfl, hb2, hg2⟩
  have HB2 := Aside0.mk (below_step HBW.out hb2)
  have HC2 := Aside0.mk (Kd.C_below HC1.out hb2)
  have HG2 := Aside0.mk hg2
  have hz2 : w1.heap.size < w2.heap.size := blk_lt hg2
  clear hb2 hg2
  go_wp2
  rw [HHE.out]
  go_loopw [4, 5] (fun v4 v5 wr => ∃ k : Nat, k ≤ l.length ∧ v5 = .int .i64 k ∧ v4 = .string (bs (headText n ++ (l.take k).flatMap Edge.text)) ∧ Aside0 (Below w2.heap.size w2 wr)) (fun _ v5 _ => l.length - (intOf v5).toNat)
  case atStart => exact ⟨0, Nat.zero_le _, rfl, by simp, ⟨Below.refl _ _⟩⟩
  case round =>
    obtain ⟨k, hk, rfl, rfl, hB⟩ := hrel
    have hg : wr.cell? ⟨w1.heap.size, 1, none⟩ = some (.slice A1 l.length c1) := by rw [blk_cell ((hB.out.block _ hz2).trans HG2.out)]; rfl
    have hzr : w1.heap.size < wr.heap.size := Nat.lt_of_lt_of_le hz2 hB.out.size
    have htl := edgesText_len (l.take k) (fun e he => by have := HR.out e (List.mem_of_mem_take he); unfold Int64; omega)
    have htl2 : (bs (headText n ++ (l.take k).flatMap Edge.text)).size ≤ 100000 := by
      rw [bs_size, List.length_append]
      rw [List.length_take, Nat.min_eq_left hk] at htl
      rw [bs_size] at hh28
      omega
    clear htl
    by_cases hlt : k < l.length
    · obtain ⟨ad, rfl, a0, a1, a2⟩ := KE_at (Kd.C_below HC2.out hB.out) k hlt
      have hri := HR.out l[k] (List.getElem_mem hlt)
      obtain ⟨r1, r2, r3, r4, r5, r6⟩ := hri
      have s1 := itoa21 l[k].src (by unfold Int64; omega)
      have s2 := itoa21 l[k].dst (by unfold Int64; omega)
      have s3 := itoa21 l[k].wt (by unfold Int64; omega)
      have HE := Lib.hid (edgeText_eq l[k])
      have hel : (bs l[k].text).size ≤ 71 := edgeText_len l[k] (by unfold Int64; omega)
      have HAP := Lib.hid (show bs (headText n ++ (l.take k).flatMap Edge.text) ++ bs l[k].text = bs (headText n ++ (l.take (k + 1)).flatMap Edge.text) by
        rw [bs_append, List.take_succ_eq_append_getElem hlt, List.flatMap_append, List.append_assoc]
        simp)
      have hW0 : Below (wr.heap.size + 1) (wr.alloc (.cells #[.int .i64 l[k].src, .int .i64 l[k].dst, .int .i64 l[k].wt] 45)) (wr.alloc (.cells #[.int .i64 l[k].src, .int .i64 l[k].dst, .int .i64 l[k].wt] 45)).drew := (Below.refl _ _).drew
      have HW0 := Aside0.mk hW0
      have i1 : (0 : Int) ≤ (k : Int) := by omega
      have i2 : (k : Int) < (l.length : Int) := by omega
      clear hW0
      go_wp2
      obtain ⟨W0, hw0⟩ : ∃ W0 : World, wr.alloc (.cells #[.int .i64 l[k].src, .int .i64 l[k].dst, .int .i64 l[k].wt] 45) = W0 := ⟨_, rfl⟩
      have hbl : W0.heap[wr.heap.size]? = some (.cells #[.int .i64 l[k].src, .int .i64 l[k].dst, .int .i64 l[k].wt] 45 (0, 0)) := by rw [← hw0]; exact World.alloc_heap_new wr _
      have hB0 : Below w2.heap.size w2 W0 := by rw [← hw0]; exact hB.out.alloc hB.out.size _
      have c0 : W0.cell? ⟨wr.heap.size, 0, none⟩ = some (.int .i64 l[k].src) := by rw [blk_cell hbl]; rfl
      have c1' : W0.cell? ⟨wr.heap.size, 1, none⟩ = some (.int .i64 l[k].dst) := by rw [blk_cell hbl]; rfl
      have c2 : W0.cell? ⟨wr.heap.size, 2, none⟩ = some (.int .i64 l[k].wt) := by rw [blk_cell hbl]; rfl
      have hz0 : wr.heap.size + 1 ≤ W0.heap.size := blk_lt hbl
      rw [hw0]
      have D0' : Below (wr.heap.size + 1) W0 W0.drew := (Below.refl _ W0).drew
      have Z0' : wr.heap.size + 1 ≤ W0.drew.heap.size := hz0
      have HB0 := Aside0.mk hB0
      clear hw0 hbl HW0 a0 a1 a2 hg hB0
      generalize hx1 : l[k].src = x1 at *
      generalize hx2 : l[k].dst = x2 at *
      generalize hx3 : l[k].wt = x3 at *
      clear hx1 hx2 hx3
      have HPL := Aside0.mk hlt
      obtain ⟨E1, E2, E3, E4, E5, g1, g2, g3, g4, g5, g6, g7⟩ := cat7 _ _ _ _ _ _ HE.out HAP.out s1 s2 s3 htl2
      clear HE HAP s1 s2 s3 htl2 hel
      unfold CatTo at g1 g2 g3 g4 g5 g6 g7
      obtain ⟨S', hS'⟩ : ∃ S', bs (headText n ++ (l.take (k + 1)).flatMap Edge.text) = S' := ⟨_, rfl⟩
      rw [hS'] at g7
      have HS' := Lib.hid hS'
      clear hS'
      go_region_held3 (fun w' => w'.cell? ⟨wr.heap.size, 0, none⟩ = some (.int .i64 x1) ∧ w'.cell? ⟨wr.heap.size, 1, none⟩ = some (.int .i64 x2) ∧ w'.cell? ⟨wr.heap.size, 2, none⟩ = some (.int .i64 x3)) (refine ⟨?_, ?_, ?_⟩ <;> (first | assumption | simp [go_sem, *])) ((go_at_call 37; refine (digits_inv _ (by assumption) (by omega) (wr.heap.size + 1) W0 _ (by assumption) (by assumption)).mono ?_; rintro e w' ⟨rfl, hI, hz⟩; have k0 := (hI.cell (p := ⟨wr.heap.size, 0, none⟩) (Nat.lt_succ_self _)).trans c0; have k1 := (hI.cell (p := ⟨wr.heap.size, 1, none⟩) (Nat.lt_succ_self _)).trans c1'; have k2 := (hI.cell (p := ⟨wr.heap.size, 2, none⟩) (Nat.lt_succ_self _)).trans c2))
      all_goals
        go_wp2
        go_roundw
        case rel => exact ⟨k + 1, by omega, by go_num, by rw [HS'.out], ⟨HB0.out.trans (Below.mono (B := wr.heap.size + 1) (by assumption) (by have := hB.out.size; omega))⟩⟩
        case measure => simp [intOf]; omega
    · obtain rfl : k = l.length := by omega
      rw [List.take_length] at htl2 ⊢
      go_wp2
      go_ret
      exact ⟨rfl, below_step HB2.out hB.out⟩
end Go.Proofs.YtenpmbebghlnkaaDoor
