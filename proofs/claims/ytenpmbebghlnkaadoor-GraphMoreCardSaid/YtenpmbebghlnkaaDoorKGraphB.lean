/-
  Layer 5 (graph), the program's functions: a graph in order, and the edges of a vertex.
-/
import Derived.Test.YtenpmbebghlnkaaDoorKGraph
namespace Go.Proofs.YtenpmbebghlnkaaDoor
open Go.RowKit Go.Proofs.YtenpmbebghlnkaaDoorW.PrintWords Go.Proofs.YtenpmbebghlnkaaDoorW.PrintLast Go.Proofs.YtenpmbebghlnkaaDoorW.PrintMore
set_option linter.unusedVariables false
set_option linter.unusedSimpArgs false
attribute [local go_sem] max2_int min2_int max_two min_two max_three min_three max_four min_four
theorem check_any (n : Int) (A : Option Addr) (c : Nat) (es : List Edge) (w : World) (hC : KE.C w A es.length es) :
    Calls Tryd.prog 14 #[.agg #[.int .i64 n, .slice A es.length c]] w fun e w' => e = .returned (.int .i64 (Graph.check ⟨n, es⟩)) ∧ Below w.heap.size w w' := by
  unfold Graph.check
  cases h : Graph.form ⟨n, es⟩ with
  | false => exact check_form n A c es w hC h
  | true => exact check_ok n A c es w hC h
theorem check_range (g : Graph) : g.check = 0 ∨ g.check = 50 ∨ g.check = 51 := by
  unfold Graph.check Graph.dupErr
  repeat' split
  all_goals simp
theorem check_zero {g : Graph} (h : g.check = 0) : 1 ≤ g.n ∧ g.n ≤ 64 ∧ g.es.length ≤ 512 ∧ (∀ e ∈ g.es, 0 ≤ e.src ∧ e.src < g.n ∧ 0 ≤ e.dst ∧ e.dst < g.n ∧ 0 ≤ e.wt ∧ e.wt ≤ 1048576) ∧ (g.es.map key).Nodup := by
  unfold Graph.check Graph.dupErr at h
  by_cases hf : g.form
  · rw [if_pos hf] at h
    have hd : g.dup = false := by
      cases hd : g.dup
      · rfl
      · rw [hd] at h; simp at h
    simp only [Graph.form, Bool.and_eq_true, decide_eq_true_eq, Bool.not_eq_true'] at hf
    obtain ⟨⟨⟨h1, h2⟩, h3⟩, ho⟩ := hf
    refine ⟨h1, h2, h3, fun e he => not_odd g.n e ?_, ?_⟩
    · have := List.any_eq_false.1 ho e he
      simpa using this
    · simpa [Graph.dup] using hd
  · rw [if_neg hf] at h
    omega
theorem check_inR {g : Graph} (h : g.check = 0) : ∀ e ∈ g.es, InR e := fun e he => by
  obtain ⟨_, h2, _, h4, _⟩ := check_zero h
  have := h4 e he
  unfold InR
  omega
/-- Edges in order. -/
def norm (l : List Edge) : List Edge := l.mergeSort fun x y => !(ltE y x)
theorem ltE_trans (a b c : Edge) (h1 : ltE b a = false) (h2 : ltE c b = false) : ltE c a = false := by
  simp only [ltE, decide_eq_false_iff_not] at *; omega
theorem norm_sorted (l : List Edge) : ESorted l (norm l) :=
  ⟨List.mergeSort_perm _ _, (List.pairwise_mergeSort (fun a b c h1 h2 => by simp only [Bool.not_eq_true'] at *; exact ltE_trans a b c h1 h2) (fun a b => by simp only [ltE, Bool.or_eq_true, Bool.not_eq_true', decide_eq_false_iff_not]; omega) l).imp fun h => by simpa using h⟩
/-- Two sorted rows of the same edges are one, if no two have one place. -/
theorem sorted_unique : ∀ (a b : List Edge), a.Perm b → a.Pairwise (fun x y => ltE y x = false) → b.Pairwise (fun x y => ltE y x = false) → (a.map key).Nodup → a = b
  | [], b, h, _, _, _ => (List.nil_perm.1 h).symm
  | x :: a, [], h, _, _, _ => by simpa using h.length_eq
  | x :: a, y :: b, h, ha, hb, hn => by
    have hxy : x = y := by
      rcases List.mem_cons.1 (h.mem_iff.1 (List.mem_cons_self ..)) with e | hx
      · exact e
      · rcases List.mem_cons.1 (h.mem_iff.2 (List.mem_cons_self ..)) with e | hy
        · exact e.symm
        · have h1 := (List.pairwise_cons.1 ha).1 y hy
          have h2 := (List.pairwise_cons.1 hb).1 x hx
          have hk : key x = key y := by
            simp only [ltE, decide_eq_false_iff_not] at h1 h2
            unfold key
            rw [Prod.mk.injEq]
            omega
          have := (List.nodup_cons.1 hn).1
          exact absurd (List.mem_map.2 ⟨y, hy, hk.symm⟩) this
    subst hxy
    rw [sorted_unique a b (List.perm_cons x |>.1 h) (List.pairwise_cons.1 ha).2 (List.pairwise_cons.1 hb).2 (List.nodup_cons.1 hn).2]
theorem sorted_norm {l l' : List Edge} (h : ESorted l l') (hn : (l.map key).Nodup) : l' = norm l :=
  sorted_unique l' (norm l) (h.1.trans (norm_sorted l).1.symm) h.2 (norm_sorted l).2 ((h.1.map key).nodup_iff.2 hn)
set_option maxRecDepth 100000 in
set_option maxHeartbeats 4000000 in
theorem norm_bad (n : Int) (A : Option Addr) (c : Nat) (es : List Edge) (w : World) (hC : KE.C w A es.length es) (h : Graph.check ⟨n, es⟩ ≠ 0) :
    Calls Tryd.prog 12 #[.agg #[.int .i64 n, .slice A es.length c]] w fun e w' => e = .returned (.tuple #[.agg #[.int .i64 0, .slice none 0 0], .int .i64 (Graph.check ⟨n, es⟩)]) ∧ Below w.heap.size w w' := by
  obtain ⟨W, hW⟩ : ∃ W : World, (w.alloc (.cells #[.int .i64 n, .slice A es.length c] 24)).alloc (.cells #[.int .i64 0, .slice none 0 0] 24) = W := ⟨_, rfl⟩
  have hb0 : Below w.heap.size w W := by rw [← hW]; exact ((Below.refl _ w).alloc (Nat.le_refl _) _).alloc (by simp) _
  have b0 : W.heap[w.heap.size + 1]? = some (.cells #[.int .i64 0, .slice none 0 0] 24 (0, 0)) := by
    have : (w.alloc (.cells #[.int .i64 n, .slice A es.length c] 24)).heap.size = w.heap.size + 1 := by simp
    rw [← hW, ← this]
    exact Array.getElem?_push_size
  have HK := Aside0.mk (check_any n A c es W (Kd.C_below hC hb0))
  have HW := Aside0.mk hW
  have HB := Aside0.mk hb0
  have HB0 := Aside0.mk b0
  clear hW hb0 b0 hC
  generalize Graph.check ⟨n, es⟩ = x at h HK ⊢
  go_enter Tryd.func12, Tryd.ntmps12
  go_wp2_with (go_at_call 14; rw [HW.out]; refine HK.out.mono ?_; rintro e w1 ⟨rfl, hb1⟩; have hb1' := hb1.block _ (blk_lt HB0.out); have c0 : w1.cell? ⟨w.heap.size + 1, 0, none⟩ = some (.int .i64 0) := (by rw [blk_cell (hb1'.trans HB0.out)]; rfl); have c1 : w1.cell? ⟨w.heap.size + 1, 1, none⟩ = some (.slice none 0 0) := (by rw [blk_cell (hb1'.trans HB0.out)]; rfl); have HB1 := Aside0.mk hb1; have f0 := blk_frozen (hb1'.trans HB0.out) 0; have f1 := blk_frozen (hb1'.trans HB0.out) 1; clear hb1 hb1')
  refine bodyPost_ret (v := .tuple #[.agg #[.int .i64 0, .slice none 0 0], .int .i64 x]) (by simp [results, Tryd.results12, go_sem, *]) rfl ⟨rfl, ?_⟩
  have h1 : Below w.heap.size w w1 := HB.out.trans (HB1.out.mono HB.out.size)
  repeat (first | exact h1 | refine Below.setCell ?_ (by simp) _)
set_option maxRecDepth 100000 in
set_option maxHeartbeats 4000000 in
theorem norm_ok (n : Int) (A : Option Addr) (c : Nat) (es : List Edge) (w : World) (hC : KE.C w A es.length es) (h : Graph.check ⟨n, es⟩ = 0) :
    Calls Tryd.prog 12 #[.agg #[.int .i64 n, .slice A es.length c]] w fun e w' => ∃ v : Value, e = .returned (.tuple #[.agg #[.int .i64 n, v], .int .i64 0]) ∧ KE.R 45 w' w.heap.size (fun _ => True) v (norm es) ∧ Below w.heap.size w w' := by
  obtain ⟨W, hW⟩ : ∃ W : World, (w.alloc (.cells #[.int .i64 n, .slice A es.length c] 24)).alloc (.cells #[.int .i64 0, .slice none 0 0] 24) = W := ⟨_, rfl⟩
  have hb0 : Below w.heap.size w W := by rw [← hW]; exact ((Below.refl _ w).alloc (Nat.le_refl _) _).alloc (by simp) _
  have hz : (w.alloc (.cells #[.int .i64 n, .slice A es.length c] 24)).heap.size = w.heap.size + 1 := by simp
  have b0 : W.heap[w.heap.size + 1]? = some (.cells #[.int .i64 0, .slice none 0 0] 24 (0, 0)) := by
    rw [← hW, ← hz]
    exact Array.getElem?_push_size
  have b1 : W.heap[w.heap.size]? = some (.cells #[.int .i64 n, .slice A es.length c] 24 (0, 0)) := by
    rw [← hW, Below.heap_alloc _ _ _ (by rw [hz]; omega)]
    exact Array.getElem?_push_size
  have HK := Aside0.mk (check_any n A c es W (Kd.C_below hC hb0))
  rw [h] at HK
  have hin := check_inR h
  obtain ⟨g1, g2, g3, _, g5⟩ := check_zero h
  have HIN := Aside0.mk hin
  have HN := Aside0.mk g5
  have hl512 : es.length ≤ 512 := g3
  have HW := Aside0.mk hW
  have HB := Aside0.mk hb0
  have HB0 := Aside0.mk b0
  have HB1 := Aside0.mk b1
  have HC := Aside0.mk hC
  clear hW hb0 b0 b1 hC hin g3 g5 h
  go_enter Tryd.func12, Tryd.ntmps12
  go_wp2_with fail
  rw [HW.out]
  refine HK.out.mono ?_
  rintro e w1 ⟨rfl, hb1⟩
  have B0 := Aside0.mk ((hb1.block _ (blk_lt HB0.out)).trans HB0.out)
  have B1 := Aside0.mk ((hb1.block _ (blk_lt HB1.out)).trans HB1.out)
  have hbw : Below w.heap.size w w1 := HB.out.trans (hb1.mono HB.out.size)
  have HBW := Aside0.mk hbw
  have hs1 : w.heap.size + 1 < w1.heap.size := blk_lt B0.out
  have c0 : w1.cell? ⟨w.heap.size, 0, none⟩ = some (.int .i64 n) := by rw [blk_cell B1.out]; rfl
  have c1 : w1.cell? ⟨w.heap.size, 1, none⟩ = some (.slice A es.length c) := by rw [blk_cell B1.out]; rfl
  have hb2 : Below w.heap.size w (w1.drew.alloc (.cells #[.slice A es.length c] 22)) := hbw.drew.alloc (by simp; omega) _
  have hbk : (w1.drew.alloc (.cells #[.slice A es.length c] 22)).heap[w1.heap.size]? = some (.cells #[.slice A es.length c] 22 (0, 0)) := Array.getElem?_push_size
  have HS := Aside0.mk (sortedE_any w1.heap.size A c es (w1.drew.alloc (.cells #[.slice A es.length c] 22)) (by simp) (by rw [blk_cell hbk]; rfl) (Kd.C_below HC.out hb2) (by omega) HIN.out)
  have HB2 := Aside0.mk hb2
  clear hb1 hbw hb2 hbk
  go_wp2
  go_region_held3 (fun w' => w'.cell? ⟨w.heap.size, 0, none⟩ = some (.int .i64 n) ∧ w'.cell? ⟨w.heap.size, 1, none⟩ = some (.slice A es.length c)) (constructor <;> (first | assumption | simp [go_sem, World.cell?_alloc_some, *])) ((first | (go_at_call 27; refine (valuesE_any A es.length c _).mono ?_; rintro e w' ⟨rfl, rfl⟩) | (go_at_call 26; refine HS.out.mono ?_; rintro e w3 ⟨v3, l', rfl, hs, hR3, hb3⟩; have B0' := (hb3.block _ (by simp; omega)).trans (((Below.refl w1.heap.size w1.drew).alloc (Nat.le_refl _) (.cells #[.slice A es.length c] 22)).block _ hs1 |>.trans B0.out); have B1' := (hb3.block _ (by simp; omega)).trans (((Below.refl w1.heap.size w1.drew).alloc (Nat.le_refl _) (.cells #[.slice A es.length c] 22)).block w.heap.size (by omega) |>.trans B1.out); have c0' : w3.cell? ⟨w.heap.size, 0, none⟩ = some (.int .i64 n) := (by rw [blk_cell B1']; rfl); have c1' : w3.cell? ⟨w.heap.size, 1, none⟩ = some (.slice A es.length c) := (by rw [blk_cell B1']; rfl); have d0' : w3.cell? ⟨w.heap.size + 1, 0, none⟩ = some (.int .i64 0) := (by rw [blk_cell B0']; rfl); have d1' : w3.cell? ⟨w.heap.size + 1, 1, none⟩ = some (.slice none 0 0) := (by rw [blk_cell B0']; rfl); have f0' := blk_frozen B0' 0; have f1' := blk_frozen B0' 1; have BB0 := Aside0.mk B0'; have HX := Aside0.mk (And.intro hs (And.intro hR3 hb3)); obtain ⟨A3, k3, c3, rfl⟩ : ∃ A k c, v3 = .slice A k c := (by obtain ⟨A, c, e⟩ := Kd.R_slice hR3; exact ⟨A, _, c, e⟩); clear hs hR3 hb3 B0' B1')))
  go_wp2
  obtain ⟨hs, hR3, hb3⟩ := HX.out
  rw [sorted_norm hs HN.out] at hR3
  have hR4 := Kd.R_lower (base' := w.heap.size) hR3 (by first | omega | (simp; omega))
  have hq : ∀ q, q ∈ 45 :: KE.E → q ≠ 24 := by
    intro q hq
    rcases List.mem_cons.1 hq with rfl | hq
    · decide
    · exact absurd hq (List.not_mem_nil)
  have hR5 := Kd.R_set hR4 BB0.out hq 0 (.int .i64 n)
  have hR6 := Kd.R_set hR5 (blk_put BB0.out 0 (.int .i64 n) rfl) hq 1 (.slice A3 k3 c3)
  refine bodyPost_ret (v := .tuple #[.agg #[.int .i64 n, .slice A3 k3 c3], .int .i64 0]) (by simp [results, Tryd.results12, go_sem, *]) rfl ⟨_, rfl, hR6, ?_⟩
  have h1 : Below w.heap.size w w3 := HB2.out.trans (hb3.mono (by simp; omega))
  repeat (first | exact h1 | refine Below.setCell ?_ (by simp) _)

/-! ### the edges of a vertex -/
set_option maxRecDepth 100000 in
set_option maxHeartbeats 4000000 in
theorem out1_any (x : Edge) (v : Int) (B : Nat) (w : World) (hc : w.cell? ⟨B, 0, none⟩ = some (.int .i64 v)) :
    Calls Tryd.prog 32 #[x.v, .pointer (some ⟨B, 0, none⟩)] w fun e w' => e = .returned (.bool (x.src == v)) ∧ Below w.heap.size w w' := by
  unfold Edge.v
  have hb : B < w.heap.size := World.block_lt_of_cell? w _ hc
  have hne : B ≠ w.heap.size := by omega
  go_enter Tryd.func32, Tryd.ntmps32
  go_wp2
  go_ret
  exact ⟨rfl, (Below.refl _ w).alloc (Nat.le_refl _) _⟩
set_option maxRecDepth 100000 in
set_option maxHeartbeats 4000000 in
theorem pickout_bad (n : Int) (A : Option Addr) (c : Nat) (es : List Edge) (v : Value) (w : World) (hC : KE.C w A es.length es) (h : Graph.check ⟨n, es⟩ ≠ 0) :
    Calls Tryd.prog 31 #[.agg #[.int .i64 n, .slice A es.length c], .func (.func 32) #[] #[v]] w fun e w' => e = .returned (.slice none 0 0) ∧ Below w.heap.size w w' := by
  have hb0 := (Below.refl w.heap.size w).alloc (Nat.le_refl _) (.cells #[.int .i64 n, .slice A es.length c] 24)
  have HK := Aside0.mk (norm_bad n A c es (w.alloc (.cells #[.int .i64 n, .slice A es.length c] 24)) (Kd.C_below hC hb0) h)
  have HB := Aside0.mk hb0
  clear hb0 hC h
  generalize Graph.check ⟨n, es⟩ = x at HK
  go_enter Tryd.func31, Tryd.ntmps31
  go_wp2_with fail
  refine HK.out.mono ?_
  rintro e w1 ⟨rfl, hb1⟩
  have HB1 := Aside0.mk (HB.out.trans (hb1.mono HB.out.size))
  clear hb1 HK
  go_wp2
  go_loopw [7, 18] (fun v7 v18 wr => v7 = .slice none 0 0 ∧ v18 = .int .i64 0 ∧ Aside0 (Below w.heap.size w wr)) (fun _ _ _ => 0)
  case atStart => exact ⟨rfl, rfl, ⟨by have := HB1.out; repeat (first | exact this | refine Below.setCell ?_ (by have := HB1.out.size; simp; omega) _ | refine Below.alloc ?_ (by have := HB1.out.size; simp; omega) _)⟩⟩
  case round =>
    obtain ⟨rfl, rfl, hB⟩ := hrel
    go_wp2
    go_ret
    exact ⟨rfl, hB.out⟩
set_option maxRecDepth 100000 in
set_option maxHeartbeats 4000000 in
theorem pickout_ok (n : Int) (A : Option Addr) (c : Nat) (es : List Edge) (v : Int) (B : Nat) (w : World) (hC : KE.C w A es.length es) (hc : w.cell? ⟨B, 0, none⟩ = some (.int .i64 v)) (h : Graph.check ⟨n, es⟩ = 0) :
    Calls Tryd.prog 31 #[.agg #[.int .i64 n, .slice A es.length c], .func (.func 32) #[] #[.pointer (some ⟨B, 0, none⟩)]] w fun e w' => ∃ u : Value, e = .returned u ∧ KE.R 45 w' w.heap.size (fun _ => True) u ((norm es).filter (fun x => x.src == v)) ∧ Below w.heap.size w w' := by
  have hb0 := (Below.refl w.heap.size w).alloc (Nat.le_refl _) (.cells #[.int .i64 n, .slice A es.length c] 24)
  have HK := Aside0.mk (norm_ok n A c es (w.alloc (.cells #[.int .i64 n, .slice A es.length c] 24)) (Kd.C_below hC hb0) h)
  have hl5 : es.length ≤ 512 := (check_zero h).2.2.1
  have hln : (norm es).length = es.length := (norm_sorted es).1.length_eq
  have HB := Aside0.mk hb0
  have HCB := Aside0.mk hc
  have hBl : B < w.heap.size := World.block_lt_of_cell? w _ hc
  clear hb0 hC h hc
  generalize norm es = l at HK hln ⊢
  go_enter Tryd.func31, Tryd.ntmps31
  go_wp2_with fail
  refine HK.out.mono ?_
  rintro e w1 ⟨u1, rfl, hR1, hb1⟩
  have hbw : Below w.heap.size w w1 := HB.out.trans (hb1.mono HB.out.size)
  have HB1 := Aside0.mk hbw
  obtain ⟨A1, c1, rfl, hl1, hC1⟩ := Kd.R_reads hR1
  have HC1 := Aside0.mk hC1
  have hs1 : w.heap.size < w1.heap.size := by have := hb1.size; simp at this; omega
  clear hb1 HK hR1 hC1 hbw
  have hl512 : l.length ≤ 512 := by omega
  clear hln hl5
  have hhead : Below w1.heap.size w1 (w1.alloc (.cells #[.int .i64 n, .slice A1 l.length c1] 24)) := (Below.refl _ w1).alloc (Nat.le_refl _) _
  have HH := Aside0.mk hhead
  clear hhead
  go_wp2
  go_loopw [7, 18] (fun v7 v18 wr => ∃ k : Nat, k ≤ l.length ∧ v18 = .int .i64 k ∧ Aside0 (KE.R 45 wr w1.heap.size (fun _ => True) v7 ((l.take k).filter (fun x => x.src == v))) ∧ Aside0 (Below w1.heap.size w1 wr)) (fun _ v18 _ => l.length - (intOf v18).toNat)
  case atStart => exact ⟨0, Nat.zero_le _, rfl, ⟨Kd.R_nil _ _ _ _ _⟩, HH⟩
  case round =>
    obtain ⟨k, hk, rfl, hR, hB⟩ := hrel
    have hsr : w1.heap.size ≤ wr.heap.size := hB.out.size
    by_cases hlt : k < l.length
    · obtain ⟨ad, rfl, a0, a1, a2⟩ := KE_at (Kd.C_below HC1.out hB.out) k hlt
      have hbc : wr.cell? ⟨B, 0, none⟩ = some (.int .i64 v) := ((HB1.out.cell (p := ⟨B, 0, none⟩) hBl).trans HCB.out) |> fun h1 => (hB.out.cell (p := ⟨B, 0, none⟩) (by show B < _; omega)).trans h1
      have htk : l.take (k + 1) = l.take k ++ [l[k]] := by rw [List.take_succ_eq_append_getElem hlt]
      have hlen : ((l.take k).filter (fun x => x.src == v)).length ≤ 512 := Nat.le_trans (List.length_filter_le _ _) (by rw [List.length_take]; omega)
      have hal : Below w1.heap.size w1 (wr.alloc (.cells #[.int .i64 l[k].src, .int .i64 l[k].dst, .int .i64 l[k].wt] 45)) := hB.out.alloc hsr _
      have HK1 := Aside0.mk (out1_any l[k] v B (wr.alloc (.cells #[.int .i64 l[k].src, .int .i64 l[k].dst, .int .i64 l[k].wt] 45)) (by simp [World.cell?_alloc_some, hbc]))
      unfold Edge.v at HK1
      have HAL := Aside0.mk hal
      clear hbc hal
      have i1 : (0 : Int) ≤ (k : Int) := by omega
      have i2 : (k : Int) < (l.length : Int) := by omega
      have i6 : IntKind.i64.wrap (k : Int) = (k : Int) := by rw [IntWalk.i64_in _ (by omega)]
      cases hp : (l[k].src == v) with
      | true =>
        have HF := Lib.hid (show (l.take (k + 1)).filter (fun x => x.src == v) = (l.take k).filter (fun x => x.src == v) ++ [l[k]] by rw [htk, List.filter_append]; simp [hp])
        rw [hp] at HK1
        clear htk hp
        go_wp2_with (first | (go_at_call 32; refine HK1.out.mono ?_; rintro e w2 ⟨rfl, hb2⟩; have d0 : w2.cell? ⟨wr.heap.size, 0, none⟩ = some (.int .i64 l[k].src) := (hb2.cell (p := ⟨wr.heap.size, 0, none⟩) (by simp)).trans (by simp); have d1 : w2.cell? ⟨wr.heap.size, 1, none⟩ = some (.int .i64 l[k].dst) := (hb2.cell (p := ⟨wr.heap.size, 1, none⟩) (by simp)).trans (by simp); have d2 : w2.cell? ⟨wr.heap.size, 2, none⟩ = some (.int .i64 l[k].wt) := (hb2.cell (p := ⟨wr.heap.size, 2, none⟩) (by simp)).trans (by simp); have HB2 := Aside0.mk (HAL.out.trans (hb2.mono HAL.out.size)); have HBW := Aside0.mk (((Below.refl wr.heap.size wr).alloc (Nat.le_refl _) (.cells #[.int .i64 l[k].src, .int .i64 l[k].dst, .int .i64 l[k].wt] 45)).trans (hb2.mono (by simp))); have hs2 : wr.heap.size < w2.heap.size := (by have := hb2.size; simp at this; omega); clear hb2) | (at_builtin; refine Kd.R_append KE (w0 := w1) w1.heap.size rfl (.tmp 25) (.tmp 27) 22 45 (.agg #[.int .i64 0, .int .i64 0, .int .i64 0]) 24 rfl Tryd.underlying22 infoE rfl (by decide) (by decide) _ ((l.take k).filter (fun x => x.src == v)) l[k] l[k].enc (fun _ => True) (fun _ => False) rfl rfl rfl (fun _ hk => hk.elim) (fun _ _ => trivial) (Kd.R_below hR.out HBW.out) HB2.out HB2.out.size (by omega) ?_; intro v8 w3 hR3 hB3 hg3 hat3; have HR3 := Aside0.mk hR3; have HB3 := Aside0.mk hB3; clear hR3 hB3 hg3 hat3))
        go_roundw
        case rel => exact ⟨k + 1, by omega, by go_num, ⟨by rw [HF.out]; exact HR3.out⟩, HB3⟩
        case measure => simp [intOf]; omega
      | false =>
        have HF := Lib.hid (show (l.take (k + 1)).filter (fun x => x.src == v) = (l.take k).filter (fun x => x.src == v) by rw [htk, List.filter_append]; simp [hp])
        rw [hp] at HK1
        clear htk hp
        go_wp2_with (go_at_call 32; refine HK1.out.mono ?_; rintro e w2 ⟨rfl, hb2⟩; have HB2 := Aside0.mk (HAL.out.trans (hb2.mono HAL.out.size)); have HBW := Aside0.mk (((Below.refl wr.heap.size wr).alloc (Nat.le_refl _) (.cells #[.int .i64 l[k].src, .int .i64 l[k].dst, .int .i64 l[k].wt] 45)).trans (hb2.mono (by simp))); clear hb2)
        go_roundw
        case rel => exact ⟨k + 1, by omega, by go_num, ⟨by rw [HF.out]; exact Kd.R_below hR.out HBW.out⟩, HB2⟩
        case measure => simp [intOf]; omega
    · obtain rfl : k = l.length := by omega
      have hR := hR.out
      rw [List.take_length] at hR
      have HR := Aside0.mk hR
      clear hR
      go_wp2
      go_ret
      exact ⟨_, rfl, Kd.R_lower HR.out (by omega), HB1.out.trans (hB.out.mono (by omega))⟩
set_option maxRecDepth 100000 in
set_option maxHeartbeats 4000000 in
theorem in1_any (x : Edge) (v : Int) (B : Nat) (w : World) (hc : w.cell? ⟨B, 0, none⟩ = some (.int .i64 v)) :
    Calls Tryd.prog 33 #[x.v, .pointer (some ⟨B, 0, none⟩)] w fun e w' => e = .returned (.bool (x.dst == v)) ∧ Below w.heap.size w w' := by
  unfold Edge.v
  have hb : B < w.heap.size := World.block_lt_of_cell? w _ hc
  have hne : B ≠ w.heap.size := by omega
  go_enter Tryd.func33, Tryd.ntmps33
  go_wp2
  go_ret
  exact ⟨rfl, (Below.refl _ w).alloc (Nat.le_refl _) _⟩
set_option maxRecDepth 100000 in
set_option maxHeartbeats 4000000 in
theorem pickin_bad (n : Int) (A : Option Addr) (c : Nat) (es : List Edge) (v : Value) (w : World) (hC : KE.C w A es.length es) (h : Graph.check ⟨n, es⟩ ≠ 0) :
    Calls Tryd.prog 31 #[.agg #[.int .i64 n, .slice A es.length c], .func (.func 33) #[] #[v]] w fun e w' => e = .returned (.slice none 0 0) ∧ Below w.heap.size w w' := by
  have hb0 := (Below.refl w.heap.size w).alloc (Nat.le_refl _) (.cells #[.int .i64 n, .slice A es.length c] 24)
  have HK := Aside0.mk (norm_bad n A c es (w.alloc (.cells #[.int .i64 n, .slice A es.length c] 24)) (Kd.C_below hC hb0) h)
  have HB := Aside0.mk hb0
  clear hb0 hC h
  generalize Graph.check ⟨n, es⟩ = x at HK
  go_enter Tryd.func31, Tryd.ntmps31
  go_wp2_with fail
  refine HK.out.mono ?_
  rintro e w1 ⟨rfl, hb1⟩
  have HB1 := Aside0.mk (HB.out.trans (hb1.mono HB.out.size))
  clear hb1 HK
  go_wp2
  go_loopw [7, 18] (fun v7 v18 wr => v7 = .slice none 0 0 ∧ v18 = .int .i64 0 ∧ Aside0 (Below w.heap.size w wr)) (fun _ _ _ => 0)
  case atStart => exact ⟨rfl, rfl, ⟨by have := HB1.out; repeat (first | exact this | refine Below.setCell ?_ (by have := HB1.out.size; simp; omega) _ | refine Below.alloc ?_ (by have := HB1.out.size; simp; omega) _)⟩⟩
  case round =>
    obtain ⟨rfl, rfl, hB⟩ := hrel
    go_wp2
    go_ret
    exact ⟨rfl, hB.out⟩
set_option maxRecDepth 100000 in
set_option maxHeartbeats 4000000 in
theorem pickin_ok (n : Int) (A : Option Addr) (c : Nat) (es : List Edge) (v : Int) (B : Nat) (w : World) (hC : KE.C w A es.length es) (hc : w.cell? ⟨B, 0, none⟩ = some (.int .i64 v)) (h : Graph.check ⟨n, es⟩ = 0) :
    Calls Tryd.prog 31 #[.agg #[.int .i64 n, .slice A es.length c], .func (.func 33) #[] #[.pointer (some ⟨B, 0, none⟩)]] w fun e w' => ∃ u : Value, e = .returned u ∧ KE.R 45 w' w.heap.size (fun _ => True) u ((norm es).filter (fun x => x.dst == v)) ∧ Below w.heap.size w w' := by
  have hb0 := (Below.refl w.heap.size w).alloc (Nat.le_refl _) (.cells #[.int .i64 n, .slice A es.length c] 24)
  have HK := Aside0.mk (norm_ok n A c es (w.alloc (.cells #[.int .i64 n, .slice A es.length c] 24)) (Kd.C_below hC hb0) h)
  have hl5 : es.length ≤ 512 := (check_zero h).2.2.1
  have hln : (norm es).length = es.length := (norm_sorted es).1.length_eq
  have HB := Aside0.mk hb0
  have HCB := Aside0.mk hc
  have hBl : B < w.heap.size := World.block_lt_of_cell? w _ hc
  clear hb0 hC h hc
  generalize norm es = l at HK hln ⊢
  go_enter Tryd.func31, Tryd.ntmps31
  go_wp2_with fail
  refine HK.out.mono ?_
  rintro e w1 ⟨u1, rfl, hR1, hb1⟩
  have hbw : Below w.heap.size w w1 := HB.out.trans (hb1.mono HB.out.size)
  have HB1 := Aside0.mk hbw
  obtain ⟨A1, c1, rfl, hl1, hC1⟩ := Kd.R_reads hR1
  have HC1 := Aside0.mk hC1
  have hs1 : w.heap.size < w1.heap.size := by have := hb1.size; simp at this; omega
  clear hb1 HK hR1 hC1 hbw
  have hl512 : l.length ≤ 512 := by omega
  clear hln hl5
  have hhead : Below w1.heap.size w1 (w1.alloc (.cells #[.int .i64 n, .slice A1 l.length c1] 24)) := (Below.refl _ w1).alloc (Nat.le_refl _) _
  have HH := Aside0.mk hhead
  clear hhead
  go_wp2
  go_loopw [7, 18] (fun v7 v18 wr => ∃ k : Nat, k ≤ l.length ∧ v18 = .int .i64 k ∧ Aside0 (KE.R 45 wr w1.heap.size (fun _ => True) v7 ((l.take k).filter (fun x => x.dst == v))) ∧ Aside0 (Below w1.heap.size w1 wr)) (fun _ v18 _ => l.length - (intOf v18).toNat)
  case atStart => exact ⟨0, Nat.zero_le _, rfl, ⟨Kd.R_nil _ _ _ _ _⟩, HH⟩
  case round =>
    obtain ⟨k, hk, rfl, hR, hB⟩ := hrel
    have hsr : w1.heap.size ≤ wr.heap.size := hB.out.size
    by_cases hlt : k < l.length
    · obtain ⟨ad, rfl, a0, a1, a2⟩ := KE_at (Kd.C_below HC1.out hB.out) k hlt
      have hbc : wr.cell? ⟨B, 0, none⟩ = some (.int .i64 v) := ((HB1.out.cell (p := ⟨B, 0, none⟩) hBl).trans HCB.out) |> fun h1 => (hB.out.cell (p := ⟨B, 0, none⟩) (by show B < _; omega)).trans h1
      have htk : l.take (k + 1) = l.take k ++ [l[k]] := by rw [List.take_succ_eq_append_getElem hlt]
      have hlen : ((l.take k).filter (fun x => x.dst == v)).length ≤ 512 := Nat.le_trans (List.length_filter_le _ _) (by rw [List.length_take]; omega)
      have hal : Below w1.heap.size w1 (wr.alloc (.cells #[.int .i64 l[k].src, .int .i64 l[k].dst, .int .i64 l[k].wt] 45)) := hB.out.alloc hsr _
      have HK1 := Aside0.mk (in1_any l[k] v B (wr.alloc (.cells #[.int .i64 l[k].src, .int .i64 l[k].dst, .int .i64 l[k].wt] 45)) (by simp [World.cell?_alloc_some, hbc]))
      unfold Edge.v at HK1
      have HAL := Aside0.mk hal
      clear hbc hal
      have i1 : (0 : Int) ≤ (k : Int) := by omega
      have i2 : (k : Int) < (l.length : Int) := by omega
      have i6 : IntKind.i64.wrap (k : Int) = (k : Int) := by rw [IntWalk.i64_in _ (by omega)]
      cases hp : (l[k].dst == v) with
      | true =>
        have HF := Lib.hid (show (l.take (k + 1)).filter (fun x => x.dst == v) = (l.take k).filter (fun x => x.dst == v) ++ [l[k]] by rw [htk, List.filter_append]; simp [hp])
        rw [hp] at HK1
        clear htk hp
        go_wp2_with (first | (go_at_call 33; refine HK1.out.mono ?_; rintro e w2 ⟨rfl, hb2⟩; have d0 : w2.cell? ⟨wr.heap.size, 0, none⟩ = some (.int .i64 l[k].src) := (hb2.cell (p := ⟨wr.heap.size, 0, none⟩) (by simp)).trans (by simp); have d1 : w2.cell? ⟨wr.heap.size, 1, none⟩ = some (.int .i64 l[k].dst) := (hb2.cell (p := ⟨wr.heap.size, 1, none⟩) (by simp)).trans (by simp); have d2 : w2.cell? ⟨wr.heap.size, 2, none⟩ = some (.int .i64 l[k].wt) := (hb2.cell (p := ⟨wr.heap.size, 2, none⟩) (by simp)).trans (by simp); have HB2 := Aside0.mk (HAL.out.trans (hb2.mono HAL.out.size)); have HBW := Aside0.mk (((Below.refl wr.heap.size wr).alloc (Nat.le_refl _) (.cells #[.int .i64 l[k].src, .int .i64 l[k].dst, .int .i64 l[k].wt] 45)).trans (hb2.mono (by simp))); have hs2 : wr.heap.size < w2.heap.size := (by have := hb2.size; simp at this; omega); clear hb2) | (at_builtin; refine Kd.R_append KE (w0 := w1) w1.heap.size rfl (.tmp 25) (.tmp 27) 22 45 (.agg #[.int .i64 0, .int .i64 0, .int .i64 0]) 24 rfl Tryd.underlying22 infoE rfl (by decide) (by decide) _ ((l.take k).filter (fun x => x.dst == v)) l[k] l[k].enc (fun _ => True) (fun _ => False) rfl rfl rfl (fun _ hk => hk.elim) (fun _ _ => trivial) (Kd.R_below hR.out HBW.out) HB2.out HB2.out.size (by omega) ?_; intro v8 w3 hR3 hB3 hg3 hat3; have HR3 := Aside0.mk hR3; have HB3 := Aside0.mk hB3; clear hR3 hB3 hg3 hat3))
        go_roundw
        case rel => exact ⟨k + 1, by omega, by go_num, ⟨by rw [HF.out]; exact HR3.out⟩, HB3⟩
        case measure => simp [intOf]; omega
      | false =>
        have HF := Lib.hid (show (l.take (k + 1)).filter (fun x => x.dst == v) = (l.take k).filter (fun x => x.dst == v) by rw [htk, List.filter_append]; simp [hp])
        rw [hp] at HK1
        clear htk hp
        go_wp2_with (go_at_call 33; refine HK1.out.mono ?_; rintro e w2 ⟨rfl, hb2⟩; have HB2 := Aside0.mk (HAL.out.trans (hb2.mono HAL.out.size)); have HBW := Aside0.mk (((Below.refl wr.heap.size wr).alloc (Nat.le_refl _) (.cells #[.int .i64 l[k].src, .int .i64 l[k].dst, .int .i64 l[k].wt] 45)).trans (hb2.mono (by simp))); clear hb2)
        go_roundw
        case rel => exact ⟨k + 1, by omega, by go_num, ⟨by rw [HF.out]; exact Kd.R_below hR.out HBW.out⟩, HB2⟩
        case measure => simp [intOf]; omega
    · obtain rfl : k = l.length := by omega
      have hR := hR.out
      rw [List.take_length] at hR
      have HR := Aside0.mk hR
      clear hR
      go_wp2
      go_ret
      exact ⟨_, rfl, Kd.R_lower HR.out (by omega), HB1.out.trans (hB.out.mono (by omega))⟩
set_option maxRecDepth 100000 in
set_option maxHeartbeats 4000000 in
theorem outE_bad (n : Int) (A : Option Addr) (c : Nat) (es : List Edge) (v : Int) (w : World) (hC : KE.C w A es.length es) (h : Graph.check ⟨n, es⟩ ≠ 0) :
    Calls Tryd.prog 16 #[.agg #[.int .i64 n, .slice A es.length c], .int .i64 v] w fun e w' => e = .returned (.slice none 0 0) ∧ Below w.heap.size w w' := by
  have hb0 := ((Below.refl w.heap.size w).alloc (Nat.le_refl _) (.cells #[.int .i64 n, .slice A es.length c] 24)).alloc (by simp) (.cells #[.int .i64 v] 3)
  have HK := fun u => Aside0.mk (pickout_bad n A c es u _ (Kd.C_below hC hb0) h)
  have HB := Aside0.mk hb0
  clear hb0 hC h
  go_enter Tryd.func16, Tryd.ntmps16
  go_wp2_with (go_at_call 31; refine (HK _).out.mono ?_; rintro e w1 ⟨rfl, hb1⟩; have HB1 := Aside0.mk (HB.out.trans (hb1.mono HB.out.size)); clear hb1 HK)
  go_ret
  exact ⟨rfl, HB1.out⟩
set_option maxRecDepth 100000 in
set_option maxHeartbeats 4000000 in
theorem outE_ok (n : Int) (A : Option Addr) (c : Nat) (es : List Edge) (v : Int) (w : World) (hC : KE.C w A es.length es) (h : Graph.check ⟨n, es⟩ = 0) :
    Calls Tryd.prog 16 #[.agg #[.int .i64 n, .slice A es.length c], .int .i64 v] w fun e w' => ∃ u : Value, e = .returned u ∧ KE.R 45 w' w.heap.size (fun _ => True) u ((norm es).filter (fun x => x.src == v)) ∧ Below w.heap.size w w' := by
  have hb0 := ((Below.refl w.heap.size w).alloc (Nat.le_refl _) (.cells #[.int .i64 n, .slice A es.length c] 24)).alloc (by simp) (.cells #[.int .i64 v] 3)
  have HK := Aside0.mk (pickout_ok n A c es v (w.heap.size + 1) _ (Kd.C_below hC hb0) (by simp) h)
  have HB := Aside0.mk hb0
  clear hb0 hC h
  go_enter Tryd.func16, Tryd.ntmps16
  go_wp2_with (go_at_call 31; refine HK.out.mono ?_; rintro e w1 ⟨u, rfl, hR, hb1⟩; have HR := Aside0.mk hR; have HB1 := Aside0.mk (HB.out.trans (hb1.mono HB.out.size)); clear hb1 HK hR)
  go_ret
  exact ⟨_, rfl, Kd.R_lower HR.out HB.out.size, HB1.out⟩
set_option maxRecDepth 100000 in
set_option maxHeartbeats 4000000 in
theorem inE_bad (n : Int) (A : Option Addr) (c : Nat) (es : List Edge) (v : Int) (w : World) (hC : KE.C w A es.length es) (h : Graph.check ⟨n, es⟩ ≠ 0) :
    Calls Tryd.prog 17 #[.agg #[.int .i64 n, .slice A es.length c], .int .i64 v] w fun e w' => e = .returned (.slice none 0 0) ∧ Below w.heap.size w w' := by
  have hb0 := ((Below.refl w.heap.size w).alloc (Nat.le_refl _) (.cells #[.int .i64 n, .slice A es.length c] 24)).alloc (by simp) (.cells #[.int .i64 v] 3)
  have HK := fun u => Aside0.mk (pickin_bad n A c es u _ (Kd.C_below hC hb0) h)
  have HB := Aside0.mk hb0
  clear hb0 hC h
  go_enter Tryd.func17, Tryd.ntmps17
  go_wp2_with (go_at_call 31; refine (HK _).out.mono ?_; rintro e w1 ⟨rfl, hb1⟩; have HB1 := Aside0.mk (HB.out.trans (hb1.mono HB.out.size)); clear hb1 HK)
  go_ret
  exact ⟨rfl, HB1.out⟩
set_option maxRecDepth 100000 in
set_option maxHeartbeats 4000000 in
theorem inE_ok (n : Int) (A : Option Addr) (c : Nat) (es : List Edge) (v : Int) (w : World) (hC : KE.C w A es.length es) (h : Graph.check ⟨n, es⟩ = 0) :
    Calls Tryd.prog 17 #[.agg #[.int .i64 n, .slice A es.length c], .int .i64 v] w fun e w' => ∃ u : Value, e = .returned u ∧ KE.R 45 w' w.heap.size (fun _ => True) u ((norm es).filter (fun x => x.dst == v)) ∧ Below w.heap.size w w' := by
  have hb0 := ((Below.refl w.heap.size w).alloc (Nat.le_refl _) (.cells #[.int .i64 n, .slice A es.length c] 24)).alloc (by simp) (.cells #[.int .i64 v] 3)
  have HK := Aside0.mk (pickin_ok n A c es v (w.heap.size + 1) _ (Kd.C_below hC hb0) (by simp) h)
  have HB := Aside0.mk hb0
  clear hb0 hC h
  go_enter Tryd.func17, Tryd.ntmps17
  go_wp2_with (go_at_call 31; refine HK.out.mono ?_; rintro e w1 ⟨u, rfl, hR, hb1⟩; have HR := Aside0.mk hR; have HB1 := Aside0.mk (HB.out.trans (hb1.mono HB.out.size)); clear hb1 HK hR)
  go_ret
  exact ⟨_, rfl, Kd.R_lower HR.out HB.out.size, HB1.out⟩
end Go.Proofs.YtenpmbebghlnkaaDoor
