/-
  Pieces of a row of edges: its slices, and what they read as.
-/
import Derived.Test.YtenpmbebghlnkaaDoorKShows
import Derived.Deep.Slices
namespace Go.Proofs.YtenpmbebghlnkaaDoor
open Go.RowKit Go.Proofs.YtenpmbebghlnkaaDoorW.PrintWords Go.Proofs.YtenpmbebghlnkaaDoorW.PrintLast Go.Proofs.YtenpmbebghlnkaaDoorW.PrintMore
set_option linter.unusedVariables false
set_option linter.unusedSimpArgs false
attribute [local go_sem] max2_int min2_int max_two min_two max_three min_three max_four min_four
theorem elemG : Tryd.prog.elem 22 = 45 := by kernel_rfl
theorem sl_head (ad : Addr) (len c k : Nat) (h : k ≤ len) (hc : len ≤ c) (hp : 0 < c) (wx : World) :
    (Instr.slice 22 (.slice (some ad) len c) none (some (.int .i64 (k : Int))) none).run Tryd.prog wx = .ok (.slice (some ad) k c) wx := by
  have h1 : (0 : Int) ≤ (k : Int) := by omega
  have h2 : (k : Int) ≤ (c : Int) := by omega
  have h3 : ¬ c = 0 := by omega
  go_simp
theorem sl_tail (ad : Addr) (len c k : Nat) (h : k ≤ len) (hc : len ≤ c) (hk : 0 < k) (wx : World) :
    (Instr.slice 22 (.slice (some ad) len c) (some (.int .i64 (k : Int))) none none).run Tryd.prog wx = .ok (.slice (if c = k then some ad else some (ad.add (k * 3))) (len - k) (c - k)) wx := by
  have h1 : (0 : Int) ≤ (k : Int) := by omega
  have h2 : (k : Int) ≤ (len : Int) := by omega
  go_simp
theorem KE_head {w : World} {ad : Addr} {n k : Nat} {es : List Edge} (h : KE.C w (some ad) n es) (hk : k ≤ n) : KE.C w (some ad) k (es.take k) := by
  obtain ⟨h1, h2, h3⟩ := h
  refine ⟨by rw [List.length_take]; omega, by omega, fun hp => ?_⟩
  obtain ⟨a, e, hc⟩ := h3 (by omega)
  refine ⟨a, e, fun j p hj => hc j p ?_⟩
  rw [List.getElem?_take] at hj
  split at hj
  · exact hj
  · cases hj
theorem KE_tail {w : World} {ad : Addr} {c k : Nat} {es : List Edge} (h : KE.C w (some ad) es.length es) (hc : es.length ≤ c) (hk : k ≤ es.length) : KE.C w (if c = k then some ad else some (ad.add (k * 3))) (es.length - k) (es.drop k) := by
  obtain ⟨h1, h2, h3⟩ := h
  refine ⟨by rw [List.length_drop], by omega, fun hp => ?_⟩
  rw [if_neg (by omega)]
  obtain ⟨a, e, hcc⟩ := h3 (by omega)
  injection e with e
  subst e
  refine ⟨_, rfl, fun j p hj => ?_⟩
  rw [List.getElem?_drop] at hj
  obtain ⟨cs, q1, q2, q3⟩ := hcc (k + j) p hj
  refine ⟨cs, q1, q2, fun i u hu => ?_⟩
  rw [← q3 i u hu]
  have hs : KE.sz = 3 := rfl
  rw [hs]
  have e : (ad.add (k * 3)).add (j * 3 + i) = ad.add ((k + j) * 3 + i) := by
    rw [Go.Deep.add_add]
    congr 1
    omega
  rw [e]
/-! ### new blocks, whatever order they come in -/
theorem al1_0 (w : World) (a : Obj) : (w.alloc a).heap[w.heap.size]? = some a := World.alloc_heap_new w a
theorem al2_0 (w : World) (a b : Obj) : ((w.alloc a).alloc b).heap[w.heap.size]? = some a := by
  rw [Below.heap_alloc _ _ _ (by simp)]
  exact al1_0 w a
theorem al2_1 (w : World) (a b : Obj) : ((w.alloc a).alloc b).heap[w.heap.size + 1]? = some b := by
  have : (w.alloc a).heap.size = w.heap.size + 1 := by simp
  rw [← this]
  exact al1_0 _ b
theorem al3_0 (w : World) (a b c : Obj) : (((w.alloc a).alloc b).alloc c).heap[w.heap.size]? = some a := by
  rw [Below.heap_alloc _ _ _ (by simp; omega)]
  exact al2_0 w a b
theorem al3_1 (w : World) (a b c : Obj) : (((w.alloc a).alloc b).alloc c).heap[w.heap.size + 1]? = some b := by
  rw [Below.heap_alloc _ _ _ (by simp)]
  exact al2_1 w a b
theorem al3_2 (w : World) (a b c : Obj) : (((w.alloc a).alloc b).alloc c).heap[w.heap.size + 2]? = some c := by
  have : ((w.alloc a).alloc b).heap.size = w.heap.size + 2 := by simp
  rw [← this]
  exact al1_0 _ c
theorem lit_own {α : Type} (d : Kd α) {t : TypeId} {W : World} {base g : Nat} (h : W.heap[g]? = some (.cells #[] t (0, 0))) (hb : base ≤ g) : d.R t W base (fun _ => True) (.slice (some ⟨g, 0, none⟩) 0 0) [] := by
  refine ⟨fun _ _ => trivial, [], ⟨by simp, .inr ⟨g, 0, #[], rfl, hb, h, Nat.le_refl _, by unfold maxLen; omega, by simp, by simp⟩⟩, Reps.none _ _⟩
theorem box_C {W : World} {g : Nat} {a b c : Int} (h : W.heap[g]? = some (.cells #[.int .i64 a, .int .i64 b, .int .i64 c] 45 (0, 0))) : KE.C W (some ⟨g, 0, none⟩) 1 [⟨a, b, c⟩] := by
  refine ⟨rfl, by decide, fun _ => ⟨_, rfl, fun j p hj => ?_⟩⟩
  have hj0 : j = 0 ∧ p = ⟨a, b, c⟩ := by
    match j, hj with
    | 0, hj => simp at hj; exact ⟨rfl, hj.symm⟩
  obtain ⟨rfl, rfl⟩ := hj0
  refine ⟨_, rfl, rfl, fun i u hu => ?_⟩
  have e : (⟨g, 0, none⟩ : Addr).add (0 * KE.sz + i) = ⟨g, i, none⟩ := by
    rw [Nat.zero_mul, Nat.zero_add, add_plain]
  rw [e, blk_cell h]
  simpa [Edge.enc] using hu
theorem blk_two {W : World} {g : Nat} {a b : Value} {t : TypeId} (h : W.heap[g]? = some (.cells #[a, b] t (0, 0))) : W.cell? ⟨g, 0, none⟩ = some a ∧ W.cell? ⟨g, 1, none⟩ = some b ∧ W.frozen? ⟨g, 0, none⟩ = false ∧ W.frozen? ⟨g, 1, none⟩ = false :=
  ⟨by rw [blk_cell h]; rfl, by rw [blk_cell h]; rfl, blk_frozen h 0, blk_frozen h 1⟩
/-- A graph that was made: its block, and the row of its edges. -/
def MadeG (w0 wx : World) (g : Nat) (n : Int) (l : List Edge) : Prop :=
  Below w0.heap.size w0 wx ∧ ∃ A c, wx.heap[g]? = some (.cells #[.int .i64 n, .slice A l.length c] 24 (0, 0)) ∧ KE.C wx A l.length l
theorem made_new {w0 w5 : World} {n : Int} {A5 : Option Addr} {m5 q5 : Nat} {l : List Edge} (hR : KE.R 45 w5 w0.heap.size (fun _ => True) (.slice A5 m5 q5) l) (hB : Below w0.heap.size w0 w5) : MadeG w0 (w5.alloc (.cells #[.int .i64 n, .slice A5 m5 q5] 24)) w5.heap.size n l := by
  have hal : Below w5.heap.size w5 (w5.alloc (.cells #[.int .i64 n, .slice A5 m5 q5] 24)) := (Below.refl _ w5).alloc (Nat.le_refl _) _
  obtain ⟨A, c, e, _, hC⟩ := Kd.R_reads hR
  refine ⟨below_step hB hal, A, c, ?_, Kd.C_below hC hal⟩
  rw [← e]
  exact World.alloc_heap_new w5 _
theorem made_old {w0 w5 : World} {n : Int} {A5 : Option Addr} {m5 q5 g : Nat} {l : List Edge} (hR : KE.R 45 w5 w0.heap.size (fun _ => True) (.slice A5 m5 q5) l) (hB : Below w0.heap.size w0 w5) (hg : w5.heap[g]? = some (.cells #[.int .i64 0, .slice none 0 0] 24 (0, 0))) (hle : w0.heap.size ≤ g) :
    MadeG w0 ((w5.setCell ⟨g, 0, none⟩ (.int .i64 n)).setCell ⟨g, 1, none⟩ (.slice A5 m5 q5)) g n l := by
  have p1 := blk_put hg 0 (.int .i64 n) rfl
  have r2 := Kd.R_set (Kd.R_set hR hg edge_no_graph 0 (.int .i64 n)) p1 edge_no_graph 1 (.slice A5 m5 q5)
  obtain ⟨A, c, e, _, hC⟩ := Kd.R_reads r2
  refine ⟨(hB.setCell hle _).setCell hle _, A, c, ?_, hC⟩
  rw [← e]
  exact blk_put p1 1 _ rfl
theorem MadeG.below {w0 wx w' : World} {g : Nat} {n : Int} {l : List Edge} (h : MadeG w0 wx g n l) (hb : Below wx.heap.size wx w') : MadeG w0 w' g n l := by
  obtain ⟨h1, A, c, h2, h3⟩ := h
  exact ⟨below_step h1 hb, A, c, (hb.block _ (blk_lt h2)).trans h2, Kd.C_below h3 hb⟩
/-! ### one edge less, one edge twice -/
theorem check_less {n : Int} {es : List Edge} (h : Graph.check ⟨n, es⟩ = 0) (k : Nat) : Graph.check ⟨n, es.take k ++ es.drop (k + 1)⟩ = 0 := by
  obtain ⟨h1, h2, h3, h4, h5⟩ := check_zero h
  have hsub : (es.take k ++ es.drop (k + 1)).Sublist es := by
    have h1 : (es.take k ++ es.drop (k + 1)).Sublist (es.take k ++ es.drop k) := by
      refine List.Sublist.append_left ?_ _
      have : es.drop (k + 1) = (es.drop k).drop 1 := by rw [List.drop_drop]
      rw [this]
      exact List.drop_sublist _ _
    rwa [List.take_append_drop] at h1
  have h1 : 1 ≤ n := h1
  have h2 : n ≤ 64 := h2
  have h3 : es.length ≤ 512 := h3
  have hl := hsub.length_le
  have hany : (es.take k ++ es.drop (k + 1)).any (oddB n) = false := by
    rw [List.any_eq_false]
    intro e he
    have : 0 ≤ e.src ∧ e.src < n ∧ 0 ≤ e.dst ∧ e.dst < n ∧ 0 ≤ e.wt ∧ e.wt ≤ 1048576 := h4 e (hsub.subset he)
    simp [oddB]
    omega
  have hnd : ((es.take k ++ es.drop (k + 1)).map key).Nodup := List.Nodup.sublist (hsub.map key) h5
  unfold Graph.check Graph.form Graph.dupErr Graph.dup
  simp only [hany]
  rw [decide_eq_true h1, decide_eq_true h2, decide_eq_true (show (es.take k ++ es.drop (k + 1)).length ≤ 512 by omega), decide_eq_true hnd]
  rfl
theorem check_more {n : Int} {es : List Edge} (h : Graph.check ⟨n, es⟩ = 0) (k : Nat) (hk : k < es.length) : Graph.check ⟨n, es ++ [es[k]]⟩ = if es.length = 512 then 50 else 51 := by
  obtain ⟨h1, h2, h3, h4, h5⟩ := check_zero h
  have h1 : 1 ≤ n := h1
  have h2 : n ≤ 64 := h2
  have h3 : es.length ≤ 512 := h3
  have hl : (es ++ [es[k]]).length = es.length + 1 := by simp
  have hany : (es ++ [es[k]]).any (oddB n) = false := by
    rw [List.any_eq_false]
    intro e he
    have hm : e ∈ es := by
      rcases List.mem_append.1 he with he | he
      · exact he
      · rw [List.mem_singleton.1 he]; exact List.getElem_mem hk
    have : 0 ≤ e.src ∧ e.src < n ∧ 0 ≤ e.dst ∧ e.dst < n ∧ 0 ≤ e.wt ∧ e.wt ≤ 1048576 := h4 e hm
    simp [oddB]
    omega
  have hnd : ¬ ((es ++ [es[k]]).map key).Nodup := by
    rw [List.map_append, List.map_singleton, nodup_snoc]
    rintro ⟨_, h6⟩
    exact h6 (List.mem_map.2 ⟨_, List.getElem_mem hk, rfl⟩)
  unfold Graph.check Graph.form Graph.dupErr Graph.dup
  simp only [hany, hl]
  rw [decide_eq_true h1, decide_eq_true h2, decide_eq_false hnd]
  by_cases h512 : es.length = 512
  · rw [if_pos h512, decide_eq_false (by omega)]
    rfl
  · rw [if_neg h512, decide_eq_true (by omega)]
    rfl
end Go.Proofs.YtenpmbebghlnkaaDoor
