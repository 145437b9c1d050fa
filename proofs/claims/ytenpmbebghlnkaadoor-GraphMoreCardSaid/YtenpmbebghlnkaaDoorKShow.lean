/-
  Layer 5 (graph): a graph as a text: the program's function.
-/
import Derived.Test.YtenpmbebghlnkaaDoorKText
import Derived.Test.YtenpmbebghlnkaaDoorKNums
import Derived.Test.YtenpmbebghlnkaaDoorKReadLaw
import Derived.Test.YtenpmbebghlnkaaDoorKGraphB
namespace Go.Proofs.YtenpmbebghlnkaaDoor
open Go.RowKit Go.Proofs.YtenpmbebghlnkaaDoorW.PrintWords Go.Proofs.YtenpmbebghlnkaaDoorW.PrintLast Go.Proofs.YtenpmbebghlnkaaDoorW.PrintMore
set_option linter.unusedVariables false
set_option linter.unusedSimpArgs false
attribute [local go_sem] max2_int min2_int max_two min_two max_three min_three max_four min_four
theorem lineL_len (word : List UInt8) (l : List Int) (hr : ∀ x ∈ l, -9223372036854775808 ≤ x ∧ x ≤ 9223372036854775807) : (lineL word l).length ≤ word.length + 22 * l.length + 1 := by
  have := lineUpto_len word l hr
  unfold lineL lineUpto at *
  rw [List.length_append, List.length_singleton]
  omega
def Int64 (x : Int) : Prop := -9223372036854775808 ≤ x ∧ x ≤ 9223372036854775807
theorem edgeText_len (e : Edge) (h : Int64 e.src ∧ Int64 e.dst ∧ Int64 e.wt) : e.text.length ≤ 71 := by
  have := lineL_len edgeW [e.src, e.dst, e.wt] (by
    intro x hx
    simp only [List.mem_cons, List.not_mem_nil, or_false] at hx
    rcases hx with rfl | rfl | rfl
    · exact h.1
    · exact h.2.1
    · exact h.2.2)
  exact this
theorem edgesText_len : ∀ (l : List Edge), (∀ e ∈ l, Int64 e.src ∧ Int64 e.dst ∧ Int64 e.wt) → (l.flatMap Edge.text).length ≤ 71 * l.length
  | [], _ => by simp
  | e :: l, h => by
    have h1 := edgeText_len e (h e (by simp))
    have h2 := edgesText_len l (fun x hx => h x (by simp [hx]))
    rw [List.flatMap_cons, List.length_append, List.length_cons]
    omega
theorem int3_C {W : World} {g : Nat} {t : TypeId} {a b c : Int} (h : W.heap[g]? = some (.cells #[.int .i64 a, .int .i64 b, .int .i64 c] t (0, 0))) : KI.C W (some ⟨g, 0, none⟩) 3 [a, b, c] :=
  scalar_block (enc := Value.int .i64) (l := [a, b, c]) (h1 := fun _ => rfl) h (by simp)
theorem int1_C {W : World} {g : Nat} {t : TypeId} {a : Int} (h : W.heap[g]? = some (.cells #[.int .i64 a] t (0, 0))) : KI.C W (some ⟨g, 0, none⟩) 1 [a] :=
  scalar_block (enc := Value.int .i64) (l := [a]) (h1 := fun _ => rfl) h (by simp)
set_option maxRecDepth 100000 in
set_option maxHeartbeats 4000000 in
theorem show_bad (n : Int) (A : Option Addr) (c : Nat) (es : List Edge) (w : World) (hC : KE.C w A es.length es) (h : Graph.check ⟨n, es⟩ ≠ 0) :
    Calls Tryd.prog 22 #[.agg #[.int .i64 n, .slice A es.length c]] w fun e w' => e = .returned (.tuple #[.string ⟨#[]⟩, .int .i64 (Graph.check ⟨n, es⟩)]) ∧ Below w.heap.size w w' := by
  have hb0 := (Below.refl w.heap.size w).alloc (Nat.le_refl _) (.cells #[.int .i64 n, .slice A es.length c] 24)
  have HK := Aside0.mk (norm_bad n A c es (w.alloc (.cells #[.int .i64 n, .slice A es.length c] 24)) (Kd.C_below hC hb0) h)
  have HB := Aside0.mk hb0
  have hx : (Graph.check ⟨n, es⟩ != 0) = true := by simpa using h
  clear hb0 hC h
  generalize Graph.check ⟨n, es⟩ = x at HK hx
  go_enter Tryd.func22, Tryd.ntmps22
  go_wp2_with fail
  refine HK.out.mono ?_
  rintro e w1 ⟨rfl, hb1⟩
  have HB1 := Aside0.mk (HB.out.trans (hb1.mono HB.out.size))
  clear hb1
  go_wp2
  go_ret2
  refine ⟨rfl, ?_⟩
  have := HB1.out
  repeat (first | exact this | refine Below.setCell ?_ (by have := HB1.out.size; simp; omega) _ | refine Below.alloc ?_ (by have := HB1.out.size; simp; omega) _)
set_option maxRecDepth 100000 in
set_option maxHeartbeats 4000000 in
theorem show_ok (n : Int) (A : Option Addr) (c : Nat) (es : List Edge) (w : World) (hC : KE.C w A es.length es) (hL : Laid w) (h : Graph.check ⟨n, es⟩ = 0) :
    Calls Tryd.prog 22 #[.agg #[.int .i64 n, .slice A es.length c]] w fun e w' => e = .returned (.tuple #[.string (bs (graphText n (norm es))), .int .i64 0]) ∧ Below w.heap.size w w' := by
  have hb0 := (Below.refl w.heap.size w).alloc (Nat.le_refl _) (.cells #[.int .i64 n, .slice A es.length c] 24)
  have HK := Aside0.mk (norm_ok n A c es (w.alloc (.cells #[.int .i64 n, .slice A es.length c] 24)) (Kd.C_below hC hb0) h)
  have HB := Aside0.mk hb0
  have HL := Aside0.mk hL
  obtain ⟨n1, n2, n3, n4, _⟩ := check_zero h
  have n1 : 1 ≤ n := n1
  have n2 : n ≤ 64 := n2
  have hl5 : (norm es).length ≤ 512 := by rw [(norm_sorted es).1.length_eq]; exact n3
  have hr : ∀ e ∈ norm es, Int64 e.src ∧ Int64 e.dst ∧ Int64 e.wt := by
    intro e he
    have : 0 ≤ e.src ∧ e.src < n ∧ 0 ≤ e.dst ∧ e.dst < n ∧ 0 ≤ e.wt ∧ e.wt ≤ 1048576 := n4 e ((norm_sorted es).1.mem_iff.1 he)
    unfold Int64
    omega
  have HR := Aside0.mk hr
  clear hb0 hC hL h n3 n4 hr
  generalize norm es = l at HK hl5 HR
  go_enter Tryd.func22, Tryd.ntmps22
  go_wp2_with fail
  refine HK.out.mono ?_
  rintro e w1 ⟨v, rfl, hR1, hb1⟩
  have hbw : Below w.heap.size w w1 := HB.out.trans (hb1.mono HB.out.size)
  obtain ⟨A1, c1, rfl, hl1, hC1⟩ := Kd.R_reads hR1
  have HC1 := Aside0.mk hC1
  have HBW := Aside0.mk hbw
  clear hb1 hR1 hl1 hC1 hbw
  have hhead : Calls Tryd.prog 34 #[.string ⟨#[103, 114, 97, 112, 104]⟩, .slice (some ⟨w1.heap.size + 1, 0, none⟩) 1 1] ((w1.alloc (.cells #[.int .i64 n, .slice A1 l.length c1] 24)).alloc (.cells #[.int .i64 n] 3)) fun e w' => e = .returned (.string (bs (headText n))) ∧ Below ((w1.alloc (.cells #[.int .i64 n, .slice A1 l.length c1] 24)).alloc (.cells #[.int .i64 n] 3)).heap.size ((w1.alloc (.cells #[.int .i64 n, .slice A1 l.length c1] 24)).alloc (.cells #[.int .i64 n] 3)) w' := by
    have hz : (w1.alloc (.cells #[.int .i64 n, .slice A1 l.length c1] 24)).heap.size = w1.heap.size + 1 := by simp
    refine line_any graphW (some ⟨w1.heap.size + 1, 0, none⟩) 1 [n] _ (by decide) (by simp) (by simp; omega) (int1_C (by rw [← hz]; exact Array.getElem?_push_size)) ?_
    exact (HL.out.below HBW.out).below (((Below.refl _ w1).alloc (Nat.le_refl _) _).alloc (by simp) _)
  have HH := Aside0.mk hhead
  clear hhead
  go_wp2_with fail
  refine HH.out.mono ?_
  rintro e w2 ⟨rfl, hb2⟩
  have hb12 : Below w1.heap.size w1 w2 := (((Below.refl _ w1).alloc (Nat.le_refl _) _).alloc (by simp) _).trans (hb2.mono (by simp; omega))
  have c0 : w2.cell? ⟨w1.heap.size, 1, none⟩ = some (.slice A1 l.length c1) := (hb2.cell (p := ⟨w1.heap.size, 1, none⟩) (by simp; omega)).trans (by simp [World.cell?_alloc_some])
  have HC2 := Aside0.mk (Kd.C_below HC1.out hb12)
  have HB2 := Aside0.mk (below_step HBW.out hb12)
  have HL2 := Aside0.mk ((HL.out.below HBW.out).below hb12)
  clear hb2 hb12
  have hh28 := lineL_len graphW [n] (by simp; omega)
  have hh28 : (headText n).length ≤ 28 := hh28
  go_wp2
  go_loopw [6, 24] (fun v6 v24 wr => ∃ k : Nat, k ≤ l.length ∧ v24 = .int .i64 k ∧ v6 = .string (bs (headText n ++ (l.take k).flatMap Edge.text)) ∧ Aside0 (Below w2.heap.size w2 wr)) (fun _ v24 _ => l.length - (intOf v24).toNat)
  case atStart => exact ⟨0, Nat.zero_le _, rfl, by simp, ⟨Below.refl _ _⟩⟩
  case round =>
    clear c0
    obtain ⟨k, hk, rfl, rfl, hB⟩ := hrel
    have htl := edgesText_len (l.take k) (fun e he => HR.out e (List.mem_of_mem_take he))
    have htl2 : (bs (headText n ++ (l.take k).flatMap Edge.text)).size ≤ 100000 := by
      rw [bs_size, List.length_append]
      rw [List.length_take, Nat.min_eq_left hk] at htl
      omega
    clear htl
    by_cases hlt : k < l.length
    · obtain ⟨ad, rfl, a0, a1, a2⟩ := KE_at (Kd.C_below HC2.out hB.out) k hlt
      have hri := HR.out l[k] (List.getElem_mem hlt)
      have hln : Calls Tryd.prog 34 #[.string ⟨#[101, 100, 103, 101]⟩, .slice (some ⟨wr.heap.size + 1, 0, none⟩) 3 3] ((wr.alloc (.cells #[.int .i64 l[k].src, .int .i64 l[k].dst, .int .i64 l[k].wt] 45)).alloc (.cells #[.int .i64 l[k].src, .int .i64 l[k].dst, .int .i64 l[k].wt] 3)) fun e w' => e = .returned (.string (bs l[k].text)) ∧ Below wr.heap.size wr w' := by
        have hz : (wr.alloc (.cells #[.int .i64 l[k].src, .int .i64 l[k].dst, .int .i64 l[k].wt] 45)).heap.size = wr.heap.size + 1 := by simp
        have hbb : Below wr.heap.size wr ((wr.alloc (.cells #[.int .i64 l[k].src, .int .i64 l[k].dst, .int .i64 l[k].wt] 45)).alloc (.cells #[.int .i64 l[k].src, .int .i64 l[k].dst, .int .i64 l[k].wt] 3)) := ((Below.refl _ wr).alloc (Nat.le_refl _) _).alloc (by simp) _
        refine (line_any edgeW (some ⟨wr.heap.size + 1, 0, none⟩) 3 [l[k].src, l[k].dst, l[k].wt] _ (by decide) (by simp) ?_ (int3_C (by rw [← hz]; exact Array.getElem?_push_size)) ((HL2.out.below hB.out).below hbb)).mono fun e w' ⟨he, hw⟩ => ⟨he, hbb.trans (hw.mono (by simp; omega))⟩
        intro x hx
        simp only [List.mem_cons, List.not_mem_nil, or_false] at hx
        rcases hx with rfl | rfl | rfl
        · exact hri.1
        · exact hri.2.1
        · exact hri.2.2
      have hel : (bs l[k].text).size ≤ 71 := edgeText_len l[k] hri
      have HLN := Aside0.mk hln
      have HAP := Lib.hid (show bs (headText n ++ (l.take k).flatMap Edge.text) ++ bs l[k].text = bs (headText n ++ (l.take (k + 1)).flatMap Edge.text) by
        rw [bs_append, List.take_succ_eq_append_getElem hlt, List.flatMap_append, List.append_assoc]
        simp)
      clear hln hri
      generalize bs l[k].text = D at HLN hel HAP
      generalize bs (headText n ++ (l.take k).flatMap Edge.text) = S at HAP htl2
      go_wp2_with (go_at_call 34; refine HLN.out.mono ?_; rintro e w' ⟨rfl, hb'⟩; have HB' := Aside0.mk (below_step hB.out hb'); clear hb')
      go_roundw
      case rel => exact ⟨k + 1, by omega, by go_num, by rw [HAP.out], HB'⟩
      case measure => simp [intOf]; omega
    · obtain rfl : k = l.length := by omega
      rw [List.take_length] at htl2 ⊢
      go_wp2
      go_ret2
      exact ⟨rfl, below_step HB2.out hB.out⟩
end Go.Proofs.YtenpmbebghlnkaaDoor
