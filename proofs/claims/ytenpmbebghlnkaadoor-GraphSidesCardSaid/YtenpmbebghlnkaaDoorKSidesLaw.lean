/-
  The rows of a normal graph: rising, and as many as there are edges.
-/
import Derived.Test.YtenpmbebghlnkaaDoorKChecks
namespace Go.Proofs.YtenpmbebghlnkaaDoor
open Go.RowKit Go.Proofs.YtenpmbebghlnkaaDoorW.PrintWords Go.Proofs.YtenpmbebghlnkaaDoorW.PrintLast Go.Proofs.YtenpmbebghlnkaaDoorW.PrintMore
set_option linter.unusedVariables false
set_option linter.unusedSimpArgs false
attribute [local go_sem] max2_int min2_int max_two min_two max_three min_three max_four min_four
theorem norm_rise {n : Int} {es : List Edge} (hc : Graph.check ⟨n, es⟩ = 0) : (norm es).Pairwise (fun a b => a.src < b.src ∨ (a.src = b.src ∧ a.dst < b.dst)) := by
  have h1 := (norm_sorted es).2
  have h2 : ((norm es).map key).Nodup := ((norm_sorted es).1.map key).nodup_iff.2 (check_zero hc).2.2.2.2
  have h3 : (norm es).Pairwise (fun a b => key a ≠ key b) := List.pairwise_map.1 h2
  refine (h1.and h3).imp ?_
  rintro a b ⟨h, hk⟩
  have hk' : ¬ (a.src = b.src ∧ a.dst = b.dst) := fun e => hk (by unfold key; rw [e.1, e.2])
  simp [ltE] at h
  omega
theorem out_rise {n : Int} {es : List Edge} (hc : Graph.check ⟨n, es⟩ = 0) (v : Int) : (∀ i, (h : i < ((norm es).filter (fun x => x.src == v)).length) → ((norm es).filter (fun x => x.src == v))[i].src = v) ∧ (∀ i, (h : i + 1 < ((norm es).filter (fun x => x.src == v)).length) → ((norm es).filter (fun x => x.src == v))[i].dst < ((norm es).filter (fun x => x.src == v))[i + 1].dst) := by
  have hm : ∀ x ∈ (norm es).filter (fun x => x.src == v), x.src = v := fun x hx => by simpa using (List.mem_filter.1 hx).2
  refine ⟨fun i h => hm _ (List.getElem_mem h), fun i h => ?_⟩
  have h1 := List.pairwise_iff_getElem.1 ((norm_rise hc).filter (fun x => x.src == v)) i (i + 1) (by omega) h (by omega)
  have e1 := hm _ (List.getElem_mem (show i < _ by omega))
  have e2 := hm _ (List.getElem_mem h)
  omega
theorem in_rise {n : Int} {es : List Edge} (hc : Graph.check ⟨n, es⟩ = 0) (v : Int) : (∀ i, (h : i < ((norm es).filter (fun x => x.dst == v)).length) → ((norm es).filter (fun x => x.dst == v))[i].dst = v) ∧ (∀ i, (h : i + 1 < ((norm es).filter (fun x => x.dst == v)).length) → ((norm es).filter (fun x => x.dst == v))[i].src < ((norm es).filter (fun x => x.dst == v))[i + 1].src) := by
  have hm : ∀ x ∈ (norm es).filter (fun x => x.dst == v), x.dst = v := fun x hx => by simpa using (List.mem_filter.1 hx).2
  refine ⟨fun i h => hm _ (List.getElem_mem h), fun i h => ?_⟩
  have h1 := List.pairwise_iff_getElem.1 ((norm_rise hc).filter (fun x => x.dst == v)) i (i + 1) (by omega) h (by omega)
  have e1 := hm _ (List.getElem_mem (show i < _ by omega))
  have e2 := hm _ (List.getElem_mem h)
  omega
def cntS (l : List Edge) (v : Nat) : Nat := l.countP (fun x => decide (x.src < (v : Int)))
def cntD (l : List Edge) (v : Nat) : Nat := l.countP (fun x => decide (x.dst < (v : Int)))
theorem cnt_step (f : Edge → Int) (l : List Edge) (v : Nat) : l.countP (fun x => decide (f x < ((v + 1 : Nat) : Int))) = l.countP (fun x => decide (f x < (v : Int))) + (l.filter (fun x => f x == (v : Int))).length := by
  induction l with
  | nil => rfl
  | cons x l ih =>
    rw [List.countP_cons, List.countP_cons, List.filter_cons, ih]
    rcases Int.lt_trichotomy (f x) (v : Int) with h | h | h
    · have h1 : f x < ((v + 1 : Nat) : Int) := by omega
      have h2 : (f x == (v : Int)) = false := by rw [beq_eq_false_iff_ne]; omega
      rw [if_pos (decide_eq_true h1), if_pos (decide_eq_true h), h2]
      simp
      omega
    · have h1 : f x < ((v + 1 : Nat) : Int) := by omega
      have h2 : (f x == (v : Int)) = true := by rw [beq_iff_eq]; exact h
      have h3 : ¬ decide (f x < (v : Int)) = true := by rw [decide_eq_true_eq]; omega
      rw [if_pos (decide_eq_true h1), if_neg h3, h2]
      simp
      omega
    · have h1 : ¬ decide (f x < ((v + 1 : Nat) : Int)) = true := by rw [decide_eq_true_eq]; omega
      have h2 : (f x == (v : Int)) = false := by rw [beq_eq_false_iff_ne]; omega
      have h3 : ¬ decide (f x < (v : Int)) = true := by rw [decide_eq_true_eq]; omega
      rw [if_neg h1, if_neg h3, h2]
      simp
theorem cntS_succ (l : List Edge) (v : Nat) : cntS l (v + 1) = cntS l v + (l.filter (fun x => x.src == (v : Int))).length := cnt_step Edge.src l v
theorem cntD_succ (l : List Edge) (v : Nat) : cntD l (v + 1) = cntD l v + (l.filter (fun x => x.dst == (v : Int))).length := cnt_step Edge.dst l v
theorem cntS_le (l : List Edge) (v : Nat) : cntS l v ≤ l.length := List.countP_le_length
theorem cntD_le (l : List Edge) (v : Nat) : cntD l v ≤ l.length := List.countP_le_length
theorem norm_mem {m : Nat} {es : List Edge} (hc : Graph.check ⟨(m : Int), es⟩ = 0) (x : Edge) (hx : x ∈ norm es) : 0 ≤ x.src ∧ x.src < (m : Int) ∧ 0 ≤ x.dst ∧ x.dst < (m : Int) := by
  have h : 0 ≤ x.src ∧ x.src < (m : Int) ∧ 0 ≤ x.dst ∧ x.dst < (m : Int) ∧ 0 ≤ x.wt ∧ x.wt ≤ 1048576 := (check_zero hc).2.2.2.1 x ((norm_sorted es).1.mem_iff.1 hx)
  exact ⟨h.1, h.2.1, h.2.2.1, h.2.2.2.1⟩
theorem norm_len (es : List Edge) : (norm es).length = es.length := (norm_sorted es).1.length_eq
theorem cntS_zero {m : Nat} {es : List Edge} (hc : Graph.check ⟨(m : Int), es⟩ = 0) : cntS (norm es) 0 = 0 := List.countP_eq_zero.2 fun x hx => by have := norm_mem hc x hx; simp; omega
theorem cntD_zero {m : Nat} {es : List Edge} (hc : Graph.check ⟨(m : Int), es⟩ = 0) : cntD (norm es) 0 = 0 := List.countP_eq_zero.2 fun x hx => by have := norm_mem hc x hx; simp; omega
theorem cntS_all {m : Nat} {es : List Edge} (hc : Graph.check ⟨(m : Int), es⟩ = 0) : cntS (norm es) m = es.length := by
  rw [← norm_len es]
  exact List.countP_eq_length.2 fun x hx => by have := norm_mem hc x hx; simp; omega
theorem cntD_all {m : Nat} {es : List Edge} (hc : Graph.check ⟨(m : Int), es⟩ = 0) : cntD (norm es) m = es.length := by
  rw [← norm_len es]
  exact List.countP_eq_length.2 fun x hx => by have := norm_mem hc x hx; simp; omega
theorem out_none {m : Nat} {es : List Edge} (hc : Graph.check ⟨(m : Int), es⟩ = 0) : (norm es).filter (fun x => x.src == (m : Int)) = [] := by
  rw [List.filter_eq_nil_iff]
  intro x hx
  have := norm_mem hc x hx
  simp
  omega
end Go.Proofs.YtenpmbebghlnkaaDoor
