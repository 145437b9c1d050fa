/-
  Plain law: the reference's order of a graph's edges, vertex by vertex, is the sorted one, of a graph that may be.
-/
import Derived.Test.YtenpmbebghlnkaaDoorKGraphB
namespace Go.Proofs.YtenpmbebghlnkaaDoor
def at2 (es : List Edge) (v w : Nat) : List Edge := es.filter fun e => e.src == (v : Int) && e.dst == (w : Int)
def at1 (es : List Edge) (v m : Nat) : List Edge := (List.range m).flatMap (at2 es v)
def refNorm (es : List Edge) (n m : Nat) : List Edge := (List.range n).flatMap fun v => at1 es v m
theorem mem_at2 (es : List Edge) (v w : Nat) (e : Edge) : e ∈ at2 es v w ↔ e ∈ es ∧ e.src = v ∧ e.dst = w := by
  unfold at2
  rw [List.mem_filter]
  simp
theorem mem_at1 (es : List Edge) (v m : Nat) (e : Edge) : e ∈ at1 es v m ↔ e ∈ es ∧ e.src = v ∧ ∃ w, w < m ∧ e.dst = (w : Int) := by
  unfold at1
  rw [List.mem_flatMap]
  constructor
  · rintro ⟨w, hw, h⟩
    obtain ⟨h1, h2, h3⟩ := (mem_at2 es v w e).1 h
    exact ⟨h1, h2, w, List.mem_range.1 hw, h3⟩
  · rintro ⟨h1, h2, w, hw, h3⟩
    exact ⟨w, List.mem_range.2 hw, (mem_at2 es v w e).2 ⟨h1, h2, h3⟩⟩
theorem mem_refNorm (es : List Edge) (n m : Nat) (e : Edge) : e ∈ refNorm es n m ↔ e ∈ es ∧ (∃ v, v < n ∧ e.src = (v : Int)) ∧ ∃ w, w < m ∧ e.dst = (w : Int) := by
  unfold refNorm
  rw [List.mem_flatMap]
  constructor
  · rintro ⟨v, hv, h⟩
    obtain ⟨h1, h2, h3⟩ := (mem_at1 es v m e).1 h
    exact ⟨h1, ⟨v, List.mem_range.1 hv, h2⟩, h3⟩
  · rintro ⟨h1, ⟨v, hv, h2⟩, h3⟩
    exact ⟨v, List.mem_range.2 hv, (mem_at1 es v m e).2 ⟨h1, h2, h3⟩⟩
/-- Apart, and in order: both at once. -/
def Ahead (a b : Edge) : Prop := a.src < b.src ∨ a.src = b.src ∧ a.dst < b.dst
theorem refNorm_pairwise (es : List Edge) (n m : Nat) (hn : (es.map key).Nodup) : (refNorm es n m).Pairwise Ahead := by
  unfold refNorm
  rw [List.pairwise_flatMap]
  refine ⟨fun v _ => ?_, List.pairwise_lt_range.imp fun {a b} hab x hx y hy => ?_⟩
  · unfold at1
    rw [List.pairwise_flatMap]
    refine ⟨fun w _ => ?_, List.pairwise_lt_range.imp fun {a b} hab x hx y hy => ?_⟩
    · have h1 : (at2 es v w).Pairwise fun a b => key a ≠ key b := by
        have : es.Pairwise fun a b => key a ≠ key b := List.pairwise_map.1 hn
        exact this.sublist List.filter_sublist
      refine List.Pairwise.imp_of_mem ?_ h1
      intro a b ha hb hab
      obtain ⟨_, h2, h3⟩ := (mem_at2 es v w a).1 ha
      obtain ⟨_, h4, h5⟩ := (mem_at2 es v w b).1 hb
      exact absurd (by unfold key; rw [h2, h3, h4, h5]) hab
    · obtain ⟨_, h2, h3⟩ := (mem_at2 es v a x).1 hx
      obtain ⟨_, h4, h5⟩ := (mem_at2 es v b y).1 hy
      exact .inr ⟨by omega, by omega⟩
  · obtain ⟨_, h2, _⟩ := (mem_at1 es a m x).1 hx
    obtain ⟨_, h4, _⟩ := (mem_at1 es b m y).1 hy
    exact .inl (by omega)
theorem refNorm_eq (n : Int) (es : List Edge) (h : Graph.check ⟨n, es⟩ = 0) : refNorm es n.toNat n.toNat = norm es := by
  obtain ⟨h1, h2, _, h4, h5⟩ := check_zero h
  have hp := refNorm_pairwise es n.toNat n.toNat h5
  refine sorted_norm ⟨?_, hp.imp fun {a b} hab => ?_⟩ h5
  · refine (List.perm_ext_iff_of_nodup ?_ ?_).2 fun e => ?_
    · exact hp.imp fun {a b} hab e => by subst e; rcases hab with h | h <;> omega
    · exact (List.pairwise_map.1 h5).imp fun {a b} hab e => hab (by rw [e])
    · rw [mem_refNorm]
      constructor
      · exact fun h => h.1
      · intro he
        have this : 0 ≤ e.src ∧ e.src < n ∧ 0 ≤ e.dst ∧ e.dst < n ∧ 0 ≤ e.wt ∧ e.wt ≤ 1048576 := h4 e he
        exact ⟨he, ⟨e.src.toNat, by omega, by omega⟩, e.dst.toNat, by omega, by omega⟩
  · unfold Ahead at hab
    simp only [ltE, decide_eq_false_iff_not]
    omega
end Go.Proofs.YtenpmbebghlnkaaDoor
