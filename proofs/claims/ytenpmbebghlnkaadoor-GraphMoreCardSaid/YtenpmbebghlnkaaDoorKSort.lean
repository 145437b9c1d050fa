/-
  A row that the call owns, sorted by slices.SortFunc: what it holds then.
-/
import Derived.Test.YtenpmbebghlnkaaDoorKBase
import Derived.Shelf.SlSortCmp.WholeK
namespace Go.Proofs.YtenpmbebghlnkaaDoor
open Go.RowKit Go.Proofs.YtenpmbebghlnkaaDoorW.PrintWords Go.Proofs.YtenpmbebghlnkaaDoorW.PrintLast Go.Proofs.YtenpmbebghlnkaaDoorW.PrintMore
set_option linter.unusedVariables false
set_option linter.unusedSimpArgs false
attribute [local go_sem] max2_int min2_int max_two min_two max_three min_three max_four min_four
open Go.Sort

section
variable {α : Type} [Inhabited α] {enc : α → List Value} {k : Nat} {hl : ∀ x, (enc x).length = k} {h1 : ∀ x, ∀ u ∈ enc x, u.oneCell' = true}
theorem reps_get {l : List α} {inner : List Value} (h : Reps (fun x cs => cs = enc x) k l inner) (hk : ∀ x, (enc x).length = k) (t : Nat) (ht : t < l.length * k) : inner[t]? = some ((enc (l.toArray)[t / k]!)[t % k]!) := by
  have k0 : 0 < k := by rcases Nat.eq_zero_or_pos k with h0 | h0; · subst h0; simp at ht
                        · exact h0
  have hj : t / k < l.length := (Nat.div_lt_iff_lt_mul k0).2 ht
  have hm : t % k < k := Nat.mod_lt _ k0
  have he := h.2 (t / k) l[t / k] (List.getElem?_eq_getElem hj)
  have hd : t = t / k * k + t % k := by rw [Nat.mul_comm]; exact (Nat.div_add_mod t k).symm
  have hx : ((inner.drop (t / k * k)).take k)[t % k]? = inner[t]? := by
    rw [List.getElem?_take, if_pos hm, List.getElem?_drop, ← hd]
  rw [← hx, he]
  have hg : (l.toArray)[t / k]! = l[t / k] := by simp [hj]
  rw [hg, List.getElem?_eq_getElem (by rw [hk]; exact hm)]
  simp [hk, hm]
/-- What the call owns, in the sort's words. -/
theorem holdsK_of_R {e base g n cap : Nat} {ok : Nat → Prop} {w : World} {l : List α} (h : (flat enc k hl h1).R e w base ok (.slice (some ⟨g, 0, none⟩) n cap) l) : HoldsK enc k w g 0 l.toArray ∧ g < w.heap.size := by
  obtain ⟨_, inner, ho, hr⟩ := h
  have hlt := own_lt ho g rfl
  refine ⟨?_, hlt⟩
  have hr' : Reps (fun x cs => cs = enc x) k l inner := hr
  rcases ho.2 with ⟨h0, _⟩ | ⟨g', cap', cur, hv, hb, hh, hn, hc, hs, ht⟩
  · cases h0
  · injection hv with hv1 hv2 hv3
    injection hv1 with hv1
    injection hv1 with hv1
    subst hv1
    intro t htt
    have htt' : t < l.length * k := by simpa using htt
    have hsz : (flat enc k hl h1).sz = k := rfl
    rw [hsz] at ht hs
    have hcell : w.cell? ⟨g, t, none⟩ = cur[t]? := cell_of_row w g t cur e (0, 0) hh
    refine ⟨?_, ?_⟩
    · rw [Nat.zero_add, hcell, get_flatK enc k _ t (by simpa using htt')]
      have e1 := reps_get hr' hl t htt'
      show cur[t]? = some ((enc (l.toArray)[t / k]!)[t % k]!)
      rw [← e1, ← ht, List.getElem?_take, if_pos htt', Array.getElem?_toList]
    · simp [World.frozen?, hh]
/-- The row behind the sort. -/
theorem R_of_sorted {e base g n cap : Nat} {ok : Nat → Prop} {w : World} {l l' : List α} (h : (flat enc k hl h1).R e w base ok (.slice (some ⟨g, 0, none⟩) n cap) l) (hlen : l'.length = l.length) (m : Nat) (os : Array Obj) :
    (flat enc k hl h1).R e (sortWorldK enc k w g 0 m l'.toArray os) base ok (.slice (some ⟨g, 0, none⟩) n cap) l' := by
  obtain ⟨h0, inner, ho, hr⟩ := h
  have hlt := own_lt ho g rfl
  rcases ho.2 with ⟨h9, _⟩ | ⟨g', cap', cur, hv, hb, hh, hn, hc, hs, ht⟩
  · cases h9
  · injection hv with hv1 hv2 hv3
    injection hv1 with hv1
    injection hv1 with hv1
    subst hv1
    subst hv2
    subst hv3
    have hsz : (flat enc k hl h1).sz = k := rfl
    rw [hsz] at ht hs
    have hheap : (sortWorldK enc k w g 0 m l'.toArray os).heap[g]? = some (.cells (putCells id 0 (flatK enc k l'.toArray) cur) e (0, 0)) := by
      unfold sortWorldK
      rw [heap_grow_old _ _ (by simp [putRowK, putRow, mapBlock]; exact hlt)]
      simp only [putRowK, putRow, mapBlock, Array.getElem?_modify, if_true]
      show Option.map _ w.heap[g]? = _
      rw [hh]
      rfl
    have hsz' : (putCells id 0 (flatK enc k l'.toArray) cur).size = cur.size := by simp [putCells]
    have hL : (putCells id 0 (flatK enc k l'.toArray) cur).toList.length = cur.size := Array.length_toList.trans hsz'
    have hkk : l.length * k ≤ cur.size := by rw [hs]; exact Nat.mul_le_mul_right _ hn
    refine ⟨h0, (putCells id 0 (flatK enc k l'.toArray) cur).toList.take (l.length * k), ⟨?_, .inr ⟨g, cap, _, by rw [hlen], hb, hheap, by omega, hc, by rw [hsz', hs]; rfl, by rw [hlen]; rfl⟩⟩, ?_⟩
    · rw [List.length_take, hL, hlen]
      show min (l.length * k) cur.size = l.length * k
      omega
    · show Reps (fun x cs => cs = enc x) k l' _
      refine ⟨by rw [List.length_take, hL, hlen]; omega, fun j p hj => ?_⟩
      have hjl : j < l'.length := (List.getElem?_eq_some_iff.1 hj).1
      have hjk : j * k + k ≤ l.length * k := by rw [← Nat.succ_mul]; exact Nat.mul_le_mul_right _ (by omega)
      apply List.ext_getElem?
      intro i
      by_cases hi : i < k
      · rw [List.getElem?_take, if_pos hi, List.getElem?_drop, List.getElem?_take, if_pos (by omega), Array.getElem?_toList]
        have hF : j * k + i < l'.toArray.size * k := by simp only [List.size_toArray]; rw [hlen]; omega
        have k0 : 0 < k := by omega
        have hdiv : (j * k + i) / k = j := by rw [Nat.mul_comm, Nat.mul_add_div k0, Nat.div_eq_of_lt hi, Nat.add_zero]
        have hmod : (j * k + i) % k = i := by rw [Nat.mul_comm, Nat.mul_add_mod, Nat.mod_eq_of_lt hi]
        simp only [putCells, Array.getElem?_mapIdx]
        rw [Array.getElem?_eq_getElem (by omega : j * k + i < cur.size), Option.map_some, if_pos ⟨Nat.zero_le _, by rw [size_flatK]; omega⟩, Nat.sub_zero, get_flatK _ _ _ _ hF, hdiv, hmod]
        have hp : l'.toArray[j]! = p := by
          have : l'[j]? = some p := hj
          simp [this]
        rw [hp, List.getElem?_eq_getElem (by rw [hl]; exact hi)]
        simp [hl, hi]
      · rw [List.getElem?_eq_none (by rw [List.length_take]; omega), List.getElem?_eq_none (by rw [hl]; omega)]
theorem sortWorldK_below {base g : Nat} {w0 w : World} (h : Below base w0 w) (hb : base ≤ g) (hs : base ≤ w.heap.size) (m : Nat) (d : Array α) (os : Array Obj) : Below base w0 (sortWorldK enc k w g 0 m d os) := by
  have hsz : (putRowK enc k (Sort.ahead w m) g 0 d).heap.size = w.heap.size := by simp [putRowK, putRow, mapBlock, Sort.ahead]
  refine h.trans ⟨rfl, rfl, rfl, ?_, fun i hi => ?_⟩
  · unfold sortWorldK; rw [size_grow, hsz]; omega
  · unfold sortWorldK
    rw [heap_grow_old _ _ (by rw [hsz]; omega)]
    simp only [putRowK, putRow, mapBlock, Array.getElem?_modify]
    rw [if_neg (by omega)]
    rfl
end
end Go.Proofs.YtenpmbebghlnkaaDoor
