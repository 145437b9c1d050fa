/-
  slices.ContainsFunc over edges, messages and vertices, at a predicate that may lay blocks.
-/
import Derived.Test.YtenpmbebghlnkaaDoorKBase
namespace Go.Proofs.YtenpmbebghlnkaaDoor
open Go.RowKit Go.Proofs.YtenpmbebghlnkaaDoorW.PrintWords Go.Proofs.YtenpmbebghlnkaaDoorW.PrintLast Go.Proofs.YtenpmbebghlnkaaDoorW.PrintMore
set_option linter.unusedVariables false
set_option linter.unusedSimpArgs false
attribute [local go_sem] max2_int min2_int max_two min_two max_three min_three max_four min_four
theorem any_take_succ {α : Type} (p : α → Bool) (l : List α) (k : Nat) (hk : k < l.length) (h : (l.take k).any p = false) (h2 : p l[k] = false) : (l.take (k + 1)).any p = false := by
  rw [List.take_succ_eq_append_getElem hk, List.any_append, h]
  simp [h2]
theorem any_of_at {α : Type} (p : α → Bool) (l : List α) (k : Nat) (hk : k < l.length) (h2 : p l[k] = true) : l.any p = true := List.any_eq_true.2 ⟨_, List.getElem_mem hk, h2⟩
set_option maxRecDepth 100000 in
set_option maxHeartbeats 4000000 in
theorem hasE_any (p : Edge → Bool) (g : Nat) (lb : Array Value) (eg : ∀ args w, (callFunc g args).run Tryd.prog w = .ok (.enter g args) w) (A : Option Addr) (c : Nat) (es : List Edge) (w : World) (hp : ∀ (W : World) (x : Edge), Below w.heap.size w W → Calls Tryd.prog g (#[x.v] ++ lb) W fun e w' => e = .returned (.bool (p x)) ∧ Below W.heap.size W w') (hC : KE.C w A es.length es) :
    Calls Tryd.prog 30 #[.slice A es.length c, .func (.func g) #[] lb] w fun e w' => e = .returned (.bool (es.any p)) ∧ Below w.heap.size w w' := by
  have hm : es.length ≤ 9223372036854775807 := hC.2.1
  have h : Calls Tryd.prog 43 #[.slice A es.length c, .func (.func g) #[] lb] w fun e w' => ∃ i : Int, e = .returned (.int .i64 i) ∧ decide (0 ≤ i) = es.any p ∧ Below w.heap.size w w' := by
    go_enter Tryd.func43, Tryd.ntmps43
    go_wp2
    go_loopw [5, 8] (fun _ v8 wr => ∃ k : Nat, k ≤ es.length ∧ v8 = .int .i64 k ∧ Aside0 ((es.take k).any p = false) ∧ Aside0 (Below w.heap.size w wr)) (fun _ v8 _ => es.length - (intOf v8).toNat)
    case atStart => exact ⟨0, Nat.zero_le _, rfl, ⟨rfl⟩, ⟨Below.refl _ _⟩⟩
    case round =>
      obtain ⟨k, hk, rfl, hA, hB⟩ := hrel
      by_cases hlt : k < es.length
      · obtain ⟨ad, rfl, u0, u1, u2⟩ := KE_at (Kd.C_below hC hB.out) k hlt
        have HP := Aside0.mk (hp wr es[k] hB.out)
        clear hp hC
        unfold Edge.v at HP
        by_cases hpk : p es[k] = true
        · have HK := Aside0.mk (any_of_at p es k hlt hpk)
          have HP2 : Aside0 (Calls Tryd.prog g (#[.agg #[.int .i64 es[k].src, .int .i64 es[k].dst, .int .i64 es[k].wt]] ++ lb) wr fun e w' => e = .returned (.bool true) ∧ Below wr.heap.size wr w') := ⟨HP.out.mono fun _ _ ⟨he, hb⟩ => ⟨by rw [he, hpk], hb⟩⟩
          clear HP hpk
          go_wp2_with fail
          refine HP2.out.mono ?_
          rintro e w' ⟨rfl, hb'⟩
          have HB := Aside0.mk (below_step hB.out hb')
          clear hb'
          go_wp2
          go_ret
          exact ⟨k, rfl, by rw [HK.out]; simp, HB.out⟩
        · have hpf := Bool.eq_false_iff.2 hpk
          have HK := Aside0.mk (any_take_succ p es k hlt hA.out hpf)
          have HP2 : Aside0 (Calls Tryd.prog g (#[.agg #[.int .i64 es[k].src, .int .i64 es[k].dst, .int .i64 es[k].wt]] ++ lb) wr fun e w' => e = .returned (.bool false) ∧ Below wr.heap.size wr w') := ⟨HP.out.mono fun _ _ ⟨he, hb⟩ => ⟨by rw [he, hpf], hb⟩⟩
          clear HP hpk hpf
          go_wp2_with fail
          refine HP2.out.mono ?_
          rintro e w' ⟨rfl, hb'⟩
          have HB := Aside0.mk (below_step hB.out hb')
          clear hb'
          go_wp2
          go_roundw
          case rel => exact ⟨k + 1, by omega, by go_num, HK, HB⟩
          case measure => simp [intOf]; omega
      · obtain rfl : k = es.length := by omega
        have HK := Aside0.mk (show es.any p = false by have := hA.out; rwa [List.take_length] at this)
        clear hA hp hC
        go_wp2
        go_ret
        exact ⟨-1, rfl, by rw [HK.out]; simp, hB.out⟩
  have HH := Aside0.mk h
  clear h hp hC
  go_enter Tryd.func30, Tryd.ntmps30
  go_wp2_with fail
  refine HH.out.mono ?_
  rintro e w' ⟨i, rfl, hi, hb⟩
  have Hi := Aside0.mk hi
  have HB := Aside0.mk hb
  clear hi hb
  go_wp2
  go_ret
  exact ⟨ret_bool Hi.out, HB.out⟩
end Go.Proofs.YtenpmbebghlnkaaDoor
