/-
  slices.SortedFunc(slices.Values(l), cmp) over edges: the library's iterator, its collecting loop, and the sort.
-/
import Derived.Test.YtenpmbebghlnkaaDoorKBase
import Derived.RangeFuncNested
import Derived.RangeFuncBound
import Derived.RangeFuncCalls
import Derived.RangeFuncLeaves
import Derived.RangeFuncBox
import Derived.Maps.AppendAt
import Derived.Shelf.Abstract
import Derived.Shelf.RegionOpen
import Derived.OwnWalkIn
import Derived.TacticsInMore
import Derived.LoopNIn
import Derived.LoopIn
namespace Go.Proofs.YtenpmbebghlnkaaDoor
open Go.RowKit Go.Proofs.YtenpmbebghlnkaaDoorW.PrintWords Go.Proofs.YtenpmbebghlnkaaDoorW.PrintLast Go.Proofs.YtenpmbebghlnkaaDoorW.PrintMore
set_option linter.unusedVariables false
set_option linter.unusedSimpArgs false
attribute [local go_sem] max2_int min2_int max_two min_two max_three min_three max_four min_four
attribute [local go_sem] Oper.semAt_some

theorem add_block (ad : Addr) (j : Nat) : (ad.add j).block = ad.block := by unfold Addr.add; split <;> rfl
set_option maxRecDepth 100000 in
set_option maxHeartbeats 4000000 in
/-- slices.Values's closure over a slice of edges. -/
theorem valuesE1_in (F : Fence) (n : Nat) (h7 : F.fn 42) (hro : F.round = none) (hn : 1 ≤ n) (l Bs n₀ : Nat) (A : Option Addr) (c : Nat) (es : List Edge) (hlen : es.length ≤ 4611686018427387904)
    (hA : ∀ ad, A = some ad → 0 < es.length → ad.block < n₀) (J Jx : List Edge → World → Prop) (W : World) (hJa : ∀ pre W1 o, J pre W1 → J pre (W1.alloc o))
    (hY : ∀ pre x W, J pre W → pre.length < es.length → YieldAt F (n - 1) Tryd.prog l #[Edge.v x] W fun e W' =>
      (e = .returned (.bool true) ∧ J (pre ++ [x]) W' ∧ Below n₀ W W') ∨ (e = .returned (.bool false) ∧ Jx (pre ++ [x]) W'))
    (hBs : W.cell? ⟨Bs, 0, none⟩ = some (.slice A es.length c)) (hC : KE.C W A es.length es) (hn0 : n₀ ≤ W.heap.size) (h0 : J [] W) :
    CallsIn F n Tryd.prog 42 #[.func (.yield l) #[] #[], .pointer (some ⟨Bs, 0, none⟩)] W fun e W' => (∃ v, e = .returned v) ∧
      ((∃ ys, ys = es ∧ J ys W') ∨ (∃ pre, pre <+: es ∧ Jx pre W')) := by
  refine callsIn_of_wp Tryd.func42 rfl h7 ?_ hro
  simp only [Tryd.ntmps42, List.size_toArray, List.length_cons, List.length_nil, Nat.reduceAdd, Nat.reduceSub, Array.replicate_succ, Array.replicate_zero, List.push_toArray, List.append_toArray, List.nil_append, List.cons_append]
  gi_wp2
  gi_loopw [4, 7] (fun v4 v7 wr => ∃ k : Nat, k ≤ es.length ∧ v7 = .int .i64 k ∧ Aside0 (J (es.take k) wr) ∧ Aside0 (Below n₀ W wr))
    (fun _ v7 _ => es.length - (intOf v7).toNat)
  case atStart => exact ⟨0, Nat.zero_le _, rfl, ⟨h0⟩, ⟨Below.refl _ _⟩⟩
  case round =>
    obtain ⟨k, hk, rfl, hJs, hnx⟩ := hrel
    have hsz : n₀ ≤ wr.heap.size := Nat.le_trans hn0 hnx.out.size
    by_cases hlt : k < es.length
    · obtain ⟨ad, rfl, u0, u1, u2⟩ := KE_at hC k hlt
      have hb : ad.block < n₀ := hA ad rfl (by omega)
      have r0 : wr.cell? (ad.add (k * 3)) = some (.int .i64 es[k].src) := (hnx.out.cell (by rw [add_block]; exact hb)).trans u0
      have r1 : wr.cell? ⟨(ad.add (k * 3)).block, (ad.add (k * 3)).off + 1, none⟩ = some (.int .i64 es[k].dst) := (hnx.out.cell (p := ⟨(ad.add (k * 3)).block, _, none⟩) (by rw [add_block]; exact hb)).trans u1
      have r2 : wr.cell? ⟨(ad.add (k * 3)).block, (ad.add (k * 3)).off + 2, none⟩ = some (.int .i64 es[k].wt) := (hnx.out.cell (p := ⟨(ad.add (k * 3)).block, _, none⟩) (by rw [add_block]; exact hb)).trans u2
      clear u0 u1 u2 hC hBs
      obtain ⟨fn, tmps, assign, body, hy, hR⟩ := hY (es.take k) es[k] (wr.alloc (.cells #[.int .i64 es[k].src, .int .i64 es[k].dst, .int .i64 es[k].wt] 45)) (hJa _ _ _ hJs.out) (by rw [List.length_take]; omega)
      unfold Edge.v at hy
      gi_wp2
      refine hR.mono ?_
      rintro e W3 (⟨rfl, hJ3, hk3⟩ | ⟨rfl, hJx3⟩)
      · have HJ3 := Aside0.mk hJ3
        have HK3 := Aside0.mk (hnx.out.trans (((Below.refl n₀ wr).alloc hsz _).trans hk3))
        clear hJ3 hk3 r0 r1 r2
        gi_wp2
        go_roundw
        case rel => exact ⟨k + 1, by omega, by go_num, ⟨by rw [List.take_succ_eq_append_getElem hlt]; exact HJ3.out⟩, HK3⟩
        case measure => simp [intOf]; omega
      · have HJ3 := Aside0.mk hJx3
        clear hJx3 r0 r1 r2
        gi_wp2
        refine bodyPost_ret (results_none rfl _ _ _) rfl ?_
        exact ⟨⟨_, rfl⟩, .inr ⟨es.take k ++ [es[k]], by rw [← List.take_succ_eq_append_getElem hlt]; exact List.take_prefix _ _, HJ3.out⟩⟩
    · obtain rfl : k = es.length := by omega
      have HJ := Aside0.mk (show J es wr by have := hJs.out; rwa [List.take_length] at this)
      clear hJs
      gi_wp2
      go_end0
      exact ⟨⟨_, rfl⟩, .inl ⟨_, rfl, HJ.out⟩⟩
set_option maxRecDepth 100000 in
set_option maxHeartbeats 4000000 in
theorem valuesE_in (F : Fence) (n : Nat) (h5 : F.fn 27) (hro : F.round = none) (a : Option Addr) (len cap : Nat) (w : World) :
    CallsIn F n Tryd.prog 27 #[.slice a len cap] w fun e w' => e = .returned (.func (.func 42) #[] #[.pointer (some ⟨w.heap.size, 0, none⟩)]) ∧ w' = w.alloc (.cells #[.slice a len cap] 22) := by
  refine callsIn_of_wp Tryd.func27 rfl h5 ?_ hro
  simp only [Tryd.ntmps27, List.size_toArray, List.length_cons, List.length_nil, Nat.reduceAdd, Nat.reduceSub, Array.replicate_succ, Array.replicate_zero, List.push_toArray, List.append_toArray, List.nil_append, List.cons_append]
  gi_wp2
  go_ret
  exact ⟨rfl, rfl⟩
theorem C_block {α : Type} {d : Kd α} {w : World} {A : Option Addr} {n : Nat} {l : List α} (h : d.C w A n l) (hs : 0 < d.sz) (ad : Addr) (hA : A = some ad) (hl : 0 < l.length) : ad.block < w.heap.size := by
  obtain ⟨ad', c, e, hK, hu⟩ := C_at h 0 hl
  rw [hA] at e
  injection e with e
  subst e
  have hlen := d.K_len hK
  obtain ⟨u, hu0⟩ : ∃ u, c[0]? = some u := ⟨_, List.getElem?_eq_getElem (by omega)⟩
  have := World.block_lt_of_cell? w _ (hu 0 u hu0)
  rwa [add_block] at this
theorem valuesE_stops (F : Fence) (n : Nat) (h7 : F.fn 42) (hro : F.round = none) (hn : 1 ≤ n) (Bs n₀ : Nat) (A : Option Addr) (c : Nat) (es : List Edge) (hlen : es.length ≤ 4611686018427387904) (w : World) (hBs : Bs < w.heap.size) (hn₀ : n₀ ≤ w.heap.size)
    (hc : w.cell? ⟨Bs, 0, none⟩ = some (.slice A es.length c)) (hC : KE.C w A es.length es) (hA : ∀ ad, A = some ad → 0 < es.length → ad.block < n₀) :
    SeqStopsK F n Tryd.prog 42 #[.pointer (some ⟨Bs, 0, none⟩)] (fun x : Edge => #[Edge.v x]) (Below n₀) (fun ys => ys = es) (fun pre => pre <+: es) es.length w := fun l J Jx W hW hJ _ hY h0 =>
  valuesE1_in F n h7 hro hn l Bs n₀ A c es hlen hA J Jx W (fun pre W1 o h => hJ pre W1 _ none h (World.grownBy_alloc W1 o none) (fun r e => by cases e)) hY ((hW.cell (p := ⟨Bs, 0, none⟩) hBs).trans hc) (Kd.C_below hC hW) (Nat.le_trans hn₀ hW.size) h0

/-- What the collecting loop holds: its variable, and what has come. -/
def Coll (w : World) (pre : List Edge) (W : World) : Prop := (∃ v, Boxed W w.heap.size 22 v ∧ KE.R 45 W w.heap.size (fun _ => True) v pre) ∧ Below w.heap.size w W
theorem R_own {α : Type} {d : Kd α} {e base : Nat} {ok : Nat → Prop} {W W' : World} {v : Value} {xs : List α} {row : Option Nat} (h : d.R e W base ok v xs) (hg : W.grownBy W' row) (hr : ∀ r, row = some r → ∃ o : Obj, W.heap[r]? = some o ∧ o.isCells = false) : d.R e W' base ok v xs := by
  refine Kd.R_mono (Kd.R_grown (Kd.R_bound h) hg ?_) (fun _ hk => hk.1)
  rintro k ⟨_, _, _, q, _, cells, hc⟩ e
  obtain ⟨o, ho, hn⟩ := hr k e.symm
  rw [hc] at ho
  cases ho
  simp [Obj.isCells] at hn
theorem coll_own (w : World) (B : Nat) (hB : w.heap.size < B) : OwnFrom B (Coll w) := by
  rintro pre W W' row ⟨⟨v, hv, hR⟩, hb⟩ hg hr
  refine ⟨⟨v, hv.kept hg (fun e => ?_), R_own hR hg (fun r e => (hr r e).2)⟩, hb.grown hg hb.size (fun k e => by have := (hr k e).1; omega)⟩
  have := (hr _ e.symm).1
  omega
theorem flat_snoc {α : Type} {enc : α → List Value} {k : Nat} {hl : ∀ x, (enc x).length = k} {h1 : ∀ x, ∀ u ∈ enc x, u.oneCell' = true} {e base : Nat} {w w' : World} {ok : Nat → Prop} {v' : Value} {xs : List α} {x : α} {inner : List Value}
    (hr : Reps ((flat enc k hl h1).M w base ok) k xs inner) (ho : w'.ownsRow base e k v' (xs.length + 1) (inner ++ enc x)) : (flat enc k hl h1).R e w' base (fun _ => True) v' (xs ++ [x]) := by
  have hr' : Reps (fun x cs => cs = enc x) k xs inner := hr
  refine ⟨fun _ _ => trivial, inner ++ enc x, by rw [List.length_append]; exact ho, ?_⟩
  exact Reps.snoc hr' rfl (hl x)
theorem cells_new (w : World) (xs : List Value) (t : TypeId) : ∀ j u, xs[j]? = some u → (w.alloc (.cells xs.toArray t)).cell? ((⟨w.heap.size, 0, none⟩ : Addr).add j) = some u := by
  intro j u hj
  rw [add_plain]
  have := cell_of_row (w.alloc (.cells xs.toArray t)) w.heap.size j xs.toArray t (0, 0) (World.alloc_heap_new w _)
  rw [this]
  simpa using hj
set_option maxRecDepth 100000 in
set_option maxHeartbeats 4000000 in
theorem appendSeqE_in (F : Fence) (n : Nat) (h11 : F.fn 49) (hro : F.round = none) (hn : 2 ≤ n) (g : Nat) (lb : Array Value) (hFg : F.fn g) (eg : ∀ args w, (callFunc g args).run Tryd.prog w = .ok (.enter g args) w)
    (es : List Edge) (hlen : es.length * 24 ≤ 140737488355328) (w : World) (n₀ : Nat) (hn₀ : n₀ ≤ w.heap.size) (hseq : SeqStopsK F (n - 1) Tryd.prog g lb (fun x : Edge => #[Edge.v x]) (Below n₀) (fun ys => ys = es) (fun pre => pre <+: es) es.length w) :
    CallsIn F n Tryd.prog 49 #[.slice none 0 0, .func (.func g) #[] lb] w fun e w' => ∃ v : Value, e = .returned v ∧ KE.R 45 w' w.heap.size (fun _ => True) v es ∧ Below w.heap.size w w' := by
  have h1 : 1 ≤ n := by omega
  refine callsIn_of_wp_marks Tryd.func49 rfl h11 ?_ hro
  simp only [Tryd.ntmps49, List.size_toArray, List.length_cons, List.length_nil, Nat.reduceAdd, Nat.reduceSub, Array.replicate_succ, Array.replicate_zero, List.push_toArray, List.append_toArray, List.nil_append, List.cons_append]
  gi_wp2
  have hB0 : Below w.heap.size w (w.alloc (.cells #[.slice none 0 0] 22)) := (Below.refl _ w).alloc (Nat.le_refl _) _
  have bS := Boxed.new w 22 (.slice none 0 0)
  have hsz : (w.alloc (.cells #[.slice none 0 0] 22)).heap.size = w.heap.size + 1 := by simp
  obtain ⟨W0, hW0⟩ : ∃ W0, w.alloc (.cells #[.slice none 0 0] 22) = W0 := ⟨_, rfl⟩
  rw [hW0] at hB0 bS hsz ⊢
  clear hW0
  refine wpIn_rangeFunc_ownH hro h1 (gf := g) (lb := lb) rfl hFg eg hseq Below.trans (fun W l o o' hl ho hc hw => ?_) hB0 (fun _ => rfl) (Coll w) (fun _ _ _ => False) (coll_own w _ (by omega)) (fun c s A B row h => h.elim) ⟨⟨_, bS, Kd.R_nil _ _ _ _ _⟩, hB0⟩
    (fun x a' W => ∃ Bx, W0.heap.size ≤ Bx ∧ W.heap[Bx]? = some (.cells #[.int .i64 x.src, .int .i64 x.dst, .int .i64 x.wt] 45 (0, 0)) ∧ ∃ t7, a' = { tmps := #[.slice none 0 0, .func (.func g) #[] lb, .pointer (some ⟨w.heap.size, 0, none⟩), undef, .slice none 0 0, .pointer (some ⟨Bx, 0, none⟩), .func (.func g) #[] lb, t7, undef, undef, undef, undef, undef], defers := [] }) ?_ ?_ ?_ ?_ ?_
  · have hlt := (Array.getElem?_eq_some_iff.1 ho).1
    exact (Below.refl n₀ W).grown (grownBy_putObj' W l o') (by omega) (fun k e => by cases e; omega)
  · rintro x a' s A B row ⟨Bx, hBx, hb, t7, rfl⟩ hg hr
    refine ⟨Bx, hBx, (hg.block Bx (Array.getElem?_eq_some_iff.1 hb).1 (fun e => ?_)).trans hb, t7, rfl⟩
    obtain ⟨_, o, ho, hn⟩ := hr Bx e.symm
    rw [hb] at ho
    cases ho
    simp [Obj.isCells] at hn
  · rintro l pre x W K hI hK
    have hWs : W0.heap.size ≤ W.heap.size := by obtain ⟨⟨v, hv, _⟩, _⟩ := hI; have := hv.lt; omega
    have HI := Aside0.mk hI
    clear hI
    unfold Edge.v
    gi_wp2
    refine hK _ _ ((KeepsOthers.alloc _ _).from _) ((Below.refl n₀ W).alloc (by omega) _) ((coll_own w W0.heap.size (by omega)).alloc _ HI.out) ⟨W.heap.size, hWs, World.alloc_heap_new W _, _, rfl⟩
  · rintro l pre x a' W hl ⟨r, hr⟩ ⟨⟨v, hv, hR⟩, hbW⟩ ⟨Bx, hBx, hb, t7, rfl⟩ hpl
    have HR := Aside0.mk hR
    have HB := Aside0.mk hbW
    have HV := Aside0.mk hv
    have hvc := hv.cell
    have hvf := hv.frozen
    have hlt := hv.lt
    have b0 : W.cell? ⟨Bx, 0, none⟩ = some (.int .i64 x.src) := by rw [blk_cell hb]; rfl
    have b1 : W.cell? ⟨Bx, 1, none⟩ = some (.int .i64 x.dst) := by rw [blk_cell hb]; rfl
    have b2 : W.cell? ⟨Bx, 2, none⟩ = some (.int .i64 x.wt) := by rw [blk_cell hb]; rfl
    obtain ⟨_, inner, ho, hr3⟩ := hR
    obtain ⟨i0, hi, hz0, hz1, hz2⟩ := info_parts infoE
    have ho' : W.ownsRow w.heap.size 45 3 v pre.length inner := ho
    have hne : some w.heap.size ≠ v.ownBlock := hv.not_row (by decide) ho'
    have hle := hbW.size
    have Hr3 := Aside0.mk hr3
    have Hne := Aside0.mk hne
    have Hho := Aside0.mk ho'
    clear hbW hv hr hr3 hne ho ho'
    gi_wp2_with (gi_at_builtin; refine wpListIn_append_own _ rfl _ _ 22 rfl w.heap.size 45 i0 (.agg #[.int .i64 0, .int .i64 0, .int .i64 0]) 3 24 Tryd.underlying22 hi hz0 hz1 hz2 rfl (by decide) v pre.length inner rfl (Hho.out.alloc _) ⟨W.heap.size, 0, none⟩ 1 1 x.enc rfl rfl (cells_new W x.enc 45) (fun u hu => by simp [Edge.enc] at hu; rcases hu with rfl | rfl | rfl <;> rfl) (by unfold maxLen; omega) (by omega) (by simp; omega) ?_; intro v' w3 hown' hg3 hnil3; have HO3 := Aside0.mk hown'; have hvc3 := ((hg3.block w.heap.size (by simp; omega) Hne.out).trans (HV.out.alloc _)); have HV3 := Aside0.mk hvc3; have HG3 := Aside0.mk hg3; clear hown' hg3 hnil3 hvc3; have hc3 := (show Boxed w3 w.heap.size _ _ from HV3.out).cell; have hf3 := (show Boxed w3 w.heap.size _ _ from HV3.out).frozen; obtain ⟨A3, c3, rfl⟩ := own_slice HO3.out)
    have hrow : ∀ (j : Nat) (o : Obj), v.ownBlock = some j → (W.alloc (.cells x.enc.toArray 45)).heap[j]? = some o → o.isCells = true := fun j o hj hjo => by
      obtain ⟨cells, hc⟩ := own_typed (Hho.out.alloc _) j hj
      rw [hc] at hjo
      cases hjo
      rfl
    have hb1 : Below w.heap.size w (W.alloc (.cells x.enc.toArray 45)) := HB.out.alloc hle _
    have hb3 : Below w.heap.size w w3 := hb1.grown HG3.out hb1.size (fun k e => own_base Hho.out k e)
    have hn1 : Below n₀ W w3 := ((Below.refl n₀ W).alloc (by omega) _).grown HG3.out (by simp; omega) (fun k e => Nat.le_trans hn₀ (own_base Hho.out k e))
    have hne3 : some w.heap.size ≠ (Value.slice A3 (pre.length + 1) c3).ownBlock := (show Boxed w3 w.heap.size _ _ from HV3.out).not_row (by decide) HO3.out
    refine ⟨((KeepsOthers.alloc W _).trans ((KeepsOthers.of_grownBy HG3.out hrow).trans (KeepsOthers.setCell _ _ _))).from _, hn1.setCell (by simpa using hn₀) _, ⟨_, (show Boxed w3 w.heap.size _ _ from HV3.out).set _, ?_⟩, hb3.setCell (by simp) _⟩
    exact flat_snoc Hr3.out (own_setCell HO3.out hne3 _)
  · rintro D xs W hD rfl ⟨⟨v, hv, hR⟩, hbW⟩ hK
    have HR := Aside0.mk hR
    have HB := Aside0.mk hbW
    have hvc := hv.cell
    clear hR hbW
    gi_wp2
    refine ⟨by simp, .inl ⟨_, _, rfl, run_takeDeferred hK, ?_⟩⟩
    refine ⟨_, results_tmp rfl _ _ _, v, rfl, R_own HR.out (grownBy_putObj' W D _) (fun r e => by cases e; exact ⟨_, hK, rfl⟩), HB.out.grown (grownBy_putObj' W D _) HB.out.size (fun k e => by cases e; omega)⟩
  · rintro D c pre W hD hS hF
    exact hF.elim
set_option maxRecDepth 100000 in
set_option maxHeartbeats 4000000 in
theorem collectE_in (F : Fence) (n : Nat) (h8 : F.fn 40) (h11 : F.fn 49) (hro : F.round = none) (hn : 3 ≤ n) (g : Nat) (lb : Array Value) (hFg : F.fn g) (eg : ∀ args w, (callFunc g args).run Tryd.prog w = .ok (.enter g args) w)
    (es : List Edge) (hlen : es.length * 24 ≤ 140737488355328) (w : World) (n₀ : Nat) (hn₀ : n₀ ≤ w.heap.size) (hseq : SeqStopsK F (n - 1 - 1) Tryd.prog g lb (fun x : Edge => #[Edge.v x]) (Below n₀) (fun ys => ys = es) (fun pre => pre <+: es) es.length w) :
    CallsIn F n Tryd.prog 40 #[.func (.func g) #[] lb] w fun e w' => ∃ v : Value, e = .returned v ∧ KE.R 45 w' w.heap.size (fun _ => True) v es ∧ Below w.heap.size w w' := by
  have h1 : 1 ≤ n := by omega
  have HS := Aside0.mk hseq
  clear hseq
  refine callsIn_of_wp Tryd.func40 rfl h8 ?_ hro
  simp only [Tryd.ntmps40, List.size_toArray, List.length_cons, List.length_nil, Nat.reduceAdd, Nat.reduceSub, Array.replicate_succ, Array.replicate_zero, List.push_toArray, List.append_toArray, List.nil_append, List.cons_append]
  gi_wp2_with (gi_at_call 49; refine (appendSeqE_in F (n - 1) h11 hro (by omega) g lb hFg eg es hlen _ n₀ hn₀ HS.out).mono ?_; rintro e w' ⟨v, rfl, hR, hb⟩; have HR := Aside0.mk hR; have HB := Aside0.mk hb; clear hR hb)
  go_ret
  exact ⟨v, rfl, HR.out, HB.out⟩
end Go.Proofs.YtenpmbebghlnkaaDoor
