/-
  The reference of layer 5: the edges from a vertex, and to it.
-/
import Derived.Test.YtenpmbebghlnkaaDoorKRefN
namespace Go.Proofs.YtenpmbebghlnkaaDoor
open Go.RowKit Go.Proofs.YtenpmbebghlnkaaDoorW.PrintWords Go.Proofs.YtenpmbebghlnkaaDoorW.PrintLast Go.Proofs.YtenpmbebghlnkaaDoorW.PrintMore
set_option linter.unusedVariables false
set_option linter.unusedSimpArgs false
attribute [local go_sem] max2_int min2_int max_two min_two max_three min_three max_four min_four
theorem lit_R (d : Kd Edge) (hd : d.sz = 3) (w : World) (base : Nat) (hb : base ≤ w.heap.size) : d.R 45 (w.alloc (.cells #[] 45)) base (fun _ => True) (.slice (some ⟨w.heap.size, 0, none⟩) 0 0) [] := by
  refine ⟨fun _ _ => trivial, [], ?_, Reps.none _ _⟩
  have h2 := World.ownsRow_lit (base := base) (e := 45) (size := d.sz) w #[] 0 hb (by simp [maxLen]) (by simp)
  simpa using h2
set_option maxRecDepth 100000 in
set_option maxHeartbeats 4000000 in
theorem refOut_ok (n : Int) (A : Option Addr) (c : Nat) (es : List Edge) (v : Int) (w : World) (hC : KE.C w A es.length es) (h : Graph.check ⟨n, es⟩ = 0) :
    Calls Tryd.prog 20 #[.agg #[.int .i64 n, .slice A es.length c], .int .i64 v] w fun e w' => ∃ u : Value, e = .returned u ∧ KE.R 45 w' w.heap.size (fun _ => True) u ((norm es).filter (fun x => x.src == v)) ∧ Below w.heap.size w w' := by
  have hl5 : (norm es).length ≤ 512 := by rw [(norm_sorted es).1.length_eq]; exact (check_zero h).2.2.1
  have HC := Aside0.mk hC
  have HN := fun w => Aside0.mk (fun hC => refNorm_ok n A c es w hC h)
  clear hC h
  generalize norm es = l at hl5 HN ⊢
  obtain ⟨w0, hw0⟩ : ∃ w0 : World, w.alloc (.cells #[.int .i64 n, .slice A es.length c] 24) = w0 := ⟨_, rfl⟩
  have hb0 : Below w.heap.size w w0 := by rw [← hw0]; exact (Below.refl _ w).alloc (Nat.le_refl _) _
  have hz0 : w.heap.size < w0.heap.size := by rw [← hw0]; simp
  have c0 : w0.cell? ⟨w.heap.size, 0, none⟩ = some (.int .i64 n) := by rw [← hw0]; simp
  have c1 : w0.cell? ⟨w.heap.size, 1, none⟩ = some (.slice A es.length c) := by rw [← hw0]; simp
  have HB0 := Aside0.mk hb0
  have HW := Aside0.mk hw0
  have C0 := Aside0.mk c0
  have C1 := Aside0.mk c1
  clear hw0 hb0 c0 c1
  go_enter Tryd.func20, Tryd.ntmps20
  go_wp2_with fail
  have hR0 := lit_R KE rfl (w.alloc (.cells #[.int .i64 n, .slice A es.length c] 24)) w.heap.size (by simp)
  have hb1 : Below w.heap.size w ((w.alloc (.cells #[.int .i64 n, .slice A es.length c] 24)).alloc (.cells #[] 45)) := ((Below.refl _ w).alloc (Nat.le_refl _) _).alloc (by simp) _
  have HK := (HN ((w.alloc (.cells #[.int .i64 n, .slice A es.length c] 24)).alloc (.cells #[] 45))).out (Kd.C_below HC.out hb1)
  obtain ⟨W1, hW1⟩ : ∃ W1 : World, (w.alloc (.cells #[.int .i64 n, .slice A es.length c] 24)).alloc (.cells #[] 45) = W1 := ⟨_, rfl⟩
  have hz1 : (w.alloc (.cells #[.int .i64 n, .slice A es.length c] 24)).heap.size = w.heap.size + 1 := by simp
  rw [hW1] at hR0 hb1 HK ⊢
  rw [hz1] at hR0
  refine HK.mono ?_
  rintro e w2 ⟨un, rfl, hRn, hb2⟩
  have hz2 : W1.heap.size ≤ w2.heap.size := hb2.size
  have hzW : w.heap.size + 1 < W1.heap.size := by rw [← hW1]; simp
  have hown : ∀ k, un.ownBlock = some k → W1.heap.size ≤ k ∧ k < w2.heap.size := fun k hk => by have := (Kd.R_bound hRn).1 k hk; exact ⟨this.2.1, this.2.2.1⟩
  have hR5 : KE.R 45 w2 w.heap.size (fun b => some b ≠ un.ownBlock) (.slice (some ⟨w.heap.size + 1, 0, none⟩) 0 0) [] := Kd.R_below (Kd.R_mono (Kd.R_bound hR0) (fun k hk e => by have := hown k e.symm; have := hk.2.2.1; omega)) hb2
  have hRm : KE.R 45 w2 w.heap.size (fun b => un.ownBlock = some b) un l := Kd.R_lower (⟨fun k hk => hk, hRn.2⟩ : KE.R 45 w2 W1.heap.size (fun b => un.ownBlock = some b) un l) (by omega)
  have hal : Below w2.heap.size w2 (w2.alloc (.cells #[.int .i64 n, un] 24)) := (Below.refl _ w2).alloc (Nat.le_refl _) _
  have hbw2 : Below w.heap.size w w2 := hb1.trans (hb2.mono (by omega))
  have hg6 : (w2.alloc (.cells #[.int .i64 n, un] 24)).heap[w2.heap.size]? = some (.cells #[.int .i64 n, un] 24 (0, 0)) := Array.getElem?_push_size
  have S1 := Aside0.mk (Kd.R_below hR5 hal)
  have S2 := Aside0.mk (Kd.R_below hRm hal)
  have S3 := Aside0.mk (hbw2.trans (hal.mono (by omega)))
  have S4 := Aside0.mk hg6
  have hos : ∀ k, w2.heap.size ≤ k → some k ≠ un.ownBlock := fun k hk e => by have := hown k e.symm; omega
  have HOS := Aside0.mk hos
  obtain ⟨An, kn, cn, rfl⟩ : ∃ A k c, un = .slice A k c := by obtain ⟨A, c, e⟩ := Kd.R_slice hRn; exact ⟨A, _, c, e⟩
  obtain rfl : kn = l.length := by obtain ⟨A, c, e, _⟩ := Kd.R_reads hRn; injection e
  clear hW1 hR0 hb1 HK hRn hb2 hown hR5 hRm hal hbw2 hg6 hos
  go_wp2
  go_loopw [5, 7] (fun v5 v7 wr => ∃ k : Nat, k ≤ l.length ∧ v7 = .int .i64 k ∧ Aside0 (KE.R 45 wr w.heap.size (fun b => some b ≠ Value.ownBlock (.slice An l.length cn)) v5 ((l.take k).filter (fun x => x.src == v))) ∧ Aside0 (KE.R 45 wr w.heap.size (fun b => Value.ownBlock (.slice An l.length cn) = some b) (.slice An l.length cn) l) ∧ Aside0 (Below w.heap.size w wr) ∧ Aside0 (wr.heap[w2.heap.size]? = some (.cells #[.int .i64 n, .slice An l.length cn] 24 (0, 0)))) (fun _ v7 _ => l.length - (intOf v7).toNat)
  case atStart => exact ⟨0, Nat.zero_le _, rfl, S1, S2, S3, S4⟩
  case round =>
    obtain ⟨k, hk, rfl, T1, T2, T3, T4⟩ := hrel
    have c6 : wr.cell? ⟨w2.heap.size, 1, none⟩ = some (.slice An l.length cn) := by rw [blk_cell T4.out]; rfl
    have hg6l : w2.heap.size < wr.heap.size := blk_lt T4.out
    have hsz : w.heap.size ≤ wr.heap.size := T3.out.size
    by_cases hlt : k < l.length
    · obtain ⟨ad, rfl, a0, a1, a2⟩ : ∃ ad, An = some ad ∧ wr.cell? (ad.add (k * 3)) = some (.int .i64 l[k].src) ∧ wr.cell? ⟨(ad.add (k * 3)).block, (ad.add (k * 3)).off + 1, none⟩ = some (.int .i64 l[k].dst) ∧ wr.cell? ⟨(ad.add (k * 3)).block, (ad.add (k * 3)).off + 2, none⟩ = some (.int .i64 l[k].wt) := by
        obtain ⟨A', c', e', _, hCn⟩ := Kd.R_reads T2.out
        injection e' with e1 e2 e3
        subst e1
        exact KE_at hCn k hlt
      have htk : l.take (k + 1) = l.take k ++ [l[k]] := by rw [List.take_succ_eq_append_getElem hlt]
      have hlen : ((l.take k).filter (fun x => x.src == v)).length ≤ 512 := Nat.le_trans (List.length_filter_le _ _) (by rw [List.length_take]; omega)
      have i1 : (0 : Int) ≤ (k : Int) := by omega
      have i2 : (k : Int) < (l.length : Int) := by omega
      cases hp : (l[k].src == v) with
      | true =>
        have HF := Lib.hid (show (l.take (k + 1)).filter (fun x => x.src == v) = (l.take k).filter (fun x => x.src == v) ++ [l[k]] by rw [htk, List.filter_append]; simp [hp])
        clear htk
        go_wp2_with (at_builtin; refine Kd.R_append KE (w0 := w) w.heap.size rfl (.tmp 26) (.tmp 32) 22 45 (.agg #[.int .i64 0, .int .i64 0, .int .i64 0]) 24 rfl Tryd.underlying22 infoE rfl (by decide) (by decide) _ ((l.take k).filter (fun x => x.src == v)) l[k] [.int .i64 l[k].src, .int .i64 l[k].dst, .int .i64 l[k].wt] (fun b => some b ≠ Value.ownBlock (.slice (some ad) l.length cn)) (fun _ => False) rfl rfl rfl (fun _ hk => hk.elim) (fun k hk => HOS.out k (by omega)) T1.out T3.out hsz (by omega) ?_; intro v8 w3 hR3 hB3 hg3 hat3; have HR3 := Aside0.mk hR3; have HB3 := Aside0.mk hB3; have HM := Aside0.mk (Kd.R_grown T2.out hg3 (fun b hb e => T1.out.1 b e.symm hb.symm)); have H6 := Aside0.mk (blk_grown T4.out hg3 (graph_apart T4.out T1.out)); clear hR3 hB3 hg3 hat3)
        go_roundw
        case rel => exact ⟨k + 1, by omega, by go_num, ⟨by rw [HF.out]; exact HR3.out⟩, HM, HB3, H6⟩
        case measure => simp [intOf]; omega
      | false =>
        have HF := Aside0.mk (show KE.R 45 wr w.heap.size (fun b => some b ≠ Value.ownBlock (.slice (some ad) l.length cn)) _ ((l.take (k + 1)).filter (fun x => x.src == v)) by rw [htk, List.filter_append]; simpa [hp] using T1.out)
        clear htk
        go_wp2
        go_roundw
        case rel => exact ⟨k + 1, by omega, by go_num, HF, T2, T3, T4⟩
        case measure => simp [intOf]; omega
    · obtain rfl : k = l.length := by omega
      have hR := T1.out
      rw [List.take_length] at hR
      have HR := Aside0.mk (Kd.R_mono hR (fun _ _ => trivial) : KE.R 45 wr w.heap.size (fun _ => True) _ _)
      clear hR
      go_wp2
      go_ret
      exact ⟨_, rfl, HR.out, T3.out⟩
set_option maxRecDepth 100000 in
set_option maxHeartbeats 4000000 in
theorem refIn_ok (n : Int) (A : Option Addr) (c : Nat) (es : List Edge) (v : Int) (w : World) (hC : KE.C w A es.length es) (h : Graph.check ⟨n, es⟩ = 0) :
    Calls Tryd.prog 21 #[.agg #[.int .i64 n, .slice A es.length c], .int .i64 v] w fun e w' => ∃ u : Value, e = .returned u ∧ KE.R 45 w' w.heap.size (fun _ => True) u ((norm es).filter (fun x => x.dst == v)) ∧ Below w.heap.size w w' := by
  have hl5 : (norm es).length ≤ 512 := by rw [(norm_sorted es).1.length_eq]; exact (check_zero h).2.2.1
  have HC := Aside0.mk hC
  have HN := fun w => Aside0.mk (fun hC => refNorm_ok n A c es w hC h)
  clear hC h
  generalize norm es = l at hl5 HN ⊢
  obtain ⟨w0, hw0⟩ : ∃ w0 : World, w.alloc (.cells #[.int .i64 n, .slice A es.length c] 24) = w0 := ⟨_, rfl⟩
  have hb0 : Below w.heap.size w w0 := by rw [← hw0]; exact (Below.refl _ w).alloc (Nat.le_refl _) _
  have hz0 : w.heap.size < w0.heap.size := by rw [← hw0]; simp
  have c0 : w0.cell? ⟨w.heap.size, 0, none⟩ = some (.int .i64 n) := by rw [← hw0]; simp
  have c1 : w0.cell? ⟨w.heap.size, 1, none⟩ = some (.slice A es.length c) := by rw [← hw0]; simp
  have HB0 := Aside0.mk hb0
  have HW := Aside0.mk hw0
  have C0 := Aside0.mk c0
  have C1 := Aside0.mk c1
  clear hw0 hb0 c0 c1
  go_enter Tryd.func21, Tryd.ntmps21
  go_wp2_with fail
  have hR0 := lit_R KE rfl (w.alloc (.cells #[.int .i64 n, .slice A es.length c] 24)) w.heap.size (by simp)
  have hb1 : Below w.heap.size w ((w.alloc (.cells #[.int .i64 n, .slice A es.length c] 24)).alloc (.cells #[] 45)) := ((Below.refl _ w).alloc (Nat.le_refl _) _).alloc (by simp) _
  have HK := (HN ((w.alloc (.cells #[.int .i64 n, .slice A es.length c] 24)).alloc (.cells #[] 45))).out (Kd.C_below HC.out hb1)
  obtain ⟨W1, hW1⟩ : ∃ W1 : World, (w.alloc (.cells #[.int .i64 n, .slice A es.length c] 24)).alloc (.cells #[] 45) = W1 := ⟨_, rfl⟩
  have hz1 : (w.alloc (.cells #[.int .i64 n, .slice A es.length c] 24)).heap.size = w.heap.size + 1 := by simp
  rw [hW1] at hR0 hb1 HK ⊢
  rw [hz1] at hR0
  refine HK.mono ?_
  rintro e w2 ⟨un, rfl, hRn, hb2⟩
  have hz2 : W1.heap.size ≤ w2.heap.size := hb2.size
  have hzW : w.heap.size + 1 < W1.heap.size := by rw [← hW1]; simp
  have hown : ∀ k, un.ownBlock = some k → W1.heap.size ≤ k ∧ k < w2.heap.size := fun k hk => by have := (Kd.R_bound hRn).1 k hk; exact ⟨this.2.1, this.2.2.1⟩
  have hR5 : KE.R 45 w2 w.heap.size (fun b => some b ≠ un.ownBlock) (.slice (some ⟨w.heap.size + 1, 0, none⟩) 0 0) [] := Kd.R_below (Kd.R_mono (Kd.R_bound hR0) (fun k hk e => by have := hown k e.symm; have := hk.2.2.1; omega)) hb2
  have hRm : KE.R 45 w2 w.heap.size (fun b => un.ownBlock = some b) un l := Kd.R_lower (⟨fun k hk => hk, hRn.2⟩ : KE.R 45 w2 W1.heap.size (fun b => un.ownBlock = some b) un l) (by omega)
  have hal : Below w2.heap.size w2 (w2.alloc (.cells #[.int .i64 n, un] 24)) := (Below.refl _ w2).alloc (Nat.le_refl _) _
  have hbw2 : Below w.heap.size w w2 := hb1.trans (hb2.mono (by omega))
  have hg6 : (w2.alloc (.cells #[.int .i64 n, un] 24)).heap[w2.heap.size]? = some (.cells #[.int .i64 n, un] 24 (0, 0)) := Array.getElem?_push_size
  have S1 := Aside0.mk (Kd.R_below hR5 hal)
  have S2 := Aside0.mk (Kd.R_below hRm hal)
  have S3 := Aside0.mk (hbw2.trans (hal.mono (by omega)))
  have S4 := Aside0.mk hg6
  have hos : ∀ k, w2.heap.size ≤ k → some k ≠ un.ownBlock := fun k hk e => by have := hown k e.symm; omega
  have HOS := Aside0.mk hos
  obtain ⟨An, kn, cn, rfl⟩ : ∃ A k c, un = .slice A k c := by obtain ⟨A, c, e⟩ := Kd.R_slice hRn; exact ⟨A, _, c, e⟩
  obtain rfl : kn = l.length := by obtain ⟨A, c, e, _⟩ := Kd.R_reads hRn; injection e
  clear hW1 hR0 hb1 HK hRn hb2 hown hR5 hRm hal hbw2 hg6 hos
  go_wp2
  go_loopw [5, 7] (fun v5 v7 wr => ∃ k : Nat, k ≤ l.length ∧ v7 = .int .i64 k ∧ Aside0 (KE.R 45 wr w.heap.size (fun b => some b ≠ Value.ownBlock (.slice An l.length cn)) v5 ((l.take k).filter (fun x => x.dst == v))) ∧ Aside0 (KE.R 45 wr w.heap.size (fun b => Value.ownBlock (.slice An l.length cn) = some b) (.slice An l.length cn) l) ∧ Aside0 (Below w.heap.size w wr) ∧ Aside0 (wr.heap[w2.heap.size]? = some (.cells #[.int .i64 n, .slice An l.length cn] 24 (0, 0)))) (fun _ v7 _ => l.length - (intOf v7).toNat)
  case atStart => exact ⟨0, Nat.zero_le _, rfl, S1, S2, S3, S4⟩
  case round =>
    obtain ⟨k, hk, rfl, T1, T2, T3, T4⟩ := hrel
    have c6 : wr.cell? ⟨w2.heap.size, 1, none⟩ = some (.slice An l.length cn) := by rw [blk_cell T4.out]; rfl
    have hg6l : w2.heap.size < wr.heap.size := blk_lt T4.out
    have hsz : w.heap.size ≤ wr.heap.size := T3.out.size
    by_cases hlt : k < l.length
    · obtain ⟨ad, rfl, a0, a1, a2⟩ : ∃ ad, An = some ad ∧ wr.cell? (ad.add (k * 3)) = some (.int .i64 l[k].src) ∧ wr.cell? ⟨(ad.add (k * 3)).block, (ad.add (k * 3)).off + 1, none⟩ = some (.int .i64 l[k].dst) ∧ wr.cell? ⟨(ad.add (k * 3)).block, (ad.add (k * 3)).off + 2, none⟩ = some (.int .i64 l[k].wt) := by
        obtain ⟨A', c', e', _, hCn⟩ := Kd.R_reads T2.out
        injection e' with e1 e2 e3
        subst e1
        exact KE_at hCn k hlt
      have htk : l.take (k + 1) = l.take k ++ [l[k]] := by rw [List.take_succ_eq_append_getElem hlt]
      have hlen : ((l.take k).filter (fun x => x.dst == v)).length ≤ 512 := Nat.le_trans (List.length_filter_le _ _) (by rw [List.length_take]; omega)
      have i1 : (0 : Int) ≤ (k : Int) := by omega
      have i2 : (k : Int) < (l.length : Int) := by omega
      cases hp : (l[k].dst == v) with
      | true =>
        have HF := Lib.hid (show (l.take (k + 1)).filter (fun x => x.dst == v) = (l.take k).filter (fun x => x.dst == v) ++ [l[k]] by rw [htk, List.filter_append]; simp [hp])
        clear htk
        go_wp2_with (at_builtin; refine Kd.R_append KE (w0 := w) w.heap.size rfl (.tmp 26) (.tmp 32) 22 45 (.agg #[.int .i64 0, .int .i64 0, .int .i64 0]) 24 rfl Tryd.underlying22 infoE rfl (by decide) (by decide) _ ((l.take k).filter (fun x => x.dst == v)) l[k] [.int .i64 l[k].src, .int .i64 l[k].dst, .int .i64 l[k].wt] (fun b => some b ≠ Value.ownBlock (.slice (some ad) l.length cn)) (fun _ => False) rfl rfl rfl (fun _ hk => hk.elim) (fun k hk => HOS.out k (by omega)) T1.out T3.out hsz (by omega) ?_; intro v8 w3 hR3 hB3 hg3 hat3; have HR3 := Aside0.mk hR3; have HB3 := Aside0.mk hB3; have HM := Aside0.mk (Kd.R_grown T2.out hg3 (fun b hb e => T1.out.1 b e.symm hb.symm)); have H6 := Aside0.mk (blk_grown T4.out hg3 (graph_apart T4.out T1.out)); clear hR3 hB3 hg3 hat3)
        go_roundw
        case rel => exact ⟨k + 1, by omega, by go_num, ⟨by rw [HF.out]; exact HR3.out⟩, HM, HB3, H6⟩
        case measure => simp [intOf]; omega
      | false =>
        have HF := Aside0.mk (show KE.R 45 wr w.heap.size (fun b => some b ≠ Value.ownBlock (.slice (some ad) l.length cn)) _ ((l.take (k + 1)).filter (fun x => x.dst == v)) by rw [htk, List.filter_append]; simpa [hp] using T1.out)
        clear htk
        go_wp2
        go_roundw
        case rel => exact ⟨k + 1, by omega, by go_num, HF, T2, T3, T4⟩
        case measure => simp [intOf]; omega
    · obtain rfl : k = l.length := by omega
      have hR := T1.out
      rw [List.take_length] at hR
      have HR := Aside0.mk (Kd.R_mono hR (fun _ _ => trivial) : KE.R 45 wr w.heap.size (fun _ => True) _ _)
      clear hR
      go_wp2
      go_ret
      exact ⟨_, rfl, HR.out, T3.out⟩
end Go.Proofs.YtenpmbebghlnkaaDoor
