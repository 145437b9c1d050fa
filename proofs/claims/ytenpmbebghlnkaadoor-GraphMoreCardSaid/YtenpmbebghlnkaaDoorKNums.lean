/-
  The program's numbers of a line.
-/
import Derived.Test.YtenpmbebghlnkaaDoorKText
import Derived.Shelf.Strings.Split
import Derived.Shelf.Strconv.ErrVarAll
import Derived.Shelf.SlicesG.Turned
namespace Go.Proofs.YtenpmbebghlnkaaDoor
open Go.RowKit Go.Proofs.YtenpmbebghlnkaaDoorW.PrintWords Go.Proofs.YtenpmbebghlnkaaDoorW.PrintLast Go.Proofs.YtenpmbebghlnkaaDoorW.PrintMore
set_option linter.unusedVariables false
set_option linter.unusedSimpArgs false
attribute [local go_sem] max2_int min2_int max_two min_two max_three min_three max_four min_four
theorem foldl_min_nonneg : ∀ (l : List Int) (a : Int), 0 ≤ l.foldl min a ↔ 0 ≤ a ∧ ∀ v ∈ l, 0 ≤ v
  | [], a => by simp
  | b :: l, a => by
    rw [List.foldl_cons, foldl_min_nonneg l]
    simp only [List.mem_cons, forall_eq_or_imp]
    constructor
    · rintro ⟨h1, h2⟩
      exact ⟨by omega, by omega, h2⟩
    · rintro ⟨h1, h2, h3⟩
      exact ⟨by omega, h3⟩
theorem minOf_nonneg (l : List Int) (h : l ≠ []) : 0 ≤ Lib.minOf l ↔ ∀ v ∈ l, 0 ≤ v := by
  cases l with
  | nil => exact absurd rfl h
  | cons a l =>
    unfold Lib.minOf
    rw [foldl_min_nonneg]
    simp
/-- A block of scalars, read. -/
theorem scalar_block {α : Type} {enc : α → Value} {h1 : ∀ x, (enc x).oneCell' = true} {W : World} {g : Nat} {t : TypeId} {l : List α} (h : W.heap[g]? = some (.cells (l.map enc).toArray t (0, 0))) (hl : l.length ≤ 9223372036854775807) : (Kd.scalar enc h1).C W (some ⟨g, 0, none⟩) l.length l := by
  refine ⟨rfl, hl, fun _ => ⟨_, rfl, fun j p hj => ⟨[enc p], rfl, rfl, fun i u hu => ?_⟩⟩⟩
  have hi : i = 0 ∧ u = enc p := by
    match i, hu with
    | 0, hu => simp at hu; exact ⟨rfl, hu.symm⟩
  obtain ⟨rfl, rfl⟩ := hi
  have e : (⟨g, 0, none⟩ : Addr).add (j * (Kd.scalar enc h1).sz + 0) = ⟨g, j, none⟩ := by
    show (⟨g, 0, none⟩ : Addr).add (j * 1 + 0) = _
    rw [Nat.mul_one]
    simp [Addr.add]
    exact Eq.symm
  rw [e, blk_cell h]
  simp [hj]
theorem splitOn_len (c : UInt8) : ∀ s, (splitOn c s).length ≤ s.length + 1
  | [] => Nat.le_refl _
  | b :: s => by
    have ih := splitOn_len c s
    by_cases h : b = c
    · subst h; rw [splitOn_eq]; simp; omega
    · obtain ⟨w, ws, e⟩ := splitOn_ne c s
      rw [e] at ih
      rw [splitOn_cons h e]
      simp at ih ⊢
      omega
theorem split_any (s : List UInt8) (hs : s.length ≤ 1073741824) (w : World) (hL : Laid w) :
    Calls Tryd.prog 46 #[.string (bs s), .string ⟨#[32]⟩] w fun e w' => ∃ n, Hid (n = (splitOn 32 s).length) ∧ e = .returned (.slice (some ⟨w.heap.size, 0, none⟩) n n) ∧ KS.C w' (some ⟨w.heap.size, 0, none⟩) n ((splitOn 32 s).map bs) ∧ Below w.heap.size w w' := by
  obtain ⟨m, hm⟩ := hL.maxLen
  have hsz : (bs s).size < 4294967281 := by rw [bs_size]; omega
  have he : (Lib.splitB ⟨#[32]⟩ 0 (Lib.countB (bs s) ⟨#[32]⟩) (bs s)) = (splitOn 32 s).map bs := by
    have h1 := Lib.splitB_data ⟨#[32]⟩ 0 (Lib.countB (bs s) ⟨#[32]⟩) (bs s)
    have h2 : Lib.splitK [32] 0 (Lib.countB (bs s) ⟨#[32]⟩) s = splitOn 32 s := split_splitOn 32 s
    have h3 : (Lib.splitB ⟨#[32]⟩ 0 (Lib.countB (bs s) ⟨#[32]⟩) (bs s)).map (·.data.toList) = splitOn 32 s := h1.trans h2
    rw [← h3, List.map_map]
    exact (List.map_id _).symm
  have hlen := Lib.splitB_all ⟨#[32]⟩ (by decide) 0 _ (bs s) rfl
  rw [he, List.length_map] at hlen
  refine (Any.strings_Split { laySplit with } laySplit.i9 (bs s) ⟨#[32]⟩ m w hsz hm (by decide)).mono ?_
  rintro e w' ⟨rfl, rfl⟩
  refine ⟨_, Lib.hid hlen.symm, rfl, ?_, (Below.refl _ w).alloc (Nat.le_refl _) _⟩
  rw [he, ← hlen]
  have hb : (w.alloc (.cells (((splitOn 32 s).map bs).map Value.string).toArray (laySplit_ren.t 9))).heap[w.heap.size]? = some (.cells (((splitOn 32 s).map bs).map Value.string).toArray (laySplit_ren.t 9) (0, 0)) := Array.getElem?_push_size
  have hw := splitOn_len 32 s
  have := scalar_block (enc := Value.string) (h1 := fun _ => rfl) hb (by rw [List.length_map]; omega)
  rwa [List.length_map] at this
theorem atoi_ok (x : List UInt8) (hx : x.length ≤ 1073741824) (v : Int) (h : Lib.atoiAll x = .ok v) (w : World) :
    Calls Tryd.prog 47 #[.string (bs x)] w fun e w' => e = .returned (.tuple #[.int .i64 v, .nilIface]) ∧ Below w.heap.size w w' :=
  (Any.strconv_Atoi_ok layAtoi (bs x) (by rw [bs_size]; omega) v h w).mono fun e w' ⟨he, hw⟩ => ⟨he, by
    rcases hw with rfl | ⟨t, rfl⟩
    · exact Below.refl _ _
    · exact Lib.bytesWorld_below _ _ _⟩
theorem atoi_bad (x : List UInt8) (hx : x.length ≤ 1073741824) (h : ∀ v, Lib.atoiAll x ≠ .ok v) (w : World) (hL : Laid w) :
    Calls Tryd.prog 47 #[.string (bs x)] w fun e w' => ∃ (v : Int) (T : TypeId) (p : Value), e = .returned (.tuple #[.int .i64 v, .iface T p]) ∧ Below w.heap.size w w' := by
  have hsz : (bs x).size ≤ 281474976710656 := by rw [bs_size]; omega
  cases ha : Lib.atoiAll x
  · exact absurd ha (h _)
  · obtain ⟨tp, p, hv⟩ := hL.syn
    exact (Any.strconv_Atoi_syntax_var layAtoi (bs x) hsz ha tp p w hv).mono fun e w' ⟨N, he, _, _, hb⟩ => ⟨_, _, _, he, hb⟩
  · obtain ⟨tp, p, hv⟩ := hL.rng
    exact (Any.strconv_Atoi_range_var layAtoi (bs x) hsz ha tp p w hv).mono fun e w' ⟨N, he, _, _, hb⟩ => ⟨_, _, _, he, hb⟩
/-- What the numbers of a line answer. -/
def NumsPost (word s : List UInt8) (size : Nat) (w : World) (e : Ending) (w' : World) : Prop :=
  ∃ v : Value, Below w.heap.size w w' ∧ ((parseLine word size s = none ∧ e = .returned (.tuple #[v, .bool false])) ∨ ∃ l : List Nat, parseLine word size s = some l ∧ e = .returned (.tuple #[v, .bool true]) ∧ KI.R 3 w' w.heap.size (fun _ => True) v (l.map fun (n : Nat) => (n : Int)))
/-- So many words are numbers. -/
def NumsUpto (ws : List (List UInt8)) (vs : List Int) : Prop := vs.length ≤ ws.length ∧ ∀ i (h : i < ws.length) (h2 : i < vs.length), Lib.atoiAll ws[i] = .ok vs[i] ∧ ws[i].length ≤ 9
theorem NumsUpto.snoc {ws : List (List UInt8)} {vs : List Int} {v : Int} (h : NumsUpto ws vs) (hk : vs.length < ws.length) (h1 : Lib.atoiAll ws[vs.length] = .ok v) (h2 : ws[vs.length].length ≤ 9) : NumsUpto ws (vs ++ [v]) := by
  refine ⟨by simp; omega, fun i hi hv => ?_⟩
  rw [List.length_append, List.length_singleton] at hv
  rcases Nat.lt_or_ge i vs.length with hlt | hge
  · rw [List.getElem_append_left hlt]
    exact h.2 i hi hlt
  · obtain rfl : i = vs.length := by omega
    rw [List.getElem_concat_length rfl]
    exact ⟨h1, h2⟩
theorem parse_none_at {word s w : List UInt8} {ws : List (List UInt8)} {size k : Nat} (hs : splitOn 32 s = w :: ws) (hk : k < ws.length) (h : num9 ws[k] = none) : parseLine word size s = none := by
  rw [parseLine_of hs]
  split
  · exact nums_none_at ws k hk h
  · rfl
theorem parse_none_len {word s w : List UInt8} {ws : List (List UInt8)} {size : Nat} (hs : splitOn 32 s = w :: ws) (h : ws.length ≠ size) : parseLine word size s = none := by
  rw [parseLine_of hs, if_neg (fun hc => h hc.2)]
theorem atoi_range {l : List UInt8} {v : Int} (h : Lib.atoiAll l = .ok v) : -9223372036854775808 ≤ v ∧ v ≤ 9223372036854775807 := by
  obtain ⟨h1, h2⟩ := Lib.atoiAll_bounds h
  omega
set_option maxRecDepth 100000 in
set_option maxHeartbeats 4000000 in
theorem numbers_any (s word : List UInt8) (size : Nat) (hs : s.length ≤ 1073741823) (hw : word.length ≤ 1000) (hsz1 : 1 ≤ size) (hsz : size ≤ 1000) (hw32 : (32 : UInt8) ∉ word) (w : World) (hL : Laid w) :
    Calls Tryd.prog 36 #[.string (bs s), .string (bs word), .int .i64 size] w (NumsPost word s size w) := by
  obtain ⟨w0, ws, hsp⟩ := splitOn_ne 32 s
  have hwl := splitOn_len 32 s
  have hSP := split_any s (by omega) w hL
  rw [hsp] at hwl hSP
  simp only [List.length_cons] at hwl hSP
  have hwords : ∀ x ∈ ws, x.length ≤ s.length := by
    intro x hx
    obtain ⟨e, _, _⟩ := join_splitOn hsp
    rw [e]
    unfold joinOn
    obtain ⟨a, b, rfl⟩ := List.append_of_mem hx
    simp
    omega
  have HSP := Aside0.mk hSP
  have HS := Aside0.mk hsp
  have HL := Aside0.mk hL
  have HW := Aside0.mk hwords
  have HN := Aside0.mk hw32
  clear hSP hsp hL hwords hw32
  by_cases hne : ws.length = size
  · have HNE := Lib.hid hne
    have hne' : (((size + 1 : Nat) : Int) != 1 + (size : Int)) = false := by simp; omega
    have hne2 : ((size : Int) + 1 != 1 + (size : Int)) = false := by simp; omega
    have h0 : ¬ size = 0 := by omega
    clear hne hwl
    go_enter Tryd.func36, Tryd.ntmps36
    go_wp2_with (go_at_call 46; refine HSP.out.mono ?_; rintro e w1 ⟨n, hn, rfl, hC, hb⟩; have HC := Aside0.mk hC; have HB := Aside0.mk hb; have hn1 : n = size + 1 := (by rw [hn.out, HNE.out]); clear hC hb hn; subst hn1)
    have h9 := lit0_R KI 3 w1 w1.heap.size (Nat.le_refl _)
    have hb9 := (Below.refl _ w1).alloc (Nat.le_refl w1.heap.size) (.cells #[] 3)
    have H9 := Aside0.mk h9
    have HB9 := Aside0.mk hb9
    clear h9 hb9
    go_loopw [9, 25] (fun v9 v25 wr => ∃ (k : Nat) (vs : List Int), k ≤ size ∧ v25 = .int .i64 k ∧ Hid (vs.length = k) ∧ Aside0 (NumsUpto ws vs) ∧ Aside0 (KI.R 3 wr w1.heap.size (fun _ => True) v9 vs) ∧ Aside0 (Below w1.heap.size w1 wr)) (fun _ v25 _ => size - (intOf v25).toNat)
    case atStart => exact ⟨0, [], Nat.zero_le _, rfl, Lib.hid rfl, ⟨Nat.zero_le _, fun i _ h => by simp at h⟩, H9, HB9⟩
    case round =>
      obtain ⟨k, vs, hk, rfl, hvl, hU, hR, hB⟩ := hrel
      have hszr := hB.out.size
      by_cases hlt : k < size
      · have hkw : k < ws.length := by have := HNE.out; omega
        have hcell : wr.cell? ⟨w.heap.size, 1 + k, none⟩ = some (.string (bs ws[k])) := by
          obtain ⟨ad, e, hc⟩ := KS_at (Kd.C_below HC.out hB.out) (k + 1) (by simp; omega)
          injection e with e
          subst e
          rw [List.getElem_map, List.getElem_cons_succ] at hc
          have e2 : (⟨w.heap.size, 0, none⟩ : Addr).add (k + 1) = ⟨w.heap.size, 1 + k, none⟩ := by simp [Addr.add]; omega
          rw [e2] at hc
          exact hc
        have hxl : ws[k].length ≤ 1073741824 := by have := HW.out _ (List.getElem_mem hkw); omega
        have hLr := (HL.out.below HB.out).below hB.out
        by_cases hok : ∃ v, Lib.atoiAll ws[k] = .ok v
        · obtain ⟨v, hv⟩ := hok
          obtain ⟨v0, v1⟩ := atoi_range hv
          have HK := Aside0.mk (atoi_ok ws[k] hxl v hv wr)
          by_cases h9 : ws[k].length ≤ 9
          · have hbs9 : ((bs ws[k]).size : Int) ≤ 9 := by rw [bs_size]; omega
            have HU := Aside0.mk (show NumsUpto ws (vs ++ [v]) by
              have e := hvl.out
              subst e
              exact hU.out.snoc hkw hv h9)
            have HVL := Lib.hid (show (vs ++ [v]).length = k + 1 by rw [List.length_append, hvl.out]; rfl)
            have hvle : vs.length ≤ 1000 := by have := hvl.out; omega
            clear hv h9 hxl hLr
            generalize bs ws[k] = X at hcell HK hbs9
            clear hkw
            go_wp2_with (first | (go_at_call 47; refine HK.out.mono ?_; rintro e w2 ⟨rfl, hb2⟩; have HR2 := Aside0.mk (Kd.R_below hR.out hb2); have HB2 := Aside0.mk (below_step hB.out hb2); have hsz2 := HB2.out.size; clear hb2) | (at_builtin; refine Kd.R_append KI (w0 := w1) w1.heap.size rfl (.tmp 41) (.tmp 43) 57 3 (.int .i64 0) 8 rfl Tryd.underlying57 infoInt rfl (by decide) (by decide) _ vs v [.int .i64 v] (fun _ => True) (fun _ => False) rfl rfl rfl (fun _ hk => hk.elim) (fun _ _ => trivial) HR2.out HB2.out hsz2 (by omega) ?_; intro v3 w3 hR3 hB3 hg3 hat3; have HR3 := Aside0.mk hR3; have HB3 := Aside0.mk hB3; clear hR3 hB3 hg3 hat3))
            go_roundw
            case rel => exact ⟨k + 1, vs ++ [v], by omega, by go_num, HVL, HU, HR3, HB3⟩
            case measure => simp [intOf]; omega
          · have hbs9 : 9 < ((bs ws[k]).size : Int) := by rw [bs_size]; omega
            have hp := Aside0.mk (parse_none_at (word := word) (size := size) HS.out hkw (num9_none_of fun n hn => h9 hn.2))
            clear hv h9 hxl hLr
            generalize bs ws[k] = X at hcell HK hbs9
            clear hkw
            go_wp2_with (go_at_call 47; refine HK.out.mono ?_; rintro e w2 ⟨rfl, hb2⟩; have HB2 := Aside0.mk (below_step hB.out hb2); clear hb2)
            go_ret2
            exact ⟨_, below_step HB.out HB2.out, .inl ⟨hp.out, rfl⟩⟩
        · have hbad : ∀ v, Lib.atoiAll ws[k] ≠ .ok v := fun v hv => hok ⟨v, hv⟩
          have HK := Aside0.mk (atoi_bad ws[k] hxl hbad wr hLr)
          have hp := Aside0.mk (parse_none_at (word := word) (size := size) HS.out hkw (num9_none_of fun n hn => hbad _ hn.1))
          clear hok hbad hxl hLr
          generalize bs ws[k] = X at hcell HK
          clear hkw
          go_wp2_with (go_at_call 47; refine HK.out.mono ?_; rintro e w2 ⟨v, T, p, rfl, hb2⟩; have HB2 := Aside0.mk (below_step hB.out hb2); clear hb2)
          go_ret2
          exact ⟨_, below_step HB.out HB2.out, .inl ⟨hp.out, rfl⟩⟩
      · obtain rfl : k = size := by omega
        obtain ⟨A9, c9, rfl, hl9, hC9⟩ := Kd.R_reads hR.out
        have hLr := (HL.out.below HB.out).below hB.out
        have hvr : ∀ x ∈ vs, -9223372036854775808 ≤ x ∧ x ≤ 9223372036854775807 := by
          intro x hx
          obtain ⟨i, hi, rfl⟩ := List.getElem_of_mem hx
          exact atoi_range (hU.out.2 i (by have := hvl.out; have := HNE.out; omega) hi).1
        have hvlen : vs.length ≤ 1000 := by have := hvl.out; omega
        have HK := Aside0.mk (line_any word A9 c9 vs wr (by omega) (by omega) hvr hC9 hLr)
        have hlaw := numbers_law HN.out HS.out (vs := vs) (by rw [hvl.out, HNE.out]) (fun i hi => hU.out.2 i hi (by rw [hvl.out, ← HNE.out]; exact hi))
        have hval := fun l hp => numbers_vals (word := word) HS.out (vs := vs) (l := l) (by rw [hvl.out, HNE.out]) (fun i hi => (hU.out.2 i hi (by rw [hvl.out, ← HNE.out]; exact hi)).1) hp
        rw [HNE.out] at hlaw hval
        have HVAL := Aside0.mk hval
        have HLAW := Aside0.mk hlaw
        have hbss : (bs s).size ≤ 1073741823 := hs
        have HR := Aside0.mk (Kd.R_lower (base' := w.heap.size) hR.out HB.out.size)
        have HBB := Aside0.mk (below_step HB.out hB.out)
        have hcell : ∃ g, A9 = some ⟨g, 0, none⟩ ∧ ∀ j, j < vs.length → wr.cell? ⟨g, 0 + j, none⟩ = some (.int .i64 (vs.getD j 0)) := by
          obtain ⟨_, inner, ho, _⟩ := hR.out
          rcases ho.2 with ⟨h1, h2⟩ | ⟨g', cap', cur, hv, _⟩
          · have := hvl.out; injection h1; omega
          · injection hv with hv1 hv2 hv3
            refine ⟨g', hv1, fun j hj => ?_⟩
            obtain ⟨ad, e, hc⟩ := KI_at hC9 j hj
            rw [hv1] at e
            injection e with e
            subst e
            rw [List.getD_eq_getElem?_getD, List.getElem?_eq_getElem hj]
            have e2 : (⟨g', 0, none⟩ : Addr).add j = ⟨g', 0 + j, none⟩ := by rw [add_plain, Nat.zero_add]
            rw [e2] at hc
            exact hc
        obtain ⟨g, rfl, hcell⟩ := hcell
        have hpos : 0 < vs.length := by have := hvl.out; omega
        have hmin := minOf_nonneg vs (fun e => by rw [e] at hpos; simp at hpos)
        have HMIN := Aside0.mk hmin
        have HC := Aside0.mk hcell
        clear hl9 hC9 hLr hvr hlaw hval hmin hcell
        by_cases heq : lineL word vs = s ++ [10]
        · have hbeq : ((bs (lineL word vs)).toList == (bs s ++ ⟨#[10]⟩).toList) = true := by
            rw [beq_iff_eq, heq]
            exact congrArg ByteArray.toList (bs_append s [10]).symm
          have HEQ := Aside0.mk heq
          clear heq
          generalize bs (lineL word vs) = D at HK hbeq
          by_cases hm : 0 ≤ Lib.minOf vs
          · obtain ⟨l, hp, hvs⟩ := HLAW.out.1 ⟨HEQ.out, HMIN.out.1 hm⟩
            have HP := Aside0.mk (And.intro hp hvs)
            clear hp hvs
            go_wp2_with (first | (go_at_call 34; refine HK.out.mono ?_; rintro e w2 ⟨rfl, hb2⟩; have hmin := AnyG.slices_Min_int layMin g 0 vs.length c9 vs w2 hpos (Nat.le_refl _) (by omega) (fun j hj => (hb2.cell (World.block_lt_of_cell? wr _ (HC.out j hj))).trans (HC.out j hj)); rw [List.take_length] at hmin; have HM := Aside0.mk hmin; have HB2 := Aside0.mk hb2; clear hb2 hmin) | (go_at_call 48; refine HM.out.mono ?_; rintro e w3 ⟨rfl, hw3⟩; rw [hw3]; clear hw3))
            go_ret2
            obtain ⟨hp, hvs⟩ := HP.out
            exact ⟨_, below_step HBB.out HB2.out, .inr ⟨l, hp, rfl, by rw [← hvs]; exact Kd.R_below HR.out HB2.out⟩⟩
          · have hmd : decide (0 ≤ Lib.minOf vs) = false := decide_eq_false hm
            have hp : parseLine word k s = none := by
              cases hp : parseLine word k s with
              | none => rfl
              | some l =>
                refine absurd ?_ hm
                exact HMIN.out.2 (HLAW.out.2 ⟨l, hp, HVAL.out l hp⟩).2
            have HP := Aside0.mk hp
            clear hp
            go_wp2_with (first | (go_at_call 34; refine HK.out.mono ?_; rintro e w2 ⟨rfl, hb2⟩; have hmin := AnyG.slices_Min_int layMin g 0 vs.length c9 vs w2 hpos (Nat.le_refl _) (by omega) (fun j hj => (hb2.cell (World.block_lt_of_cell? wr _ (HC.out j hj))).trans (HC.out j hj)); rw [List.take_length] at hmin; have HM := Aside0.mk hmin; have HB2 := Aside0.mk hb2; clear hb2 hmin) | (go_at_call 48; refine HM.out.mono ?_; rintro e w3 ⟨rfl, hw3⟩; rw [hw3]; clear hw3))
            go_ret2
            exact ⟨_, below_step HBB.out HB2.out, .inl ⟨HP.out, rfl⟩⟩
        · have hbeq : ((bs (lineL word vs)).toList == (bs s ++ ⟨#[10]⟩).toList) = false := by
            rw [beq_eq_false_iff_ne]
            intro e
            refine heq ?_
            have h2 := congrArg ByteArray.toList (bs_append s [10])
            rw [bs_toList] at h2 e
            exact e.trans h2
          have hp : parseLine word k s = none := by
            cases hp : parseLine word k s with
            | none => rfl
            | some l =>
              refine absurd ?_ heq
              exact (HLAW.out.2 ⟨l, hp, HVAL.out l hp⟩).1
          have HP := Aside0.mk hp
          clear heq hp
          generalize bs (lineL word vs) = D at HK hbeq
          go_wp2_with (go_at_call 34; refine HK.out.mono ?_; rintro e w2 ⟨rfl, hb2⟩; have HB2 := Aside0.mk hb2; clear hb2)
          go_ret2
          exact ⟨_, below_step HBB.out HB2.out, .inl ⟨HP.out, rfl⟩⟩
  · have hp := Aside0.mk (parse_none_len (word := word) HS.out hne)
    have hne' : (((ws.length + 1 : Nat) : Int) != 1 + (size : Int)) = true := by simp; omega
    go_enter Tryd.func36, Tryd.ntmps36
    go_wp2_with (go_at_call 46; refine HSP.out.mono ?_; rintro e w1 ⟨n, hn, rfl, hC, hb⟩; have HC := Aside0.mk hC; have HB := Aside0.mk hb; have hne2 : ((n : Int) != 1 + (size : Int)) = true := (by have := hn.out; simp; omega); clear hC hb)
    go_ret2
    exact ⟨_, HB.out, .inl ⟨hp.out, rfl⟩⟩
end Go.Proofs.YtenpmbebghlnkaaDoor
