/-
  The reference of layer 5: the graph of a text.
-/
import Derived.Test.YtenpmbebghlnkaaDoorKReadP
import Derived.Test.YtenpmbebghlnkaaDoorKDigits
namespace Go.Proofs.YtenpmbebghlnkaaDoor
open Go.RowKit Go.Proofs.YtenpmbebghlnkaaDoorW.PrintWords Go.Proofs.YtenpmbebghlnkaaDoorW.PrintLast Go.Proofs.YtenpmbebghlnkaaDoorW.PrintMore
set_option linter.unusedVariables false
set_option linter.unusedSimpArgs false
attribute [local go_sem] max2_int min2_int max_two min_two max_three min_three max_four min_four
theorem scan_none {s : List UInt8} {i j : Nat} (hj : s.length ≤ j) (hij : i ≤ j) (h : (10 : UInt8) ∉ (s.drop i).take (j - i)) : cutNl (s.drop i) = none := by
  rw [List.take_of_length_le (by rw [List.length_drop]; omega)] at h
  exact cutNl_none.2 h
theorem scan_some {s : List UInt8} {i j : Nat} (hj : j < s.length) (hij : i ≤ j) (h : (10 : UInt8) ∉ (s.drop i).take (j - i)) (hc : s[j] = 10) : cutNl (s.drop i) = some ((s.drop i).take (j - i), s.drop (j + 1)) := by
  have e : s.drop i = (s.drop i).take (j - i) ++ 10 :: s.drop (j + 1) := by
    rw [← hc, ← List.drop_eq_getElem_cons hj]
    have : s.drop j = (s.drop i).drop (j - i) := by rw [List.drop_drop]; congr 1; omega
    rw [this, List.take_append_drop]
  have h2 := cutNl_append (r := s.drop (j + 1)) h
  rw [← e] at h2
  exact h2
theorem scan_step {s : List UInt8} {i j : Nat} (hj : j < s.length) (hij : i ≤ j) (h : (10 : UInt8) ∉ (s.drop i).take (j - i)) (hc : s[j] ≠ 10) : (10 : UInt8) ∉ (s.drop i).take (j + 1 - i) := by
  have e : j + 1 - i = (j - i) + 1 := by omega
  have hl : j - i < (s.drop i).length := by rw [List.length_drop]; omega
  rw [e, List.take_succ_eq_append_getElem hl, List.mem_append, not_or]
  refine ⟨h, ?_⟩
  rw [List.mem_singleton, List.getElem_drop]
  have e2 : s[i + (j - i)]'(by omega) = s[j] := by congr 1; omega
  rw [e2]
  exact fun e => hc e.symm
theorem nums_snoc : ∀ {ws : List (List UInt8)} {l : List Nat} {w : List UInt8} {n : Nat}, nums ws = some l → num9 w = some n → nums (ws ++ [w]) = some (l ++ [n]) := by
  intro ws l w n h1 h2
  obtain ⟨e, hb⟩ := (nums_some ws l).1 h1
  obtain ⟨e2, hb2⟩ := (num9_some w n).1 h2
  refine (nums_some _ _).2 ⟨by rw [e, e2]; simp, ?_⟩
  intro x hx
  rcases List.mem_append.1 hx with hx | hx
  · exact hb x hx
  · rw [List.mem_singleton.1 hx]; exact hb2
def wordAt (k : Nat) : List UInt8 := if k = 1 then graphW else edgeW
def sizeAt (k : Nat) : Nat := if k = 1 then 1 else 3
theorem read_bad {k f : Nat} {n : Int} {acc : List Edge} {rest a r : List UInt8} (hk : 1 ≤ k) (hf : k ≠ 1 → rest.length < f) (h : cutNl rest = some (a, r)) (hp : parseLine (wordAt k) (sizeAt k) a = none) : readFrom k f n acc rest = ⟨0, [], k, 52⟩ := by
  unfold wordAt sizeAt at hp
  by_cases h1 : k = 1
  · subst h1
    exact read_first_bad h hp
  · rw [if_neg h1, if_neg h1] at hp
    obtain ⟨f, rfl⟩ : ∃ m, f = m + 1 := ⟨f - 1, by have := hf h1; omega⟩
    exact read_next_bad (by omega) (fun e => by subst e; cases h) (edgeLine_bad h hp)
theorem read_cut {k f : Nat} {n : Int} {acc : List Edge} {rest : List UInt8} (hk : 1 ≤ k) (hf : k ≠ 1 → rest.length < f) (hne : k ≠ 1 → rest ≠ []) (h : cutNl rest = none) : readFrom k f n acc rest = ⟨0, [], k, 52⟩ := by
  by_cases h1 : k = 1
  · subst h1
    exact read_first_cut h
  · obtain ⟨f, rfl⟩ : ∃ m, f = m + 1 := ⟨f - 1, by have := hf h1; omega⟩
    exact read_next_bad (by omega) (hne h1) (edgeLine_cut h)
theorem ext_bs (S : ByteArray) (i j : Nat) (hij : i ≤ j) (hj : j ≤ S.size) : S.extract i j = bs ((S.data.toList.drop i).take (j - i)) := by
  apply ByteArray.ext
  rw [ByteArray.data_extract]
  unfold bs
  apply Array.ext'
  simp
/-- The state of the reading at a line's head. -/
def RefAt (S : ByteArray) (w wr : World) (k i : Nat) : Prop :=
  ∃ (f : Nat) (n : Int) (acc : List Edge), acc.length ≤ i ∧ readG S.data.toList = readFrom k f n acc (S.data.toList.drop i) ∧ (k ≠ 1 → (S.data.toList.drop i).length < f) ∧ (k = 1 → acc = []) ∧ ReadAt w wr n acc
set_option maxRecDepth 100000 in
set_option maxHeartbeats 4000000 in
theorem refRead_any (S : ByteArray) (hs : S.size ≤ 1000000) (w : World) :
    Calls Tryd.prog 25 #[.string S] w (ReadPost (readG S.data.toList) w) := by
  have z1 : (w.alloc (.cells #[.int .i64 0, .slice none 0 0] 24)).heap.size = w.heap.size + 1 := by simp
  have hst : ReadAt w ((w.alloc (.cells #[.int .i64 0, .slice none 0 0] 24)).alloc (.cells #[.int .i64 0, .slice none 0 0] 24)) 0 [] := by
    refine ⟨((Below.refl _ w).alloc (Nat.le_refl _) _).alloc (by simp) _, ?_, .slice none 0 0, ?_, Kd.R_nil _ _ _ _ _⟩
    · rw [Below.heap_alloc _ _ _ (by rw [z1]; omega)]
      exact Array.getElem?_push_size
    · rw [← z1]
      exact Array.getElem?_push_size
  have HST := Aside0.mk (show RefAt S w _ 1 0 from ⟨0, 0, [], Nat.le_refl _, rfl, fun h => absurd rfl h, fun _ => rfl, hst⟩)
  have hl : S.data.toList.length = S.size := by simp
  have HLN := Lib.hid hl
  clear z1 hst hl
  go_enter Tryd.func25, Tryd.ntmps25
  go_wp2
  go_loopw [6, 7] (fun v6 v7 wr => ∃ (k i : Nat), 1 ≤ k ∧ k ≤ i + 1 ∧ i ≤ S.size ∧ v6 = .int .i64 i ∧ v7 = .int .i64 k ∧ Aside0 (RefAt S w wr k i)) (fun v6 _ _ => S.size - (intOf v6).toNat)
  case atStart => exact ⟨1, 0, Nat.le_refl _, Nat.le_refl _, Nat.zero_le _, rfl, rfl, HST⟩
  case round =>
    obtain ⟨k, i, hk1, hki, hi, rfl, rfl, hM⟩ := hrel
    obtain ⟨wo, rfl⟩ : ∃ wo : World, wo = wr := ⟨_, rfl⟩
    by_cases hk : k = 1
    · have hkb : ((k : Int) == 1) = true := by rw [hk]; rfl
      have HK1 := Lib.hid hk
      have hk1' : k ≤ 1 := by omega
      clear hk
      go_wp2
      go_loop [8] (fun v8 => ∃ j : Nat, i ≤ j ∧ j ≤ S.size ∧ v8 = .int .i64 j ∧ Aside0 ((10 : UInt8) ∉ (S.data.toList.drop i).take (j - i))) (fun v8 => S.size - (intOf v8).toNat)
      case atStart => exact ⟨i, Nat.le_refl _, hi, rfl, ⟨by rw [Nat.sub_self]; simp⟩⟩
      case round =>
        obtain ⟨j, hij, hj, rfl, hS⟩ := hrel
        by_cases hlt : j < S.size
        · by_cases hc : S[j] = 10
          · have hcb : ((S[j].toNat : Int) != 10) = false := by rw [hc]; rfl
            have hjne : ((j : Int) == (S.size : Int)) = false := by rw [beq_eq_false_iff_ne]; omega
            have hcut : cutNl (S.data.toList.drop i) = some ((S.data.toList.drop i).take (j - i), S.data.toList.drop (j + 1)) := scan_some (by rw [HLN.out]; exact hlt) hij hS.out hc
            have HCUT := Aside0.mk hcut
            have hal : ((S.data.toList.drop i).take (j - i)).length ≤ 1000000 := by rw [List.length_take, List.length_drop, HLN.out]; omega
            obtain ⟨a, ha⟩ : ∃ a, (S.data.toList.drop i).take (j - i) = a := ⟨_, rfl⟩
            have hsl : (Instr.slice 9 (.string S) (some (.int .i64 (i : Int))) (some (.int .i64 (j : Int))) none).run Tryd.prog wo = .ok (.string (bs a)) wo := by
              have h1 := run_slice_string (P := Tryd.prog) wo 9 S .i64 .i64 (i : Int) (j : Int) Tryd.underlying9 (by omega) (by omega) (by omega)
              rw [Int.toNat_natCast, Int.toNat_natCast, ext_bs S i j hij hj, ha] at h1
              exact h1
            rw [ha] at HCUT hal
            have hW := words_any (bs a) (by rw [bs_size]; omega) wo
            obtain ⟨w0, ws, hsp⟩ := splitOn_ne 32 a
            have hwl := splitOn_len 32 a
            rw [show (bs a).data.toList = a from rfl, hsp] at hW
            rw [hsp] at hwl
            simp only [List.length_cons] at hwl
            have HSP := Aside0.mk hsp
            have HW := Aside0.mk hW
            have HM := Aside0.mk hM.out
            clear hc hcut ha hW hsp hM
            generalize bs a = BA at hsl HW
            go_wp2_with (go_at_call 38; refine HW.out.mono ?_; rintro e w2 ⟨v9, rfl, hR9, hb2⟩; obtain ⟨A9, c9, rfl, hc9, hC9⟩ := Kd.R_reads hR9; rw [List.length_map, List.length_cons] at hC9; have HC9 := Aside0.mk hC9; have HB2 := Aside0.mk hb2; clear hR9 hC9 hc9 hb2)
            have h9 := lit0_R KI 3 w2 w2.heap.size (Nat.le_refl _)
            have hb9 := (Below.refl _ w2).alloc (Nat.le_refl w2.heap.size) (.cells #[] 3)
            have H9 := Aside0.mk h9
            have HB9 := Aside0.mk hb9
            clear h9 hb9
            go_loopw [10, 11] (fun v10 v11 wr => ∃ (m : Nat) (l : List Nat), m ≤ ws.length ∧ v11 = .int .i64 ((m : Int) + 1) ∧ Hid (l.length = m) ∧ Aside0 (nums (ws.take m) = some l) ∧ Aside0 (KI.R 3 wr w2.heap.size (fun _ => True) v10 (l.map fun (x : Nat) => (x : Int))) ∧ Aside0 (Below w2.heap.size w2 wr)) (fun _ v11 _ => ws.length + 1 - (intOf v11).toNat)
            case atStart => exact ⟨0, [], Nat.zero_le _, by simp, Lib.hid rfl, ⟨rfl⟩, H9, HB9⟩
            case round =>
              obtain ⟨m, l, hm, rfl, hll, hN, hR, hB⟩ := hrel
              have hszr := hB.out.size
              have i1 : (0 : Int) ≤ (m : Int) + 1 := by omega
              have i2 : ((m : Int) + 1).toNat = m + 1 := by omega
              have hM3 : RefAt S w wr k i := by
                obtain ⟨f, n, acc, q1, q2, q3, q4, q5⟩ := HM.out
                exact ⟨f, n, acc, q1, q2, q3, q4, (q5.below HB2.out).below (hB.out)⟩
              have HM3 := Aside0.mk hM3
              clear hM3
              by_cases hltm : m < ws.length
              · obtain ⟨ad, rfl, hcell⟩ := KS_at (Kd.C_below HC9.out hB.out) (m + 1) (by simp; omega)
                rw [List.getElem_map, List.getElem_cons_succ] at hcell
                have hcell : wr.cell? ⟨ad.block, ad.off + (m + 1), none⟩ = some (.string (bs ws[m])) := by simpa [Addr.add] using hcell
                have hwlen : (bs ws[m]).size ≤ 1073741824 := by
                  obtain ⟨e, _, _⟩ := join_splitOn HSP.out
                  obtain ⟨x, y, e2⟩ := List.append_of_mem (List.getElem_mem hltm)
                  rw [bs_size]
                  have h1 : a.length ≤ 1000000 := hal
                  have h2 : ws[m].length ≤ (joinOn 32 ws).length := by
                    have h3 : joinOn 32 ws = joinOn 32 (x ++ ws[m] :: y) := by rw [← e2]
                    rw [h3]
                    unfold joinOn
                    simp
                    omega
                  rw [e, List.length_append] at h1
                  omega
                have hnum := number_any (bs ws[m]) hwlen wr
                rw [show (bs ws[m]).data.toList = ws[m] from rfl] at hnum
                cases hv : num9 ws[m] with
                | none =>
                  rw [numI_none hv] at hnum
                  have hpar : parseLine (wordAt k) (sizeAt k) a = none := by
                    rw [parseLine_of HSP.out]
                    split
                    · exact nums_none_at ws m hltm hv
                    · rfl
                  have HR := Lib.hid (show readG S.data.toList = ⟨0, [], k, 52⟩ by
                    obtain ⟨f, n, acc, q1, q2, q3, q4, q5⟩ := HM.out
                    exact q2.trans (read_bad hk1 q3 HCUT.out hpar))
                  have HNUM := Aside0.mk hnum
                  have hat : ∃ n acc, ReadAt w wr n acc := by
                    obtain ⟨f, n, acc, q1, q2, q3, q4, q5⟩ := HM3.out
                    exact ⟨n, acc, q5⟩
                  obtain ⟨n, acc, hat⟩ := hat
                  have c0 : wr.cell? ⟨w.heap.size, 0, none⟩ = some (.int .i64 0) := by rw [blk_cell hat.2.1]; rfl
                  have c1 : wr.cell? ⟨w.heap.size, 1, none⟩ = some (.slice none 0 0) := by rw [blk_cell hat.2.1]; rfl
                  have f0 := blk_frozen hat.2.1 0
                  have f1 := blk_frozen hat.2.1 1
                  have HBL := Aside0.mk hat.1
                  clear hnum hpar hat hv hwlen
                  generalize bs ws[m] = X at hcell HNUM
                  go_wp2_with (go_at_call 39; refine HNUM.out.mono ?_; rintro e w3 ⟨rfl, hw3⟩; rw [← hw3]; clear hw3)
                  refine bodyPost_ret (v := .tuple #[.agg #[.int .i64 0, .slice none 0 0], .int .i64 k, .int .i64 52]) (by simp [results, Tryd.results25, go_sem, *]) rfl (read_err' (k := k) HR.out ((HBL.out.setCell (by simp) _).setCell (by simp) _))
                | some x =>
                  rw [numI_some hv] at hnum
                  have HNUM := Aside0.mk hnum
                  have HNS := Aside0.mk (show nums (ws.take (m + 1)) = some (l ++ [x]) by rw [List.take_succ_eq_append_getElem hltm]; exact nums_snoc hN.out hv)
                  have HLL := Lib.hid (show (l ++ [x]).length = m + 1 by rw [List.length_append, hll.out]; rfl)
                  have hx9 : x < 1000000000 := ((num9_some _ _).1 hv).2
                  have hlm : (l.map fun (x : Nat) => (x : Int)).length ≤ 1000001 := by rw [List.length_map, hll.out]; omega
                  clear hnum hv hwlen
                  generalize bs ws[m] = X at hcell HNUM
                  go_wp2_with (first | (go_at_call 39; refine HNUM.out.mono ?_; rintro e w3 ⟨rfl, hw3⟩; rw [← hw3]; clear hw3) | (at_builtin; refine Kd.R_append KI (w0 := w2) w2.heap.size rfl (.tmp 67) (.tmp 69) 57 3 (.int .i64 0) 8 rfl Tryd.underlying57 infoInt rfl (by decide) (by decide) _ (l.map fun (x : Nat) => (x : Int)) (x : Int) [.int .i64 (x : Int)] (fun _ => True) (fun _ => False) rfl rfl rfl (fun _ hk => hk.elim) (fun _ _ => trivial) hR.out hB.out hszr (by omega) ?_; intro v3 w3 hR3 hB3 hg3 hat3; have HR3 := Aside0.mk hR3; have HB3 := Aside0.mk hB3; clear hR3 hB3 hg3 hat3))
                  go_roundw
                  case rel => exact ⟨m + 1, l ++ [x], by omega, by go_num, HLL, HNS, ⟨by rw [List.map_append]; exact HR3.out⟩, HB3⟩
                  case measure => simp [intOf]; omega
              · obtain rfl : m = ws.length := by omega
                obtain ⟨ad, rfl, hc0⟩ := KS_at (Kd.C_below HC9.out hB.out) 0 (by simp)
                rw [List.getElem_map, List.getElem_cons_zero] at hc0
                have hcell : wr.cell? ad = some (.string (bs w0)) := by simpa [Addr.add] using hc0
                have hN := hN.out
                rw [List.take_length] at hN
                obtain ⟨A10, c10, rfl, hl10, hC10⟩ := Kd.R_reads hR.out
                rw [List.length_map, hll.out] at hC10
                rw [List.length_map, hll.out]
                have HC10 := Aside0.mk hC10
                have HN := Aside0.mk hN
                clear hc0 hN hl10 hC10
                by_cases hw0 : w0 = graphW
                · have hX : (bs w0).toList = [103, 114, 97, 112, 104] := by rw [bs_toList, hw0]; rfl
                  by_cases h1 : ws.length = 1
                  · have hb1 : ((ws.length : Int) == 1) = true := by rw [h1]; rfl
                    obtain ⟨x, rfl⟩ : ∃ x, l = [x] := by
                      have := hll.out
                      match l, this.trans h1 with
                      | [x], _ => exact ⟨x, rfl⟩
                    have HPAR := Aside0.mk (show parseLine graphW 1 a = some [x] by rw [parseLine_of HSP.out, if_pos ⟨hw0, h1⟩]; exact HN.out)
                    obtain ⟨ad2, rfl, i0⟩ := KI_at HC10.out 0 (by simp)
                    have i1' : wr.cell? ad2 = some (.int .i64 x) := by simpa [Addr.add] using i0
                    obtain ⟨n, hat⟩ : ∃ n, ReadAt w wr n [] := by
                      obtain ⟨f, n, acc, q1, q2, q3, q4, q5⟩ := HM3.out
                      rw [q4 HK1.out] at q5
                      exact ⟨n, q5⟩
                    obtain ⟨u, hu1, hu2⟩ := hat.2.2
                    have d0 : wr.cell? ⟨w.heap.size + 1, 0, none⟩ = some (.int .i64 n) := by rw [blk_cell hu1]; rfl
                    have g0 := blk_frozen hu1 0
                    have hpos : 0 < ws.length := by omega
                    have HAT := Aside0.mk hat
                    have HRF := Aside0.mk (show readG S.data.toList = readFrom 2 ((S.data.toList.drop (j + 1)).length + 1) x [] (S.data.toList.drop (j + 1)) by
                      obtain ⟨f, n, acc, q1, q2, q3, q4, q5⟩ := HM.out
                      rw [HK1.out] at q2
                      exact q2.trans (read_first HCUT.out HPAR.out))
                    clear hat hu1 hu2 i0 hw0 h1
                    generalize bs w0 = X at hcell hX
                    go_wp2
                    go_roundw
                    case rel => exact ⟨2, j + 1, by omega, by omega, by omega, by go_num, by rw [HK1.out]; go_num, ⟨_, _, [], by simp, HRF.out, fun _ => Nat.lt_succ_self _, fun h => absurd h (by decide), HAT.out.setN x⟩⟩
                    case measure => simp [intOf]; omega
                  · have hb1 : ((ws.length : Int) == 1) = false := by rw [beq_eq_false_iff_ne]; omega
                    have HR := Lib.hid (show readG S.data.toList = ⟨0, [], k, 52⟩ by
                      obtain ⟨f, n, acc, q1, q2, q3, q4, q5⟩ := HM.out
                      exact q2.trans (read_bad hk1 q3 HCUT.out (by
                        rw [parseLine_of HSP.out, if_neg]
                        unfold wordAt sizeAt
                        rw [if_pos HK1.out, if_pos HK1.out]
                        rintro ⟨e1, e2⟩
                        exact h1 e2)))
                    obtain ⟨n, acc, hat⟩ : ∃ n acc, ReadAt w wr n acc := by
                      obtain ⟨f, n, acc, q1, q2, q3, q4, q5⟩ := HM3.out
                      exact ⟨n, acc, q5⟩
                    have c0 : wr.cell? ⟨w.heap.size, 0, none⟩ = some (.int .i64 0) := by rw [blk_cell hat.2.1]; rfl
                    have c1 : wr.cell? ⟨w.heap.size, 1, none⟩ = some (.slice none 0 0) := by rw [blk_cell hat.2.1]; rfl
                    have f0 := blk_frozen hat.2.1 0
                    have f1 := blk_frozen hat.2.1 1
                    have HBL := Aside0.mk hat.1
                    clear hat hw0 h1
                    generalize bs w0 = X at hcell hX
                    go_wp2
                    refine bodyPost_ret (v := .tuple #[.agg #[.int .i64 0, .slice none 0 0], .int .i64 k, .int .i64 52]) (by simp [results, Tryd.results25, go_sem, *]) rfl (read_err' (k := k) HR.out ((HBL.out.setCell (by simp) _).setCell (by simp) _))
                · have hX : ¬ (bs w0).toList = [103, 114, 97, 112, 104] := by rw [bs_toList]; exact hw0
                  have HR := Lib.hid (show readG S.data.toList = ⟨0, [], k, 52⟩ by
                    obtain ⟨f, n, acc, q1, q2, q3, q4, q5⟩ := HM.out
                    exact q2.trans (read_bad hk1 q3 HCUT.out (by
                      rw [parseLine_of HSP.out, if_neg]
                      unfold wordAt sizeAt
                      rw [if_pos HK1.out, if_pos HK1.out]
                      rintro ⟨e1, e2⟩
                      exact hw0 e1)))
                  obtain ⟨n, acc, hat⟩ : ∃ n acc, ReadAt w wr n acc := by
                    obtain ⟨f, n, acc, q1, q2, q3, q4, q5⟩ := HM3.out
                    exact ⟨n, acc, q5⟩
                  have c0 : wr.cell? ⟨w.heap.size, 0, none⟩ = some (.int .i64 0) := by rw [blk_cell hat.2.1]; rfl
                  have c1 : wr.cell? ⟨w.heap.size, 1, none⟩ = some (.slice none 0 0) := by rw [blk_cell hat.2.1]; rfl
                  have f0 := blk_frozen hat.2.1 0
                  have f1 := blk_frozen hat.2.1 1
                  have HBL := Aside0.mk hat.1
                  clear hat hw0
                  generalize bs w0 = X at hcell hX
                  go_wp2
                  refine bodyPost_ret (v := .tuple #[.agg #[.int .i64 0, .slice none 0 0], .int .i64 k, .int .i64 52]) (by simp [results, Tryd.results25, go_sem, *]) rfl (read_err' (k := k) HR.out ((HBL.out.setCell (by simp) _).setCell (by simp) _))
          · have hcb : ((S[j].toNat : Int) != 10) = true := by
              rw [bne_iff_ne]
              intro e
              exact hc (UInt8.toNat_inj.1 (by have : (10 : UInt8).toNat = 10 := rfl; omega))
            have HS := Aside0.mk (scan_step (by rw [HLN.out]; exact hlt) hij hS.out hc)
            clear hc
            go_wp2
            go_round
            case rel => exact ⟨j + 1, by omega, by omega, by go_num, HS⟩
            case measure => simp [intOf]; omega
        · obtain rfl : j = S.size := by omega
          have HR := Lib.hid (show readG S.data.toList = ⟨0, [], k, 52⟩ by
            obtain ⟨f, n, acc, q1, q2, q3, q4, q5⟩ := hM.out
            exact q2.trans (read_cut hk1 q3 (fun h => absurd HK1.out h) (scan_none (by rw [HLN.out]; exact Nat.le_refl _) hij hS.out)))
          obtain ⟨n, acc, hat⟩ : ∃ n acc, ReadAt w wo n acc := by
            obtain ⟨f, n, acc, q1, q2, q3, q4, q5⟩ := hM.out
            exact ⟨n, acc, q5⟩
          have c0 : wo.cell? ⟨w.heap.size, 0, none⟩ = some (.int .i64 0) := by rw [blk_cell hat.2.1]; rfl
          have c1 : wo.cell? ⟨w.heap.size, 1, none⟩ = some (.slice none 0 0) := by rw [blk_cell hat.2.1]; rfl
          have f0 := blk_frozen hat.2.1 0
          have f1 := blk_frozen hat.2.1 1
          have HBL := Aside0.mk hat.1
          clear hat
          go_wp2
          refine bodyPost_ret (v := .tuple #[.agg #[.int .i64 0, .slice none 0 0], .int .i64 k, .int .i64 52]) (by simp [results, Tryd.results25, go_sem, *]) rfl (read_err' (k := k) HR.out ((HBL.out.setCell (by simp) _).setCell (by simp) _))
    · have hkb : ((k : Int) == 1) = false := by rw [beq_eq_false_iff_ne]; omega
      have HK1 := Lib.hid hk
      have hk1' : 1 < k := by omega
      clear hk
      by_cases hil : i < S.size
      · skip
        go_wp2
        go_loop [8] (fun v8 => ∃ j : Nat, i ≤ j ∧ j ≤ S.size ∧ v8 = .int .i64 j ∧ Aside0 ((10 : UInt8) ∉ (S.data.toList.drop i).take (j - i))) (fun v8 => S.size - (intOf v8).toNat)
        case atStart => exact ⟨i, Nat.le_refl _, hi, rfl, ⟨by rw [Nat.sub_self]; simp⟩⟩
        case round =>
          obtain ⟨j, hij, hj, rfl, hS⟩ := hrel
          by_cases hlt : j < S.size
          · by_cases hc : S[j] = 10
            · have hcb : ((S[j].toNat : Int) != 10) = false := by rw [hc]; rfl
              have hjne : ((j : Int) == (S.size : Int)) = false := by rw [beq_eq_false_iff_ne]; omega
              have hcut : cutNl (S.data.toList.drop i) = some ((S.data.toList.drop i).take (j - i), S.data.toList.drop (j + 1)) := scan_some (by rw [HLN.out]; exact hlt) hij hS.out hc
              have HCUT := Aside0.mk hcut
              have hal : ((S.data.toList.drop i).take (j - i)).length ≤ 1000000 := by rw [List.length_take, List.length_drop, HLN.out]; omega
              obtain ⟨a, ha⟩ : ∃ a, (S.data.toList.drop i).take (j - i) = a := ⟨_, rfl⟩
              have hsl : (Instr.slice 9 (.string S) (some (.int .i64 (i : Int))) (some (.int .i64 (j : Int))) none).run Tryd.prog wo = .ok (.string (bs a)) wo := by
                have h1 := run_slice_string (P := Tryd.prog) wo 9 S .i64 .i64 (i : Int) (j : Int) Tryd.underlying9 (by omega) (by omega) (by omega)
                rw [Int.toNat_natCast, Int.toNat_natCast, ext_bs S i j hij hj, ha] at h1
                exact h1
              rw [ha] at HCUT hal
              have hW := words_any (bs a) (by rw [bs_size]; omega) wo
              obtain ⟨w0, ws, hsp⟩ := splitOn_ne 32 a
              have hwl := splitOn_len 32 a
              rw [show (bs a).data.toList = a from rfl, hsp] at hW
              rw [hsp] at hwl
              simp only [List.length_cons] at hwl
              have HSP := Aside0.mk hsp
              have HW := Aside0.mk hW
              have HM := Aside0.mk hM.out
              clear hc hcut ha hW hsp hM
              generalize bs a = BA at hsl HW
              go_wp2_with (go_at_call 38; refine HW.out.mono ?_; rintro e w2 ⟨v9, rfl, hR9, hb2⟩; obtain ⟨A9, c9, rfl, hc9, hC9⟩ := Kd.R_reads hR9; rw [List.length_map, List.length_cons] at hC9; have HC9 := Aside0.mk hC9; have HB2 := Aside0.mk hb2; clear hR9 hC9 hc9 hb2)
              have h9 := lit0_R KI 3 w2 w2.heap.size (Nat.le_refl _)
              have hb9 := (Below.refl _ w2).alloc (Nat.le_refl w2.heap.size) (.cells #[] 3)
              have H9 := Aside0.mk h9
              have HB9 := Aside0.mk hb9
              clear h9 hb9
              go_loopw [10, 11] (fun v10 v11 wr => ∃ (m : Nat) (l : List Nat), m ≤ ws.length ∧ v11 = .int .i64 ((m : Int) + 1) ∧ Hid (l.length = m) ∧ Aside0 (nums (ws.take m) = some l) ∧ Aside0 (KI.R 3 wr w2.heap.size (fun _ => True) v10 (l.map fun (x : Nat) => (x : Int))) ∧ Aside0 (Below w2.heap.size w2 wr)) (fun _ v11 _ => ws.length + 1 - (intOf v11).toNat)
              case atStart => exact ⟨0, [], Nat.zero_le _, by simp, Lib.hid rfl, ⟨rfl⟩, H9, HB9⟩
              case round =>
                obtain ⟨m, l, hm, rfl, hll, hN, hR, hB⟩ := hrel
                have hszr := hB.out.size
                have i1 : (0 : Int) ≤ (m : Int) + 1 := by omega
                have i2 : ((m : Int) + 1).toNat = m + 1 := by omega
                have hM3 : RefAt S w wr k i := by
                  obtain ⟨f, n, acc, q1, q2, q3, q4, q5⟩ := HM.out
                  exact ⟨f, n, acc, q1, q2, q3, q4, (q5.below HB2.out).below (hB.out)⟩
                have HM3 := Aside0.mk hM3
                clear hM3
                by_cases hltm : m < ws.length
                · obtain ⟨ad, rfl, hcell⟩ := KS_at (Kd.C_below HC9.out hB.out) (m + 1) (by simp; omega)
                  rw [List.getElem_map, List.getElem_cons_succ] at hcell
                  have hcell : wr.cell? ⟨ad.block, ad.off + (m + 1), none⟩ = some (.string (bs ws[m])) := by simpa [Addr.add] using hcell
                  have hwlen : (bs ws[m]).size ≤ 1073741824 := by
                    obtain ⟨e, _, _⟩ := join_splitOn HSP.out
                    obtain ⟨x, y, e2⟩ := List.append_of_mem (List.getElem_mem hltm)
                    rw [bs_size]
                    have h1 : a.length ≤ 1000000 := hal
                    have h2 : ws[m].length ≤ (joinOn 32 ws).length := by
                      have h3 : joinOn 32 ws = joinOn 32 (x ++ ws[m] :: y) := by rw [← e2]
                      rw [h3]
                      unfold joinOn
                      simp
                      omega
                    rw [e, List.length_append] at h1
                    omega
                  have hnum := number_any (bs ws[m]) hwlen wr
                  rw [show (bs ws[m]).data.toList = ws[m] from rfl] at hnum
                  cases hv : num9 ws[m] with
                  | none =>
                    rw [numI_none hv] at hnum
                    have hpar : parseLine (wordAt k) (sizeAt k) a = none := by
                      rw [parseLine_of HSP.out]
                      split
                      · exact nums_none_at ws m hltm hv
                      · rfl
                    have HR := Lib.hid (show readG S.data.toList = ⟨0, [], k, 52⟩ by
                      obtain ⟨f, n, acc, q1, q2, q3, q4, q5⟩ := HM.out
                      exact q2.trans (read_bad hk1 q3 HCUT.out hpar))
                    have HNUM := Aside0.mk hnum
                    have hat : ∃ n acc, ReadAt w wr n acc := by
                      obtain ⟨f, n, acc, q1, q2, q3, q4, q5⟩ := HM3.out
                      exact ⟨n, acc, q5⟩
                    obtain ⟨n, acc, hat⟩ := hat
                    have c0 : wr.cell? ⟨w.heap.size, 0, none⟩ = some (.int .i64 0) := by rw [blk_cell hat.2.1]; rfl
                    have c1 : wr.cell? ⟨w.heap.size, 1, none⟩ = some (.slice none 0 0) := by rw [blk_cell hat.2.1]; rfl
                    have f0 := blk_frozen hat.2.1 0
                    have f1 := blk_frozen hat.2.1 1
                    have HBL := Aside0.mk hat.1
                    clear hnum hpar hat hv hwlen
                    generalize bs ws[m] = X at hcell HNUM
                    go_wp2_with (go_at_call 39; refine HNUM.out.mono ?_; rintro e w3 ⟨rfl, hw3⟩; rw [← hw3]; clear hw3)
                    refine bodyPost_ret (v := .tuple #[.agg #[.int .i64 0, .slice none 0 0], .int .i64 k, .int .i64 52]) (by simp [results, Tryd.results25, go_sem, *]) rfl (read_err' (k := k) HR.out ((HBL.out.setCell (by simp) _).setCell (by simp) _))
                  | some x =>
                    rw [numI_some hv] at hnum
                    have HNUM := Aside0.mk hnum
                    have HNS := Aside0.mk (show nums (ws.take (m + 1)) = some (l ++ [x]) by rw [List.take_succ_eq_append_getElem hltm]; exact nums_snoc hN.out hv)
                    have HLL := Lib.hid (show (l ++ [x]).length = m + 1 by rw [List.length_append, hll.out]; rfl)
                    have hx9 : x < 1000000000 := ((num9_some _ _).1 hv).2
                    have hlm : (l.map fun (x : Nat) => (x : Int)).length ≤ 1000001 := by rw [List.length_map, hll.out]; omega
                    clear hnum hv hwlen
                    generalize bs ws[m] = X at hcell HNUM
                    go_wp2_with (first | (go_at_call 39; refine HNUM.out.mono ?_; rintro e w3 ⟨rfl, hw3⟩; rw [← hw3]; clear hw3) | (at_builtin; refine Kd.R_append KI (w0 := w2) w2.heap.size rfl (.tmp 67) (.tmp 69) 57 3 (.int .i64 0) 8 rfl Tryd.underlying57 infoInt rfl (by decide) (by decide) _ (l.map fun (x : Nat) => (x : Int)) (x : Int) [.int .i64 (x : Int)] (fun _ => True) (fun _ => False) rfl rfl rfl (fun _ hk => hk.elim) (fun _ _ => trivial) hR.out hB.out hszr (by omega) ?_; intro v3 w3 hR3 hB3 hg3 hat3; have HR3 := Aside0.mk hR3; have HB3 := Aside0.mk hB3; clear hR3 hB3 hg3 hat3))
                    go_roundw
                    case rel => exact ⟨m + 1, l ++ [x], by omega, by go_num, HLL, HNS, ⟨by rw [List.map_append]; exact HR3.out⟩, HB3⟩
                    case measure => simp [intOf]; omega
                · obtain rfl : m = ws.length := by omega
                  obtain ⟨ad, rfl, hc0⟩ := KS_at (Kd.C_below HC9.out hB.out) 0 (by simp)
                  rw [List.getElem_map, List.getElem_cons_zero] at hc0
                  have hcell : wr.cell? ad = some (.string (bs w0)) := by simpa [Addr.add] using hc0
                  have hN := hN.out
                  rw [List.take_length] at hN
                  obtain ⟨A10, c10, rfl, hl10, hC10⟩ := Kd.R_reads hR.out
                  rw [List.length_map, hll.out] at hC10
                  rw [List.length_map, hll.out]
                  have HC10 := Aside0.mk hC10
                  have HN := Aside0.mk hN
                  clear hc0 hN hl10 hC10
                  by_cases hw0 : w0 = edgeW
                  · have hX : (bs w0).toList = [101, 100, 103, 101] := by rw [bs_toList, hw0]; rfl
                    by_cases h1 : ws.length = 3
                    · have hb1 : ((ws.length : Int) == 3) = true := by rw [h1]; rfl
                      obtain ⟨x, y, z, rfl⟩ : ∃ x y z, l = [x, y, z] := by
                        have := hll.out
                        match l, this.trans h1 with
                        | [x, y, z], _ => exact ⟨x, y, z, rfl⟩
                      have HPAR := Aside0.mk (show parseLine edgeW 3 a = some [x, y, z] by rw [parseLine_of HSP.out, if_pos ⟨hw0, h1⟩]; exact HN.out)
                      obtain ⟨ad2, rfl, i0⟩ := KI_at HC10.out 0 (by simp)
                      obtain ⟨ad', e1, i1'⟩ := KI_at HC10.out 1 (by simp)
                      obtain rfl : ad2 = ad' := by injection e1
                      obtain ⟨ad', e2, i2'⟩ := KI_at HC10.out 2 (by simp)
                      obtain rfl : ad2 = ad' := by injection e2
                      have j0 : wr.cell? ad2 = some (.int .i64 x) := by simpa [Addr.add] using i0
                      have j1 : wr.cell? ⟨ad2.block, ad2.off + 1, none⟩ = some (.int .i64 y) := by simpa [Addr.add] using i1'
                      have j2 : wr.cell? ⟨ad2.block, ad2.off + 2, none⟩ = some (.int .i64 z) := by simpa [Addr.add] using i2'
                      obtain ⟨f, n, acc, hacc, hat, hrf, hfl⟩ : ∃ f n acc, acc.length ≤ i ∧ ReadAt w wr n acc ∧ readG S.data.toList = readFrom (k + 1) f n (acc ++ [⟨x, y, z⟩]) (S.data.toList.drop (j + 1)) ∧ (S.data.toList.drop (j + 1)).length < f := by
                        obtain ⟨f, n, acc, q1, q2, q3, q4, q5⟩ := HM3.out
                        have q3' := q3 HK1.out
                        obtain ⟨f, rfl⟩ : ∃ m, f = m + 1 := ⟨f - 1, by omega⟩
                        refine ⟨f, n, acc, q1, q5, q2.trans (read_next (by omega) HCUT.out HPAR.out), ?_⟩
                        rw [List.length_drop, HLN.out] at q3' ⊢
                        omega
                      have HRF := Aside0.mk hrf
                      have HFL := Aside0.mk hfl
                      obtain ⟨hB3, hB0, u, hu1, hu2⟩ := hat
                      have hsz3 := hB3.size
                      have hlt3 : w.heap.size + 1 < wr.heap.size := blk_lt hu1
                      have d1 : wr.cell? ⟨w.heap.size + 1, 1, none⟩ = some u := by rw [blk_cell hu1]; rfl
                      have hgne : some (w.heap.size + 1) ≠ u.ownBlock := graph_apart hu1 hu2
                      have HRD : Aside0 (KE.R 45 wr.drew w.heap.size (fun _ => True) u acc) := ⟨Kd.R_step hu2 (fun _ _ _ => rfl)⟩
                      have B0 := Aside0.mk hB0
                      have B1 := Aside0.mk hu1
                      have HB := Aside0.mk hB3
                      have p0 : (0 : Int) < (ws.length : Int) := by omega
                      have p1 : (1 : Int) < (ws.length : Int) := by omega
                      have p2 : (2 : Int) < (ws.length : Int) := by omega
                      have q0 : 0 < ws.length := by omega
                      clear hB0 hu1 hu2 hB3 i0 i1' i2' e1 e2 hw0 hrf hfl
                      generalize bs w0 = X at hcell hX
                      go_wp2
                      go_region_law ((refine Kd.R_append_step KE (w0 := w) (W := wr.drew) w.heap.size (by rfl) (.tmp 102) (.tmp 113) 22 45 (.agg #[.int .i64 0, .int .i64 0, .int .i64 0]) 24 (by rfl) Tryd.underlying22 infoE rfl (by decide) (by decide) u acc ⟨x, y, z⟩ [.int .i64 x, .int .i64 y, .int .i64 z] (fun _ => True) (fun _ => False) (by rfl) (by rfl) rfl (fun _ hk => hk.elim) (fun _ _ => trivial) HRD.out HB.out.drew hsz3 (by omega) ?_; intro v1 w1 hR1 hB1 hg1 hat1; have HX := Aside0.mk (ReadAt.push (wr := wr.drew) B0.out B1.out HRD.out hB1 hR1 hg1); have hw1 := blk_frozen (blk_grown (w := wr.drew) B1.out hg1 hgne) 1; have hw2 : w1.cell? ⟨w.heap.size + 1, 1, none⟩ = some u := (by rw [blk_cell (blk_grown (w := wr.drew) B1.out hg1 hgne)]; rfl); obtain ⟨A1, k1, c1, rfl⟩ : ∃ A k c, v1 = .slice A k c := (by obtain ⟨A, c, e⟩ := Kd.R_slice hR1; exact ⟨A, _, c, e⟩); clear hR1 hB1 hg1 hat1))
                      all_goals
                        go_wp2
                        go_roundw
                        case rel => exact ⟨k + 1, j + 1, by omega, by omega, by omega, by go_num, by go_num, ⟨⟨_, _, _, by simp; omega, HRF.out, fun _ => HFL.out, fun h => by omega, HX.out⟩⟩⟩
                        case measure => simp [intOf]; omega
                    · have hb1 : ((ws.length : Int) == 3) = false := by rw [beq_eq_false_iff_ne]; omega
                      have HR := Lib.hid (show readG S.data.toList = ⟨0, [], k, 52⟩ by
                        obtain ⟨f, n, acc, q1, q2, q3, q4, q5⟩ := HM.out
                        exact q2.trans (read_bad hk1 q3 HCUT.out (by
                          rw [parseLine_of HSP.out, if_neg]
                          unfold wordAt sizeAt
                          rw [if_neg HK1.out, if_neg HK1.out]
                          rintro ⟨e1, e2⟩
                          exact h1 e2)))
                      obtain ⟨n, acc, hat⟩ : ∃ n acc, ReadAt w wr n acc := by
                        obtain ⟨f, n, acc, q1, q2, q3, q4, q5⟩ := HM3.out
                        exact ⟨n, acc, q5⟩
                      have c0 : wr.cell? ⟨w.heap.size, 0, none⟩ = some (.int .i64 0) := by rw [blk_cell hat.2.1]; rfl
                      have c1 : wr.cell? ⟨w.heap.size, 1, none⟩ = some (.slice none 0 0) := by rw [blk_cell hat.2.1]; rfl
                      have f0 := blk_frozen hat.2.1 0
                      have f1 := blk_frozen hat.2.1 1
                      have HBL := Aside0.mk hat.1
                      clear hat hw0 h1
                      generalize bs w0 = X at hcell hX
                      go_wp2
                      refine bodyPost_ret (v := .tuple #[.agg #[.int .i64 0, .slice none 0 0], .int .i64 k, .int .i64 52]) (by simp [results, Tryd.results25, go_sem, *]) rfl (read_err' (k := k) HR.out ((HBL.out.setCell (by simp) _).setCell (by simp) _))
                  · have hX : ¬ (bs w0).toList = [101, 100, 103, 101] := by rw [bs_toList]; exact hw0
                    have HR := Lib.hid (show readG S.data.toList = ⟨0, [], k, 52⟩ by
                      obtain ⟨f, n, acc, q1, q2, q3, q4, q5⟩ := HM.out
                      exact q2.trans (read_bad hk1 q3 HCUT.out (by
                        rw [parseLine_of HSP.out, if_neg]
                        unfold wordAt sizeAt
                        rw [if_neg HK1.out, if_neg HK1.out]
                        rintro ⟨e1, e2⟩
                        exact hw0 e1)))
                    obtain ⟨n, acc, hat⟩ : ∃ n acc, ReadAt w wr n acc := by
                      obtain ⟨f, n, acc, q1, q2, q3, q4, q5⟩ := HM3.out
                      exact ⟨n, acc, q5⟩
                    have c0 : wr.cell? ⟨w.heap.size, 0, none⟩ = some (.int .i64 0) := by rw [blk_cell hat.2.1]; rfl
                    have c1 : wr.cell? ⟨w.heap.size, 1, none⟩ = some (.slice none 0 0) := by rw [blk_cell hat.2.1]; rfl
                    have f0 := blk_frozen hat.2.1 0
                    have f1 := blk_frozen hat.2.1 1
                    have HBL := Aside0.mk hat.1
                    clear hat hw0
                    generalize bs w0 = X at hcell hX
                    go_wp2
                    refine bodyPost_ret (v := .tuple #[.agg #[.int .i64 0, .slice none 0 0], .int .i64 k, .int .i64 52]) (by simp [results, Tryd.results25, go_sem, *]) rfl (read_err' (k := k) HR.out ((HBL.out.setCell (by simp) _).setCell (by simp) _))
            · have hcb : ((S[j].toNat : Int) != 10) = true := by
                rw [bne_iff_ne]
                intro e
                exact hc (UInt8.toNat_inj.1 (by have : (10 : UInt8).toNat = 10 := rfl; omega))
              have HS := Aside0.mk (scan_step (by rw [HLN.out]; exact hlt) hij hS.out hc)
              clear hc
              go_wp2
              go_round
              case rel => exact ⟨j + 1, by omega, by omega, by go_num, HS⟩
              case measure => simp [intOf]; omega
          · obtain rfl : j = S.size := by omega
            have HR := Lib.hid (show readG S.data.toList = ⟨0, [], k, 52⟩ by
              obtain ⟨f, n, acc, q1, q2, q3, q4, q5⟩ := hM.out
              exact q2.trans (read_cut hk1 q3 (fun _ e => by have := congrArg List.length e; rw [List.length_drop, HLN.out] at this; simp at this; omega) (scan_none (by rw [HLN.out]; exact Nat.le_refl _) hij hS.out)))
            obtain ⟨n, acc, hat⟩ : ∃ n acc, ReadAt w wo n acc := by
              obtain ⟨f, n, acc, q1, q2, q3, q4, q5⟩ := hM.out
              exact ⟨n, acc, q5⟩
            have c0 : wo.cell? ⟨w.heap.size, 0, none⟩ = some (.int .i64 0) := by rw [blk_cell hat.2.1]; rfl
            have c1 : wo.cell? ⟨w.heap.size, 1, none⟩ = some (.slice none 0 0) := by rw [blk_cell hat.2.1]; rfl
            have f0 := blk_frozen hat.2.1 0
            have f1 := blk_frozen hat.2.1 1
            have HBL := Aside0.mk hat.1
            clear hat
            go_wp2
            refine bodyPost_ret (v := .tuple #[.agg #[.int .i64 0, .slice none 0 0], .int .i64 k, .int .i64 52]) (by simp [results, Tryd.results25, go_sem, *]) rfl (read_err' (k := k) HR.out ((HBL.out.setCell (by simp) _).setCell (by simp) _))
      · have hie : i = S.size := by omega
        have hil' : ¬ (i : Int) < (S.size : Int) := by omega
        obtain ⟨n, acc, hat, hrf⟩ : ∃ n acc, ReadAt w wo n acc ∧ readG S.data.toList = finishRead n (.inr acc) := by
          obtain ⟨f, n, acc, q1, q2, q3, q4, q5⟩ := hM.out
          have q3' := q3 HK1.out
          obtain ⟨f, rfl⟩ : ∃ m, f = m + 1 := ⟨f - 1, by omega⟩
          refine ⟨n, acc, q5, ?_⟩
          have hnil : S.data.toList.drop i = [] := List.drop_of_length_le (by rw [HLN.out]; omega)
          rw [hnil] at q2
          exact q2.trans (read_last (by omega))
        obtain ⟨hB3, hB0, u, hu1, hu2⟩ := hat
        obtain ⟨A, c, rfl, _, hC⟩ := Kd.R_reads hu2
        have d0 : wo.cell? ⟨w.heap.size + 1, 0, none⟩ = some (.int .i64 n) := by rw [blk_cell hu1]; rfl
        have d1 : wo.cell? ⟨w.heap.size + 1, 1, none⟩ = some (.slice A acc.length c) := by rw [blk_cell hu1]; rfl
        have B0 := Aside0.mk hB0
        have B1 := Aside0.mk hu1
        have HB := Aside0.mk hB3
        have HC := Aside0.mk hC
        have HK := Aside0.mk (refCheck_any n A c acc wo hC)
        have HRF := Aside0.mk hrf
        have hk0 : (k : Int) ≠ 1 := by omega
        clear hu1 hu2 hB0 hB3 hC hrf hie
        by_cases hch : Graph.check ⟨n, acc⟩ = 0
        · have HR2 := Lib.hid (HRF.out.trans (finish_ok hch))
          have HN := fun w' => Aside0.mk (fun hb => refNorm_ok n A c acc w' (Kd.C_below HC.out hb) hch)
          rw [hch] at HK
          clear hch
          go_wp2_with (first | (go_at_call 11; refine HK.out.mono ?_; rintro e w2 ⟨rfl, hb2⟩; have hn := (HN w2).out hb2; have HN2 := Aside0.mk hn; have g1 := (hb2.block _ (blk_lt B1.out)).trans B1.out; have g0 := (hb2.block _ (blk_lt B0.out)).trans B0.out; have d0' : w2.cell? ⟨w.heap.size + 1, 0, none⟩ = some (.int .i64 n) := (by rw [blk_cell g1]; rfl); have d1' : w2.cell? ⟨w.heap.size + 1, 1, none⟩ = some (.slice A acc.length c) := (by rw [blk_cell g1]; rfl); have G0 := Aside0.mk g0; have HB2 := Aside0.mk (below_step HB.out hb2); clear hn hb2 g0 g1) | (go_at_call 18; refine HN2.out.mono ?_; rintro e w3 ⟨v3, rfl, hR3, hb3⟩; have g3 := (hb3.block _ (blk_lt G0.out)).trans G0.out; have c0 : w3.cell? ⟨w.heap.size, 0, none⟩ = some (.int .i64 0) := (by rw [blk_cell g3]; rfl); have c1 : w3.cell? ⟨w.heap.size, 1, none⟩ = some (.slice none 0 0) := (by rw [blk_cell g3]; rfl); have f00 := blk_frozen g3 0; have f01 := blk_frozen g3 1; have G3 := Aside0.mk g3; have HX := Aside0.mk (And.intro hR3 hb3); obtain ⟨A2, k2, c2, rfl⟩ : ∃ A k c, v3 = .slice A k c := (by obtain ⟨A, c, e⟩ := Kd.R_slice hR3; exact ⟨A, _, c, e⟩); clear g3 hR3 hb3))
          obtain ⟨hR3, hb3⟩ := HX.out
          have hR4 := Kd.R_lower (base' := w.heap.size) hR3 HB2.out.size
          have r3 := Kd.R_set hR4 G3.out edge_no_graph 0 (.int .i64 n)
          have r4 := Kd.R_set r3 (blk_put G3.out 0 (.int .i64 n) rfl) edge_no_graph 1 (.slice A2 k2 c2)
          refine bodyPost_ret (v := .tuple #[.agg #[.int .i64 n, .slice A2 k2 c2], .int .i64 0, .int .i64 0]) (by simp [results, Tryd.results25, go_sem, *]) rfl ?_
          rw [HR2.out]
          exact ⟨_, rfl, r4, ((below_step HB2.out hb3).setCell (by simp) _).setCell (by simp) _⟩
        · have HR2 := Lib.hid (HRF.out.trans (finish_bad hch))
          have hx : (Graph.check ⟨n, acc⟩ != 0) = true := by simpa using hch
          clear hch
          generalize Graph.check ⟨n, acc⟩ = x at HK HR2 hx
          go_wp2_with (go_at_call 11; refine HK.out.mono ?_; rintro e w2 ⟨rfl, hb2⟩; have g0 := (hb2.block _ (blk_lt B0.out)).trans B0.out; have c0 : w2.cell? ⟨w.heap.size, 0, none⟩ = some (.int .i64 0) := (by rw [blk_cell g0]; rfl); have c1 : w2.cell? ⟨w.heap.size, 1, none⟩ = some (.slice none 0 0) := (by rw [blk_cell g0]; rfl); have f00 := blk_frozen g0 0; have f01 := blk_frozen g0 1; have HX := Aside0.mk hb2; clear g0 hb2)
          refine bodyPost_ret (v := .tuple #[.agg #[.int .i64 0, .slice none 0 0], .int .i64 0, .int .i64 x]) (by simp [results, Tryd.results25, go_sem, *]) rfl ?_
          rw [HR2.out]
          exact ⟨_, rfl, Kd.R_nil _ _ _ _ _, ((below_step HB.out HX.out).setCell (by simp) _).setCell (by simp) _⟩
end Go.Proofs.YtenpmbebghlnkaaDoor
