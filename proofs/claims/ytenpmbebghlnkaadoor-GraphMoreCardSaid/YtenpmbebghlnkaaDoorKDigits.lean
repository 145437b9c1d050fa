/-
  The reference of layer 5: a number's digits; digits as a number; the words of a line.
-/
import Derived.Test.YtenpmbebghlnkaaDoorKBase
import Derived.Test.YtenpmbebghlnkaaDoorKLines
import Derived.WalkSpells
namespace Go.Proofs.YtenpmbebghlnkaaDoor
open Go.RowKit Go.Proofs.YtenpmbebghlnkaaDoorW.PrintWords Go.Proofs.YtenpmbebghlnkaaDoorW.PrintLast Go.Proofs.YtenpmbebghlnkaaDoorW.PrintMore
set_option linter.unusedVariables false
set_option linter.unusedSimpArgs false
attribute [local go_sem] max2_int min2_int max_two min_two max_three min_three max_four min_four
/-- Bytes as Go's string. -/
def bs (l : List UInt8) : ByteArray := ⟨l.toArray⟩
theorem bs_append (l m : List UInt8) : bs l ++ bs m = bs (l ++ m) := by
  apply ByteArray.ext
  unfold bs
  rw [ByteArray.data_append]
  simp
theorem bs_size (l : List UInt8) : (bs l).size = l.length := rfl
theorem bs_toList (l : List UInt8) : (bs l).toList = l := by rw [ByteArray.toList_eq]; rfl
theorem bs_data (s : ByteArray) : bs s.data.toList = s := rfl
def Rest (n r : Nat) (s : List UInt8) : Prop := (s = [] ∧ r = n) ∨ (s ≠ [] ∧ ((r = 0 ∧ s = Lib.decDigits n) ∨ (0 < r ∧ Lib.decDigits r ++ s = Lib.decDigits n)))
theorem rest_step (n r : Nat) (s : List UInt8) (h : Rest n r s) (hc : s = [] ∨ 0 < r) : Rest n (r / 10) (UInt8.ofNat (48 + r % 10) :: s) := by
  have key : Lib.decDigits r ++ s = Lib.decDigits n := by
    rcases h with ⟨h1, h2⟩ | ⟨h1, ⟨h2, h3⟩ | ⟨h2, h3⟩⟩
    · rw [h1, h2, List.append_nil]
    · rcases hc with hc | hc
      · exact absurd hc h1
      · omega
    · exact h3
  refine .inr ⟨by simp, ?_⟩
  by_cases h10 : r < 10
  · rw [Lib.decDigits_one h10] at key
    exact .inl ⟨by omega, by rw [← key, Nat.mod_eq_of_lt h10]; rfl⟩
  · rw [Lib.decDigits, dif_neg h10] at key
    exact .inr ⟨by omega, by rw [← key]; simp⟩
theorem rest_end (n r : Nat) (s : List UInt8) (h : Rest n r s) (h1 : s ≠ []) (h2 : r = 0) : s = Lib.decDigits n := by
  rcases h with ⟨h3, _⟩ | ⟨_, ⟨_, h3⟩ | ⟨h3, _⟩⟩
  · exact absurd h3 h1
  · exact h3
  · omega
theorem digits_len21 (n : Nat) (hn : n ≤ 9223372036854775807) : (Lib.decDigits n).length ≤ 21 := by
  have := Lib.itoa_length_le (n : Int) (by omega) (by omega)
  rwa [Lib.itoa_nonneg] at this
theorem rest_len (n r : Nat) (s : List UInt8) (hn : n ≤ 9223372036854775807) (h : Rest n r s) : s.length ≤ 21 := by
  have h1 := digits_len21 n hn
  rcases h with ⟨h, _⟩ | ⟨_, ⟨_, h⟩ | ⟨_, h⟩⟩
  · rw [h]; simp
  · rw [h]; exact h1
  · rw [← h, List.length_append] at h1; omega
def strLen : Value → Nat
  | .string s => s.size
  | _ => 0
theorem digits_mea (r : Nat) (D s : ByteArray) (hD : 0 < D.size) (h : s.size = 0 ∨ 0 < r) :
    2 * (intOf (.int .i64 ((r : Int) / 10))).toNat + (if strLen (.string (D ++ s)) = 0 then 1 else 0) < 2 * (intOf (.int .i64 (r : Int))).toNat + (if strLen (.string s) = 0 then 1 else 0) := by
  have h1 : (D ++ s).size ≠ 0 := by rw [ByteArray.size_append]; omega
  have e1 : intOf (.int .i64 ((r : Int) / 10)) = (r : Int) / 10 := rfl
  have e2 : intOf (.int .i64 (r : Int)) = (r : Int) := rfl
  have e3 : strLen (.string (D ++ s)) = (D ++ s).size := rfl
  have e4 : strLen (.string s) = s.size := rfl
  rw [e1, e2, e3, e4, if_neg h1]
  split <;> omega
set_option maxRecDepth 100000 in
set_option maxHeartbeats 4000000 in
theorem digits_any (n : Nat) (hn : n ≤ 9223372036854775807) (w : World) :
    Calls Tryd.prog 37 #[.int .i64 n] w fun e w' => e = .returned (.string (bs (Lib.decDigits n))) ∧ Below w.heap.size w w' := by
  go_enter Tryd.func37, Tryd.ntmps37
  go_wp2
  go_loopw [0, 3] (fun v0 v3 wr => ∃ (r : Nat) (s : List UInt8), r ≤ n ∧ v0 = .int .i64 r ∧ v3 = .string (bs s) ∧ Aside0 (Rest n r s) ∧ Aside0 (Below w.heap.size w wr)) (fun v0 v3 _ => 2 * (intOf v0).toNat + (if strLen v3 = 0 then 1 else 0))
  case atStart => exact ⟨n, [], Nat.le_refl _, rfl, rfl, ⟨.inl ⟨rfl, rfl⟩⟩, ⟨Below.refl _ _⟩⟩
  case round =>
    obtain ⟨r, s, hr, rfl, rfl, hS, hB⟩ := hrel
    have hbk : (wr.alloc (.cells #[.int .u8 (48 + (r : Int) % 10)] 5)).heap[wr.heap.size]? = some (.cells (([48 + (r : Int) % 10] : List Int).map (Value.int .u8)).toArray 5 (0, 0)) := Array.getElem?_push_size
    have hcv := Kd.C_string (P := Tryd.prog) (c := 1) Tryd.underlying73 Tryd.underlying5 Tryd.underlying9 (KU_block hbk (by simp))
    simp only [List.length_singleton] at hcv
    clear hbk
    have hcs : strOfNums [48 + (r : Int) % 10] = bs [UInt8.ofNat (48 + r % 10)] := by
      have : (48 + (r : Int) % 10).toNat = 48 + r % 10 := by omega
      unfold strOfNums bs
      rw [List.map_singleton, this]
    have hap : bs [UInt8.ofNat (48 + r % 10)] ++ bs s = bs (UInt8.ofNat (48 + r % 10) :: s) := bs_append _ _
    rw [hcs] at hcv
    have HAP := Lib.hid hap
    have hD1 : (bs [UInt8.ofNat (48 + r % 10)]).size ≤ 1 := Nat.le_refl _
    have hD0 : 0 < (bs [UInt8.ofNat (48 + r % 10)]).size := Nat.zero_lt_one
    have hs21 : (bs s).size ≤ 21 := rest_len n r s hn hS.out
    clear hcs hap
    generalize bs [UInt8.ofNat (48 + r % 10)] = D at hcv HAP hD1 hD0
    by_cases h0 : s = []
    · have hst := Aside0.mk (rest_step n r s hS.out (.inl h0))
      have hne : (bs s).toList.isEmpty = true := by rw [bs_toList, h0]; rfl
      have hsz : (bs s).size = 0 := by rw [bs_size, h0]; rfl
      have Hsz := Lib.hid hsz
      clear h0 hsz
      go_wp2
      go_roundw
      case rel => exact ⟨r / 10, _, by omega, by go_num, by rw [HAP.out], hst, ⟨hB.out.alloc hB.out.size _⟩⟩
      case measure => exact digits_mea r D (bs s) hD0 (.inl Hsz.out)
    · by_cases hr0 : 0 < r
      · have hst := Aside0.mk (rest_step n r s hS.out (.inr hr0))
        have hne : (bs s).toList.isEmpty = false := by rw [bs_toList]; cases s with
          | nil => exact absurd rfl h0
          | cons => rfl
        clear h0
        go_wp2
        go_roundw
        case rel => exact ⟨r / 10, _, by omega, by go_num, by rw [HAP.out], hst, ⟨hB.out.alloc hB.out.size _⟩⟩
        case measure => exact digits_mea r D (bs s) hD0 (.inr hr0)
      · have he := rest_end n r s hS.out h0 (by omega)
        have hne : (bs s).toList.isEmpty = false := by rw [bs_toList]; cases s with
          | nil => exact absurd rfl h0
          | cons => rfl
        obtain rfl : r = 0 := by omega
        subst he
        clear h0
        go_wp2
        go_ret
        exact ⟨rfl, hB.out⟩

/-! ### the words of a line -/
theorem lit0_R {α : Type} (d : Kd α) (t : TypeId) (w : World) (base : Nat) (hb : base ≤ w.heap.size) : d.R t (w.alloc (.cells #[] t)) base (fun _ => True) (.slice (some ⟨w.heap.size, 0, none⟩) 0 0) [] := by
  refine ⟨fun _ _ => trivial, [], ?_, Reps.none _ _⟩
  have h2 := World.ownsRow_lit (base := base) (e := t) (size := d.sz) w #[] 0 hb (by simp [maxLen]) (by simp)
  simpa using h2
theorem take_snoc (s : ByteArray) (k : Nat) (h : k < s.size) : s.data.toList.take (k + 1) = s.data.toList.take k ++ [s[k]] := by
  rw [List.take_succ_eq_append_getElem (by simpa using h)]; rfl
theorem ext_one (s : ByteArray) (k : Nat) (h : k < s.size) : s.extract k (k + 1) = bs [s[k]] := by
  apply ByteArray.ext
  have h' : k < s.data.size := h
  rw [ByteArray.data_extract]
  apply Array.ext
  · simp [bs]; omega
  · intro i h1 h2
    have : i = 0 := by simp [bs] at h2; omega
    subst this
    simp [bs]
    rfl
theorem take_all (s : ByteArray) : s.data.toList.take s.size = s.data.toList := List.take_of_length_le (by simp)
set_option maxRecDepth 100000 in
set_option maxHeartbeats 4000000 in
theorem words_any (s : ByteArray) (hs : s.size ≤ 1073741824) (w : World) :
    Calls Tryd.prog 38 #[.string s] w fun e w' => ∃ v : Value, e = .returned v ∧ KS.R 9 w' w.heap.size (fun _ => True) v ((splitOn 32 s.data.toList).map bs) ∧ Below w.heap.size w w' := by
  go_enter Tryd.func38, Tryd.ntmps38
  go_wp2
  have h0 := lit0_R KS 9 w w.heap.size (Nat.le_refl _)
  have h1 := (Below.refl _ w).alloc (Nat.le_refl w.heap.size) (.cells #[] 9)
  have H0 := Aside0.mk h0
  have H1 := Aside0.mk h1
  clear h0 h1
  go_loopw [3, 4, 5] (fun v3 v4 v5 wr => ∃ (k : Nat) (i : List (List UInt8)) (x : List UInt8), k ≤ s.size ∧ v5 = .int .i64 k ∧ v4 = .string (bs x) ∧ x.length ≤ k ∧ i.length ≤ k ∧ Aside0 (splitOn 32 (s.data.toList.take k) = i ++ [x]) ∧ Aside0 (KS.R 9 wr w.heap.size (fun _ => True) v3 (i.map bs)) ∧ Aside0 (Below w.heap.size w wr)) (fun _ _ v5 _ => s.size - (intOf v5).toNat)
  case atStart => exact ⟨0, [], [], Nat.zero_le _, rfl, rfl, Nat.le_refl _, Nat.le_refl _, ⟨rfl⟩, H0, H1⟩
  case round =>
    obtain ⟨k, i, x, hk, rfl, rfl, hx, hi, hS, hR, hB⟩ := hrel
    have hsz := hB.out.size
    have hli : (i.map bs).length ≤ k := by simpa using hi
    by_cases hlt : k < s.size
    · have hts := Lib.hid (take_snoc s k hlt)
      by_cases hc : s[k] = 32
      · have hcb : ((s[k].toNat : Int) == 32) = true := by rw [hc]; rfl
        have HS := Lib.hid (show splitOn 32 (s.data.toList.take (k + 1)) = (i ++ [x]) ++ [[]] by rw [hts.out, hc, splitOn_snoc_eq, hS.out])
        clear hc
        go_wp2_with (at_builtin; refine Kd.R_append KS (w0 := w) w.heap.size rfl (.tmp 17) (.tmp 19) 61 9 (.string ⟨#[]⟩) 16 rfl Tryd.underlying61 infoStr rfl (by decide) (by decide) _ (i.map bs) (bs x) [.string (bs x)] (fun _ => True) (fun _ => False) rfl rfl rfl (fun _ hk => hk.elim) (fun _ _ => trivial) hR.out hB.out hsz (by omega) ?_; intro v1 w1 hR1 hB1 hg1 hat1; have HR1 := Aside0.mk hR1; have HB1 := Aside0.mk hB1; clear hR1 hB1 hg1 hat1)
        go_roundw
        case rel => exact ⟨k + 1, i ++ [x], [], by omega, by go_num, rfl, by simp, by simp; omega, ⟨HS.out⟩, ⟨by rw [List.map_append]; exact HR1.out⟩, HB1⟩
        case measure => simp [intOf]; omega
      · have hcb : ((s[k].toNat : Int) == 32) = false := by
          rw [beq_eq_false_iff_ne]
          intro e
          exact hc (UInt8.toNat_inj.1 (by have : (32 : UInt8).toNat = 32 := rfl; omega))
        have HS := Lib.hid (show splitOn 32 (s.data.toList.take (k + 1)) = i ++ [x ++ [s[k]]] by rw [hts.out]; exact splitOn_snoc_ne hc _ i x hS.out)
        have he := ext_one s k hlt
        have HE := Lib.hid (show bs x ++ bs [s[k]] = bs (x ++ [s[k]]) by rw [bs_append])
        have hex : (bs [s[k]]).size ≤ 1 := Nat.le_refl _
        have hbx : (bs x).size ≤ k := hx
        have hsl : (Instr.slice 9 (.string s) (some (.int .i64 (k : Int))) (some (.int .i64 ((k : Int) + 1))) none).run Tryd.prog wr = .ok (.string (bs [s[k]])) wr := by
          have h1 := run_slice_string (P := Tryd.prog) wr 9 s .i64 .i64 (k : Int) ((k : Int) + 1) Tryd.underlying9 (by omega) (by omega) (by omega)
          have e1 : ((k : Int) + 1).toNat = k + 1 := by omega
          rw [e1, Int.toNat_natCast, he] at h1
          exact h1
        clear hc he
        generalize bs [s[k]] = D at HE hex hsl
        go_wp2
        go_roundw
        case rel => exact ⟨k + 1, i, x ++ [s[k]], by omega, by go_num, by rw [HE.out], by simp; omega, by omega, ⟨HS.out⟩, hR, hB⟩
        case measure => simp [intOf]; omega
    · obtain rfl : k = s.size := by omega
      have HS := hS.out
      rw [take_all] at HS
      have HS := Lib.hid HS
      go_wp2_with (at_builtin; refine Kd.R_append KS (w0 := w) w.heap.size rfl (.tmp 28) (.tmp 30) 61 9 (.string ⟨#[]⟩) 16 rfl Tryd.underlying61 infoStr rfl (by decide) (by decide) _ (i.map bs) (bs x) [.string (bs x)] (fun _ => True) (fun _ => False) rfl rfl rfl (fun _ hk => hk.elim) (fun _ _ => trivial) hR.out hB.out hsz (by omega) ?_; intro v1 w1 hR1 hB1 hg1 hat1; have HR1 := Aside0.mk hR1; have HB1 := Aside0.mk hB1; clear hR1 hB1 hg1 hat1)
      go_ret
      exact ⟨_, rfl, by rw [HS.out, List.map_append]; exact HR1.out, HB1.out⟩
/-! ### digits as a number -/
def numI (l : List UInt8) : Int := match num9 l with
  | some n => (n : Int)
  | none => -1
theorem numI_none {l : List UInt8} (h : num9 l = none) : numI l = -1 := by unfold numI; rw [h]
theorem numI_some {l : List UInt8} {n : Nat} (h : num9 l = some n) : numI l = n := by unfold numI; rw [h]
theorem decFrom_bad (l : List UInt8) (k : Nat) (hk : k < l.length) (h : Lib.digitVal l[k] = none) (a : Nat) : Lib.decFrom a l = none := by
  cases hd : Lib.decFrom a l with
  | none => rfl
  | some n =>
    obtain ⟨d, hd'⟩ := Lib.digit_of_decFrom l a n hd k l[k] (List.getElem?_eq_getElem hk)
    rw [h] at hd'
    cases hd'
set_option maxRecDepth 100000 in
set_option maxHeartbeats 4000000 in
theorem number_any (s : ByteArray) (hs : s.size ≤ 1073741824) (w : World) :
    Calls Tryd.prog 39 #[.string s, .int .i64 9] w fun e w' => e = .returned (.int .i64 (numI s.data.toList)) ∧ w = w' := by
  have hl : s.data.toList.length = s.size := by simp
  by_cases h0 : s.data.toList = []
  · have hr := Lib.hid (numI_none (l := s.data.toList) (by unfold num9; rw [if_pos (.inl h0)]))
    have he : s.toList.isEmpty = true := by rw [ByteArray.toList_eq, h0]; rfl
    clear h0 hl
    go_enter Tryd.func39, Tryd.ntmps39
    go_wp2
    go_ret
    exact ⟨ret_int hr.out.symm, rfl⟩
  · have he : s.toList.isEmpty = false := by rw [ByteArray.toList_eq]; cases h : s.data.toList with
      | nil => exact absurd h h0
      | cons => rfl
    have hs0 : 0 < s.size := by
      rcases Nat.eq_zero_or_pos s.size with h | h
      · exact absurd (List.length_eq_zero_iff.1 (by rw [hl, h])) h0
      · exact h
    by_cases h9 : 9 < s.size
    · have hr := Lib.hid (numI_none (l := s.data.toList) (by unfold num9; rw [if_pos (.inr (.inl (by omega)))]))
      clear h0 hl
      go_enter Tryd.func39, Tryd.ntmps39
      go_wp2
      go_ret
      exact ⟨ret_int hr.out.symm, rfl⟩
    · have hhead : s.data.toList.head? = some s[0] := by
        rw [List.head?_eq_getElem?, List.getElem?_eq_getElem (by omega)]
        rfl
      by_cases h1 : 1 < s.size ∧ s[0] = 48
      · obtain ⟨h1, h48⟩ := h1
        have hr := Lib.hid (numI_none (l := s.data.toList) (by unfold num9; rw [if_pos (.inr (.inr ⟨by omega, by rw [hhead, h48]⟩))]))
        have hcb : ((s[0].toNat : Int) == 48) = true := by rw [h48]; rfl
        clear h0 hl hhead h48
        go_enter Tryd.func39, Tryd.ntmps39
        go_wp2
        go_ret
        exact ⟨ret_int hr.out.symm, rfl⟩
      · have hnum : num9 s.data.toList = Lib.decFrom 0 s.data.toList := by
          unfold num9
          rw [if_neg]
          rintro (h | h | ⟨h, h2⟩)
          · exact h0 h
          · omega
          · rw [hhead] at h2
            injection h2 with h2
            exact h1 ⟨by omega, h2⟩
        have key : ∀ Q : Prop, (¬ 1 < s.size → Q) → ((1 < s.size ∧ ((s[0].toNat : Int) == 48) = false) → Q) → Q := by
          intro Q q1 q2
          by_cases hq : 1 < s.size
          · refine q2 ⟨hq, ?_⟩
            rw [beq_eq_false_iff_ne]
            intro e
            exact h1 ⟨hq, UInt8.toNat_inj.1 (by have : (48 : UInt8).toNat = 48 := rfl; omega)⟩
          · exact q1 hq
        have HN := Lib.hid hnum
        have HL := Lib.hid hl
        clear hnum hl h0 hhead h1
        refine key _ (fun hq => ?_) (fun hq => ?_)
        all_goals
          first | (obtain ⟨hq1, hq2⟩ := hq) | skip
          clear key
          go_enter Tryd.func39, Tryd.ntmps39
          go_wp2
          go_loop [5, 6] (fun v5 v6 => ∃ (k n : Nat), k ≤ s.size ∧ v6 = .int .i64 k ∧ v5 = .int .i64 n ∧ n < 10 ^ k ∧ Aside0 (Lib.decFrom 0 (s.data.toList.take k) = some n)) (fun _ v6 => s.size - (intOf v6).toNat)
          case atStart => exact ⟨0, 0, Nat.zero_le _, rfl, rfl, by decide, ⟨rfl⟩⟩
          case round =>
            obtain ⟨k, n, hk, rfl, rfl, hn, hD⟩ := hrel
            by_cases hlt : k < s.size
            · have hn9 : n < 1000000000 := Nat.lt_of_lt_of_le hn (show 10 ^ k ≤ 10 ^ 9 from Nat.pow_le_pow_right (by decide) (by omega))
              clear hn
              have hgk : s.data.toList[k]? = some s[k] := by rw [List.getElem?_eq_getElem (by rw [HL.out]; exact hlt)]; rfl
              by_cases hd : 48 ≤ (s[k].toNat : Int) ∧ (s[k].toNat : Int) ≤ 57
              · obtain ⟨d1, d2⟩ := hd
                have hdv : Lib.digitVal s[k] = some (s[k].toNat - 48) := by unfold Lib.digitVal; rw [if_pos (by omega)]
                have HS := Aside0.mk (Lib.decFrom_take _ k 0 n s[k] _ hD.out hgk hdv)
                have hlt10 : n * 10 + (s[k].toNat - 48) < 10 ^ (k + 1) := by
                  have := Lib.decFrom_lt _ _ _ HS.out
                  rw [List.length_take, HL.out, Nat.min_eq_left (by omega)] at this
                  simpa using this
                have HLT := Aside0.mk hlt10
                clear hgk hdv hlt10 hD
                go_wp2
                go_round
                case rel => exact ⟨k + 1, _, by omega, by go_num, by congr 1; omega, HLT.out, HS⟩
                case measure => simp [intOf]; omega
              · have hdv : Lib.digitVal s[k] = none := by unfold Lib.digitVal; rw [if_neg (by omega)]
                have hb := decFrom_bad s.data.toList k (by rw [HL.out]; exact hlt) (by rw [show s.data.toList[k]'(by rw [HL.out]; exact hlt) = s[k] from rfl]; exact hdv) 0
                have hr := Lib.hid (numI_none (l := s.data.toList) (by rw [HN.out]; exact hb))
                clear hgk hdv hb
                by_cases hd1 : (s[k].toNat : Int) < 48
                · clear hd
                  go_wp2
                  go_ret
                  exact ⟨ret_int hr.out.symm, rfl⟩
                · have hd2 : 57 < (s[k].toNat : Int) := by omega
                  clear hd
                  go_wp2
                  go_ret
                  exact ⟨ret_int hr.out.symm, rfl⟩
            · obtain rfl : k = s.size := by omega
              have hr := hD.out
              rw [take_all, ← HN.out] at hr
              have hr := Lib.hid (numI_some hr)
              clear hn
              go_wp2
              go_ret
              exact ⟨ret_int hr.out.symm, rfl⟩
end Go.Proofs.YtenpmbebghlnkaaDoor
