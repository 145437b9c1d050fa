/-
  The program's line of a word and numbers; what the library's variables hold.
-/
import Derived.Test.YtenpmbebghlnkaaDoorKDigits
import Derived.Test.YtenpmbebghlnkaaDoorKLayS
import Derived.Shelf.Strconv.Itoa3
import Derived.Lib.AppendIntMem
namespace Go.Proofs.YtenpmbebghlnkaaDoor
open Go.RowKit Go.Proofs.YtenpmbebghlnkaaDoorW.PrintWords Go.Proofs.YtenpmbebghlnkaaDoorW.PrintLast Go.Proofs.YtenpmbebghlnkaaDoorW.PrintMore
set_option linter.unusedVariables false
set_option linter.unusedSimpArgs false
attribute [local go_sem] max2_int min2_int max_two min_two max_three min_three max_four min_four
/-! ### what lies in the library's variables -/
structure Laid (w : World) : Prop where
  maxLen : ∃ m, w.cell? ⟨0, 0, none⟩ = some (.int .i64 m)
  pow10 : Lib.TabIs Tryd.prog w "internal/strconv.uint64pow10" .u64 Lib.pow10Tab
  syn : ∃ tp p, w.var? Tryd.prog "strconv.ErrSyntax" = some #[.iface tp p]
  rng : ∃ tp p, w.var? Tryd.prog "strconv.ErrRange" = some #[.iface tp p]
theorem var_kept {P : Program} {w w' : World} {n : String} {cs : Array Value} (h : w.var? P n = some cs) (hb : Below w.heap.size w w') : w'.var? P n = some cs := by
  unfold World.var? at *
  cases hg : P.globalNamed n with
  | none => simp [hg] at h
  | some g =>
    simp only [hg, Option.bind_some] at h ⊢
    have hlt : g < w.heap.size := by
      rcases Nat.lt_or_ge g w.heap.size with h' | h'
      · exact h'
      · rw [Array.getElem?_eq_none h'] at h; simp at h
    rw [hb.block g hlt]
    exact h
theorem Laid.below {w w' : World} (h : Laid w) (hb : Below w.heap.size w w') : Laid w' := by
  obtain ⟨⟨m, h1⟩, h2, ⟨t3, p3, h3⟩, ⟨t4, p4, h4⟩⟩ := h
  exact ⟨⟨m, (hb.cell (World.block_lt_of_cell? w _ h1)).trans h1⟩, Lib.tabBelow_of_tabIs h2 w' hb, ⟨t3, p3, var_kept h3 hb⟩, ⟨t4, p4, var_kept h4 hb⟩⟩
/-! ### a line -/
def lineUpto (word : List UInt8) (l : List Int) : List UInt8 := word ++ joinOn 32 (l.map Lib.itoa)
theorem lineUpto_snoc (word : List UInt8) (l : List Int) (x : Int) : lineUpto word (l ++ [x]) = lineUpto word l ++ ([32] ++ Lib.itoa x) := by
  unfold lineUpto joinOn
  rw [List.map_append, List.flatMap_append, List.append_assoc]
  simp
theorem lineUpto_len (word : List UInt8) (l : List Int) (hr : ∀ x ∈ l, -9223372036854775808 ≤ x ∧ x ≤ 9223372036854775807) : (lineUpto word l).length ≤ word.length + 22 * l.length := by
  unfold lineUpto joinOn
  rw [List.length_append]
  have : ∀ l : List Int, (∀ x ∈ l, -9223372036854775808 ≤ x ∧ x ≤ 9223372036854775807) → ((l.map Lib.itoa).flatMap (32 :: ·)).length ≤ 22 * l.length := by
    intro l
    induction l with
    | nil => intro _; simp
    | cons a l ih =>
      intro h
      have h1 := ih (fun x hx => h x (by simp [hx]))
      have h2 := Lib.itoa_length_le a (h a (by simp)).1 (h a (by simp)).2
      rw [List.map_cons, List.flatMap_cons, List.length_append, List.length_cons, List.length_cons]
      omega
  have := this l hr
  omega
set_option maxRecDepth 100000 in
set_option maxHeartbeats 4000000 in
theorem line_any (word : List UInt8) (A : Option Addr) (c : Nat) (l : List Int) (w : World) (hw : word.length ≤ 1073741824) (hl : l.length ≤ 1073741824) (hr : ∀ x ∈ l, -9223372036854775808 ≤ x ∧ x ≤ 9223372036854775807) (hC : KI.C w A l.length l) (hL : Laid w) :
    Calls Tryd.prog 34 #[.string (bs word), .slice A l.length c] w fun e w' => e = .returned (.string (bs (lineL word l))) ∧ Below w.heap.size w w' := by
  have HC := Aside0.mk hC
  have HL := Aside0.mk hL
  have HR := Aside0.mk hr
  clear hC hL hr
  go_enter Tryd.func34, Tryd.ntmps34
  go_wp2
  go_loopw [0, 9] (fun v0 v9 wr => ∃ k : Nat, k ≤ l.length ∧ v9 = .int .i64 k ∧ v0 = .string (bs (lineUpto word (l.take k))) ∧ Aside0 (Below w.heap.size w wr)) (fun _ v9 _ => l.length - (intOf v9).toNat)
  case atStart => exact ⟨0, Nat.zero_le _, rfl, by simp [lineUpto, joinOn], ⟨Below.refl _ _⟩⟩
  case round =>
    obtain ⟨k, hk, rfl, rfl, hB⟩ := hrel
    have hlen := lineUpto_len word (l.take k) (fun x hx => HR.out x (List.mem_of_mem_take hx))
    rw [← bs_size, List.length_take, Nat.min_eq_left hk] at hlen
    by_cases hlt : k < l.length
    · obtain ⟨ad, rfl, u0⟩ := KI_at (Kd.C_below HC.out hB.out) k hlt
      obtain ⟨b0, b1⟩ := HR.out l[k] (List.getElem_mem hlt)
      have hit : (bs (Lib.itoa l[k])).size ≤ 21 := Lib.itoa_length_le l[k] b0 b1
      have hcon : Calls Tryd.prog 44 #[.int .i64 l[k]] wr fun e w' => e = .returned (.string (bs (Lib.itoa l[k]))) ∧ Below wr.heap.size wr w' :=
        (Any.strconv_Itoa layItoa l[k] b0 b1 wr (HL.out.below hB.out).pow10).mono fun e w' ⟨he, n, os, hw'⟩ => ⟨he, by rw [hw']; exact Lib.below_grow _ _ (Nat.le_refl _) n os⟩
      have HCN := Aside0.mk hcon
      have hap : bs (lineUpto word (l.take k)) ++ (⟨#[32]⟩ ++ bs (Lib.itoa l[k])) = bs (lineUpto word (l.take (k + 1))) := by
        rw [List.take_succ_eq_append_getElem hlt, lineUpto_snoc, ← bs_append, ← bs_append]
        rfl
      have HAP := Lib.hid hap
      clear hcon hap b0 b1
      generalize bs (Lib.itoa l[k]) = D at HCN HAP hit
      go_wp2_with (go_at_call 44; refine HCN.out.mono ?_; rintro e w' ⟨rfl, hb'⟩; have HB := Aside0.mk (below_step hB.out hb'); clear hb')
      go_roundw
      case rel => exact ⟨k + 1, by omega, by go_num, by rw [HAP.out], HB⟩
      case measure => simp [intOf]; omega
    · obtain rfl : k = l.length := by omega
      have hap : bs (lineUpto word l) ++ ⟨#[10]⟩ = bs (lineL word l) := bs_append (lineUpto word l) [10]
      rw [List.take_length] at hlen ⊢
      have HAP := Lib.hid hap
      clear hap
      go_wp2
      go_ret
      exact ⟨ret_str HAP.out, hB.out⟩
end Go.Proofs.YtenpmbebghlnkaaDoor
