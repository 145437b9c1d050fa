/-
  Layer 5 (graph): the graph of a text: the program's function.
-/
import Derived.Test.YtenpmbebghlnkaaDoorKShow
import Derived.Test.YtenpmbebghlnkaaDoorKRefO
import Derived.Shelf.Strings.Cut
namespace Go.Proofs.YtenpmbebghlnkaaDoor
open Go.RowKit Go.Proofs.YtenpmbebghlnkaaDoorW.PrintWords Go.Proofs.YtenpmbebghlnkaaDoorW.PrintLast Go.Proofs.YtenpmbebghlnkaaDoorW.PrintMore
set_option linter.unusedVariables false
set_option linter.unusedSimpArgs false
attribute [local go_sem] max2_int min2_int max_two min_two max_three min_three max_four min_four
theorem cut_some {s a r : List UInt8} (h : cutNl s = some (a, r)) (hs : s.length ≤ 1073741824) (w : World) (hL : Laid w) :
    Calls Tryd.prog 35 #[.string (bs s), .string ⟨#[10]⟩] w fun e w' => e = .returned (.tuple #[.string (bs a), .string (bs r), .bool true]) ∧ Below w.heap.size w w' := by
  obtain ⟨m, hm⟩ := hL.maxLen
  refine (Any.strings_Cut { layCut with } (bs s) ⟨#[10]⟩ m w (by rw [bs_size]; omega) hm).mono ?_
  rintro e w' ⟨rfl, q, rfl⟩
  have e1 : Lib.cut (bs s).data.toList (⟨#[10]⟩ : ByteArray).data.toList = (a, r, true) := lib_cut_some h
  rw [e1]
  exact ⟨rfl, pw_below_drewN (Below.refl _ _) q⟩
theorem cut_none {s : List UInt8} (h : cutNl s = none) (hs : s.length ≤ 1073741824) (w : World) (hL : Laid w) :
    Calls Tryd.prog 35 #[.string (bs s), .string ⟨#[10]⟩] w fun e w' => e = .returned (.tuple #[.string (bs s), .string (bs []), .bool false]) ∧ Below w.heap.size w w' := by
  obtain ⟨m, hm⟩ := hL.maxLen
  refine (Any.strings_Cut { layCut with } (bs s) ⟨#[10]⟩ m w (by rw [bs_size]; omega) hm).mono ?_
  rintro e w' ⟨rfl, q, rfl⟩
  have e1 : Lib.cut (bs s).data.toList (⟨#[10]⟩ : ByteArray).data.toList = (s, [], false) := lib_cut_none h
  rw [e1]
  exact ⟨rfl, pw_below_drewN (Below.refl _ _) q⟩
theorem nums_weak (s word : List UInt8) (size : Nat) (hs : s.length ≤ 1073741823) (hw : word.length ≤ 1000) (hsz1 : 1 ≤ size) (hsz : size ≤ 1000) (hw32 : (32 : UInt8) ∉ word) (w : World) (hL : Laid w) :
    Calls Tryd.prog 36 #[.string (bs s), .string (bs word), .int .i64 size] w fun e w' => ∃ v b, e = .returned (.tuple #[v, .bool b]) ∧ Below w.heap.size w w' :=
  (numbers_any s word size hs hw hsz1 hsz hw32 w hL).mono fun e w' ⟨v, hb, h⟩ => by
    rcases h with ⟨_, he⟩ | ⟨l, _, he, _⟩
    · exact ⟨v, false, he, hb⟩
    · exact ⟨v, true, he, hb⟩
theorem nums_none {s word : List UInt8} {size : Nat} (hp : parseLine word size s = none) (hs : s.length ≤ 1073741823) (hw : word.length ≤ 1000) (hsz1 : 1 ≤ size) (hsz : size ≤ 1000) (hw32 : (32 : UInt8) ∉ word) (w : World) (hL : Laid w) :
    Calls Tryd.prog 36 #[.string (bs s), .string (bs word), .int .i64 size] w fun e w' => ∃ v, e = .returned (.tuple #[v, .bool false]) ∧ Below w.heap.size w w' :=
  (numbers_any s word size hs hw hsz1 hsz hw32 w hL).mono fun e w' ⟨v, hb, h⟩ => by
    rcases h with ⟨_, he⟩ | ⟨l, hl, he, _⟩
    · exact ⟨v, he, hb⟩
    · rw [hp] at hl; cases hl
theorem nums_some_ {s word : List UInt8} {size : Nat} {l : List Nat} (hp : parseLine word size s = some l) (hs : s.length ≤ 1073741823) (hw : word.length ≤ 1000) (hsz1 : 1 ≤ size) (hsz : size ≤ 1000) (hw32 : (32 : UInt8) ∉ word) (w : World) (hL : Laid w) :
    Calls Tryd.prog 36 #[.string (bs s), .string (bs word), .int .i64 size] w fun e w' => ∃ (v : Value) (A : Option Addr) (c : Nat), v = .slice A l.length c ∧ e = .returned (.tuple #[v, .bool true]) ∧ KI.C w' A l.length (l.map fun (n : Nat) => (n : Int)) ∧ Below w.heap.size w w' :=
  (numbers_any s word size hs hw hsz1 hsz hw32 w hL).mono fun e w' ⟨v, hb, h⟩ => by
    rcases h with ⟨hn, _⟩ | ⟨l', hl, he, hR⟩
    · rw [hp] at hn; cases hn
    · rw [hp] at hl
      injection hl with hl
      subst hl
      obtain ⟨A, c, e1, _, hC⟩ := Kd.R_reads hR
      rw [List.length_map] at e1 hC
      exact ⟨v, A, c, e1, he, hC, hb⟩
def ReadPost (r : ReadRes) (w : World) (e : Ending) (w' : World) : Prop :=
  ∃ v : Value, e = .returned (.tuple #[.agg #[.int .i64 r.n, v], .int .i64 (r.line : Int), .int .i64 r.err]) ∧ KE.R 45 w' w.heap.size (fun _ => True) v r.es ∧ Below w.heap.size w w'
/-- What lies in memory while a text is read: the result's cells, and the graph that grows. -/
def ReadAt (w wr : World) (n : Int) (l : List Edge) : Prop :=
  Below w.heap.size w wr ∧ wr.heap[w.heap.size]? = some (.cells #[.int .i64 0, .slice none 0 0] 24 (0, 0)) ∧
    ∃ u, wr.heap[w.heap.size + 1]? = some (.cells #[.int .i64 n, u] 24 (0, 0)) ∧ KE.R 45 wr w.heap.size (fun _ => True) u l
theorem ReadAt.below {w wr w' : World} {n : Int} {l : List Edge} (h : ReadAt w wr n l) (hb : Below wr.heap.size wr w') : ReadAt w w' n l := by
  obtain ⟨h1, h2, u, h3, h4⟩ := h
  exact ⟨below_step h1 hb, (hb.block _ (blk_lt h2)).trans h2, u, (hb.block _ (blk_lt h3)).trans h3, Kd.R_below h4 hb⟩
def readFrom (k f : Nat) (n : Int) (acc : List Edge) (rest : List UInt8) : ReadRes := if k = 1 then readG rest else finishRead n (readE f k acc rest)
theorem read_err {r : ReadRes} {w w' : World} {k : Nat} {n : Int} {l : List Edge} (hr : r = ⟨0, [], k, 52⟩) (h : ReadAt w w' n l) {e : Ending} (he : e = .returned (.tuple #[.agg #[.int .i64 0, .slice none 0 0], .int .i64 (k : Int), .int .i64 52])) : ReadPost r w e w' := by
  subst hr
  exact ⟨_, he, Kd.R_nil _ _ _ _ _, h.1⟩
theorem read_first {f : Nat} {n : Int} {acc : List Edge} {rest a r : List UInt8} {x : Nat} (h : cutNl rest = some (a, r)) (hp : parseLine graphW 1 a = some [x]) : readFrom 1 f n acc rest = readFrom 2 (r.length + 1) x [] r := by
  unfold readFrom
  rw [if_pos rfl, if_neg (by decide)]
  unfold readG headLine
  rw [h]
  simp only [hp]
theorem read_first_cut {f : Nat} {n : Int} {acc : List Edge} {rest : List UInt8} (h : cutNl rest = none) : readFrom 1 f n acc rest = ⟨0, [], 1, 52⟩ := by
  unfold readFrom
  rw [if_pos rfl]
  unfold readG headLine
  rw [h]
theorem read_first_bad {f : Nat} {n : Int} {acc : List Edge} {rest a r : List UInt8} (h : cutNl rest = some (a, r)) (hp : parseLine graphW 1 a = none) : readFrom 1 f n acc rest = ⟨0, [], 1, 52⟩ := by
  unfold readFrom
  rw [if_pos rfl]
  unfold readG headLine
  rw [h]
  simp only [hp]
theorem read_next {k f : Nat} {n : Int} {acc : List Edge} {rest a r : List UInt8} {x y z : Nat} (hk : 2 ≤ k) (h : cutNl rest = some (a, r)) (hp : parseLine edgeW 3 a = some [x, y, z]) : readFrom k (f + 1) n acc rest = readFrom (k + 1) f n (acc ++ [⟨x, y, z⟩]) r := by
  have hl : edgeLine rest = some (⟨x, y, z⟩, r) := by
    unfold edgeLine
    rw [h]
    simp only [hp]
  unfold readFrom
  rw [if_neg (by omega), if_neg (by omega), readE_some hl]
theorem read_next_bad {k f : Nat} {n : Int} {acc : List Edge} {rest : List UInt8} (hk : 2 ≤ k) (hne : rest ≠ []) (h : edgeLine rest = none) : readFrom k (f + 1) n acc rest = ⟨0, [], k, 52⟩ := by
  unfold readFrom
  rw [if_neg (by omega), readE_none hne h]
  rfl
theorem edgeLine_cut {rest : List UInt8} (h : cutNl rest = none) : edgeLine rest = none := by unfold edgeLine; rw [h]
theorem edgeLine_bad {rest a r : List UInt8} (h : cutNl rest = some (a, r)) (hp : parseLine edgeW 3 a = none) : edgeLine rest = none := by unfold edgeLine; rw [h]; simp only [hp]
theorem read_last {k f : Nat} {n : Int} {acc : List Edge} (hk : 2 ≤ k) : readFrom k (f + 1) n acc [] = finishRead n (.inr acc) := by
  unfold readFrom
  rw [if_neg (by omega), readE_nil]
theorem parse1 {s : List UInt8} {l : List Nat} (h : parseLine graphW 1 s = some l) : ∃ x, l = [x] ∧ x < 1000000000 := by
  obtain ⟨_, h2, h3⟩ := (parseLine_some graphW 1 s l (by decide)).1 h
  match l, h2 with
  | [x], _ => exact ⟨x, rfl, h3 x (by simp)⟩
theorem parse3 {s : List UInt8} {l : List Nat} (h : parseLine edgeW 3 s = some l) : ∃ x y z, l = [x, y, z] ∧ x < 1000000000 ∧ y < 1000000000 ∧ z < 1000000000 := by
  obtain ⟨_, h2, h3⟩ := (parseLine_some edgeW 3 s l (by decide)).1 h
  match l, h2 with
  | [x, y, z], _ => exact ⟨x, y, z, rfl, h3 x (by simp), h3 y (by simp), h3 z (by simp)⟩
theorem ReadAt.setN {w wr : World} {n : Int} {l : List Edge} (h : ReadAt w wr n l) (x : Int) : ReadAt w (wr.setCell ⟨w.heap.size + 1, 0, none⟩ (.int .i64 x)) x l := by
  obtain ⟨h1, h2, u, h3, h4⟩ := h
  refine ⟨h1.setCell (by simp) _, ?_, u, blk_put h3 0 (.int .i64 x) rfl, Kd.R_set h4 h3 edge_no_graph 0 _⟩
  rw [Below.heap_setCell _ _ _ _ (by simp)]
  exact h2
theorem ReadAt.push {w wr w1 : World} {n : Int} {u v1 : Value} {l l2 : List Edge} (h2 : wr.heap[w.heap.size]? = some (.cells #[.int .i64 0, .slice none 0 0] 24 (0, 0))) (hu : wr.heap[w.heap.size + 1]? = some (.cells #[.int .i64 n, u] 24 (0, 0))) (hR : KE.R 45 wr w.heap.size (fun _ => True) u l)
    (hB1 : Below w.heap.size w w1) (hR1 : KE.R 45 w1 w.heap.size (fun _ => True) v1 l2) (hg : wr.grownBy w1 u.ownBlock) : ReadAt w (w1.setCell ⟨w.heap.size + 1, 1, none⟩ v1) n l2 := by
  have b2 := blk_grown h2 hg (graph_apart h2 hR)
  have b3 := blk_grown hu hg (graph_apart hu hR)
  refine ⟨hB1.setCell (by simp) _, ?_, v1, blk_put b3 1 v1 rfl, Kd.R_set hR1 b3 edge_no_graph 1 v1⟩
  rw [Below.heap_setCell _ _ _ _ (by simp)]
  exact b2
theorem read_err' {r : ReadRes} {w w' : World} {k : Nat} (hr : r = ⟨0, [], k, 52⟩) (h : Below w.heap.size w w') : ReadPost r w (.returned (.tuple #[.agg #[.int .i64 0, .slice none 0 0], .int .i64 (k : Int), .int .i64 52])) w' := by
  subst hr
  exact ⟨_, rfl, Kd.R_nil _ _ _ _ _, h⟩
set_option maxRecDepth 100000 in
set_option maxHeartbeats 4000000 in
theorem read_any (s : List UInt8) (hs : s.length ≤ 1000000) (w : World) (hL : Laid w) :
    Calls Tryd.prog 23 #[.string (bs s)] w (ReadPost (readG s) w) := by
  have z1 : (w.alloc (.cells #[.int .i64 0, .slice none 0 0] 24)).heap.size = w.heap.size + 1 := by simp
  have hst : ReadAt w ((w.alloc (.cells #[.int .i64 0, .slice none 0 0] 24)).alloc (.cells #[.int .i64 0, .slice none 0 0] 24)) 0 [] := by
    refine ⟨((Below.refl _ w).alloc (Nat.le_refl _) _).alloc (by simp) _, ?_, .slice none 0 0, ?_, Kd.R_nil _ _ _ _ _⟩
    · rw [Below.heap_alloc _ _ _ (by rw [z1]; omega)]
      exact Array.getElem?_push_size
    · rw [← z1]
      exact Array.getElem?_push_size
  have HST := Aside0.mk hst
  have HL := Aside0.mk hL
  clear z1 hst hL
  go_enter Tryd.func23, Tryd.ntmps23
  go_wp2
  go_loopw [0, 6] (fun v0 v6 wr => ∃ (k f : Nat) (n : Int) (acc : List Edge) (rest : List UInt8), 1 ≤ k ∧ k + rest.length ≤ s.length + 1 ∧ acc.length + rest.length ≤ s.length ∧ v0 = .string (bs rest) ∧ v6 = .int .i64 k ∧ Hid (readG s = readFrom k f n acc rest) ∧ Aside0 (k ≠ 1 → rest.length < f) ∧ Aside0 (k = 1 → acc = []) ∧ Aside0 (ReadAt w wr n acc)) (fun v0 _ _ => strLen v0)
  case atStart => exact ⟨1, 0, 0, [], s, Nat.le_refl _, by omega, by simp, rfl, rfl, Lib.hid rfl, ⟨fun h => absurd rfl h⟩, ⟨fun _ => rfl⟩, HST⟩
  case round =>
    obtain ⟨k, f, n, acc, rest, hk1, hkl, hal, rfl, rfl, hE, hF, hA, hM⟩ := hrel
    have hrl : rest.length ≤ 1073741823 := by omega
    have hLr := HL.out.below hM.out.1
    by_cases hk : k = 1
    · subst hk
      cases hc : cutNl rest with
      | none =>
        have HR := Lib.hid (hE.out.trans (read_first_cut hc))
        have HK := Aside0.mk (cut_none hc (by omega) wr hLr)
        have HN := fun w' => Aside0.mk (fun hb => nums_weak rest graphW 1 hrl (by decide) (Nat.le_refl _) (by decide) (by decide) w' (hLr.below hb))
        clear hc hLr
        go_wp2_with (first | (go_at_call 35; refine HK.out.mono ?_; rintro e w2 ⟨rfl, hb2⟩; have hn := (HN w2).out hb2; have HN2 := Aside0.mk hn; have HM2 := Aside0.mk (hM.out.below hb2); clear hn hb2) | (go_at_call 36; refine HN2.out.mono ?_; rintro e w3 ⟨v3, b3, rfl, hb3⟩; have hm3 := HM2.out.below hb3; have c0 : w3.cell? ⟨w.heap.size, 0, none⟩ = some (.int .i64 0) := (by rw [blk_cell hm3.2.1]; rfl); have c1 : w3.cell? ⟨w.heap.size, 1, none⟩ = some (.slice none 0 0) := (by rw [blk_cell hm3.2.1]; rfl); have f0 := blk_frozen hm3.2.1 0; have f1 := blk_frozen hm3.2.1 1; have HM3 := Aside0.mk hm3; clear hm3 hb3))
        refine bodyPost_ret (v := .tuple #[.agg #[.int .i64 0, .slice none 0 0], .int .i64 1, .int .i64 52]) (by simp [results, Tryd.results23, go_sem, *]) rfl (read_err' (k := 1) HR.out ((HM3.out.1.setCell (by simp) _).setCell (by simp) _))
      | some p =>
        obtain ⟨a, r⟩ := p
        obtain ⟨cr, ca⟩ := cutNl_lt hc
        have HK := Aside0.mk (cut_some hc (by omega) wr hLr)
        cases hp : parseLine graphW 1 a with
        | none =>
          have HR := Lib.hid (hE.out.trans (read_first_bad hc hp))
          have HN := fun w' => Aside0.mk (fun hb => nums_none hp (by omega) (by decide) (Nat.le_refl _) (by decide) (by decide) w' (hLr.below hb))
          clear hc hp hLr
          go_wp2_with (first | (go_at_call 35; refine HK.out.mono ?_; rintro e w2 ⟨rfl, hb2⟩; have hn := (HN w2).out hb2; have HN2 := Aside0.mk hn; have HM2 := Aside0.mk (hM.out.below hb2); clear hn hb2) | (go_at_call 36; refine HN2.out.mono ?_; rintro e w3 ⟨v3, rfl, hb3⟩; have hm3 := HM2.out.below hb3; have c0 : w3.cell? ⟨w.heap.size, 0, none⟩ = some (.int .i64 0) := (by rw [blk_cell hm3.2.1]; rfl); have c1 : w3.cell? ⟨w.heap.size, 1, none⟩ = some (.slice none 0 0) := (by rw [blk_cell hm3.2.1]; rfl); have f0 := blk_frozen hm3.2.1 0; have f1 := blk_frozen hm3.2.1 1; have HM3 := Aside0.mk hm3; clear hm3 hb3))
          refine bodyPost_ret (v := .tuple #[.agg #[.int .i64 0, .slice none 0 0], .int .i64 1, .int .i64 52]) (by simp [results, Tryd.results23, go_sem, *]) rfl (read_err' (k := 1) HR.out ((HM3.out.1.setCell (by simp) _).setCell (by simp) _))
        | some l =>
          obtain ⟨x, rfl, hx⟩ := parse1 hp
          have HR := Lib.hid (hE.out.trans (read_first hc hp))
          have HN := fun w' => Aside0.mk (fun hb => nums_some_ hp (by omega) (by decide) (Nat.le_refl _) (by decide) (by decide) w' (hLr.below hb))
          have hacc := hA.out rfl
          subst hacc
          clear hc hp hLr
          go_wp2_with (first | (go_at_call 35; refine HK.out.mono ?_; rintro e w2 ⟨rfl, hb2⟩; have hn := (HN w2).out hb2; have HN2 := Aside0.mk hn; have HM2 := Aside0.mk (hM.out.below hb2); clear hn hb2) | (go_at_call 36; refine HN2.out.mono ?_; rintro e w3 ⟨v3, A3, c3, rfl, rfl, hC3, hb3⟩; have hm3 := HM2.out.below hb3; obtain ⟨u, hu1, hu2⟩ := hm3.2.2; have d0 : w3.cell? ⟨w.heap.size + 1, 0, none⟩ = some (.int .i64 n) := (by rw [blk_cell hu1]; rfl); have g0 := blk_frozen hu1 0; obtain ⟨ad, rfl, i0⟩ := KI_at hC3 0 (by simp); have i1 : w3.cell? ad = some (.int .i64 x) := (by simpa [Addr.add] using i0); have HM3 := Aside0.mk hm3; clear hm3 hb3 hC3 i0 hu1 hu2))
          go_roundw
          case rel => exact ⟨2, r.length + 1, x, [], r, by omega, by omega, by simp; omega, rfl, by go_num, HR, ⟨fun _ => Nat.lt_succ_self _⟩, ⟨fun h => absurd h (by decide)⟩, ⟨HM3.out.setN x⟩⟩
          case measure => simp [strLen, bs_size]; omega
    · have hk2 : 2 ≤ k := by omega
      have hkb : ((k : Int) == 1) = false := by rw [beq_eq_false_iff_ne]; omega
      have hfl := hF.out hk
      obtain ⟨f, rfl⟩ : ∃ m, f = m + 1 := ⟨f - 1, by omega⟩
      by_cases hne : rest = []
      · subst hne
        have HR := Lib.hid (hE.out.trans (read_last hk2))
        have hem : (bs []).toList.isEmpty = true := by rw [bs_toList]; rfl
        obtain ⟨u, hu1, hu2⟩ := hM.out.2.2
        have hB0 := hM.out.2.1
        obtain ⟨A, c, rfl, _, hC⟩ := Kd.R_reads hu2
        have d0 : wr.cell? ⟨w.heap.size + 1, 0, none⟩ = some (.int .i64 n) := by rw [blk_cell hu1]; rfl
        have d1 : wr.cell? ⟨w.heap.size + 1, 1, none⟩ = some (.slice A acc.length c) := by rw [blk_cell hu1]; rfl
        have B0 := Aside0.mk hB0
        have B1 := Aside0.mk hu1
        have HB := Aside0.mk hM.out.1
        by_cases hch : Graph.check ⟨n, acc⟩ = 0
        · have HK := Aside0.mk (norm_ok n A c acc wr hC hch)
          have HR2 := Lib.hid (HR.out.trans (finish_ok hch))
          clear hu1 hu2 hB0 hC hk hfl hch HR
          go_wp2_with (go_at_call 12; refine HK.out.mono ?_; rintro e w2 ⟨v2, rfl, hR2, hb2⟩; have g0 := (hb2.block _ (blk_lt B0.out)).trans B0.out; have g1 := (hb2.block _ (blk_lt B1.out)).trans B1.out; have c0 : w2.cell? ⟨w.heap.size, 0, none⟩ = some (.int .i64 0) := (by rw [blk_cell g0]; rfl); have c1 : w2.cell? ⟨w.heap.size, 1, none⟩ = some (.slice none 0 0) := (by rw [blk_cell g0]; rfl); have d0' : w2.cell? ⟨w.heap.size + 1, 0, none⟩ = some (.int .i64 n) := (by rw [blk_cell g1]; rfl); have d1' : w2.cell? ⟨w.heap.size + 1, 1, none⟩ = some (.slice A acc.length c) := (by rw [blk_cell g1]; rfl); have f00 := blk_frozen g0 0; have f01 := blk_frozen g0 1; have f10 := blk_frozen g1 0; have f11 := blk_frozen g1 1; have G0 := Aside0.mk g0; have G1 := Aside0.mk g1; have HX := Aside0.mk (And.intro hR2 hb2); obtain ⟨A2, k2, c2, rfl⟩ : ∃ A k c, v2 = .slice A k c := (by obtain ⟨A, c, e⟩ := Kd.R_slice hR2; exact ⟨A, _, c, e⟩); clear g0 g1 hR2 hb2)
          obtain ⟨hR2, hb2⟩ := HX.out
          have hR4 := Kd.R_lower (base' := w.heap.size) hR2 HB.out.size
          have r1 := Kd.R_set hR4 G1.out edge_no_graph 0 (.int .i64 n)
          have p1 := blk_put G1.out 0 (.int .i64 n) rfl
          have r2 := Kd.R_set r1 p1 edge_no_graph 1 (.slice A2 k2 c2)
          have q0 : ((w2.setCell ⟨w.heap.size + 1, 0, none⟩ (.int .i64 n)).setCell ⟨w.heap.size + 1, 1, none⟩ (.slice A2 k2 c2)).heap[w.heap.size]? = some (.cells #[.int .i64 0, .slice none 0 0] 24 (0, 0)) := by
            rw [Below.heap_setCell _ _ _ _ (by simp), Below.heap_setCell _ _ _ _ (by simp)]
            exact G0.out
          have r3 := Kd.R_set r2 q0 edge_no_graph 0 (.int .i64 n)
          have r4 := Kd.R_set r3 (blk_put q0 0 (.int .i64 n) rfl) edge_no_graph 1 (.slice A2 k2 c2)
          refine bodyPost_ret (v := .tuple #[.agg #[.int .i64 n, .slice A2 k2 c2], .int .i64 0, .int .i64 0]) (by simp [results, Tryd.results23, go_sem, *]) rfl ?_
          rw [HR2.out]
          exact ⟨_, rfl, r4, ((((below_step HB.out hb2).setCell (by simp) _).setCell (by simp) _).setCell (by simp) _).setCell (by simp) _⟩
        · have HK := Aside0.mk (norm_bad n A c acc wr hC hch)
          have HR2 := Lib.hid (HR.out.trans (finish_bad hch))
          clear hu1 hu2 hB0 hC hk hfl hch HR
          generalize Graph.check ⟨n, acc⟩ = x at HK HR2
          go_wp2_with (go_at_call 12; refine HK.out.mono ?_; rintro e w2 ⟨rfl, hb2⟩; have g0 := (hb2.block _ (blk_lt B0.out)).trans B0.out; have g1 := (hb2.block _ (blk_lt B1.out)).trans B1.out; have c0 : w2.cell? ⟨w.heap.size, 0, none⟩ = some (.int .i64 0) := (by rw [blk_cell g0]; rfl); have c1 : w2.cell? ⟨w.heap.size, 1, none⟩ = some (.slice none 0 0) := (by rw [blk_cell g0]; rfl); have d0' : w2.cell? ⟨w.heap.size + 1, 0, none⟩ = some (.int .i64 n) := (by rw [blk_cell g1]; rfl); have d1' : w2.cell? ⟨w.heap.size + 1, 1, none⟩ = some (.slice A acc.length c) := (by rw [blk_cell g1]; rfl); have f00 := blk_frozen g0 0; have f01 := blk_frozen g0 1; have f10 := blk_frozen g1 0; have f11 := blk_frozen g1 1; have HX := Aside0.mk hb2; clear g0 g1 hb2)
          refine bodyPost_ret (v := .tuple #[.agg #[.int .i64 0, .slice none 0 0], .int .i64 0, .int .i64 x]) (by simp [results, Tryd.results23, go_sem, *]) rfl ?_
          rw [HR2.out]
          exact ⟨_, rfl, Kd.R_nil _ _ _ _ _, ((((below_step HB.out HX.out).setCell (by simp) _).setCell (by simp) _).setCell (by simp) _).setCell (by simp) _⟩
      · have hem : (bs rest).toList.isEmpty = false := by rw [bs_toList]; cases rest with
          | nil => exact absurd rfl hne
          | cons => rfl
        cases hc : cutNl rest with
        | none =>
          have HR := Lib.hid (hE.out.trans (read_next_bad hk2 hne (edgeLine_cut hc)))
          have HK := Aside0.mk (cut_none hc (by omega) wr hLr)
          have HN := fun w' => Aside0.mk (fun hb => nums_weak rest edgeW 3 hrl (by decide) (by decide) (by decide) (by decide) w' (hLr.below hb))
          clear hc hLr hk hne hfl
          go_wp2_with (first | (go_at_call 35; refine HK.out.mono ?_; rintro e w2 ⟨rfl, hb2⟩; have hn := (HN w2).out hb2; have HN2 := Aside0.mk hn; have HM2 := Aside0.mk (hM.out.below hb2); clear hn hb2) | (go_at_call 36; refine HN2.out.mono ?_; rintro e w3 ⟨v3, b3, rfl, hb3⟩; have hm3 := HM2.out.below hb3; have c0 : w3.cell? ⟨w.heap.size, 0, none⟩ = some (.int .i64 0) := (by rw [blk_cell hm3.2.1]; rfl); have c1 : w3.cell? ⟨w.heap.size, 1, none⟩ = some (.slice none 0 0) := (by rw [blk_cell hm3.2.1]; rfl); have f0 := blk_frozen hm3.2.1 0; have f1 := blk_frozen hm3.2.1 1; have HM3 := Aside0.mk hm3; clear hm3 hb3))
          refine bodyPost_ret (v := .tuple #[.agg #[.int .i64 0, .slice none 0 0], .int .i64 k, .int .i64 52]) (by simp [results, Tryd.results23, go_sem, *]) rfl (read_err' (k := k) HR.out ((HM3.out.1.setCell (by simp) _).setCell (by simp) _))
        | some p =>
          obtain ⟨a, r⟩ := p
          obtain ⟨cr, ca⟩ := cutNl_lt hc
          have HK := Aside0.mk (cut_some hc (by omega) wr hLr)
          cases hp : parseLine edgeW 3 a with
          | none =>
            have HR := Lib.hid (hE.out.trans (read_next_bad hk2 hne (edgeLine_bad hc hp)))
            have HN := fun w' => Aside0.mk (fun hb => nums_none hp (by omega) (by decide) (by decide) (by decide) (by decide) w' (hLr.below hb))
            clear hc hp hLr hk hne hfl
            go_wp2_with (first | (go_at_call 35; refine HK.out.mono ?_; rintro e w2 ⟨rfl, hb2⟩; have hn := (HN w2).out hb2; have HN2 := Aside0.mk hn; have HM2 := Aside0.mk (hM.out.below hb2); clear hn hb2) | (go_at_call 36; refine HN2.out.mono ?_; rintro e w3 ⟨v3, rfl, hb3⟩; have hm3 := HM2.out.below hb3; have c0 : w3.cell? ⟨w.heap.size, 0, none⟩ = some (.int .i64 0) := (by rw [blk_cell hm3.2.1]; rfl); have c1 : w3.cell? ⟨w.heap.size, 1, none⟩ = some (.slice none 0 0) := (by rw [blk_cell hm3.2.1]; rfl); have f0 := blk_frozen hm3.2.1 0; have f1 := blk_frozen hm3.2.1 1; have HM3 := Aside0.mk hm3; clear hm3 hb3))
            refine bodyPost_ret (v := .tuple #[.agg #[.int .i64 0, .slice none 0 0], .int .i64 k, .int .i64 52]) (by simp [results, Tryd.results23, go_sem, *]) rfl (read_err' (k := k) HR.out ((HM3.out.1.setCell (by simp) _).setCell (by simp) _))
          | some l =>
            obtain ⟨x, y, z, rfl, hx, hy, hz⟩ := parse3 hp
            have HR := Lib.hid (hE.out.trans (read_next hk2 hc hp))
            have HN := fun w' => Aside0.mk (fun hb => nums_some_ hp (by omega) (by decide) (by decide) (by decide) (by decide) w' (hLr.below hb))
            clear hc hp hLr hk hne
            go_wp2_with (first | (go_at_call 35; refine HK.out.mono ?_; rintro e w2 ⟨rfl, hb2⟩; have hn := (HN w2).out hb2; have HN2 := Aside0.mk hn; have HM2 := Aside0.mk (hM.out.below hb2); clear hn hb2) | (go_at_call 36; refine HN2.out.mono ?_; rintro e w3 ⟨v3, A3, c3, rfl, rfl, hC3, hb3⟩; have hm3 := HM2.out.below hb3; have HM3 := Aside0.mk hm3; have HC3 := Aside0.mk hC3; clear hm3 hb3 hC3))
            obtain ⟨hB3, hB0, u, hu1, hu2⟩ := HM3.out
            have hC3 := HC3.out
            have hsz3 := hB3.size
            have hlt3 : w.heap.size + 1 < w3.heap.size := blk_lt hu1
            obtain ⟨ad, rfl, i0⟩ := KI_at hC3 0 (by simp)
            obtain ⟨ad', e1, i1⟩ := KI_at hC3 1 (by simp)
            obtain rfl : ad = ad' := by injection e1
            obtain ⟨ad', e2, i2⟩ := KI_at hC3 2 (by simp)
            obtain rfl : ad = ad' := by injection e2
            have j0 : w3.cell? ad = some (.int .i64 x) := by simpa [Addr.add] using i0
            have j1 : w3.cell? ⟨ad.block, ad.off + 1, none⟩ = some (.int .i64 y) := by simpa [Addr.add] using i1
            have j2 : w3.cell? ⟨ad.block, ad.off + 2, none⟩ = some (.int .i64 z) := by simpa [Addr.add] using i2
            have d1 : w3.cell? ⟨w.heap.size + 1, 1, none⟩ = some u := by rw [blk_cell hu1]; rfl
            have hgne : some (w.heap.size + 1) ≠ u.ownBlock := graph_apart hu1 hu2
            have HRD : Aside0 (KE.R 45 w3.drew w.heap.size (fun _ => True) u acc) := ⟨Kd.R_step hu2 (fun _ _ _ => rfl)⟩
            have B0 := Aside0.mk hB0
            have B1 := Aside0.mk hu1
            have HB := Aside0.mk hB3
            clear hB0 hu1 hu2 hC3 hB3 i0 i1 i2 e1 e2
            go_region_law ((refine Kd.R_append_step KE (w0 := w) (W := w3.drew) w.heap.size (by rfl) (.tmp 53) (.tmp 64) 22 45 (.agg #[.int .i64 0, .int .i64 0, .int .i64 0]) 24 (by rfl) Tryd.underlying22 infoE rfl (by decide) (by decide) u acc ⟨x, y, z⟩ [.int .i64 x, .int .i64 y, .int .i64 z] (fun _ => True) (fun _ => False) (by rfl) (by rfl) rfl (fun _ hk => hk.elim) (fun _ _ => trivial) HRD.out HB.out.drew hsz3 (by omega) ?_; intro v1 w1 hR1 hB1 hg1 hat1; have HX := Aside0.mk (ReadAt.push (wr := w3.drew) B0.out B1.out HRD.out hB1 hR1 hg1); have hw1 := blk_frozen (blk_grown (w := w3.drew) B1.out hg1 hgne) 1; have hw2 : w1.cell? ⟨w.heap.size + 1, 1, none⟩ = some u := (by rw [blk_cell (blk_grown (w := w3.drew) B1.out hg1 hgne)]; rfl); obtain ⟨A1, k1, c1, rfl⟩ : ∃ A k c, v1 = .slice A k c := (by obtain ⟨A, c, e⟩ := Kd.R_slice hR1; exact ⟨A, _, c, e⟩); clear hR1 hB1 hg1 hat1))
            all_goals
              go_wp2
              go_roundw
              case rel => exact ⟨k + 1, f, n, acc ++ [⟨x, y, z⟩], r, by omega, by omega, by simp; omega, rfl, by go_num, HR, ⟨fun _ => by omega⟩, ⟨fun h => by omega⟩, HX⟩
              case measure => simp [strLen, bs_size]; omega
end Go.Proofs.YtenpmbebghlnkaaDoor
