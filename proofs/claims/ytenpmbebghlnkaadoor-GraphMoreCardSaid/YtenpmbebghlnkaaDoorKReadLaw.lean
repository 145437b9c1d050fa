/-
  Plain law: the text of a graph, and the graph of a text: line by line.
-/
import Derived.Test.YtenpmbebghlnkaaDoorKGraphB
import Derived.Test.YtenpmbebghlnkaaDoorKLines
namespace Go.Proofs.YtenpmbebghlnkaaDoor
open Go
/-! ### up to the end of a line -/
def cutNl : List UInt8 → Option (List UInt8 × List UInt8)
  | [] => none
  | b :: s => if b = 10 then some ([], s) else (cutNl s).map fun p => (b :: p.1, p.2)
theorem cutNl_append {r : List UInt8} : ∀ {a : List UInt8}, (10 : UInt8) ∉ a → cutNl (a ++ 10 :: r) = some (a, r)
  | [], _ => by simp [cutNl]
  | b :: a, h => by
    have hb : b ≠ 10 := fun e => h (by rw [e]; simp)
    rw [List.cons_append, cutNl, if_neg hb, cutNl_append (fun hm => h (by simp [hm]))]
    rfl
theorem cutNl_some : ∀ {s a r : List UInt8}, cutNl s = some (a, r) → s = a ++ 10 :: r ∧ (10 : UInt8) ∉ a
  | [], a, r, h => by cases h
  | b :: s, a, r, h => by
    rw [cutNl] at h
    split at h
    · rename_i hb
      simp only [Option.some.injEq, Prod.mk.injEq] at h
      obtain ⟨rfl, rfl⟩ := h
      exact ⟨by rw [hb]; rfl, by simp⟩
    · rename_i hb
      obtain ⟨p, hp, e⟩ := Option.map_eq_some_iff.1 h
      simp only [Prod.mk.injEq] at e
      obtain ⟨rfl, rfl⟩ := e
      obtain ⟨h1, h2⟩ := cutNl_some (s := s) (a := p.1) (r := p.2) hp
      exact ⟨by rw [h1]; rfl, by simp only [List.mem_cons, not_or]; exact ⟨fun e => hb e.symm, h2⟩⟩
theorem cutNl_none {s : List UInt8} : cutNl s = none ↔ (10 : UInt8) ∉ s := by
  induction s with
  | nil => simp [cutNl]
  | cons b s ih =>
    rw [cutNl]
    by_cases hb : b = 10
    · simp [hb]
    · rw [if_neg hb, Option.map_eq_none_iff, ih]
      simp only [List.mem_cons, not_or]
      exact ⟨fun h => ⟨fun e => hb e.symm, h⟩, fun h => h.2⟩
theorem cutNl_lt {s a r : List UInt8} (h : cutNl s = some (a, r)) : r.length < s.length ∧ a.length < s.length := by
  obtain ⟨e, _⟩ := cutNl_some h
  rw [e]
  simp
  omega
theorem index_nl_none : ∀ {s : List UInt8}, (10 : UInt8) ∉ s → Lib.index s [10] = -1
  | [], _ => by simp [Lib.index]
  | b :: s, h => by
    have hb : b ≠ 10 := fun e => h (by rw [e]; simp)
    rw [index_cons_ne b 10 s hb, index_nl_none (fun hm => h (by simp [hm]))]
    rfl
theorem index_nl_some {r : List UInt8} : ∀ {a : List UInt8}, (10 : UInt8) ∉ a → Lib.index (a ++ 10 :: r) [10] = (a.length : Int)
  | [], _ => index_cons_eq 10 r
  | b :: a, h => by
    have hb : b ≠ 10 := fun e => h (by rw [e]; simp)
    rw [List.cons_append, index_cons_ne b 10 _ hb, index_nl_some (fun hm => h (by simp [hm]))]
    have h1 : ((a.length : Int) == -1) = false := by rw [beq_eq_false_iff_ne]; omega
    rw [h1]
    simp
theorem lib_cut_some {s a r : List UInt8} (h : cutNl s = some (a, r)) : Lib.cut s [10] = (a, r, true) := by
  obtain ⟨e, h2⟩ := cutNl_some h
  unfold Lib.cut
  rw [e, index_nl_some h2, if_pos (by omega)]
  simp
theorem lib_cut_none {s : List UInt8} (h : cutNl s = none) : Lib.cut s [10] = (s, [], false) := by
  unfold Lib.cut
  rw [index_nl_none (cutNl_none.1 h), if_neg (by omega)]
/-! ### lines of a graph's text -/
def edgeW : List UInt8 := [101, 100, 103, 101]
def graphW : List UInt8 := [103, 114, 97, 112, 104]
def Edge.text (e : Edge) : List UInt8 := lineL edgeW [e.src, e.dst, e.wt]
def headText (n : Int) : List UInt8 := lineL graphW [n]
def graphText (n : Int) (es : List Edge) : List UInt8 := headText n ++ es.flatMap Edge.text
def Told (x : Int) : Prop := 0 ≤ x ∧ x < 1000000000
def Edge.told (e : Edge) : Prop := Told e.src ∧ Told e.dst ∧ Told e.wt
def edgeLine (s : List UInt8) : Option (Edge × List UInt8) :=
  match cutNl s with
  | none => none
  | some p => match parseLine edgeW 3 p.1 with
    | some [a, b, c] => some (⟨a, b, c⟩, p.2)
    | _ => none
def headLine (s : List UInt8) : Option (Nat × List UInt8) :=
  match cutNl s with
  | none => none
  | some p => match parseLine graphW 1 p.1 with
    | some [a] => some (a, p.2)
    | _ => none
theorem joinOn_nl (l : List Nat) : (10 : UInt8) ∉ joinOn 32 (l.map Lib.decDigits) := by
  intro h
  obtain ⟨w, hw, hb⟩ := List.mem_flatMap.1 h
  obtain ⟨n, _, rfl⟩ := List.mem_map.1 hw
  rcases List.mem_cons.1 hb with hb | hb
  · exact absurd hb (by decide)
  · exact digits_no n 10 (by unfold isDigit; decide) hb
theorem lineN_nl {word : List UInt8} (hw : (10 : UInt8) ∉ word) (l : List Nat) : (10 : UInt8) ∉ lineN word l := by
  unfold lineN
  rw [List.mem_append, not_or]
  exact ⟨hw, joinOn_nl l⟩
theorem cutNl_lineN {word r : List UInt8} (hw : (10 : UInt8) ∉ word) (l : List Nat) : cutNl (lineN word l ++ [10] ++ r) = some (lineN word l, r) := by
  rw [List.append_assoc]
  exact cutNl_append (lineN_nl hw l)
theorem nat_of_told {x : Int} (h : Told x) : ∃ n : Nat, x = (n : Int) ∧ n < 1000000000 := ⟨x.toNat, by unfold Told at h; omega, by unfold Told at h; omega⟩
theorem edgeLine_text {e : Edge} (h : e.told) (r : List UInt8) : edgeLine (e.text ++ r) = some (e, r) := by
  obtain ⟨h1, h2, h3⟩ := h
  obtain ⟨a, ea, ha⟩ := nat_of_told h1
  obtain ⟨b, eb, hb⟩ := nat_of_told h2
  obtain ⟨c, ec, hc⟩ := nat_of_told h3
  have ht : e.text = lineN edgeW [a, b, c] ++ [10] := by
    unfold Edge.text
    rw [ea, eb, ec]
    exact lineL_nat edgeW [a, b, c]
  have hp : parseLine edgeW 3 (lineN edgeW [a, b, c]) = some [a, b, c] := (parseLine_some edgeW 3 _ _ (by decide)).2 ⟨rfl, rfl, by simp [ha, hb, hc]⟩
  unfold edgeLine
  rw [ht, cutNl_lineN (by decide)]
  simp only [hp]
  rw [← ea, ← eb, ← ec]
theorem headLine_text (n : Nat) (h : n < 1000000000) (r : List UInt8) : headLine (headText n ++ r) = some (n, r) := by
  have ht : headText n = lineN graphW [n] ++ [10] := lineL_nat graphW [n]
  have hp : parseLine graphW 1 (lineN graphW [n]) = some [n] := (parseLine_some graphW 1 _ _ (by decide)).2 ⟨rfl, rfl, by simp [h]⟩
  unfold headLine
  rw [ht, cutNl_lineN (by decide)]
  simp only [hp]
theorem edgeLine_some {s r : List UInt8} {e : Edge} (h : edgeLine s = some (e, r)) : s = e.text ++ r ∧ e.told := by
  unfold edgeLine at h
  split at h
  · cases h
  · rename_i p hp
    split at h
    · rename_i a b c hl
      simp only [Option.some.injEq, Prod.mk.injEq] at h
      obtain ⟨rfl, rfl⟩ := h
      obtain ⟨e1, _⟩ := cutNl_some (a := p.1) (r := p.2) hp
      obtain ⟨e2, _, hb⟩ := (parseLine_some edgeW 3 _ _ (by decide)).1 hl
      have ht : Edge.text ⟨a, b, c⟩ = lineN edgeW [a, b, c] ++ [10] := lineL_nat edgeW [a, b, c]
      refine ⟨by rw [ht, ← e2, List.append_assoc]; exact e1, ?_⟩
      simp at hb
      unfold Edge.told Told
      simp only
      omega
    · cases h
theorem headLine_some {s r : List UInt8} {n : Nat} (h : headLine s = some (n, r)) : s = headText n ++ r ∧ n < 1000000000 := by
  unfold headLine at h
  split at h
  · cases h
  · rename_i p hp
    split at h
    · rename_i a hl
      simp only [Option.some.injEq, Prod.mk.injEq] at h
      obtain ⟨rfl, rfl⟩ := h
      obtain ⟨e1, _⟩ := cutNl_some (a := p.1) (r := p.2) hp
      obtain ⟨e2, _, hb⟩ := (parseLine_some graphW 1 _ _ (by decide)).1 hl
      have ht : headText a = lineN graphW [a] ++ [10] := lineL_nat graphW [a]
      exact ⟨by rw [ht, ← e2, List.append_assoc]; exact e1, by simpa using hb⟩
    · cases h
/-! ### a whole text -/
def readE : Nat → Nat → List Edge → List UInt8 → Nat ⊕ List Edge
  | 0, k, _, _ => .inl k
  | f + 1, k, acc, s => if s = [] then .inr acc else
    match edgeLine s with
    | none => .inl k
    | some p => readE f (k + 1) (acc ++ [p.1]) p.2
structure ReadRes where
  n : Int
  es : List Edge
  line : Nat
  err : Int
def finishRead (n : Int) : Nat ⊕ List Edge → ReadRes
  | .inl k => ⟨0, [], k, 52⟩
  | .inr es => if Graph.check ⟨n, es⟩ = 0 then ⟨n, norm es, 0, 0⟩ else ⟨0, [], 0, Graph.check ⟨n, es⟩⟩
theorem finish_ok {n : Int} {es : List Edge} (h : Graph.check ⟨n, es⟩ = 0) : finishRead n (.inr es) = ⟨n, norm es, 0, 0⟩ := by
  show (if Graph.check ⟨n, es⟩ = 0 then (⟨n, norm es, 0, 0⟩ : ReadRes) else ⟨0, [], 0, Graph.check ⟨n, es⟩⟩) = _
  rw [if_pos h]
theorem finish_bad {n : Int} {es : List Edge} (h : Graph.check ⟨n, es⟩ ≠ 0) : finishRead n (.inr es) = ⟨0, [], 0, Graph.check ⟨n, es⟩⟩ := by
  show (if Graph.check ⟨n, es⟩ = 0 then (⟨n, norm es, 0, 0⟩ : ReadRes) else ⟨0, [], 0, Graph.check ⟨n, es⟩⟩) = _
  rw [if_neg h]
def readG (s : List UInt8) : ReadRes :=
  match headLine s with
  | none => ⟨0, [], 1, 52⟩
  | some p => finishRead p.1 (readE (p.2.length + 1) 2 [] p.2)
theorem readE_nil (f k : Nat) (acc : List Edge) : readE (f + 1) k acc [] = .inr acc := by rw [readE, if_pos rfl]
theorem readE_none {f k : Nat} {acc : List Edge} {s : List UInt8} (hs : s ≠ []) (h : edgeLine s = none) : readE (f + 1) k acc s = .inl k := by rw [readE, if_neg hs, h]
theorem readE_some {f k : Nat} {acc : List Edge} {s r : List UInt8} {e : Edge} (h : edgeLine s = some (e, r)) : readE (f + 1) k acc s = readE f (k + 1) (acc ++ [e]) r := by
  have hs : s ≠ [] := by rintro rfl; cases h
  rw [readE, if_neg hs, h]
theorem readE_text : ∀ (es : List Edge) (f k : Nat) (acc : List Edge), es.length < f → (∀ e ∈ es, e.told) → readE f k acc (es.flatMap Edge.text) = .inr (acc ++ es)
  | [], f, k, acc, hf, _ => by
    obtain ⟨f, rfl⟩ : ∃ m, f = m + 1 := ⟨f - 1, by simp at hf; omega⟩
    rw [List.flatMap_nil, readE_nil, List.append_nil]
  | e :: es, f, k, acc, hf, ht => by
    obtain ⟨f, rfl⟩ : ∃ m, f = m + 1 := ⟨f - 1, by simp at hf; omega⟩
    rw [List.flatMap_cons, readE_some (edgeLine_text (ht e (by simp)) _), readE_text es f (k + 1) (acc ++ [e]) (by simp at hf; omega) (fun x hx => ht x (by simp [hx])), List.append_assoc]
    rfl
theorem readE_inr : ∀ (f k : Nat) (acc : List Edge) (s : List UInt8) (es : List Edge), readE f k acc s = .inr es → ∃ es', es = acc ++ es' ∧ s = es'.flatMap Edge.text ∧ ∀ e ∈ es', e.told
  | 0, k, acc, s, es, h => by cases h
  | f + 1, k, acc, s, es, h => by
    by_cases hs : s = []
    · subst hs
      rw [readE_nil] at h
      injection h with h
      exact ⟨[], by rw [← h, List.append_nil], rfl, by simp⟩
    · cases hl : edgeLine s with
      | none => rw [readE_none hs hl] at h; cases h
      | some p =>
        rw [readE_some (e := p.1) (r := p.2) hl] at h
        obtain ⟨es', h1, h2, h3⟩ := readE_inr f _ _ _ _ h
        obtain ⟨h4, h5⟩ := edgeLine_some (e := p.1) (r := p.2) hl
        refine ⟨p.1 :: es', by rw [h1, List.append_assoc]; rfl, by rw [h4, h2]; rfl, ?_⟩
        intro x hx
        rcases List.mem_cons.1 hx with rfl | hx
        · exact h5
        · exact h3 x hx
theorem text_len (e : Edge) : 1 ≤ e.text.length := by unfold Edge.text lineL; rw [List.length_append, List.length_singleton]; omega
theorem texts_len (es : List Edge) : es.length ≤ (es.flatMap Edge.text).length := by
  induction es with
  | nil => simp
  | cons e es ih => rw [List.flatMap_cons, List.length_append, List.length_cons]; have := text_len e; omega
/-- A graph's text is read as itself, in order. -/
theorem readG_text {n : Int} {es : List Edge} (h : Graph.check ⟨n, es⟩ = 0) : readG (graphText n es) = ⟨n, norm es, 0, 0⟩ := by
  obtain ⟨h1, h2, h3, h4, h5⟩ := check_zero h
  have h1 : 1 ≤ n := h1
  have h2 : n ≤ 64 := h2
  obtain ⟨m, rfl⟩ : ∃ m : Nat, n = (m : Int) := ⟨n.toNat, by omega⟩
  have ht : ∀ e ∈ es, e.told := fun e he => by
    have : 0 ≤ e.src ∧ e.src < m ∧ 0 ≤ e.dst ∧ e.dst < m ∧ 0 ≤ e.wt ∧ e.wt ≤ 1048576 := h4 e he
    unfold Edge.told Told
    omega
  unfold readG graphText
  rw [headLine_text m (by omega)]
  simp only
  rw [readE_text es _ 2 [] (by have := texts_len es; omega) ht, List.nil_append]
  rw [finish_ok h]
/-- What a text that is read is. -/
theorem readG_ok {s : List UInt8} (h : (readG s).err = 0) : ∃ (n : Int) (es : List Edge), s = graphText n es ∧ Graph.check ⟨n, es⟩ = 0 ∧ readG s = ⟨n, norm es, 0, 0⟩ := by
  unfold readG at h ⊢
  cases hh : headLine s with
  | none => rw [hh] at h; simp at h
  | some p =>
    rw [hh] at h
    simp only at h ⊢
    cases hr : readE (p.2.length + 1) 2 [] p.2 with
    | inl k => rw [hr] at h; simp [finishRead] at h
    | inr es =>
      rw [hr] at h
      obtain ⟨es', e1, e2, _⟩ := readE_inr _ _ _ _ _ hr
      rw [List.nil_append] at e1
      subst e1
      obtain ⟨e3, _⟩ := headLine_some (n := p.1) (r := p.2) hh
      by_cases hc : Graph.check ⟨p.1, es⟩ = 0
      · refine ⟨p.1, es, by unfold graphText; rw [← e2]; exact e3, hc, ?_⟩
        rw [finish_ok hc]
      · rw [finish_bad hc] at h
        exact absurd h hc
theorem readG_bad {s : List UInt8} (h : (readG s).err ≠ 0) : (readG s).n = 0 ∧ (readG s).es = [] := by
  unfold readG at h ⊢
  cases hh : headLine s with
  | none => exact ⟨rfl, rfl⟩
  | some p =>
    rw [hh] at h
    simp only at h ⊢
    cases hr : readE (p.2.length + 1) 2 [] p.2 with
    | inl k => exact ⟨rfl, rfl⟩
    | inr es =>
      rw [hr] at h
      by_cases hc : Graph.check ⟨p.1, es⟩ = 0
      · rw [finish_ok hc] at h; exact absurd rfl h
      · rw [finish_bad hc]; exact ⟨rfl, rfl⟩
end Go.Proofs.YtenpmbebghlnkaaDoor
