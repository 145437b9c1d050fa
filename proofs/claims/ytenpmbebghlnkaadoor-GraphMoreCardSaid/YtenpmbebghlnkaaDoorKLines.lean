/-
  Plain law: words of a line, digits of a number: what the program's and the reference's readers of a line both mean.
-/
import Derived.Lib.ItoaNum
import Derived.Lib.ItoaMem
import Derived.Lib.SplitLaws
import Derived.Lib.AtoiTie
import Derived.Lib.ItoaLen
namespace Go.Proofs.YtenpmbebghlnkaaDoor
open Go
/-! ### words -/
def splitOn (c : UInt8) : List UInt8 → List (List UInt8)
  | [] => [[]]
  | b :: l => if b = c then [] :: splitOn c l else
    match splitOn c l with
    | [] => [[b]]
    | w :: ws => (b :: w) :: ws
theorem splitOn_ne (c : UInt8) : ∀ l, ∃ w ws, splitOn c l = w :: ws
  | [] => ⟨[], [], rfl⟩
  | b :: l => by
    unfold splitOn
    split
    · exact ⟨_, _, rfl⟩
    · obtain ⟨w, ws, h⟩ := splitOn_ne c l
      rw [h]
      exact ⟨_, _, rfl⟩
theorem splitOn_eq (c : UInt8) (l : List UInt8) : splitOn c (c :: l) = [] :: splitOn c l := by rw [splitOn]; simp
theorem splitOn_cons {b c : UInt8} (h : b ≠ c) {l w : List UInt8} {ws : List (List UInt8)} (e : splitOn c l = w :: ws) : splitOn c (b :: l) = (b :: w) :: ws := by
  rw [splitOn, if_neg h, e]
theorem splitOn_word {c : UInt8} : ∀ {w : List UInt8}, c ∉ w → splitOn c w = [w]
  | [], _ => rfl
  | b :: w, h => by
    have hb : b ≠ c := fun e => h (by rw [e]; simp)
    exact splitOn_cons hb (splitOn_word (fun hm => h (by simp [hm])))
theorem splitOn_append {c : UInt8} {s : List UInt8} : ∀ {w : List UInt8}, c ∉ w → splitOn c (w ++ c :: s) = w :: splitOn c s
  | [], _ => splitOn_eq c s
  | b :: w, h => by
    have hb : b ≠ c := fun e => h (by rw [e]; simp)
    exact splitOn_cons hb (splitOn_append (fun hm => h (by simp [hm])))
/-- Words with the sign ahead of each but the first. -/
def joinOn (c : UInt8) (ws : List (List UInt8)) : List UInt8 := ws.flatMap (c :: ·)
theorem splitOn_join {c : UInt8} : ∀ {ws : List (List UInt8)} {w : List UInt8}, c ∉ w → (∀ x ∈ ws, c ∉ x) → splitOn c (w ++ joinOn c ws) = w :: ws
  | [], w, h, _ => by simpa [joinOn] using splitOn_word h
  | x :: ws, w, h, hx => by
    have : joinOn c (x :: ws) = c :: (x ++ joinOn c ws) := by simp [joinOn]
    rw [this, splitOn_append h, splitOn_join (hx x (by simp)) (fun y hy => hx y (by simp [hy]))]
theorem join_splitOn {c : UInt8} : ∀ {s w : List UInt8} {ws : List (List UInt8)}, splitOn c s = w :: ws → s = w ++ joinOn c ws ∧ c ∉ w ∧ ∀ x ∈ ws, c ∉ x
  | [], w, ws, h => by
    injection h with h1 h2
    subst h1; subst h2
    exact ⟨rfl, by simp, by simp⟩
  | b :: s, w, ws, h => by
    obtain ⟨w1, ws1, h1⟩ := splitOn_ne c s
    obtain ⟨e1, e2, e3⟩ := join_splitOn h1
    by_cases hb : b = c
    · subst hb
      rw [splitOn_eq, h1] at h
      injection h with h2 h3
      subst h2; subst h3
      refine ⟨by rw [e1]; simp [joinOn], by simp, ?_⟩
      intro x hx
      rcases List.mem_cons.1 hx with rfl | hx
      · exact e2
      · exact e3 x hx
    · rw [splitOn_cons hb h1] at h
      injection h with h2 h3
      subst h2; subst h3
      exact ⟨by rw [e1]; simp, by simp only [List.mem_cons, not_or]; exact ⟨fun e => hb e.symm, e2⟩, e3⟩
theorem index_cons_ne (b c : UInt8) (l : List UInt8) (h : b ≠ c) : Lib.index (b :: l) [c] = if Lib.index l [c] == -1 then -1 else Lib.index l [c] + 1 := by
  have hp : ([c] : List UInt8).isPrefixOf (b :: l) = false := by simp [List.isPrefixOf, Ne.symm h]
  rw [Lib.index, hp]; simp
theorem index_cons_eq (c : UInt8) (l : List UInt8) : Lib.index (c :: l) [c] = 0 := by
  rw [Lib.index]; simp [List.isPrefixOf]
theorem split_splitOn (c : UInt8) : ∀ s, Lib.split s [c] = splitOn c s
  | [] => by
    have : Lib.index ([] : List UInt8) [c] = -1 := by simp [Lib.index]
    rw [Lib.split, Lib.count_miss this]; rfl
  | b :: s => by
    have ih := split_splitOn c s
    by_cases h : b = c
    · subst h
      rw [splitOn_eq, ← ih, Lib.split, Lib.split, Lib.count_cons_eq, Nat.add_comm, Lib.splitK, index_cons_eq]
      simp
    · rw [Lib.split] at ih ⊢
      rw [Lib.count_cons_ne b c s h]
      cases hk : Lib.count s [c] with
      | zero =>
        rw [hk] at ih
        have ih : [s] = splitOn c s := ih
        rw [splitOn_cons h ih.symm]
        rfl
      | succ k =>
        rw [hk] at ih
        rw [Lib.splitK] at ih ⊢
        rw [index_cons_ne b c s h]
        by_cases hm : Lib.index s [c] = -1
        · rw [Lib.count_miss hm] at hk
          omega
        · have hge := Lib.index_ge s [c]
          obtain ⟨i, hi⟩ : ∃ i : Nat, Lib.index s [c] = (i : Int) := ⟨(Lib.index s [c]).toNat, by omega⟩
          have h1 : ((i : Int) == -1) = false := by rw [beq_eq_false_iff_ne]; omega
          have h2 : ((i : Int) + 1 == -1) = false := by rw [beq_eq_false_iff_ne]; omega
          have h3 : ((i : Int) + 1).toNat = i + 1 := by omega
          rw [hi] at ih ⊢
          simp only [h1, h2, h3, Bool.false_eq_true, if_false, Int.toNat_natCast, Nat.add_zero, List.length_singleton] at ih ⊢
          rw [splitOn_cons h ih.symm]
          simp
/-! ### digits -/
def isDigit (b : UInt8) : Prop := 48 ≤ b.toNat ∧ b.toNat ≤ 57
theorem digit_toNat {k : Nat} (h : k < 10) : (UInt8.ofNat (48 + k)).toNat = 48 + k := by
  rw [UInt8.toNat_ofNat']; omega
theorem digitVal_of {k : Nat} (h : k < 10) : Lib.digitVal (UInt8.ofNat (48 + k)) = some k := by
  unfold Lib.digitVal
  rw [digit_toNat h, if_pos (by omega)]
  simp
theorem decFrom_append : ∀ (l m : List UInt8) (a : Nat), Lib.decFrom a (l ++ m) = (Lib.decFrom a l).bind fun b => Lib.decFrom b m
  | [], m, a => rfl
  | c :: l, m, a => by
    simp only [List.cons_append, Lib.decFrom]
    cases Lib.digitVal c with
    | none => rfl
    | some d => exact decFrom_append l m _
theorem decFrom_digits (n : Nat) : Lib.decFrom 0 (Lib.decDigits n) = some n := by
  induction n using Nat.strongRecOn with
  | _ n ih =>
    by_cases h : n < 10
    · rw [Lib.decDigits_one h]
      simp only [Lib.decFrom, digitVal_of h]
      congr 1
      omega
    · rw [Lib.decDigits, dif_neg h, decFrom_append, ih (n / 10) (by omega)]
      have : n % 10 < 10 := by omega
      simp only [Option.bind_some, Lib.decFrom, digitVal_of this]
      congr 1
      omega
theorem digits_digit (n : Nat) : ∀ b ∈ Lib.decDigits n, isDigit b := by
  intro b hb
  obtain ⟨k, hk, hg⟩ := List.getElem_of_mem hb
  obtain ⟨d, hd⟩ := Lib.digit_of_decFrom _ _ _ (decFrom_digits n) k b (by rw [← hg, List.getElem?_eq_getElem hk])
  have := Lib.digitVal_eq hd
  unfold isDigit
  omega
theorem digits_ne (n : Nat) : Lib.decDigits n ≠ [] := by
  intro h
  have := Lib.decDigits_length n
  rw [h] at this
  have := Lib.nDigits_pos n
  simp at *
  omega
theorem digits_head (n : Nat) (h : 10 ≤ n) : ∃ b l, Lib.decDigits n = b :: l ∧ b.toNat ≠ 48 := by
  induction n using Nat.strongRecOn with
  | _ n ih =>
    rw [Lib.decDigits, dif_neg (by omega)]
    by_cases h2 : n / 10 < 10
    · rw [Lib.decDigits_one h2]
      refine ⟨_, _, rfl, ?_⟩
      rw [digit_toNat h2]
      omega
    · obtain ⟨b, l, e, hb⟩ := ih (n / 10) (by omega) (by omega)
      rw [e]
      exact ⟨_, _, rfl, hb⟩
/-- A row of digits without a nought ahead is the numeral of what it spells. -/
theorem div10 {m d n : Nat} (h : 0 * 10 + m * 10 + d = n) (hd : d < 10) : n / 10 = m ∧ n % 10 = d ∧ (m ≠ 0 → ¬ n < 10) := by omega
theorem digits_of_decFrom : ∀ (k : Nat) (l : List UInt8) (n : Nat), l.length = k → l ≠ [] → Lib.decFrom 0 l = some n → (l.length = 1 ∨ ∃ b r, l = b :: r ∧ b.toNat ≠ 48) → Lib.decDigits n = l := by
  intro k
  induction k with
  | zero => intro l n hk h; exact absurd (List.length_eq_zero_iff.1 hk) h
  | succ k ih =>
    intro l n hk h hd hh
    obtain ⟨i, c, rfl⟩ : ∃ i c, l = i ++ [c] := ⟨l.dropLast, l.getLast h, (List.dropLast_concat_getLast h).symm⟩
    rw [decFrom_append] at hd
    cases hi : Lib.decFrom 0 i with
    | none => rw [hi] at hd; cases hd
    | some m =>
      rw [hi] at hd
      simp only [Option.bind_some, Lib.decFrom] at hd
      cases hc : Lib.digitVal c with
      | none => rw [hc] at hd; cases hd
      | some d =>
        rw [hc] at hd
        injection hd with hd
        obtain ⟨c1, c2, c3⟩ := Lib.digitVal_eq hc
        have ec : UInt8.ofNat (48 + d) = c := by
          apply UInt8.toNat_inj.1
          rw [digit_toNat (by omega)]
          omega
        cases i with
        | nil =>
          simp only [Lib.decFrom] at hi
          injection hi with hi
          subst hi
          have : n = d := by omega
          subst this
          rw [Lib.decDigits_one (by omega), ec]
          rfl
        | cons b r =>
          have hb : b.toNat ≠ 48 := by
            rcases hh with hh | ⟨b', r', e, hb⟩
            · simp at hh
            · injection e with e1 e2
              rw [e1]; exact hb
          have ihm := ih (b :: r) m (by simpa using hk) (by simp) hi (.inr ⟨b, r, rfl, hb⟩)
          have hm : m ≠ 0 := by
            intro e
            subst e
            rw [Lib.decDigits_one (by omega)] at ihm
            injection ihm with e1 e2
            apply hb
            rw [← e1]
            rfl
          obtain ⟨e1, e2, hn⟩ := div10 (m := m) (d := d) (n := n) (by rw [← hd]; simp) (by rw [c3]; exact Nat.sub_lt_left_of_lt_add c1 (Nat.lt_succ_of_le c2))
          rw [Lib.decDigits, dif_neg (hn hm)]
          rw [e1, e2, ihm, ec]
theorem digits_len_iff (n k : Nat) : (Lib.decDigits n).length ≤ k + 1 ↔ n < 10 ^ (k + 1) := by
  rw [Lib.decDigits_length]
  constructor
  · intro h
    have h1 := Lib.lt_pow_nDigits n
    exact Nat.lt_of_lt_of_le h1 (Nat.pow_le_pow_right (by decide) h)
  · intro h
    rcases Nat.lt_or_ge (k + 1) (Lib.nDigits n) with h2 | h2
    · exfalso
      have key : ∀ m j, Lib.nDigits m = j + 2 → 10 ^ (j + 1) ≤ m := by
        intro m
        induction m using Nat.strongRecOn with
        | _ m ih =>
          intro j hj
          by_cases hm : m < 10
          · rw [Lib.nDigits_small hm] at hj; omega
          · rw [Lib.nDigits_big hm] at hj
            cases j with
            | zero => simpa using Nat.le_of_not_lt hm
            | succ j =>
              have := ih (m / 10) (by omega) j (by omega)
              rw [Nat.pow_succ]
              omega
      obtain ⟨j, hj⟩ : ∃ j, Lib.nDigits n = j + 2 := ⟨Lib.nDigits n - 2, by omega⟩
      have h3 := key n j hj
      have h4 : 10 ^ (k + 1) ≤ 10 ^ (j + 1) := Nat.pow_le_pow_right (by decide) (by omega)
      omega
    · exact h2
theorem digits_no (n : Nat) (c : UInt8) (h : ¬ isDigit c) : c ∉ Lib.decDigits n := fun hm => h (digits_digit n c hm)
theorem atoi_digits (n : Nat) : Lib.atoi (Lib.decDigits n) = some (n : Int) := by
  cases he : Lib.decDigits n with
  | nil => exact absurd he (digits_ne n)
  | cons b r =>
    have hb := digits_digit n b (by rw [he]; simp)
    unfold isDigit at hb
    have h1 : (b == 45) = false := by rw [beq_eq_false_iff_ne]; rintro rfl; exact absurd hb (by decide)
    have h2 : (b == 43) = false := by rw [beq_eq_false_iff_ne]; rintro rfl; exact absurd hb (by decide)
    simp only [Lib.atoi, h1, h2, Bool.false_eq_true, if_false]
    have : Lib.decNat (b :: r) = some n := by
      unfold Lib.decNat
      rw [if_neg (by simp), ← he, decFrom_digits]
    rw [this]
    rfl
theorem atoiAll_digits (n : Nat) (h : (Lib.decDigits n).length ≤ 18) : Lib.atoiAll (Lib.decDigits n) = .ok (n : Int) := by
  rw [Lib.atoiAll_short _ h, atoi_digits]; rfl
/-! ### the words of a line, one sign more -/
theorem splitOn_snoc_eq (c : UInt8) : ∀ (l : List UInt8), splitOn c (l ++ [c]) = splitOn c l ++ [[]]
  | [] => by rw [List.nil_append, splitOn_eq]; rfl
  | b :: l => by
    by_cases h : b = c
    · subst h
      rw [List.cons_append, splitOn_eq, splitOn_eq, splitOn_snoc_eq b l, List.cons_append]
    · obtain ⟨w, ws, e⟩ := splitOn_ne c l
      have ih := splitOn_snoc_eq c l
      rw [e] at ih
      rw [List.cons_append, splitOn_cons h ih, splitOn_cons h e]
      rfl
theorem splitOn_snoc_ne {c b : UInt8} (hb : b ≠ c) : ∀ (l : List UInt8) (i : List (List UInt8)) (w : List UInt8), splitOn c l = i ++ [w] → splitOn c (l ++ [b]) = i ++ [w ++ [b]]
  | [], i, w, h => by
    have h' : ([] : List (List UInt8)) ++ [[]] = i ++ [w] := h
    obtain ⟨h1, h2⟩ := List.append_inj' h' rfl
    injection h2 with h2
    subst h1; subst h2
    exact splitOn_cons hb (l := []) rfl
  | a :: l, i, w, h => by
    obtain ⟨i1, w1, e⟩ : ∃ i1 w1, splitOn c l = i1 ++ [w1] := by
      obtain ⟨x, xs, e⟩ := splitOn_ne c l
      exact ⟨(splitOn c l).dropLast, (splitOn c l).getLast (by rw [e]; simp), (List.dropLast_concat_getLast _).symm⟩
    have ih := splitOn_snoc_ne hb l i1 w1 e
    by_cases ha : a = c
    · subst ha
      rw [splitOn_eq, e] at h
      have h' : ([] :: i1) ++ [w1] = i ++ [w] := h
      obtain ⟨h1, h2⟩ := List.append_inj' h' rfl
      injection h2 with h2
      subst h1; subst h2
      rw [List.cons_append, splitOn_eq, ih]
      rfl
    · cases i1 with
      | nil =>
        rw [splitOn_cons ha (by simpa using e)] at h
        have h' : ([] : List (List UInt8)) ++ [a :: w1] = i ++ [w] := h
        obtain ⟨h1, h2⟩ := List.append_inj' h' rfl
        injection h2 with h2
        subst h1; subst h2
        rw [List.cons_append, splitOn_cons ha (by simpa using ih)]
        rfl
      | cons x i1 =>
        rw [splitOn_cons ha (by simpa using e)] at h
        have h' : ((a :: x) :: i1) ++ [w1] = i ++ [w] := h
        obtain ⟨h1, h2⟩ := List.append_inj' h' rfl
        injection h2 with h2
        subst h1; subst h2
        rw [List.cons_append, splitOn_cons ha (by simpa using ih)]
        rfl
/-! ### a number, as it is told, of at most nine digits -/
def num9 (w : List UInt8) : Option Nat := if w = [] ∨ 9 < w.length ∨ (1 < w.length ∧ w.head? = some 48) then none else Lib.decFrom 0 w
theorem num9_some (w : List UInt8) (n : Nat) : num9 w = some n ↔ w = Lib.decDigits n ∧ n < 1000000000 := by
  have hl := digits_len_iff n 8
  unfold num9
  constructor
  · intro h
    split at h
    · cases h
    · rename_i hc
      simp only [not_or, not_and] at hc
      obtain ⟨h1, h2, h3⟩ := hc
      have e := digits_of_decFrom w.length w n rfl h1 h (by
        cases w with
        | nil => exact absurd rfl h1
        | cons b r =>
          by_cases hr : (b :: r).length = 1
          · exact .inl hr
          · refine .inr ⟨b, r, rfl, fun hb => h3 (by simp at hr ⊢; exact List.length_pos_iff.2 hr) ?_⟩
            have : b = 48 := UInt8.toNat_inj.1 hb
            rw [this]; rfl)
      refine ⟨e.symm, ?_⟩
      rw [e] at hl
      exact hl.1 (by omega)
  · rintro ⟨e, hn⟩
    subst e
    have h9 : (Lib.decDigits n).length ≤ 9 := hl.2 hn
    rw [if_neg, decFrom_digits]
    rintro (h | h | ⟨h, h2⟩)
    · exact digits_ne n h
    · omega
    · have h10 : 10 ≤ n := by
        rcases Nat.lt_or_ge n 10 with h10 | h10
        · rw [Lib.decDigits_one h10] at h; simp at h
        · exact h10
      obtain ⟨b, r, e, hb⟩ := digits_head n h10
      rw [e] at h2
      simp at h2
      subst h2
      exact hb rfl
/-! ### a line -/
def nums : List (List UInt8) → Option (List Nat)
  | [] => some []
  | w :: ws => (num9 w).bind fun n => (nums ws).map fun l => n :: l
theorem nums_some : ∀ (ws : List (List UInt8)) (l : List Nat), nums ws = some l ↔ ws = l.map Lib.decDigits ∧ ∀ n ∈ l, n < 1000000000
  | [], l => by
    simp only [nums, Option.some.injEq]
    constructor
    · rintro rfl; simp
    · rintro ⟨h, _⟩; simpa using h
  | w :: ws, l => by
    have ih := nums_some ws
    simp only [nums]
    constructor
    · intro h
      obtain ⟨n, h1, h2⟩ := Option.bind_eq_some_iff.1 h
      obtain ⟨l', h3, rfl⟩ := Option.map_eq_some_iff.1 h2
      obtain ⟨e1, b1⟩ := (num9_some w n).1 h1
      obtain ⟨e2, b2⟩ := (ih l').1 h3
      refine ⟨by rw [e1, e2]; rfl, ?_⟩
      intro x hx
      rcases List.mem_cons.1 hx with rfl | hx
      · exact b1
      · exact b2 x hx
    · rintro ⟨h, hb⟩
      cases l with
      | nil => simp at h
      | cons n l =>
        simp only [List.map_cons, List.cons.injEq] at h
        rw [(num9_some w n).2 ⟨h.1, hb n (by simp)⟩, (ih l).2 ⟨h.2, fun x hx => hb x (by simp [hx])⟩]
        rfl
theorem nums_length {ws : List (List UInt8)} {l : List Nat} (h : nums ws = some l) : l.length = ws.length := by
  rw [((nums_some ws l).1 h).1]; simp
theorem nums_none_at (ws : List (List UInt8)) (i : Nat) (hi : i < ws.length) (h : num9 ws[i] = none) : nums ws = none := by
  cases hn : nums ws with
  | none => rfl
  | some l =>
    obtain ⟨e, hb⟩ := (nums_some ws l).1 hn
    subst e
    have hi' : i < l.length := by simpa using hi
    rw [List.getElem_map, (num9_some _ l[i]).2 ⟨rfl, hb _ (List.getElem_mem _)⟩] at h
    cases h
/-- A line that begins with a word, and so many numbers behind it. -/
def parseLine (word : List UInt8) (size : Nat) (s : List UInt8) : Option (List Nat) :=
  match splitOn 32 s with
  | [] => none
  | w :: ws => if w = word ∧ ws.length = size then nums ws else none
theorem parseLine_of {word s w : List UInt8} {size : Nat} {ws : List (List UInt8)} (h : splitOn 32 s = w :: ws) : parseLine word size s = if w = word ∧ ws.length = size then nums ws else none := by
  unfold parseLine
  rw [h]
def lineN (word : List UInt8) (l : List Nat) : List UInt8 := word ++ joinOn 32 (l.map Lib.decDigits)
theorem parseLine_some (word : List UInt8) (size : Nat) (s : List UInt8) (l : List Nat) (hw : (32 : UInt8) ∉ word) : parseLine word size s = some l ↔ s = lineN word l ∧ l.length = size ∧ ∀ n ∈ l, n < 1000000000 := by
  constructor
  · intro h
    obtain ⟨w, ws, e⟩ := splitOn_ne 32 s
    rw [parseLine_of e] at h
    split at h
    · rename_i hc
      obtain ⟨rfl, rfl⟩ := hc
      obtain ⟨e1, h1⟩ := (nums_some ws l).1 h
      obtain ⟨e2, _, _⟩ := join_splitOn e
      exact ⟨by rw [e2, e1]; rfl, by rw [e1]; simp, h1⟩
    · cases h
  · rintro ⟨rfl, rfl, h⟩
    have e : splitOn 32 (lineN word l) = word :: l.map Lib.decDigits := splitOn_join hw (fun x hx => by
      obtain ⟨n, _, rfl⟩ := List.mem_map.1 hx
      exact digits_no n 32 (by unfold isDigit; decide))
    rw [parseLine_of e, if_pos ⟨rfl, by simp⟩]
    exact (nums_some _ _).2 ⟨rfl, h⟩
/-- The program's line: a word, and whole numbers. -/
def lineL (word : List UInt8) (l : List Int) : List UInt8 := word ++ joinOn 32 (l.map Lib.itoa) ++ [10]
theorem lineL_nat (word : List UInt8) (l : List Nat) : lineL word (l.map (fun (n : Nat) => (n : Int))) = lineN word l ++ [10] := by
  unfold lineL lineN
  rw [List.map_map, show (Lib.itoa ∘ fun (n : Nat) => (n : Int)) = Lib.decDigits from funext Lib.itoa_nonneg]
theorem itoa_no (n : Int) : (32 : UInt8) ∉ Lib.itoa n := by
  unfold Lib.itoa
  split
  · simp only [List.mem_cons, not_or]
    exact ⟨by decide, digits_no _ 32 (by unfold isDigit; decide)⟩
  · exact digits_no _ 32 (by unfold isDigit; decide)
theorem num9_atoi {w : List UInt8} {n : Nat} (h : num9 w = some n) : Lib.atoiAll w = .ok (n : Int) ∧ w.length ≤ 9 := by
  obtain ⟨rfl, hn⟩ := (num9_some w n).1 h
  have h9 := (digits_len_iff n 8).2 hn
  exact ⟨atoiAll_digits n (by omega), h9⟩
theorem num9_none_of {w : List UInt8} (h : ∀ n : Nat, ¬ (Lib.atoiAll w = .ok (n : Int) ∧ w.length ≤ 9)) : num9 w = none := by
  cases hn : num9 w with
  | none => rfl
  | some n => exact absurd (num9_atoi hn) (h n)
/-- What the program asks of a line is what the document says. -/
theorem numbers_law {word s w : List UInt8} {ws : List (List UInt8)} {vs : List Int} (hw : (32 : UInt8) ∉ word) (hs : splitOn 32 s = w :: ws) (hl : vs.length = ws.length)
    (hv : ∀ i (h : i < ws.length), Lib.atoiAll ws[i] = .ok (vs[i]'(by omega)) ∧ ws[i].length ≤ 9) :
    (lineL word vs = s ++ [10] ∧ ∀ v ∈ vs, 0 ≤ v) ↔ ∃ l, parseLine word ws.length s = some l ∧ vs = l.map (fun (n : Nat) => (n : Int)) := by
  constructor
  · rintro ⟨h1, h2⟩
    unfold lineL at h1
    have h1 := List.append_cancel_right h1
    have e : splitOn 32 s = word :: vs.map Lib.itoa := by
      rw [← h1]
      exact splitOn_join hw (fun x hx => by
        obtain ⟨n, _, rfl⟩ := List.mem_map.1 hx
        exact itoa_no n)
    rw [hs] at e
    injection e with e1 e2
    subst e1
    refine ⟨vs.map Int.toNat, ?_, ?_⟩
    · rw [parseLine_of hs, if_pos ⟨rfl, rfl⟩, nums_some]
      have e3 : ws = (vs.map Int.toNat).map Lib.decDigits := by
        rw [e2, List.map_map]
        refine List.map_congr_left fun v hv => ?_
        have := h2 v hv
        show Lib.itoa v = Lib.decDigits v.toNat
        unfold Lib.itoa
        rw [if_neg (by omega)]
      refine ⟨e3, ?_⟩
      intro n hn
      obtain ⟨i, hi, hg⟩ := List.getElem_of_mem hn
      have hi' : i < ws.length := by rw [← hl]; simpa using hi
      have := (hv i hi').2
      have e4 : ws[i] = Lib.decDigits n := by
        have : ws[i] = ((vs.map Int.toNat).map Lib.decDigits)[i]'(by simpa using hi) := by congr 1
        rw [this, List.getElem_map, hg]
      rw [e4] at this
      exact (digits_len_iff n 8).1 this
    · rw [List.map_map]
      conv => lhs; rw [← List.map_id vs]
      refine List.map_congr_left fun v hv => ?_
      have := h2 v hv
      show v = ((v.toNat : Nat) : Int)
      omega
  · rintro ⟨l, h1, h2⟩
    rw [parseLine_of hs] at h1
    split at h1
    · rename_i hc
      obtain ⟨rfl, _⟩ := hc
      refine ⟨?_, ?_⟩
      · obtain ⟨e1, _⟩ := (nums_some ws l).1 h1
        obtain ⟨e2, _, _⟩ := join_splitOn hs
        rw [h2, lineL_nat, e2, e1]
        rfl
      · rw [h2]
        intro v hv
        obtain ⟨n, _, rfl⟩ := List.mem_map.1 hv
        omega
    · cases h1
theorem numbers_vals {word s w : List UInt8} {ws : List (List UInt8)} {vs : List Int} {l : List Nat} (hs : splitOn 32 s = w :: ws) (hl : vs.length = ws.length)
    (hv : ∀ i (h : i < ws.length), Lib.atoiAll ws[i] = .ok (vs[i]'(by omega))) (hp : parseLine word ws.length s = some l) : vs = l.map (fun (n : Nat) => (n : Int)) := by
  rw [parseLine_of hs] at hp
  split at hp
  · have hn := nums_length hp
    obtain ⟨e1, hb⟩ := (nums_some ws l).1 hp
    apply List.ext_getElem
    · rw [List.length_map]; omega
    · intro i h1 h2
      have hi : i < ws.length := by omega
      have hil : i < l.length := by omega
      have h3 := hv i hi
      have e2 : ws[i] = Lib.decDigits l[i] := by
        have : ws[i] = (l.map Lib.decDigits)[i]'(by simpa using hil) := by congr 1
        rw [this, List.getElem_map]
      have h4 := (digits_len_iff l[i] 8).2 (hb _ (List.getElem_mem hil))
      rw [e2, atoiAll_digits _ (by omega)] at h3
      injection h3 with h3
      rw [List.getElem_map, h3]
  · cases hp
end Go.Proofs.YtenpmbebghlnkaaDoor
