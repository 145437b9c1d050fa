/-
  Layer 5 (graph): whether a graph may be, and its edges in order: the program's functions.
-/
import Derived.Test.YtenpmbebghlnkaaDoorKIter
import Derived.Test.YtenpmbebghlnkaaDoorKLay
import Derived.Test.YtenpmbebghlnkaaDoorKSort
import Derived.Test.YtenpmbebghlnkaaDoorKHas
import Derived.Deep.RegionHeld3
import Derived.Shelf.SlSortCmp.NoneTotal
namespace Go.Proofs.YtenpmbebghlnkaaDoor
open Go.RowKit Go.Proofs.YtenpmbebghlnkaaDoorW.PrintWords Go.Proofs.YtenpmbebghlnkaaDoorW.PrintLast Go.Proofs.YtenpmbebghlnkaaDoorW.PrintMore
set_option linter.unusedVariables false
set_option linter.unusedSimpArgs false
attribute [local go_sem] max2_int min2_int max_two min_two max_three min_three max_four min_four
open Go.Sort

/-! ### the order of edges -/
def InR (e : Edge) : Prop := 0 ≤ e.src ∧ e.src ≤ 64 ∧ 0 ≤ e.dst ∧ e.dst ≤ 64
def cmpE (a b : Edge) : Int := if a.src = b.src then wrap64 (a.dst - b.dst) else wrap64 (a.src - b.src)
def ltE (x y : Edge) : Bool := decide (x.src < y.src ∨ x.src = y.src ∧ x.dst < y.dst)
theorem cmpE_eq (x y : Edge) (hx : InR x) (hy : InR y) : cmpE x y = if x.src = y.src then x.dst - y.dst else x.src - y.src := by
  obtain ⟨_, _, _, _⟩ := hx; obtain ⟨_, _, _, _⟩ := hy
  unfold cmpE
  rw [wrap64_id (by omega) (by omega), wrap64_id (by omega) (by omega)]
theorem ltOfE (x y : Edge) (hx : InR x) (hy : InR y) : ltOf cmpE x y = ltE x y := by
  unfold ltOf ltE
  rw [cmpE_eq x y hx hy, decide_eq_decide]
  split <;> omega
set_option maxRecDepth 100000 in
set_option maxHeartbeats 4000000 in
theorem compareE (a b : Edge) (w : World) :
    Calls Tryd.prog 28 #[a.v, b.v] w fun e w' => e = .returned (.int .i64 (cmpE a b)) ∧ w' = (w.alloc (.cells a.enc.toArray 45)).alloc (.cells b.enc.toArray 45) := by
  unfold Edge.v Edge.enc
  by_cases h : a.src = b.src
  · have h1 : (a.src != b.src) = false := by simp [h]
    have e : cmpE a b = wrap64 (a.dst - b.dst) := by simp [cmpE, h]
    rw [e]
    clear h e
    go_enter Tryd.func28, Tryd.ntmps28
    go_wp2
    go_ret
    exact ⟨rfl, rfl⟩
  · have h1 : (a.src != b.src) = true := by simp [h]
    have e : cmpE a b = wrap64 (a.src - b.src) := by simp [cmpE, h]
    rw [e]
    clear h e
    go_enter Tryd.func28, Tryd.ntmps28
    go_wp2
    go_ret
    exact ⟨rfl, rfl⟩
theorem compareE_lays (a b : Edge) (w : World) : Calls Tryd.prog 28 #[a.v, b.v] w fun e w' => e = .returned (.int .i64 (cmpE a b)) ∧ ∃ q os, w' = grow (w.drewN q) os :=
  (compareE a b w).mono fun _ _ ⟨he, hw⟩ => ⟨he, 0, #[.cells a.enc.toArray 45, .cells b.enc.toArray 45], by rw [hw, alloc_eq_grow, alloc_eq_grow, grow_grow]; rfl⟩
abbrev EdgeR := { e : Edge // InR e }
instance : Inhabited EdgeR := ⟨⟨⟨0, 0, 0⟩, by unfold InR; decide⟩⟩
instance : Inhabited Edge := ⟨⟨0, 0, 0⟩⟩
def cmpER (a b : EdgeR) : Int := cmpE a.1 b.1
theorem swoE : SWO (ltOf cmpER) where
  irrefl x := by show ltOf cmpE x.1 x.1 = false; rw [ltOfE _ _ x.2 x.2]; simp [ltE]
  trans x y z h1 h2 := by
    have h1 : ltOf cmpE x.1 y.1 = true := h1
    have h2 : ltOf cmpE y.1 z.1 = true := h2
    show ltOf cmpE x.1 z.1 = true
    rw [ltOfE _ _ x.2 y.2] at h1; rw [ltOfE _ _ y.2 z.2] at h2; rw [ltOfE _ _ x.2 z.2]
    simp only [ltE, decide_eq_true_eq] at *; omega
  ntrans x y z h1 h2 := by
    have h1 : ltOf cmpE x.1 y.1 = false := h1
    have h2 : ltOf cmpE y.1 z.1 = false := h2
    show ltOf cmpE x.1 z.1 = false
    rw [ltOfE _ _ x.2 y.2] at h1; rw [ltOfE _ _ y.2 z.2] at h2; rw [ltOfE _ _ x.2 z.2]
    simp only [ltE, decide_eq_false_iff_not] at *; omega
/-- A permutation of l, in the order of edges. -/
def ESorted (l l' : List Edge) : Prop := l'.Perm l ∧ l'.Pairwise (fun a b => ltE b a = false)
def toR (l : List Edge) (h : ∀ e ∈ l, InR e) : List EdgeR := l.pmap Subtype.mk h
theorem toR_map (l : List Edge) (h : ∀ e ∈ l, InR e) : (toR l h).map Subtype.val = l := by unfold toR; rw [List.map_pmap]; simp
theorem flatK_val (d : List EdgeR) : flatK (fun x : EdgeR => x.1.enc) 3 d.toArray = flatK Edge.enc 3 (d.map Subtype.val).toArray := by
  refine ext_get! (by simp) fun t ht => ?_
  have ht' : t < d.length * 3 := by simpa using ht
  have hj : t / 3 < d.length := by omega
  rw [get_flatK _ _ _ _ (by simpa using ht'), get_flatK _ _ _ _ (by simpa using ht')]
  simp [hj]
set_option maxHeartbeats 4000000 in
theorem sortFuncE {base g n cap : Nat} {w w0 : World} {l : List Edge} (h : KE.R 45 w base (fun _ => True) (.slice (some ⟨g, 0, none⟩) n cap) l) (hb : base ≤ g) (hB : Below base w0 w) (hs : base ≤ w.heap.size) (hsz : l.length < 4611686018427387904) (hr : ∀ e ∈ l, InR e) :
    Calls Tryd.prog 41 #[.slice (some ⟨g, 0, none⟩) n cap, .func (.func 28) #[] #[]] w fun e w' => e = .returned (.tuple #[]) ∧ ∃ l', ESorted l l' ∧ KE.R 45 w' base (fun _ => True) (.slice (some ⟨g, 0, none⟩) n cap) l' ∧ Below base w0 w' := by
  have eg : ∀ args w, (callFunc 28 args).run Tryd.prog w = .ok (.enter 28 args) w := enters_of Tryd.func28 (by kernel_rfl) rfl
  obtain ⟨hH, hg⟩ := holdsK_of_R h
  have hn : n = l.length := by obtain ⟨A, c, e, _⟩ := Kd.R_reads h; injection e
  subst hn
  have hlen : (toR l hr).length = l.length := by simp [toR]
  have hH' : HoldsK (fun x : EdgeR => x.1.enc) 3 w g 0 (toR l hr).toArray := by
    unfold HoldsK at hH ⊢
    rw [flatK_val, toR_map]
    exact hH
  have hcon := AnyQ.slices_SortFunc laySortE 3 Tryd.isAgg45 Tryd.sizeOf45 (fun x : EdgeR => x.1.enc) (fun _ => rfl) (fun x u hu => by simp [Edge.enc] at hu; rcases hu with rfl | rfl | rfl <;> rfl) cmpER swoE 28 #[] g 0 cap (toR l hr).toArray w eg (fun m os dk hd x y => compareE_lays x.1 y.1 _) hH' hg (by simpa [hlen] using hsz)
  have hcon' : Calls Tryd.prog 41 #[.slice (some ⟨g, 0, none⟩) (toR l hr).toArray.size cap, .func (.func 28) #[] #[]] w _ := hcon
  rw [List.size_toArray, hlen] at hcon'
  refine hcon'.mono ?_
  rintro e w' ⟨rfl, d', m, os, hp, hsd, rfl⟩
  obtain ⟨d, rfl⟩ : ∃ d : List EdgeR, d' = d.toArray := ⟨d'.toList, by simp⟩
  have hdl : d.length = l.length := by have := hp.1; simpa [hlen] using this
  have hperm : d.Perm (toR l hr) := by
    have := hp.2.2
    simp only [List.extract_toArray, List.extract_eq_take_drop, List.drop_zero, Nat.sub_zero] at this
    rwa [List.take_of_length_le (by omega), List.take_of_length_le (by omega)] at this
  have hperm' : (d.map Subtype.val).Perm l := by have := hperm.map Subtype.val; rwa [toR_map] at this
  have hw : sortWorldK (fun x : EdgeR => x.1.enc) 3 w g 0 m d.toArray os = sortWorldK Edge.enc 3 w g 0 m (d.map Subtype.val).toArray os := by
    unfold sortWorldK putRowK
    rw [flatK_val]
  rw [hw]
  refine ⟨rfl, d.map Subtype.val, ⟨hperm', ?_⟩, R_of_sorted h (by simpa using hdl) m os, sortWorldK_below hB hb hs m _ os⟩
  rw [List.pairwise_map, List.pairwise_iff_getElem]
  intro i j hi hj hij
  have := hsd i j (Nat.zero_le _) hij (by simpa [hlen, hdl] using hj)
  have e1 : d.toArray[i]! = d[i] := by simp [hi]
  have e2 : d.toArray[j]! = d[j] := by simp [hj]
  rw [e1, e2] at this
  rw [← ltOfE _ _ d[j].2 d[i].2]
  exact this
theorem collectE_any (Bs : Nat) (A : Option Addr) (c : Nat) (es : List Edge) (w : World) (hBs : Bs < w.heap.size) (hc : w.cell? ⟨Bs, 0, none⟩ = some (.slice A es.length c)) (hC : KE.C w A es.length es) (hlen : es.length * 24 ≤ 140737488355328) :
    Calls Tryd.prog 40 #[.func (.func 42) #[] #[.pointer (some ⟨Bs, 0, none⟩)]] w fun e w' => ∃ v : Value, e = .returned v ∧ KE.R 45 w' w.heap.size (fun _ => True) v es ∧ Below w.heap.size w w' :=
  callsIn_wide.1 (collectE_in Fence.wide 3 trivial trivial rfl (by decide) 42 _ trivial (enters_of Tryd.func42 (by kernel_rfl) rfl) es hlen w w.heap.size (Nat.le_refl _)
    (valuesE_stops Fence.wide 1 trivial rfl (by decide) Bs w.heap.size A c es (by omega) w hBs (Nat.le_refl _) hc hC (fun ad hA hl => C_block hC (by decide) ad hA hl)))
theorem valuesE_any (a : Option Addr) (len cap : Nat) (w : World) :
    Calls Tryd.prog 27 #[.slice a len cap] w fun e w' => e = .returned (.func (.func 42) #[] #[.pointer (some ⟨w.heap.size, 0, none⟩)]) ∧ w' = w.alloc (.cells #[.slice a len cap] 22) :=
  callsIn_wide.1 (valuesE_in Fence.wide 1 trivial rfl a len cap w)
theorem R_cases {α : Type} {d : Kd α} {e base : Nat} {ok : Nat → Prop} {w : World} {v : Value} {l : List α} (h : d.R e w base ok v l) : (v = .slice none 0 0 ∧ l = []) ∨ ∃ g cap, v = .slice (some ⟨g, 0, none⟩) l.length cap ∧ base ≤ g := by
  obtain ⟨_, inner, ho, _⟩ := h
  rcases ho.2 with ⟨h1, h2⟩ | ⟨g', cap', cur, hv, hb, _⟩
  · exact .inl ⟨h1, List.length_eq_zero_iff.1 h2⟩
  · exact .inr ⟨g', cap', hv, hb⟩
set_option maxRecDepth 100000 in
set_option maxHeartbeats 4000000 in
theorem sortedE_any (Bs : Nat) (A : Option Addr) (c : Nat) (es : List Edge) (w : World) (hBs : Bs < w.heap.size) (hc : w.cell? ⟨Bs, 0, none⟩ = some (.slice A es.length c)) (hC : KE.C w A es.length es) (hlen : es.length * 24 ≤ 140737488355328) (hr : ∀ e ∈ es, InR e) :
    Calls Tryd.prog 26 #[.func (.func 42) #[] #[.pointer (some ⟨Bs, 0, none⟩)], .func (.func 28) #[] #[]] w fun e w' => ∃ (v : Value) (l' : List Edge), e = .returned v ∧ ESorted es l' ∧ KE.R 45 w' w.heap.size (fun _ => True) v l' ∧ Below w.heap.size w w' := by
  have hcol := Aside0.mk (collectE_any Bs A c es w hBs hc hC hlen)
  clear hc hC
  go_enter Tryd.func26, Tryd.ntmps26
  go_wp2_with fail
  refine hcol.out.mono ?_
  rintro e w1 ⟨v1, rfl, hR1, hB1⟩
  have hsz : es.length < 4611686018427387904 := by omega
  rcases R_cases hR1 with ⟨rfl, rfl⟩ | ⟨g, cap, rfl, hbg⟩
  · have HR1 := Aside0.mk hR1
    have HB1 := Aside0.mk hB1
    clear hR1 hB1
    go_wp2_with fail
    refine (show Calls Tryd.prog 41 _ _ _ from AnyF.slices_SortFunc_none { laySortE with } none 0 _ w1).mono ?_
    rintro e w' ⟨rfl, rfl⟩
    go_wp2
    go_ret
    exact ⟨_, [], rfl, ⟨List.Perm.refl _, List.Pairwise.nil⟩, HR1.out, HB1.out⟩
  · have HC := Aside0.mk (sortFuncE hR1 hbg hB1 hB1.size hsz hr)
    clear hR1 hB1
    go_wp2_with fail
    refine HC.out.mono ?_
    rintro e w' ⟨rfl, l', hs, hR3, hB3⟩
    have HR3 := Aside0.mk hR3
    have HB3 := Aside0.mk hB3
    have HS := Aside0.mk hs
    clear hs hR3 hB3
    go_wp2
    go_ret
    exact ⟨_, l', rfl, HS.out, HR3.out, HB3.out⟩
/-! ### odd edges -/
def oddB (n : Int) (e : Edge) : Bool := decide (e.src < 0) || decide (n ≤ e.src) || decide (e.dst < 0) || decide (n ≤ e.dst) || decide (e.wt < 0) || decide (1048576 < e.wt)
theorem not_odd (n : Int) (e : Edge) (h : oddB n e = false) : 0 ≤ e.src ∧ e.src < n ∧ 0 ≤ e.dst ∧ e.dst < n ∧ 0 ≤ e.wt ∧ e.wt ≤ 1048576 := by
  simp [oddB] at h; omega
set_option maxRecDepth 100000 in
set_option maxHeartbeats 4000000 in
theorem odd_any (x : Edge) (n : Int) (B : Nat) (w : World) (hc : w.cell? ⟨B, 0, none⟩ = some (.int .i64 n)) :
    Calls Tryd.prog 29 #[x.v, .pointer (some ⟨B, 0, none⟩)] w fun e w' => e = .returned (.bool (oddB n x)) ∧ Below w.heap.size w w' := by
  unfold Edge.v
  have hb : B < w.heap.size := World.block_lt_of_cell? w _ hc
  have hne : B ≠ w.heap.size := by omega
  go_enter Tryd.func29, Tryd.ntmps29
  go_wp2
  all_goals (go_ret; exact ⟨ret_bool (by simp [oddB, *] <;> omega), (Below.refl _ w).alloc (Nat.le_refl _) _⟩)
/-! ### whether a graph may be -/
def Graph.form (g : Graph) : Bool := decide (1 ≤ g.n) && decide (g.n ≤ 64) && decide (g.es.length ≤ 512) && !(g.es.any (oddB g.n))
def key (e : Edge) : Int × Int := (e.src, e.dst)
def Graph.dup (g : Graph) : Bool := !decide ((g.es.map key).Nodup)
def Graph.dupErr (g : Graph) : Int := if g.dup then 51 else 0
/-- 0: it may; 50: it isn't of the form; 51: an edge is there twice. -/
def Graph.check (g : Graph) : Int := if g.form then g.dupErr else 50
set_option maxRecDepth 100000 in
set_option maxHeartbeats 4000000 in
theorem check_form (n : Int) (A : Option Addr) (c : Nat) (es : List Edge) (w : World) (hC : KE.C w A es.length es) (h : Graph.form ⟨n, es⟩ = false) :
    Calls Tryd.prog 14 #[.agg #[.int .i64 n, .slice A es.length c]] w fun e w' => e = .returned (.int .i64 50) ∧ Below w.heap.size w w' := by
  have hm : es.length ≤ 9223372036854775807 := hC.2.1
  have HC := Aside0.mk hC
  clear hC
  have hb0 := (Below.refl w.heap.size w).alloc (Nat.le_refl _) (.cells #[.int .i64 n, .slice A es.length c] 24)
  by_cases h1 : n < 1
  · clear h
    go_enter Tryd.func14, Tryd.ntmps14
    go_wp2
    go_ret
    exact ⟨rfl, hb0⟩
  by_cases h2 : 64 < n
  · clear h
    go_enter Tryd.func14, Tryd.ntmps14
    go_wp2
    go_ret
    exact ⟨rfl, hb0⟩
  by_cases h3 : 512 < es.length
  · clear h
    go_enter Tryd.func14, Tryd.ntmps14
    go_wp2
    go_ret
    exact ⟨rfl, hb0⟩
  have ho : es.any (oddB n) = true := by
    simp only [Graph.form] at h
    rw [decide_eq_true (by omega : (1 : Int) ≤ n), decide_eq_true (by omega : n ≤ 64), decide_eq_true (by omega : es.length ≤ 512)] at h
    simpa using h
  have eg : ∀ args w, (callFunc 29 args).run Tryd.prog w = .ok (.enter 29 args) w := enters_of Tryd.func29 (by kernel_rfl) rfl
  have hcon := hasE_any (oddB n) 29 #[.pointer (some ⟨w.heap.size, 0, none⟩)] eg A c es (w.alloc (.cells #[.int .i64 n, .slice A es.length c] 24)) (fun W x hb => odd_any x n w.heap.size W ((hb.cell (p := ⟨w.heap.size, 0, none⟩) (by simp)).trans (by simp))) (Kd.C_below HC.out hb0)
  rw [ho] at hcon
  have HH := Aside0.mk hcon
  clear hcon ho h eg
  go_enter Tryd.func14, Tryd.ntmps14
  go_wp2_with (go_at_call 30; refine HH.out.mono ?_; rintro e w' ⟨rfl, hb'⟩; have HB := Aside0.mk (below_step hb0 hb'); clear hb')
  go_ret
  exact ⟨rfl, HB.out⟩
theorem cmpE_zero (x y : Edge) (hx : InR x) (hy : InR y) : (cmpE x y == 0) = decide (key x = key y) := by
  rw [cmpE_eq x y hx hy]
  unfold key
  rw [Bool.eq_iff_iff]
  simp only [beq_iff_eq, decide_eq_true_eq, Prod.mk.injEq]
  split <;> omega
theorem ltE_key (x y : Edge) : ltE x y = decide (x.src < y.src ∨ x.src = y.src ∧ x.dst < y.dst) := rfl
theorem nodup_of_adj : ∀ (l : List Edge), l.Pairwise (fun a b => ltE b a = false) → (∀ i, (h : i + 1 < l.length) → key l[i] ≠ key l[i + 1]) → (l.map key).Nodup
  | [], _, _ => List.nodup_nil
  | [x], _, _ => by simp
  | x :: y :: r, hp, ha => by
    have hp1 := List.pairwise_cons.1 hp
    have ih := nodup_of_adj (y :: r) hp1.2 (fun i h => by have := ha (i + 1) (by simp at h ⊢; omega); simpa using this)
    rw [List.map_cons, List.nodup_cons]
    refine ⟨fun hm => ?_, ih⟩
    obtain ⟨z, hz, hk⟩ := List.mem_map.1 hm
    have hxy := hp1.1 y (by simp)
    have hxy' : key x ≠ key y := by have := ha 0 (by simp); simpa using this
    have hyz : ltE z y = false := by
      rcases List.mem_cons.1 hz with rfl | hz
      · simp [ltE]
      · exact (List.pairwise_cons.1 hp1.2).1 z hz
    simp only [ltE, decide_eq_false_iff_not, key, ne_eq, Prod.mk.injEq] at *
    omega
theorem not_nodup_of_adj (l : List Edge) (i : Nat) (h : i + 1 < l.length) (he : key l[i] = key l[i + 1]) : ¬ (l.map key).Nodup := by
  intro hn
  rw [List.nodup_iff_pairwise_ne, List.pairwise_iff_getElem] at hn
  have := hn i (i + 1) (by simp; omega) (by simpa using h) (by omega)
  simp [he] at this
set_option maxRecDepth 100000 in
set_option maxHeartbeats 4000000 in
theorem check_ok (n : Int) (A : Option Addr) (c : Nat) (es : List Edge) (w : World) (hC : KE.C w A es.length es) (h : Graph.form ⟨n, es⟩ = true) :
    Calls Tryd.prog 14 #[.agg #[.int .i64 n, .slice A es.length c]] w fun e w' => e = .returned (.int .i64 (Graph.dupErr ⟨n, es⟩)) ∧ Below w.heap.size w w' := by
  have hm : es.length ≤ 9223372036854775807 := hC.2.1
  have HC := Aside0.mk hC
  clear hC
  have hb0 := (Below.refl w.heap.size w).alloc (Nat.le_refl _) (.cells #[.int .i64 n, .slice A es.length c] 24)
  simp only [Graph.form, Bool.and_eq_true, decide_eq_true_eq, Bool.not_eq_true'] at h
  obtain ⟨⟨⟨h1, h2⟩, h3⟩, ho⟩ := h
  have hR : ∀ e ∈ es, InR e := fun e he => by
    have := List.any_eq_false.1 ho e he
    have := not_odd n e (by simpa using this)
    unfold InR; omega
  have eg : ∀ args w, (callFunc 29 args).run Tryd.prog w = .ok (.enter 29 args) w := enters_of Tryd.func29 (by kernel_rfl) rfl
  have hcon := hasE_any (oddB n) 29 #[.pointer (some ⟨w.heap.size, 0, none⟩)] eg A c es (w.alloc (.cells #[.int .i64 n, .slice A es.length c] 24)) (fun W x hb => odd_any x n w.heap.size W ((hb.cell (p := ⟨w.heap.size, 0, none⟩) (by simp)).trans (by simp))) (Kd.C_below HC.out hb0)
  rw [ho] at hcon
  have HH := Aside0.mk hcon
  clear hcon ho eg
  go_enter Tryd.func14, Tryd.ntmps14
  go_wp2_with fail
  refine HH.out.mono ?_
  rintro e w1 ⟨rfl, hb1⟩
  have c0 : w1.cell? ⟨w.heap.size, 0, none⟩ = some (.int .i64 n) := (hb1.cell (p := ⟨w.heap.size, 0, none⟩) (by simp)).trans (by simp)
  have c1 : w1.cell? ⟨w.heap.size, 1, none⟩ = some (.slice A es.length c) := (hb1.cell (p := ⟨w.heap.size, 1, none⟩) (by simp)).trans (by simp)
  have hz1 : w.heap.size < w1.heap.size := by have := hb1.size; simp at this; omega
  have HB1 := Aside0.mk (below_step hb0 hb1)
  clear hb1
  go_wp2_with fail
  refine (valuesE_any A es.length c w1).mono ?_
  rintro e w' ⟨rfl, rfl⟩
  have HB2 := Aside0.mk ((HB1.out).alloc HB1.out.size (.cells #[.slice A es.length c] 22))
  have HS := Aside0.mk (sortedE_any w1.heap.size A c es (w1.alloc (.cells #[.slice A es.length c] 22)) (by simp) (by simp) (Kd.C_below HC.out HB2.out) (by omega) hR)
  go_wp2_with fail
  refine HS.out.mono ?_
  rintro e w3 ⟨v3, l', rfl, hs, hR3, hb3⟩
  have HB3 := Aside0.mk (below_step HB2.out hb3)
  have HR3 := Aside0.mk hR3
  have HSO := Aside0.mk hs
  obtain ⟨A3, c3, rfl, hl3, hC3⟩ := Kd.R_reads hR3
  have HC3 := Aside0.mk hC3
  clear hs hR3 hb3 hC3 HS
  have hlen : l'.length = es.length := HSO.out.1.length_eq
  have Hlen := Lib.hid hlen
  have hl512 : l'.length ≤ 512 := by omega
  clear hlen
  go_wp2_with fail
  go_loopw [5] (fun v5 wr => ∃ k : Nat, (k ≤ l'.length ∨ k = 1) ∧ 1 ≤ k ∧ v5 = .int .i64 k ∧ Aside0 (∀ i, (h : i + 1 < l'.length) → i + 1 < k → key l'[i] ≠ key l'[i + 1]) ∧ Aside0 (Below w3.heap.size w3 wr)) (fun v5 _ => l'.length - (intOf v5).toNat)
  case atStart => exact ⟨1, .inr rfl, Nat.le_refl _, rfl, ⟨fun i h hi => by omega⟩, ⟨Below.refl _ _⟩⟩
  case round =>
    obtain ⟨k, hk, hk1, rfl, hN, hB⟩ := hrel
    by_cases hlt : k < l'.length
    · obtain ⟨k, rfl⟩ : ∃ m, k = m + 1 := ⟨k - 1, by omega⟩
      obtain ⟨ad, rfl, a0, a1, a2⟩ := KE_at (Kd.C_below HC3.out hB.out) k (by omega)
      obtain ⟨ad', e', b0, b1, b2⟩ := KE_at (Kd.C_below HC3.out hB.out) (k + 1) hlt
      obtain rfl : ad = ad' := by injection e'
      clear e'
      have hx : InR l'[k] := hR _ (HSO.out.1.mem_iff.1 (List.getElem_mem _))
      have hy : InR l'[k + 1] := hR _ (HSO.out.1.mem_iff.1 (List.getElem_mem _))
      have hz := cmpE_zero l'[k] l'[k + 1] hx hy
      have Hx := Aside0.mk hx
      have hcmp := compareE l'[k] l'[k + 1]
      unfold Edge.v Edge.enc at hcmp
      generalize cmpE l'[k] l'[k + 1] = cz at hz hcmp
      have HCM := Aside0.mk hcmp
      clear hx hy hcmp
      have i1 : (0 : Int) ≤ (k : Int) := by omega
      have i2 : (k : Int) < (l'.length : Int) := by omega
      have i3 : (k : Int) + 1 < (l'.length : Int) := by omega
      have i4 : (0 : Int) ≤ (k : Int) + 1 := by omega
      have i5 : ((k : Int) + 1).toNat = k + 1 := by omega
      have i6 : IntKind.i64.wrap (k : Int) = (k : Int) := by rw [IntWalk.i64_in _ (by omega)]
      by_cases hkk : key l'[k] = key l'[k + 1]
      · rw [decide_eq_true hkk] at hz
        have HD := Lib.hid (show Graph.dupErr ⟨n, es⟩ = 51 by
          unfold Graph.dupErr Graph.dup
          have := not_nodup_of_adj l' k hlt hkk
          rw [(HSO.out.1.map key).nodup_iff] at this
          simp [this])
        clear hkk
        go_wp2
        go_region_held3 (fun w' => w'.cell? (ad.add (k * 3)) = some (.int .i64 l'[k].src) ∧ w'.cell? ⟨(ad.add (k * 3)).block, (ad.add (k * 3)).off + 1, none⟩ = some (.int .i64 l'[k].dst) ∧ w'.cell? ⟨(ad.add (k * 3)).block, (ad.add (k * 3)).off + 2, none⟩ = some (.int .i64 l'[k].wt) ∧ w'.cell? (ad.add ((k + 1) * 3)) = some (.int .i64 l'[k + 1].src) ∧ w'.cell? ⟨(ad.add ((k + 1) * 3)).block, (ad.add ((k + 1) * 3)).off + 1, none⟩ = some (.int .i64 l'[k + 1].dst) ∧ w'.cell? ⟨(ad.add ((k + 1) * 3)).block, (ad.add ((k + 1) * 3)).off + 2, none⟩ = some (.int .i64 l'[k + 1].wt)) (simp [go_sem, World.cell?_alloc_some, *]) ((go_at_call 28; refine (HCM.out _).mono ?_; rintro e w' ⟨rfl, rfl⟩))
        all_goals
          go_wp2
          go_ret
          exact ⟨ret_int HD.out.symm, below_step HB3.out (by repeat (first | exact hB.out | refine below_alloc ?_ _ | refine below_drew1 ?_))⟩
      · rw [decide_eq_false hkk] at hz
        have HN := Aside0.mk (show ∀ i, (h : i + 1 < l'.length) → i + 1 < k + 1 + 1 → key l'[i] ≠ key l'[i + 1] from fun i h hi => by
          rcases Nat.lt_or_ge (i + 1) (k + 1) with h' | h'
          · exact hN.out i h h'
          · obtain rfl : i = k := by omega
            exact hkk)
        clear hkk
        go_wp2
        go_region_held3 (fun w' => w'.cell? (ad.add (k * 3)) = some (.int .i64 l'[k].src) ∧ w'.cell? ⟨(ad.add (k * 3)).block, (ad.add (k * 3)).off + 1, none⟩ = some (.int .i64 l'[k].dst) ∧ w'.cell? ⟨(ad.add (k * 3)).block, (ad.add (k * 3)).off + 2, none⟩ = some (.int .i64 l'[k].wt) ∧ w'.cell? (ad.add ((k + 1) * 3)) = some (.int .i64 l'[k + 1].src) ∧ w'.cell? ⟨(ad.add ((k + 1) * 3)).block, (ad.add ((k + 1) * 3)).off + 1, none⟩ = some (.int .i64 l'[k + 1].dst) ∧ w'.cell? ⟨(ad.add ((k + 1) * 3)).block, (ad.add ((k + 1) * 3)).off + 2, none⟩ = some (.int .i64 l'[k + 1].wt)) (simp [go_sem, World.cell?_alloc_some, *]) ((go_at_call 28; refine (HCM.out _).mono ?_; rintro e w' ⟨rfl, rfl⟩))
        all_goals
          go_wp2
          go_roundw
          case rel => exact ⟨k + 1 + 1, by omega, by omega, by go_num, HN, ⟨by repeat (first | exact hB.out | refine below_alloc ?_ _ | refine below_drew1 ?_)⟩⟩
          case measure => simp [intOf]; omega
    · have HD := Lib.hid (show Graph.dupErr ⟨n, es⟩ = 0 by
        unfold Graph.dupErr Graph.dup
        have := nodup_of_adj l' HSO.out.2 (fun i h => hN.out i h (by omega))
        rw [(HSO.out.1.map key).nodup_iff] at this
        simp [this])
      have hge : ¬ k < l'.length := hlt
      go_wp2
      go_ret
      exact ⟨ret_int HD.out.symm, below_step HB3.out hB.out⟩
end Go.Proofs.YtenpmbebghlnkaaDoor
