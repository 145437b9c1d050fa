/-
  From a row's condition to the walk's ground: what lies in the library's variables; the wrap that keeps the world's shape; a graph that comes in.
-/
import Derived.Test.YtenpmbebghlnkaaDoorKText
import Derived.Test.YtenpmbebghlnkaaDoorTie
import Derived.Test.YtenpmbebghlnkaaDoorCards
import Derived.ProofKit
import Derived.OpenShut
import Derived.LaidMore
import Derived.Lay
import Derived.SevenTiedAt
import Derived.Stop.Joined
import Derived.Stop.LaidErr
import Derived.Shelf.Vars
import Derived.Lib.LaidTab
import Derived.ShutString
import Derived.SizedLaws
import Derived.Deep.Slices
import Derived.Deep.Fields
import Derived.ChangeSame
import Derived.Lib.SmallJoins
namespace Go.Proofs.YtenpmbebghlnkaaDoor
open Go.ChangeShapes Go.WideShapes Go.ChangeAt Go.RowKit Go.Deep
open Go.ChangeMaps (open_string shut_string)
open Go.Proofs.YtenpmbebghlnkaaDoorW.PrintWords Go.Proofs.YtenpmbebghlnkaaDoorW.PrintLast Go.Proofs.YtenpmbebghlnkaaDoorW.PrintMore
set_option linter.unusedVariables false
set_option linter.unusedSimpArgs false
theorem seatOwn : ownKnob Tryd.prog.godebug = none := by kernel_rfl
theorem laidOut : laidOutB Tryd.prog = true := by kernel_rfl
theorem gPow : Tryd.prog.globalNamed "internal/strconv.uint64pow10" = some 3 := by kernel_rfl
theorem gSyn : Tryd.prog.globalNamed "strconv.ErrSyntax" = some 1 := by kernel_rfl
theorem gRng : Tryd.prog.globalNamed "strconv.ErrRange" = some 2 := by kernel_rfl
theorem tPow : (Tryd.prog.globals[3]?).map (·.type) = some 128 := by kernel_rfl
theorem tSyn : (Tryd.prog.globals[1]?).map (·.type) = some 69 := by kernel_rfl
theorem tRng : (Tryd.prog.globals[2]?).map (·.type) = some 69 := by kernel_rfl
theorem cU64 : Tryd.prog.cellsOf 92 = 1 := by kernel_rfl
theorem cPow : Tryd.prog.cellsOf 128 = 20 := by kernel_rfl
theorem cErr : Tryd.prog.cellsOf 135 = 1 := by kernel_rfl
theorem cStr : Tryd.prog.cellsOf 9 = 1 := by kernel_rfl
theorem star : "*" ++ "errors.errorString" = "*errors.errorString" := by decide
theorem rowErr (u : TypeId) (h : Tryd.prog.typeName? 3 u = some "*errors.errorString") : u = 133 :=
  typeName_ptr_named (nm := "errors.errorString") (by rw [star]; kernel_rfl) (by kernel_rfl) (by decide) u (by rw [star]; exact h)
/-- The list that the rows bear. -/
abbrev laidL : List (String × DataW Unit) := [("math/bits.deBruijn32tab", Rows.laid_math_bits_deBruijn32tab), ("math/bits.deBruijn64tab", Rows.laid_math_bits_deBruijn64tab), ("internal/strconv.uint64pow10", Rows.laid_internal_strconv_uint64pow10), ("unicode/utf8.acceptRanges", Rows.laid_unicode_utf8_acceptRanges), ("strconv.ErrRange", Rows.laid_strconv_ErrRange), ("strconv.ErrSyntax", Rows.laid_strconv_ErrSyntax), ("unicode/utf8.first", Rows.laid_unicode_utf8_first)]
theorem laidPlain (W : World) : laidMetH Tryd.prog laidL W = laidMet Tryd.prog laidL W := MakeChecks.laidMetH_plain _ _ _ (by kernel_rfl)
theorem laid_of {W : World} (h : laidMetH Tryd.prog laidL W) (hs : W.ShapedOpen Tryd.prog) : Laid W := by
  rw [laidPlain] at h
  have h2 := h.tail.tail
  have h4 := h2.tail.tail
  have hpow : Lib.TabIs Tryd.prog W "internal/strconv.uint64pow10" .u64 Lib.pow10Tab := Lib.tabIs_of_head gPow tPow Tryd.underlying128 Tryd.underlying92 cU64 cPow h2
  obtain ⟨a0, s0, hr, _, _, _⟩ := laid_sentinel h4 gRng tRng Tryd.underlying69 rowErr Tryd.underlying133 Tryd.underlying135 rfl rfl Tryd.underlying9 cErr cStr
  obtain ⟨a1, s1, hy, _, _, _⟩ := laid_sentinel h4.tail gSyn tSyn Tryd.underlying69 rowErr Tryd.underlying133 Tryd.underlying135 rfl rfl Tryd.underlying9 cErr cStr
  exact ⟨cell_of_shapedOpen_int (zero := #[.int .i64 0]) (t := 3) hs (of_decide_eq_true (by kernel_rfl)) (by kernel_rfl) rfl (by kernel_rfl) (by kernel_rfl) Tryd.underlying3, hpow, ⟨_, _, hy⟩, ⟨_, _, hr⟩⟩
section
variable {H : Type} {enc : TypeId × Value → H} {P : Program} {w : World} {base : Nat} {spare : Nat → Bool} {held : Bool}
theorem open_slice_fields {t e : TypeId} {fs : Array Field} {fuel : Nat} {cs : List Value} {x : DataW H × List MemPlace} (ht : P.underlying t = some (.slice e)) (he : P.underlying e = some (.struct fs))
    (hone : oneCellFields P fs = true) (hC : P.cellsOf e = fs.size) (h : DataW.trod enc P w base spare held fuel t cs = some x) :
    (cs = [.slice none 0 0] ∧ x = (.nil, [])) ∨
    ∃ (a : Addr) (len cap m : Nat) (D : Nat → DataW H) (Pl : Nat → List MemPlace), cs = [.slice (some a) len cap] ∧ base ≤ a.block ∧ len ≤ cap ∧ cap ≤ maxLen ∧ m = (if spare a.block then cap else len) ∧
      x = (.slice ((List.range len).map D) ((List.range (m - len)).map fun j => D (len + j)), MemPlace.row a (m * fs.size) ++ (List.range m).flatMap Pl) ∧
      ∀ i, i < m → ∃ (ys : List (DataW H × List MemPlace)) (n : Nat), D i = .agg (ys.map (·.1)) ∧ Pl i = ys.flatMap (·.2) ∧ ys.length = fs.size ∧
        ∀ (j : Nat) (f : Field), fs[j]? = some f → ∃ (v : Value) (y : DataW H × List MemPlace), w.cell? (a.add (i * fs.size + j)) = some v ∧ ys[j]? = some y ∧ DataW.trod enc P w base spare held n f.type [v] = some y := by
  rcases open_slice ht h with h0 | ⟨a, len, cap, m, n, D, Pl, hcs, hb, hl, hm, hmm, hx, hi⟩
  · exact .inl h0
  · refine .inr ⟨a, len, cap, m, D, Pl, hcs, hb, hl, hm, hmm, by rw [hC] at hx; exact hx, fun i him => ?_⟩
    obtain ⟨cs', hc, ht'⟩ := hi i him
    rw [hC] at hc
    obtain ⟨ys, n', hn', hy, hlen, hyl, hf⟩ := DataW.trod_struct he ht'
    obtain ⟨_, hcl, hat⟩ := World.cells?_some hc
    simp only [Prod.mk.injEq] at hy
    refine ⟨ys, n', hy.1, hy.2, hyl, fun j f hj => ?_⟩
    obtain ⟨ho, hk⟩ := hone_of hone j f hj
    have hjl : j < fs.size := (Array.getElem?_eq_some_iff.1 hj).1
    have hcell := hat j hjl
    have hv : cs'[j]? = some (cs'[j]'(by omega)) := List.getElem?_eq_getElem (by omega)
    have h1 := hf j f hj
    rw [ho, hk] at h1
    have hone' : (cs'.drop j).take 1 = [cs'[j]'(by omega)] := by
      rw [List.drop_eq_getElem_cons (by omega)]
      rfl
    rw [hone'] at h1
    have hys : ys[j]? = some (ys[j]'(by omega)) := List.getElem?_eq_getElem (by omega)
    refine ⟨_, _, ?_, hys, h1.trans hys⟩
    rw [← Go.Deep.add_add, hcell, hv]
end
/-! ### a graph that comes in -/
theorem cEdge : Tryd.prog.cellsOf 45 = 3 := by kernel_rfl
theorem cGraph : Tryd.prog.cellsOf 24 = 2 := by kernel_rfl
theorem i64_of_wf {n : Int} (h : (Lit.int .i64 n).wf = true) : -9223372036854775808 ≤ n ∧ n ≤ 9223372036854775807 := by
  have e1 : IntKind.i64.min = -9223372036854775808 := rfl
  have e2 : IntKind.i64.max = 9223372036854775807 := rfl
  simp only [Lit.wf, e1, e2, Bool.and_eq_true, decide_eq_true_eq] at h
  exact h
theorem KE_of {w : World} {a : Addr} {len : Nat} (hm : len ≤ 9223372036854775807) (h : ∀ i, i < len → ∃ e : Edge, ∀ j u, e.enc[j]? = some u → w.cell? (a.add (i * 3 + j)) = some u) : ∃ es : List Edge, es.length = len ∧ KE.C w (some a) len es := by
  refine ⟨(List.range len).map (fun i => if hi : i < len then Classical.choose (h i hi) else ⟨0, 0, 0⟩), by simp, ?_⟩
  refine ⟨by simp, hm, fun _ => ⟨a, rfl, fun j p hj => ?_⟩⟩
  have hjl : j < len := by
    rcases Nat.lt_or_ge j len with h1 | h1
    · exact h1
    · rw [List.getElem?_eq_none (by simpa using h1)] at hj; cases hj
  refine ⟨Edge.enc p, rfl, rfl, fun i u hu => ?_⟩
  have e : p = Classical.choose (h j hjl) := by
    rw [List.getElem?_map, List.getElem?_range hjl] at hj
    simp only [Option.map_some, Option.some.injEq, dif_pos hjl] at hj
    exact hj.symm
  subst e
  exact Classical.choose_spec (h j hjl) i u hu
theorem open_edges {H : Type} {enc : TypeId × Value → H} {W : World} {fuel : Nat} {v : Value} {x : DataW H × List MemPlace} (h : DataW.trod enc Tryd.prog W 0 (fun _ => true) true fuel 22 [v] = some x) :
    ∃ (A : Option Addr) (c : Nat) (es : List Edge), v = .slice A es.length c ∧ es.length ≤ c ∧ c ≤ maxLen ∧ KE.C W A es.length es := by
  rcases open_slice_fields Tryd.underlying22 Tryd.underlying45 (by kernel_rfl) cEdge h with ⟨h1, _⟩ | ⟨a, len, cap, m, D, Pl, h1, _, hl, hm, hmm, _, hi⟩
  · injection h1 with h1
    exact ⟨none, 0, [], h1, Nat.le_refl _, by unfold maxLen; omega, Kd.C_nil KE W⟩
  · injection h1 with h1
    subst h1
    have hcap : cap ≤ 9223372036854775807 := hm
    have hex : ∀ i, i < len → ∃ e : Edge, ∀ j u, e.enc[j]? = some u → W.cell? (a.add (i * 3 + j)) = some u := by
      intro i hil
      have him : i < m := by rw [hmm]; split <;> omega
      obtain ⟨ys, n, _, _, _, hf⟩ := hi i him
      obtain ⟨v0, y0, q0, _, t0⟩ := hf 0 _ rfl
      obtain ⟨v1, y1, q1, _, t1⟩ := hf 1 _ rfl
      obtain ⟨v2, y2, q2, _, t2⟩ := hf 2 _ rfl
      obtain ⟨z0, e0, _, _⟩ := DataW.trod_int Tryd.underlying3 t0
      obtain ⟨z1, e1, _, _⟩ := DataW.trod_int Tryd.underlying3 t1
      obtain ⟨z2, e2, _, _⟩ := DataW.trod_int Tryd.underlying2 t2
      injection e0 with e0; injection e1 with e1; injection e2 with e2
      subst e0; subst e1; subst e2
      refine ⟨⟨z0, z1, z2⟩, fun j u hu => ?_⟩
      match j, hu with
      | 0, hu => injection hu with hu; subst hu; exact q0
      | 1, hu => injection hu with hu; subst hu; exact q1
      | 2, hu => injection hu with hu; subst hu; exact q2
    obtain ⟨es, rfl, hC⟩ := KE_of (by omega) hex
    exact ⟨some a, cap, es, rfl, hl, hm, hC⟩
set_option maxRecDepth 100000 in
theorem open_graph {H : Type} {enc : TypeId × Value → H} {W : World} {base : Nat} {v : Value} {d : DataW H} {p : List MemPlace} (hv : Value.okWide Tryd.prog W .any base 24 v) (h : DataW.Trod enc Tryd.prog W 0 (fun _ => true) true 24 v d p) :
    ∃ (n : Int) (A : Option Addr) (c : Nat) (es : List Edge), v = .agg #[.int .i64 n, .slice A es.length c] ∧ es.length ≤ c ∧ c ≤ maxLen ∧ (-9223372036854775808 ≤ n ∧ n ≤ 9223372036854775807) ∧ KE.C W A es.length es := by
  obtain ⟨v0, v1, y0, y1, n, rfl, _, _, h0, h1⟩ := Joins.open_agg2 Tryd.underlying24 (by kernel_rfl) cGraph hv h
  obtain ⟨z, e0, _, wz⟩ := DataW.trod_int Tryd.underlying3 h0
  injection e0 with e0
  subst e0
  obtain ⟨A, c, es, rfl, h2, h3, hC⟩ := open_edges h1
  exact ⟨z, A, c, es, rfl, h2, h3, i64_of_wf wz, hC⟩
/-- The wrap of a row that lists variables, the world's shape kept. -/
theorem wrap_laid {H : Type} {enc : TypeId × Value → H} {C : Checked} {os : Os} {f : FuncId} {fn : Func} {s : ChangeSpec} {X : World → Prop} (hX : ∀ w w' : World, w.heap = w'.heap → X w → X w')
    (own : ownKnob C.prog.godebug = none) (started : os.Started) (noInit : C.prog.inits.idxOf? f = none) (hfn : C.prog.funcs[f]? = some fn)
    (witness : ∃ (w : World) (tape : Tape) (i : Input), w.os = os ∧ (w.forCall tape i).Shaped C.prog ∧ i.vars = [] ∧ Input.okWide C.prog (w.forCall tape i) .any w.heap.size f i ∧
      ((s.pre enc C.prog fn [] false (w.forCall tape i).memory i.args ∧ X (w.forCall tape i).memory) ∧ sizedMet enc C.prog fn (OpenSpec.ofChange s) false (w.forCall tape i).memory i.args) ∧ Assume.holds {} C.prog (lone (Frame.enter C.prog f i.args .normal) [] (w.forCall tape i)))
    (contract : ∀ (W : World) (base : Nat) (args : Array Value) (ds gs : List (DataW H)) (before : List MemPlace),
      (∀ (j : Nat) t v, fn.params[j]? = some t → args[j]? = some v → Value.okWide C.prog W .any base t v) →
      DataW.Whole enc C.prog fn.params.toList s.vars false W args.toList ds gs before →
      (DataW.weightsEach C.prog (fn.params.toList ++ s.plain.varTypes C.prog) (ds ++ gs)).all (· ≤ reachBytes) = true → X W → W.ShapedOpen C.prog →
      Calls C.prog f args W fun e W' => ∃ v, e = .returned v ∧ s.post enc C.prog fn false true false false W args v W') :
    ReturnsInHanded {} C os f .any (fun w args => (s.pre enc C.prog fn [] false w args ∧ X w) ∧ sizedMet enc C.prog fn (OpenSpec.ofChange s) false w args) (s.post enc C.prog fn false true false false) := by
  refine returnsInHanded_of_calls own started noInit witness ?_
  intro w tape i _ hsh _ hok hpre hholds
  obtain ⟨_, _, _, fn', hfn', _, _, _, _, hval⟩ := hok
  have e : fn' = fn := Option.some.inj (hfn'.symm.trans hfn)
  subst e
  obtain ⟨⟨⟨ds, gs, before, hw, hc⟩, hx⟩, hz⟩ := hpre
  have hw' := DataW.Whole.of_heap (w' := w.forCall tape i) (by rfl) hw
  refine (contract (w.forCall tape i) w.heap.size i.args ds gs before hval hw' (hz.weights hw) (hX _ _ (by rfl) hx) hsh).mono fun e W' ⟨v, he, hp⟩ => ?_
  subst he
  exact ChangeSpec.post_blind hp
end Go.Proofs.YtenpmbebghlnkaaDoor
