/-
  The words that all contracts of this seat share: Go's data as Lean data, and what cells hold them.
-/
import Derived.Test.YtenpmbebghlnkaaDoorProg
import Derived.Test.YtenpmbebghlnkaaDoorWMore
import Derived.Test.YtenpmbebghlnkaaDoorWEqStruct
import Derived.Lib.Hide
import Derived.IntWalk
set_option linter.unusedVariables false
set_option linter.unusedSimpArgs false
namespace Go.Proofs.YtenpmbebghlnkaaDoor
open Go.RowKit Go.Proofs.YtenpmbebghlnkaaDoorW.PrintWords Go.Proofs.YtenpmbebghlnkaaDoorW.PrintLast Go.Proofs.YtenpmbebghlnkaaDoorW.PrintMore

/-! ### ends -/
theorem ret_int {k : IntKind} {a b : Int} (h : a = b) : Ending.returned (.int k a) = .returned (.int k b) := by rw [h]
theorem ret_bool {a b : Bool} (h : a = b) : Ending.returned (.bool a) = .returned (.bool b) := by rw [h]
theorem ret_str {a b : ByteArray} (h : a = b) : Ending.returned (.string a) = .returned (.string b) := by rw [h]
theorem wrap64_id {x : Int} (h0 : -9223372036854775808 ≤ x) (h1 : x ≤ 9223372036854775807) : wrap64 x = x := by unfold wrap64; omega

/-! ### kinds of values that lie in a fixed number of plain cells -/
def flat {α : Type} (enc : α → List Value) (sz : Nat) (hl : ∀ x, (enc x).length = sz) (h1 : ∀ x, ∀ u ∈ enc x, u.oneCell' = true) : Kd α where
  sz := sz
  E := []
  K := fun _ x cs => cs = enc x
  M := fun _ _ _ x cs => cs = enc x
  K_len := fun h => by rw [h]; exact hl _
  K_one := fun h u hu => by rw [h] at hu; exact h1 _ u hu
  K_below := fun _ h => h
  K_of_M := fun h => h
  M_mono := fun _ h => h
  M_bound := fun h => h
  M_move := fun _ h => h
  M_lower := fun _ h => h

structure Edge where
  src : Int
  dst : Int
  wt : Int
deriving DecidableEq
structure Msg where
  src : Int
  dst : Int
  val : Int
deriving DecidableEq
structure Vertex where
  id : Int
  value : Int
  act : Bool
  has : Bool
  inn : Int
deriving DecidableEq
structure Job where
  tag : ByteArray
  source : Int
  steps : Int
structure Graph where
  n : Int
  es : List Edge
def Edge.enc (x : Edge) : List Value := [.int .i64 x.src, .int .i64 x.dst, .int .i64 x.wt]
def Msg.enc (x : Msg) : List Value := [.int .i64 x.src, .int .i64 x.dst, .int .i64 x.val]
def Vertex.enc (x : Vertex) : List Value := [.int .i64 x.id, .int .i64 x.value, .bool x.act, .bool x.has, .int .i64 x.inn]
def Edge.v (x : Edge) : Value := .agg #[.int .i64 x.src, .int .i64 x.dst, .int .i64 x.wt]
def Msg.v (x : Msg) : Value := .agg #[.int .i64 x.src, .int .i64 x.dst, .int .i64 x.val]
def Vertex.v (x : Vertex) : Value := .agg #[.int .i64 x.id, .int .i64 x.value, .bool x.act, .bool x.has, .int .i64 x.inn]
def Job.v (x : Job) : Value := .agg #[.string x.tag, .int .i64 x.source, .int .i64 x.steps]

abbrev KI : Kd Int := Kd.int .i64
abbrev KB : Kd Bool := Kd.bool
abbrev KS : Kd ByteArray := Kd.string
def KE : Kd Edge := flat Edge.enc 3 (fun _ => rfl) (fun x u hu => by simp [Edge.enc] at hu; rcases hu with rfl | rfl | rfl <;> rfl)
def KM : Kd Msg := flat Msg.enc 3 (fun _ => rfl) (fun x u hu => by simp [Msg.enc] at hu; rcases hu with rfl | rfl | rfl <;> rfl)
def KV : Kd Vertex := flat Vertex.enc 5 (fun _ => rfl) (fun x u hu => by simp [Vertex.enc] at hu; rcases hu with rfl | rfl | rfl | rfl | rfl <;> rfl)

/-- The slice value v reads as the list l. -/
def Sl {α : Type} (d : Kd α) (w : World) (v : Value) (l : List α) : Prop := ∃ A c, v = .slice A l.length c ∧ l.length ≤ c ∧ d.C w A l.length l
theorem Sl.below {α : Type} {d : Kd α} {w w1 : World} {v : Value} {l : List α} (h : Sl d w v l) (hb : Below w.heap.size w w1) : Sl d w1 v l := by
  obtain ⟨A, c, e, hl, hc⟩ := h
  exact ⟨A, c, e, hl, Kd.C_below hc hb⟩
theorem Sl.of_R {α : Type} {d : Kd α} {e : Nat} {w : World} {base : Nat} {ok : Nat → Prop} {v : Value} {l : List α} (h : d.R e w base ok v l) : Sl d w v l := Kd.R_reads h
theorem Sl.nil {α : Type} (d : Kd α) (w : World) : Sl d w (.slice none 0 0) [] := ⟨none, 0, rfl, Nat.le_refl _, Kd.C_nil d w⟩
theorem Sl.len {α : Type} {d : Kd α} {w : World} {v : Value} {l : List α} (h : Sl d w v l) : l.length ≤ 9223372036854775807 := by
  obtain ⟨A, c, _, _, h1, h2, _⟩ := h
  exact h2
/-- An element's cells. -/
theorem C_at {α : Type} {d : Kd α} {w : World} {A : Option Addr} {n : Nat} {l : List α} (h : d.C w A n l) (i : Nat) (hi : i < l.length) :
    ∃ ad c, A = some ad ∧ d.K w l[i] c ∧ ∀ j u, c[j]? = some u → w.cell? (ad.add (i * d.sz + j)) = some u := by
  obtain ⟨h1, h2, h3⟩ := h
  obtain ⟨ad, e, hc⟩ := h3 (by omega)
  obtain ⟨c, _, hr, hu⟩ := hc i _ (List.getElem?_eq_getElem hi)
  exact ⟨ad, c, e, hr, hu⟩

/-! ### elements read, as the walk spells their cells -/
theorem KM_at {w : World} {A : Option Addr} {n : Nat} {l : List Msg} (h : KM.C w A n l) (i : Nat) (hi : i < l.length) :
    ∃ ad, A = some ad ∧ w.cell? (ad.add (i * 3)) = some (.int .i64 l[i].src) ∧ w.cell? ⟨(ad.add (i * 3)).block, (ad.add (i * 3)).off + 1, none⟩ = some (.int .i64 l[i].dst) ∧ w.cell? ⟨(ad.add (i * 3)).block, (ad.add (i * 3)).off + 2, none⟩ = some (.int .i64 l[i].val) := by
  obtain ⟨ad, c, e, hK, hc0⟩ := C_at h i hi
  have hc : ∀ j u, c[j]? = some u → w.cell? (ad.add (i * 3 + j)) = some u := hc0
  obtain rfl : c = l[i].enc := hK
  exact ⟨ad, e, hc 0 _ rfl, by rw [← add_field _ _ 1 (by omega)]; exact hc 1 _ rfl, by rw [← add_field _ _ 2 (by omega)]; exact hc 2 _ rfl⟩
theorem KE_at {w : World} {A : Option Addr} {n : Nat} {l : List Edge} (h : KE.C w A n l) (i : Nat) (hi : i < l.length) :
    ∃ ad, A = some ad ∧ w.cell? (ad.add (i * 3)) = some (.int .i64 l[i].src) ∧ w.cell? ⟨(ad.add (i * 3)).block, (ad.add (i * 3)).off + 1, none⟩ = some (.int .i64 l[i].dst) ∧ w.cell? ⟨(ad.add (i * 3)).block, (ad.add (i * 3)).off + 2, none⟩ = some (.int .i64 l[i].wt) := by
  obtain ⟨ad, c, e, hK, hc0⟩ := C_at h i hi
  have hc : ∀ j u, c[j]? = some u → w.cell? (ad.add (i * 3 + j)) = some u := hc0
  obtain rfl : c = l[i].enc := hK
  exact ⟨ad, e, hc 0 _ rfl, by rw [← add_field _ _ 1 (by omega)]; exact hc 1 _ rfl, by rw [← add_field _ _ 2 (by omega)]; exact hc 2 _ rfl⟩
theorem KV_at {w : World} {A : Option Addr} {n : Nat} {l : List Vertex} (h : KV.C w A n l) (i : Nat) (hi : i < l.length) :
    ∃ ad, A = some ad ∧ w.cell? (ad.add (i * 5)) = some (.int .i64 l[i].id) ∧ w.cell? ⟨(ad.add (i * 5)).block, (ad.add (i * 5)).off + 1, none⟩ = some (.int .i64 l[i].value) ∧ w.cell? ⟨(ad.add (i * 5)).block, (ad.add (i * 5)).off + 2, none⟩ = some (.bool l[i].act) ∧ w.cell? ⟨(ad.add (i * 5)).block, (ad.add (i * 5)).off + 3, none⟩ = some (.bool l[i].has) ∧ w.cell? ⟨(ad.add (i * 5)).block, (ad.add (i * 5)).off + 4, none⟩ = some (.int .i64 l[i].inn) := by
  obtain ⟨ad, c, e, hK, hc0⟩ := C_at h i hi
  have hc : ∀ j u, c[j]? = some u → w.cell? (ad.add (i * 5 + j)) = some u := hc0
  obtain rfl : c = l[i].enc := hK
  exact ⟨ad, e, hc 0 _ rfl, by rw [← add_field _ _ 1 (by omega)]; exact hc 1 _ rfl, by rw [← add_field _ _ 2 (by omega)]; exact hc 2 _ rfl, by rw [← add_field _ _ 3 (by omega)]; exact hc 3 _ rfl, by rw [← add_field _ _ 4 (by omega)]; exact hc 4 _ rfl⟩
theorem KI_at {k : IntKind} {w : World} {A : Option Addr} {n : Nat} {l : List Int} (h : (Kd.int k).C w A n l) (i : Nat) (hi : i < l.length) :
    ∃ ad, A = some ad ∧ w.cell? (ad.add i) = some (.int k l[i]) := by
  obtain ⟨ad, c, e, hK, hc0⟩ := C_at h i hi
  have hc : ∀ j u, c[j]? = some u → w.cell? (ad.add (i * 1 + j)) = some u := hc0
  obtain rfl : c = [.int k l[i]] := hK
  exact ⟨ad, e, by have := hc 0 _ rfl; simpa using this⟩
theorem KB_at {w : World} {A : Option Addr} {n : Nat} {l : List Bool} (h : KB.C w A n l) (i : Nat) (hi : i < l.length) :
    ∃ ad, A = some ad ∧ w.cell? (ad.add i) = some (.bool l[i]) := by
  obtain ⟨ad, c, e, hK, hc0⟩ := C_at h i hi
  have hc : ∀ j u, c[j]? = some u → w.cell? (ad.add (i * 1 + j)) = some u := hc0
  obtain rfl : c = [.bool l[i]] := hK
  exact ⟨ad, e, by have := hc 0 _ rfl; simpa using this⟩
theorem KS_at {w : World} {A : Option Addr} {n : Nat} {l : List ByteArray} (h : KS.C w A n l) (i : Nat) (hi : i < l.length) :
    ∃ ad, A = some ad ∧ w.cell? (ad.add i) = some (.string l[i]) := by
  obtain ⟨ad, c, e, hK, hc0⟩ := C_at h i hi
  have hc : ∀ j u, c[j]? = some u → w.cell? (ad.add (i * 1 + j)) = some u := hc0
  obtain rfl : c = [.string l[i]] := hK
  exact ⟨ad, e, by have := hc 0 _ rfl; simpa using this⟩

abbrev KU : Kd Int := Kd.int .u8
/-- A block of bytes, read. -/
theorem KU_block {W : World} {g : Nat} {t : TypeId} {l : List Int} (h : W.heap[g]? = some (.cells (l.map (Value.int .u8)).toArray t (0, 0))) (hl : l.length ≤ 9223372036854775807) : KU.C W (some ⟨g, 0, none⟩) l.length l := by
  refine ⟨rfl, hl, fun _ => ⟨_, rfl, fun j p hj => ⟨[.int .u8 p], rfl, rfl, fun i u hu => ?_⟩⟩⟩
  have hi : i = 0 ∧ u = .int .u8 p := by
    match i, hu with
    | 0, hu => simp at hu; exact ⟨rfl, hu.symm⟩
  obtain ⟨rfl, rfl⟩ := hi
  have e : (⟨g, 0, none⟩ : Addr).add (j * KU.sz + 0) = ⟨g, j, none⟩ := by
    show (⟨g, 0, none⟩ : Addr).add (j * 1 + 0) = _
    rw [Nat.mul_one]
    simp [Addr.add]
    exact Eq.symm
  rw [e, blk_cell h]
  simp [hj]

/-! ### types -/
theorem infoInt : (Tryd.prog.info? 3).map (fun i => (i.zero, i.size, i.bytes)) = some (some (.int .i64 0), 1, 8) := by kernel_rfl
theorem infoBool : (Tryd.prog.info? 4).map (fun i => (i.zero, i.size, i.bytes)) = some (some (.bool false), 1, 1) := by kernel_rfl
theorem infoByte : (Tryd.prog.info? 5).map (fun i => (i.zero, i.size, i.bytes)) = some (some (.int .u8 0), 1, 1) := by kernel_rfl
theorem infoStr : (Tryd.prog.info? 9).map (fun i => (i.zero, i.size, i.bytes)) = some (some (.string ⟨#[]⟩), 1, 16) := by kernel_rfl
theorem infoE : (Tryd.prog.info? 45).map (fun i => (i.zero, i.size, i.bytes)) = some (some (.agg #[.int .i64 0, .int .i64 0, .int .i64 0]), 3, 24) := by kernel_rfl
/-! ### '==' of structs -/
theorem eqE (d : Nat) (w : World) (x0 y0 : Int) (x1 y1 : Int) (x2 y2 : Int) :
    (Op.equalIn (d + 2) 45 (.agg #[.int .i64 x0, .int .i64 x1, .int .i64 x2]) (.agg #[.int .i64 y0, .int .i64 y1, .int .i64 y2])).run Tryd.prog w = .ok (x0 == y0 && (x1 == y1 && (x2 == y2))) w := by
  refine eqA_of Tryd.underlying45 (by kernel_rfl) ?_
  refine eqf_cons (by rfl) (by go_simp; rfl) (by go_simp; rfl) (by go_simp) ?_
  refine eqf_cons (by rfl) (by go_simp; rfl) (by go_simp; rfl) (by go_simp) ?_
  exact eqf_last (by rfl) (by go_simp; rfl) (by go_simp; rfl) (by go_simp)
theorem Msg.eqb (a b : Msg) : (a.src == b.src && (a.dst == b.dst && (a.val == b.val))) = decide (a = b) := by
  cases a; cases b; rw [Bool.eq_iff_iff]; simp
theorem Edge.eqb (a b : Edge) : (a.src == b.src && (a.dst == b.dst && (a.wt == b.wt))) = decide (a = b) := by
  cases a; cases b; rw [Bool.eq_iff_iff]; simp
theorem Vertex.eqb (a b : Vertex) : (a.id == b.id && (a.value == b.value && (a.act == b.act && (a.has == b.has && (a.inn == b.inn))))) = decide (a = b) := by
  cases a; cases b; rw [Bool.eq_iff_iff]; simp
theorem Msg.neb (a b : Msg) : (!(a.src == b.src) || (!(a.dst == b.dst) || (!(a.val == b.val)))) = !decide (a = b) := by
  rw [← Msg.eqb]; simp
theorem Edge.neb (a b : Edge) : (!(a.src == b.src) || (!(a.dst == b.dst) || (!(a.wt == b.wt)))) = !decide (a = b) := by
  rw [← Edge.eqb]; simp
theorem Vertex.neb (a b : Vertex) : (!(a.id == b.id) || (!(a.value == b.value) || (!(a.act == b.act) || (!(a.has == b.has) || (!(a.inn == b.inn)))))) = !decide (a = b) := by
  rw [← Vertex.eqb]; simp
end Go.Proofs.YtenpmbebghlnkaaDoor
