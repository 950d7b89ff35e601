/-
  The laws of the operations: pure ones, loads, stores, blocks. Program-independent. Conditions: none.
-/
import Derived.Test.YtajekiiabkaflaaSl2
import Derived.Laws.Entries
import Derived.Laws.Cells
import Derived.Laws.CopyRow
import Derived.Laws.Strings
import Derived.KernelRfl
import Derived.IntWalk
set_option linter.unusedVariables false
set_option linter.unusedSimpArgs false
namespace Go.Sl
attribute [local semireducible] Run Out RunM QOp

/-! ### 1. Facts on types, to be had by the kernel -/
def tcellB (P : Program) (t : TypeId) : Bool := match P.underlying t with
  | some (.struct _) | some (.array ..) | none => false
  | some _ => (P.info? t).any fun i => i.size == 1
def taggB (P : Program) (t : TypeId) (s : Nat) : Bool := match P.underlying t with
  | some (.struct _) | some (.array ..) => (P.info? t).any fun i => i.size == s
  | _ => false
def foffB (P : Program) (s f k : Nat) : Bool := match P.underlying s with
  | some (.struct fs) => match fs[f]? with
    | some x => x.offset == k && (P.info? x.type).any fun i => i.size != 0
    | none => false
  | _ => false
def tsliceB (P : Program) (t e sz by_ : Nat) : Bool := match P.underlying t with
  | some (.slice e') => e' == e && (P.info? e).any fun i => i.size == sz && i.bytes == by_
  | _ => false
class TCell (P : Program) (t : TypeId) : Prop where
  ok : tcellB P t = true
class TAgg (P : Program) (t : TypeId) (s : outParam Nat) : Prop where
  ok : taggB P t s = true
class FOff (P : Program) (s f : Nat) (k : outParam Nat) : Prop where
  ok : foffB P s f k = true
class TUnd (P : Program) (t : TypeId) (d : outParam TypeDesc) : Prop where
  ok : P.underlying t = some d
/-- A slice type: its elements' type, how many cells and bytes one takes. -/
class TSlice (P : Program) (t : TypeId) (e sz by_ : outParam Nat) : Prop where
  ok : tsliceB P t e sz by_ = true
/-- A type's zero value, as cells. -/
class TZero (P : Program) (t : TypeId) (z : outParam (List Value)) : Prop where
  ok : (P.info? t).bind (fun i => i.zero.map fun v => v.cells.toList) = some z
/-- A struct's fields' places. -/
class TPlaces (P : Program) (t : TypeId) (pl : outParam (List (Nat × Nat))) : Prop where
  ok : (match P.underlying t with
    | some (.struct fs) => fs.toList.mapM fun f => (P.info? f.type).map fun i => (f.offset, i.size)
    | _ => none) = some pl

section
variable {P : Program} {w : World}
theorem run_isAgg_f {t : TypeId} (h : tcellB P t = true) : (isAgg t).run P w = .ok false w := by
  unfold tcellB at h
  unfold isAgg
  split at h
  · cases h
  · cases h
  · cases h
  · rename_i d h1 h2 h3
    rw [Sem.run_bind, run_underlying h3 w]
    cases d <;> simp_all
theorem run_size_cell {t : TypeId} (h : tcellB P t = true) : (sizeOf t).run P w = .ok 1 w := by
  unfold tcellB at h
  split at h
  · cases h
  · cases h
  · cases h
  · cases hi : P.info? t with
    | none => simp [hi] at h
    | some i =>
      have : i.size = 1 := by simpa [hi] using h
      simp [sizeOf, typeInfo, hi, this]
theorem run_isAgg_t {t : TypeId} {s : Nat} (h : taggB P t s = true) : (isAgg t).run P w = .ok true w := by
  unfold taggB at h
  unfold isAgg
  split at h
  · rename_i h1; simp [run_underlying h1 w]
  · rename_i h1; simp [run_underlying h1 w]
  · cases h
theorem run_size_agg {t : TypeId} {s : Nat} (h : taggB P t s = true) : (sizeOf t).run P w = .ok s w := by
  have : (P.info? t).any (fun i => i.size == s) = true := by
    unfold taggB at h
    split at h <;> simp_all
  cases hi : P.info? t with
  | none => simp [hi] at this
  | some i =>
    have : i.size = s := by simpa [hi] using this
    simp [sizeOf, typeInfo, hi, this]
end

/-! ### 2. Pure operations -/
/-- A row of cells that may be written. -/
def cells (b : Nat) (e : TypeId) (l : List Value) : SP := pts b (.cells l.toArray e (0, 0))
theorem Cl.row {w0 w : World} {L R : List SP} {b : Nat} {e : TypeId} {l : List Value} (c : Cl w0 L w) (h : Has L (cells b e l) R) : w.heap[b]? = some (.cells l.toArray e (0, 0)) := (c.sat.has h).at

section
variable {P : Program} {w0 : World} {n : Nat} {K : Ks} {L : List SP} {Q : Qt}
abbrev QO (P : Program) (w0 : World) (n : Nat) (K : Ks) (L : List SP) (op : Op) (v : Value) := QOp P w0 n op K L v
theorem q_move {x : Operand} {v : Value} (h : ev K x = some v) : QOp P w0 n (.move x) K L v := fun d ty pos af g a w f c => by
  simp [execOp, f.eval h]
theorem q_assign {x : Operand} {v : Value} (h : ev K x = some v) : QOp P w0 n (.assign x) K L v := fun d ty pos af g a w f c => by
  simp [execOp, f.eval h]
theorem q_pick_t {c x y : Operand} {v : Value} (hc : ev K c = some (.bool true)) (h : ev K x = some v) : QOp P w0 n (.pick c x y) K L v := fun d ty pos af g a w f cl => by
  simp [execOp, f.eval h, f.eval hc, asBool]
theorem q_pick_f {c x y : Operand} {v : Value} (hc : ev K c = some (.bool false)) (h : ev K y = some v) : QOp P w0 n (.pick c x y) K L v := fun d ty pos af g a w f cl => by
  simp [execOp, f.eval h, f.eval hc, asBool]
theorem q_nilCheck {x : Operand} {ad : Addr} (h : ev K x = some (.pointer (some ad))) : QOp P w0 n (.nilCheck x) K L (.pointer (some ad)) := fun d ty pos af g a w f c => by
  simp [execOp, f.eval h]
theorem q_nilCheck_fn {x : Operand} {f0 : FuncId} {fst cap : Array Value} (h : ev K x = some (.func (.func f0) fst cap)) : QOp P w0 n (.nilCheck x) K L (.func (.func f0) fst cap) := fun d ty pos af g a w f c => by
  simp [execOp, f.eval h]
theorem run_fieldAt {s fld k b off : Nat} (h : foffB P s fld k = true) (w : World) : (Instr.fieldAt s (.pointer (some ⟨b, off, none⟩)) fld).run P w = .ok (.pointer (some ⟨b, off + k, none⟩)) w := by
  unfold foffB at h
  split at h
  · rename_i fs e
    split at h
    · rename_i x ex
      simp only [Bool.and_eq_true, beq_iff_eq] at h
      cases hi : P.info? x.type with
      | none => simp [hi] at h
      | some i =>
        obtain ⟨rfl, h2⟩ := h
        have h3 : i.size ≠ 0 := by simpa [hi] using h2
        simp [Instr.fieldAt, run_underlying e w, ex, Instr.sureAddr, fieldPlace, sizeOf, typeInfo, hi, h3, Addr.add_lit]
    · cases h
  · cases h
theorem q_fieldAddr {s fld k b off : Nat} {x : Operand} [hk : FOff P s fld k] (h : ev K x = some (.pointer (some ⟨b, off, none⟩))) : QOp P w0 n (.fieldAddr s x fld) K L (.pointer (some ⟨b, off + k, none⟩)) := fun d ty pos af g a w f c => by
  simp [execOp, f.eval h, run_fieldAt hk.ok w]
theorem q_extract {t : Operand} {i : Nat} {vs : List Value} {v : Value} (h : ev K t = some (.tuple vs.toArray)) (hi : vs[i]? = some v) : QOp P w0 n (.extract t i) K L v := fun d ty pos af g a w f c => by
  simp [execOp, f.eval h, Instr.extract, hi]
theorem q_not {x : Operand} {t : TypeId} {b : Bool} (h : ev K x = some (.bool b)) : QOp P w0 n (.unOp .not t x) K L (.bool !b) := fun d ty pos af g a w f c => by
  simp [execOp, f.eval h, Op.unary]
theorem q_not_t {x : Operand} {t : TypeId} (h : ev K x = some (.bool true)) : QOp P w0 n (.unOp .not t x) K L (.bool false) := q_not h
theorem q_not_f {x : Operand} {t : TypeId} (h : ev K x = some (.bool false)) : QOp P w0 n (.unOp .not t x) K L (.bool true) := q_not h
theorem q_neg {x : Operand} {t : TypeId} {k : IntKind} {a : Int} (h : ev K x = some (.int k a)) : QOp P w0 n (.unOp .neg t x) K L (.int k (k.wrap (0 - a))) := fun d ty pos af g ac w f c => by
  simp [execOp, f.eval h, Op.unary, Op.intArith]

/-- s values from off on. -/
def vals (l : List Value) : Nat → Nat → Option (List Value)
  | _, 0 => some []
  | off, s + 1 => match l[off]?, vals l (off + 1) s with
    | some a, some r => some (a :: r)
    | _, _ => none
theorem vals_is {l : List Value} : ∀ {s off : Nat} {cs : List Value}, vals l off s = some cs → (l.drop off).take s = cs ∧ cs.length = s
  | 0, off, cs, h => by
    obtain rfl : [] = cs := by simpa [vals] using h
    simp
  | s + 1, off, cs, h => by
    unfold vals at h
    split at h
    · rename_i a r e1 e2
      obtain rfl := Option.some.inj h
      obtain ⟨h1, h2⟩ := vals_is e2
      have hlt : off < l.length := (List.getElem?_eq_some_iff.1 e1).1
      have ha : l[off] = a := (List.getElem?_eq_some_iff.1 e1).2
      rw [List.drop_eq_getElem_cons hlt, List.take_succ_cons, h1, ha]
      exact ⟨rfl, by simp [h2]⟩
    · cases h
theorem run_loadVar_cell {t b off : Nat} {l : List Value} {e : TypeId} {v : Value} {w : World} (h : tcellB P t = true) (hb : w.heap[b]? = some (.cells l.toArray e (0, 0))) (hv : l[off]? = some v) :
    (loadVar t ⟨b, off, none⟩).run P w = .ok v w := by
  have : w.cell? ⟨b, off, none⟩ = some v := by rw [cell_at hb]; simpa using hv
  simp [loadVar, run_isAgg_f h, this]
theorem run_loadVar_agg {t s b off : Nat} {l cs : List Value} {e : TypeId} {w : World} (h : taggB P t s = true) (hb : w.heap[b]? = some (.cells l.toArray e (0, 0))) (hv : (l.drop off).take s = cs) (hl : cs.length = s) :
    (loadVar t ⟨b, off, none⟩).run P w = .ok (.agg cs.toArray) w := by
  have h1 : (loadCells ⟨b, off, none⟩ cs.length).run P w = .ok cs.toArray w := run_loadCells_list w _ cs fun j v hj => by
    rw [Addr.add_lit, cell_at hb]
    subst hv
    rw [List.getElem?_take] at hj
    split at hj
    · simpa using hj
    · cases hj
  rw [hl] at h1
  simp [loadVar, run_isAgg_t h, run_size_agg h, h1]
theorem q_load {t b off : Nat} {x : Operand} {e : TypeId} {l : List Value} {R : List SP} {v : Value} [ht : TCell P t] (hx : ev K x = some (.pointer (some ⟨b, off, none⟩))) (hh : Has L (cells b e l) R) (hv : l[off]? = some v) :
    QOp P w0 n (.load t x) K L v := fun d ty pos af g a w f c => by
  simp [execOp, f.eval hx, Instr.loadAt, Instr.sureAddr, run_loadVar_cell ht.ok (c.row hh) hv]
theorem q_load_agg {t s b off : Nat} {x : Operand} {e : TypeId} {l cs : List Value} {R : List SP} [ht : TAgg P t s] (hx : ev K x = some (.pointer (some ⟨b, off, none⟩))) (hh : Has L (cells b e l) R)
    (hv : vals l off s = some cs) : QOp P w0 n (.load t x) K L (.agg cs.toArray) := fun d ty pos af g a w f c => by
  simp [execOp, f.eval hx, Instr.loadAt, Instr.sureAddr, run_loadVar_agg ht.ok (c.row hh) (vals_is hv).1 (vals_is hv).2]

/-! whole numbers -/
theorem q_add {x y : Operand} {t t' : TypeId} {k : IntKind} {a b : Int} (hx : ev K x = some (.int k a)) (hy : ev K y = some (.int k b)) : QOp P w0 n (.binOp .add t x y t') K L (.int k (k.wrap (a + b))) := fun d ty pos af g ac w f c => by
  simp [execOp, f.eval hx, f.eval hy, eqGuard_add, binOp_add, Op.intArith]
theorem q_sub {x y : Operand} {t t' : TypeId} {k : IntKind} {a b : Int} (hx : ev K x = some (.int k a)) (hy : ev K y = some (.int k b)) : QOp P w0 n (.binOp .sub t x y t') K L (.int k (k.wrap (a - b))) := fun d ty pos af g ac w f c => by
  simp [execOp, f.eval hx, f.eval hy, eqGuard_sub, binOp_sub, Op.intArith]
theorem q_mul {x y : Operand} {t t' : TypeId} {k : IntKind} {a b : Int} (hx : ev K x = some (.int k a)) (hy : ev K y = some (.int k b)) : QOp P w0 n (.binOp .mul t x y t') K L (.int k (k.wrap (a * b))) := fun d ty pos af g ac w f c => by
  simp [execOp, f.eval hx, f.eval hy, eqGuard_mul, binOp_mul, Op.intArith]
/-- An int that fits. -/
def i64ok (a : Int) : Prop := -9223372036854775808 ≤ a ∧ a ≤ 9223372036854775807
theorem wrap_i64 {a : Int} (h : i64ok a) : IntKind.i64.wrap a = a := by
  exact IntWalk.i64_in a h
theorem q_add' {x y : Operand} {t t' : TypeId} {a b : Int} (hx : ev K x = some (.int .i64 a)) (hy : ev K y = some (.int .i64 b)) (h : i64ok (a + b)) : QOp P w0 n (.binOp .add t x y t') K L (.int .i64 (a + b)) := by
  have := q_add (P := P) (w0 := w0) (n := n) (L := L) (t := t) (t' := t') hx hy
  rwa [wrap_i64 h] at this
theorem q_sub' {x y : Operand} {t t' : TypeId} {a b : Int} (hx : ev K x = some (.int .i64 a)) (hy : ev K y = some (.int .i64 b)) (h : i64ok (a - b)) : QOp P w0 n (.binOp .sub t x y t') K L (.int .i64 (a - b)) := by
  have := q_sub (P := P) (w0 := w0) (n := n) (L := L) (t := t) (t' := t') hx hy
  rwa [wrap_i64 h] at this

/-! tests of whole numbers: decided, or both ways -/
theorem q_eql {x y : Operand} {t t' : TypeId} {k : IntKind} {a b : Int} (hx : ev K x = some (.int k a)) (hy : ev K y = some (.int k b)) : QOp P w0 n (.binOp .eql t x y t') K L (.bool (a == b)) := fun d ty pos af g ac w f c => by
  simp [execOp, f.eval hx, f.eval hy, eqGuard_at_int, binOp_eql]
theorem q_neq {x y : Operand} {t t' : TypeId} {k : IntKind} {a b : Int} (hx : ev K x = some (.int k a)) (hy : ev K y = some (.int k b)) : QOp P w0 n (.binOp .neq t x y t') K L (.bool (a != b)) := fun d ty pos af g ac w f c => by
  simp [execOp, f.eval hx, f.eval hy, eqGuard_at_int, binOp_neq]
theorem q_lss {x y : Operand} {t t' : TypeId} {k : IntKind} {a b : Int} (hx : ev K x = some (.int k a)) (hy : ev K y = some (.int k b)) : QOp P w0 n (.binOp .lss t x y t') K L (.bool (decide (a < b))) := fun d ty pos af g ac w f c => by
  simp [execOp, f.eval hx, f.eval hy, eqGuard_at_int, binOp_lss]
theorem q_leq {x y : Operand} {t t' : TypeId} {k : IntKind} {a b : Int} (hx : ev K x = some (.int k a)) (hy : ev K y = some (.int k b)) : QOp P w0 n (.binOp .leq t x y t') K L (.bool (decide (a ≤ b))) := fun d ty pos af g ac w f c => by
  simp [execOp, f.eval hx, f.eval hy, eqGuard_at_int, binOp_leq]
theorem q_gtr {x y : Operand} {t t' : TypeId} {k : IntKind} {a b : Int} (hx : ev K x = some (.int k a)) (hy : ev K y = some (.int k b)) : QOp P w0 n (.binOp .gtr t x y t') K L (.bool (decide (b < a))) := fun d ty pos af g ac w f c => by
  simp [execOp, f.eval hx, f.eval hy, eqGuard_at_int, binOp_gtr]
theorem q_geq {x y : Operand} {t t' : TypeId} {k : IntKind} {a b : Int} (hx : ev K x = some (.int k a)) (hy : ev K y = some (.int k b)) : QOp P w0 n (.binOp .geq t x y t') K L (.bool (decide (b ≤ a))) := fun d ty pos af g ac w f c => by
  simp [execOp, f.eval hx, f.eval hy, eqGuard_at_int, binOp_geq]
/-- What a test tells: p, just if it yields true. -/
structure Tst (P : Program) (w0 : World) (n : Nat) (op : Op) (K : Ks) (L : List SP) (p : Prop) : Prop where
  ex : ∃ b : Bool, QOp P w0 n op K L (.bool b) ∧ (b = true ↔ p)
theorem t_eql {x y : Operand} {t t' : TypeId} {k : IntKind} {a b : Int} (hx : ev K x = some (.int k a)) (hy : ev K y = some (.int k b)) : Tst P w0 n (.binOp .eql t x y t') K L (a = b) := ⟨_, q_eql hx hy, by simp⟩
theorem t_neq {x y : Operand} {t t' : TypeId} {k : IntKind} {a b : Int} (hx : ev K x = some (.int k a)) (hy : ev K y = some (.int k b)) : Tst P w0 n (.binOp .neq t x y t') K L (¬ a = b) := ⟨_, q_neq hx hy, by simp⟩
theorem t_lss {x y : Operand} {t t' : TypeId} {k : IntKind} {a b : Int} (hx : ev K x = some (.int k a)) (hy : ev K y = some (.int k b)) : Tst P w0 n (.binOp .lss t x y t') K L (a < b) := ⟨_, q_lss hx hy, by simp⟩
theorem t_leq {x y : Operand} {t t' : TypeId} {k : IntKind} {a b : Int} (hx : ev K x = some (.int k a)) (hy : ev K y = some (.int k b)) : Tst P w0 n (.binOp .leq t x y t') K L (a ≤ b) := ⟨_, q_leq hx hy, by simp⟩
theorem t_gtr {x y : Operand} {t t' : TypeId} {k : IntKind} {a b : Int} (hx : ev K x = some (.int k a)) (hy : ev K y = some (.int k b)) : Tst P w0 n (.binOp .gtr t x y t') K L (b < a) := ⟨_, q_gtr hx hy, by simp⟩
theorem t_geq {x y : Operand} {t t' : TypeId} {k : IntKind} {a b : Int} (hx : ev K x = some (.int k a)) (hy : ev K y = some (.int k b)) : Tst P w0 n (.binOp .geq t x y t') K L (b ≤ a) := ⟨_, q_geq hx hy, by simp⟩
/-! strings -/
theorem bytes_inj {s t : ByteArray} : s.toList = t.toList ↔ s = t := by
  rw [ByteArray.toList_eq, ByteArray.toList_eq]
  constructor
  · intro h; cases s; cases t; congr 1; exact Array.ext' h
  · rintro rfl; rfl
theorem t_eql_s {x y : Operand} {t t' : TypeId} {a b : ByteArray} (hx : ev K x = some (.string a)) (hy : ev K y = some (.string b)) : Tst P w0 n (.binOp .eql t x y t') K L (a = b) :=
  ⟨a.toList == b.toList, fun d ty pos af g ac w f c => by simp [execOp, f.eval hx, f.eval hy, eqGuard_at_string, binOp, Op.stringOp], by simp [bytes_inj]⟩
theorem t_neq_s {x y : Operand} {t t' : TypeId} {a b : ByteArray} (hx : ev K x = some (.string a)) (hy : ev K y = some (.string b)) : Tst P w0 n (.binOp .neq t x y t') K L (¬ a = b) :=
  ⟨!(a.toList == b.toList), fun d ty pos af g ac w f c => by simp [execOp, f.eval hx, f.eval hy, eqGuard_at_string, binOp, Op.stringOp], by simp [bytes_inj]⟩
def sless (a b : ByteArray) : Bool := Op.bytesLess a.toList b.toList
theorem t_lss_s {x y : Operand} {t t' : TypeId} {a b : ByteArray} (hx : ev K x = some (.string a)) (hy : ev K y = some (.string b)) : Tst P w0 n (.binOp .lss t x y t') K L (sless a b = true) :=
  ⟨sless a b, fun d ty pos af g ac w f c => by simp [execOp, f.eval hx, f.eval hy, eqGuard_lss, binOp, Op.stringOp, sless], by simp⟩
theorem t_leq_s {x y : Operand} {t t' : TypeId} {a b : ByteArray} (hx : ev K x = some (.string a)) (hy : ev K y = some (.string b)) : Tst P w0 n (.binOp .leq t x y t') K L (sless a b = true ∨ a = b) :=
  ⟨sless a b || a.toList == b.toList, fun d ty pos af g ac w f c => by simp [execOp, f.eval hx, f.eval hy, eqGuard_leq, binOp, Op.stringOp, sless], by simp [bytes_inj]⟩
theorem t_gtr_s {x y : Operand} {t t' : TypeId} {a b : ByteArray} (hx : ev K x = some (.string a)) (hy : ev K y = some (.string b)) : Tst P w0 n (.binOp .gtr t x y t') K L (¬ (sless a b = true ∨ a = b)) :=
  ⟨!(sless a b || a.toList == b.toList), fun d ty pos af g ac w f c => by simp [execOp, f.eval hx, f.eval hy, eqGuard_gtr, binOp, Op.stringOp, sless], by simp [bytes_inj]⟩
theorem t_geq_s {x y : Operand} {t t' : TypeId} {a b : ByteArray} (hx : ev K x = some (.string a)) (hy : ev K y = some (.string b)) : Tst P w0 n (.binOp .geq t x y t') K L (¬ sless a b = true) :=
  ⟨!sless a b, fun d ty pos af g ac w f c => by simp [execOp, f.eval hx, f.eval hy, eqGuard_geq, binOp, Op.stringOp, sless], by simp⟩
theorem q_add_s {x y : Operand} {t t' : TypeId} {a b : ByteArray} (hx : ev K x = some (.string a)) (hy : ev K y = some (.string b)) (h : a.size + b.size ≤ 9223372036854775807) : QOp P w0 n (.binOp .add t x y t') K L (.string (a ++ b)) := fun d ty pos af g ac w f c => by
  have : ¬ ((a.size + b.size : Nat) : Int) > IntKind.i64.max := by rw [IntKind.max_i64]; omega
  simp only [execOp, f.eval hx, f.eval hy, eqGuard_add, binOp, Op.stringOp, if_neg this]
  simp
/-! equality by the type's shape -/
theorem run_equal (w : World) {t : TypeId} {x y : Value} {b : Bool} (h : ∀ d, (Op.equalIn (d + 1) t x y).run P w = .ok b w) : (Op.equal t x y).run P w = .ok b w := h 9999
theorem run_equalIn_bool (w : World) {t : TypeId} {a b : Bool} (hu : P.underlying t = some .bool) (d : Nat) : (Op.equalIn (d + 1) t (.bool a) (.bool b)).run P w = .ok (a == b) w := by
  simp [Op.equalIn, run_underlying hu]
theorem run_equalIn_pn (w : World) {t e : TypeId} {p : Option Addr} (hu : P.underlying t = some (.pointer e)) (d : Nat) : (Op.equalIn (d + 1) t (.pointer p) (.pointer none)).run P w = .ok p.isNone w := by
  cases p <;> simp [Op.equalIn, run_underlying hu]
theorem t_eql_b {x y : Operand} {t t' : TypeId} {a b : Bool} [hu : TUnd P t .bool] (hx : ev K x = some (.bool a)) (hy : ev K y = some (.bool b)) : Tst P w0 n (.binOp .eql t x y t') K L (a = b) :=
  ⟨a == b, fun d ty pos af g ac w f c => by
    have h := run_equal w (run_equalIn_bool (P := P) (a := a) (b := b) w hu.ok)
    simp [execOp, f.eval hx, f.eval hy, eqGuard_at_bool, binOp, h], by simp⟩
theorem t_neq_b {x y : Operand} {t t' : TypeId} {a b : Bool} [hu : TUnd P t .bool] (hx : ev K x = some (.bool a)) (hy : ev K y = some (.bool b)) : Tst P w0 n (.binOp .neq t x y t') K L (¬ a = b) :=
  ⟨!(a == b), fun d ty pos af g ac w f c => by
    have h := run_equal w (run_equalIn_bool (P := P) (a := a) (b := b) w hu.ok)
    simp [execOp, f.eval hx, f.eval hy, eqGuard_at_bool, binOp, h], by simp⟩
/-! pointers against nil -/
theorem q_eql_pn {x y : Operand} {t t' e : TypeId} {p : Option Addr} [hu : TUnd P t (.pointer e)] (hx : ev K x = some (.pointer p)) (hy : ev K y = some (.pointer none)) : QOp P w0 n (.binOp .eql t x y t') K L (.bool p.isNone) :=
  fun d ty pos af g ac w f c => by
    have h := run_equal w (run_equalIn_pn (P := P) (p := p) w hu.ok)
    simp [execOp, f.eval hx, f.eval hy, eqGuard_at_pointer, binOp, h]
theorem q_neq_pn {x y : Operand} {t t' e : TypeId} {p : Option Addr} [hu : TUnd P t (.pointer e)] (hx : ev K x = some (.pointer p)) (hy : ev K y = some (.pointer none)) : QOp P w0 n (.binOp .neq t x y t') K L (.bool p.isSome) :=
  fun d ty pos af g ac w f c => by
    have h := run_equal w (run_equalIn_pn (P := P) (p := p) w hu.ok)
    cases p <;> simp [execOp, f.eval hx, f.eval hy, eqGuard_at_pointer, binOp, h]
/-! lengths -/
theorem q_len {x : Operand} {t e : TypeId} {a : Option Addr} {k c : Nat} [hu : TUnd P t (.slice e)] (hx : ev K x = some (.slice a k c)) : QOp P w0 n (.call ⟨.builtin .len, #[x], #[t]⟩) K L (.int .i64 (k : Nat)) :=
  fun d ty pos af g ac w f cl => by simp [execOp, resolve, invoke, builtin, f.eval hx, Builtin.len_, run_underlying hu.ok, goInt]
theorem q_len_s {x : Operand} {t : TypeId} {s : ByteArray} [hu : TUnd P t .string] (hx : ev K x = some (.string s)) : QOp P w0 n (.call ⟨.builtin .len, #[x], #[t]⟩) K L (.int .i64 (s.size : Nat)) :=
  fun d ty pos af g ac w f cl => by simp [execOp, resolve, invoke, builtin, f.eval hx, Builtin.len_, run_underlying hu.ok, goInt]
/-! a byte of a string -/
theorem q_index_s {x y : Operand} {t : TypeId} {s : ByteArray} {k : IntKind} {i : Int} [hu : TUnd P t .string] (hx : ev K x = some (.string s)) (hy : ev K y = some (.int k i)) (h0 : 0 ≤ i) (h1 : i.toNat < s.size) :
    QOp P w0 n (.index t x y) K L (.int .u8 ((s[i.toNat]'h1).toNat : Nat)) :=
  fun d ty pos af g ac w f cl => by
    have : s[i.toNat]? = some (s[i.toNat]'h1) := getElem?_pos s i.toNat h1
    simp [execOp, f.eval hx, f.eval hy, Instr.index, asIntOf, run_underlying hu.ok, h0, this]

/-! ### 3. Steps that test -/
variable {m : Bool} {ops : Array Oper} {rest : List Oper} {ty : TypeId} {pos : String} {af : Array Edge} {d : Nat} {op : Op} {p : Prop}
theorem m_true (hd : Nat.ble (d + 1) n = true) (h : Tst P w0 n op K L p) (hp : p) (hr : RunM P w0 n m ops rest ((d, .bool true) :: K) L Q) : RunM P w0 n m ops (⟨some d, op, ty, pos, af, none⟩ :: rest) K L Q := by
  obtain ⟨b, hq, hb⟩ := h.ex
  obtain rfl := hb.2 hp
  exact runM_q hd hq hr
theorem m_false (hd : Nat.ble (d + 1) n = true) (h : Tst P w0 n op K L p) (hp : ¬ p) (hr : RunM P w0 n m ops rest ((d, .bool false) :: K) L Q) : RunM P w0 n m ops (⟨some d, op, ty, pos, af, none⟩ :: rest) K L Q := by
  obtain ⟨b, hq, hb⟩ := h.ex
  have : b = false := by cases b; rfl; exact absurd (hb.1 rfl) hp
  subst this
  exact runM_q hd hq hr
theorem m_both (hd : Nat.ble (d + 1) n = true) (h : Tst P w0 n op K L p) (ht : p → RunM P w0 n m ops rest ((d, .bool true) :: K) L Q) (hf : ¬ p → RunM P w0 n m ops rest ((d, .bool false) :: K) L Q) :
    RunM P w0 n m ops (⟨some d, op, ty, pos, af, none⟩ :: rest) K L Q := by
  by_cases hp : p
  · exact m_true hd h hp (ht hp)
  · exact m_false hd h hp (hf hp)
end
end Go.Sl
