/- api.Value compared; as a map's key. Conditions: none. -/
import Derived.Test.YtajekiiabkaflaaHe1
set_option linter.unusedVariables false
set_option linter.unusedSimpArgs false
namespace Go.Sl
open Go.Proofs
theorem va_stood : Try.prog.stoodInHeld 32 = false := by kernel_rfl
theorem va_guard : Try.prog.eqGuardType Try.prog.depth 32 = false := by kernel_rfl
theorem va_fields : ∃ f0 f1 f2 : Field, Try.prog.underlying 32 = some (.struct #[f0, f1, f2]) ∧ (f0.name = "Kind" ∧ f0.offset = 0 ∧ f0.type = 3) ∧ (f1.name = "N" ∧ f1.offset = 1 ∧ f1.type = 2) ∧ (f2.name = "S" ∧ f2.offset = 2 ∧ f2.type = 9) := by
  refine ⟨_, _, _, Try.underlying32, ⟨?_, ?_, ?_⟩, ⟨?_, ?_, ?_⟩, ⟨?_, ?_, ?_⟩⟩ <;> rfl
theorem part_cell {P : Program} {w : World} {t off : Nat} {cs : Array Value} {v : Value} (ht : tcellB P t = true) (hv : cs[off]? = some v) : (part t cs off).run P w = .ok v w := by
  simp only [part, Sem.run_bind, run_isAgg_f ht, Result.andThen_ok, Bool.false_eq_true, if_false, hv, Sem.run_pure]
theorem equalIn_int {P : Program} {w : World} {t : TypeId} {k : IntKind} {a b : Int} (hu : P.underlying t = some (.int k)) (d : Nat) : (Op.equalIn (d + 1) t (.int k a) (.int k b)).run P w = .ok (a == b) w := by
  unfold Op.equalIn
  rw [Sem.run_bind, run_underlying hu, Result.andThen_ok]
  simp
theorem equalIn_str {P : Program} {w : World} {t : TypeId} {a b : ByteArray} (hu : P.underlying t = some .string) (d : Nat) : (Op.equalIn (d + 1) t (.string a) (.string b)).run P w = .ok (a == b) w := by
  unfold Op.equalIn
  rw [Sem.run_bind, run_underlying hu, Result.andThen_ok]
  rfl
theorem va_equal (w : World) (x y : V) : (Op.equal 32 x.v y.v).run Try.prog w = .ok (decide (x = y)) w := by
  obtain ⟨f0, f1, f2, hu, ⟨n0, o0, t0⟩, ⟨n1, o1, t1⟩, ⟨n2, o2, t2⟩⟩ := va_fields
  show (Op.equalIn (9998 + 1 + 1) 32 x.v y.v).run Try.prog w = _
  generalize 9998 = d
  have e0 := equalIn_int (P := Try.prog) (w := w) (a := x.k) (b := y.k) (TUnd.ok (P := Try.prog) (t := 3)) d
  have e1 := equalIn_int (P := Try.prog) (w := w) (a := x.n) (b := y.n) (TUnd.ok (P := Try.prog) (t := 2)) d
  have e2 := equalIn_str (P := Try.prog) (w := w) (a := x.s) (b := y.s) (TUnd.ok (P := Try.prog) (t := 9)) d
  have p0 : ∀ z : V, (part 3 #[.int .i64 z.k, .int .i64 z.n, .string z.s] 0).run Try.prog w = .ok (.int .i64 z.k) w := fun z => part_cell (TCell.ok (P := Try.prog)) rfl
  have p1 : ∀ z : V, (part 2 #[.int .i64 z.k, .int .i64 z.n, .string z.s] 1).run Try.prog w = .ok (.int .i64 z.n) w := fun z => part_cell (TCell.ok (P := Try.prog)) rfl
  have p2 : ∀ z : V, (part 9 #[.int .i64 z.k, .int .i64 z.n, .string z.s] 2).run Try.prog w = .ok (.string z.s) w := fun z => part_cell (TCell.ok (P := Try.prog)) rfl
  unfold Op.equalIn
  rw [Sem.run_bind, run_underlying hu, Result.andThen_ok]
  have h01 : ("Kind" : String) ≠ "_" := by decide
  have h02 : ("N" : String) ≠ "_" := by decide
  have h03 : ("S" : String) ≠ "_" := by decide
  simp only [V.v, Sem.run_bind, run_program, Result.andThen_ok, va_stood, Bool.false_eq_true, if_false]
  simp [n0, o0, t0, n1, o1, t1, n2, o2, t2, p0, p1, p2, e0, e1, e2, ba_beq]
  cases x with | mk k n s => cases y with | mk k' n' s' =>
  by_cases h1 : k = k' <;> by_cases h2 : n = n' <;> by_cases h3 : s = s' <;> simp [h1, h2, h3]
theorem va_check (w : World) (b : Bool) (x : V) : (Instr.checkKey b 10000 32 x.v).run Try.prog w = .ok () w := by
  obtain ⟨f0, f1, f2, hu, ⟨n0, o0, t0⟩, ⟨n1, o1, t1⟩, ⟨n2, o2, t2⟩⟩ := va_fields
  show (Instr.checkKey b (9998 + 1 + 1) 32 x.v).run Try.prog w = _
  generalize 9998 = d
  have c0 : (Instr.checkKey b (d + 1) 3 (.int .i64 x.k)).run Try.prog w = .ok () w := by
    unfold Instr.checkKey
    rw [Sem.run_bind, run_underlying (TUnd.ok (P := Try.prog) (t := 3)), Result.andThen_ok]; rfl
  have c1 : (Instr.checkKey b (d + 1) 2 (.int .i64 x.n)).run Try.prog w = .ok () w := by
    unfold Instr.checkKey
    rw [Sem.run_bind, run_underlying (TUnd.ok (P := Try.prog) (t := 2)), Result.andThen_ok]; rfl
  have c2 : (Instr.checkKey b (d + 1) 9 (.string x.s)).run Try.prog w = .ok () w := by
    unfold Instr.checkKey
    rw [Sem.run_bind, run_underlying (TUnd.ok (P := Try.prog) (t := 9)), Result.andThen_ok]; rfl
  have p0 : ∀ z : V, (part 3 #[.int .i64 z.k, .int .i64 z.n, .string z.s] 0).run Try.prog w = .ok (.int .i64 z.k) w := fun z => part_cell (TCell.ok (P := Try.prog)) rfl
  have p1 : ∀ z : V, (part 2 #[.int .i64 z.k, .int .i64 z.n, .string z.s] 1).run Try.prog w = .ok (.int .i64 z.n) w := fun z => part_cell (TCell.ok (P := Try.prog)) rfl
  have p2 : ∀ z : V, (part 9 #[.int .i64 z.k, .int .i64 z.n, .string z.s] 2).run Try.prog w = .ok (.string z.s) w := fun z => part_cell (TCell.ok (P := Try.prog)) rfl
  unfold Instr.checkKey
  rw [Sem.run_bind, run_underlying hu, Result.andThen_ok]
  have h01 : ("Kind" : String) ≠ "_" := by decide
  have h02 : ("N" : String) ≠ "_" := by decide
  have h03 : ("S" : String) ≠ "_" := by decide
  simp [V.v, n0, o0, t0, n1, o1, t1, n2, o2, t2, p0, p1, p2, c0, c1, c2]
theorem va_bits (x : V) : Instr.sameBits 10000 x.v x.v = true := by
  show Instr.sameBits (9998 + 1 + 1) x.v x.v = true
  generalize 9998 = d
  simp [V.v, Instr.sameBits, ba_beq]
instance : KeyOK Try.prog 32 V.v := by
  obtain ⟨f0, f1, f2, hu, _⟩ := va_fields
  exact keyOK_struct hu va_equal va_check va_bits
/-! ### '==' on values -/
section
variable {w0 : World} {n : Nat} {K : Ks} {L : List SP}
attribute [local semireducible] QOp
theorem t_eql_v {x y : Operand} {t' : TypeId} {k k' i i' : Int} {s s' : ByteArray} (hx : ev K x = some (.agg #[.int .i64 k, .int .i64 i, .string s])) (hy : ev K y = some (.agg #[.int .i64 k', .int .i64 i', .string s'])) : Tst Try.prog w0 n (.binOp .eql 32 x y t') K L ((⟨k, i, s⟩ : V) = ⟨k', i', s'⟩) :=
  ⟨decide ((⟨k, i, s⟩ : V) = ⟨k', i', s'⟩), fun d ty pos af g ac w f c => by
    have h := va_equal w ⟨k, i, s⟩ ⟨k', i', s'⟩
    have hg : (eqGuard .eql 32 x y (V.v ⟨k, i, s⟩) (V.v ⟨k', i', s'⟩)).run Try.prog w = .ok () w := by
      unfold eqGuard
      simp [V.v, va_guard]
    have hb : binOp .eql 32 (V.v ⟨k, i, s⟩) (V.v ⟨k', i', s'⟩) = (do pure (.bool (← Op.equal 32 (V.v ⟨k, i, s⟩) (V.v ⟨k', i', s'⟩)))) := rfl
    simp only [execOp, f.eval hx, f.eval hy, Sem.run_bind, hg, Result.andThen_ok, hb, h, Sem.run_pure], by simp⟩
theorem t_neq_v {x y : Operand} {t' : TypeId} {k k' i i' : Int} {s s' : ByteArray} (hx : ev K x = some (.agg #[.int .i64 k, .int .i64 i, .string s])) (hy : ev K y = some (.agg #[.int .i64 k', .int .i64 i', .string s'])) : Tst Try.prog w0 n (.binOp .neq 32 x y t') K L (¬ (⟨k, i, s⟩ : V) = ⟨k', i', s'⟩) :=
  ⟨!decide ((⟨k, i, s⟩ : V) = ⟨k', i', s'⟩), fun d ty pos af g ac w f c => by
    have h := va_equal w ⟨k, i, s⟩ ⟨k', i', s'⟩
    have hg : (eqGuard .neq 32 x y (V.v ⟨k, i, s⟩) (V.v ⟨k', i', s'⟩)).run Try.prog w = .ok () w := by
      unfold eqGuard
      simp [V.v, va_guard]
    have hb : binOp .neq 32 (V.v ⟨k, i, s⟩) (V.v ⟨k', i', s'⟩) = (do pure (.bool (!(← Op.equal 32 (V.v ⟨k, i, s⟩) (V.v ⟨k', i', s'⟩))))) := rfl
    simp only [execOp, f.eval hx, f.eval hy, Sem.run_bind, hg, Result.andThen_ok, hb, h, Sem.run_pure], by simp only [Bool.not_eq_true', decide_eq_false_iff_not]⟩
end
end Go.Sl
