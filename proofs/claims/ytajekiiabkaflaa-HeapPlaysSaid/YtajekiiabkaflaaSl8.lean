/-
  Interfaces over plain types; conversions of numbers; slicing. Program-independent. Conditions: none.
-/
import Derived.Test.YtajekiiabkaflaaSl7
set_option linter.unusedVariables false
set_option linter.unusedSimpArgs false
set_option linter.unusedSectionVars false
namespace Go.Sl
attribute [local semireducible] Run Out RunM QOp
theorem ba_beq (a b : ByteArray) : (a == b) = decide (a = b) := by
  cases a with | mk x => cases b with | mk y =>
  have : ((⟨x⟩ : ByteArray) == ⟨y⟩) = (x == y) := rfl
  rw [this]
  by_cases h : x = y <;> simp [h]
def isIface : TypeDesc → Bool
  | .interface _ => true
  | _ => false
section
variable {P : Program} {w0 : World} {n : Nat} {K : Ks} {L : List SP}
theorem q_makeInterface {t : TypeId} {td : TypeDesc} {x : Operand} {v : Value} [hu : TUnd P t td] (hx : ev K x = some v) (hd : isIface td = false) : QOp P w0 n (.makeInterface t x) K L (.iface t v) := fun d ty pos af g a w f c => by
  have : (Instr.makeInterface t v).run P w = .ok (.iface t v) w := by
    unfold Instr.makeInterface
    rw [Sem.run_bind, run_underlying hu.ok, Result.andThen_ok]
    cases td <;> first | rfl | cases hd
  simp [execOp, f.eval hx, this]
theorem run_equalIn_in (w : World) {t : TypeId} {v : Value} {ms : Array (String × TypeId)} (hu : P.underlying t = some (.interface ms)) (hv : v = .nilIface ∨ ∃ s u, v = .iface s u) (d : Nat) :
    (Op.equalIn (d + 1) t v .nilIface).run P w = .ok (match v with | .nilIface => true | _ => false) w := by
  rcases hv with rfl | ⟨s, u, rfl⟩ <;> simp [Op.equalIn, run_underlying hu]
theorem q_neq_in {t t' s : TypeId} {x : Operand} {u : Value} {ms : Array (String × TypeId)} [hu : TUnd P t (.interface ms)] (hx : ev K x = some (.iface s u)) : QOp P w0 n (.binOp .neq t x (.const .nilIface) t') K L (.bool true) := fun d ty pos af g a w f c => by
  have h := run_equal w (run_equalIn_in (P := P) (v := .iface s u) w hu.ok (.inr ⟨_, _, rfl⟩))
  have hc : a.eval (.const .nilIface) = .nilIface := rfl
  simp [execOp, f.eval hx, hc, eqGuard_at_iface, binOp, h]
theorem q_neq_nn {t t' : TypeId} {x : Operand} {ms : Array (String × TypeId)} [hu : TUnd P t (.interface ms)] (hx : ev K x = some .nilIface) : QOp P w0 n (.binOp .neq t x (.const .nilIface) t') K L (.bool false) := fun d ty pos af g a w f c => by
  have h := run_equal w (run_equalIn_in (P := P) (v := .nilIface) w hu.ok (.inl rfl))
  have hc : a.eval (.const .nilIface) = .nilIface := rfl
  have he : eqGuard .neq t x (.const .nilIface) .nilIface .nilIface = pure () := by cases x <;> rfl
  simp [execOp, f.eval hx, hc, he, binOp, h]
theorem q_assert_y {t u : TypeId} {td : TypeDesc} {x : Operand} {v : Value} [hu : TUnd P u td] (hx : ev K x = some (.iface u v)) (hd : td = .string ∨ ∃ k, td = .int k) : QOp P w0 n (.typeAssert x t u true) K L (.tuple #[v, .bool true]) := fun d ty pos af g a w f c => by
  have : (Instr.typeAssert (.iface u v) t u true).run P w = .ok (.tuple #[v, .bool true]) w := by
    unfold Instr.typeAssert
    rw [Sem.run_bind, run_underlying hu.ok, Result.andThen_ok]
    rcases hd with rfl | ⟨k, rfl⟩
    · show Sem.run P (ite (u = u) _ _) w = _
      rw [if_pos rfl]; rfl
    · show Sem.run P (ite (u = u) _ _) w = _
      rw [if_pos rfl]; rfl
  simp [execOp, f.eval hx, this]
theorem q_assert_n {t u s : TypeId} {td : TypeDesc} {x : Operand} {v z : Value} [hu : TUnd P u td] [hz : TVal P u z] (hx : ev K x = some (.iface s v)) (hs : Nat.beq s u = false) (hd : td = .string ∨ ∃ k, td = .int k) : QOp P w0 n (.typeAssert x t u true) K L (.tuple #[z, .bool false]) := fun d ty pos af g a w f c => by
  have hne : s ≠ u := fun e => by subst e; simp at hs
  have : (Instr.typeAssert (.iface s v) t u true).run P w = .ok (.tuple #[z, .bool false]) w := by
    unfold Instr.typeAssert
    rw [Sem.run_bind, run_underlying hu.ok, Result.andThen_ok]
    rcases hd with rfl | ⟨k, rfl⟩
    · show Sem.run P (ite (s = u) _ _) w = _
      rw [if_neg hne]
      show Sem.run P (do pure (Value.tuple #[← zeroValue u, Value.bool false])) w = _
      rw [Sem.run_bind, zeroValue_run hz.ok]; rfl
    · show Sem.run P (ite (s = u) _ _) w = _
      rw [if_neg hne]
      show Sem.run P (do pure (Value.tuple #[← zeroValue u, Value.bool false])) w = _
      rw [Sem.run_bind, zeroValue_run hz.ok]; rfl
  simp [execOp, f.eval hx, this]
theorem q_assert_nil {t u : TypeId} {td : TypeDesc} {x : Operand} {z : Value} [hu : TUnd P u td] [hz : TVal P u z] (hx : ev K x = some .nilIface) (hd : td = .string ∨ ∃ k, td = .int k) : QOp P w0 n (.typeAssert x t u true) K L (.tuple #[z, .bool false]) := fun d ty pos af g a w f c => by
  have : (Instr.typeAssert .nilIface t u true).run P w = .ok (.tuple #[z, .bool false]) w := by
    unfold Instr.typeAssert
    rw [Sem.run_bind, run_underlying hu.ok, Result.andThen_ok]
    rcases hd with rfl | ⟨k, rfl⟩
    · show Sem.run P (do pure (Value.tuple #[← zeroValue u, Value.bool false])) w = _
      rw [Sem.run_bind, zeroValue_run hz.ok]; rfl
    · show Sem.run P (do pure (Value.tuple #[← zeroValue u, Value.bool false])) w = _
      rw [Sem.run_bind, zeroValue_run hz.ok]; rfl
  simp [execOp, f.eval hx, this]
/-! conversions between whole numbers -/
theorem q_conv {s t : TypeId} {k k' : IntKind} {x : Operand} {i : Int} [hs : TUnd P s (.int k')] [hu : TUnd P t (.int k)] (hx : ev K x = some (.int k' i)) : QOp P w0 n (.convert s t x) K L (.int k (k.wrap i)) := fun d ty pos af g a w f c => by
  simp [execOp, f.eval hx, convert, run_underlying hs.ok, run_underlying hu.ok, Conv.intToInt]
/-! slices of strings -/
theorem run_sliceBound (w : World) {k : IntKind} {i : Int} {y : Nat} {c : BoundsCode} (h : 0 ≤ i ∧ i ≤ y) : (Instr.sliceBound (.int k i) y c).run P w = .ok i.toNat w := by
  simp [Instr.sliceBound, asIntOf, h]
theorem q_slice_s {t : TypeId} {x y z : Operand} {k k' : IntKind} {s : ByteArray} {i j : Int} [hu : TUnd P t .string] (hx : ev K x = some (.string s)) (hy : ev K y = some (.int k i)) (hz : ev K z = some (.int k' j)) (h : 0 ≤ i ∧ i ≤ j ∧ j ≤ s.size) :
    QOp P w0 n (.slice t x (some y) (some z) none) K L (.string (s.extract i.toNat j.toNat)) := fun d ty pos af g a w f c => by
  have h1 := run_sliceBound (P := P) w (k := k') (i := j) (y := s.size) (c := .sliceAlen) (by omega)
  have h2 := run_sliceBound (P := P) w (k := k) (i := i) (y := j.toNat) (c := .sliceB) (by omega)
  simp [execOp, f.eval hx, f.eval hy, f.eval hz, Instr.sliceAt, Instr.slice, Instr.sliceBounds, run_underlying hu.ok, h1, h2]
theorem q_slice_s0 {t : TypeId} {x z : Operand} {k' : IntKind} {s : ByteArray} {j : Int} [hu : TUnd P t .string] (hx : ev K x = some (.string s)) (hz : ev K z = some (.int k' j)) (h : 0 ≤ j ∧ j ≤ s.size) :
    QOp P w0 n (.slice t x none (some z) none) K L (.string (s.extract 0 j.toNat)) := fun d ty pos af g a w f c => by
  have h1 := run_sliceBound (P := P) w (k := k') (i := j) (y := s.size) (c := .sliceAlen) (by omega)
  simp [execOp, f.eval hx, f.eval hz, Instr.sliceAt, Instr.slice, Instr.sliceBounds, run_underlying hu.ok, h1]
theorem q_slice_s1 {t : TypeId} {x y : Operand} {k : IntKind} {s : ByteArray} {i : Int} [hu : TUnd P t .string] (hx : ev K x = some (.string s)) (hy : ev K y = some (.int k i)) (h : 0 ≤ i ∧ i ≤ s.size) :
    QOp P w0 n (.slice t x (some y) none none) K L (.string (s.extract i.toNat s.size)) := fun d ty pos af g a w f c => by
  have h2 := run_sliceBound (P := P) w (k := k) (i := i) (y := s.size) (c := .sliceB) (by omega)
  simp [execOp, f.eval hx, f.eval hy, Instr.sliceAt, Instr.slice, Instr.sliceBounds, run_underlying hu.ok, h2]
end
end Go.Sl
