/-
  Slices cut anew, and copied within themselves. Program-independent. Conditions: none.
-/
import Derived.Laws.CopyRow
import Derived.Test.YtajekiiabkaflaaSl11
set_option linter.unusedVariables false
set_option linter.unusedSimpArgs false
set_option linter.unusedSectionVars false
namespace Go.Sl
attribute [local semireducible] Run Out RunM QOp RunD

section
variable {α : Type} {E : Enc α} {P : Program} {w0 : World} {n : Nat} {K : Ks} {L R : List SP} {Q : Qt} {m : Bool} {ops : Array Oper} {rest : List Oper} {ty : TypeId} {pos : String} {af : Array Edge} {d : Nat} {A : Option Addr} {xs : List α} {e cap : Nat}
/-- Where a slice begins that is cut from lo on. -/
def subA (A : Option Addr) (cap sz lo : Nat) : Option Addr := if cap = lo then A else A.map (·.add (lo * sz))
/-- x[lo:]. -/
theorem q_slice_lo {t sz by_ len : Nat} {x y : Operand} {k : IntKind} {i : Int} [ht : TSlice P t e sz by_] (hx : ev K x = some (.slice A len cap)) (hy : ev K y = some (.int k i)) (h0 : 0 ≤ i ∧ i ≤ len) :
    QOp P w0 n (.slice t x (some y) none none) K L (.slice (subA A cap sz i.toNat) (len - i.toNat) (cap - i.toNat)) := fun d ty pos af g a w f c => by
  have hk := ht.ok
  unfold tsliceB at hk
  split at hk
  · rename_i e' hu
    simp only [Bool.and_eq_true, beq_iff_eq] at hk
    obtain ⟨rfl, hk2⟩ := hk
    cases hi : P.info? e' with
    | none => simp [hi] at hk2
    | some inf =>
      have hsz : inf.size = sz ∧ inf.bytes = by_ := by simpa [hi] using hk2
      have h2 := run_sliceBound (P := P) w (k := k) (i := i) (y := len) (c := .sliceB) (by omega)
      simp [execOp, f.eval hx, f.eval hy, Instr.sliceAt, Instr.slice, Instr.sliceBounds, run_underlying hu, sizeOf, typeInfo, hi, hsz.1, h2, subA]
  · cases hk
theorem flat_drop (xs : List α) : ∀ k : Nat, (xs.flatMap E.f).drop (k * E.sz) = (xs.drop k).flatMap E.f := by
  induction xs with
  | nil => intro k; simp
  | cons x xs ih =>
    intro k
    cases k with
    | zero => simp
    | succ k =>
      simp only [List.flatMap_cons, List.drop_succ_cons]
      rw [← ih k, Nat.succ_mul, Nat.add_comm (k * E.sz), ← List.drop_drop, List.drop_left' (E.len x)]
theorem flat_take (xs : List α) : ∀ k : Nat, (xs.flatMap E.f).take (k * E.sz) = (xs.take k).flatMap E.f := by
  induction xs with
  | nil => intro k; simp
  | cons x xs ih =>
    intro k
    cases k with
    | zero => simp
    | succ k =>
      simp only [List.flatMap_cons, List.take_succ_cons]
      rw [← ih k, Nat.succ_mul, Nat.add_comm (k * E.sz), List.take_append, E.len, List.take_of_length_le (by rw [E.len]; omega), Nat.add_sub_cancel_left]
/-- What copy leaves. -/
def copyL (xs : List α) (lo lo' n : Nat) : List α := xs.take lo ++ (xs.drop lo').take n ++ xs.drop (lo + n)
theorem copyL_length (xs : List α) (lo lo' n : Nat) (h1 : lo + n ≤ xs.length) (h2 : lo' + n ≤ xs.length) : (copyL xs lo lo' n).length = xs.length := by
  simp only [copyL, List.length_append, List.length_take, List.length_drop]
  omega
theorem copyL_zero (xs : List α) (lo lo' : Nat) : copyL xs lo lo' 0 = xs := by simp [copyL]
/-- copy(x[lo:], x[lo':]). -/
theorem w_copy_sub {t sz by_ len lo lo' c1 c2 : Nat} {x y : Operand} [ht : TSlice P t e sz by_] (hd : Nat.ble (d + 1) n = true) (hx : ev K x = some (.slice (subA A cap sz lo) (len - lo) c1)) (hy : ev K y = some (.slice (subA A cap sz lo') (len - lo') c2))
    (hh : Has L (sl E e A cap xs) R) (hz : E.sz = sz) (hl : len = xs.length)
    (h : RunM P w0 n false ops rest ((d, .int .i64 (Nat.min (len - lo') (len - lo) : Nat)) :: K) (sl E e A cap (copyL xs lo lo' (Nat.min (len - lo') (len - lo))) :: R) Q) :
    RunM P w0 n false ops (⟨some d, .call ⟨.builtin .copy, #[x, y], #[t, t]⟩, ty, pos, af, none⟩ :: rest) K L Q := by
  subst hz hl
  refine runM_w fun a w f c => ?_
  have hk := ht.ok
  unfold tsliceB at hk
  split at hk
  · rename_i e' hu
    simp only [Bool.and_eq_true, beq_iff_eq] at hk
    obtain ⟨rfl, hk2⟩ := hk
    cases hi : P.info? e' with
    | none => simp [hi] at hk2
    | some inf =>
      have hsz : inf.size = E.sz ∧ inf.bytes = by_ := by simpa [hi] using hk2
      generalize hm : Nat.min (xs.length - lo') (xs.length - lo) = m at h ⊢
      have hm1 : m ≤ xs.length - lo' := by rw [← hm]; exact Nat.min_le_left _ _
      have hm2 : m ≤ xs.length - lo := by rw [← hm]; exact Nat.min_le_right _ _
      rcases Nat.eq_zero_or_pos m with h0 | h0
      · subst h0
        rw [copyL_zero] at h
        have hr : (Builtin.copy_ #[t, t] ty #[.slice (subA A cap E.sz lo) (xs.length - lo) c1, .slice (subA A cap E.sz lo') (xs.length - lo') c2]).run P w = .ok (.int .i64 ((0 : Nat) : Int)) w := by
          cases hA : subA A cap E.sz lo <;> cases hB : subA A cap E.sz lo' <;>
          simp [Builtin.copy_, run_underlying hu, Builtin.lenOf, Builtin.firstCells, sizeOf, typeInfo, hi, hsz.1, hm, loadCells, loadCellsFrom, storeCells, goInt]
        exact ⟨_, w, .inl (by simp [execOp, resolve, invoke, builtin, f.eval hx, f.eval hy, hr]), _, _, f.put hd, ⟨c.env, c.sat.has hh⟩, h⟩
      · obtain ⟨g, sp, rfl, hb, hc1, hc2, hc3⟩ := c.sl hh (by omega)
        have hsub : ∀ k, k < cap → subA (some ⟨g, 0, none⟩) cap E.sz k = some ⟨g, k * E.sz, none⟩ := fun k hk => by
          unfold subA
          rw [if_neg (by omega), Option.map_some, Addr.add_lit, Nat.zero_add]
        rw [hsub lo (by omega)] at hx
        rw [hsub lo' (by omega)] at hy
        let cs := ((xs.drop lo').take m).flatMap E.f
        have hcl : cs.length = m * E.sz := by
          show (((xs.drop lo').take m).flatMap E.f).length = _
          rw [flat_len, List.length_take, List.length_drop, Nat.min_eq_left (by omega)]
        have hcs : cs = ((xs.flatMap E.f ++ sp).drop (lo' * E.sz)).take (m * E.sz) := by
          have h2 := Nat.mul_le_mul_right E.sz (show lo' + m ≤ xs.length by omega)
          rw [Nat.add_mul] at h2
          rw [List.drop_append_of_le_length (by rw [flat_len]; omega), List.take_append_of_le_length (by rw [List.length_drop, flat_len]; omega), flat_drop, flat_take]
        have hsrc : ∀ j v, cs[j]? = some v → w.cell? ((⟨g, lo' * E.sz, none⟩ : Addr).add j) = some v := fun j v hj => by
          rw [Addr.add_lit, cell_at hb]
          rw [hcs, List.getElem?_take] at hj
          split at hj
          · rw [List.getElem?_drop] at hj; simpa using hj
          · cases hj
        have hload := run_loadCells_list (P := P) w _ cs hsrc
        rw [hcl] at hload
        have h1 : ∀ v ∈ cs, v.oneCell' = true := fun v hv => List.all_eq_true.1 (all_flat (E := E) _) v hv
        have hfit : lo * E.sz + m * E.sz ≤ xs.length * E.sz := by
          rw [← Nat.add_mul]; exact Nat.mul_le_mul_right _ (by omega)
        have hst := run_storeCells_at P g (lo * E.sz) e' cs 0 (xs.flatMap E.f ++ sp).toArray w hb (by simp only [List.size_toArray, List.length_append, flat_len]; omega) h1
        have hcells : (xs.flatMap E.f ++ sp).take (lo * E.sz) ++ cs ++ (xs.flatMap E.f ++ sp).drop (lo * E.sz + m * E.sz) = (copyL xs lo lo' m).flatMap E.f ++ sp := by
          unfold copyL
          rw [List.take_append_of_le_length (by rw [flat_len]; omega), List.drop_append_of_le_length (by rw [flat_len]; exact hfit), ← Nat.add_mul, flat_take, flat_drop]
          simp only [List.flatMap_append, List.append_assoc]
          rfl
        rw [Nat.add_zero, hcl] at hst
        simp only [] at hst
        rw [hcells, setRow_is w g _ _ e' hb] at hst
        have hr : (Builtin.copy_ #[t, t] ty #[.slice (some ⟨g, lo * E.sz, none⟩) (xs.length - lo) c1, .slice (some ⟨g, lo' * E.sz, none⟩) (xs.length - lo') c2]).run P w = .ok (.int .i64 (m : Int)) (setObj' w g (.cells ((copyL xs lo lo' m).flatMap E.f ++ sp).toArray e' (0, 0))) := by
          simp [Builtin.copy_, run_underlying hu, Builtin.lenOf, Builtin.firstCells, sizeOf, typeInfo, hi, hsz.1, hm, hload, hst, goInt]
        refine ⟨.int .i64 m, setObj' w g (.cells ((copyL xs lo lo' m).flatMap E.f ++ sp).toArray e' (0, 0)), .inl (by simp only [execOp, resolve, invoke, builtin, List.map_toArray, List.map_cons, List.map_nil, f.eval hx, f.eval hy, Sem.run_bind, Sem.run_pure, Result.andThen_ok, hr]), _, _, f.put hd, ⟨c.env.set g _, ?_⟩, h⟩
        obtain ⟨h1', h2', ha, he, hA, hR⟩ := c.sat.has hh
        have hb1 : h1' g = some (.cells (xs.flatMap E.f ++ sp).toArray e' (0, 0)) := by
          rcases hA with ⟨e0, _⟩ | ⟨g', sp', e1, e2, _⟩
          · cases e0
          · obtain rfl : g = g' := by simpa using e1
            have h3 : (hp w) g = h1' g := by rw [he]; simp [join, e2]
            rw [← h3]; exact hb
        have hs : seps (pts g (.cells (xs.flatMap E.f ++ sp).toArray e' (0, 0)) :: R) (hp w) := ⟨h1', h2', ha, he, hb1, hR⟩
        have hs2 := seps_upd (o' := .cells ((copyL xs lo lo' m).flatMap E.f ++ sp).toArray e' (0, 0)) hs
        rw [← hp_set hb] at hs2
        have hlen : (copyL xs lo lo' m).length = xs.length := copyL_length _ _ _ _ (by omega) (by omega)
        exact seps_head (fun h hb' => .inr ⟨g, sp, rfl, hb', by rw [hlen]; exact hc1, by rw [hlen]; exact hc2, hc3⟩) hs2
  · cases hk
end
section
variable {α : Type} {E : Enc α}
/-- A row just laid is a slice. -/
theorem ent_row {b : Nat} {e : TypeId} {l : List Value} (xs : List α) {L R M : List SP} (hh : Has L (cells b e l) R) (hl : xs.flatMap E.f = l) (hx : 0 < xs.length) (hm : Nat.ble xs.length maxLen = true) (h : Ent (sl E e (some ⟨b, 0, none⟩) xs.length xs :: R) M) : Ent L M :=
  ⟨fun h0 hs => h.to _ (seps_head (fun h1 h2 => .inr ⟨b, [], rfl, by rw [List.append_nil, hl]; exact h2, by simp, Nat.le_refl _, Nat.le_of_ble_eq_true hm⟩) (hh.to _ hs))⟩
end
/-- A walk is to stop here. -/
@[irreducible] def Stop (p : Prop) : Prop := p
theorem Stop.mk {p : Prop} (h : p) : Stop p := by unfold Stop; exact h
theorem run_stop (id : Nat) {P : Program} {w0 : World} {n : Nat} {K : Ks} {L : List SP} {Q : Qt} {ops : Array Oper} {b : Bool} (h : Stop (Run P w0 n (.region id ops b) K L Q)) : Run P w0 n (.region id ops b) K L Q := by unfold Stop at h; exact h
end Go.Sl
