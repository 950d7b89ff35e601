/-
  Drawn regions: guards, blocks laid; slices copied by append; memory that is read alone from here on. Program-independent. Conditions: none.
-/
import Derived.Test.YtajekiiabkaflaaSl9
set_option linter.unusedVariables false
set_option linter.unusedSimpArgs false
set_option linter.unusedSectionVars false
namespace Go.Sl
attribute [local semireducible] Run Out RunM QOp RunD

/-! ### 1. Drawn regions -/
section
variable {P : Program} {w0 : World} {n : Nat} {K : Ks} {L L0 R : List SP} {Q : Qt} {ops : Array Oper} {rest : List Oper} {ty : TypeId} {pos : String} {af : Array Edge} {ds : List Nat} {k d : Nat}
theorem runD_gp {op : Op} {j : Nat} {b : Bool} {v : Value} (hd : Nat.ble (d + 1) n = true) (hy : yl ops K j = some b) (hq : ∀ w1, QOp P w1 n op K [] v) (ht : takeB ops k = true) (h : RunD P w0 n ops ds L0 (k + 1) rest ((d, v) :: K) L Q) :
    RunD P w0 n ops ds L0 k (⟨some d, op, ty, pos, af, some (j, b)⟩ :: rest) K L Q :=
  runD_guard hy (S := fun _ => True) (.inl fun _ => trivial) ht (fun a w f _ => hq w (some d) ty pos af (some (j, b)) a w f ⟨⟨rfl, rfl, rfl⟩, trivial⟩) (fun a f => f.put hd) h
theorem runD_gr {op : Op} {j : Nat} {b : Bool} {v : Value} (hd : Nat.ble (d + 1) n = true) (hy : yl ops K j = some b) (hq : QOp P w0 n op K L0 v) (ht : takeB ops k = true) (hB : lastB ops ds k = true) (h : RunD P w0 n ops ds L0 (k + 1) rest ((d, v) :: K) L Q) :
    RunD P w0 n ops ds L0 k (⟨some d, op, ty, pos, af, some (j, b)⟩ :: rest) K L Q :=
  runD_guard hy (S := Cl w0 L0) (.inr ⟨rfl, hB⟩) ht (fun a w f c => hq (some d) ty pos af (some (j, b)) a w f c) (fun a f => f.put hd) h
theorem runD_skip {op : Op} {j : Nat} {b b' : Bool} (hd : Nat.ble (d + 1) n = true) (hy : yl ops K j = some b') (hb : (b' == b) = false) (ht : takeB ops k = true) (h : RunD P w0 n ops ds L0 (k + 1) rest ((d, undef) :: K) L Q) :
    RunD P w0 n ops ds L0 k (⟨some d, op, ty, pos, af, some (j, b)⟩ :: rest) K L Q :=
  runD_yields (S := fun _ => True) (.inl fun _ => trivial) ht (fun a f => .inr ⟨by simp [Region.wanted, yl_yielded f hy]; simpa using hb, rfl⟩) (fun a f => f.put hd) h
theorem runD_alloc {t : TypeId} {z : List Value} [ht : TZero P t z] (hd : Nat.ble (d + 1) n = true) (hB : onlyB ops k = true)
    (h : ∀ b, RunD P w0 n ops ds L0 (k + 1) rest ((d, .pointer (some ⟨b, 0, none⟩)) :: K) (cells b t z :: L) Q) : RunD P w0 n ops ds L0 k (⟨some d, .alloc t, ty, pos, af, none⟩ :: rest) K L Q := by
  refine runD_w hB fun a w f c => ?_
  obtain ⟨v, hr, hv⟩ := zero_run ht.ok w
  refine ⟨.pointer (some ⟨w.heap.size, 0, none⟩), .cells z.toArray t (0, 0), ?_, _, _, f.put hd, ⟨c.env.alloc _, c.sat.alloc _⟩, h w.heap.size⟩
  simp [execOp, Instr.alloc, hr, newVar, newRow, hv]
theorem runD_box {t : TypeId} {x : Operand} {v : Value} {l : List Value} (hd : Nat.ble (d + 1) n = true) (hB : onlyB ops k = true) (hx : ev K x = some v) (hv : v.cells = l.toArray)
    (h : ∀ b, RunD P w0 n ops ds L0 (k + 1) rest ((d, .pointer (some ⟨b, 0, none⟩)) :: K) (cells b t l :: L) Q) : RunD P w0 n ops ds L0 k (⟨some d, .box t x, ty, pos, af, none⟩ :: rest) K L Q := by
  refine runD_w hB fun a w f c => ?_
  refine ⟨.pointer (some ⟨w.heap.size, 0, none⟩), .cells l.toArray t (0, 0), ?_, _, _, f.put hd, ⟨c.env.alloc _, c.sat.alloc _⟩, h w.heap.size⟩
  simp [execOp, Instr.box, newVar, newRow, f.eval hx, hv]
theorem runD_buildSlice {t e sz by_ len : Nat} {z : List Value} {xs : List (Nat × Operand)} {vs : List (Nat × Value)} {l : List Value} [ht : TSlice P t e sz by_] [hz : TZero P e z] (hd : Nat.ble (d + 1) n = true) (hB : onlyB ops k = true) (hx : evp K xs = some vs)
    (hb : Nat.ble (len * sz) 16777216 = true) (hb0 : Nat.beq (len * sz) 0 = false) (hl : fillL (fun i => some (i * sz, sz)) ((List.range (len * sz)).map fun i => z.toArray[i % z.toArray.size]!) vs = some l)
    (h : ∀ b, RunD P w0 n ops ds L0 (k + 1) rest ((d, .slice (some ⟨b, 0, none⟩) len len) :: K) (cells b e l :: L) Q) : RunD P w0 n ops ds L0 k (⟨some d, .buildSlice t len xs.toArray, ty, pos, af, none⟩ :: rest) K L Q := by
  refine runD_w hB fun a w f c => ?_
  refine ⟨.slice (some ⟨w.heap.size, 0, none⟩) len len, .cells l.toArray e (0, 0), ?_, _, _, f.put hd, ⟨c.env.alloc _, c.sat.alloc _⟩, h w.heap.size⟩
  have hk := ht.ok
  unfold tsliceB at hk
  split at hk
  · rename_i e' hu
    simp only [Bool.and_eq_true, beq_iff_eq] at hk
    obtain ⟨rfl, hk2⟩ := hk
    cases hi : P.info? e' with
    | none => simp [hi] at hk2
    | some inf =>
      have hsz : inf.size = sz ∧ inf.bytes = by_ := by simpa [hi] using hk2
      obtain ⟨v, hr, hv⟩ := zero_run hz.ok w
      have h1 : (xs.toArray.map fun (i, x) => (i, a.eval x)) = vs.toArray := by rw [List.map_toArray, ← f.evps hx]
      have h2 := fill_is vs _ l hl
      have h3 : ¬ len * sz > 2 ^ 24 := by have := Nat.le_of_ble_eq_true hb; omega
      have h4 : ¬ len * sz = 0 := fun e => by rw [e] at hb0; cases hb0
      have hs : (sizeOf e').run P w = .ok sz w := by simp [sizeOf, typeInfo, hi, hsz.1]
      have h5 : ((Array.range (len * sz)).map fun x => v.cells[x % v.cells.size]!) = ((List.range (len * sz)).map fun i => z.toArray[i % z.toArray.size]!).toArray := by
        rw [hv, ← List.map_toArray]
        congr 1
        apply Array.ext'
        simp
      have h6 : (Instr.buildSlice t len vs.toArray).run P w = .ok (.slice (some ⟨w.heap.size, 0, none⟩) len len) (w.alloc (.cells l.toArray e' (0, 0))) := by
        unfold Instr.buildSlice
        rw [Sem.run_bind, run_underlying hu, Result.andThen_ok]
        dsimp only
        rw [Sem.run_bind, hs, Result.andThen_ok, if_neg h3]
        simp only [Sem.run_bind, Result.andThen_ok, if_neg h4, hr, Sem.run_pure, h5, h2, newRow, run_newObj]
        rfl
      simp only [execOp, h1, Sem.run_bind, h6, Result.andThen_ok, Sem.run_pure]
  · cases hk
end

/-! ### 2. Slices copied by append -/
section
variable {α : Type} {E : Enc α} {P : Program} {w0 : World} {n : Nat} {K : Ks} {L R : List SP} {Q : Qt} {m : Bool} {ops : Array Oper} {rest : List Oper} {ty : TypeId} {pos : String} {af : Array Edge} {d : Nat} {I : Hp} {A : Option Addr} {xs ys : List α} {e cap : Nat}
theorem rd_sl (hh : Has L (sl E e A cap xs) R) : ∀ ad, A = some ad → Rd L ad (xs.flatMap E.f) := fun ad hA w s j v hj => by
  obtain ⟨h1, hA1, hm⟩ := seps_hd (s.has hh)
  rcases hA1 with ⟨rfl, _⟩ | ⟨g, sp, rfl, e2, _⟩
  · cases hA
  · obtain rfl := Option.some.inj hA
    have hb : w.heap[g]? = some (.cells (xs.flatMap E.f ++ sp).toArray e (0, 0)) := hm _ _ e2
    rw [Addr.add_lit, cell_at hb]
    simp only [List.getElem?_toArray, Nat.zero_add]
    rw [List.getElem?_append_left (List.getElem?_eq_some_iff.1 hj).1]
    exact hj
theorem sl_none : ∀ h, sl E e A cap xs h → (A = none → xs = []) := fun h hA e0 => by
  rcases hA with ⟨_, _, rfl⟩ | ⟨g, sp, rfl, _⟩
  · rfl
  · cases e0
theorem isl_none (hI : isl E I A xs) : A = none → xs = [] := fun h => by
  cases xs with
  | nil => rfl
  | cons x l =>
    obtain ⟨a, e, _⟩ := hI 0 x rfl
    rw [h] at e; cases e
section
variable {t sz by_ len len' c : Nat} {x y : Operand} {B : Option Addr} {z : List Value} [ht : TSlice P t e sz by_] [hzv : TZero P e z]
/-- append(s, x..), x of memory that is read alone. -/
theorem w_append_i (hd : Nat.ble (d + 1) n = true) (hx : ev K x = some (.slice A len cap)) (hy : ev K y = some (.slice B len' c)) (hh : Has L (sl E e A cap xs) R) {R2 : List SP} (hi : Has L (eqh I) R2) (hI : isl E I B ys)
    (hz : E.sz = sz) (hzl : z.length = sz) (hl : len = xs.length) (hm : len' = ys.length) (hb : (xs.length + ys.length) * by_ ≤ 140737488355328 ∧ xs.length + ys.length ≤ 140737488355328)
    (h : ∀ A' cap', RunM P w0 n false ops rest ((d, .slice A' (xs ++ ys).length cap') :: K) (sl E e A' cap' (xs ++ ys) :: R) Q) :
    RunM P w0 n false ops (⟨some d, .call ⟨.builtin .append, #[x, y], #[t, t]⟩, ty, pos, af, none⟩ :: rest) K L Q :=
  w_append hd hx hy hh (rd_isl hi hI) (isl_none hI) hz hzl hl hm hb h
/-- append(s, x..), x a slice of its own. -/
theorem w_append_s (hd : Nat.ble (d + 1) n = true) (hx : ev K x = some (.slice A len cap)) (hy : ev K y = some (.slice B len' c)) (hh : Has L (sl E e A cap xs) R) {R2 : List SP} {e' c' : Nat} (hi : Has L (sl E e' B c' ys) R2)
    (hz : E.sz = sz) (hzl : z.length = sz) (hl : len = xs.length) (hm : len' = ys.length) (hb : (xs.length + ys.length) * by_ ≤ 140737488355328 ∧ xs.length + ys.length ≤ 140737488355328)
    (h : ∀ A' cap', RunM P w0 n false ops rest ((d, .slice A' (xs ++ ys).length cap') :: K) (sl E e A' cap' (xs ++ ys) :: R) Q) :
    RunM P w0 n false ops (⟨some d, .call ⟨.builtin .append, #[x, y], #[t, t]⟩, ty, pos, af, none⟩ :: rest) K L Q :=
  runM_fact sl_none hi fun hB => w_append hd hx hy hh (rd_sl hi) hB hz hzl hl hm hb h
/-- append(nil, x..), x of memory that is read alone. -/
theorem w_append_ni (hd : Nat.ble (d + 1) n = true) (hx : ev K x = some (.slice none 0 0)) (hy : ev K y = some (.slice B len' c)) {R2 : List SP} (hi : Has L (eqh I) R2) (hI : isl E I B ys)
    (hz : E.sz = sz) (hzl : z.length = sz) (hm : len' = ys.length) (hb : ys.length * by_ ≤ 140737488355328 ∧ ys.length ≤ 140737488355328)
    (h : ∀ A' cap', RunM P w0 n false ops rest ((d, .slice A' ys.length cap') :: K) (sl E e A' cap' ys :: L) Q) :
    RunM P w0 n false ops (⟨some d, .call ⟨.builtin .append, #[x, y], #[t, t]⟩, ty, pos, af, none⟩ :: rest) K L Q :=
  runM_L ent_nil_sl (w_append_i (xs := []) hd hx hy has_hd (has_tl hi) hI hz hzl rfl hm (by simpa using hb) h)
/-- append(nil, x..), x a slice of its own. -/
theorem w_append_ns (hd : Nat.ble (d + 1) n = true) (hx : ev K x = some (.slice none 0 0)) (hy : ev K y = some (.slice B len' c)) {R2 : List SP} {e' c' : Nat} (hi : Has L (sl E e' B c' ys) R2)
    (hz : E.sz = sz) (hzl : z.length = sz) (hm : len' = ys.length) (hb : ys.length * by_ ≤ 140737488355328 ∧ ys.length ≤ 140737488355328)
    (h : ∀ A' cap', RunM P w0 n false ops rest ((d, .slice A' ys.length cap') :: K) (sl E e A' cap' ys :: L) Q) :
    RunM P w0 n false ops (⟨some d, .call ⟨.builtin .append, #[x, y], #[t, t]⟩, ty, pos, af, none⟩ :: rest) K L Q :=
  runM_L ent_nil_sl (w_append_s (xs := []) hd hx hy has_hd (has_tl hi) hz hzl rfl hm (by simpa using hb) h)
end

/-! ### 3. From here on read alone -/
theorem seps_freeze {h : Hp} (hs : seps (eqh I :: sl E e A cap xs :: R) h) : ∃ J, Hp.le I J ∧ isl E J A xs ∧ seps (eqh J :: R) h := by
  obtain ⟨hh, h2, a, eq, hM, hR⟩ := (seps_app (L := [eqh I, sl E e A cap xs]) (M := R)).1 hs
  refine ⟨hh, ?_, ?_, hh, h2, a, eq, fun _ _ h => h, hR⟩
  · obtain ⟨h1, hI, hm⟩ := seps_hd hM
    exact fun b o hb => hm b o (hI b o hb)
  · obtain ⟨h1, hS, hm⟩ := seps_hd (seps_swap hM)
    intro k x hk
    rcases hS with ⟨_, _, rfl⟩ | ⟨g, sp, rfl, e2, _⟩
    · simp at hk
    · refine ⟨_, rfl, fun j v hj => ?_⟩
      have hb := hm _ _ e2
      unfold icell
      rw [Addr.add_lit]
      simp only [hb]
      have := flat_cell xs k j x sp v hk hj
      simpa using this
theorem out_freeze {x : Exit} {L1 : List SP} (h1 : Has L (eqh I) L1) (h2 : Has L1 (sl E e A cap xs) R) (h : ∀ J, Hp.le I J → isl E J A xs → Out w0 n x K (eqh J :: R) Q) : Out w0 n x K L Q := fun a w f c => by
  obtain ⟨J, h3, h4, h5⟩ := seps_freeze (seps_tail h2.to (h1.to _ c.sat))
  exact h J h3 h4 a w f ⟨c.env, h5⟩
theorem runM_freeze {L1 : List SP} (h1 : Has L (eqh I) L1) (h2 : Has L1 (sl E e A cap xs) R) (h : ∀ J, Hp.le I J → isl E J A xs → RunM P w0 n false ops rest K (eqh J :: R) Q) : RunM P w0 n false ops rest K L Q := fun a w f c => by
  obtain ⟨J, h3, h4, h5⟩ := seps_freeze (seps_tail h2.to (h1.to _ c.sat))
  exact h J h3 h4 a w f ⟨c.env, h5⟩
theorem run_freeze {c : Code} {L1 : List SP} (h1 : Has L (eqh I) L1) (h2 : Has L1 (sl E e A cap xs) R) (h : ∀ J, Hp.le I J → isl E J A xs → Run P w0 n c K (eqh J :: R) Q) : Run P w0 n c K L Q := fun a w f hc => by
  obtain ⟨J, h3, h4, h5⟩ := seps_freeze (seps_tail h2.to (h1.to _ hc.sat))
  exact h J h3 h4 a w f ⟨hc.env, h5⟩
end
/-! ### 4. Elements read in a drawn region -/
section
variable {α : Type} {E : Enc α} {P : Program} {w0 : World} {n : Nat} {K : Ks} {L L0 R : List SP} {Q : Qt} {ops : Array Oper} {rest : List Oper} {ty : TypeId} {pos : String} {af : Array Edge} {ds : List Nat} {d o : Nat} {A : Option Addr} {xs : List α} {e cap : Nat}
theorem d_load_el {t s k sz : Nat} {x : Operand} [ht : TAgg P t s] (hd : Nat.ble (d + 1) n = true) (hx : ev K x = some (.pointer (some ⟨bk A, k * sz, none⟩))) (hh : Has L0 (sl E e A cap xs) R) (hz : E.sz = sz) (hs : s = sz) (hk : k < xs.length) (h1 : takeB ops o = true) (h2 : lastB ops ds o = true)
    (h : ∀ a, xs[k]? = some a → RunD P w0 n ops ds L0 (o + 1) rest ((d, .agg (E.f a).toArray) :: K) L Q) : RunD P w0 n ops ds L0 o (⟨some d, .load t x, ty, pos, af, none⟩ :: rest) K L Q := by
  subst hz hs
  refine runD_r hd (v := .agg (E.f xs[k]).toArray) (fun d ty pos af g a w f c => ?_) h1 h2 (h _ (List.getElem?_eq_getElem hk))
  obtain ⟨b, sp, rfl, hb, _⟩ := c.sl hh (by omega)
  have := run_loadVar_agg (P := P) ht.ok hb (flat_seg (E := E) xs k _ sp (List.getElem?_eq_getElem hk)) (E.len _)
  simp [execOp, f.eval hx, Instr.loadAt, Instr.sureAddr, bk, this]
theorem d_load_elc {t k j sz : Nat} {x : Operand} {v : α → Value} [ht : TCell P t] (hd : Nat.ble (d + 1) n = true) (hx : ev K x = some (.pointer (some ⟨bk A, k * sz + j, none⟩))) (hh : Has L0 (sl E e A cap xs) R) (hz : E.sz = sz) (hk : k < xs.length) (hv : ∀ a, (E.f a)[j]? = some (v a)) (h1 : takeB ops o = true) (h2 : lastB ops ds o = true)
    (h : ∀ a, xs[k]? = some a → RunD P w0 n ops ds L0 (o + 1) rest ((d, v a) :: K) L Q) : RunD P w0 n ops ds L0 o (⟨some d, .load t x, ty, pos, af, none⟩ :: rest) K L Q := by
  subst hz
  refine runD_r hd (v := v xs[k]) (fun d ty pos af g a w f c => ?_) h1 h2 (h _ (List.getElem?_eq_getElem hk))
  obtain ⟨b, sp, rfl, hb, _⟩ := c.sl hh (by omega)
  have := run_loadVar_cell (P := P) ht.ok hb (flat_cell (E := E) xs k j _ sp _ (List.getElem?_eq_getElem hk) (hv _))
  simp [execOp, f.eval hx, Instr.loadAt, Instr.sureAddr, bk, this]
theorem d_load_el1 {t k : Nat} {x : Operand} {v : α → Value} [ht : TCell P t] (hd : Nat.ble (d + 1) n = true) (hx : ev K x = some (.pointer (some ⟨bk A, k * 1, none⟩))) (hh : Has L0 (sl E e A cap xs) R) (hz : E.sz = 1) (hk : k < xs.length) (hv : ∀ a, (E.f a)[0]? = some (v a)) (h1 : takeB ops o = true) (h2 : lastB ops ds o = true)
    (h : ∀ a, xs[k]? = some a → RunD P w0 n ops ds L0 (o + 1) rest ((d, v a) :: K) L Q) : RunD P w0 n ops ds L0 o (⟨some d, .load t x, ty, pos, af, none⟩ :: rest) K L Q :=
  d_load_elc (j := 0) hd (by simpa using hx) hh hz hk hv h1 h2 h
end
end Go.Sl
