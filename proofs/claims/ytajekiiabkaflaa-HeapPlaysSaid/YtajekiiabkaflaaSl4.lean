/-
  The laws of the operations: stores, new blocks, structs built; the end of a function. Program-independent. Conditions: none.
-/
import Derived.Test.YtajekiiabkaflaaSl3
import Derived.Laws.AppendOwn
set_option linter.unusedVariables false
set_option linter.unusedSimpArgs false
namespace Go.Sl
attribute [local semireducible] Run Out RunM QOp
section
variable {P : Program} {w0 : World} {n : Nat} {K : Ks} {L R : List SP} {Q : Qt} {ops : Array Oper} {rest : List Oper} {ty : TypeId} {pos : String} {af : Array Edge} {d : Nat}

/-! ### 1. Stores into a row -/
def putL (l : List Value) (off : Nat) (cs : List Value) : List Value := l.take off ++ cs ++ l.drop (off + cs.length)
/-- The same, written out. -/
def putO : List Value → Nat → List Value → Option (List Value)
  | l, 0, [] => some l
  | a :: l, 0, c :: cs => match putO l 0 cs with
    | some r => some (c :: r)
    | none => none
  | a :: l, n + 1, cs => match putO l n cs with
    | some r => some (a :: r)
    | none => none
  | _, _, _ => none
theorem putO_is : ∀ {l : List Value} {off : Nat} {cs l' : List Value}, putO l off cs = some l' → putL l off cs = l' ∧ off + cs.length ≤ l.length
  | l, 0, [], l', h => by
    obtain rfl : l = l' := by cases l <;> simpa [putO] using h
    simp [putL]
  | a :: l, 0, c :: cs, l', h => by
    unfold putO at h
    split at h
    · rename_i r e
      obtain rfl := Option.some.inj h
      obtain ⟨h1, h2⟩ := putO_is e
      refine ⟨?_, by simp at h2 ⊢; omega⟩
      rw [← h1]
      simp [putL]
    · cases h
  | a :: l, n + 1, cs, l', h => by
    have h' : (match putO l n cs with | some r => some (a :: r) | none => none) = some l' := by cases cs <;> simpa [putO] using h
    split at h'
    · rename_i r e
      obtain rfl := Option.some.inj h'
      obtain ⟨h1, h2⟩ := putO_is e
      refine ⟨?_, by simp at h2 ⊢; omega⟩
      rw [← h1]
      simp [putL, Nat.add_right_comm]
    · cases h'
  | [], n + 1, cs, l', h => by cases cs <;> simp [putO] at h
  | [], 0, c :: cs, l', h => by simp [putO] at h
theorem setRow_is (w : World) (g : Nat) (l : List Value) (cur : Array Value) (e : TypeId) (hg : w.heap[g]? = some (.cells cur e (0, 0))) : w.setRow g l.toArray = setObj' w g (.cells l.toArray e (0, 0)) := by
  have hlt : g < w.heap.size := (Array.getElem?_eq_some_iff.1 hg).1
  unfold World.setRow setObj'
  congr 1
  apply Array.ext_getElem?
  intro i
  rw [Array.getElem?_modify, Array.getElem?_setIfInBounds]
  by_cases e : g = i
  · subst e; rw [if_pos rfl, if_pos rfl, hg]; simp [hlt]
  · simp [e]
theorem run_storeVar_in {t b off s : Nat} {l cs : List Value} {e : TypeId} {v : Value} {w : World} (hs : (sizeOf t).run P w = .ok s w) (hv : v.cells.toList = cs) (hl : cs.length = s) (hb : w.heap[b]? = some (.cells l.toArray e (0, 0)))
    (h1 : cs.all (·.oneCell') = true) (hlt : off + cs.length ≤ l.length) :
    (storeVar t ⟨b, off, none⟩ v).run P w = .ok () (setObj' w b (.cells (putL l off cs).toArray e (0, 0))) := by
  have h2 := run_storeCells_at P b off e cs 0 l.toArray w hb (by simpa using hlt) (by simpa using h1)
  rw [setRow_is w b _ l.toArray e hb] at h2
  have h3 : v.cells.size = s := by rw [← hl, ← hv]; simp
  simp only [Nat.add_zero] at h2
  simp [storeVar, hs, h3, hv, h2, putL]
theorem w_store' {t b off s : Nat} {x y : Operand} {e : TypeId} {l cs : List Value} {v : Value} (hsz : ∀ w, (sizeOf t).run P w = .ok s w)
    (hx : ev K x = some (.pointer (some ⟨b, off, none⟩))) (hy : ev K y = some v) (hh : Has L (cells b e l) R) (hv : v.cells.toList = cs) (hl : cs.length = s) (h1 : cs.all (·.oneCell') = true) {l' : List Value} (hlt : putO l off cs = some l')
    (h : RunM P w0 n false ops rest K (cells b e l' :: R) Q) : RunM P w0 n false ops (⟨none, .store t x y, ty, pos, af, none⟩ :: rest) K L Q := by
  refine runM_w fun a w f c => ?_
  have hb := c.row hh
  have hr := run_storeVar_in (P := P) (hsz w) hv hl hb h1 (putO_is hlt).2
  rw [(putO_is hlt).1] at hr
  refine ⟨undef, _, .inr ⟨by simp [execOp, f.eval hx, f.eval hy, Instr.storeAt, Instr.sureAddr, hr]; rfl, rfl⟩, K, _, f, ⟨c.env.set _ _, ?_⟩, h⟩
  exact (c.sat.has hh).set
theorem w_store {t b off : Nat} {x y : Operand} {e : TypeId} {l : List Value} {v : Value} [ht : TCell P t]
    (hx : ev K x = some (.pointer (some ⟨b, off, none⟩))) (hy : ev K y = some v) (hh : Has L (cells b e l) R) (h1 : v.oneCell' = true) {l' : List Value} (hlt : putO l off [v] = some l')
    (h : RunM P w0 n false ops rest K (cells b e l' :: R) Q) : RunM P w0 n false ops (⟨none, .store t x y, ty, pos, af, none⟩ :: rest) K L Q :=
  w_store' (cs := [v]) (fun w => run_size_cell ht.ok) hx hy hh (by cases v <;> first | rfl | cases h1) rfl (by simp [h1]) hlt h
theorem w_store_agg {t s b off : Nat} {x y : Operand} {e : TypeId} {l cs : List Value} [ht : TAgg P t s]
    (hx : ev K x = some (.pointer (some ⟨b, off, none⟩))) (hy : ev K y = some (.agg cs.toArray)) (hh : Has L (cells b e l) R) (hl : cs.length = s) (h1 : cs.all (·.oneCell') = true) {l' : List Value} (hlt : putO l off cs = some l')
    (h : RunM P w0 n false ops rest K (cells b e l' :: R) Q) : RunM P w0 n false ops (⟨none, .store t x y, ty, pos, af, none⟩ :: rest) K L Q :=
  w_store' (fun w => run_size_agg ht.ok) hx hy hh (by simp [Value.cells]) hl h1 hlt h

/-! ### 2. New blocks -/
theorem zero_run {t : TypeId} {z : List Value} (h : (P.info? t).bind (fun i => i.zero.map fun v => v.cells.toList) = some z) (w : World) : ∃ v, (zeroValue t).run P w = .ok v w ∧ v.cells = z.toArray := by
  cases hi : P.info? t with
  | none => simp [hi] at h
  | some i =>
    cases hz : i.zero with
    | none => simp [hi, hz] at h
    | some v =>
      refine ⟨v, by simp [zeroValue, typeInfo, hi, hz], ?_⟩
      have : v.cells.toList = z := by simpa [hi, hz] using h
      rw [← this]
theorem alloc_is (w : World) (o : Obj) : ({ w with heap := w.heap.push o } : World) = w.alloc o := rfl
theorem w_alloc {t : TypeId} {z : List Value} [ht : TZero P t z] (hd : Nat.ble (d + 1) n = true)
    (h : ∀ b, RunM P w0 n false ops rest ((d, .pointer (some ⟨b, 0, none⟩)) :: K) (cells b t z :: L) Q) : RunM P w0 n false ops (⟨some d, .alloc t, ty, pos, af, none⟩ :: rest) K L Q := by
  refine runM_w fun a w f c => ?_
  obtain ⟨v, hr, hv⟩ := zero_run ht.ok w
  refine ⟨.pointer (some ⟨w.heap.size, 0, none⟩), w.alloc (.cells z.toArray t (0, 0)), .inl ?_, _, _, f.put hd, ⟨c.env.alloc _, c.sat.alloc _⟩, h w.heap.size⟩
  simp [execOp, Instr.alloc, hr, newVar, newRow, hv]
theorem w_box {t : TypeId} {x : Operand} {v : Value} {l : List Value} (hd : Nat.ble (d + 1) n = true) (hx : ev K x = some v) (hv : v.cells = l.toArray)
    (h : ∀ b, RunM P w0 n false ops rest ((d, .pointer (some ⟨b, 0, none⟩)) :: K) (cells b t l :: L) Q) : RunM P w0 n false ops (⟨some d, .box t x, ty, pos, af, none⟩ :: rest) K L Q := by
  refine runM_w fun a w f c => ?_
  refine ⟨.pointer (some ⟨w.heap.size, 0, none⟩), w.alloc (.cells l.toArray t (0, 0)), .inl ?_, _, _, f.put hd, ⟨c.env.alloc _, c.sat.alloc _⟩, h w.heap.size⟩
  simp [execOp, Instr.box, newVar, newRow, f.eval hx, hv]

/-! ### 3. Structs built -/
def evp (K : Ks) : List (Nat × Operand) → Option (List (Nat × Value))
  | [] => some []
  | (i, x) :: xs => match ev K x, evp K xs with
    | some v, some vs => some ((i, v) :: vs)
    | _, _ => none
theorem Fr.evps {n : Nat} {K : Ks} {a : Act} (f : Fr n K a) : ∀ {xs : List (Nat × Operand)} {vs : List (Nat × Value)}, evp K xs = some vs → xs.map (fun p => (p.1, a.eval p.2)) = vs
  | [], vs, h => by simpa [evp] using h
  | (i, x) :: xs, vs, h => by
    unfold evp at h
    split at h
    · rename_i v vs' e1 e2
      obtain rfl := Option.some.inj h
      simp [f.eval e1, f.evps e2]
    · cases h
def fillL (place : Nat → Option (Nat × Nat)) (l : List Value) : List (Nat × Value) → Option (List Value)
  | [] => some l
  | (i, v) :: r => match place i with
    | none => none
    | some (off, size) => match putO l off v.cells.toList with
      | some l' => bif Nat.beq v.cells.toList.length size then fillL place l' r else none
      | none => none
theorem foldl_put (off : Nat) : ∀ (cs : List Value) (l : List Value) (k : Nat), off + k + cs.length ≤ l.length →
    (cs.zipIdx k).foldl (fun a (p : Value × Nat) => a.setIfInBounds (off + p.2) p.1) l.toArray = (putL l (off + k) cs).toArray
  | [], l, k, _ => by simp [putL]
  | c :: cs, l, k, h => by
    simp only [List.zipIdx_cons, List.foldl_cons, List.setIfInBounds_toArray]
    have h' : off + (k + 1) + cs.length ≤ (l.set (off + k) c).length := by simp at h ⊢; omega
    rw [foldl_put off cs (l.set (off + k) c) (k + 1) h']
    congr 1
    have := list_seg_step l (off + k) c cs (by simp at h; omega)
    simp only [putL]
    simpa [Nat.add_assoc] using this
theorem fill_is {place : Nat → Option (Nat × Nat)} : ∀ (vs : List (Nat × Value)) (l l' : List Value), fillL place l vs = some l' → Instr.fill place l.toArray vs = some l'.toArray
  | [], l, l', h => by simp [fillL] at h; simp [Instr.fill, h]
  | (i, v) :: vs, l, l', h => by
    unfold fillL at h
    unfold Instr.fill
    split at h
    · cases h
    · rename_i off size e
      simp only [e]
      split at h
      · rename_i l1 e1
        cases hc : Nat.beq v.cells.toList.length size with
        | false => rw [hc] at h; cases h
        | true =>
          rw [hc] at h
          have h1 : v.cells.toList.length = size := Nat.eq_of_beq_eq_true hc
          have h1' : v.cells.size = size := by simpa using h1
          have h2 := (putO_is e1).2
          have h2' : off + size ≤ l.length := by rw [h1] at h2; exact h2
          rw [if_neg (by simp [h1']; omega)]
          have h3 := foldl_put off v.cells.toList l 0 (by simpa using h2)
          have h4 : v.cells.zipIdx.foldl (fun cs (p : Value × Nat) => cs.setIfInBounds (off + p.2) p.1) l.toArray = l1.toArray := by
            rw [← Array.foldl_toList, Array.toList_zipIdx, ← (putO_is e1).1]
            simpa using h3
          exact (congrArg (fun c => Instr.fill place c vs) h4).trans (fill_is vs _ l' h)
      · cases h
theorem places_run {t : TypeId} {pl : List (Nat × Nat)} (h : (match P.underlying t with
    | some (.struct fs) => fs.toList.mapM fun f => (P.info? f.type).map fun i => (f.offset, i.size)
    | _ => none) = some pl) (w : World) : ∃ fs, P.underlying t = some (.struct fs) ∧ (fs.mapM fun f => (do pure (f.offset, ← sizeOf f.type) : Sem (Nat × Nat))).run P w = .ok pl.toArray w := by
  split at h
  · rename_i fs e
    refine ⟨fs, e, ?_⟩
    rw [Array.mapM_eq_mapM_toList, Sem.run_map]
    have : ∀ (l : List Field) (pl : List (Nat × Nat)), l.mapM (fun f => (P.info? f.type).map fun i => (f.offset, i.size)) = some pl → (l.mapM fun f => (do pure (f.offset, ← sizeOf f.type) : Sem (Nat × Nat))).run P w = .ok pl w := by
      intro l
      induction l with
      | nil => intro pl h; simp at h; subst h; rfl
      | cons f l ih =>
        intro pl h
        rw [List.mapM_cons] at h ⊢
        cases hi : P.info? f.type with
        | none => simp [hi] at h
        | some i =>
          rw [hi] at h
          simp only [Option.map_some, Option.bind_eq_bind, Option.bind_some, Option.bind_eq_some_iff, Option.pure_def, Option.some.injEq] at h
          obtain ⟨pl', h1, rfl⟩ := h
          have ih' := ih pl' h1
          have hs : (sizeOf f.type).run P w = .ok i.size w := by simp [sizeOf, typeInfo, hi]
          simp only [Sem.run_bind, hs, Result.andThen_ok, Sem.run_pure, ih']
    rw [this _ _ h]
    rfl
  · cases h
theorem q_build {t : TypeId} {z : List Value} {pl : List (Nat × Nat)} {xs : List (Nat × Operand)} {vs : List (Nat × Value)} {l : List Value} [hz : TZero P t z] [hp : TPlaces P t pl]
    (hx : evp K xs = some vs) (hl : fillL (fun i => pl[i]?) z vs = some l) : QOp P w0 n (.build t xs.toArray) K L (.agg l.toArray) := fun d ty pos af g a w f c => by
  obtain ⟨v, hr, hv⟩ := zero_run hz.ok w
  obtain ⟨fs, hu, hm⟩ := places_run hp.ok w
  have h1 : (xs.toArray.map fun (i, x) => (i, a.eval x)) = vs.toArray := by rw [List.map_toArray, ← f.evps hx]
  have h2 := fill_is vs z l hl
  have h3 : Instr.fill (fun i => pl.toArray[i]?) v.cells vs = some l.toArray := by rw [hv]; simpa using h2
  have h4 : (Instr.build t vs.toArray).run P w = .ok (.agg l.toArray) w := by
    unfold Instr.build
    rw [Sem.run_bind, hr, Result.andThen_ok, Sem.run_bind, run_underlying hu, Result.andThen_ok]
    dsimp only
    rw [Sem.run_bind, hm, Result.andThen_ok]
    simp only [h3]
    rfl
  simp only [execOp, h1, Sem.run_bind, h4, Result.andThen_ok]
  rfl

/-! ### 4. The end -/
theorem asAddr_run (w : World) (b off : Nat) : (asAddr (.pointer (some ⟨b, off, none⟩))).run P w = .ok ⟨b, off, none⟩ w := rfl
theorem out_ret1 {fn : Func} {t : Tmp} {Rs : List SP} {Post : Value → List SP → Prop} {v : Value} {L' : List SP} {x : Exit} (hx : x = .ret ∨ x = .normal) (hr : fn.results = #[.tmp t]) (hv : look K t = some v) (hp : Post v L') (hL : Ent L (L' ++ Rs)) :
    Out w0 n x K L (RetQ P fn w0 Rs Post) := fun a w f c => by
  have h1 := results_tmp hr a.tmps P w
  have h2 : a.tmps.getD t undef = v := by simp [Array.getD_eq_getD_getElem?, f.slots t v hv]
  rw [h2] at h1
  rcases hx with rfl | rfl <;> exact ⟨f.defers, v, h1, v, L', rfl, hp, c.to hL.to⟩
theorem out_ret2 {fn : Func} {t u : Tmp} {Rs : List SP} {Post : Value → List SP → Prop} {v v' : Value} {L' : List SP} {x : Exit} (hx : x = .ret ∨ x = .normal) (hr : fn.results = #[.tmp t, .tmp u]) (hv : look K t = some v) (hv' : look K u = some v') (hp : Post (.tuple #[v, v']) L') (hL : Ent L (L' ++ Rs)) :
    Out w0 n x K L (RetQ P fn w0 Rs Post) := fun a w f c => by
  have h1 := results_tmp2 hr a.tmps P w
  have h2 : a.tmps.getD t undef = v := by simp [Array.getD_eq_getD_getElem?, f.slots t v hv]
  have h3 : a.tmps.getD u undef = v' := by simp [Array.getD_eq_getD_getElem?, f.slots u v' hv']
  rw [h2, h3] at h1
  rcases hx with rfl | rfl <;> exact ⟨f.defers, _, h1, _, L', rfl, hp, c.to hL.to⟩
theorem out_ret0 {fn : Func} {Rs : List SP} {Post : Value → List SP → Prop} {L' : List SP} {x : Exit} (hx : x = .ret ∨ x = .normal) (hr : fn.results = #[]) (hp : Post (.tuple #[]) L') (hL : Ent L (L' ++ Rs)) :
    Out w0 n x K L (RetQ P fn w0 Rs Post) := fun a w f c => by
  have h1 := results_none hr a.tmps P w
  rcases hx with rfl | rfl <;> exact ⟨f.defers, _, h1, _, L', rfl, hp, c.to hL.to⟩
/-- One result of a function: in a slot, or a struct in its box. -/
def resV (K : Ks) (l : List Value) : ResultVar → Option (Option Value)
  | .tmp t => (look K t).map some
  | .cell _ _ => some none
/-- What one result is, whatever the state. -/
def ResIs (P : Program) (w0 : World) (n : Nat) (K : Ks) (L : List SP) (r : ResultVar) (v : Value) : Prop :=
  ∀ a w, Fr n K a → Cl w0 L w → ((match r with
    | .tmp t => pure (a.tmps.getD t undef)
    | .cell b t => do loadVar t (← asAddr (a.tmps.getD b undef))) : Sem Value).run P w = .ok v w
theorem res_tmp {t : Tmp} {v : Value} (h : look K t = some v) : ResIs P w0 n K L (.tmp t) v := fun a w f c => by
  simp [Array.getD_eq_getD_getElem?, f.slots t v h]
theorem res_cell {b : Tmp} {t s g : Nat} {e : TypeId} {l : List Value} [ht : TAgg P t s] (h : look K b = some (.pointer (some ⟨g, 0, none⟩))) (hh : Has L (cells g e l) R) (hl : l.length = s) : ResIs P w0 n K L (.cell b t) (.agg l.toArray) := fun a w f c => by
  have h2 : a.tmps.getD b undef = .pointer (some ⟨g, 0, none⟩) := by simp [Array.getD_eq_getD_getElem?, f.slots b _ h]
  have h3 := run_loadVar_agg (P := P) (off := 0) (cs := l) ht.ok (c.row hh) (by simp [← hl]) hl
  simp only [h2, Sem.run_bind, asAddr_run, Result.andThen_ok, h3]
theorem out_res1 {fn : Func} {r : ResultVar} {Rs : List SP} {Post : Value → List SP → Prop} {v : Value} {L' : List SP} {x : Exit} (hx : x = .ret ∨ x = .normal) (hr : fn.results = #[r]) (h1 : ResIs P w0 n K L r v) (hp : Post v L') (hL : Ent L (L' ++ Rs)) :
    Out w0 n x K L (RetQ P fn w0 Rs Post) := fun a w f c => by
  have e1 := h1 a w f c
  have e : (results fn a.tmps).run P w = .ok v w := by
    unfold results
    rw [hr, Array.mapM_eq_mapM_toList]
    cases r <;> dsimp only at e1 <;> (try simp only [Sem.run_bind, Sem.run_pure, Result.ok.injEq, and_true] at e1) <;> simp only [List.mapM_cons, List.mapM_nil, Sem.run_bind, Sem.run_map, e1, Result.andThen_ok, Sem.run_pure] <;> rfl
  rcases hx with rfl | rfl <;> exact ⟨f.defers, _, e, _, L', rfl, hp, c.to hL.to⟩
theorem out_res2 {fn : Func} {r r' : ResultVar} {Rs : List SP} {Post : Value → List SP → Prop} {v v' : Value} {L' : List SP} {x : Exit} (hx : x = .ret ∨ x = .normal) (hr : fn.results = #[r, r']) (h1 : ResIs P w0 n K L r v) (h2 : ResIs P w0 n K L r' v') (hp : Post (.tuple #[v, v']) L') (hL : Ent L (L' ++ Rs)) :
    Out w0 n x K L (RetQ P fn w0 Rs Post) := fun a w f c => by
  have e1 := h1 a w f c
  have e2 := h2 a w f c
  have e : (results fn a.tmps).run P w = .ok (.tuple #[v, v']) w := by
    unfold results
    rw [hr, Array.mapM_eq_mapM_toList]
    cases r <;> cases r' <;> dsimp only at e1 e2 <;> (try simp only [Sem.run_bind, Sem.run_pure, Result.ok.injEq, and_true] at e1) <;> (try simp only [Sem.run_bind, Sem.run_pure, Result.ok.injEq, and_true] at e2) <;> simp only [List.mapM_cons, List.mapM_nil, Sem.run_bind, Sem.run_map, e1, e2, Result.andThen_ok, Sem.run_pure] <;> rfl
  rcases hx with rfl | rfl <;> exact ⟨f.defers, _, e, _, L', rfl, hp, c.to hL.to⟩
theorem out_res3 {fn : Func} {r r' r'' : ResultVar} {Rs : List SP} {Post : Value → List SP → Prop} {v v' v'' : Value} {L' : List SP} {x : Exit} (hx : x = .ret ∨ x = .normal) (hr : fn.results = #[r, r', r'']) (h1 : ResIs P w0 n K L r v) (h2 : ResIs P w0 n K L r' v') (h3 : ResIs P w0 n K L r'' v'') (hp : Post (.tuple #[v, v', v'']) L') (hL : Ent L (L' ++ Rs)) :
    Out w0 n x K L (RetQ P fn w0 Rs Post) := fun a w f c => by
  have e1 := h1 a w f c
  have e2 := h2 a w f c
  have e3 := h3 a w f c
  have e : (results fn a.tmps).run P w = .ok (.tuple #[v, v', v'']) w := by
    unfold results
    rw [hr, Array.mapM_eq_mapM_toList]
    cases r <;> cases r' <;> cases r'' <;> dsimp only at e1 e2 e3 <;> (try simp only [Sem.run_bind, Sem.run_pure, Result.ok.injEq, and_true] at e1) <;> (try simp only [Sem.run_bind, Sem.run_pure, Result.ok.injEq, and_true] at e2) <;> (try simp only [Sem.run_bind, Sem.run_pure, Result.ok.injEq, and_true] at e3) <;> simp only [List.mapM_cons, List.mapM_nil, Sem.run_bind, Sem.run_map, e1, e2, e3, Result.andThen_ok, Sem.run_pure] <;> rfl
  rcases hx with rfl | rfl <;> exact ⟨f.defers, _, e, _, L', rfl, hp, c.to hL.to⟩
end
end Go.Sl
