/-
  Maps that are owned, as association lists; look-up, store, delete, length, making. Program-independent. Conditions: none.
-/
import Derived.Test.YtajekiiabkaflaaSl5
set_option linter.unusedVariables false
set_option linter.unusedSimpArgs false
set_option linter.unusedSectionVars false
namespace Go.Sl
attribute [local semireducible] Run Out RunM QOp

/-! ### 1. Association lists -/
section
variable {κ υ : Type} [DecidableEq κ]
def aget : List (κ × υ) → κ → Option υ
  | [], _ => none
  | (k, v) :: l, x => if x = k then some v else aget l x
def aput : List (κ × υ) → κ → υ → List (κ × υ)
  | [], x, u => [(x, u)]
  | (k, v) :: l, x, u => if x = k then (x, u) :: l else (k, v) :: aput l x u
def adel : List (κ × υ) → κ → List (κ × υ)
  | [], _ => []
  | (k, v) :: l, x => if x = k then l else (k, v) :: adel l x
end

/-! ### 2. Keys -/
def fnd {κ : Type} [DecidableEq κ] (x : κ) : List κ → List MapEntry → Nat → Option (Nat × Value)
  | k :: ks, e :: es, i => if x = k then some (i, e.val) else fnd x ks es (i + 1)
  | _, _, _ => none
class KeyOK (P : Program) (kt : TypeId) {κ : Type} [DecidableEq κ] (kf : κ → Value) : Prop where
  find : ∀ (w : World) (x : κ) (ks : List κ) (es : List MapEntry), es.map (·.key) = ks.map kf → (Instr.findKey kt (kf x) es).run P w = .ok (fnd x ks es 0) w
  check : ∀ (w : World) (b : Bool) (x : κ), (Instr.checkKey b 10000 kt (kf x)).run P w = .ok () w
  stays : ∀ x : κ, Instr.sameBits 10000 (kf x) (kf x) = true
theorem findAsking_run {P : Program} {kt : TypeId} {κ : Type} [DecidableEq κ] {kf : κ → Value} (heq : ∀ (w : World) (x y : κ), (Op.equal kt (kf x) (kf y)).run P w = .ok (decide (x = y)) w) (w : World) (x : κ) :
    ∀ (ks : List κ) (es : List MapEntry) (i : Nat), es.map (·.key) = ks.map kf → (Instr.findAsking kt (kf x) es i).run P w = .ok (fnd x ks es i) w
  | [], [], i, _ => by simp [Instr.findAsking, fnd]
  | [], e :: es, i, h => by cases h
  | k :: ks, [], i, h => by cases h
  | k :: ks, e :: es, i, h => by
    simp only [List.map_cons, List.cons.injEq] at h
    unfold Instr.findAsking fnd
    rw [h.1, Sem.run_bind, heq, Result.andThen_ok]
    by_cases e1 : x = k
    · simp [e1]
    · simp only [e1, decide_false, Bool.false_eq_true, if_false]
      exact findAsking_run heq w x ks es (i + 1) h.2
theorem findNow_run {κ : Type} [DecidableEq κ] {kf : κ → Value} {td : TypeDesc} (heq : ∀ x y : κ, Instr.sameNow td (kf x) (kf y) = some (decide (x = y))) (x : κ) :
    ∀ (ks : List κ) (es : List MapEntry) (i : Nat), es.map (·.key) = ks.map kf → Instr.findNow td (kf x) es i = some (fnd x ks es i)
  | [], [], i, _ => by simp [Instr.findNow, fnd]
  | [], e :: es, i, h => by cases h
  | k :: ks, [], i, h => by cases h
  | k :: ks, e :: es, i, h => by
    simp only [List.map_cons, List.cons.injEq] at h
    unfold Instr.findNow fnd
    rw [h.1, heq]
    by_cases e1 : x = k
    · simp [e1]
    · simp only [e1, decide_false, if_false]
      exact findNow_run heq x ks es (i + 1) h.2
/-- Keys of a struct type: by '=='. -/
theorem keyOK_struct {P : Program} {kt : TypeId} {κ : Type} [DecidableEq κ] {kf : κ → Value} {fs : Array Field} (hu : P.underlying kt = some (.struct fs)) (heq : ∀ (w : World) (x y : κ), (Op.equal kt (kf x) (kf y)).run P w = .ok (decide (x = y)) w)
    (hck : ∀ (w : World) (b : Bool) (x : κ), (Instr.checkKey b 10000 kt (kf x)).run P w = .ok () w) (hst : ∀ x : κ, Instr.sameBits 10000 (kf x) (kf x) = true) : KeyOK P kt kf where
  find := fun w x ks es h => by
    unfold Instr.findKey
    rw [Sem.run_bind, run_underlying hu, Result.andThen_ok]
    cases es with
    | nil =>
      have : ks = [] := by cases ks with
        | nil => rfl
        | cons a b => cases h
      subst this
      simp [Instr.findNow, fnd]
    | cons e es =>
      have h1 : Instr.findNow (.struct fs) (kf x) (e :: es) 0 = none := by
        unfold Instr.findNow
        have : Instr.sameNow (.struct fs) (kf x) e.key = none := by unfold Instr.sameNow; rfl
        rw [this]
      rw [h1]
      exact findAsking_run heq w x ks (e :: es) 0 h
  check := hck
  stays := hst
theorem keyOK_now {P : Program} {kt : TypeId} {κ : Type} [DecidableEq κ] {kf : κ → Value} {td : TypeDesc} (hu : P.underlying kt = some td) (heq : ∀ x y : κ, Instr.sameNow td (kf x) (kf y) = some (decide (x = y)))
    (hck : ∀ (w : World) (b : Bool) (x : κ), (Instr.checkKey b 10000 kt (kf x)).run P w = .ok () w) (hst : ∀ x : κ, Instr.sameBits 10000 (kf x) (kf x) = true) : KeyOK P kt kf where
  find := fun w x ks es h => by
    unfold Instr.findKey
    rw [Sem.run_bind, run_underlying hu, Result.andThen_ok, findNow_run heq x ks es 0 h]
    rfl
  check := hck
  stays := hst

theorem map_eraseIdx' {α β : Type} (f : α → β) : ∀ (l : List α) (i : Nat), (l.eraseIdx i).map f = (l.map f).eraseIdx i
  | [], _ => by simp
  | a :: l, 0 => by simp
  | a :: l, i + 1 => by simp [map_eraseIdx' f l i]
/-! ### 3. A map that is owned -/
section
variable {κ υ : Type} [DecidableEq κ]
def mp (kf : κ → Value) (vf : υ → Value) (b : Nat) (l : List (κ × υ)) : SP := fun h =>
  ∃ es clock, h b = some (.map es clock) ∧ es.toList.map (fun e => (e.key, e.val)) = l.map (fun p => (kf p.1, vf p.2)) ∧ (es.toList.map (·.born)).Nodup ∧ (∀ e ∈ es.toList, e.born < clock) ∧ (l.map (·.1)).Nodup
variable {kf : κ → Value} {vf : υ → Value}
theorem keys_of {es : Array MapEntry} {l : List (κ × υ)} (h : es.toList.map (fun e => (e.key, e.val)) = l.map (fun p => (kf p.1, vf p.2))) : es.toList.map (·.key) = (l.map (·.1)).map kf := by
  have := congrArg (List.map Prod.fst) h
  simpa [List.map_map, Function.comp_def] using this
theorem fnd_get (x : κ) : ∀ (l : List (κ × υ)) (es : List MapEntry) (i : Nat), es.map (fun e => (e.key, e.val)) = l.map (fun p => (kf p.1, vf p.2)) →
    (fnd x (l.map (·.1)) es i).map (·.2) = (aget l x).map vf
  | [], [], _, _ => rfl
  | [], e :: es, _, h => by cases h
  | p :: l, [], _, h => by cases h
  | p :: l, e :: es, i, h => by
    simp only [List.map_cons, List.cons.injEq, Prod.mk.injEq] at h
    simp only [List.map_cons, fnd, aget]
    by_cases e1 : x = p.1
    · simp [e1, h.1.2]
    · simp only [e1, if_false]
      exact fnd_get x l es (i + 1) h.2
theorem fnd_none (x : κ) : ∀ (l : List (κ × υ)) (es : List MapEntry) (i : Nat), es.length = l.length → fnd x (l.map (·.1)) es i = none → x ∉ l.map (·.1)
  | [], _, _, _, _ => by simp
  | p :: l, [], _, h, _ => by cases h
  | p :: l, e :: es, i, h, h2 => by
    simp only [List.map_cons, fnd] at h2
    by_cases e1 : x = p.1
    · simp [e1] at h2
    · simp only [e1, if_false] at h2
      simp only [List.map_cons, List.mem_cons, not_or]
      exact ⟨e1, fnd_none x l es (i + 1) (by simpa using h) h2⟩
theorem fnd_some (x : κ) : ∀ (l : List (κ × υ)) (es : List MapEntry) (i j : Nat) (v : Value), es.length = l.length → fnd x (l.map (·.1)) es i = some (j, v) →
    ∃ p k, j = i + k ∧ l[k]? = some p ∧ p.1 = x ∧ (∀ k', k' < k → ∀ q, l[k']? = some q → q.1 ≠ x)
  | [], _, _, _, _, _, h2 => by simp [fnd] at h2
  | p :: l, [], _, _, _, h, _ => by cases h
  | p :: l, e :: es, i, j, v, h, h2 => by
    simp only [List.map_cons, fnd] at h2
    by_cases e1 : x = p.1
    · simp only [e1, if_true, Option.some.injEq, Prod.mk.injEq] at h2
      exact ⟨p, 0, by omega, rfl, e1.symm, fun k' hk => by omega⟩
    · simp only [e1, if_false] at h2
      obtain ⟨q, k, h3, h4, h5, h6⟩ := fnd_some x l es (i + 1) j v (by simpa using h) h2
      refine ⟨q, k + 1, by omega, by simpa using h4, h5, fun k' hk q' hq => ?_⟩
      cases k' with
      | zero => obtain rfl : p = q' := by simpa using hq
                exact fun h => e1 h.symm
      | succ k' => exact h6 k' (by omega) q' (by simpa using hq)
theorem aput_new (x : κ) (u : υ) : ∀ l : List (κ × υ), x ∉ l.map (·.1) → aput l x u = l ++ [(x, u)]
  | [], _ => rfl
  | p :: l, h => by
    simp only [List.map_cons, List.mem_cons, not_or] at h
    simp only [aput, h.1, if_false, List.cons_append]
    rw [aput_new x u l h.2]
theorem aput_old (x : κ) (u : υ) : ∀ (l : List (κ × υ)) (k : Nat) (p : κ × υ), l[k]? = some p → p.1 = x → (∀ k', k' < k → ∀ q, l[k']? = some q → q.1 ≠ x) → aput l x u = l.set k (x, u)
  | [], k, p, h, _, _ => by simp at h
  | q :: l, 0, p, h, hp, _ => by
    obtain rfl : q = p := by simpa using h
    simp [aput, hp]
  | q :: l, k + 1, p, h, hp, hk => by
    have : ¬ x = q.1 := fun e => hk 0 (by omega) q (by simp) e.symm
    simp only [aput, this, if_false, List.set_cons_succ]
    rw [aput_old x u l k p (by simpa using h) hp (fun k' hk' q' hq' => hk (k' + 1) (by omega) q' (by simpa using hq'))]
theorem adel_old (x : κ) : ∀ (l : List (κ × υ)) (k : Nat) (p : κ × υ), l[k]? = some p → p.1 = x → (∀ k', k' < k → ∀ q, l[k']? = some q → q.1 ≠ x) → adel l x = l.eraseIdx k
  | [], k, p, h, _, _ => by simp at h
  | q :: l, 0, p, h, hp, _ => by
    obtain rfl : q = p := by simpa using h
    simp [adel, hp]
  | q :: l, k + 1, p, h, hp, hk => by
    have : ¬ x = q.1 := fun e => hk 0 (by omega) q (by simp) e.symm
    simp only [adel, this, if_false, List.eraseIdx_cons_succ]
    rw [adel_old x l k p (by simpa using h) hp (fun k' hk' q' hq' => hk (k' + 1) (by omega) q' (by simpa using hq'))]
theorem adel_none (x : κ) : ∀ l : List (κ × υ), x ∉ l.map (·.1) → adel l x = l
  | [], _ => rfl
  | p :: l, h => by
    simp only [List.map_cons, List.mem_cons, not_or] at h
    simp only [adel, h.1, if_false]
    rw [adel_none x l h.2]
theorem aget_none {x : κ} : ∀ {l : List (κ × υ)}, aget l x = none ↔ x ∉ l.map (·.1)
  | [] => by simp [aget]
  | p :: l => by
    by_cases e1 : x = p.1
    · simp [aget, e1]
    · simp [aget, e1, aget_none (l := l)]
theorem aput_keys (x : κ) (u : υ) (l : List (κ × υ)) (h : (l.map (·.1)).Nodup) : ((aput l x u).map (·.1)).Nodup := by
  induction l with
  | nil => simp [aput]
  | cons p l ih =>
    simp only [List.map_cons, List.nodup_cons] at h
    unfold aput
    by_cases e1 : x = p.1
    · simp only [e1, if_true, List.map_cons, List.nodup_cons]; exact h
    · simp only [e1, if_false, List.map_cons, List.nodup_cons]
      refine ⟨fun hm => ?_, ih h.2⟩
      have : ∀ l : List (κ × υ), p.1 ∈ (aput l x u).map (·.1) → p.1 ∈ l.map (·.1) := by
        intro l
        induction l with
        | nil => intro hm; simp [aput] at hm; exact absurd hm.symm e1
        | cons q l ih2 =>
          intro hm
          unfold aput at hm
          by_cases e2 : x = q.1
          · simp only [e2, if_true, List.map_cons, List.mem_cons] at hm ⊢; exact hm
          · simp only [e2, if_false, List.map_cons, List.mem_cons] at hm ⊢; exact hm.imp id ih2
      exact h.1 (this l hm)
theorem adel_keys (x : κ) (l : List (κ × υ)) (h : (l.map (·.1)).Nodup) : ((adel l x).map (·.1)).Nodup := by
  have hs : ∀ l : List (κ × υ), (adel l x).Sublist l := by
    intro l
    induction l with
    | nil => exact List.Sublist.refl _
    | cons p l ih =>
      unfold adel
      split
      · exact List.sublist_cons_self _ _
      · exact ih.cons_cons _
  exact ((hs l).map _).nodup h
end

/-! ### 4. The operations -/
class TMap (P : Program) (t : TypeId) (k e : outParam TypeId) : Prop where
  ok : P.underlying t = some (.map k e)
class TVal (P : Program) (t : TypeId) (z : outParam Value) : Prop where
  ok : (P.info? t).bind (·.zero) = some z
theorem zeroValue_run {P : Program} {t : TypeId} {z : Value} (h : (P.info? t).bind (·.zero) = some z) (w : World) : (zeroValue t).run P w = .ok z w := by
  cases hi : P.info? t with
  | none => simp [hi] at h
  | some i =>
    have : i.zero = some z := by simpa [hi] using h
    simp [zeroValue, typeInfo, hi, this]
section
variable {κ υ : Type} [DecidableEq κ] {kf : κ → Value} {vf : υ → Value} {P : Program} {w0 : World} {n : Nat} {K : Ks} {L R : List SP} {Q : Qt} {m : Bool} {ops : Array Oper} {rest : List Oper} {ty : TypeId} {pos : String} {af : Array Edge} {d : Nat} {b : Nat} {l : List (κ × υ)} {t kt e : TypeId}
theorem Cl.mp {w : World} (c : Cl w0 L w) (h : Has L (Sl.mp kf vf b l) R) : ∃ es clock, w.heap[b]? = some (.map es clock) ∧ es.toList.map (fun e => (e.key, e.val)) = l.map (fun p => (kf p.1, vf p.2)) ∧ (es.toList.map (·.born)).Nodup ∧ (∀ e ∈ es.toList, e.born < clock) ∧ (l.map (·.1)).Nodup := by
  obtain ⟨h1, ⟨es, clock, h2, h3⟩, hm⟩ := seps_hd (c.sat.has h)
  exact ⟨es, clock, hm _ _ h2, h3⟩
theorem run_getObj_map' {w : World} {es : Array MapEntry} {clock : Nat} (h : w.heap[b]? = some (.map es clock)) : (getObj b).run P w = .ok (.map es clock) w := by
  simp [getObj, Sem.run, h]
theorem run_setObj_map' {w : World} {es : Array MapEntry} {clock : Nat} (h : w.heap[b]? = some (.map es clock)) (o : Obj) : (setObj b o).run P w = .ok () (setObj' w b o) := by
  simp [setObj, Sem.run, h, setObj']
theorem run_lookup {w : World} {x : κ} {ok : Bool} {z : Value} {es : Array MapEntry} {clock : Nat} (hu : P.underlying t = some (.map kt e)) (hk : KeyOK P kt kf) (hz : (P.info? e).bind (·.zero) = some z) (hb : w.heap[b]? = some (.map es clock))
    (hes : es.toList.map (fun e => (e.key, e.val)) = l.map (fun p => (kf p.1, vf p.2))) :
    (Instr.lookup t (.map (some b)) (kf x) ok).run P w = .ok (match aget l x with
      | some v => if ok then .tuple #[vf v, .bool true] else vf v
      | none => if ok then .tuple #[z, .bool false] else z) w := by
  have h1 := hk.find w x _ es.toList (keys_of hes)
  have h2 := fnd_get (kf := kf) (vf := vf) x l es.toList 0 hes
  unfold Instr.lookup
  rw [Sem.run_bind, run_underlying hu, Result.andThen_ok]
  dsimp only
  simp only [Sem.run_bind, run_getObj_map' hb, Result.andThen_ok, Sem.run_pure, hk.check, h1]
  cases hf : fnd x (l.map (·.1)) es.toList 0 with
  | none =>
    rw [hf] at h2
    cases hg : aget l x with
    | some v => rw [hg] at h2; cases h2
    | none =>
      simp only [Sem.run_bind, zeroValue_run hz, Result.andThen_ok, Sem.run_pure]
  | some p =>
    rw [hf] at h2
    cases hg : aget l x with
    | none => rw [hg] at h2; cases h2
    | some v =>
      rw [hg] at h2
      have : p.2 = vf v := by simpa using h2
      simp only [Sem.run_bind, Sem.run_pure, Result.andThen_ok, this]
theorem m_lookup {x y : Operand} {k : κ} {ok : Bool} {z : Value} [ht : TMap P t kt e] [hk : KeyOK P kt kf] [hz : TVal P e z] (hd : Nat.ble (d + 1) n = true) (hx : ev K x = some (.map (some b))) (hy : ev K y = some (kf k)) (hh : Has L (mp kf vf b l) R)
    (h1 : ∀ v, aget l k = some v → RunM P w0 n m ops rest ((d, if ok then .tuple #[vf v, .bool true] else vf v) :: K) L Q)
    (h2 : aget l k = none → RunM P w0 n m ops rest ((d, if ok then .tuple #[z, .bool false] else z) :: K) L Q) : RunM P w0 n m ops (⟨some d, .lookup t x y ok, ty, pos, af, none⟩ :: rest) K L Q := by
  have key : ∀ V, (match aget l k with
      | some v => if ok then .tuple #[vf v, .bool true] else vf v
      | none => if ok then .tuple #[z, .bool false] else z) = V → QOp P w0 n (.lookup t x y ok) K L V := fun V hV d ty pos af g a w f c => by
    obtain ⟨es, clock, hb, hes, _⟩ := c.mp hh
    have := run_lookup (P := P) (ok := ok) (x := k) ht.ok hk hz.ok hb hes
    rw [hV] at this
    simp [execOp, f.eval hx, f.eval hy, this]
  cases hg : aget l k with
  | some v => exact runM_q hd (key _ (by rw [hg])) (h1 v hg)
  | none => exact runM_q hd (key _ (by rw [hg])) (h2 hg)
theorem m_lookup1 {x y : Operand} {k : κ} {z : Value} [ht : TMap P t kt e] [hk : KeyOK P kt kf] [hz : TVal P e z] (hd : Nat.ble (d + 1) n = true) (hx : ev K x = some (.map (some b))) (hy : ev K y = some (kf k)) (hh : Has L (mp kf vf b l) R)
    (h1 : ∀ v, aget l k = some v → RunM P w0 n m ops rest ((d, vf v) :: K) L Q) (h2 : aget l k = none → RunM P w0 n m ops rest ((d, z) :: K) L Q) : RunM P w0 n m ops (⟨some d, .lookup t x y false, ty, pos, af, none⟩ :: rest) K L Q :=
  m_lookup (ok := false) hd hx hy hh h1 h2
theorem m_lookup2 {x y : Operand} {k : κ} {z : Value} [ht : TMap P t kt e] [hk : KeyOK P kt kf] [hz : TVal P e z] (hd : Nat.ble (d + 1) n = true) (hx : ev K x = some (.map (some b))) (hy : ev K y = some (kf k)) (hh : Has L (mp kf vf b l) R)
    (h1 : ∀ v, aget l k = some v → RunM P w0 n m ops rest ((d, .tuple #[vf v, .bool true]) :: K) L Q) (h2 : aget l k = none → RunM P w0 n m ops rest ((d, .tuple #[z, .bool false]) :: K) L Q) : RunM P w0 n m ops (⟨some d, .lookup t x y true, ty, pos, af, none⟩ :: rest) K L Q :=
  m_lookup (ok := true) hd hx hy hh h1 h2
/-- A look-up in a nil map. -/
theorem q_lookup_nil {x y : Operand} {k : κ} {ok : Bool} {z : Value} [ht : TMap P t kt e] [hk : KeyOK P kt kf] [hz : TVal P e z] (hx : ev K x = some (.map none)) (hy : ev K y = some (kf k)) :
    QOp P w0 n (.lookup t x y ok) K L (if ok then .tuple #[z, .bool false] else z) := fun d ty pos af g a w f c => by
  have h1 := hk.find w k [] [] rfl
  have : (Instr.lookup t (.map none) (kf k) ok).run P w = .ok (if ok then .tuple #[z, .bool false] else z) w := by
    unfold Instr.lookup
    rw [Sem.run_bind, run_underlying ht.ok, Result.andThen_ok]
    dsimp only
    simp only [Sem.run_bind, Result.andThen_ok, Sem.run_pure, hk.check, h1, fnd, zeroValue_run hz.ok]
  simp [execOp, f.eval hx, f.eval hy, this]
theorem mp_put {es : Array MapEntry} {clock : Nat} {x : κ} {u : υ} (hes : es.toList.map (fun e => (e.key, e.val)) = l.map (fun p => (kf p.1, vf p.2))) (hb : (es.toList.map (·.born)).Nodup) (hc : ∀ e ∈ es.toList, e.born < clock) (hn : (l.map (·.1)).Nodup) {w : World} (hk : KeyOK P kt kf) (hu : P.underlying t = some (.map kt e)) (hw : w.heap[b]? = some (.map es clock)) :
    ∃ es' clock', (Instr.mapUpdate t (.map (some b)) (kf x) (vf u)).run P w = .ok () (setObj' w b (.map es' clock')) ∧ es'.toList.map (fun e => (e.key, e.val)) = (aput l x u).map (fun p => (kf p.1, vf p.2)) ∧ (es'.toList.map (·.born)).Nodup ∧ (∀ e ∈ es'.toList, e.born < clock') := by
  have h1 := hk.find w x _ es.toList (keys_of hes)
  have hlen : es.toList.length = l.length := by have := congrArg List.length hes; simpa using this
  cases hf : fnd x (l.map (·.1)) es.toList 0 with
  | none =>
    have hx := fnd_none x l es.toList 0 hlen hf
    refine ⟨es.push ⟨kf x, vf u, clock⟩, clock + 1, ?_, ?_, ?_, ?_⟩
    · rw [hf] at h1
      unfold Instr.mapUpdate
      rw [Sem.run_bind, run_underlying hu, Result.andThen_ok]
      dsimp only
      simp only [Sem.run_bind, run_getObj_map' hw, Result.andThen_ok, hk.check, h1, run_setObj_map' hw]
    · rw [aput_new x u l hx]; simp [hes]
    · simp only [Array.toList_push, List.map_append, List.map_cons, List.map_nil]
      rw [List.nodup_append]
      refine ⟨hb, by simp, ?_⟩
      intro a ha c hc'
      obtain ⟨e0, he, rfl⟩ := List.mem_map.1 ha
      have := hc e0 he
      simp at hc'
      omega
    · intro e0 he
      simp only [Array.toList_push, List.mem_append, List.mem_singleton] at he
      rcases he with he | rfl
      · have := hc e0 he; omega
      · simp
  | some p =>
    obtain ⟨j, v⟩ := p
    obtain ⟨q, k, h2, h3, h4, h5⟩ := fnd_some x l es.toList 0 j v hlen hf
    obtain rfl : j = k := by omega
    have hjl : j < es.toList.length := by rw [hlen]; exact (List.getElem?_eq_some_iff.1 h3).1
    have hjs : j < es.size := by simpa using hjl
    have hkey : es[j].key = kf x := by
      have h6 := congrArg (fun z => z[j]?) hes
      simp only [List.getElem?_map, h3, Option.map_some] at h6
      rw [List.getElem?_eq_getElem hjl] at h6
      simp only [Option.map_some, Option.some.injEq, Prod.mk.injEq, Array.getElem_toList] at h6
      rw [h6.1, h4]
    have hmod : (es.modify j fun e => { e with key := kf x, val := vf u }).toList = es.toList.set j { es[j] with key := kf x, val := vf u } := by
      apply List.ext_getElem?
      intro i
      rw [Array.getElem?_toList, Array.getElem?_modify, List.getElem?_set]
      by_cases e1 : j = i
      · subst e1; simp [hjs]
      · simp [e1]
    refine ⟨es.modify j (fun e => { e with key := kf x, val := vf u }), clock, ?_, ?_, ?_, ?_⟩
    · rw [hf] at h1
      unfold Instr.mapUpdate
      rw [Sem.run_bind, run_underlying hu, Result.andThen_ok]
      dsimp only
      have hst : (Instr.keyThatStays (((es[j]?).map (·.key)).getD (kf x)) (kf x)).run P w = .ok (kf x) w := by
        rw [Array.getElem?_eq_getElem hjs]
        simp [Instr.keyThatStays, hkey, hk.stays]
      simp only [Sem.run_bind, run_getObj_map' hw, Result.andThen_ok, hk.check, h1, hst, run_setObj_map' hw]
    · rw [hmod, aput_old x u l j q h3 h4 h5, List.map_set, List.map_set, hes]
    · rw [hmod, List.map_set]
      have : es[j].born = (es.toList.map (·.born))[j]'(by simpa using hjs) := by simp
      rw [show ({ es[j] with key := kf x, val := vf u } : MapEntry).born = es[j].born from rfl, this, List.set_getElem_self]
      exact hb
    · intro e0 he
      rw [hmod] at he
      rcases List.mem_or_eq_of_mem_set he with he | rfl
      · exact hc e0 he
      · exact hc es[j] (by simp)
theorem w_mapUpdate {x y v : Operand} {k : κ} {u : υ} {uv : Value} [ht : TMap P t kt e] [hk : KeyOK P kt kf] (hx : ev K x = some (.map (some b))) (hy : ev K y = some (kf k)) (hv : ev K v = some uv) (hh : Has L (mp kf vf b l) R) (huv : vf u = uv)
    (h : RunM P w0 n false ops rest K (mp kf vf b (aput l k u) :: R) Q) : RunM P w0 n false ops (⟨none, .mapUpdate t x y v, ty, pos, af, none⟩ :: rest) K L Q := by
  subst huv
  refine runM_w fun a w f c => ?_
  obtain ⟨es, clock, hb, h1, h2, h3, h4⟩ := c.mp hh
  obtain ⟨es', clock', hr, g1, g2, g3⟩ := mp_put (P := P) (e := e) (t := t) (x := k) (u := u) h1 h2 h3 h4 hk ht.ok hb
  refine ⟨undef, _, .inr ⟨by simp [execOp, f.eval hx, f.eval hy, f.eval hv, hr]; rfl, rfl⟩, K, _, f, ⟨c.env.set b _, ?_⟩, h⟩
  obtain ⟨k1, k2, ha, he, hA, hR⟩ := c.sat.has hh
  have hb1 : k1 b = some (.map es clock) := by
    obtain ⟨es0, c0, hb0, _⟩ := hA
    have : hp w b = some (.map es0 c0) := by rw [he]; simp [join, hb0]
    rw [hb0, ← this]; exact hb
  have hs : seps (pts b (.map es clock) :: R) (hp w) := ⟨k1, k2, ha, he, hb1, hR⟩
  have hs2 := seps_upd (o' := .map es' clock') hs
  rw [← hp_set hb] at hs2
  exact seps_head (fun h hb' => ⟨es', clock', hb', g1, g2, g3, aput_keys k u l h4⟩) hs2
theorem w_delete {x y : Operand} {k : κ} {d : Option Nat} [ht : TMap P t kt e] [hk : KeyOK P kt kf] (hd : d = none) (hx : ev K x = some (.map (some b))) (hy : ev K y = some (kf k)) (hh : Has L (mp kf vf b l) R) {t2 : TypeId}
    (h : RunM P w0 n false ops rest K (mp kf vf b (adel l k) :: R) Q) : RunM P w0 n false ops (⟨d, .call ⟨.builtin .delete, #[x, y], #[t, t2]⟩, ty, pos, af, none⟩ :: rest) K L Q := by
  subst hd
  refine runM_w fun a w f c => ?_
  obtain ⟨es, clock, hb, h1, h2, h3, h4⟩ := c.mp hh
  have hlen : es.toList.length = l.length := by have := congrArg List.length h1; simpa using this
  have hfd := hk.find w k _ es.toList (keys_of h1)
  obtain ⟨es', hr, g1, g2, g3⟩ : ∃ es', (Builtin.delete_ #[t, t2] ty #[.map (some b), kf k]).run P w = .ok (.tuple #[]) (setObj' w b (.map es' clock)) ∧ es'.toList.map (fun e => (e.key, e.val)) = (adel l k).map (fun p => (kf p.1, vf p.2)) ∧ (es'.toList.map (·.born)).Nodup ∧ (∀ e ∈ es'.toList, e.born < clock) := by
    cases hf : fnd k (l.map (·.1)) es.toList 0 with
    | none =>
      rw [hf] at hfd
      refine ⟨es, ?_, by rw [adel_none k l (fnd_none k l es.toList 0 hlen hf)]; exact h1, h2, h3⟩
      simp [Builtin.delete_, run_underlying ht.ok, run_getObj_map' hb, hk.check, hfd, run_setObj_map' hb]
    | some p =>
      obtain ⟨j, v⟩ := p
      obtain ⟨q, k', e2, e3, e4, e5⟩ := fnd_some k l es.toList 0 j v hlen hf
      obtain rfl : j = k' := by omega
      have hjl : j < es.toList.length := by rw [hlen]; exact (List.getElem?_eq_some_iff.1 e3).1
      have hjs : j < es.size := by simpa using hjl
      have hsub : (es.eraseIdxIfInBounds j).toList = es.toList.eraseIdx j := by
        unfold Array.eraseIdxIfInBounds
        rw [dif_pos hjs]
        simp
      rw [hf] at hfd
      refine ⟨es.eraseIdxIfInBounds j, ?_, ?_, ?_, ?_⟩
      · simp [Builtin.delete_, run_underlying ht.ok, run_getObj_map' hb, hk.check, hfd, run_setObj_map' hb]
      · rw [hsub, adel_old k l j q e3 e4 e5, map_eraseIdx', map_eraseIdx', h1]
      · rw [hsub, map_eraseIdx']
        exact (List.eraseIdx_sublist _ _).nodup h2
      · intro e0 he
        rw [hsub] at he
        exact h3 e0 ((List.eraseIdx_sublist _ _).subset he)
  refine ⟨.tuple #[], setObj' w b (.map es' clock), .inl (by simp [execOp, resolve, invoke, builtin, f.eval hx, f.eval hy, hr]), K, _, f, ⟨c.env.set b _, ?_⟩, h⟩
  obtain ⟨k1, k2, ha, he, hA, hR⟩ := c.sat.has hh
  have hb1 : k1 b = some (.map es clock) := by
    obtain ⟨es0, c0, hb0, _⟩ := hA
    have : hp w b = some (.map es0 c0) := by rw [he]; simp [join, hb0]
    rw [hb0, ← this]; exact hb
  have hs : seps (pts b (.map es clock) :: R) (hp w) := ⟨k1, k2, ha, he, hb1, hR⟩
  have hs2 := seps_upd (o' := .map es' clock) hs
  rw [← hp_set hb] at hs2
  exact seps_head (fun h hb' => ⟨es', clock, hb', g1, g2, g3, adel_keys k l h4⟩) hs2
theorem q_len_map {x : Operand} [ht : TMap P t kt e] (hx : ev K x = some (.map (some b))) (hh : Has L (mp kf vf b l) R) : QOp P w0 n (.call ⟨.builtin .len, #[x], #[t]⟩) K L (.int .i64 (l.length : Nat)) := fun d ty pos af g a w f c => by
  obtain ⟨es, clock, hb, h1, h2, h3, h4⟩ := c.mp hh
  have hlen : es.size = l.length := by have := congrArg List.length h1; simpa using this
  simp [execOp, resolve, invoke, builtin, f.eval hx, Builtin.len_, run_underlying ht.ok, run_getObj_map' hb, goInt, hlen]
theorem q_len_map_nil {x : Operand} [ht : TMap P t kt e] (hx : ev K x = some (.map none)) : QOp P w0 n (.call ⟨.builtin .len, #[x], #[t]⟩) K L (.int .i64 0) := fun d ty pos af g a w f c => by
  simp [execOp, resolve, invoke, builtin, f.eval hx, Builtin.len_, run_underlying ht.ok, goInt]
theorem w_makeMap (kf : κ → Value) (vf : υ → Value) (hd : Nat.ble (d + 1) n = true) (h : ∀ b, RunM P w0 n false ops rest ((d, .map (some b)) :: K) (mp kf vf b [] :: L) Q) : RunM P w0 n false ops (⟨some d, .makeMap t none, ty, pos, af, none⟩ :: rest) K L Q := by
  refine runM_w fun a w f c => ?_
  refine ⟨.map (some w.heap.size), w.alloc (.map #[] 0), .inl (by simp [execOp, Instr.makeMap]), _, _, f.put hd, ⟨c.env.alloc _, ?_⟩, h w.heap.size⟩
  exact seps_head (fun h hb => ⟨#[], 0, hb, by simp, by simp, by simp, by simp⟩) (c.sat.alloc (.map #[] 0))
end
end Go.Sl
