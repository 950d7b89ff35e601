/-
  Rows of assertions; memory that is read alone; assertions opened and shut. Program-independent. Conditions: none.
-/
import Derived.Test.YtajekiiabkaflaaSl6
set_option linter.unusedVariables false
set_option linter.unusedSimpArgs false
set_option linter.unusedSectionVars false
namespace Go.Sl
attribute [local semireducible] Run Out RunM QOp

/-! ### 1. Rows of assertions -/
def bigs {α : Type} (f : α → SP) (xs : List α) : SP := seps (xs.map f)
section
variable {α : Type} {f : α → SP}
theorem bigs_nil {L : List SP} : Ent L (bigs f [] :: L) := ⟨fun h hs => ⟨fun _ => none, h, fun _ => .inl rfl, by funext i; simp [join], trivial, hs⟩⟩
theorem seps_flat {M R : List SP} {h : Hp} : seps (seps M :: R) h ↔ seps (M ++ R) h := by
  rw [seps_app]
  constructor
  · rintro ⟨h1, h2, a, e, hM, hR⟩; exact ⟨h1, h2, a, e, hM, hR⟩
  · rintro ⟨h1, h2, a, e, hM, hR⟩; exact ⟨h1, h2, a, e, hM, hR⟩
theorem has_nth {M : List SP} : ∀ (L : List SP) (i : Nat) (A : SP), L[i]? = some A → Has L A (L.eraseIdx i)
  | [], _, _, h => by simp at h
  | B :: L, 0, A, h => by
    obtain rfl : B = A := by simpa using h
    exact has_hd
  | B :: L, i + 1, A, h => by
    simp only [List.eraseIdx_cons_succ]
    exact has_tl (has_nth (M := M) L i A (by simpa using h))
theorem has_nth_back : ∀ (L : List SP) (i : Nat) (A B : SP), L[i]? = some A → Ent (B :: L.eraseIdx i) (L.set i B)
  | [], _, _, _, h => by simp at h
  | C :: L, 0, A, B, h => by simp only [List.eraseIdx_cons_zero, List.set_cons_zero]; exact ent_refl
  | C :: L, i + 1, A, B, h => by
    simp only [List.eraseIdx_cons_succ, List.set_cons_succ]
    exact ⟨fun h' hs => seps_tail (has_nth_back L i A B (by simpa using h)).to (seps_swap hs)⟩
theorem bigs_get {xs : List α} {i : Nat} {x : α} {R : List SP} (hx : xs[i]? = some x) : Ent (bigs f xs :: R) (f x :: bigs f (xs.eraseIdx i) :: R) := by
  refine ⟨fun h hs => ?_⟩
  have h1 := (has_nth (M := []) (xs.map f) i (f x) (by simp [hx])).to
  have h2 : seps (seps (f x :: (xs.map f).eraseIdx i) :: R) h := seps_head h1 hs
  rw [seps_flat] at h2
  have h3 : ∀ h, seps ((xs.map f).eraseIdx i ++ R) h → seps (bigs f (xs.eraseIdx i) :: R) h := fun h hs => by
    unfold bigs
    rw [seps_flat, map_eraseIdx']
    exact hs
  exact seps_tail h3 h2
theorem bigs_set {xs : List α} {i : Nat} {x x' : α} {R : List SP} (hx : xs[i]? = some x) : Ent (f x' :: bigs f (xs.eraseIdx i) :: R) (bigs f (xs.set i x') :: R) := by
  refine ⟨fun h hs => ?_⟩
  have h1 : seps (f x' :: ((xs.map f).eraseIdx i ++ R)) h := seps_tail (fun h hs => by
    unfold bigs at hs
    rw [seps_flat, map_eraseIdx'] at hs
    exact hs) hs
  have h2 : seps (seps (f x' :: (xs.map f).eraseIdx i) :: R) h := by rw [seps_flat]; exact h1
  unfold bigs
  rw [List.map_set]
  exact seps_head (has_nth_back (xs.map f) i (f x) (f x') (by simp [hx])).to h2
theorem bigs_back {xs : List α} {i : Nat} {x : α} {R : List SP} (hx : xs[i]? = some x) : Ent (f x :: bigs f (xs.eraseIdx i) :: R) (bigs f xs :: R) := by
  have h := bigs_set (f := f) (x' := x) (R := R) hx
  have e : xs.set i x = xs := by
    apply List.ext_getElem?
    intro j
    rw [List.getElem?_set]
    by_cases e1 : i = j
    · subst e1
      have : i < xs.length := (List.getElem?_eq_some_iff.1 hx).1
      rw [if_pos rfl, if_pos this, hx]
    · simp [e1]
  rwa [e] at h
theorem bigs_snoc {xs : List α} {x : α} {R : List SP} : Ent (bigs f xs :: f x :: R) (bigs f (xs ++ [x]) :: R) := by
  refine ⟨fun h hs => ?_⟩
  unfold bigs at hs ⊢
  rw [seps_flat] at hs ⊢
  rw [List.map_append, List.append_assoc]
  exact hs
end

/-! ### 2. Assertions opened and shut -/
/-- A can be taken as one of the lists that Φ speaks of. -/
def Opens (A : SP) (Φ : List SP → Prop) : Prop := ∀ h, A h → ∃ M, Φ M ∧ seps M h
section
variable {P : Program} {w0 : World} {n : Nat} {K : Ks} {L R : List SP} {Q : Qt} {m : Bool} {ops : Array Oper} {rest : List Oper}
theorem Cl.opens {A : SP} {Φ : List SP → Prop} {w : World} (c : Cl w0 (A :: R) w) (ho : Opens A Φ) : ∃ M, Φ M ∧ Cl w0 (M ++ R) w := by
  obtain ⟨h1, h2, a, e, hA, hR⟩ := c.sat
  obtain ⟨M, hM, hs⟩ := ho h1 hA
  exact ⟨M, hM, c.env, seps_app.2 ⟨h1, h2, a, e, hs, hR⟩⟩
theorem run_open {A : SP} {Φ : List SP → Prop} {c : Code} (ho : Opens A Φ) (hh : Has L A R) (h : ∀ M, Φ M → Run P w0 n c K (M ++ R) Q) : Run P w0 n c K L Q := fun a w f hc => by
  obtain ⟨M, hM, hc'⟩ := Cl.opens ⟨hc.env, hc.sat.has hh⟩ ho
  exact h M hM a w f hc'
theorem runM_open {A : SP} {Φ : List SP → Prop} (ho : Opens A Φ) (hh : Has L A R) (h : ∀ M, Φ M → RunM P w0 n false ops rest K (M ++ R) Q) : RunM P w0 n false ops rest K L Q := fun a w f hc => by
  obtain ⟨M, hM, hc'⟩ := Cl.opens ⟨hc.env, hc.sat.has hh⟩ ho
  exact h M hM a w f hc'
theorem out_open {A : SP} {Φ : List SP → Prop} {x : Exit} (ho : Opens A Φ) (hh : Has L A R) (h : ∀ M, Φ M → Out w0 n x K (M ++ R) Q) : Out w0 n x K L Q := fun a w f hc => by
  obtain ⟨M, hM, hc'⟩ := Cl.opens ⟨hc.env, hc.sat.has hh⟩ ho
  exact h M hM a w f hc'
theorem ent_shut {A : SP} {M : List SP} (hA : ∀ h, seps M h → A h) (s : Split L M R) : Ent L (A :: R) := ⟨fun h hs => seps_app_shut hA (s.to h hs)⟩
theorem ent_shut2 {A : SP} {M : List SP} (hA : ∀ h, seps M h → A h) (s : Ent L (M ++ R)) : Ent L (A :: R) := ⟨fun h hs => seps_app_shut hA (s.to h hs)⟩
theorem ent_back {α : Type} {f : α → SP} {xs : List α} {i : Nat} {x : α} {L1 M : List SP} (h1 : Has L (f x) L1) (h2 : Has L1 (bigs f (xs.eraseIdx i)) R) (hx : xs[i]? = some x) (e : Ent (bigs f xs :: R) M) : Ent L M :=
  ⟨fun h hs => e.to h ((bigs_back hx).to _ (seps_tail h2.to (h1.to _ hs)))⟩
theorem ent_set {α : Type} {f : α → SP} {xs : List α} {i : Nat} {x : α} (x' : α) {L1 M : List SP} (h1 : Has L (f x') L1) (h2 : Has L1 (bigs f (xs.eraseIdx i)) R) (hx : xs[i]? = some x) (e : Ent (bigs f (xs.set i x') :: R) M) : Ent L M :=
  ⟨fun h hs => e.to h ((bigs_set hx).to _ (seps_tail h2.to (h1.to _ hs)))⟩
theorem ent_snoc {α : Type} (f : α → SP) {xs : List α} (x : α) {L1 M : List SP} (h1 : Has L (bigs f xs) L1) (h2 : Has L1 (f x) R) (e : Ent (bigs f (xs ++ [x]) :: R) M) : Ent L M :=
  ⟨fun h hs => e.to h (bigs_snoc.to _ (seps_tail h2.to (h1.to _ hs)))⟩
theorem ent_tail {A : SP} {M N : List SP} (e : Ent M N) : Ent (A :: M) (A :: N) := ⟨fun h hs => seps_tail e.to hs⟩
/-- One of a row is taken out, and put back. -/
theorem runM_get {α : Type} {f : α → SP} {xs : List α} {i : Nat} {x : α} (hh : Has L (bigs f xs) R) (hx : xs[i]? = some x) (h : RunM P w0 n false ops rest K (f x :: bigs f (xs.eraseIdx i) :: R) Q) : RunM P w0 n false ops rest K L Q :=
  fun a w fr c => h a w fr ⟨c.env, (bigs_get hx).to _ (hh.to _ c.sat)⟩
theorem runM_set {α : Type} {f : α → SP} {xs : List α} {i : Nat} {x : α} (x' : α) {L1 : List SP} (h1 : Has L (f x') L1) (h2 : Has L1 (bigs f (xs.eraseIdx i)) R) (hx : xs[i]? = some x) (h : RunM P w0 n false ops rest K (bigs f (xs.set i x') :: R) Q) : RunM P w0 n false ops rest K L Q :=
  fun a w fr c => h a w fr ⟨c.env, (bigs_set hx).to _ (seps_tail h2.to (h1.to _ c.sat))⟩
theorem out_set {α : Type} {f : α → SP} {xs : List α} {i : Nat} {x : α} (x' : α) {e : Exit} {L1 : List SP} (h1 : Has L (f x') L1) (h2 : Has L1 (bigs f (xs.eraseIdx i)) R) (hx : xs[i]? = some x) (h : Out w0 n e K (bigs f (xs.set i x') :: R) Q) : Out w0 n e K L Q :=
  fun a w fr c => h a w fr ⟨c.env, (bigs_set hx).to _ (seps_tail h2.to (h1.to _ c.sat))⟩
theorem set_same {α : Type} {xs : List α} {i : Nat} {x : α} (hx : xs[i]? = some x) : xs.set i x = xs := by
  apply List.ext_getElem?
  intro j
  rw [List.getElem?_set]
  by_cases e1 : i = j
  · subst e1
    have : i < xs.length := (List.getElem?_eq_some_iff.1 hx).1
    rw [if_pos rfl, if_pos this, hx]
  · simp [e1]
/-- A fact that A bears. -/
theorem run_fact {A : SP} {φ : Prop} {c : Code} (hA : ∀ h, A h → φ) (hh : Has L A R) (h : φ → Run P w0 n c K L Q) : Run P w0 n c K L Q := fun a w f hc => by
  obtain ⟨h1, hA1, _⟩ := seps_hd (hc.sat.has hh)
  exact h (hA _ hA1) a w f hc
theorem runM_fact {A : SP} {φ : Prop} (hA : ∀ h, A h → φ) (hh : Has L A R) (h : φ → RunM P w0 n false ops rest K L Q) : RunM P w0 n false ops rest K L Q := fun a w f hc => by
  obtain ⟨h1, hA1, _⟩ := seps_hd (hc.sat.has hh)
  exact h (hA _ hA1) a w f hc
end

/-! ### 3. Memory that is read alone -/
def icell (I : Hp) (a : Addr) : Option Value := match I a.block with
  | some (.cells c _ _) => if a.spot.isSome then none else c[a.off]?
  | _ => none
theorem icell_world {w : World} {I : Hp} {L R : List SP} (s : Sat L w) (h : Has L (eqh I) R) {a : Addr} {v : Value} (hc : icell I a = some v) : w.cell? a = some v := by
  unfold icell at hc
  split at hc
  · rename_i c e fr hb
    have : w.heap[a.block]? = some (.cells c e fr) := seps_eqh (s.has h) hb
    simp only [World.cell?, this]
    exact hc
  · cases hc
/-- A slice that I holds: len elements from A on. -/
def isl {α : Type} (E : Enc α) (I : Hp) (A : Option Addr) (xs : List α) : Prop := ∀ k x, xs[k]? = some x → ∃ a, A = some a ∧ ∀ j v, (E.f x)[j]? = some v → icell I (a.add (k * E.sz + j)) = some v
def Hp.le (I J : Hp) : Prop := ∀ b o, I b = some o → J b = some o
theorem icell_le {I J : Hp} (h : Hp.le I J) {a : Addr} {v : Value} (hc : icell I a = some v) : icell J a = some v := by
  unfold icell at hc ⊢
  split at hc
  · rename_i c e fr hb
    rw [h _ _ hb]
    exact hc
  · cases hc
theorem isl_le {α : Type} {E : Enc α} {I J : Hp} (h : Hp.le I J) {A : Option Addr} {xs : List α} (hc : isl E I A xs) : isl E J A xs := fun k x hk => by
  obtain ⟨a, e, h1⟩ := hc k x hk
  exact ⟨a, e, fun j v hj => icell_le h (h1 j v hj)⟩
theorem addr_add (a : Addr) (i j : Nat) (h : i + j ≠ 0) : a.add (i + j) = { a with off := a.off + (i + j), spot := none } := by
  unfold Addr.add; rw [if_neg h]
theorem add_add (a : Addr) (i j : Nat) : (a.add i).add j = a.add (i + j) := by
  unfold Addr.add
  by_cases h1 : i = 0
  · subst h1; simp
  · by_cases h2 : j = 0
    · subst h2; simp
    · simp [h1, h2, Nat.add_assoc]
section
variable {α : Type} {E : Enc α} {P : Program} {w0 : World} {n : Nat} {K : Ks} {L R : List SP} {Q : Qt} {m : Bool} {ops : Array Oper} {rest : List Oper} {ty : TypeId} {pos : String} {af : Array Edge} {d : Nat} {I : Hp} {A : Option Addr} {xs : List α}
theorem flat_idx (xs : List α) : ∀ (i : Nat) (v : Value), (xs.flatMap E.f)[i]? = some v → ∃ k x j, xs[k]? = some x ∧ (E.f x)[j]? = some v ∧ i = k * E.sz + j := by
  induction xs with
  | nil => intro i v h; simp at h
  | cons x xs ih =>
    intro i v h
    simp only [List.flatMap_cons] at h
    rcases Nat.lt_or_ge i (E.f x).length with h1 | h1
    · rw [List.getElem?_append_left h1] at h
      exact ⟨0, x, i, rfl, h, by omega⟩
    · rw [List.getElem?_append_right h1] at h
      obtain ⟨k, y, j, e1, e2, e3⟩ := ih _ v h
      refine ⟨k + 1, y, j, by simpa using e1, e2, ?_⟩
      rw [E.len] at h1 e3
      rw [Nat.add_mul]
      omega
/-- It can be appended. -/
theorem rd_isl (hh : Has L (eqh I) R) (hI : isl E I A xs) : ∀ ad, A = some ad → Rd L ad (xs.flatMap E.f) := fun ad hA w s i v hi => by
  obtain ⟨k, x, j, e1, e2, rfl⟩ := flat_idx xs i v hi
  obtain ⟨a, e, h1⟩ := hI k x e1
  obtain rfl : ad = a := by rw [hA] at e; exact Option.some.inj e
  exact icell_world s hh (h1 j v e2)
/-- An element's place: its address as it is. -/
def iat (A : Option Addr) (k : Nat) : Addr := (A.getD ⟨0, 0, none⟩).add k
theorem q_indexAddr_i {t e sz by_ len cap : Nat} {x y : Operand} {k : IntKind} {i : Int} [ht : TSlice P t e sz by_] (hx : ev K x = some (.slice A len cap)) (hy : ev K y = some (.int k i)) (hI : isl E I A xs) (hl : len = xs.length)
    (h0 : 0 ≤ i ∧ i.toNat < xs.length) : QOp P w0 n (.indexAddr t x y) K L (.pointer (some (iat A (i.toNat * sz)))) := fun d ty pos af g a w f c => by
  subst hl
  obtain ⟨ad, rfl, _⟩ := hI i.toNat _ (List.getElem?_eq_getElem h0.2)
  have hk := ht.ok
  unfold tsliceB at hk
  split at hk
  · rename_i e' hu
    simp only [Bool.and_eq_true, beq_iff_eq] at hk
    obtain ⟨rfl, hk2⟩ := hk
    cases hi : P.info? e' with
    | none => simp [hi] at hk2
    | some inf =>
      have hsz : inf.size = sz ∧ inf.bytes = by_ := by simpa [hi] using hk2
      have h1 : i < xs.length := by omega
      simp [execOp, f.eval hx, f.eval hy, Instr.indexAt, asIntOf, run_underlying hu, sizeOf, typeInfo, hi, hsz.1, h0.1, h1, iat]
  · cases hk
theorem m_load_iel {t s k sz : Nat} {x : Operand} [ht : TAgg P t s] (hd : Nat.ble (d + 1) n = true) (hx : ev K x = some (.pointer (some (iat A (k * sz))))) (hh : Has L (eqh I) R) (hI : isl E I A xs) (hz : E.sz = sz) (hs : s = sz) (hk : k < xs.length)
    (h : ∀ a, xs[k]? = some a → RunM P w0 n m ops rest ((d, .agg (E.f a).toArray) :: K) L Q) : RunM P w0 n m ops (⟨some d, .load t x, ty, pos, af, none⟩ :: rest) K L Q := by
  subst hz hs
  refine runM_q hd (v := .agg (E.f xs[k]).toArray) (fun d ty pos af g a w f c => ?_) (h _ (List.getElem?_eq_getElem hk))
  obtain ⟨ad, rfl, h1⟩ := hI k _ (List.getElem?_eq_getElem hk)
  have hl : (loadCells (iat (some ad) (k * E.sz)) (E.f xs[k]).length).run P w = .ok (E.f xs[k]).toArray w := run_loadCells_list w _ _ fun j v hj => by
    unfold iat
    rw [Option.getD_some, add_add]
    exact icell_world c.sat hh (h1 j v hj)
  rw [E.len] at hl
  have h2 : (loadVar t (iat (some ad) (k * E.sz))).run P w = .ok (.agg (E.f xs[k]).toArray) w := by
    simp [loadVar, run_isAgg_t ht.ok, run_size_agg ht.ok, hl]
  simp [execOp, f.eval hx, Instr.loadAt, Instr.sureAddr, h2]
theorem m_load_iel1 {t k : Nat} {x : Operand} {v : α → Value} [ht : TCell P t] (hd : Nat.ble (d + 1) n = true) (hx : ev K x = some (.pointer (some (iat A (k * 1))))) (hh : Has L (eqh I) R) (hI : isl E I A xs) (hz : E.sz = 1) (hk : k < xs.length) (hv : ∀ a, (E.f a)[0]? = some (v a))
    (h : ∀ a, xs[k]? = some a → RunM P w0 n m ops rest ((d, v a) :: K) L Q) : RunM P w0 n m ops (⟨some d, .load t x, ty, pos, af, none⟩ :: rest) K L Q := by
  refine runM_q hd (v := v xs[k]) (fun d ty pos af g a w f c => ?_) (h _ (List.getElem?_eq_getElem hk))
  obtain ⟨ad, rfl, h1⟩ := hI k _ (List.getElem?_eq_getElem hk)
  have h2 := h1 0 _ (hv _)
  rw [hz, Nat.add_zero] at h2
  have h3 : w.cell? (iat (some ad) (k * 1)) = some (v xs[k]) := icell_world c.sat hh h2
  have h4 : (loadVar t (iat (some ad) (k * 1))).run P w = .ok (v xs[k]) w := by
    simp only [loadVar, Sem.run_bind, run_isAgg_f ht.ok, Result.andThen_ok, Bool.false_eq_true, if_false, run_load, h3]
  simp only [execOp, f.eval hx, Instr.loadAt, Instr.sureAddr, Sem.run_bind, Sem.run_pure, Result.andThen_ok, h4]
end
end Go.Sl
