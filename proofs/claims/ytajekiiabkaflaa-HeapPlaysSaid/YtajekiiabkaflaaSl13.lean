/-
  Regions that draw their order, by a plan: which operation is taken next; reads of what stays (L0), and operations that come up alone. Program-independent. Conditions: none.
-/
import Derived.Test.YtajekiiabkaflaaSl12
set_option linter.unusedVariables false
set_option linter.unusedSimpArgs false
set_option linter.unusedSectionVars false
namespace Go.Sl
attribute [local semireducible] Run Out RunM QOp RunD
theorem ent_any {L : List SP} : Ent L [] := ⟨fun _ _ => trivial⟩
def mark (N : Nat) : List Nat → Array Bool
  | [] => Array.replicate N false
  | k :: s => (mark N s).setIfInBounds k true
def takeX (ops : Array Oper) (seen : List Nat) (k : Nat) : Bool := (Region.ready .any ops (mark ops.size seen)).contains k && Region.free .any ops (mark ops.size seen) k
def onlyX (ops : Array Oper) (seen : List Nat) (k : Nat) : Bool := decide (Region.ready .any ops (mark ops.size seen) = [k])
section
variable (P : Program) (w0 : World) (n : Nat)
@[irreducible] def RunX (ops : Array Oper) (L0 : List SP) (seen todo : List Nat) (K : Ks) (L : List SP) (Q : Qt) : Prop :=
  Region.noSelect ops = true → Closed .any ops (mark ops.size seen) → ∀ a w, Fr n K a → Cl w0 L w → Cl w0 L0 w → AnyD P .any ops (NoP Q) (Cl w0 L0) [] todo.length (mark ops.size seen) a w
end
attribute [local semireducible] RunX
section
variable {P : Program} {w0 : World} {n : Nat} {K : Ks} {L L0 R : List SP} {Q : Qt} {ops : Array Oper} {ty : TypeId} {pos : String} {af : Array Edge} {seen todo : List Nat} {k d : Nat}
/-- L0: what the reads lean on, and what every operation leaves. -/
theorem run_region_x {id : Nat} {l : List Oper} (todo : List Nat) (L0 : List SP) (hm : P.follows .mixedOrders = true) (hB : Region.noSelect l.toArray = true) (hl : Nat.beq todo.length l.length = true) (h0 : Ent L L0) (h : RunX P w0 n l.toArray L0 [] todo K L Q) :
    Run P w0 n (.region id l.toArray true) K L Q := fun a w f c => by
  refine Code.wp_mono NoP.imp (wp_region_any hm ?_)
  have := h hB (fun j oj _ hl => by rw [show mark l.toArray.size [] = Array.replicate _ false from rfl, getD_replicate_false] at hl; cases hl) a { w with drawn := w.drawn + 1 } f ⟨c.env.drew, c.sat⟩ ⟨c.env.drew, (c.to h0.to).sat⟩
  rw [show l.toArray.size = todo.length by rw [List.size_toArray]; exact (Nat.eq_of_beq_eq_true hl).symm]
  have h2 := AnyD.any _ _ _ _ this
  rwa [show mark l.toArray.size [] = Array.replicate todo.length false by unfold mark; rw [List.size_toArray, Nat.eq_of_beq_eq_true hl]] at h2
theorem takeX_ready (h : takeX ops seen k = true) : k ∈ Region.ready .any ops (mark ops.size seen) ∧ Region.free .any ops (mark ops.size seen) k = true := by
  unfold takeX at h
  simp only [Bool.and_eq_true] at h
  exact ⟨by simpa using h.1, h.2⟩
theorem runX_yields {o : Oper} {v : Value} (h0 : ops[k]? = some o) (ht : takeX ops seen k = true) (hy : ∀ a, Fr n K a → YieldsIf P ops (Cl w0 L0) o v a)
    {K' : Ks} (hf : ∀ a, Fr n K a → Fr n K' (a.put o.dst v)) (h : RunX P w0 n ops L0 (k :: seen) todo K' L Q) : RunX P w0 n ops L0 seen (k :: todo) K L Q := fun hs hc a w f c c0 => by
  obtain ⟨hr, hfr⟩ := takeX_ready ht
  exact AnyD.first (S := Cl w0 L0) h0 (Region.noSelect_spec hs) (fun _ _ _ h => h) todo.length _ a w (Region.free_spec h0 hfr) hc (.inr ⟨rfl, fun d hd => by cases hd⟩) hr (hy a f) c0
    (h hs (hc.set hr) _ w (hf a f) c c0)
/-- A read of what stays, or a pure operation. -/
theorem runX_r {op : Op} {v : Value} (h0 : ops[k]? = some ⟨some d, op, ty, pos, af, none⟩) (hd : Nat.ble (d + 1) n = true) (hq : QOp P w0 n op K L0 v) (ht : takeX ops seen k = true) (h : RunX P w0 n ops L0 (k :: seen) todo ((d, v) :: K) L Q) :
    RunX P w0 n ops L0 seen (k :: todo) K L Q :=
  runX_yields h0 ht (fun a f => .inl ⟨rfl, fun w c => hq (some d) ty pos af none a w f c⟩) (fun a f => f.put hd) h
theorem runX_g {op : Op} {v : Value} {j : Nat} {b : Bool} (h0 : ops[k]? = some ⟨some d, op, ty, pos, af, some (j, b)⟩) (hd : Nat.ble (d + 1) n = true) (hy : yl ops K j = some b) (hq : QOp P w0 n op K L0 v) (ht : takeX ops seen k = true) (h : RunX P w0 n ops L0 (k :: seen) todo ((d, v) :: K) L Q) :
    RunX P w0 n ops L0 seen (k :: todo) K L Q :=
  runX_yields h0 ht (fun a f => .inl ⟨by simp [Region.wanted, yl_yielded f hy], fun w c => hq (some d) ty pos af _ a w f c⟩) (fun a f => f.put hd) h
theorem runX_skip {op : Op} {j : Nat} {b b' : Bool} (h0 : ops[k]? = some ⟨some d, op, ty, pos, af, some (j, b)⟩) (hd : Nat.ble (d + 1) n = true) (hy : yl ops K j = some b') (hb : (b' == b) = false) (ht : takeX ops seen k = true) (h : RunX P w0 n ops L0 (k :: seen) todo ((d, undef) :: K) L Q) :
    RunX P w0 n ops L0 seen (k :: todo) K L Q :=
  runX_yields h0 ht (fun a f => .inr ⟨by simp [Region.wanted, yl_yielded f hy]; simpa using hb, rfl⟩) (fun a f => f.put hd) h
/-- The ways out of one operation that comes up alone. -/
def XQ (P : Program) (w0 : World) (n : Nat) (ops : Array Oper) (L0 : List SP) (seen todo : List Nat) (Q : Qt) : Qt := fun e a w => match e with
  | .normal => Cl w0 L0 w ∧ AnyD P .any ops (NoP Q) (Cl w0 L0) [] todo.length (mark ops.size seen) a w
  | e => NoP Q e a w
theorem upon_XQ {o : Oper} {a : Act} {r : Result Next} {Z : Act → World → Prop} (h : o.upon P a Z (XQ P w0 n ops L0 seen todo Q) r) : o.upon P a Z (NoP Q) r := by
  have hl : LetsOut (XQ P w0 n ops L0 seen todo Q) → LetsOut (NoP Q) := fun ⟨a, w, h⟩ => ⟨a, w, h⟩
  unfold Oper.upon at h ⊢
  split at h
  · exact h
  · exact h
  · exact h
  · refine h.mono fun e w' h' => ?_
    cases e with
    | returned v => exact h'
    | panicked c => exact h'
    | outgrown => exact hl h'
  · exact h
  · exact h
  · exact h
/-- An operation that comes up alone. -/
theorem runX_e' {o : Oper} (h0 : ops[k]? = some o) (hB : onlyX ops seen k = true) (h : Region.noSelect ops = true → Closed .any ops (mark ops.size (k :: seen)) → RunM P w0 n false ops [o] K L (XQ P w0 n ops L0 (k :: seen) todo Q)) : RunX P w0 n ops L0 seen (k :: todo) K L Q := fun hs hc a w f c c0 => by
  have hr : Region.ready .any ops (mark ops.size seen) = [k] := by simpa [onlyX] using hB
  have hc' : Closed .any ops (mark ops.size (k :: seen)) := hc.set (i := k) (by rw [hr]; simp)
  refine ⟨fun h1 => (by rw [hr] at h1; cases h1), fun i hi => ?_⟩
  rw [hr] at hi
  obtain rfl : i = k := by simpa using hi
  have h1 := h hs hc' a w f c
  unfold wpList at h1
  unfold wpOp
  simp only [h0]
  have key : ∀ a' w', wpList P ops (XQ P w0 n ops L0 (i :: seen) todo Q) [] a' w' → ((i ∉ ([] : List Nat) → Cl w0 L0 w → Cl w0 L0 w') ∧ AnyD P .any ops (NoP Q) (Cl w0 L0) [] todo.length ((mark ops.size seen).setIfInBounds i true) a' w') := fun a' w' h => ⟨fun _ _ => h.1, h.2⟩
  split at h1
  · rename_i hw
    rw [if_pos hw]
    rcases h1 with h1 | ⟨h1, h2⟩
    · have h3 := upon_XQ h1
      exact .inl (Oper.wp_mono key h3)
    · exact .inr ⟨h1, h2⟩
  · rename_i hw
    rw [if_neg hw]
    exact key _ _ h1
theorem runX_e {d : Option Nat} {op : Op} {g : Option (Nat × Bool)} (h0 : ops[k]? = some ⟨d, op, ty, pos, af, g⟩) (hB : onlyX ops seen k = true) (h : Region.noSelect ops = true → Closed .any ops (mark ops.size (k :: seen)) → RunM P w0 n false ops [⟨d, op, ty, pos, af, g⟩] K L (XQ P w0 n ops L0 (k :: seen) todo Q)) : RunX P w0 n ops L0 seen (k :: todo) K L Q := runX_e' h0 hB h
theorem out_x (hs : Region.noSelect ops = true) (hc : Closed .any ops (mark ops.size seen)) (h0 : Ent L L0) (h : RunX P w0 n ops L0 seen todo K L Q) : Out w0 n .normal K L (XQ P w0 n ops L0 seen todo Q) := fun a w f c => ⟨c.to h0.to, h hs hc a w f c (c.to h0.to)⟩
theorem runX_nil (hB : (Region.ready .any ops (mark ops.size seen)).isEmpty = true) (h : Out w0 n .normal K L (NoP Q)) : RunX P w0 n ops L0 seen [] K L Q := fun hs hc a w f c c0 => ⟨by simpa using hB, h a w f c⟩
end
section
variable {α : Type} {E : Enc α} {P : Program} {w0 : World} {n : Nat} {K : Ks} {L R : List SP} {Q : Qt} {ops : Array Oper} {rest : List Oper} {ty : TypeId} {pos : String} {af : Array Edge} {A : Option Addr} {xs : List α} {e cap : Nat}
/-- An element of one cell is written. -/
theorem w_store_el1 {t k : Nat} {x y : Operand} {v : Value} (a' : α) [ht : TCell P t] (hx : ev K x = some (.pointer (some ⟨bk A, k * 1, none⟩))) (hy : ev K y = some v) (hh : Has L (sl E e A cap xs) R) (hz : E.sz = 1) (hk : k < xs.length) (hu : E.f a' = [v])
    (h : RunM P w0 n false ops rest K (sl E e A cap (xs.set k a') :: R) Q) : RunM P w0 n false ops (⟨none, .store t x y, ty, pos, af, none⟩ :: rest) K L Q := by
  have h1 : v.oneCell' = true := by
    have := E.one a'
    rw [hu] at this
    simpa using this
  refine w_store_elc (j := 0) (v := v) (up := fun _ => a') (by simpa using hx) hy hh hz hk h1 rfl (fun a => ?_) (fun _ _ => h)
  have hl := E.len a
  rw [hz] at hl
  rw [hu]
  match hm : E.f a, hl with
  | [u], _ => rfl
end
/-! ### Two that come up together; paths that meet -/
def twoX (ops : Array Oper) (seen : List Nat) (i j : Nat) : Bool := decide (Region.ready .any ops (mark ops.size seen) = [i, j])
section
variable {P : Program} {w0 : World} {n : Nat} {K : Ks} {L L0 R : List SP} {Q : Qt} {ops : Array Oper} {seen todo : List Nat} {k d : Nat}
/-- Two come up together: either may be the next. -/
theorem runX_2 {i j : Nat} {ty ty' : TypeId} {pos pos' : String} {af af' : Array Edge} {d d' : Option Nat} {op op' : Op} {g g' : Option (Nat × Bool)} (t1 t2 : List Nat) (h0 : ops[i]? = some ⟨d, op, ty, pos, af, g⟩) (h0' : ops[j]? = some ⟨d', op', ty', pos', af', g'⟩) (hB : twoX ops seen i j = true) (hl : Nat.beq todo.length (t1.length + 1) = true) (hl' : Nat.beq todo.length (t2.length + 1) = true)
    (h : Region.noSelect ops = true → Closed .any ops (mark ops.size (i :: seen)) → RunM P w0 n false ops [⟨d, op, ty, pos, af, g⟩] K L (XQ P w0 n ops L0 (i :: seen) t1 Q))
    (h' : Region.noSelect ops = true → Closed .any ops (mark ops.size (j :: seen)) → RunM P w0 n false ops [⟨d', op', ty', pos', af', g'⟩] K L (XQ P w0 n ops L0 (j :: seen) t2 Q)) : RunX P w0 n ops L0 seen todo K L Q := fun hs hc a w f c c0 => by
  have hr : Region.ready .any ops (mark ops.size seen) = [i, j] := by simpa [twoX] using hB
  rw [Nat.eq_of_beq_eq_true hl]
  have hl2 : t1.length = t2.length := by
    have h1 := Nat.eq_of_beq_eq_true hl
    have h2 := Nat.eq_of_beq_eq_true hl'
    omega
  refine ⟨fun h1 => (by rw [hr] at h1; cases h1), fun q hq => ?_⟩
  have step : ∀ {q : Nat} {o : Oper} {td : List Nat}, ops[q]? = some o → RunM P w0 n false ops [o] K L (XQ P w0 n ops L0 (q :: seen) td Q) →
      wpOp P ops (NoP Q) q (fun a' w' => (q ∉ ([] : List Nat) → Cl w0 L0 w → Cl w0 L0 w') ∧ AnyD P .any ops (NoP Q) (Cl w0 L0) [] td.length ((mark ops.size seen).setIfInBounds q true) a' w') a w := by
    intro q o td h0 hM
    have h1 := hM a w f c
    unfold wpList at h1
    unfold wpOp
    simp only [h0]
    have key : ∀ a' w', wpList P ops (XQ P w0 n ops L0 (q :: seen) td Q) [] a' w' → ((q ∉ ([] : List Nat) → Cl w0 L0 w → Cl w0 L0 w') ∧ AnyD P .any ops (NoP Q) (Cl w0 L0) [] td.length ((mark ops.size seen).setIfInBounds q true) a' w') := fun a' w' h => ⟨fun _ _ => h.1, h.2⟩
    split at h1
    · rename_i hw
      rw [if_pos hw]
      rcases h1 with h1 | ⟨h1, h2⟩
      · have h3 := upon_XQ h1
        exact .inl (Oper.wp_mono key h3)
      · exact .inr ⟨h1, h2⟩
    · rename_i hw
      rw [if_neg hw]
      exact key _ _ h1
  have hcl : ∀ q, q ∈ Region.ready .any ops (mark ops.size seen) → Closed .any ops (mark ops.size (q :: seen)) := fun q hq => hc.set (i := q) hq
  rw [hr] at hq
  rcases List.mem_cons.1 hq with rfl | hq
  · exact step h0 (h hs (hcl _ (by rw [hr]; simp)))
  · obtain rfl : q = j := by simpa using hq
    rw [hl2]
    exact step h0' (h' hs (hcl _ (by rw [hr]; simp)))
/-- The ways out that meet at M. -/
def MidQ (w0 : World) (n : Nat) (M : Ks → List SP → Prop) (Q : Qt) : Qt := fun e a w => match e with
  | .normal => ∃ K L, M K L ∧ Fr n K a ∧ Cl w0 L w
  | e => Q e a w
theorem run_mid {c : Code} (M : Ks → List SP → Prop) (h1 : Run P w0 n c K L (MidQ w0 n M Q)) (h2 : ∀ K' L', M K' L' → Out w0 n .normal K' L' Q) : Run P w0 n c K L Q := fun a w f hc => by
  refine Code.wp_mono (fun e a w h => ?_) (h1 a w f hc)
  cases e with
  | normal => obtain ⟨K', L', hM, f', c'⟩ := h; exact h2 K' L' hM a w f' c'
  | exit _ => exact h
  | goto _ => exact h
  | ret => exact h
  | panic _ => exact h
  | outgrown => exact h
theorem out_mid {M : Ks → List SP → Prop} (K' : Ks) (L' : List SP) (s : subK K' K) (t : Ent L L') (hM : M K' L') : Out w0 n .normal K L (MidQ w0 n M Q) := fun a w f c => ⟨K', L', hM, f.sub s, c.to t.to⟩
end
section
variable {P : Program} {w0 : World} {n : Nat} {K : Ks} {L : List SP} {x y : Operand} {t t' e : TypeId} {ad : Addr}
theorem q_eql_p0 [hu : TUnd P t (.pointer e)] (hx : ev K x = some (.pointer none)) (hy : ev K y = some (.pointer none)) : QOp P w0 n (.binOp .eql t x y t') K L (.bool true) := q_eql_pn hx hy
theorem q_eql_p1 [hu : TUnd P t (.pointer e)] (hx : ev K x = some (.pointer (some ad))) (hy : ev K y = some (.pointer none)) : QOp P w0 n (.binOp .eql t x y t') K L (.bool false) := q_eql_pn hx hy
theorem q_neq_p0 [hu : TUnd P t (.pointer e)] (hx : ev K x = some (.pointer none)) (hy : ev K y = some (.pointer none)) : QOp P w0 n (.binOp .neq t x y t') K L (.bool false) := q_neq_pn hx hy
theorem q_neq_p1 [hu : TUnd P t (.pointer e)] (hx : ev K x = some (.pointer (some ad))) (hy : ev K y = some (.pointer none)) : QOp P w0 n (.binOp .neq t x y t') K L (.bool true) := q_neq_pn hx hy
end
/-! ### Guards that were not reached -/
section
variable {P : Program} {w0 : World} {n : Nat} {K : Ks} {L : List SP} {Q : Qt} {m : Bool} {ops : Array Oper} {rest : List Oper} {ty : TypeId} {pos : String} {af : Array Edge} {d : Nat}
def ylN (ops : Array Oper) (K : Ks) (j : Nat) : Bool :=
  match (ops[j]?).bind (·.dst) with
  | some d => match look K d with
    | some (.tuple _) => true
    | _ => false
  | none => false
theorem ylN_yielded {a : Act} (f : Fr n K a) {j : Nat} (h : ylN ops K j = true) : yielded ops a.tmps j = none := by
  unfold ylN at h
  unfold yielded
  split at h
  · rename_i d e
    rw [e]
    split at h
    · rename_i b' e'
      simp [f.slots d _ e']
    · cases h
  · cases h
theorem runM_skip_n {op : Op} {j : Nat} {b : Bool} (hd : Nat.ble (d + 1) n = true) (hy : ylN ops K j = true) (h : RunM P w0 n m ops rest ((d, undef) :: K) L Q) :
    RunM P w0 n m ops (⟨some d, op, ty, pos, af, some (j, b)⟩ :: rest) K L Q := by
  cases m
  · intro a w f c
    unfold wpList
    rw [if_neg (by simp [Region.wanted, ylN_yielded f hy])]
    exact h _ _ (f.put hd) c
  · intro a f
    unfold wpQuiet
    rw [if_neg (by simp [Region.wanted, ylN_yielded f hy])]
    exact h _ (f.put hd)
end
end Go.Sl
